import Derived.Test.YtkghejleififiaaAsName2
namespace Go.Proofs.Ytkghejleififiaa.AS
open Go
set_option linter.unusedSectionVars false
set_option linter.unusedVariables false
set_option linter.unusedSimpArgs false

def same1 : Value → Value → Bool
  | .agg a, .agg b => listB same a.toList b.toList
  | a, b => same a b
theorem listB_eq {f : Value → Value → Bool} (hf : ∀ a b, f a b = true → a = b) : ∀ {l m : List Value}, listB f l m = true → l = m
  | [], [], _ => rfl
  | [], _ :: _, h => by simp [listB] at h
  | _ :: _, [], h => by simp [listB] at h
  | a :: l, b :: m, h => by
    simp only [listB, Bool.and_eq_true] at h
    rw [hf _ _ h.1, listB_eq hf h.2]
theorem same1_eq {a b : Value} (h : same1 a b = true) : a = b := by
  unfold same1 at h
  split at h
  · rename_i x y
    exact congrArg Value.agg (Array.toList_inj.1 (listB_eq (fun a b q => same_eq q) h))
  · exact same_eq h

def rowsB (f : Value → Value → Bool) : List (Value × Value) → List (Value × Value) → Bool
  | [], [] => true
  | (k, v) :: l, (k', v') :: m => flat1 k && same1 k k' && f v v' && rowsB f l m
  | _, _ => false

def obB (π : List (Option Nat)) (θ : List Value) (n : Nat) : Ob → Ob → Bool
  | .blk cs u ro, .blk cs' u' ro' => Nat.beq u u' && (ro == ro') && listB (vmB π θ n) cs cs'
  | .mp es, .mp es' => rowsB (vmB π θ n) es es'
  | _, _ => false

def memB (π : List (Option Nat)) (θ : List Value) (n : Nat) (σc σ : St) : Bool :=
  (List.range π.length).all fun b =>
    match piOf π b with
    | none => true
    | some b' =>
      match σc.get b with
      | none => true
      | some oc => match σ.get b' with | none => false | some o => obB π θ n oc o

def injB : List (Option Nat) → Bool
  | [] => true
  | none :: l => injB l
  | some x :: l => !(l.any fun y => match y with | some z => Nat.beq x z | none => false) && injB l

theorem piOf_zero {x : Option Nat} {l : List (Option Nat)} : piOf (x :: l) 0 = x := by cases x <;> rfl
theorem piOf_succ {x : Option Nat} {l : List (Option Nat)} {b : Nat} : piOf (x :: l) (b + 1) = piOf l b := rfl
theorem piOf_mem {l : List (Option Nat)} {b x : Nat} (h : piOf l b = some x) : some x ∈ l := by
  unfold piOf at h
  cases hb : l[b]? with
  | none => rw [hb] at h; cases h
  | some y => rw [hb] at h; simp at h; subst h; exact List.mem_of_getElem? hb

theorem injB_inj {x : Nat} : ∀ {π : List (Option Nat)} {b b' : Nat}, injB π = true → piOf π b = some x → piOf π b' = some x → b = b' := by
  intro π
  induction π with
  | nil => intro b b' _ h; simp [piOf] at h
  | cons y l ih =>
    intro b b' hi h1 h2
    have hl : injB l = true := by
      cases y with
      | none => exact hi
      | some z => simp only [injB, Bool.and_eq_true] at hi; exact hi.2
    have hno : ∀ c, y = some x → piOf l c = some x → False := by
      intro c hy hc
      subst hy
      simp only [injB, Bool.and_eq_true, Bool.not_eq_true'] at hi
      have := List.any_eq_false.1 hi.1 (some x) (piOf_mem hc)
      simp only [beq_t rfl, not_true] at this
    cases b with
    | zero =>
      cases b' with
      | zero => rfl
      | succ c => rw [piOf_zero] at h1; rw [piOf_succ] at h2; exact (hno c h1 h2).elim
    | succ c =>
      cases b' with
      | zero => rw [piOf_zero] at h2; rw [piOf_succ] at h1; exact (hno c h2 h1).elim
      | succ d => rw [piOf_succ] at h1 h2; rw [ih hl h1 h2]

section
variable {S : Sym} {π : List (Option Nat)} {θ : List Value} {hθ : θ.all okθ = true} {ρ : Rho}

theorem VML.get {l m : List Value} (h : VML π θ l m) : ∀ {i : Nat} {v : Value}, l[i]? = some v → ∃ u, m[i]? = some u ∧ VM π θ v u := by
  induction l generalizing m with
  | nil => intro i v hi; simp at hi
  | cons x l ih =>
    intro i v hi
    cases h with
    | cons hx t =>
      cases i with
      | zero => simp at hi; subst hi; exact ⟨_, rfl, hx⟩
      | succ i => simp at hi; obtain ⟨u, h1, h2⟩ := ih t hi; exact ⟨u, by simpa using h1, h2⟩
theorem VML.length {l m : List Value} (h : VML π θ l m) : l.length = m.length := by
  induction l generalizing m with
  | nil => cases h; rfl
  | cons v l ih => cases h with | cons _ t => simp [ih t]

theorem rows_ml {n : Nat} : ∀ {l m : List (Value × Value)} {E : List MapEntry}, rowsB (vmB π θ n) l m = true → @ML S ρ m E → @ML (Sym.of S θ hθ) (ren π ρ) l E
  | [], [], _, _, hm => by cases hm; exact @ML.nil (Sym.of S θ hθ) _
  | [], _ :: _, _, h, _ => by simp [rowsB] at h
  | _ :: _, [], _, h, _ => by simp [rowsB] at h
  | (k, v) :: l, (k', v') :: m, _, h, hm => by
    simp only [rowsB, Bool.and_eq_true] at h
    obtain ⟨⟨⟨h1, h2⟩, h3⟩, h4⟩ := h
    have := same1_eq h2
    subst this
    cases hm with
    | cons hf hk hv t => exact @ML.cons (Sym.of S θ hθ) _ _ _ _ _ _ hf hk (VM.vr (vmB_vm n h3) hv) (rows_ml h4 t)

theorem obB_ob {n : Nat} {w : World} {l : Loc} {oc o : Ob} (h : obB π θ n oc o = true) (hr : @ObR S ρ w l o) : @ObR (Sym.of S θ hθ) (ren π ρ) w l oc ∧ writable oc = writable o := by
  cases oc with
  | blk cs u ro =>
    cases o with
    | mp es => simp [obB] at h
    | blk cs' u' ro' =>
      simp only [obB, Bool.and_eq_true, beq_iff_eq] at h
      obtain ⟨⟨h1, h2⟩, h3⟩ := h
      have := of_beq h1; subst this
      subst h2
      have hv : VML π θ cs cs' := listB_vml (fun a b q => vmB_vm n q) h3
      obtain ⟨q1, q2, q3, q4, C, t, fr, q5, q6, q7, q8⟩ := hr
      have hlen := hv.length
      refine ⟨⟨q1, q2, by rw [hlen]; exact q3, by rw [hlen]; exact q4, C, t, fr, q5, q6, q7, ?_⟩, rfl⟩
      intro i v hi
      obtain ⟨u2, k1, k2⟩ := hv.get hi
      obtain ⟨v', k3, k4⟩ := q8 i u2 k1
      exact ⟨v', k3, VM.vr k2 k4⟩
  | mp es =>
    cases o with
    | blk cs u ro => simp [obB] at h
    | mp es' =>
      obtain ⟨E, clk, q1, q2⟩ := hr
      exact ⟨⟨E, clk, q1, rows_ml h q2⟩, rfl⟩

/-- the memory, its blocks named anew -/
theorem HR.rename {n : Nat} {w : World} {σc σ : St} (hr : @HR S ρ σ w) (hm : memB π θ n σc σ = true) (hi : injB π = true) (hl : π.length ≤ σc.next) (hmk : σc.mark ≤ σc.next) :
    @HR (Sym.of S θ hθ) (ren π ρ) σc w := by
  have key : ∀ b oc l, σc.get b = some oc → ren π ρ b = some l → ∃ b' o, piOf π b = some b' ∧ ρ b' = some l ∧ σ.get b' = some o ∧ obB π θ n oc o = true := by
    intro b oc l h1 h2
    unfold ren at h2
    cases hp : piOf π b with
    | none => rw [hp] at h2; cases h2
    | some b' =>
      rw [hp] at h2
      have hb : b < π.length := by
        unfold piOf at hp
        cases hb : π[b]? with
        | none => rw [hb] at hp; cases hp
        | some y => exact (List.getElem?_eq_some_iff.1 hb).1
      have := List.all_eq_true.1 hm b (List.mem_range.2 hb)
      rw [hp] at this
      simp only [h1] at this
      split at this
      · cases this
      · rename_i o ho; exact ⟨b', o, rfl, h2, ho, this⟩
  refine @HR.mk (Sym.of S θ hθ) _ _ _ ?_ ?_ ?_ hmk
  · intro b oc l h1 h2
    obtain ⟨b', o, k1, k2, k3, k4⟩ := key b oc l h1 h2
    exact (obB_ob k4 (hr.ob b' o l k3 k2)).1
  · intro b b' o o' l l' hne h1 hw h2 h3 h4
    obtain ⟨c, p, k1, k2, k3, k4⟩ := key b o l h1 h3
    obtain ⟨c', p', j1, j2, j3, j4⟩ := key b' o' l' h2 h4
    have hcc : c ≠ c' := fun e => by subst e; exact hne (injB_inj hi k1 j1)
    refine hr.sep c c' p p' l l' hcc k3 ?_ j3 k2 j2
    rw [← (obB_ob (hθ := hθ) k4 (hr.ob c p l k3 k2)).2]; exact hw
  · intro b hb
    unfold ren piOf
    rw [List.getElem?_eq_none (by omega)]; rfl

theorem GR.rename {P : Program} (hg : GR P ρ) (h : ∀ g, g < P.globals.size → piOf π g = some g) : GR P (ren π ρ) := by
  intro g hgs
  obtain ⟨l, h1, h2⟩ := hg g hgs
  exact ⟨l, by simp [ren, h g hgs, h1], h2⟩
end
end Go.Proofs.Ytkghejleififiaa.AS
