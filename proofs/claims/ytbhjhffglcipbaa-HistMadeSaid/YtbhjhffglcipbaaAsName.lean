import Derived.Test.YtbhjhffglcipbaaAsKept
import Derived.Laws.Slices
namespace Go.Proofs.Ytbhjhffglcipbaa.AS
open Go
set_option linter.unusedSectionVars false
set_option linter.unusedVariables false
set_option linter.unusedSimpArgs false

/-- what a symbol may be told to stand for: a leaf, or a symbol -/
def okθ : Value → Bool
  | .chan (some _) => true
  | v => leaf v
def conc (S : Sym) : Value → Value
  | .chan (some j) => S.val j
  | v => v
theorem leaf_isCell {v : Value} (h : leaf v = true) : isCell v = true := by cases v <;> first | rfl | (simp [leaf] at h)

/-- symbols told anew -/
abbrev Sym.of (S : Sym) (θ : List Value) (h : θ.all okθ = true) : Sym where
  val i := conc S (θ.getD i (.int .i64 0))
  ext := S.ext
  cell i := by
    have hv : okθ (θ.getD i (.int .i64 0)) = true := by
      rw [List.getD_eq_getElem?_getD]
      cases hi : θ[i]? with
      | none => rfl
      | some v => exact List.all_eq_true.1 h v (List.mem_of_getElem? hi)
    generalize θ.getD i (.int .i64 0) = v at hv
    unfold okθ at hv
    split at hv
    · exact S.cell _
    · unfold conc
      split
      · exact S.cell _
      · exact leaf_isCell hv

def piOf (π : List (Option Nat)) (b : Nat) : Option Nat := (π[b]?).join
def ren (π : List (Option Nat)) (ρ : Rho) : Rho := fun b => (piOf π b).bind ρ

mutual
inductive VM (π : List (Option Nat)) (θ : List Value) : Value → Value → Prop
  | leaf {v : Value} (h : leaf v = true) : VM π θ v v
  | sym {i : Nat} {v : Value} (h : θ[i]? = some v) : VM π θ (.chan (some i)) v
  | ptr {a : Addr} {b : Nat} (hs : a.spot = none) (h : piOf π a.block = some b) : VM π θ (.pointer (some a)) (.pointer (some ⟨b, a.off, none⟩))
  | slice {a : Addr} {b n c : Nat} (hs : a.spot = none) (h : piOf π a.block = some b) : VM π θ (.slice (some a) n c) (.slice (some ⟨b, a.off, none⟩) n c)
  | map {r r' : Nat} (h : piOf π r = some r') : VM π θ (.map (some r)) (.map (some r'))
  | func {f : FuncId} {p c p' c' : Array Value} (hp : VML π θ p.toList p'.toList) (hc : VML π θ c.toList c'.toList) : VM π θ (.func (.func f) p c) (.func (.func f) p' c')
  | agg {cs cs' : Array Value} (h : VML π θ cs.toList cs'.toList) : VM π θ (.agg cs) (.agg cs')
  | tuple {cs cs' : Array Value} (h : VML π θ cs.toList cs'.toList) : VM π θ (.tuple cs) (.tuple cs')
  | junk {v : Value} : VM π θ (.chan none) v
inductive VML (π : List (Option Nat)) (θ : List Value) : List Value → List Value → Prop
  | nil : VML π θ [] []
  | cons {v v' : Value} {l l' : List Value} (h : VM π θ v v') (t : VML π θ l l') : VML π θ (v :: l) (v' :: l')
end

section
variable {S : Sym} {π : List (Option Nat)} {θ : List Value} {hθ : θ.all okθ = true} {ρ : Rho}

mutual
theorem VM.vr : ∀ {vc v v' : Value}, VM π θ vc v → @VR S ρ v v' → @VR (Sym.of S θ hθ) (ren π ρ) vc v'
  | _, _, v', .leaf h, hv => by
    have := @leaf_eq S ρ _ _ h hv
    subst this
    exact @VR.leaf (Sym.of S θ hθ) _ _ h
  | _, v, v', .sym (i := i) h, hv => by
    refine @VR.sym (Sym.of S θ hθ) _ i v' ?_
    show conc S (θ.getD i (.int .i64 0)) = v'
    have e : θ.getD i (.int .i64 0) = v := by rw [List.getD_eq_getElem?_getD, h]; rfl
    rw [e]
    have hv2 : okθ v = true := List.all_eq_true.1 hθ v (List.mem_of_getElem? h)
    unfold okθ at hv2
    split at hv2
    · cases hv with
      | leaf h => simp [leaf] at h
      | sym h => exact h
    · rename_i h1
      rw [@leaf_eq S ρ _ _ hv2 hv]
      unfold conc
      split
      · exact absurd rfl (h1 _)
      · rfl
  | _, _, v', .ptr (a := a) hs h, hv => by
    obtain ⟨p', rfl, hva⟩ := @VR.inv_ptr S _ _ _ hv
    obtain ⟨l, h1, h2, h3⟩ := hva.at_
    exact @VR.ptr (Sym.of S θ hθ) _ _ _ ⟨hs, hva.s', l, by simp [ren, h]; exact h1, h2, h3⟩
  | _, _, v', .slice (a := a) hs h, hv => by
    cases hv with
    | leaf h => simp [leaf] at h
    | slice hva hc =>
      obtain ⟨l, h1, h2, h3⟩ := hva.at_
      refine @VR.slice (Sym.of S θ hθ) _ _ _ _ _ _ ⟨hs, hva.s', l, by simp [ren, h]; exact h1, h2, h3⟩ ?_
      rcases hc with hc | ⟨l', q1, q2⟩
      · exact .inl hc
      · exact .inr ⟨l', by simp [ren, h]; exact q1, q2⟩
    | empty he =>
      obtain ⟨l, h1⟩ := he
      exact @VR.empty (Sym.of S θ hθ) _ _ _ ⟨l, by simp [ren, h]; exact h1⟩
  | _, _, v', .map h, hv => by
    cases hv with
    | leaf h => simp [leaf] at h
    | map hm => exact @VR.map (Sym.of S θ hθ) _ _ _ (by simp [ren, h]; exact hm)
  | _, _, v', .func hp hc, hv => by
    cases hv with
    | leaf h =>
      simp only [leaf, Bool.and_eq_true, beq_iff_eq] at h
      have e1 := Array.eq_empty_of_size_eq_zero h.1
      have e2 := Array.eq_empty_of_size_eq_zero h.2
      subst e1 e2
      exact @VR.func (Sym.of S θ hθ) _ _ _ _ _ _ (VML.vl hp (@VL.nil S ρ)) (VML.vl hc (@VL.nil S ρ))
    | func q1 q2 => exact @VR.func (Sym.of S θ hθ) _ _ _ _ _ _ (VML.vl hp q1) (VML.vl hc q2)
  | _, _, v', .agg h, hv => by
    cases hv with
    | leaf h => simp [leaf] at h
    | agg q => exact @VR.agg (Sym.of S θ hθ) _ _ _ (VML.vl h q)
  | _, _, v', .tuple h, hv => by
    cases hv with
    | leaf h => simp [leaf] at h
    | tuple q => exact @VR.tuple (Sym.of S θ hθ) _ _ _ (VML.vl h q)
  | _, _, _, .junk, hv => @VR.junk (Sym.of S θ hθ) _ _
theorem VML.vl : ∀ {vc v v' : List Value}, VML π θ vc v → @VL S ρ v v' → @VL (Sym.of S θ hθ) (ren π ρ) vc v'
  | _, _, _, .nil, hv => by cases hv; exact @VL.nil (Sym.of S θ hθ) _
  | _, _, _, .cons h t, hv => by
    cases hv with
    | cons q1 q2 => exact @VL.cons (Sym.of S θ hθ) _ _ _ _ _ (VM.vr h q1) (VML.vl t q2)
end
end
end Go.Proofs.Ytbhjhffglcipbaa.AS
namespace Go.Proofs.Ytbhjhffglcipbaa.AS
open Go
set_option linter.unusedSectionVars false
set_option linter.unusedVariables false
set_option linter.unusedSimpArgs false

/-- the same leaf, or the same symbol -/
def same : Value → Value → Bool
  | .bool a, .bool b => a == b
  | .int k a, .int j b => decide (k = j) && decide (a = b)
  | .float k a, .float j b => decide (k = j) && Nat.beq a b
  | .complex k a b, .complex j c d => decide (k = j) && Nat.beq a c && Nat.beq b d
  | .string a, .string b => decide (a.data.toList = b.data.toList)
  | .pointer none, .pointer none => true
  | .slice none a b, .slice none c d => Nat.beq a c && Nat.beq b d
  | .map none, .map none => true
  | .chan (some i), .chan (some j) => Nat.beq i j
  | .nilFunc, .nilFunc => true
  | .nilIface, .nilIface => true
  | _, _ => false

theorem same_eq {a b : Value} (h : same a b = true) : a = b := by
  unfold same at h
  split at h
  all_goals first
    | rfl
    | (rw [of_beq h]; done)
    | (simp only [Bool.and_eq_true, decide_eq_true_eq, beq_iff_eq] at h
       first
         | (rw [h]; done)
         | (obtain ⟨h1, h2⟩ := h; subst h1; subst h2; rfl)
         | (obtain ⟨h1, h2⟩ := h; subst h1; rw [of_beq h2])
         | (obtain ⟨⟨h1, h2⟩, h3⟩ := h; subst h1; rw [of_beq h2, of_beq h3])
         | (obtain ⟨h1, h2⟩ := h; rw [of_beq h1, of_beq h2])
         | (rw [of_beq h]))
    | (cases h; done)
    | skip
  all_goals
    (rename_i a b
     have h := of_decide_eq_true h
     have : a = b := by
       cases a; cases b
       congr 1
       exact Array.toList_inj.1 h
     rw [this])

def listB (f : Value → Value → Bool) : List Value → List Value → Bool
  | [], [] => true
  | a :: l, b :: m => f a b && listB f l m
  | _, _ => false

def vmB (π : List (Option Nat)) (θ : List Value) : Nat → Value → Value → Bool
  | 0, _, _ => false
  | n + 1, vc, v =>
    match vc, v with
    | .chan none, _ => true
    | .chan (some i), v => match θ[i]? with | some u => same u v | none => false
    | .pointer (some a), .pointer (some b) => (match piOf π a.block with | some x => Nat.beq x b.block | none => false) && Nat.beq a.off b.off && a.spot.isNone && b.spot.isNone
    | .slice (some a) n1 c1, .slice (some b) n2 c2 =>
      (match piOf π a.block with | some x => Nat.beq x b.block | none => false) && Nat.beq a.off b.off && a.spot.isNone && b.spot.isNone && Nat.beq n1 n2 && Nat.beq c1 c2
    | .map (some r), .map (some r') => (match piOf π r with | some x => Nat.beq x r' | none => false)
    | .func (.func f) p c, .func (.func g) p' c' => Nat.beq f g && listB (vmB π θ n) p.toList p'.toList && listB (vmB π θ n) c.toList c'.toList
    | .agg cs, .agg cs' => listB (vmB π θ n) cs.toList cs'.toList
    | .tuple cs, .tuple cs' => listB (vmB π θ n) cs.toList cs'.toList
    | a, b => leaf a && same a b

theorem listB_vml {π : List (Option Nat)} {θ : List Value} {f : Value → Value → Bool} (hf : ∀ a b, f a b = true → VM π θ a b) : ∀ {l m : List Value}, listB f l m = true → VML π θ l m
  | [], [], _ => .nil
  | [], _ :: _, h => by simp [listB] at h
  | _ :: _, [], h => by simp [listB] at h
  | a :: l, b :: m, h => by
    simp only [listB, Bool.and_eq_true] at h
    exact .cons (hf _ _ h.1) (listB_vml hf h.2)

theorem vmB_vm {π : List (Option Nat)} {θ : List Value} : ∀ (n : Nat) {vc v : Value}, vmB π θ n vc v = true → VM π θ vc v := by
  intro n
  induction n with
  | zero => intro vc v h; simp [vmB] at h
  | succ n ih =>
    have hl : ∀ {l m : List Value}, listB (vmB π θ n) l m = true → VML π θ l m := fun h => listB_vml (fun a b q => ih q) h
    intro vc v h
    unfold vmB at h
    split at h
    · exact .junk
    · split at h
      · rename_i u hu; exact .sym (same_eq h ▸ hu)
      · cases h
    · rename_i a b
      obtain ⟨ab, ao, as⟩ := a
      obtain ⟨bb, bo, bs⟩ := b
      simp only [Bool.and_eq_true, Option.isNone_iff_eq_none] at h
      obtain ⟨⟨⟨h1, h2⟩, h3⟩, h4⟩ := h
      subst h3 h4
      split at h1
      · rename_i x hx
        have := of_beq h1; subst this
        have := of_beq h2; subst this
        exact .ptr rfl hx
      · cases h1
    · rename_i a n1 c1 b n2 c2
      obtain ⟨ab, ao, as⟩ := a
      obtain ⟨bb, bo, bs⟩ := b
      simp only [Bool.and_eq_true, Option.isNone_iff_eq_none] at h
      obtain ⟨⟨⟨⟨⟨h1, h2⟩, h3⟩, h4⟩, h5⟩, h6⟩ := h
      subst h3 h4
      split at h1
      · rename_i x hx
        have := of_beq h1; subst this
        have := of_beq h2; subst this
        have := of_beq h5; subst this
        have := of_beq h6; subst this
        exact .slice rfl hx
      · cases h1
    · split at h
      · rename_i x hx
        have := of_beq h; subst this
        exact .map hx
      · cases h
    · simp only [Bool.and_eq_true] at h
      obtain ⟨⟨h1, h2⟩, h3⟩ := h
      have := of_beq h1; subst this
      exact .func (hl h2) (hl h3)
    · exact .agg (hl h)
    · exact .tuple (hl h)
    · simp only [Bool.and_eq_true] at h
      have := same_eq h.2; subst this
      exact .leaf h.1
end Go.Proofs.Ytbhjhffglcipbaa.AS
namespace Go.Proofs.Ytbhjhffglcipbaa.AS
open Go
set_option linter.unusedSectionVars false
set_option linter.unusedVariables false
set_option linter.unusedSimpArgs false

def same1 : Value → Value → Bool
  | .agg a, .agg b => listB same a.toList b.toList
  | a, b => same a b
theorem listB_eq {f : Value → Value → Bool} (hf : ∀ a b, f a b = true → a = b) : ∀ {l m : List Value}, listB f l m = true → l = m
  | [], [], _ => rfl
  | [], _ :: _, h => by simp [listB] at h
  | _ :: _, [], h => by simp [listB] at h
  | a :: l, b :: m, h => by
    simp only [listB, Bool.and_eq_true] at h
    rw [hf _ _ h.1, listB_eq hf h.2]
theorem same1_eq {a b : Value} (h : same1 a b = true) : a = b := by
  unfold same1 at h
  split at h
  · rename_i x y
    exact congrArg Value.agg (Array.toList_inj.1 (listB_eq (fun a b q => same_eq q) h))
  · exact same_eq h

def rowsB (f : Value → Value → Bool) : List (Value × Value) → List (Value × Value) → Bool
  | [], [] => true
  | (k, v) :: l, (k', v') :: m => flat1 k && same1 k k' && f v v' && rowsB f l m
  | _, _ => false

def obB (π : List (Option Nat)) (θ : List Value) (n : Nat) : Ob → Ob → Bool
  | .blk cs u ro ty, .blk cs' u' ro' ty' => Nat.beq u u' && (ro == ro') && listB (vmB π θ n) cs cs' && (match ty, ty' with | none, _ => true | some a, some b => Nat.beq a b | _, _ => false)
  | .mp es, .mp es' => rowsB (vmB π θ n) es es'
  | .ext a, .ext b => Nat.beq a b
  | _, _ => false

def memB (π : List (Option Nat)) (θ : List Value) (n : Nat) (σc σ : St) : Bool :=
  (List.range π.length).all fun b =>
    match piOf π b with
    | none => true
    | some b' =>
      match σc.get b with
      | none => true
      | some oc => match σ.get b' with | none => false | some o => obB π θ n oc o

def injB : List (Option Nat) → Bool
  | [] => true
  | none :: l => injB l
  | some x :: l => !(l.any fun y => match y with | some z => Nat.beq x z | none => false) && injB l

theorem piOf_zero {x : Option Nat} {l : List (Option Nat)} : piOf (x :: l) 0 = x := by cases x <;> rfl
theorem piOf_succ {x : Option Nat} {l : List (Option Nat)} {b : Nat} : piOf (x :: l) (b + 1) = piOf l b := rfl
theorem piOf_mem {l : List (Option Nat)} {b x : Nat} (h : piOf l b = some x) : some x ∈ l := by
  unfold piOf at h
  cases hb : l[b]? with
  | none => rw [hb] at h; cases h
  | some y => rw [hb] at h; simp at h; subst h; exact List.mem_of_getElem? hb

theorem injB_inj {x : Nat} : ∀ {π : List (Option Nat)} {b b' : Nat}, injB π = true → piOf π b = some x → piOf π b' = some x → b = b' := by
  intro π
  induction π with
  | nil => intro b b' _ h; simp [piOf] at h
  | cons y l ih =>
    intro b b' hi h1 h2
    have hl : injB l = true := by
      cases y with
      | none => exact hi
      | some z => simp only [injB, Bool.and_eq_true] at hi; exact hi.2
    have hno : ∀ c, y = some x → piOf l c = some x → False := by
      intro c hy hc
      subst hy
      simp only [injB, Bool.and_eq_true, Bool.not_eq_true'] at hi
      have := List.any_eq_false.1 hi.1 (some x) (piOf_mem hc)
      simp only [beq_t rfl, not_true] at this
    cases b with
    | zero =>
      cases b' with
      | zero => rfl
      | succ c => rw [piOf_zero] at h1; rw [piOf_succ] at h2; exact (hno c h1 h2).elim
    | succ c =>
      cases b' with
      | zero => rw [piOf_zero] at h2; rw [piOf_succ] at h1; exact (hno c h2 h1).elim
      | succ d => rw [piOf_succ] at h1 h2; rw [ih hl h1 h2]

section
variable {S : Sym} {π : List (Option Nat)} {θ : List Value} {hθ : θ.all okθ = true} {ρ : Rho}

theorem VML.get {l m : List Value} (h : VML π θ l m) : ∀ {i : Nat} {v : Value}, l[i]? = some v → ∃ u, m[i]? = some u ∧ VM π θ v u := by
  induction l generalizing m with
  | nil => intro i v hi; simp at hi
  | cons x l ih =>
    intro i v hi
    cases h with
    | cons hx t =>
      cases i with
      | zero => simp at hi; subst hi; exact ⟨_, rfl, hx⟩
      | succ i => simp at hi; obtain ⟨u, h1, h2⟩ := ih t hi; exact ⟨u, by simpa using h1, h2⟩
theorem VML.length {l m : List Value} (h : VML π θ l m) : l.length = m.length := by
  induction l generalizing m with
  | nil => cases h; rfl
  | cons v l ih => cases h with | cons _ t => simp [ih t]

theorem rows_ml {n : Nat} : ∀ {l m : List (Value × Value)} {E : List MapEntry}, rowsB (vmB π θ n) l m = true → @ML S ρ m E → @ML (Sym.of S θ hθ) (ren π ρ) l E
  | [], [], _, _, hm => by cases hm; exact @ML.nil (Sym.of S θ hθ) _
  | [], _ :: _, _, h, _ => by simp [rowsB] at h
  | _ :: _, [], _, h, _ => by simp [rowsB] at h
  | (k, v) :: l, (k', v') :: m, _, h, hm => by
    simp only [rowsB, Bool.and_eq_true] at h
    obtain ⟨⟨⟨h1, h2⟩, h3⟩, h4⟩ := h
    have := same1_eq h2
    subst this
    cases hm with
    | cons hf hk hv t => exact @ML.cons (Sym.of S θ hθ) _ _ _ _ _ _ hf hk (VM.vr (vmB_vm n h3) hv) (rows_ml h4 t)

theorem obB_ob {n : Nat} {w : World} {l : Loc} {oc o : Ob} (h : obB π θ n oc o = true) (hr : @ObR S ρ w l o) : @ObR (Sym.of S θ hθ) (ren π ρ) w l oc ∧ writable oc = writable o := by
  cases oc with
  | blk cs u ro ty =>
    cases o with
    | mp es => simp [obB] at h
    | it i1 i2 i3 => simp [obB] at h
    | ext i1 => simp [obB] at h
    | blk cs' u' ro' ty' =>
      simp only [obB, Bool.and_eq_true, beq_iff_eq] at h
      obtain ⟨⟨⟨h1, h2⟩, h3⟩, h4⟩ := h
      have := of_beq h1; subst this
      subst h2
      have hv : VML π θ cs cs' := listB_vml (fun a b q => vmB_vm n q) h3
      obtain ⟨q1, q2, q3, q4, C, t, fr, q5, q6, q7, q8, q9⟩ := hr
      have hlen := hv.length
      refine ⟨⟨q1, q2, by rw [hlen]; exact q3, by rw [hlen]; exact q4, C, t, fr, q5, q6, q7, ?_, ?_⟩, rfl⟩
      rotate_left
      · intro t' e
        subst e
        cases ty' with
        | none => cases h4
        | some b => rw [of_beq h4, hlen]; exact q9 b rfl
      intro i v hi
      obtain ⟨u2, k1, k2⟩ := hv.get hi
      obtain ⟨v', k3, k4⟩ := q8 i u2 k1
      exact ⟨v', k3, VM.vr k2 k4⟩
  | mp es =>
    cases o with
    | blk i1 i2 i3 i4 => simp [obB] at h
    | it i1 i2 i3 => simp [obB] at h
    | ext i1 => simp [obB] at h
    | mp es' =>
      obtain ⟨E, clk, q1, q2, q3⟩ := hr
      exact ⟨⟨E, clk, q1, rows_ml h q2, q3⟩, rfl⟩
  | it mb since seen => cases o <;> simp [obB] at h
  | ext tag =>
    cases o with
    | ext tag' => have := of_beq (show Nat.beq tag tag' = true from h); subst this; exact ⟨hr, rfl⟩
    | _ => simp [obB] at h

/-- the memory, its blocks named anew -/
theorem HR.rename {n : Nat} {w : World} {σc σ : St} (hr : @HR S ρ σ w) (hm : memB π θ n σc σ = true) (hi : injB π = true) (hl : π.length ≤ σc.next) (hmk : σc.mark ≤ σc.next) :
    @HR (Sym.of S θ hθ) (ren π ρ) σc w := by
  have key : ∀ b oc l, σc.get b = some oc → ren π ρ b = some l → ∃ b' o, piOf π b = some b' ∧ ρ b' = some l ∧ σ.get b' = some o ∧ obB π θ n oc o = true := by
    intro b oc l h1 h2
    unfold ren at h2
    cases hp : piOf π b with
    | none => rw [hp] at h2; cases h2
    | some b' =>
      rw [hp] at h2
      have hb : b < π.length := by
        unfold piOf at hp
        cases hb : π[b]? with
        | none => rw [hb] at hp; cases hp
        | some y => exact (List.getElem?_eq_some_iff.1 hb).1
      have := List.all_eq_true.1 hm b (List.mem_range.2 hb)
      rw [hp] at this
      simp only [h1] at this
      split at this
      · cases this
      · rename_i o ho; exact ⟨b', o, rfl, h2, ho, this⟩
  refine @HR.mk (Sym.of S θ hθ) _ _ _ ?_ ?_ ?_ hmk (fun f hf => by cases hf)
  · intro b oc l h1 h2
    obtain ⟨b', o, k1, k2, k3, k4⟩ := key b oc l h1 h2
    exact (obB_ob k4 (hr.ob b' o l k3 k2)).1
  · intro b b' o o' l l' hne h1 hw h2 h3 h4
    obtain ⟨c, p, k1, k2, k3, k4⟩ := key b o l h1 h3
    obtain ⟨c', p', j1, j2, j3, j4⟩ := key b' o' l' h2 h4
    have hcc : c ≠ c' := fun e => by subst e; exact hne (injB_inj hi k1 j1)
    refine hr.sep c c' p p' l l' hcc k3 ?_ j3 k2 j2
    rw [← (obB_ob (hθ := hθ) k4 (hr.ob c p l k3 k2)).2]; exact hw
  · intro b hb
    unfold ren piOf
    rw [List.getElem?_eq_none (by omega)]; rfl

theorem GR.rename {P : Program} (hg : GR P ρ) (h : ∀ g, g < P.globals.size → piOf π g = some g) : GR P (ren π ρ) := by
  intro g hgs
  obtain ⟨l, h1, h2⟩ := hg g hgs
  exact ⟨l, by simp [ren, h g hgs, h1], h2⟩
end
end Go.Proofs.Ytbhjhffglcipbaa.AS
namespace Go.Proofs.Ytbhjhffglcipbaa.AS
open Go
set_option linter.unusedSectionVars false
set_option linter.unusedVariables false
set_option linter.unusedSimpArgs false

/-- what a comparison or a sum comes to -/
structure Fact where
  b : BinOp
  t : TypeId
  x : Value
  y : Value
  r : Value

def factB (ev : Operand → Value) (b : BinOp) (t : TypeId) (x y : Operand) (f : Fact) : Bool := decide (b = f.b) && Nat.beq t f.t && same (ev x) f.x && same (ev y) f.y

abbrev orcOf (fs : List Fact) : Orc where
  orc o ev := match o.op with
    | .binOp b t x y _ => (fs.find? (factB ev b t x y)).map (·.r)
    | _ => none

structure FactOK (P : Program) (S : Sym) (f : Fact) : Prop where
  run : ∀ w, (binOp f.b f.t (conc S f.x) (conc S f.y)).run P w = .ok (conc S f.r) w
  cell : isCell (conc S f.x) = true ∧ conc S f.x ≠ .nilIface
  leaf : leaf f.r = true ∨ isSym f.r = true

theorem same_leaf {a b : Value} (h : same a b = true) : leaf a = true ∨ ∃ i, a = .chan (some i) := by
  unfold same at h
  split at h <;> first | exact .inl rfl | exact .inr ⟨_, rfl⟩ | cases h

theorem conc_leaf {S : Sym} {v : Value} (h : leaf v = true) : conc S v = v := by
  unfold conc
  split
  · simp [leaf] at h
  · rfl

theorem conc_of {S : Sym} {ρ : Rho} {v u v' : Value} (h : same v u = true) (hv : @VR S ρ v v') : v' = conc S u := by
  have := same_eq h
  subst this
  rcases same_leaf h with hl | ⟨i, rfl⟩
  · rw [conc_leaf hl]; exact @leaf_eq S ρ _ _ hl hv
  · cases hv with
    | leaf h => simp [leaf] at h
    | sym h => exact h.symm

theorem conc_VR {S : Sym} {ρ : Rho} {r : Value} (h : leaf r = true ∨ isSym r = true) : @VR S ρ r (conc S r) := by
  rcases h with h | h
  · rw [conc_leaf h]; exact @VR.leaf S ρ _ h
  · cases r with
    | chan c =>
      cases c with
      | some i => exact @VR.sym S ρ i _ rfl
      | none => simp [isSym] at h
    | _ => simp [isSym] at h

/-- for calls without a symbol -/
abbrev mute : Orc := { orc := fun _ _ => none }
theorem mute_ok {P : Program} (S : Sym) : @OrcOK S mute P := @OrcOK.mk S mute P (fun f hf => by cases hf) (fun _ _ _ _ _ h => by cases h) (fun _ _ _ _ _ h => by cases h) (fun _ _ _ h => by cases h)
abbrev plainSym : Sym := { val := fun _ => .int .i64 0, cell := fun _ => rfl }

/-- facts that are true make a true oracle -/
theorem orcOK {P : Program} (S : Sym) (fs : List Fact) (h : ∀ f ∈ fs, FactOK P S f) : @OrcOK S (orcOf fs) P := by
  refine @OrcOK.mk S (orcOf fs) P (fun f hf => by cases hf) (fun _ _ _ _ _ h => by cases h) (fun _ _ _ _ _ h => by cases h) ?_
  intro o ev v ho ρ ev' w hX
  replace ho : (match o.op with | .binOp b t x y _ => (fs.find? (factB ev b t x y)).map (·.r) | _ => none) = some v := ho
  obtain ⟨dst, op, type, pos, after, guard⟩ := o
  cases op <;> simp only at ho <;> try (cases ho; done)
  rename_i b t x y yt
  rw [Option.map_eq_some_iff] at ho
  obtain ⟨f, h1, rfl⟩ := ho
  have h2 := List.find?_some h1
  have h3 := List.mem_of_find?_eq_some h1
  simp only [factB, Bool.and_eq_true, decide_eq_true_eq] at h2
  obtain ⟨⟨⟨e1, e2⟩, e3⟩, e4⟩ := h2
  have e2 := of_beq e2
  subst e1 e2
  have hx := conc_of e3 (hX x (by simp [Op.operands]))
  have hy := conc_of e4 (hX y (by simp [Op.operands]))
  have k := h f h3
  refine ⟨conc S f.r, ?_, conc_VR k.leaf⟩
  simp only [execOp, hx, hy]
  have hg : (eqGuard f.b f.t x y (conc S f.x) (conc S f.y)).run P w = .ok () w := by
    refine @eqGuard_none S mute P (mute_ok S) w _ _ _ _ _ _ ?_ ?_
    · rintro c d ⟨q, _⟩
      have := k.cell.1
      rw [q] at this
      simp [isCell] at this
    · rintro ⟨q, _⟩; exact k.cell.2 q
  simp [Sem.run_bind, hg, k.run]
end Go.Proofs.Ytbhjhffglcipbaa.AS

namespace Go.Proofs.Ytbhjhffglcipbaa.AS
open Go
set_option linter.unusedSectionVars false
set_option linter.unusedVariables false
set_option linter.unusedSimpArgs false

/-- what two whole numbers come to -/
def intR (b : BinOp) (k : IntKind) (x y : Int) : Option Value :=
  match b with
  | .eql => some (.bool (decide (x = y)))
  | .neq => some (.bool (!decide (x = y)))
  | .lss => some (.bool (decide (x < y)))
  | .leq => some (.bool (decide (x ≤ y)))
  | .gtr => some (.bool (decide (x > y)))
  | .geq => some (.bool (decide (x ≥ y)))
  | .add => some (.int k (k.wrap (x + y)))
  | .sub => some (.int k (k.wrap (x - y)))
  | _ => none

theorem run_int {P : Program} {w : World} {b : BinOp} {t : TypeId} {k : IntKind} {x y : Int} {r : Value} (h : intR b k x y = some r) : (binOp b t (.int k x) (.int k y)).run P w = .ok r w := by
  cases b <;> simp only [intR, Option.some.injEq] at h <;> first
    | (cases h; done)
    | (subst h; simp [binOp, Op.intCmp, Op.intArith]; done)
    | (subst h; simp [binOp, Op.intCmp, Op.intArith]; by_cases e : x = y <;> simp [e])

/-- a fact about whole numbers -/
theorem FactOK.int {P : Program} {S : Sym} {f : Fact} {k : IntKind} {x y : Int} (hx : conc S f.x = .int k x) (hy : conc S f.y = .int k y) (hr : intR f.b k x y = some (conc S f.r)) (hl : AS.leaf f.r = true ∨ isSym f.r = true) : FactOK P S f :=
  ⟨fun w => by rw [hx, hy]; exact run_int hr, ⟨by rw [hx]; rfl, by rw [hx]; simp⟩, hl⟩
end Go.Proofs.Ytbhjhffglcipbaa.AS
namespace Go.Proofs.Ytbhjhffglcipbaa.AS
open Go
set_option linter.unusedSectionVars false
set_option linter.unusedVariables false
set_option linter.unusedSimpArgs false

/-- is the state σc, tmc the state σ, tm with its blocks and symbols named anew? -/
def stB (P : Program) (π : List (Option Nat)) (θ : List Value) (n : Nat) (σc : St) (tmc : List Value) (σ : St) (tm : List Value) : Bool :=
  θ.all okθ && (memB π θ n σc σ && (injB π && (Nat.ble π.length σc.next && (Nat.ble σc.mark σc.next && (listB (vmB π θ n) tmc tm &&
    (List.range P.globals.size).all fun g => match piOf π g with | some x => Nat.beq x g | none => false)))))

theorem restate {P : Program} {S : Sym} {π : List (Option Nat)} {θ : List Value} {n : Nat} {ρ : Rho} {σc σ : St} {tmc tm vs : List Value} {w : World} (h : stB P π θ n σc tmc σ tm = true)
    (hr : @HR S ρ σ w) (ht : @VL S ρ tm vs) (hg : GR P ρ) :
    ∃ hθ : θ.all okθ = true, @HR (Sym.of S θ hθ) (ren π ρ) σc w ∧ @VL (Sym.of S θ hθ) (ren π ρ) tmc vs ∧ GR P (ren π ρ) := by
  unfold stB at h
  simp only [Bool.and_eq_true] at h
  obtain ⟨hθ, h1, h2, h3, h4, h5, h6⟩ := h
  refine ⟨hθ, hr.rename h1 h2 (of_ble h3) (of_ble h4), VML.vl (listB_vml (fun a b q => vmB_vm n q) h5) ht, hg.rename fun g hgs => ?_⟩
  have := List.all_eq_true.1 h6 g (List.mem_range.2 hgs)
  split at this
  · rename_i x hx; rw [hx, of_beq this]
  · cases this
end Go.Proofs.Ytbhjhffglcipbaa.AS
namespace Go.Proofs.Ytbhjhffglcipbaa.AS
open Go Go.RowKit
set_option linter.unusedSectionVars false
set_option linter.unusedVariables false
set_option linter.unusedSimpArgs false

/-! ## a body in pieces; what is known between two pieces -/

/-- the pieces of a sequence -/
def flatC : Code → List Code
  | .seq a b => flatC a ++ flatC b
  | c => [c]

/-- pieces, one behind the other -/
def wpL (P : Program) (Q : Exit → Act → World → Prop) : List Code → Act → World → Prop
  | [] => fun a w => Q .normal a w
  | c :: l => fun a w => c.wp P (Exit.then (wpL P Q l) Q) a w

theorem then_normal {Q : Exit → Act → World → Prop} : Exit.then (Q .normal) Q = Q := by
  funext e a w; cases e <;> rfl
theorem then_then {X Y : Act → World → Prop} {Q : Exit → Act → World → Prop} : Exit.then X (Exit.then Y Q) = Exit.then X Q := by
  funext e a w; cases e <;> rfl

theorem wpL_append {P : Program} {Q : Exit → Act → World → Prop} : ∀ (l m : List Code), wpL P Q (l ++ m) = wpL P (Exit.then (wpL P Q m) Q) l
  | [], m => by funext a w; rfl
  | c :: l, m => by
    funext a w
    simp only [List.cons_append, wpL, wpL_append l m, then_then]

theorem wpL_one {P : Program} {Q : Exit → Act → World → Prop} {c : Code} {a : Act} {w : World} : wpL P Q [c] a w = c.wp P Q a w := by
  have h : (fun a w => Q .normal a w) = Q .normal := rfl
  simp only [wpL, h, then_normal]

theorem wp_flat {P : Program} : ∀ (c : Code) (Q : Exit → Act → World → Prop) (a : Act) (w : World), wpL P Q (flatC c) a w → c.wp P Q a w := by
  intro c
  induction c with
  | seq x y ihx ihy =>
    intro Q a w h
    simp only [flatC, wpL_append] at h
    refine wp_seq (wp_mono (ihx _ a w h) ?_)
    intro e a w q
    cases e with
    | normal => exact ihy Q a w q
    | _ => exact q
  | _ => intro Q a w h; simp only [flatC, wpL_one] at h; exact h

/-- what can be written lies behind B -/
def Fresh (B : Nat) (ρ : Rho) (σ : St) : Prop := ∀ b o l, σ.get b = some o → writable o = true → ρ b = some l → B ≤ l.pb

theorem Ext.below {ρ ρ' : Rho} {σ σ' : St} {w w' : World} {B : Nat} (h : Ext ρ σ w ρ' σ' w') (hf : Fresh B ρ σ) (hB : B ≤ w.heap.size) (hr' : ∀ b o l, σ'.get b = some o → writable o = true → ρ' b = some l → True) :
    Below B w w' :=
  ⟨h.os, h.tape, h.output, h.heap, fun p hp => h.frame p (by omega) (fun b o l h1 h2 h3 _ e => by have := hf b o l h1 h2 h3; omega)⟩

theorem Ext.fresh {ρ ρ' : Rho} {σ σ' : St} {w w' : World} {B : Nat} (h : Ext ρ σ w ρ' σ' w') (hf : Fresh B ρ σ) (hB : B ≤ w.heap.size) : Fresh B ρ' σ' := by
  intro b o l h1 h2 h3
  rcases h.wr b o l h1 h3 with ⟨k1, o0, k2, k3⟩ | k | ⟨b0, o0, l0, k1, k2, k3, k4, _⟩
  · exact hf b o0 l k2 (k3 h2) k1
  · omega
  · have := hf b0 o0 l0 k1 k2 k3; omega

theorem obB_writable {π : List (Option Nat)} {θ : List Value} {n : Nat} {oc o : Ob} (h : obB π θ n oc o = true) : writable oc = writable o := by
  cases oc with
  | blk cs u ro ty =>
    cases o with
    | mp es => simp [obB] at h
    | it i1 i2 i3 => simp [obB] at h
    | ext i1 => simp [obB] at h
    | blk cs' u' ro' ty' =>
      simp only [obB, Bool.and_eq_true, beq_iff_eq] at h
      obtain ⟨⟨⟨_, h2⟩, _⟩, _⟩ := h
      subst h2; rfl
  | mp es =>
    cases o with
    | blk i1 i2 i3 i4 => simp [obB] at h
    | it i1 i2 i3 => simp [obB] at h
    | ext i1 => simp [obB] at h
    | mp es' => rfl
  | it mb since seen => cases o <;> simp [obB] at h
  | ext tag =>
    cases o <;> first
      | (simp only [obB] at h; rw [show tag = _ from Nat.eq_of_beq_eq_true h])
      | simp [obB] at h

theorem Fresh.rename {π : List (Option Nat)} {θ : List Value} {n B : Nat} {ρ : Rho} {σc σ : St} (hf : Fresh B ρ σ) (hm : memB π θ n σc σ = true) : Fresh B (ren π ρ) σc := by
  intro b oc l h1 hw h2
  unfold ren at h2
  cases hp : piOf π b with
  | none => rw [hp] at h2; cases h2
  | some b' =>
    rw [hp] at h2
    have hb : b < π.length := by
      unfold piOf at hp
      cases hb : π[b]? with
      | none => rw [hb] at hp; cases hp
      | some y => exact (List.getElem?_eq_some_iff.1 hb).1
    have := List.all_eq_true.1 hm b (List.mem_range.2 hb)
    rw [hp] at this
    simp only [h1] at this
    split at this
    · cases this
    · rename_i o ho
      exact hf b' o l ho (by rw [← obB_writable this]; exact hw) h2

/-- the state σ and the slots tm stand for what there is; what was in W stays -/
structure AtR (P : Program) (S : Sym) (B : Nat) (W : World) (ρ : Rho) (σ : St) (tm : List Value) (a : Act) (w : World) : Prop where
  gr : GR P ρ
  hr : @HR S ρ σ w
  vl : @VL S ρ tm a.tmps.toList
  df : a.defers = []
  bel : Below B W w
  size : B ≤ w.heap.size
  fresh : Fresh B ρ σ
def At (P : Program) (S : Sym) (B : Nat) (W : World) (σ : St) (tm : List Value) (a : Act) (w : World) : Prop := ∃ ρ, AtR P S B W ρ σ tm a w

theorem AtR.step {P : Program} {S : Sym} {B : Nat} {W : World} {ρ ρ' : Rho} {σ σ' : St} {tm tm' : List Value} {a a' : Act} {w w' : World} (h : AtR P S B W ρ σ tm a w) (e : Ext ρ σ w ρ' σ' w')
    (hr : @HR S ρ' σ' w') (ht : @VL S ρ' tm' a'.tmps.toList) (hd : a'.defers = []) : AtR P S B W ρ' σ' tm' a' w' :=
  ⟨fun g hg => let ⟨l, h1, h2⟩ := h.gr g hg; ⟨l, e.le _ _ h1, h2⟩, hr, ht, hd, h.bel.trans (e.below h.fresh h.size (fun _ _ _ _ _ _ => trivial)), Nat.le_trans h.size e.heap, e.fresh h.fresh h.size⟩

section
variable {P : Program} {ov : FuncId → Option (List Value → St → R (Value × St))}

section
variable [Orc]
/-- run pieces, each to its end -/
def runL (P : Program) (ov : FuncId → Option (List Value → St → R (Value × St))) (fuel : Nat) : List Code → List Value → St → Option (List Value × St)
  | [], tm, σ => some (tm, σ)
  | c :: l, tm, σ => match runV P ov fuel none c tm σ with
    | some (.normal, tm, σ) => runL P ov fuel l tm σ
    | _ => none
end

/-- one piece, whatever its end -/
theorem At.run (S : Sym) (O : Orc) (hO : @OrcOK S O P) (hm : P.follows .mixedOrders = true) (hovS : ∀ f g, ov f = some g → @SimFn S P f g) (hovK : ∀ f g, ov f = some g → ∀ args σ v σ', g args σ = some (v, σ') → Kept σ σ')
    {fuel B : Nat} {W : World} {c : Code} {tm tm' : List Value} {σ σ' : St} {e : Ex} {a : Act} {w : World} {Q : Exit → Act → World → Prop}
    (h : @runV O P ov fuel none c tm σ = some (e, tm', σ')) (hat : At P S B W σ tm a w) (hQ : ∀ a' w', At P S B W σ' tm' a' w' → Q (toExit e) a' w') : c.wp P Q a w := by
  obtain ⟨ρ, h0⟩ := hat
  refine (@run_sim S O P hO ov hm hovS hovK fuel none c tm σ e tm' σ' h ρ w a Q h0.gr h0.hr h0.vl h0.df ?_).wp
  intro ρ' a' w' k1 k2 k3 k4
  exact hQ a' w' ⟨ρ', h0.step k1 k2 k3 k4⟩

theorem At.runL (S : Sym) (O : Orc) (hO : @OrcOK S O P) (hm : P.follows .mixedOrders = true) (hovS : ∀ f g, ov f = some g → @SimFn S P f g) (hovK : ∀ f g, ov f = some g → ∀ args σ v σ', g args σ = some (v, σ') → Kept σ σ')
    {fuel B : Nat} {W : World} {m : List Code} {tm' : List Value} {σ' : St} {Q : Exit → Act → World → Prop} : ∀ (l : List Code) {tm : List Value} {σ : St} {a : Act} {w : World},
    @runL O P ov fuel l tm σ = some (tm', σ') → At P S B W σ tm a w → (∀ a' w', At P S B W σ' tm' a' w' → wpL P Q m a' w') → wpL P Q (l ++ m) a w := by
  intro l
  induction l with
  | nil =>
    intro tm σ a w h hat hQ
    simp only [AS.runL, Option.some.injEq, Prod.mk.injEq] at h
    obtain ⟨rfl, rfl⟩ := h
    exact hQ a w hat
  | cons c l ih =>
    intro tm σ a w h hat hQ
    simp only [AS.runL] at h
    split at h
    · rename_i tm1 σ1 h1
      simp only [List.cons_append, wpL]
      exact At.run S O hO hm hovS hovK h1 hat (fun a' w' hat' => ih h hat' hQ)
    · cases h

/-- the same, told anew -/
theorem At.restate {S : Sym} {π : List (Option Nat)} {θ : List Value} {n B : Nat} {W : World} {σc σ : St} {tmc tm : List Value} {a : Act} {w : World} (h : stB P π θ n σc tmc σ tm = true) (hat : At P S B W σ tm a w) :
    ∃ hθ : θ.all okθ = true, At P (Sym.of S θ hθ) B W σc tmc a w := by
  obtain ⟨ρ, h0⟩ := hat
  obtain ⟨hθ, k1, k2, k3⟩ := AS.restate h h0.hr h0.vl h0.gr
  refine ⟨hθ, ren π ρ, k3, k1, k2, h0.df, h0.bel, h0.size, h0.fresh.rename (n := n) (θ := θ) ?_⟩
  unfold stB at h
  simp only [Bool.and_eq_true] at h
  exact h.2.1

/-- a slot told otherwise -/
theorem At.slot {S : Sym} {B : Nat} {W : World} {σ : St} {tm : List Value} {a : Act} {w : World} (hat : At P S B W σ tm a w) (t : Nat) (v : Value) (hv : ∀ ρ : Rho, @VR S ρ (tm.getD t undef) (a.tmps.toList.getD t undef) → @VR S ρ v (a.tmps.toList.getD t undef)) :
    At P S B W σ (tm.set t v) a w := by
  obtain ⟨ρ, h⟩ := hat
  refine ⟨ρ, h.gr, h.hr, ?_, h.df, h.bel, h.size, h.fresh⟩
  have := @VL.set S ρ _ _ h.vl t _ _ (hv ρ (@VL.getD S ρ _ _ h.vl t))
  have e : a.tmps.toList.set t (a.tmps.toList.getD t undef) = a.tmps.toList := by
    apply List.ext_getElem?
    intro i
    rw [List.getElem?_set]
    split
    · rename_i hi; subst hi
      split
      · rename_i h2; rw [List.getD_eq_getElem?_getD, List.getElem?_eq_getElem h2]; rfl
      · rename_i h2; rw [List.getElem?_eq_none (by omega)]
    · rfl
  rwa [e] at this

/-- a symbol whose value is known -/
theorem At.known {S : Sym} {B : Nat} {W : World} {σ : St} {tm : List Value} {a : Act} {w : World} (hat : At P S B W σ tm a w) (t i : Nat) (v : Value) (ht : tm.getD t undef = .chan (some i)) (hv : leaf v = true) (hs : S.val i = v) :
    At P S B W σ (tm.set t v) a w := by
  refine hat.slot t v fun ρ h => ?_
  rw [ht] at h
  generalize a.tmps.toList.getD t undef = u at h
  cases h with
  | leaf h => simp [leaf] at h
  | sym h => rw [hs] at h; rw [← h]; exact @VR.leaf S ρ _ hv

/-- what is said when the body is done -/
def Done (P : Program) (fn : Func) (B : Nat) (W : World) (v : Value) (e : Exit) (a : Act) (w : World) : Prop :=
  (e = .normal ∨ e = .ret) ∧ ∃ (S : Sym) (σ : St) (tm : List Value), At P S B W σ tm a w ∧ resultsV P fn σ tm = some v

theorem calls_at {f : FuncId} {fn : Func} {c : Code} {args : List Value} {W : World} {v : Value} (hf : P.funcs[f]? = some fn) (hb : fn.body = some c) (hl : leaf v = true) (S : Sym) (hwin : S.wins = []) (as : List Value)
    (hargs : @VL S (rho0 P) as args) (h : ∀ a : Act, a.tmps = (args ++ List.replicate (fn.ntmps - args.length) undef).toArray → At P S W.heap.size W (start P) (as ++ List.replicate (fn.ntmps - as.length) undef) a W → wpL P (Done P fn W.heap.size W v) (flatC c) a W) :
    Calls P f args.toArray W fun e w' => e = .returned v ∧ Below W.heap.size W w' := by
  refine calls_of_wp hf hb ?_
  have hlen := @VL.length S (rho0 P) _ _ hargs
  refine wp_mono (wp_flat _ _ _ _ (h _ ?_ ⟨rho0 P, @start_GR S mute P, @start_HR S mute P W hwin, ?_, rfl, Below.refl _ _, Nat.le_refl _, fun b o l q => by rw [@start_get S mute] at q; cases q⟩)) ?_
  · simp
  · have : @VL S (rho0 P) (List.replicate (fn.ntmps - as.length) undef) (List.replicate (fn.ntmps - as.length) undef) := by
      generalize fn.ntmps - as.length = m
      induction m with
      | zero => exact @VL.nil S _
      | succ m ih => exact @VL.cons S _ _ _ _ _ (@undef_VR S _) ih
    have := @VL.append S _ _ _ _ _ hargs this
    simpa [hlen] using this
  · rintro e a w ⟨he, S', σ, tm, ⟨ρ, hat⟩, hres⟩
    obtain ⟨v', q1, q2⟩ := @results_sim S' mute P (mute_ok S') ρ σ w tm a.tmps fn v hat.hr hat.vl hres
    have hv : v' = v := @VR.inv_leaf S' ρ v v' q2 hl
    subst hv
    rcases he with rfl | rfl
    · exact ⟨hat.df, v', q1, rfl, hat.bel⟩
    · exact ⟨hat.df, v', q1, rfl, hat.bel⟩
end
end Go.Proofs.Ytbhjhffglcipbaa.AS
namespace Go.Proofs.Ytbhjhffglcipbaa.AS
open Go
set_option linter.unusedSectionVars false
set_option linter.unusedVariables false
set_option linter.unusedSimpArgs false

/-! ## the same machine, its slots in a tree -/
structure TM where
  n : Nat
  t : Tr
  ok : n ≤ most

def TM.at (m : TM) (i : Nat) : Value :=
  match Nat.blt i m.n with
  | true => (match m.t.get i with | some (.blk [v] _ _ _) => v | _ => undef)
  | false => undef
def TM.put (m : TM) (i : Nat) (v : Value) : TM := ⟨m.n, m.t.set (some (.blk [v] 0 false none)) depth i, m.ok⟩
def TM.toL (m : TM) : List Value := (List.range m.n).map m.at

theorem to_blt {a b : Nat} (h : a < b) : Nat.blt a b = true := by simpa [Nat.blt_eq] using h

theorem TM.len (m : TM) : m.toL.length = m.n := by simp [TM.toL]
theorem TM.at_ge {m : TM} {i : Nat} (h : m.n ≤ i) : m.at i = undef := by unfold TM.at; rw [blt_f h]
theorem TM.get? (m : TM) (i : Nat) : m.toL[i]? = match Nat.blt i m.n with | true => some (m.at i) | false => none := by
  unfold TM.toL
  cases h : Nat.blt i m.n with
  | true => simp [List.getElem?_map, List.getElem?_range (of_blt h)]
  | false =>
    have : ¬ i < m.n := fun q => by rw [to_blt q] at h; cases h
    simp [this]
theorem TM.getD (m : TM) (i : Nat) : m.toL.getD i undef = m.at i := by
  rw [List.getD_eq_getElem?_getD, TM.get?]
  cases h : Nat.blt i m.n with
  | true => rfl
  | false =>
    have : ¬ i < m.n := fun q => by rw [to_blt q] at h; cases h
    rw [TM.at_ge (by omega)]; rfl
theorem TM.at_put (m : TM) (i j : Nat) (v : Value) : (m.put i v).at j = if j = i ∧ i < m.n then v else m.at j := by
  by_cases hj : j < m.n
  · have hb : Nat.blt j m.n = true := to_blt hj
    unfold TM.at TM.put
    simp only [hb]
    rw [Tr.get_set]
    have := m.ok
    by_cases e : j = i
    · subst e
      rw [if_pos ⟨rfl, most_lt (by omega)⟩, if_pos ⟨rfl, hj⟩]
    · rw [if_neg (fun q => e q.1), if_neg (fun q => e q.1)]
  · rw [TM.at_ge (m := m) (by omega), TM.at_ge (by show m.n ≤ j; omega), if_neg (by omega)]
theorem TM.set (m : TM) (i : Nat) (v : Value) : m.toL.set i v = (m.put i v).toL := by
  apply List.ext_getElem?
  intro j
  rw [List.getElem?_set, TM.get?, TM.get?, TM.at_put, TM.len]
  show _ = match Nat.blt j m.n with | true => _ | false => _
  cases h : Nat.blt j m.n with
  | true =>
    have hj := of_blt h
    by_cases e : i = j
    · subst e; simp [hj]
    · have e' : ¬ (j = i) := fun q => e q.symm
      simp [e, e']
  | false =>
    have : ¬ j < m.n := fun q => by rw [to_blt q] at h; cases h
    by_cases e : i = j
    · subst e; simp [this]
    · simp [e]

def evalT (m : TM) : Operand → Value
  | .tmp t => m.at t
  | .const v => v
  | .global g => .pointer (some ⟨g, 0, none⟩)
  | .func f => .func (.func f) #[] #[]
theorem evalT_eq (m : TM) : evalOp m.toL = evalT m := by
  funext x
  cases x with
  | tmp t => exact m.getD t
  | _ => rfl

def wantedT (ops : Array Oper) (m : TM) (o : Oper) : Option Bool :=
  match o.guard with
  | none => some true
  | some (j, b) =>
    match (ops[j]?).bind (·.dst) with
    | none => some false
    | some t =>
      match Nat.blt t m.n with
      | false => some false
      | true =>
        match m.at t with
        | .bool c => some (c == b)
        | .chan _ => none
        | _ => some false
theorem wantedT_eq (ops : Array Oper) (m : TM) (o : Oper) : wantedV ops m.toL o = wantedT ops m o := by
  unfold wantedV wantedT
  cases o.guard with
  | none => rfl
  | some jb =>
    obtain ⟨j, b⟩ := jb
    simp only
    cases (ops[j]?).bind (·.dst) with
    | none => rfl
    | some t =>
      simp only [Option.bind_some, TM.get?]
      cases h : Nat.blt t m.n with
      | false => rfl
      | true =>
        simp only
        generalize m.at t = v
        cases v with
        | chan c => cases c <;> rfl
        | _ => rfl

def putT (m : TM) (d : Option Tmp) (v : Value) : TM :=
  match d with
  | some d => m.put d v
  | none => m
theorem putT_eq (m : TM) (d : Option Tmp) (v : Value) : putV m.toL d v = (putT m d v).toL := by
  cases d with
  | none => rfl
  | some d => exact m.set d v

section
variable [Orc]
def stepT (P : Program) (call : FuncId → List Value → St → R (Value × St)) (ops : Array Oper) (o : Oper) (tm : TM) (σ : St) : R (TM × St) :=
  match wantedT ops tm o with
  | none => bad "a guard of junk"
  | some false => pure (putT tm o.dst undef, σ)
  | some true =>
    if o.op.operands.toList.all (okX P) then do
      let (ne, σ) ← opV P σ (evalT tm) o
      match ne with
      | .val v => pure (putT tm o.dst v, σ)
      | .skip => pure (putT tm o.dst undef, σ)
      | .enter f args => do
        let (v, σ) ← call f args σ
        pure (putT tm o.dst v, σ)
    else bad "an operand"

variable {P : Program} {cT call : FuncId → List Value → St → R (Value × St)}
theorem stepT_sound (hc : ∀ f args σ v, cT f args σ = some v → call f args σ = some v) {ops : Array Oper} {o : Oper} {m m' : TM} {σ σ' : St} (h : stepT P cT ops o m σ = some (m', σ')) :
    stepV P call ops o m.toL σ = some (m'.toL, σ') := by
  unfold stepT at h
  unfold stepV
  rw [wantedT_eq, evalT_eq]
  cases hw : wantedT ops m o with
  | none => rw [hw] at h; simp [bad] at h
  | some b =>
    rw [hw] at h
    cases b with
    | false =>
      simp only [pure, Option.some.injEq, Prod.mk.injEq] at h ⊢
      obtain ⟨rfl, rfl⟩ := h
      exact ⟨putT_eq .., rfl⟩
    | true =>
      simp only at h ⊢
      split at h
      · rename_i hok
        rw [if_pos hok]
        simp only [bind, Option.bind_eq_some_iff] at h ⊢
        obtain ⟨⟨ne, σ1⟩, h1, h⟩ := h
        refine ⟨⟨ne, σ1⟩, h1, ?_⟩
        cases ne with
        | val v =>
          simp only [pure, Option.some.injEq, Prod.mk.injEq] at h ⊢
          obtain ⟨rfl, rfl⟩ := h
          exact ⟨putT_eq .., rfl⟩
        | skip =>
          simp only [pure, Option.some.injEq, Prod.mk.injEq] at h ⊢
          obtain ⟨rfl, rfl⟩ := h
          exact ⟨putT_eq .., rfl⟩
        | enter f args =>
          simp only [Option.bind_eq_some_iff] at h ⊢
          obtain ⟨⟨v, σ2⟩, h2, h⟩ := h
          refine ⟨⟨v, σ2⟩, hc _ _ _ _ h2, ?_⟩
          simp only [pure, Option.some.injEq, Prod.mk.injEq] at h ⊢
          obtain ⟨rfl, rfl⟩ := h
          exact ⟨putT_eq .., rfl⟩
      · simp [bad] at h

def opsT (P : Program) (call : FuncId → List Value → St → R (Value × St)) (ops : Array Oper) : List Oper → TM → St → R (TM × St)
  | [], tm, σ => pure (tm, σ)
  | o :: rest, tm, σ => do
    let (tm, σ) ← stepT P call ops o tm σ
    opsT P call ops rest tm σ
theorem opsT_sound (hc : ∀ f args σ v, cT f args σ = some v → call f args σ = some v) {ops : Array Oper} : ∀ (l : List Oper) {m m' : TM} {σ σ' : St}, opsT P cT ops l m σ = some (m', σ') →
    opsV P call ops l m.toL σ = some (m'.toL, σ') := by
  intro l
  induction l with
  | nil =>
    intro m m' σ σ' h
    simp only [opsT, opsV, pure, Option.some.injEq, Prod.mk.injEq] at h ⊢
    obtain ⟨rfl, rfl⟩ := h
    exact ⟨rfl, rfl⟩
  | cons o l ih =>
    intro m m' σ σ' h
    simp only [opsT, opsV, bind, Option.bind_eq_some_iff] at h ⊢
    obtain ⟨⟨m1, σ1⟩, h1, h⟩ := h
    exact ⟨(m1.toL, σ1), stepT_sound hc h1, ih h⟩

def blockAtT (ops : Array Oper) (tm : TM) : Nat → Operand → Option Nat
  | 0, _ => none
  | n + 1, .tmp t =>
    match ops.toList.find? fun o => match o.dst with | some d => Nat.beq d t | none => false with
    | none => match tm.at t with | .pointer (some a) => some a.block | _ => none
    | some o =>
      match o.op with
      | .fieldAddr _ x _ | .move x | .nilCheck x => blockAtT ops tm n x
      | _ => none
  | _, _ => none
theorem blockAtT_eq (ops : Array Oper) (m : TM) : ∀ (n : Nat) (x : Operand), blockAt ops m.toL n x = blockAtT ops m n x := by
  intro n
  induction n with
  | zero => intro x; rfl
  | succ n ih =>
    intro x
    cases x with
    | tmp t =>
      simp only [blockAt, blockAtT, TM.getD]
      generalize (List.find? _ ops.toList) = r
      cases r with
      | none => rfl
      | some o =>
        simp only
        cases o.op <;> first | rfl | exact ih _
    | _ => rfl
def storesT (ops : Array Oper) (tm : TM) : List (Nat × Nat) :=
  ops.toList.zipIdx.filterMap fun (o, k) =>
    match o.op with
    | .store _ a _ => (blockAtT ops tm 20 a).map fun b => (k, b)
    | _ => none
theorem storesT_eq (ops : Array Oper) (m : TM) : storesOf ops m.toL = storesT ops m := by
  unfold storesOf storesT
  congr 1
  funext ⟨o, k⟩
  simp only [blockAtT_eq]
  cases o.op <;> rfl
def loadsT (tm : TM) : Op → Option Nat
  | .load _ a => match evalT tm a with | .pointer (some a) => some a.block | _ => none
  | .slice _ x _ _ _ => match evalT tm x with | .slice (some a) _ _ => some a.block | _ => none
  | _ => none
theorem loadsT_eq (m : TM) (o : Op) : loadsAt m.toL o = loadsT m o := by
  cases o <;> simp only [loadsAt, loadsT, evalT_eq] <;> (generalize evalT m _ = v; cases v <;> first | rfl | (rename_i a; cases a <;> rfl) | (rename_i a _ _; cases a <;> rfl))

def drawOneT (P : Program) (call : FuncId → List Value → St → R (Value × St)) (ops : Array Oper) (bef : List Nat) (pre : List (Nat × Nat)) (o : Oper) (k : Nat) (tm : TM) (σ : St) (d : Dr) :
    R (TM × St × Dr) :=
  if pureOp P o.op then do
    let (tm, σ) ← stepT P call ops o tm σ
    pure (tm, σ, d)
  else do
    let h := hidden bef pre d.wr k
    let (tm', σ') ← stepT P call ops o tm { next := σ.next, mark := σ.next, log := [], mem := hideAll σ.mem h }
    if writesOK bef pre d.ld k σ'.log then
      pure (tm', { next := σ'.next, mark := σ.mark, log := noteAll σ.mark σ'.log σ.log, mem := layBack σ.mem σ'.mem h },
        { wr := if σ'.log.isEmpty then d.wr else (k, σ'.log) :: d.wr, ld := (k, loadsT tm o.op) :: d.ld })
    else bad ("a draw with a write at " ++ o.pos)
theorem drawOneT_sound (hc : ∀ f args σ v, cT f args σ = some v → call f args σ = some v) {ops : Array Oper} {bef : List Nat} {pre : List (Nat × Nat)} {o : Oper} {k : Nat} {m m' : TM} {σ σ' : St} {d d' : Dr}
    (h : drawOneT P cT ops bef pre o k m σ d = some (m', σ', d')) : drawOne P call ops bef pre o k m.toL σ d = some (m'.toL, σ', d') := by
  unfold drawOneT at h
  unfold drawOne
  split at h
  · rename_i hp
    rw [if_pos hp]
    simp only [bind, Option.bind_eq_some_iff, pure, Option.some.injEq, Prod.mk.injEq] at h ⊢
    obtain ⟨⟨m1, σ1⟩, h1, rfl, rfl, rfl⟩ := h
    exact ⟨_, stepT_sound hc h1, rfl, rfl, rfl⟩
  · rename_i hp
    rw [if_neg hp]
    simp only [bind, Option.bind_eq_some_iff] at h ⊢
    obtain ⟨⟨m1, σ1⟩, h1, h⟩ := h
    refine ⟨_, stepT_sound hc h1, ?_⟩
    simp only at h ⊢
    split at h
    · rename_i hw
      rw [if_pos hw]
      simp only [pure, Option.some.injEq, Prod.mk.injEq] at h ⊢
      obtain ⟨rfl, rfl, rfl⟩ := h
      exact ⟨rfl, rfl, by rw [loadsT_eq]⟩
    · simp [bad] at h

def drawToT (P : Program) (call : FuncId → List Value → St → R (Value × St)) (ops : Array Oper) (bef : List Nat) (pre : List (Nat × Nat)) (tm : TM) (σ : St) : Nat → R (TM × St × Dr)
  | 0 => pure (tm, σ, ⟨[], []⟩)
  | k + 1 => do
    let (tm, σ, d) ← drawToT P call ops bef pre tm σ k
    match ops[k]? with
    | some o => drawOneT P call ops bef pre o k tm σ d
    | none => bad "no operation"
theorem drawToT_sound (hc : ∀ f args σ v, cT f args σ = some v → call f args σ = some v) {ops : Array Oper} {bef : List Nat} {pre : List (Nat × Nat)} {m : TM} {σ : St} : ∀ (k : Nat) {m' : TM} {σ' : St} {d' : Dr},
    drawToT P cT ops bef pre m σ k = some (m', σ', d') → drawTo P call ops bef pre m.toL σ k = some (m'.toL, σ', d') := by
  intro k
  induction k with
  | zero =>
    intro m' σ' d' h
    simp only [drawToT, drawTo, pure, Option.some.injEq, Prod.mk.injEq] at h ⊢
    obtain ⟨rfl, rfl, rfl⟩ := h
    exact ⟨rfl, rfl, rfl⟩
  | succ k ih =>
    intro m' σ' d' h
    simp only [drawToT, drawTo, bind, Option.bind_eq_some_iff] at h ⊢
    obtain ⟨⟨m1, σ1, d1⟩, h1, h⟩ := h
    refine ⟨_, ih h1, ?_⟩
    simp only at h ⊢
    split at h
    · rename_i o ho
      simp only [ho]
      exact drawOneT_sound hc h
    · simp [bad] at h

def regionT (P : Program) (call : FuncId → List Value → St → R (Value × St)) (ops : Array Oper) (draw : Bool) (tm : TM) (σ : St) : R (TM × St) :=
  if draw then
    let bef := befOf ops ops.toList []
    if slotsOK ops bef && edgesOK ops && Nat.ble σ.mark σ.next then do
      let (tm, σ, _) ← drawToT P call ops bef ((storesT ops tm).filter fun (_, b) => Nat.blt b σ.next) tm σ ops.size
      pure (tm, σ)
    else bad "a draw out of form"
  else opsT P call ops ops.toList tm σ
theorem regionT_sound (hc : ∀ f args σ v, cT f args σ = some v → call f args σ = some v) {ops : Array Oper} {draw : Bool} {m m' : TM} {σ σ' : St} (h : regionT P cT ops draw m σ = some (m', σ')) :
    regionV P call ops draw m.toL σ = some (m'.toL, σ') := by
  unfold regionT at h
  unfold regionV
  cases draw with
  | false => exact opsT_sound hc _ h
  | true =>
    simp only [if_true] at h ⊢
    split at h
    · rename_i hcond
      rw [if_pos hcond]
      simp only [bind, Option.bind_eq_some_iff, pure, Option.some.injEq, Prod.mk.injEq] at h ⊢
      obtain ⟨⟨m1, σ1, d1⟩, h1, rfl, rfl⟩ := h
      refine ⟨(m1.toL, σ1, d1), ?_, rfl, rfl⟩
      rw [storesT_eq]
      exact drawToT_sound hc _ h1
    · simp [bad] at h

/-! a list of slots as a tree -/
def treeOf : List Value → Nat → Tr → Tr
  | [], _, t => t
  | v :: l, i, t => treeOf l (i + 1) (t.set (some (.blk [v] 0 false none)) depth i)
theorem treeOf_get : ∀ (l : List Value) (i : Nat) (t : Tr) (j : Nat), i + l.length ≤ most → (treeOf l i t).get j = if i ≤ j then (match l[j - i]? with | some v => some (.blk [v] 0 false none) | none => t.get j) else t.get j := by
  intro l
  induction l with
  | nil => intro i t j h; simp [treeOf]
  | cons v l ih =>
    intro i t j h
    simp only [List.length_cons] at h
    rw [treeOf, ih (i + 1) _ j (by omega), Tr.get_set]
    have hm := most_lt (i := i) (by omega)
    by_cases h1 : i + 1 ≤ j
    · rw [if_pos h1, if_pos (show i ≤ j by omega), if_neg (show ¬ (j = i ∧ i + 1 < 2 ^ depth) from fun q => by omega)]
      have : j - i = (j - (i + 1)) + 1 := by omega
      rw [this, List.getElem?_cons_succ]
    · rw [if_neg h1]
      by_cases h2 : j = i
      · subst h2; rw [if_pos ⟨rfl, hm⟩, if_pos (Nat.le_refl _), Nat.sub_self]; rfl
      · rw [if_neg (fun q => h2 q.1), if_neg (show ¬ i ≤ j by omega)]

/-- n slots, the first of which are told -/
def TM.of (l : List Value) (n : Nat) (h : n ≤ most) : TM := ⟨n, treeOf l 0 .leaf, h⟩
theorem TM.of_toL {l : List Value} {n : Nat} {h : n ≤ most} (hl : l.length ≤ n) : (TM.of l n h).toL = l ++ List.replicate (n - l.length) undef := by
  apply List.ext_getElem?
  intro j
  rw [TM.get?]
  show (match Nat.blt j n with | true => _ | false => _) = _
  cases hj : Nat.blt j n with
  | true =>
    have hj' := of_blt hj
    have e : (TM.of l n h).at j = match l[j]? with | some v => v | none => undef := by
      unfold TM.at TM.of
      simp only [hj]
      rw [treeOf_get l 0 .leaf j (by omega), if_pos (Nat.zero_le _), Nat.sub_zero]
      cases l[j]? with
      | some v => rfl
      | none => rfl
    rw [e]
    by_cases hlt : j < l.length
    · rw [List.getElem?_append_left hlt, List.getElem?_eq_getElem hlt]
    · rw [List.getElem?_append_right (by omega), List.getElem?_eq_none (by omega), List.getElem?_replicate, if_pos (by omega)]
  | false =>
    have hj' : ¬ j < n := fun q => by rw [to_blt q] at hj; cases hj
    rw [List.getElem?_eq_none]
    simp only [List.length_append, List.length_replicate]
    omega

def resultT (P : Program) (σ : St) (tm : TM) : ResultVar → R Value
  | .tmp t => pure (tm.at t)
  | .cell a t => loadV P σ t (tm.at a)
def resultsT (P : Program) (fn : Func) (σ : St) (tm : TM) : R Value := do
  let vs ← fn.results.toList.mapM (resultT P σ tm)
  match vs with
  | [v] => pure v
  | vs => pure (.tuple vs.toArray)
theorem resultsT_eq (P : Program) (fn : Func) (σ : St) (m : TM) : resultsV P fn σ m.toL = resultsT P fn σ m := by
  have : resultV P σ m.toL = resultT P σ m := by
    funext x
    cases x with
    | tmp t => simp only [resultV, resultT, TM.getD]
    | cell a t => simp only [resultV, resultT, TM.getD]
  unfold resultsV resultsT
  rw [this]
  congr 1

def callT (P : Program) (ov : FuncId → Option (List Value → St → R (Value × St))) (run : Code → TM → St → R (Ex × TM × St)) (f : FuncId) (args : List Value) (σ : St) : R (Value × St) :=
  match ov f with
  | some g => g args σ
  | none =>
    match P.funcs[f]? with
    | none => none
    | some fn =>
      match fn.body with
      | none => none
      | some c =>
        match h : Nat.ble fn.ntmps most with
        | false => none
        | true =>
          match Nat.ble args.length fn.ntmps with
          | false => none
          | true =>
            match run c (TM.of args fn.ntmps (of_ble h)) σ with
            | some (.normal, tm, σ) => do pure (← resultsT P fn σ tm, σ)
            | some (.ret, tm, σ) => do pure (← resultsT P fn σ tm, σ)
            | _ => none

def runT (P : Program) (ov : FuncId → Option (List Value → St → R (Value × St))) : Nat → Option Code → Code → TM → St → R (Ex × TM × St)
  | 0, _, _, _, _ => none
  | n + 1, some a, c, tm, σ =>
    match runT P ov n none c tm σ with
    | some (.goto l, tm, σ) =>
      (match findLabel a l with
      | some rest => runT P ov n (some a) rest tm σ
      | none => some (.goto l, tm, σ))
    | r => r
  | n + 1, none, c, tm, σ =>
    match c with
    | .skip | .label _ => some (.normal, tm, σ)
    | .region _ ops draw =>
      (match regionT P (callT P ov (runT P ov n none)) ops draw tm σ with
      | some (tm, σ) => some (.normal, tm, σ)
      | none => none)
    | .seq a b =>
      (match runT P ov n none a tm σ with
      | some (.normal, tm, σ) => runT P ov n none b tm σ
      | r => r)
    | .cond x a b =>
      (match evalT tm x with
      | .bool true => runT P ov n none a tm σ
      | .bool false => runT P ov n none b tm σ
      | _ => none)
    | .block id a =>
      (match runT P ov n none a tm σ with
      | some (.exit i, tm, σ) => if Nat.beq i id then some (.normal, tm, σ) else some (.exit i, tm, σ)
      | r => r)
    | .loop a =>
      (match runT P ov n none a tm σ with
      | some (.normal, tm, σ) => runT P ov n none (.loop a) tm σ
      | r => r)
    | .exit id => some (.exit id, tm, σ)
    | .goto l => some (.goto l, tm, σ)
    | .ret => some (.ret, tm, σ)
    | .scope a => runT P ov n (some a) a tm σ
    | _ => none

variable {ov : FuncId → Option (List Value → St → R (Value × St))}
theorem callT_sound {runF : Code → TM → St → R (Ex × TM × St)} {run : Code → List Value → St → R (Ex × List Value × St)} (hr : ∀ c m σ e m' σ', runF c m σ = some (e, m', σ') → run c m.toL σ = some (e, m'.toL, σ')) :
    ∀ f args σ v, callT P ov runF f args σ = some v → callV P ov run f args σ = some v := by
  intro f args σ v h
  unfold callT at h
  unfold callV
  cases hov : ov f with
  | some g => simp only [hov] at h ⊢; exact h
  | none =>
    simp only [hov] at h ⊢
    split at h
    · cases h
    · rename_i fn hf
      split at h
      · cases h
      · rename_i c hb
        split at h
        · cases h
        · rename_i hn
          split at h
          · cases h
          · rename_i ha
            have hL := TM.of_toL (h := of_ble hn) (of_ble ha)
            simp only [want, hf, hb, bind, Option.bind_some]
            split at h
            · rename_i tm1 σ1 h1
              have h2 := hr _ _ _ _ _ _ h1
              rw [hL] at h2
              simp only [h2, Option.bind_some, resultsT_eq]
              exact h
            · rename_i tm1 σ1 h1
              have h2 := hr _ _ _ _ _ _ h1
              rw [hL] at h2
              simp only [h2, Option.bind_some, resultsT_eq]
              exact h
            · cases h

theorem runT_sound : ∀ (n : Nat) (sc : Option Code) (c : Code) (m : TM) (σ : St) (e : Ex) (m' : TM) (σ' : St), runT P ov n sc c m σ = some (e, m', σ') → runV P ov n sc c m.toL σ = some (e, m'.toL, σ') := by
  intro n
  induction n with
  | zero => intro sc c m σ e m' σ' h; simp [runT] at h
  | succ n ih =>
    intro sc c m σ e m' σ' h
    cases sc with
    | some A =>
      simp only [runT] at h
      simp only [runV, bind]
      cases h1 : runT P ov n none c m σ with
      | none => rw [h1] at h; cases h
      | some r =>
        obtain ⟨e1, m1, σ1⟩ := r
        rw [h1] at h
        rw [ih _ _ _ _ _ _ _ h1]
        simp only [Option.bind_some]
        cases e1 with
        | goto l =>
          simp only at h ⊢
          split at h
          · rename_i rest hf; rw [hf]; exact ih _ _ _ _ _ _ _ h
          · rename_i hf; rw [hf]
            simp only [Option.some.injEq, Prod.mk.injEq] at h
            obtain ⟨rfl, rfl, rfl⟩ := h
            rfl
        | _ =>
          simp only [Option.some.injEq, Prod.mk.injEq] at h
          obtain ⟨rfl, rfl, rfl⟩ := h
          rfl
    | none =>
      cases c <;> simp only [runT] at h <;> simp only [runV]
      case skip | label | exit | goto | ret =>
        simp only [Option.some.injEq, Prod.mk.injEq] at h
        obtain ⟨rfl, rfl, rfl⟩ := h
        rfl
      case region id ops draw =>
        split at h
        · rename_i tm1 σ1 h1
          simp only [Option.some.injEq, Prod.mk.injEq] at h
          obtain ⟨rfl, rfl, rfl⟩ := h
          rw [regionT_sound (callT_sound (fun c m σ e m' σ' => ih none c m σ e m' σ')) h1]
          rfl
        · cases h
      case seq x y =>
        cases h1 : runT P ov n none x m σ with
        | none => rw [h1] at h; cases h
        | some r =>
          obtain ⟨e1, m1, σ1⟩ := r
          rw [h1] at h
          simp only [bind, ih _ _ _ _ _ _ _ h1, Option.bind_some]
          cases e1 with
          | normal => exact ih _ _ _ _ _ _ _ h
          | _ =>
            simp only [Option.some.injEq, Prod.mk.injEq] at h
            obtain ⟨rfl, rfl, rfl⟩ := h
            rfl
      case cond x y z =>
        rw [evalT_eq]
        split at h
        · rename_i hb; simp only [hb]; exact ih _ _ _ _ _ _ _ h
        · rename_i hb; simp only [hb]; exact ih _ _ _ _ _ _ _ h
        · cases h
      case block id x =>
        cases h1 : runT P ov n none x m σ with
        | none => rw [h1] at h; cases h
        | some r =>
          obtain ⟨e1, m1, σ1⟩ := r
          rw [h1] at h
          simp only [bind, ih _ _ _ _ _ _ _ h1, Option.bind_some]
          cases e1 with
          | exit i =>
            simp only at h ⊢
            split at h
            · rename_i hi
              simp only [Option.some.injEq, Prod.mk.injEq] at h
              obtain ⟨rfl, rfl, rfl⟩ := h
              rw [if_pos hi]; rfl
            · rename_i hi
              simp only [Option.some.injEq, Prod.mk.injEq] at h
              obtain ⟨rfl, rfl, rfl⟩ := h
              rw [if_neg hi]; rfl
          | _ =>
            simp only [Option.some.injEq, Prod.mk.injEq] at h
            obtain ⟨rfl, rfl, rfl⟩ := h
            rfl
      case loop x =>
        cases h1 : runT P ov n none x m σ with
        | none => rw [h1] at h; cases h
        | some r =>
          obtain ⟨e1, m1, σ1⟩ := r
          rw [h1] at h
          simp only [bind, ih _ _ _ _ _ _ _ h1, Option.bind_some]
          cases e1 with
          | normal => exact ih _ _ _ _ _ _ _ h
          | _ =>
            simp only [Option.some.injEq, Prod.mk.injEq] at h
            obtain ⟨rfl, rfl, rfl⟩ := h
            rfl
      case scope x => exact ih _ _ _ _ _ _ _ h
      all_goals cases h

/-- run pieces, each to its end -/
def runLT (P : Program) (ov : FuncId → Option (List Value → St → R (Value × St))) (fuel : Nat) : List Code → TM → St → Option (TM × St)
  | [], tm, σ => some (tm, σ)
  | c :: l, tm, σ => match runT P ov fuel none c tm σ with
    | some (.normal, tm, σ) => runLT P ov fuel l tm σ
    | _ => none
theorem runLT_sound {fuel : Nat} : ∀ (l : List Code) {m m' : TM} {σ σ' : St}, runLT P ov fuel l m σ = some (m', σ') → runL P ov fuel l m.toL σ = some (m'.toL, σ') := by
  intro l
  induction l with
  | nil =>
    intro m m' σ σ' h
    simp only [runLT, Option.some.injEq, Prod.mk.injEq] at h
    obtain ⟨rfl, rfl⟩ := h
    rfl
  | cons c l ih =>
    intro m m' σ σ' h
    simp only [runLT] at h
    split at h
    · rename_i tm1 σ1 h1
      simp only [runL, runT_sound _ _ _ _ _ _ _ _ h1]
      exact ih h
    · cases h
end
end Go.Proofs.Ytbhjhffglcipbaa.AS
namespace Go.Proofs.Ytbhjhffglcipbaa.AS
open Go
set_option linter.unusedSectionVars false
set_option linter.unusedVariables false
set_option linter.unusedSimpArgs false

theorem tmps_getD (a : Act) (t : Nat) : a.tmps.getD t undef = a.tmps.toList.getD t undef := by
  simp [Array.getD_eq_getD_getElem?, List.getD_eq_getElem?_getD]

/-! ## an operation by hand, where the little machine can't see: what it comes to is told -/
def Val (a : Act) (t : Nat) (v : Value) : Prop := a.tmps.getD t undef = v
theorem Val.put {a : Act} {t d : Nat} {u v : Value} (h : Val a t v) (ne : t ≠ d) : Val (a.put (some d) u) t v := by
  unfold Val at *
  simp only [Act.put]
  rw [← h]
  simp [Array.getD_eq_getD_getElem?, Array.getElem?_setIfInBounds, Ne.symm ne]
theorem Val.self {a : Act} {d : Nat} {u : Value} (h : d < a.tmps.size) : Val (a.put (some d) u) d u := by
  unfold Val
  simp [Act.put, Array.getD_eq_getD_getElem?, Array.getElem?_setIfInBounds, h]
theorem size_put {a : Act} {d : Option Nat} {u : Value} : (a.put d u).tmps.size = a.tmps.size := by
  cases d <;> simp [Act.put]

theorem wpOp_val {P : Program} {ops : Array Oper} {Q : Exit → Act → World → Prop} {i d : Nat} {o : Oper} {a : Act} {w : World} {v : Value} {K : Act → World → Prop} (ho : ops[i]? = some o) (hg : o.guard = none) (hd : o.dst = some d)
    (hx : (execOp a.eval o).run P w = .ok (.value v) w) (hK : K (a.put (some d) v) w) : wpOp P ops Q i K a w := by
  simp only [wpOp, ho]
  have : Region.wanted o (yielded ops a.tmps) = true := by simp [Region.wanted, hg]
  rw [if_pos this]
  left
  unfold Oper.wp
  rw [hx, Oper.upon_value, hd]
  exact hK

theorem At.junk {P : Program} {S : Sym} {B : Nat} {W : World} {σ : St} {tm : List Value} {a : Act} {w : World} (hat : At P S B W σ tm a w) {d : Nat} {u : Value} (hj : tm.getD d undef = .chan none) : At P S B W σ tm (a.put (some d) u) w := by
  obtain ⟨ρ, h⟩ := hat
  refine ⟨ρ, h.gr, h.hr, ?_, h.df, h.bel, h.size, h.fresh⟩
  have h2 := @VL.put S mute ρ tm a h.vl (some d) (.chan none) u (@VR.junk S ρ u)
  have e : putV tm (some d) (.chan none) = tm := by
    simp only [putV]
    apply List.ext_getElem?
    intro j
    rw [List.getElem?_set]
    split
    · rename_i hj'; subst hj'
      split
      · rename_i h3
        rw [List.getD_eq_getElem?_getD, List.getElem?_eq_getElem h3] at hj
        rw [List.getElem?_eq_getElem h3]; exact congrArg some hj.symm
      · rename_i h3; rw [List.getElem?_eq_none (by omega)]
    · rfl
  rwa [e] at h2

theorem At.len {P : Program} {S : Sym} {B : Nat} {W : World} {σ : St} {tm : List Value} {a : Act} {w : World} (hat : At P S B W σ tm a w) : a.tmps.size = tm.length := by
  obtain ⟨ρ, h⟩ := hat
  have := @VL.length S ρ _ _ h.vl
  simpa using this.symm
theorem At.val {P : Program} {S : Sym} {B : Nat} {W : World} {σ : St} {tm : List Value} {a : Act} {w : World} (hat : At P S B W σ tm a w) {t i : Nat} (ht : tm.getD t undef = .chan (some i)) : Val a t (S.val i) := by
  obtain ⟨ρ, h⟩ := hat
  have := @VL.getD S ρ _ _ h.vl t
  rw [ht] at this
  unfold Val
  rw [tmps_getD]
  generalize a.tmps.toList.getD t undef = u at this
  cases this with
  | leaf h => simp [leaf] at h
  | sym h => exact h.symm
/-- a slot of which nothing was known is told a symbol -/
theorem At.tell {P : Program} {S : Sym} {B : Nat} {W : World} {σ : St} {tm : List Value} {a : Act} {w : World} (hat : At P S B W σ tm a w) {t i : Nat} (ht : Val a t (S.val i)) : At P S B W σ (tm.set t (.chan (some i))) a w := by
  refine hat.slot t _ fun ρ _ => ?_
  unfold Val at ht
  rw [tmps_getD] at ht
  rw [ht]
  exact @VR.sym S ρ i _ rfl

/-- a row's element's place, and what stands there -/
theorem run_indexAt {P : Program} {w : World} {t e : TypeId} {x : Addr} {n c : Nat} {i : Int} {k : IntKind} (hu : P.underlying t = some (.slice e)) (hs : (P.info? e).map (·.size) = some 1) (h0 : 0 ≤ i) (hn : i < n) :
    (Instr.indexAt t (.slice (some x) n c) (.int k i)).run P w = .ok (.pointer (some (x.add i.toNat))) w := by
  obtain ⟨inf, h1, h2⟩ := Option.map_eq_some_iff.1 hs
  have hund : (underlying t).run P w = .ok (.slice e) w := by simp [underlying, hu]
  simp [Instr.indexAt, asIntOf, hund, h0, hn, sizeOf, typeInfo, h1, h2]

theorem run_loadAt {P : Program} {w : World} {t : TypeId} {x : Addr} {v : Value} (hag : aggT P t = some false) (hc : w.cell? x = some v) : (Instr.loadAt t (.pointer (some x))).run P w = .ok v w := by
  have hl : (load x).run P w = .ok v w := by simp [hc]
  simp [Instr.loadAt, Instr.sureAddr, loadVar, @run_agg plainSym P w t false hag, hl, hc]
end Go.Proofs.Ytbhjhffglcipbaa.AS
namespace Go.Proofs.Ytbhjhffglcipbaa.AS
open Go Go.RowKit
set_option linter.unusedSectionVars false
set_option linter.unusedVariables false
set_option linter.unusedSimpArgs false

/-! ## as At, but some old blocks (X) may turn -/
structure AtXR (P : Program) (S : Sym) (X : Nat → Prop) (B : Nat) (W : World) (ρ : Rho) (σ : St) (tm : List Value) (a : Act) (w : World) : Prop where
  gr : GR P ρ
  hr : @HR S ρ σ w
  vl : @VL S ρ tm a.tmps.toList
  df : a.defers = []
  os : w.os = W.os
  tape : w.tape = W.tape
  output : w.output = W.output
  keep : ∀ p, p < B → ¬ X p → w.heap[p]? = W.heap[p]?
  size : B ≤ w.heap.size
  fresh : ∀ b o l, σ.get b = some o → writable o = true → ρ b = some l → B ≤ l.pb ∨ X l.pb
def AtX (P : Program) (S : Sym) (X : Nat → Prop) (B : Nat) (W : World) (σ : St) (tm : List Value) (a : Act) (w : World) : Prop := ∃ ρ, AtXR P S X B W ρ σ tm a w

theorem AtXR.step {P : Program} {S : Sym} {X : Nat → Prop} {B : Nat} {W : World} {ρ ρ' : Rho} {σ σ' : St} {tm tm' : List Value} {a a' : Act} {w w' : World} (h : AtXR P S X B W ρ σ tm a w) (e : Ext ρ σ w ρ' σ' w')
    (hr : @HR S ρ' σ' w') (ht : @VL S ρ' tm' a'.tmps.toList) (hd : a'.defers = []) : AtXR P S X B W ρ' σ' tm' a' w' := by
  refine ⟨fun g hg => let ⟨l, h1, h2⟩ := h.gr g hg; ⟨l, e.le _ _ h1, h2⟩, hr, ht, hd, e.os.trans h.os, e.tape.trans h.tape, e.output.trans h.output, fun p hp hX => ?_, Nat.le_trans h.size e.heap, fun b o l h1 h2 h3 => ?_⟩
  · have hs := h.size
    rw [e.frame p (by omega) (fun b o l h1 h2 h3 _ q => ?_)]
    · exact h.keep p hp hX
    · rcases h.fresh b o l h1 h2 h3 with k | k
      · omega
      · exact hX (q ▸ k)
  · have hs := h.size
    rcases e.wr b o l h1 h3 with ⟨k1, o0, k2, k3⟩ | k | ⟨b0, o0, l0, k1, k2, k3, k4, _⟩
    · exact h.fresh b o0 l k2 (k3 h2) k1
    · exact .inl (by omega)
    · rw [← k4]; exact h.fresh b0 o0 l0 k1 k2 k3

mutual
theorem VR.congr0 {S : Sym} {ρ : Rho} : ∀ {v v' : Value}, VR ρ v v' → ∀ S' : Sym, (∀ i, @Sym.val S' i = @Sym.val S i) → @VR S' ρ v v'
  | _, _, .leaf h0 => fun S' h => @VR.leaf S' ρ _ h0
  | _, _, .ptr h0 => fun S' h => @VR.ptr S' ρ _ _ h0
  | _, _, .slice h0 hc => fun S' h => @VR.slice S' ρ _ _ _ _ _ h0 hc
  | _, _, .empty h0 => fun S' h => @VR.empty S' ρ _ _ h0
  | _, _, .map h0 => fun S' h => @VR.map S' ρ _ _ h0
  | _, _, .func hp hc => fun S' h => @VR.func S' ρ _ _ _ _ _ (VL.congr0 hp S' h) (VL.congr0 hc S' h)
  | _, _, .agg h0 => fun S' h => @VR.agg S' ρ _ _ (VL.congr0 h0 S' h)
  | _, _, .tuple h0 => fun S' h => @VR.tuple S' ρ _ _ (VL.congr0 h0 S' h)
  | _, _, .sym (i := i) h0 => fun S' h => @VR.sym S' ρ i _ ((h i).trans h0)
  | _, _, .junk => fun S' h => @VR.junk S' ρ _
theorem VL.congr0 {S : Sym} {ρ : Rho} : ∀ {v v' : List Value}, VL ρ v v' → ∀ S' : Sym, (∀ i, @Sym.val S' i = @Sym.val S i) → @VL S' ρ v v'
  | _, _, .nil => fun S' h => @VL.nil S' ρ
  | _, _, .cons h0 t => fun S' h => @VL.cons S' ρ _ _ _ _ (VR.congr0 h0 S' h) (VL.congr0 t S' h)
end
theorem VR.congr (S S' : Sym) (h : ∀ i, @Sym.val S' i = @Sym.val S i) {ρ : Rho} {v v' : Value} (hv : @VR S ρ v v') : @VR S' ρ v v' := @VR.congr0 S ρ v v' hv S' h
theorem VL.congr (S S' : Sym) (h : ∀ i, @Sym.val S' i = @Sym.val S i) {ρ : Rho} {v v' : List Value} (hv : @VL S ρ v v') : @VL S' ρ v v' := @VL.congr0 S ρ v v' hv S' h
theorem ML.congr {S S' : Sym} (h : ∀ i, @Sym.val S' i = @Sym.val S i) {ρ : Rho} : ∀ {l : List (Value × Value)} {l' : List MapEntry}, @ML S ρ l l' → @ML S' ρ l l' := by
  intro l
  induction l with
  | nil => intro l' hm; cases hm; exact @ML.nil S' ρ
  | cons x l ih =>
    intro l' hm
    cases hm with
    | cons hf hk hv t => exact @ML.cons S' ρ _ _ _ _ _ hf hk (VR.congr S S' h hv) (ih t)
theorem ObR.congr {S S' : Sym} (h : ∀ i, @Sym.val S' i = @Sym.val S i) (he : ∀ i, @Sym.ext S' i = @Sym.ext S i) {ρ : Rho} {w : World} {l : Loc} {o : Ob} (hr : @ObR S ρ w l o) : @ObR S' ρ w l o := by
  cases o with
  | blk cs u ro ty =>
    obtain ⟨h1, h2, h3, h4, C, t, fr, h5, h6, h7, h8, h9⟩ := hr
    exact ⟨h1, h2, h3, h4, C, t, fr, h5, h6, h7, fun i v hi => let ⟨v', a, b⟩ := h8 i v hi; ⟨v', a, VR.congr S S' h b⟩, h9⟩
  | mp es => obtain ⟨E, clk, h1, h2, h3⟩ := hr; exact ⟨E, clk, h1, ML.congr (S := S) (S' := S') h h2, h3⟩
  | it mb since seen => exact hr
  | ext tag =>
    have h0 : ∃ o, w.heap[l.pb]? = some o ∧ @Sym.ext S tag o l.pb := hr
    show ∃ o, w.heap[l.pb]? = some o ∧ @Sym.ext S' tag o l.pb
    rw [he]; exact h0

/-- a block that is read alone, over what lies there already -/
theorem HR.addRo {S : Sym} {ρ : Rho} {σ σ' : St} {w : World} (hr : @HR S ρ σ w) {o : Ob} {b : Nat} {l : Loc} (h : σ.new o = some (b, σ')) (hro : writable o = false) (ho : @ObR S (ρ.put b l) w l o)
    (hsep : ∀ b0 o0 l0, σ.get b0 = some o0 → writable o0 = true → ρ b0 = some l0 → l0.pb ≠ l.pb) : @HR S (ρ.put b l) σ' w := by
  obtain ⟨rfl, hm, hn, hmk, hlog, hget⟩ := St.new_eq h
  have hnone : ρ σ.next = none := hr.dom _ (Nat.le_refl _)
  have hle := Rho.put_le (l := l) hnone
  refine @HR.mk S _ _ _ ?_ ?_ ?_ (by have := hr.mkn; omega) (fun f hf => @WinR.mono S _ _ hle f (hr.win f hf))
  · intro x ox lx h1 h2
    rw [hget] at h1
    by_cases e : x = σ.next
    · subst e
      rw [if_pos rfl] at h1; cases h1
      rw [Rho.put_self] at h2; cases h2
      exact ho
    · rw [if_neg e] at h1
      rw [Rho.put_ne e] at h2
      exact @ObR.mono S _ _ hle _ _ _ (hr.ob x ox lx h1 h2)
  · intro x y ox oy lx ly hne h1 hw h3 h4 h5
    rw [hget] at h1 h3
    by_cases ex : x = σ.next
    · subst ex; rw [if_pos rfl] at h1; cases h1; rw [hro] at hw; cases hw
    · rw [if_neg ex] at h1; rw [Rho.put_ne ex] at h4
      by_cases ey : y = σ.next
      · subst ey
        rw [Rho.put_self] at h5; cases h5
        exact hsep x ox lx h1 hw h4
      · rw [if_neg ey] at h3; rw [Rho.put_ne ey] at h5
        exact hr.sep x y ox oy lx ly hne h1 hw h3 h4 h5
  · intro x hx
    rw [Rho.put_ne (by omega)]
    exact hr.dom x (by omega)

section
variable {P : Program} {ov : FuncId → Option (List Value → St → R (Value × St))} {S : Sym} {X : Nat → Prop} {B : Nat} {W : World}

theorem AtX.run (O : Orc) (hO : @OrcOK S O P) (hm : P.follows .mixedOrders = true) (hovS : ∀ f g, ov f = some g → @SimFn S P f g) (hovK : ∀ f g, ov f = some g → ∀ args σ v σ', g args σ = some (v, σ') → Kept σ σ')
    {fuel : Nat} {c : Code} {t t' : TM} {σ σ' : St} {e : Ex} {a : Act} {w : World} {Q : Exit → Act → World → Prop}
    (h : @AS.runT O P ov fuel none c t σ = some (e, t', σ')) (hat : AtX P S X B W σ t.toL a w) (hQ : ∀ a' w', AtX P S X B W σ' t'.toL a' w' → Q (toExit e) a' w') : c.wp P Q a w := by
  obtain ⟨ρ, h0⟩ := hat
  refine (@run_sim S O P hO ov hm hovS hovK fuel none c t.toL σ e t'.toL σ' (@runT_sound O P ov fuel none c t σ e t' σ' h) ρ w a Q h0.gr h0.hr h0.vl h0.df ?_).wp
  intro ρ' a' w' k1 k2 k3 k4
  exact hQ a' w' ⟨ρ', h0.step k1 k2 k3 k4⟩

theorem AtX.runL (O : Orc) (hO : @OrcOK S O P) (hm : P.follows .mixedOrders = true) (hovS : ∀ f g, ov f = some g → @SimFn S P f g) (hovK : ∀ f g, ov f = some g → ∀ args σ v σ', g args σ = some (v, σ') → Kept σ σ')
    {fuel : Nat} {m : List Code} {t' : TM} {σ' : St} {Q : Exit → Act → World → Prop} : ∀ (l : List Code) {t : TM} {σ : St} {a : Act} {w : World},
    @runLT O P ov fuel l t σ = some (t', σ') → AtX P S X B W σ t.toL a w → (∀ a' w', AtX P S X B W σ' t'.toL a' w' → wpL P Q m a' w') → wpL P Q (l ++ m) a w := by
  intro l
  induction l with
  | nil =>
    intro t σ a w h hat hQ
    simp only [AS.runLT, Option.some.injEq, Prod.mk.injEq] at h
    obtain ⟨rfl, rfl⟩ := h
    exact hQ a w hat
  | cons c l ih =>
    intro t σ a w h hat hQ
    simp only [AS.runLT] at h
    split at h
    · rename_i t1 σ1 h1
      simp only [List.cons_append, wpL]
      exact AtX.run O hO hm hovS hovK h1 hat (fun a' w' hat' => ih h hat' hQ)
    · cases h

theorem AtX.restate {π : List (Option Nat)} {θ : List Value} {n : Nat} {σc σ : St} {tmc tm : List Value} {a : Act} {w : World} (h : stB P π θ n σc tmc σ tm = true) (hat : AtX P S X B W σ tm a w) :
    ∃ hθ : θ.all okθ = true, AtX P (Sym.of S θ hθ) X B W σc tmc a w := by
  obtain ⟨ρ, h0⟩ := hat
  obtain ⟨hθ, k1, k2, k3⟩ := AS.restate h h0.hr h0.vl h0.gr
  refine ⟨hθ, ren π ρ, k3, k1, k2, h0.df, h0.os, h0.tape, h0.output, h0.keep, h0.size, fun b o l h1 h2 h3 => ?_⟩
  unfold stB at h
  simp only [Bool.and_eq_true] at h
  have hm := h.2.1
  unfold ren at h3
  cases hp : piOf π b with
  | none => rw [hp] at h3; cases h3
  | some b' =>
    rw [hp] at h3
    have hb : b < π.length := by
      unfold piOf at hp
      cases hb : π[b]? with
      | none => rw [hb] at hp; cases hp
      | some y => exact (List.getElem?_eq_some_iff.1 hb).1
    have := List.all_eq_true.1 hm b (List.mem_range.2 hb)
    rw [hp] at this
    simp only [h1] at this
    split at this
    · cases this
    · rename_i o' ho
      exact h0.fresh b' o' l ho (by rw [← obB_writable this]; exact h2) h3

/-- one element of a slice that the symbol s is: its cells, as symbols or leaves, in a new block that is read alone -/
theorem AtX.window {σ σ' : St} {tm : List Value} {a : Act} {w : World} (hat : AtX P S X B W σ tm a w) {s b : Nat} {k : Value} {z : Nat} {us : List Value} (hnew : σ.new (.blk us 0 true none) = some (b, σ')) {x : Addr} {n c : Nat} {kd : IntKind} {i : Int} {C : Array Value} {t : TypeId} {fr : Nat × Nat}
    (hs : S.val s = .slice (some x) n c) (hk : @idxVal S k = .int kd i) (h0 : 0 ≤ i) (hn : i < n) (hx : x.spot = none) (hz : us.length = z) (hxB : x.block < B) (hxX : ¬ X x.block)
    (hC : w.heap[x.block]? = some (.cells C t fr)) (hfit : x.off + i.toNat * z + z ≤ C.size) (hcells : ∀ (j : Nat) (u : Value), us[j]? = some u → ∃ v, C[x.off + i.toNat * z + j]? = some v ∧ ∀ ρ : Rho, @VR S ρ u v) :
    AtX P { S with wins := ⟨s, k, b, z⟩ :: S.wins } X B W σ' tm a w := by
  obtain ⟨ρ, h⟩ := hat
  have hnone : ρ b = none := by obtain ⟨rfl, _⟩ := St.new_eq hnew; exact h.hr.dom _ (Nat.le_refl _)
  let l : Loc := ⟨x.block, x.off + i.toNat * z, z, 0, z, true⟩
  have hle := Rho.put_le (l := l) hnone
  have hob : @ObR S (ρ.put b l) w l (.blk us 0 true none) := by
    refine ⟨rfl, rfl, hz.symm, by simp only [l]; omega, C, t, fr, hC, by simp only [l]; omega, fun e => (by cases e), fun j u hu => ?_, fun t' e => (by cases e)⟩
    obtain ⟨v, h1, h2⟩ := hcells j u hu
    exact ⟨v, h1, h2 _⟩
  have hr1 := HR.addRo h.hr hnew rfl hob (fun b0 o0 l0 h1 h2 h3 e => by
    rcases h.fresh b0 o0 l0 h1 h2 h3 with q | q
    · have e' : l0.pb = x.block := e
      omega
    · have e' : l0.pb = x.block := e
      exact hxX (e' ▸ q))
  refine ⟨ρ.put b l, fun g hg => let ⟨l, h1, h2⟩ := h.gr g hg; ⟨l, hle _ _ h1, h2⟩, ?_, VL.congr S { S with wins := ⟨s, k, b, z⟩ :: S.wins } (fun _ => rfl) (@VL.mono S _ _ hle _ _ h.vl), h.df, h.os, h.tape, h.output, h.keep, h.size, ?_⟩
  · refine @HR.mk { S with wins := ⟨s, k, b, z⟩ :: S.wins } _ _ _ (fun b1 o l h1 h2 => @ObR.congr S { S with wins := ⟨s, k, b, z⟩ :: S.wins } (fun _ => rfl) (fun _ => rfl) _ _ _ _ (hr1.ob b1 o l h1 h2)) hr1.sep hr1.dom hr1.mkn ?_
    intro f hf
    rcases List.mem_cons.1 hf with rfl | hf
    · exact ⟨x, n, c, kd, i, l, hs, hk, h0, hn, Rho.put_self _ _ _, hx, rfl, rfl⟩
    · exact hr1.win f hf
  · intro b0 o0 l0 h1 h2 h3
    obtain ⟨rfl, hm, hn', hmk, hlog, hget⟩ := St.new_eq hnew
    rw [hget] at h1
    by_cases e : b0 = σ.next
    · subst e; rw [if_pos rfl] at h1; cases h1; cases h2
    · rw [if_neg e] at h1
      rw [Rho.put_ne e] at h3
      exact h.fresh b0 o0 l0 h1 h2 h3
end
end Go.Proofs.Ytbhjhffglcipbaa.AS
namespace Go.Proofs.Ytbhjhffglcipbaa.AS
open Go
set_option linter.unusedSectionVars false
set_option linter.unusedVariables false
set_option linter.unusedSimpArgs false
/-! ## facts of bits: u32 -/
theorem FactOK.of_run {P : Program} {S : Sym} {b : BinOp} {t : TypeId} {x y r vx vy vr : Value} (hx : conc S x = vx) (hy : conc S y = vy) (hr : conc S r = vr) (hrun : ∀ w, (binOp b t vx vy).run P w = .ok vr w) (hc : isCell vx = true ∧ vx ≠ .nilIface)
    (hl : AS.leaf r = true ∨ isSym r = true) : FactOK P S ⟨b, t, x, y, r⟩ :=
  ⟨fun w => by show (binOp b t (conc S x) (conc S y)).run P w = .ok (conc S r) w; rw [hx, hy, hr]; exact hrun w, by show isCell (conc S x) = true ∧ conc S x ≠ .nilIface; rw [hx]; exact hc, hl⟩

section
variable {P : Program} {w : World} {t : TypeId}
theorem run_shr (a i : Nat) (hi : i < 32) : (binOp .shr t (.int .u32 a) (.int .i64 i)).run P w = .ok (.int .u32 ((a / 2 ^ i : Nat) : Int)) w := by
  have hn : ¬ ((i : Int) < 0) := by omega
  have hm : min i 32 = i := by omega
  simp only [binOp, Op.shift, if_neg hn, IntKind.bits, Int.toNat_natCast, hm]
  show Result.ok (Value.int .u32 ((a : Int).fdiv (2 ^ i))) w = _
  congr 2
  rw [Int.fdiv_eq_ediv_of_nonneg _ (by exact_mod_cast Nat.zero_le _)]
  norm_cast
theorem wrap_u32 {a : Nat} (h : a < 4294967296) : IntKind.u32.wrap (a : Int) = a := by
  simp [IntKind.wrap, IntKind.bits, IntKind.signed]
  omega
theorem run_and1 (a : Nat) (ha : a < 4294967296) : (binOp .and t (.int .u32 a) (.int .u32 1)).run P w = .ok (.int .u32 ((a % 2 : Nat) : Int)) w := by
  have e : (BitVec.ofInt 32 (a : Int) &&& BitVec.ofInt 32 1).toNat = a % 2 := by
    rw [BitVec.toNat_and]
    have h1 : (BitVec.ofInt 32 (a : Int)).toNat = a := by simp [BitVec.toNat_ofInt]; omega
    have h2 : (BitVec.ofInt 32 1).toNat = 1 := by decide
    rw [h1, h2, Nat.and_one_is_mod]
  simp only [binOp, Op.intBits, IntKind.bits, ne_eq, not_true, if_false]
  show Result.ok (Value.int .u32 (IntKind.u32.wrap ((BitVec.ofInt 32 (a : Int) &&& BitVec.ofInt 32 1).toNat : Int))) w = _
  rw [e, wrap_u32 (by omega)]
theorem run_shl1 (i : Nat) (hi : i < 32) : (binOp .shl t (.int .u32 1) (.int .i64 i)).run P w = .ok (.int .u32 ((2 ^ i : Nat) : Int)) w := by
  have hn : ¬ ((i : Int) < 0) := by omega
  have hm : min i 32 = i := by omega
  have hlt : 2 ^ i < 4294967296 := by
    have := Nat.pow_lt_pow_right (a := 2) (by omega) hi
    omega
  simp only [binOp, Op.shift, if_neg hn, IntKind.bits, Int.toNat_natCast, hm]
  show Result.ok (Value.int .u32 (IntKind.u32.wrap (1 * 2 ^ i))) w = _
  congr 2
  rw [Int.one_mul, show ((2 : Int) ^ i) = ((2 ^ i : Nat) : Int) by norm_cast]
  exact wrap_u32 hlt
end
/-- a number without its bit i -/
def struck (a i : Nat) : Nat := (BitVec.ofNat 32 a &&& ~~~ (BitVec.ofNat 32 (2 ^ i))).toNat
theorem struck_u32 (a i : Nat) : struck a i < 4294967296 := (BitVec.ofNat 32 a &&& ~~~ (BitVec.ofNat 32 (2 ^ i))).isLt
theorem struck_bit {a i j : Nat} (ha : a < 4294967296) (hi : i < 32) (hj : j < 32) : (struck a i).testBit j = (a.testBit j && !decide (j = i)) := by
  unfold struck
  rw [BitVec.testBit_toNat, BitVec.getLsbD_and, BitVec.getLsbD_not, BitVec.getLsbD_ofNat, BitVec.getLsbD_ofNat, Nat.testBit_two_pow]
  have e : decide (i = j) = decide (j = i) := by rw [decide_eq_decide]; exact eq_comm
  simp [hj, e]
theorem bit_eq (a j : Nat) : a.testBit j = decide (a / 2 ^ j % 2 = 1) := Nat.testBit_eq_decide_div_mod_eq
theorem struck_lt {a i : Nat} (ha : a < 4294967296) (hi : i < 32) (hb : a / 2 ^ i % 2 = 1) : struck a i < a := by
  have hle : struck a i ≤ a := by
    unfold struck
    rw [BitVec.toNat_and]
    refine Nat.le_trans Nat.and_le_left ?_
    rw [BitVec.toNat_ofNat]
    exact Nat.mod_le _ _
  have hne : struck a i ≠ a := by
    intro e
    have h1 := struck_bit (j := i) ha hi hi
    rw [e, bit_eq, hb] at h1
    simp at h1
  omega
theorem struck_keep {a i j : Nat} (ha : a < 4294967296) (hi : i < 32) (hj : j < 32) (hne : j ≠ i) (hb : a / 2 ^ j % 2 = 1) : struck a i / 2 ^ j % 2 = 1 := by
  have h1 := struck_bit (i := i) ha hi hj
  rw [bit_eq, bit_eq, hb] at h1
  simpa [hne] using h1

theorem run_andNot {P : Program} {w : World} {t : TypeId} (a i : Nat) : (binOp .andNot t (.int .u32 a) (.int .u32 ((2 ^ i : Nat) : Int))).run P w = .ok (.int .u32 (struck a i : Nat)) w := by
  have h1 : (BitVec.ofInt 32 (a : Int)) = BitVec.ofNat 32 a := by simp
  have h2 : (BitVec.ofInt 32 ((2 ^ i : Nat) : Int)) = BitVec.ofNat 32 (2 ^ i) := by
    rw [BitVec.ofInt_natCast]
  simp only [binOp, Op.intBits, IntKind.bits, ne_eq, not_true, if_false]
  show Result.ok (Value.int .u32 (IntKind.u32.wrap ((BitVec.ofInt 32 (a : Int) &&& ~~~ (BitVec.ofInt 32 ((2 ^ i : Nat) : Int))).toNat : Int))) w = _
  rw [h1, h2]
  show Result.ok (Value.int .u32 (IntKind.u32.wrap (struck a i : Nat))) w = _
  rw [wrap_u32 (struck_u32 a i)]
end Go.Proofs.Ytbhjhffglcipbaa.AS
namespace Go.Proofs.Ytbhjhffglcipbaa.AS
open Go Go.RowKit
set_option linter.unusedSectionVars false
set_option linter.unusedVariables false
set_option linter.unusedSimpArgs false

/-! ## to a canonical state, the symbols told by values that the check doesn't look at -/
def stB2 (P : Program) (π : List (Option Nat)) (θ : List Value) (n : Nat) (σc : St) (tmc : List Value) (σ : St) (tm : List Value) : Bool :=
  memB π θ n σc σ && (injB π && (Nat.ble π.length σc.next && (Nat.ble σc.mark σc.next && (listB (vmB π θ n) tmc tm &&
    (List.range P.globals.size).all fun g => match piOf π g with | some x => Nat.beq x g | none => false))))
theorem stB_of {P : Program} {π : List (Option Nat)} {θ : List Value} {n : Nat} {σc σ : St} {tmc tm : List Value} (hθ : θ.all okθ = true) (h : stB2 P π θ n σc tmc σ tm = true) : stB P π θ n σc tmc σ tm = true := by
  unfold stB
  unfold stB2 at h
  rw [hθ, Bool.true_and]
  exact h

section
variable {P : Program} {S : Sym} {X : Nat → Prop} {B : Nat} {W : World}
theorem AtX.tell {π : List (Option Nat)} {θ : List Value} {n : Nat} {σc σ : St} {tmc tm : List Value} {a : Act} {w : World} (hθ : θ.all okθ = true) (h : stB2 P π θ n σc tmc σ tm = true) (hat : AtX P S X B W σ tm a w) :
    AtX P (Sym.of S θ hθ) X B W σc tmc a w := by
  obtain ⟨_, h1⟩ := hat.restate (stB_of hθ h)
  exact h1

/-- a function's body, in pieces -/
theorem calls_flat {f : FuncId} {fn : Func} {c : Code} {args : List Value} {w : World} {R : Ending → World → Prop} (hf : P.funcs[f]? = some fn) (hb : fn.body = some c)
    (h : ∀ a : Act, a.tmps = (args ++ List.replicate (fn.ntmps - args.length) undef).toArray → a.defers = [] → wpL P (bodyPost P fn R) (flatC c) a w) : Calls P f args.toArray w R := by
  refine calls_of_wp hf hb (wp_flat _ _ _ _ (h _ ?_ rfl))
  simp

/-- the body is done: what it answers -/
theorem AtX.done {σ : St} {tm : List Value} {a : Act} {w : World} {fn : Func} {v : Value} {R : Ending → World → Prop} {e : Exit} (he : e = .normal ∨ e = .ret) (hat : AtX P S X B W σ tm a w) (hres : resultsV P fn σ tm = some v)
    (hR : ∀ (ρ : Rho) (v' : Value), @VR S ρ v v' → R (.returned v') w) : bodyPost P fn R e a w := by
  obtain ⟨ρ, h⟩ := hat
  obtain ⟨v', q1, q2⟩ := @results_sim S mute P (mute_ok S) ρ σ w tm a.tmps fn v h.hr h.vl hres
  rcases he with rfl | rfl
  · exact ⟨h.df, v', q1, hR ρ v' q2⟩
  · exact ⟨h.df, v', q1, hR ρ v' q2⟩
theorem AtX.below {σ : St} {tm : List Value} {a : Act} {w : World} (hat : AtX P S (fun _ => False) W.heap.size W σ tm a w) : Below W.heap.size W w := by
  obtain ⟨ρ, h⟩ := hat
  exact ⟨h.os, h.tape, h.output, h.size, fun p hp => h.keep p hp (fun q => q)⟩

/-- a first state: blocks that are read alone, and maps that may turn -/
theorem AtX.start {σ : St} {ρ : Rho} {vs0 args : List Value} {n : Nat} {a : Act} {w : World} (hgr : GR P ρ) (hr : @HR S ρ σ w) (ha : @VL S ρ vs0 args) (ht : a.tmps = (args ++ List.replicate (n - args.length) undef).toArray) (hd : a.defers = [])
    (hX : ∀ b o l, σ.get b = some o → writable o = true → ρ b = some l → X l.pb) : AtX P S X w.heap.size w σ (vs0 ++ List.replicate (n - vs0.length) undef) a w := by
  refine ⟨ρ, hgr, hr, ?_, hd, rfl, rfl, rfl, fun _ _ _ => rfl, Nat.le_refl _, fun b o l h1 h2 h3 => .inr (hX b o l h1 h2 h3)⟩
  have : @VL S ρ (List.replicate (n - vs0.length) undef) (List.replicate (n - vs0.length) undef) := by
    generalize n - vs0.length = m
    induction m with
    | zero => exact @VL.nil S _
    | succ m ih => exact @VL.cons S _ _ _ _ _ (@undef_VR S _) ih
  have hlen := @VL.length S ρ _ _ ha
  have := @VL.append S _ _ _ _ _ ha this
  rw [ht]
  simpa [hlen] using this
end
end Go.Proofs.Ytbhjhffglcipbaa.AS
namespace Go.Proofs.Ytbhjhffglcipbaa.AS
open Go
set_option linter.unusedSectionVars false
set_option linter.unusedVariables false
set_option linter.unusedSimpArgs false

def lenB (v : Value) (x : Nat × Value) : Bool := same v (.chan (some x.1))
/-- facts of sums and comparisons, and of the lengths of slices that are symbols -/
abbrev orcL (P : Program) (lens : List (Nat × Value)) (fs : List Fact) : Orc where
  orc o ev := match o.op with
    | .binOp b t x y _ => (fs.find? (factB ev b t x y)).map (·.r)
    | .call ⟨.builtin .len, args, ts⟩ =>
      match args.toList, (ts[0]?).bind fun t => P.underlying t with
      | [x], some (.slice _) => (lens.find? (lenB (ev x))).map (·.2)
      | _, _ => none
    | _ => none

def LenOK (S : Sym) (x : Nat × Value) : Prop := (∃ a n c, S.val x.1 = .slice a n c ∧ conc S x.2 = .int .i64 (n : Nat)) ∧ (leaf x.2 = true ∨ isSym x.2 = true)

theorem orcL_ok {P : Program} (S : Sym) (lens : List (Nat × Value)) (fs : List Fact) (hl : ∀ x ∈ lens, LenOK S x) (h : ∀ f ∈ fs, FactOK P S f) : @OrcOK S (orcL P lens fs) P := by
  refine @OrcOK.mk S (orcL P lens fs) P (fun f hf => by cases hf) (fun _ _ _ _ _ h => by cases h) (fun _ _ _ _ _ h => by cases h) ?_
  intro o ev v ho ρ ev' w hX
  have hbase := (@orcOK P S fs h).ok
  obtain ⟨dst, op, type, pos, after, guard⟩ := o
  cases op
  case binOp b t x y yt => exact hbase ⟨dst, .binOp b t x y yt, type, pos, after, guard⟩ ev v ho ρ ev' w hX
  case call c =>
    obtain ⟨callee, args, ts⟩ := c
    cases callee with
    | value f => cases ho
    | invoke r m => cases ho
    | builtin b =>
      cases b <;> first
        | (cases ho; done)
        | (replace ho : (match args.toList, (ts[0]?).bind fun t => P.underlying t with
              | [x], some (.slice _) => (lens.find? (lenB (ev x))).map (·.2)
              | _, _ => none) = some v := ho
           split at ho
           · rename_i x e hx ht
             rw [Option.map_eq_some_iff] at ho
             obtain ⟨⟨i, r⟩, h1, rfl⟩ := ho
             have h2 := List.find?_some h1
             obtain ⟨⟨a, n, c, k1, k2⟩, k3⟩ := hl _ (List.mem_of_find?_eq_some h1)
             simp only [Option.bind_eq_some_iff] at ht
             obtain ⟨t0, ht0, hu⟩ := ht
             have hargs : args = #[x] := by rw [← Array.toList_inj, hx]
             subst hargs
             have hx' := conc_of h2 (hX x (by simp [Op.operands, Call.operands]))
             have hx' : ev' x = .slice a n c := by rw [hx']; exact k1
             refine ⟨.int .i64 n, ?_, k2 ▸ conc_VR k3⟩
             have h3 : (Builtin.len_ ts type (#[x].map ev')).run P w = .ok (.int .i64 n) w := by
               simp only [Builtin.len_, ht0, Sem.run_bind, Sem.run_pure, goInt, List.map_toArray, List.map_cons, List.map_nil, hx']
               simp [run_und w hu]
             have h4 : (do pure (Next.value (← Builtin.len_ ts type (#[x].map ev'))) : Sem Next).run P w = .ok (.value (.int .i64 n)) w := by
               rw [Sem.run_bind, h3]; rfl
             exact h4
           · cases ho)
  all_goals cases ho
end Go.Proofs.Ytbhjhffglcipbaa.AS
