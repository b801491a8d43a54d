import Derived.Test.YtkghejleififiaaAsName
namespace Go.Proofs.Ytkghejleififiaa.AS
open Go
set_option linter.unusedSectionVars false
set_option linter.unusedVariables false
set_option linter.unusedSimpArgs false

/-- the same leaf, or the same symbol -/
def same : Value → Value → Bool
  | .bool a, .bool b => a == b
  | .int k a, .int j b => decide (k = j) && decide (a = b)
  | .float k a, .float j b => decide (k = j) && Nat.beq a b
  | .complex k a b, .complex j c d => decide (k = j) && Nat.beq a c && Nat.beq b d
  | .string a, .string b => decide (a.data.toList = b.data.toList)
  | .pointer none, .pointer none => true
  | .slice none a b, .slice none c d => Nat.beq a c && Nat.beq b d
  | .map none, .map none => true
  | .chan (some i), .chan (some j) => Nat.beq i j
  | .nilFunc, .nilFunc => true
  | .nilIface, .nilIface => true
  | _, _ => false

theorem same_eq {a b : Value} (h : same a b = true) : a = b := by
  unfold same at h
  split at h
  all_goals first
    | rfl
    | (rw [of_beq h]; done)
    | (simp only [Bool.and_eq_true, decide_eq_true_eq, beq_iff_eq] at h
       first
         | (rw [h]; done)
         | (obtain ⟨h1, h2⟩ := h; subst h1; subst h2; rfl)
         | (obtain ⟨h1, h2⟩ := h; subst h1; rw [of_beq h2])
         | (obtain ⟨⟨h1, h2⟩, h3⟩ := h; subst h1; rw [of_beq h2, of_beq h3])
         | (obtain ⟨h1, h2⟩ := h; rw [of_beq h1, of_beq h2])
         | (rw [of_beq h]))
    | (cases h; done)
    | skip
  all_goals
    (rename_i a b
     have h := of_decide_eq_true h
     have : a = b := by
       cases a; cases b
       congr 1
       exact Array.toList_inj.1 h
     rw [this])

def listB (f : Value → Value → Bool) : List Value → List Value → Bool
  | [], [] => true
  | a :: l, b :: m => f a b && listB f l m
  | _, _ => false

def vmB (π : List (Option Nat)) (θ : List Value) : Nat → Value → Value → Bool
  | 0, _, _ => false
  | n + 1, vc, v =>
    match vc, v with
    | .chan none, _ => true
    | .chan (some i), v => match θ[i]? with | some u => same u v | none => false
    | .pointer (some a), .pointer (some b) => (match piOf π a.block with | some x => Nat.beq x b.block | none => false) && Nat.beq a.off b.off && a.spot.isNone && b.spot.isNone
    | .slice (some a) n1 c1, .slice (some b) n2 c2 =>
      (match piOf π a.block with | some x => Nat.beq x b.block | none => false) && Nat.beq a.off b.off && a.spot.isNone && b.spot.isNone && Nat.beq n1 n2 && Nat.beq c1 c2
    | .map (some r), .map (some r') => (match piOf π r with | some x => Nat.beq x r' | none => false)
    | .func (.func f) p c, .func (.func g) p' c' => Nat.beq f g && listB (vmB π θ n) p.toList p'.toList && listB (vmB π θ n) c.toList c'.toList
    | .agg cs, .agg cs' => listB (vmB π θ n) cs.toList cs'.toList
    | .tuple cs, .tuple cs' => listB (vmB π θ n) cs.toList cs'.toList
    | a, b => leaf a && same a b

theorem listB_vml {π : List (Option Nat)} {θ : List Value} {f : Value → Value → Bool} (hf : ∀ a b, f a b = true → VM π θ a b) : ∀ {l m : List Value}, listB f l m = true → VML π θ l m
  | [], [], _ => .nil
  | [], _ :: _, h => by simp [listB] at h
  | _ :: _, [], h => by simp [listB] at h
  | a :: l, b :: m, h => by
    simp only [listB, Bool.and_eq_true] at h
    exact .cons (hf _ _ h.1) (listB_vml hf h.2)

theorem vmB_vm {π : List (Option Nat)} {θ : List Value} : ∀ (n : Nat) {vc v : Value}, vmB π θ n vc v = true → VM π θ vc v := by
  intro n
  induction n with
  | zero => intro vc v h; simp [vmB] at h
  | succ n ih =>
    have hl : ∀ {l m : List Value}, listB (vmB π θ n) l m = true → VML π θ l m := fun h => listB_vml (fun a b q => ih q) h
    intro vc v h
    unfold vmB at h
    split at h
    · exact .junk
    · split at h
      · rename_i u hu; exact .sym (same_eq h ▸ hu)
      · cases h
    · rename_i a b
      obtain ⟨ab, ao, as⟩ := a
      obtain ⟨bb, bo, bs⟩ := b
      simp only [Bool.and_eq_true, Option.isNone_iff_eq_none] at h
      obtain ⟨⟨⟨h1, h2⟩, h3⟩, h4⟩ := h
      subst h3 h4
      split at h1
      · rename_i x hx
        have := of_beq h1; subst this
        have := of_beq h2; subst this
        exact .ptr rfl hx
      · cases h1
    · rename_i a n1 c1 b n2 c2
      obtain ⟨ab, ao, as⟩ := a
      obtain ⟨bb, bo, bs⟩ := b
      simp only [Bool.and_eq_true, Option.isNone_iff_eq_none] at h
      obtain ⟨⟨⟨⟨⟨h1, h2⟩, h3⟩, h4⟩, h5⟩, h6⟩ := h
      subst h3 h4
      split at h1
      · rename_i x hx
        have := of_beq h1; subst this
        have := of_beq h2; subst this
        have := of_beq h5; subst this
        have := of_beq h6; subst this
        exact .slice rfl hx
      · cases h1
    · split at h
      · rename_i x hx
        have := of_beq h; subst this
        exact .map hx
      · cases h
    · simp only [Bool.and_eq_true] at h
      obtain ⟨⟨h1, h2⟩, h3⟩ := h
      have := of_beq h1; subst this
      exact .func (hl h2) (hl h3)
    · exact .agg (hl h)
    · exact .tuple (hl h)
    · simp only [Bool.and_eq_true] at h
      have := same_eq h.2; subst this
      exact .leaf h.1
end Go.Proofs.Ytkghejleififiaa.AS
