import Derived.Test.YtkghejleififiaaAsTop
namespace Go.Proofs.Ytkghejleififiaa.AS
open Go
set_option linter.unusedSectionVars false
set_option linter.unusedVariables false
set_option linter.unusedSimpArgs false

/-- what a symbol may be told to stand for: a leaf that is no bool, or a symbol -/
def okθ : Value → Bool
  | .chan (some _) => true
  | .bool _ => false
  | v => leaf v
def conc (S : Sym) : Value → Value
  | .chan (some j) => S.val j
  | v => v
theorem leaf_isCell {v : Value} (h : leaf v = true) : isCell v = true := by cases v <;> first | rfl | (simp [leaf] at h)

/-- symbols told anew -/
abbrev Sym.of (S : Sym) (θ : List Value) (h : θ.all okθ = true) : Sym where
  val i := conc S (θ.getD i (.int .i64 0))
  cell i := by
    have hv : okθ (θ.getD i (.int .i64 0)) = true := by
      rw [List.getD_eq_getElem?_getD]
      cases hi : θ[i]? with
      | none => rfl
      | some v => exact List.all_eq_true.1 h v (List.mem_of_getElem? hi)
    generalize θ.getD i (.int .i64 0) = v at hv
    unfold okθ at hv
    split at hv
    · exact S.cell _
    · cases hv
    · rename_i h1 h2
      unfold conc
      split
      · exact S.cell _
      · exact leaf_isCell hv
  nb i b := by
    have hv : okθ (θ.getD i (.int .i64 0)) = true := by
      rw [List.getD_eq_getElem?_getD]
      cases hi : θ[i]? with
      | none => rfl
      | some v => exact List.all_eq_true.1 h v (List.mem_of_getElem? hi)
    generalize θ.getD i (.int .i64 0) = v at hv
    unfold conc
    split
    · exact S.nb _ _
    · intro e; subst e; simp [okθ] at hv

def piOf (π : List (Option Nat)) (b : Nat) : Option Nat := (π[b]?).join
def ren (π : List (Option Nat)) (ρ : Rho) : Rho := fun b => (piOf π b).bind ρ

mutual
inductive VM (π : List (Option Nat)) (θ : List Value) : Value → Value → Prop
  | leaf {v : Value} (h : leaf v = true) : VM π θ v v
  | sym {i : Nat} {v : Value} (h : θ[i]? = some v) : VM π θ (.chan (some i)) v
  | ptr {a : Addr} {b : Nat} (hs : a.spot = none) (h : piOf π a.block = some b) : VM π θ (.pointer (some a)) (.pointer (some ⟨b, a.off, none⟩))
  | slice {a : Addr} {b n c : Nat} (hs : a.spot = none) (h : piOf π a.block = some b) : VM π θ (.slice (some a) n c) (.slice (some ⟨b, a.off, none⟩) n c)
  | map {r r' : Nat} (h : piOf π r = some r') : VM π θ (.map (some r)) (.map (some r'))
  | func {f : FuncId} {p c p' c' : Array Value} (hp : VML π θ p.toList p'.toList) (hc : VML π θ c.toList c'.toList) : VM π θ (.func (.func f) p c) (.func (.func f) p' c')
  | agg {cs cs' : Array Value} (h : VML π θ cs.toList cs'.toList) : VM π θ (.agg cs) (.agg cs')
  | tuple {cs cs' : Array Value} (h : VML π θ cs.toList cs'.toList) : VM π θ (.tuple cs) (.tuple cs')
  | junk {v : Value} : VM π θ (.chan none) v
inductive VML (π : List (Option Nat)) (θ : List Value) : List Value → List Value → Prop
  | nil : VML π θ [] []
  | cons {v v' : Value} {l l' : List Value} (h : VM π θ v v') (t : VML π θ l l') : VML π θ (v :: l) (v' :: l')
end

section
variable {S : Sym} {π : List (Option Nat)} {θ : List Value} {hθ : θ.all okθ = true} {ρ : Rho}

mutual
theorem VM.vr : ∀ {vc v v' : Value}, VM π θ vc v → @VR S ρ v v' → @VR (Sym.of S θ hθ) (ren π ρ) vc v'
  | _, _, v', .leaf h, hv => by
    have := @leaf_eq S ρ _ _ h hv
    subst this
    exact @VR.leaf (Sym.of S θ hθ) _ _ h
  | _, v, v', .sym (i := i) h, hv => by
    refine @VR.sym (Sym.of S θ hθ) _ i v' ?_
    show conc S (θ.getD i (.int .i64 0)) = v'
    have e : θ.getD i (.int .i64 0) = v := by rw [List.getD_eq_getElem?_getD, h]; rfl
    rw [e]
    have hv2 : okθ v = true := List.all_eq_true.1 hθ v (List.mem_of_getElem? h)
    unfold okθ at hv2
    split at hv2
    · cases hv with
      | leaf h => simp [leaf] at h
      | sym h => exact h
    · cases hv2
    · rename_i h1 h2
      rw [@leaf_eq S ρ _ _ hv2 hv]
      unfold conc
      split
      · exact absurd rfl (h1 _)
      · rfl
  | _, _, v', .ptr (a := a) hs h, hv => by
    obtain ⟨p', rfl, hva⟩ := @VR.inv_ptr S _ _ _ hv
    obtain ⟨l, h1, h2, h3⟩ := hva.at_
    exact @VR.ptr (Sym.of S θ hθ) _ _ _ ⟨hs, hva.s', l, by simp [ren, h]; exact h1, h2, h3⟩
  | _, _, v', .slice (a := a) hs h, hv => by
    cases hv with
    | leaf h => simp [leaf] at h
    | slice hva hc =>
      obtain ⟨l, h1, h2, h3⟩ := hva.at_
      refine @VR.slice (Sym.of S θ hθ) _ _ _ _ _ _ ⟨hs, hva.s', l, by simp [ren, h]; exact h1, h2, h3⟩ ?_
      rcases hc with hc | ⟨l', q1, q2⟩
      · exact .inl hc
      · exact .inr ⟨l', by simp [ren, h]; exact q1, q2⟩
    | empty he =>
      obtain ⟨l, h1⟩ := he
      exact @VR.empty (Sym.of S θ hθ) _ _ _ ⟨l, by simp [ren, h]; exact h1⟩
  | _, _, v', .map h, hv => by
    cases hv with
    | leaf h => simp [leaf] at h
    | map hm => exact @VR.map (Sym.of S θ hθ) _ _ _ (by simp [ren, h]; exact hm)
  | _, _, v', .func hp hc, hv => by
    cases hv with
    | leaf h =>
      simp only [leaf, Bool.and_eq_true, beq_iff_eq] at h
      have e1 := Array.eq_empty_of_size_eq_zero h.1
      have e2 := Array.eq_empty_of_size_eq_zero h.2
      subst e1 e2
      exact @VR.func (Sym.of S θ hθ) _ _ _ _ _ _ (VML.vl hp (@VL.nil S ρ)) (VML.vl hc (@VL.nil S ρ))
    | func q1 q2 => exact @VR.func (Sym.of S θ hθ) _ _ _ _ _ _ (VML.vl hp q1) (VML.vl hc q2)
  | _, _, v', .agg h, hv => by
    cases hv with
    | leaf h => simp [leaf] at h
    | agg q => exact @VR.agg (Sym.of S θ hθ) _ _ _ (VML.vl h q)
  | _, _, v', .tuple h, hv => by
    cases hv with
    | leaf h => simp [leaf] at h
    | tuple q => exact @VR.tuple (Sym.of S θ hθ) _ _ _ (VML.vl h q)
  | _, _, _, .junk, hv => @VR.junk (Sym.of S θ hθ) _ _
theorem VML.vl : ∀ {vc v v' : List Value}, VML π θ vc v → @VL S ρ v v' → @VL (Sym.of S θ hθ) (ren π ρ) vc v'
  | _, _, _, .nil, hv => by cases hv; exact @VL.nil (Sym.of S θ hθ) _
  | _, _, _, .cons h t, hv => by
    cases hv with
    | cons q1 q2 => exact @VL.cons (Sym.of S θ hθ) _ _ _ _ _ (VM.vr h q1) (VML.vl t q2)
end
end
end Go.Proofs.Ytkghejleififiaa.AS
