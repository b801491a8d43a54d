import Derived.Test.YtkghejleififiaaAsName3
namespace Go.Proofs.Ytkghejleififiaa.AS
open Go
set_option linter.unusedSectionVars false
set_option linter.unusedVariables false
set_option linter.unusedSimpArgs false

/-- what a comparison or a sum comes to -/
structure Fact where
  b : BinOp
  t : TypeId
  x : Value
  y : Value
  r : Value

def factB (ev : Operand → Value) (b : BinOp) (t : TypeId) (x y : Operand) (f : Fact) : Bool := decide (b = f.b) && Nat.beq t f.t && same (ev x) f.x && same (ev y) f.y

abbrev orcOf (fs : List Fact) : Orc where
  orc o ev := match o.op with
    | .binOp b t x y _ => (fs.find? (factB ev b t x y)).map (·.r)
    | _ => none

structure FactOK (P : Program) (S : Sym) (f : Fact) : Prop where
  run : ∀ w, (binOp f.b f.t (conc S f.x) (conc S f.y)).run P w = .ok (conc S f.r) w
  cell : isCell (conc S f.x) = true ∧ conc S f.x ≠ .nilIface
  leaf : leaf f.r = true ∨ isSym f.r = true

theorem same_leaf {a b : Value} (h : same a b = true) : leaf a = true ∨ ∃ i, a = .chan (some i) := by
  unfold same at h
  split at h <;> first | exact .inl rfl | exact .inr ⟨_, rfl⟩ | cases h

theorem conc_leaf {S : Sym} {v : Value} (h : leaf v = true) : conc S v = v := by
  unfold conc
  split
  · simp [leaf] at h
  · rfl

theorem conc_of {S : Sym} {ρ : Rho} {v u v' : Value} (h : same v u = true) (hv : @VR S ρ v v') : v' = conc S u := by
  have := same_eq h
  subst this
  rcases same_leaf h with hl | ⟨i, rfl⟩
  · rw [conc_leaf hl]; exact @leaf_eq S ρ _ _ hl hv
  · cases hv with
    | leaf h => simp [leaf] at h
    | sym h => exact h.symm

theorem conc_VR {S : Sym} {ρ : Rho} {r : Value} (h : leaf r = true ∨ isSym r = true) : @VR S ρ r (conc S r) := by
  rcases h with h | h
  · rw [conc_leaf h]; exact @VR.leaf S ρ _ h
  · cases r with
    | chan c =>
      cases c with
      | some i => exact @VR.sym S ρ i _ rfl
      | none => simp [isSym] at h
    | _ => simp [isSym] at h

/-- for calls without a symbol -/
abbrev mute : Orc := ⟨fun _ _ => none⟩
theorem mute_ok {P : Program} (S : Sym) : @OrcOK S mute P := @OrcOK.mk S mute P (fun _ _ _ h => by cases h)
abbrev plainSym : Sym := { val := fun _ => .int .i64 0, cell := fun _ => rfl, nb := fun _ _ h => by cases h }

/-- facts that are true make a true oracle -/
theorem orcOK {P : Program} (S : Sym) (fs : List Fact) (h : ∀ f ∈ fs, FactOK P S f) : @OrcOK S (orcOf fs) P := by
  refine @OrcOK.mk S (orcOf fs) P ?_
  intro o ev v ho ρ ev' w hX
  replace ho : (match o.op with | .binOp b t x y _ => (fs.find? (factB ev b t x y)).map (·.r) | _ => none) = some v := ho
  obtain ⟨dst, op, type, pos, after, guard⟩ := o
  cases op <;> simp only at ho <;> try (cases ho; done)
  rename_i b t x y yt
  rw [Option.map_eq_some_iff] at ho
  obtain ⟨f, h1, rfl⟩ := ho
  have h2 := List.find?_some h1
  have h3 := List.mem_of_find?_eq_some h1
  simp only [factB, Bool.and_eq_true, decide_eq_true_eq] at h2
  obtain ⟨⟨⟨e1, e2⟩, e3⟩, e4⟩ := h2
  have e2 := of_beq e2
  subst e1 e2
  have hx := conc_of e3 (hX x (by simp [Op.operands]))
  have hy := conc_of e4 (hX y (by simp [Op.operands]))
  have k := h f h3
  refine ⟨conc S f.r, ?_, conc_VR k.leaf⟩
  simp only [execOp, hx, hy]
  have hg : (eqGuard f.b f.t x y (conc S f.x) (conc S f.y)).run P w = .ok () w := by
    refine @eqGuard_none S mute P (mute_ok S) w _ _ _ _ _ _ ?_ ?_
    · rintro c d ⟨q, _⟩
      have := k.cell.1
      rw [q] at this
      simp [isCell] at this
    · rintro ⟨q, _⟩; exact k.cell.2 q
  simp [Sem.run_bind, hg, k.run]
end Go.Proofs.Ytkghejleififiaa.AS

