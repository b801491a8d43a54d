import Derived.Test.YtkghejleififiaaAsAt
namespace Go.Proofs.Ytkghejleififiaa.AS
open Go
set_option linter.unusedSectionVars false
set_option linter.unusedVariables false
set_option linter.unusedSimpArgs false

def lenB (v : Value) (x : Nat × Value) : Bool := same v (.chan (some x.1))
/-- facts of sums and comparisons, and of the lengths of slices that are symbols -/
abbrev orcL (P : Program) (lens : List (Nat × Value)) (fs : List Fact) : Orc where
  orc o ev := match o.op with
    | .binOp b t x y _ => (fs.find? (factB ev b t x y)).map (·.r)
    | .call ⟨.builtin .len, args, ts⟩ =>
      match args.toList, (ts[0]?).bind fun t => P.underlying t with
      | [x], some (.slice _) => (lens.find? (lenB (ev x))).map (·.2)
      | _, _ => none
    | _ => none

def LenOK (S : Sym) (x : Nat × Value) : Prop := (∃ a n c, S.val x.1 = .slice a n c ∧ conc S x.2 = .int .i64 (n : Nat)) ∧ (leaf x.2 = true ∨ isSym x.2 = true)

theorem orcL_ok {P : Program} (S : Sym) (lens : List (Nat × Value)) (fs : List Fact) (hl : ∀ x ∈ lens, LenOK S x) (h : ∀ f ∈ fs, FactOK P S f) : @OrcOK S (orcL P lens fs) P := by
  refine @OrcOK.mk S (orcL P lens fs) P ?_
  intro o ev v ho ρ ev' w hX
  have hbase := (@orcOK P S fs h).ok
  obtain ⟨dst, op, type, pos, after, guard⟩ := o
  cases op
  case binOp b t x y yt => exact hbase ⟨dst, .binOp b t x y yt, type, pos, after, guard⟩ ev v ho ρ ev' w hX
  case call c =>
    obtain ⟨callee, args, ts⟩ := c
    cases callee with
    | value f => cases ho
    | invoke r m => cases ho
    | builtin b =>
      cases b <;> first
        | (cases ho; done)
        | (replace ho : (match args.toList, (ts[0]?).bind fun t => P.underlying t with
              | [x], some (.slice _) => (lens.find? (lenB (ev x))).map (·.2)
              | _, _ => none) = some v := ho
           split at ho
           · rename_i x e hx ht
             rw [Option.map_eq_some_iff] at ho
             obtain ⟨⟨i, r⟩, h1, rfl⟩ := ho
             have h2 := List.find?_some h1
             obtain ⟨⟨a, n, c, k1, k2⟩, k3⟩ := hl _ (List.mem_of_find?_eq_some h1)
             simp only [Option.bind_eq_some_iff] at ht
             obtain ⟨t0, ht0, hu⟩ := ht
             have hargs : args = #[x] := by rw [← Array.toList_inj, hx]
             subst hargs
             have hx' := conc_of h2 (hX x (by simp [Op.operands, Call.operands]))
             have hx' : ev' x = .slice a n c := by rw [hx']; exact k1
             refine ⟨.int .i64 n, ?_, k2 ▸ conc_VR k3⟩
             have h3 : (Builtin.len_ ts type (#[x].map ev')).run P w = .ok (.int .i64 n) w := by
               simp only [Builtin.len_, ht0, Sem.run_bind, Sem.run_pure, goInt, List.map_toArray, List.map_cons, List.map_nil, hx']
               simp [run_und w hu]
             have h4 : (do pure (Next.value (← Builtin.len_ ts type (#[x].map ev'))) : Sem Next).run P w = .ok (.value (.int .i64 n)) w := by
               rw [Sem.run_bind, h3]; rfl
             exact h4
           · cases ho)
  all_goals cases ho
end Go.Proofs.Ytkghejleififiaa.AS
