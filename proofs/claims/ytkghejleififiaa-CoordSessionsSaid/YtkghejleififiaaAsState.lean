import Derived.Test.YtkghejleififiaaAsInt
namespace Go.Proofs.Ytkghejleififiaa.AS
open Go
set_option linter.unusedSectionVars false
set_option linter.unusedVariables false
set_option linter.unusedSimpArgs false

/-- is the state σc, tmc the state σ, tm with its blocks and symbols named anew? -/
def stB (P : Program) (π : List (Option Nat)) (θ : List Value) (n : Nat) (σc : St) (tmc : List Value) (σ : St) (tm : List Value) : Bool :=
  θ.all okθ && (memB π θ n σc σ && (injB π && (Nat.ble π.length σc.next && (Nat.ble σc.mark σc.next && (listB (vmB π θ n) tmc tm &&
    (List.range P.globals.size).all fun g => match piOf π g with | some x => Nat.beq x g | none => false)))))

theorem restate {P : Program} {S : Sym} {π : List (Option Nat)} {θ : List Value} {n : Nat} {ρ : Rho} {σc σ : St} {tmc tm vs : List Value} {w : World} (h : stB P π θ n σc tmc σ tm = true)
    (hr : @HR S ρ σ w) (ht : @VL S ρ tm vs) (hg : GR P ρ) :
    ∃ hθ : θ.all okθ = true, @HR (Sym.of S θ hθ) (ren π ρ) σc w ∧ @VL (Sym.of S θ hθ) (ren π ρ) tmc vs ∧ GR P (ren π ρ) := by
  unfold stB at h
  simp only [Bool.and_eq_true] at h
  obtain ⟨hθ, h1, h2, h3, h4, h5, h6⟩ := h
  refine ⟨hθ, hr.rename h1 h2 (of_ble h3) (of_ble h4), VML.vl (listB_vml (fun a b q => vmB_vm n q) h5) ht, hg.rename fun g hgs => ?_⟩
  have := List.all_eq_true.1 h6 g (List.mem_range.2 hgs)
  split at this
  · rename_i x hx; rw [hx, of_beq this]
  · cases this
end Go.Proofs.Ytkghejleififiaa.AS
