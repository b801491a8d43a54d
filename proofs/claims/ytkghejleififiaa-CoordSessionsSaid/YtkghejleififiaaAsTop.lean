import Derived.Test.YtkghejleififiaaAsRun
import Derived.Below
namespace Go.Proofs.Ytkghejleififiaa.AS
open Go Go.RowKit
set_option linter.unusedSectionVars false
variable [Sym] [Orc]
set_option linter.unusedVariables false
set_option linter.unusedSimpArgs false
section
variable {P : Program} [OrcOK P] {ov : FuncId → Option (List Value → St → R (Value × St))}

/-- the little machine's start: no block is known but the program's variables, of which nothing is known -/
def start (P : Program) : St := { next := P.globals.size, mark := 0, log := [], mem := .leaf }
def rho0 (P : Program) : Rho := fun g => if g < P.globals.size then some ⟨g, 0, 0, 0, 0, true⟩ else none

theorem start_get (P : Program) (b : Nat) : (start P).get b = none := by
  unfold St.get start; split <;> simp [Tr.get]
theorem start_GR (P : Program) : GR P (rho0 P) := fun g hg => ⟨⟨g, 0, 0, 0, 0, true⟩, by simp [rho0, hg], rfl, rfl⟩
theorem rho0_dom (P : Program) (b : Nat) (hb : (start P).next ≤ b) : rho0 P b = none := by
  have hb' : P.globals.size ≤ b := hb
  exact if_neg (by omega)
theorem start_HR (P : Program) (w : World) : HR (rho0 P) (start P) w := by
  refine ⟨?_, ?_, rho0_dom P, Nat.zero_le _⟩
  · intro b o l h; rw [start_get] at h; cases h
  · intro b b' o o' l l' _ h; rw [start_get] at h; cases h

/-- a call that was run comes to what it was run to -/
theorem calls_sim (hm : P.follows .mixedOrders = true) (hovS : ∀ f g, ov f = some g → SimFn P f g) (hovK : ∀ f g, ov f = some g → ∀ args σ v σ', g args σ = some (v, σ') → Kept σ σ') (fuel : Nat) :
    SimCall P (callV P ov (runV P ov fuel none)) :=
  call_sim hovS (fun c tm σ e tm' σ' h ρ w a Q hg hr ht hd hQ => (run_sim hm hovS hovK fuel none c tm σ e tm' σ' h ρ w a Q hg hr ht hd hQ).wp)

theorem closed (hm : P.follows .mixedOrders = true) (hovS : ∀ f g, ov f = some g → SimFn P f g) (hovK : ∀ f g, ov f = some g → ∀ args σ v σ', g args σ = some (v, σ') → Kept σ σ')
    {fuel : Nat} {f : FuncId} {v : Value} {σ' : St} (h : callV P ov (runV P ov fuel none) f [] (start P) = some (v, σ')) (w : World) :
    Calls P f #[] w fun e w' => ∃ v' ρ', e = .returned v' ∧ VR ρ' v v' ∧ HR ρ' σ' w' ∧ Below w.heap.size w w' := by
  refine (calls_sim hm hovS hovK fuel f [] (start P) v σ' h (rho0 P) w [] (start_GR P) (start_HR P w) .nil).mono ?_
  rintro e w' ⟨v', ρ', rfl, h1, h2, h3⟩
  exact ⟨v', ρ', rfl, h3, h2, ⟨h1.os, h1.tape, h1.output, h1.heap, fun p hp => h1.frame p hp (fun b o l h => by rw [start_get] at h; cases h)⟩⟩

/-- does a closed call come to true? -/
def yes (P : Program) (ov : FuncId → Option (List Value → St → R (Value × St))) (fuel : Nat) (f : FuncId) : Bool :=
  match callV P ov (runV P ov fuel none) f [] (start P) with
  | some (.bool b, _) => b
  | _ => false

theorem closed_yes (hm : P.follows .mixedOrders = true) (hovS : ∀ f g, ov f = some g → SimFn P f g) (hovK : ∀ f g, ov f = some g → ∀ args σ v σ', g args σ = some (v, σ') → Kept σ σ')
    {fuel : Nat} {f : FuncId} (h : yes P ov fuel f = true) (w : World) : Calls P f #[] w fun e w' => e = .returned (.bool true) ∧ Below w.heap.size w w' := by
  unfold yes at h
  split at h
  · rename_i b σ' hq
    subst h
    refine (closed hm hovS hovK hq w).mono ?_
    rintro e w' ⟨v', ρ', rfl, h1, _, h2⟩
    exact ⟨by rw [h1.inv_leaf rfl], h2⟩
  · cases h

/-- without a stand-in -/
theorem closed_yes0 (hm : P.follows .mixedOrders = true) {fuel : Nat} {f : FuncId} (h : yes P (fun _ => none) fuel f = true) (w : World) :
    Calls P f #[] w fun e w' => e = .returned (.bool true) ∧ Below w.heap.size w w' :=
  closed_yes hm (fun _ _ h => by cases h) (fun _ _ h => by cases h) h w
end
end Go.Proofs.Ytkghejleififiaa.AS
