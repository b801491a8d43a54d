import Derived.Test.YtkghejleififiaaAsState
namespace Go.Proofs.Ytkghejleififiaa.AS
open Go Go.RowKit
set_option linter.unusedSectionVars false
set_option linter.unusedVariables false
set_option linter.unusedSimpArgs false

/-! ## a body in pieces; what is known between two pieces -/

/-- the pieces of a sequence -/
def flatC : Code → List Code
  | .seq a b => flatC a ++ flatC b
  | c => [c]

/-- pieces, one behind the other -/
def wpL (P : Program) (Q : Exit → Act → World → Prop) : List Code → Act → World → Prop
  | [] => fun a w => Q .normal a w
  | c :: l => fun a w => c.wp P (Exit.then (wpL P Q l) Q) a w

theorem then_normal {Q : Exit → Act → World → Prop} : Exit.then (Q .normal) Q = Q := by
  funext e a w; cases e <;> rfl
theorem then_then {X Y : Act → World → Prop} {Q : Exit → Act → World → Prop} : Exit.then X (Exit.then Y Q) = Exit.then X Q := by
  funext e a w; cases e <;> rfl

theorem wpL_append {P : Program} {Q : Exit → Act → World → Prop} : ∀ (l m : List Code), wpL P Q (l ++ m) = wpL P (Exit.then (wpL P Q m) Q) l
  | [], m => by funext a w; rfl
  | c :: l, m => by
    funext a w
    simp only [List.cons_append, wpL, wpL_append l m, then_then]

theorem wpL_one {P : Program} {Q : Exit → Act → World → Prop} {c : Code} {a : Act} {w : World} : wpL P Q [c] a w = c.wp P Q a w := by
  have h : (fun a w => Q .normal a w) = Q .normal := rfl
  simp only [wpL, h, then_normal]

theorem wp_flat {P : Program} : ∀ (c : Code) (Q : Exit → Act → World → Prop) (a : Act) (w : World), wpL P Q (flatC c) a w → c.wp P Q a w := by
  intro c
  induction c with
  | seq x y ihx ihy =>
    intro Q a w h
    simp only [flatC, wpL_append] at h
    refine wp_seq (wp_mono (ihx _ a w h) ?_)
    intro e a w q
    cases e with
    | normal => exact ihy Q a w q
    | _ => exact q
  | _ => intro Q a w h; simp only [flatC, wpL_one] at h; exact h

/-- what can be written lies behind B -/
def Fresh (B : Nat) (ρ : Rho) (σ : St) : Prop := ∀ b o l, σ.get b = some o → writable o = true → ρ b = some l → B ≤ l.pb

theorem Ext.below {ρ ρ' : Rho} {σ σ' : St} {w w' : World} {B : Nat} (h : Ext ρ σ w ρ' σ' w') (hf : Fresh B ρ σ) (hB : B ≤ w.heap.size) (hr' : ∀ b o l, σ'.get b = some o → writable o = true → ρ' b = some l → True) :
    Below B w w' :=
  ⟨h.os, h.tape, h.output, h.heap, fun p hp => h.frame p (by omega) (fun b o l h1 h2 h3 _ e => by have := hf b o l h1 h2 h3; omega)⟩

theorem Ext.fresh {ρ ρ' : Rho} {σ σ' : St} {w w' : World} {B : Nat} (h : Ext ρ σ w ρ' σ' w') (hf : Fresh B ρ σ) (hB : B ≤ w.heap.size) : Fresh B ρ' σ' := by
  intro b o l h1 h2 h3
  rcases h.wr b o l h1 h3 with ⟨k1, o0, k2, k3⟩ | k | ⟨b0, o0, l0, k1, k2, k3, k4, _⟩
  · exact hf b o0 l k2 (k3 h2) k1
  · omega
  · have := hf b0 o0 l0 k1 k2 k3; omega

theorem obB_writable {π : List (Option Nat)} {θ : List Value} {n : Nat} {oc o : Ob} (h : obB π θ n oc o = true) : writable oc = writable o := by
  cases oc with
  | blk cs u ro =>
    cases o with
    | mp es => simp [obB] at h
    | blk cs' u' ro' =>
      simp only [obB, Bool.and_eq_true, beq_iff_eq] at h
      obtain ⟨⟨_, h2⟩, _⟩ := h
      subst h2; rfl
  | mp es =>
    cases o with
    | blk cs u ro => simp [obB] at h
    | mp es' => rfl

theorem Fresh.rename {π : List (Option Nat)} {θ : List Value} {n B : Nat} {ρ : Rho} {σc σ : St} (hf : Fresh B ρ σ) (hm : memB π θ n σc σ = true) : Fresh B (ren π ρ) σc := by
  intro b oc l h1 hw h2
  unfold ren at h2
  cases hp : piOf π b with
  | none => rw [hp] at h2; cases h2
  | some b' =>
    rw [hp] at h2
    have hb : b < π.length := by
      unfold piOf at hp
      cases hb : π[b]? with
      | none => rw [hb] at hp; cases hp
      | some y => exact (List.getElem?_eq_some_iff.1 hb).1
    have := List.all_eq_true.1 hm b (List.mem_range.2 hb)
    rw [hp] at this
    simp only [h1] at this
    split at this
    · cases this
    · rename_i o ho
      exact hf b' o l ho (by rw [← obB_writable this]; exact hw) h2

/-- the state σ and the slots tm stand for what there is; what was in W stays -/
structure AtR (P : Program) (S : Sym) (B : Nat) (W : World) (ρ : Rho) (σ : St) (tm : List Value) (a : Act) (w : World) : Prop where
  gr : GR P ρ
  hr : @HR S ρ σ w
  vl : @VL S ρ tm a.tmps.toList
  df : a.defers = []
  bel : Below B W w
  size : B ≤ w.heap.size
  fresh : Fresh B ρ σ
def At (P : Program) (S : Sym) (B : Nat) (W : World) (σ : St) (tm : List Value) (a : Act) (w : World) : Prop := ∃ ρ, AtR P S B W ρ σ tm a w

theorem AtR.step {P : Program} {S : Sym} {B : Nat} {W : World} {ρ ρ' : Rho} {σ σ' : St} {tm tm' : List Value} {a a' : Act} {w w' : World} (h : AtR P S B W ρ σ tm a w) (e : Ext ρ σ w ρ' σ' w')
    (hr : @HR S ρ' σ' w') (ht : @VL S ρ' tm' a'.tmps.toList) (hd : a'.defers = []) : AtR P S B W ρ' σ' tm' a' w' :=
  ⟨fun g hg => let ⟨l, h1, h2⟩ := h.gr g hg; ⟨l, e.le _ _ h1, h2⟩, hr, ht, hd, h.bel.trans (e.below h.fresh h.size (fun _ _ _ _ _ _ => trivial)), Nat.le_trans h.size e.heap, e.fresh h.fresh h.size⟩

section
variable {P : Program} {ov : FuncId → Option (List Value → St → R (Value × St))}

section
variable [Orc]
/-- run pieces, each to its end -/
def runL (P : Program) (ov : FuncId → Option (List Value → St → R (Value × St))) (fuel : Nat) : List Code → List Value → St → Option (List Value × St)
  | [], tm, σ => some (tm, σ)
  | c :: l, tm, σ => match runV P ov fuel none c tm σ with
    | some (.normal, tm, σ) => runL P ov fuel l tm σ
    | _ => none
end

/-- one piece, whatever its end -/
theorem At.run (S : Sym) (O : Orc) (hO : @OrcOK S O P) (hm : P.follows .mixedOrders = true) (hovS : ∀ f g, ov f = some g → @SimFn S P f g) (hovK : ∀ f g, ov f = some g → ∀ args σ v σ', g args σ = some (v, σ') → Kept σ σ')
    {fuel B : Nat} {W : World} {c : Code} {tm tm' : List Value} {σ σ' : St} {e : Ex} {a : Act} {w : World} {Q : Exit → Act → World → Prop}
    (h : @runV O P ov fuel none c tm σ = some (e, tm', σ')) (hat : At P S B W σ tm a w) (hQ : ∀ a' w', At P S B W σ' tm' a' w' → Q (toExit e) a' w') : c.wp P Q a w := by
  obtain ⟨ρ, h0⟩ := hat
  refine (@run_sim S O P hO ov hm hovS hovK fuel none c tm σ e tm' σ' h ρ w a Q h0.gr h0.hr h0.vl h0.df ?_).wp
  intro ρ' a' w' k1 k2 k3 k4
  exact hQ a' w' ⟨ρ', h0.step k1 k2 k3 k4⟩

theorem At.runL (S : Sym) (O : Orc) (hO : @OrcOK S O P) (hm : P.follows .mixedOrders = true) (hovS : ∀ f g, ov f = some g → @SimFn S P f g) (hovK : ∀ f g, ov f = some g → ∀ args σ v σ', g args σ = some (v, σ') → Kept σ σ')
    {fuel B : Nat} {W : World} {m : List Code} {tm' : List Value} {σ' : St} {Q : Exit → Act → World → Prop} : ∀ (l : List Code) {tm : List Value} {σ : St} {a : Act} {w : World},
    @runL O P ov fuel l tm σ = some (tm', σ') → At P S B W σ tm a w → (∀ a' w', At P S B W σ' tm' a' w' → wpL P Q m a' w') → wpL P Q (l ++ m) a w := by
  intro l
  induction l with
  | nil =>
    intro tm σ a w h hat hQ
    simp only [AS.runL, Option.some.injEq, Prod.mk.injEq] at h
    obtain ⟨rfl, rfl⟩ := h
    exact hQ a w hat
  | cons c l ih =>
    intro tm σ a w h hat hQ
    simp only [AS.runL] at h
    split at h
    · rename_i tm1 σ1 h1
      simp only [List.cons_append, wpL]
      exact At.run S O hO hm hovS hovK h1 hat (fun a' w' hat' => ih h hat' hQ)
    · cases h

/-- the same, told anew -/
theorem At.restate {S : Sym} {π : List (Option Nat)} {θ : List Value} {n B : Nat} {W : World} {σc σ : St} {tmc tm : List Value} {a : Act} {w : World} (h : stB P π θ n σc tmc σ tm = true) (hat : At P S B W σ tm a w) :
    ∃ hθ : θ.all okθ = true, At P (Sym.of S θ hθ) B W σc tmc a w := by
  obtain ⟨ρ, h0⟩ := hat
  obtain ⟨hθ, k1, k2, k3⟩ := AS.restate h h0.hr h0.vl h0.gr
  refine ⟨hθ, ren π ρ, k3, k1, k2, h0.df, h0.bel, h0.size, h0.fresh.rename (n := n) (θ := θ) ?_⟩
  unfold stB at h
  simp only [Bool.and_eq_true] at h
  exact h.2.1

/-- a slot told otherwise -/
theorem At.slot {S : Sym} {B : Nat} {W : World} {σ : St} {tm : List Value} {a : Act} {w : World} (hat : At P S B W σ tm a w) (t : Nat) (v : Value) (hv : ∀ ρ : Rho, @VR S ρ (tm.getD t undef) (a.tmps.toList.getD t undef) → @VR S ρ v (a.tmps.toList.getD t undef)) :
    At P S B W σ (tm.set t v) a w := by
  obtain ⟨ρ, h⟩ := hat
  refine ⟨ρ, h.gr, h.hr, ?_, h.df, h.bel, h.size, h.fresh⟩
  have := @VL.set S ρ _ _ h.vl t _ _ (hv ρ (@VL.getD S ρ _ _ h.vl t))
  have e : a.tmps.toList.set t (a.tmps.toList.getD t undef) = a.tmps.toList := by
    apply List.ext_getElem?
    intro i
    rw [List.getElem?_set]
    split
    · rename_i hi; subst hi
      split
      · rename_i h2; rw [List.getD_eq_getElem?_getD, List.getElem?_eq_getElem h2]; rfl
      · rename_i h2; rw [List.getElem?_eq_none (by omega)]
    · rfl
  rwa [e] at this

/-- a symbol whose value is known -/
theorem At.known {S : Sym} {B : Nat} {W : World} {σ : St} {tm : List Value} {a : Act} {w : World} (hat : At P S B W σ tm a w) (t i : Nat) (v : Value) (ht : tm.getD t undef = .chan (some i)) (hv : leaf v = true) (hs : S.val i = v) :
    At P S B W σ (tm.set t v) a w := by
  refine hat.slot t v fun ρ h => ?_
  rw [ht] at h
  generalize a.tmps.toList.getD t undef = u at h
  cases h with
  | leaf h => simp [leaf] at h
  | sym h => rw [hs] at h; rw [← h]; exact @VR.leaf S ρ _ hv

/-- what is said when the body is done -/
def Done (P : Program) (fn : Func) (B : Nat) (W : World) (v : Value) (e : Exit) (a : Act) (w : World) : Prop :=
  (e = .normal ∨ e = .ret) ∧ ∃ (S : Sym) (σ : St) (tm : List Value), At P S B W σ tm a w ∧ resultsV P fn σ tm = some v

theorem calls_at {f : FuncId} {fn : Func} {c : Code} {args : List Value} {W : World} {v : Value} (hf : P.funcs[f]? = some fn) (hb : fn.body = some c) (hl : leaf v = true) (S : Sym) (as : List Value)
    (hargs : @VL S (rho0 P) as args) (h : ∀ a : Act, a.tmps = (args ++ List.replicate (fn.ntmps - args.length) undef).toArray → At P S W.heap.size W (start P) (as ++ List.replicate (fn.ntmps - as.length) undef) a W → wpL P (Done P fn W.heap.size W v) (flatC c) a W) :
    Calls P f args.toArray W fun e w' => e = .returned v ∧ Below W.heap.size W w' := by
  refine calls_of_wp hf hb ?_
  have hlen := @VL.length S (rho0 P) _ _ hargs
  refine wp_mono (wp_flat _ _ _ _ (h _ ?_ ⟨rho0 P, @start_GR S mute P, @start_HR S mute P W, ?_, rfl, Below.refl _ _, Nat.le_refl _, fun b o l q => by rw [@start_get S mute] at q; cases q⟩)) ?_
  · simp
  · have : @VL S (rho0 P) (List.replicate (fn.ntmps - as.length) undef) (List.replicate (fn.ntmps - as.length) undef) := by
      generalize fn.ntmps - as.length = m
      induction m with
      | zero => exact @VL.nil S _
      | succ m ih => exact @VL.cons S _ _ _ _ _ (@undef_VR S _) ih
    have := @VL.append S _ _ _ _ _ hargs this
    simpa [hlen] using this
  · rintro e a w ⟨he, S', σ, tm, ⟨ρ, hat⟩, hres⟩
    obtain ⟨v', q1, q2⟩ := @results_sim S' mute P (mute_ok S') ρ σ w tm a.tmps fn v hat.hr hat.vl hres
    have hv : v' = v := @VR.inv_leaf S' ρ v v' q2 hl
    subst hv
    rcases he with rfl | rfl
    · exact ⟨hat.df, v', q1, rfl, hat.bel⟩
    · exact ⟨hat.df, v', q1, rfl, hat.bel⟩
end
end Go.Proofs.Ytkghejleififiaa.AS
