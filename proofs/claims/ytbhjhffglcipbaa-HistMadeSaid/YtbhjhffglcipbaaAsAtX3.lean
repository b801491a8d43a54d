import Derived.Test.YtbhjhffglcipbaaAsName
import Derived.DeepKeys3
import Derived.WideKeyElems
import Derived.Test.YtbhjhffglcipbaaAsJ6
namespace Go.Proofs.Ytbhjhffglcipbaa.AS
open Go Go.RowKit
set_option linter.unusedSectionVars false
set_option linter.unusedVariables false
set_option linter.unusedSimpArgs false

/-! ## what is told elsewhere may be told more weakly; one window stays -/
theorem ObR.congrI {S S' : Sym} (h : ∀ i, @Sym.val S' i = @Sym.val S i) (he : ∀ i o p, @Sym.ext S i o p → @Sym.ext S' i o p) {ρ : Rho} {w : World} {l : Loc} {o : Ob} (hr : @ObR S ρ w l o) : @ObR S' ρ w l o := by
  cases o with
  | blk cs u ro ty =>
    obtain ⟨h1, h2, h3, h4, C, t, fr, h5, h6, h7, h8, h9⟩ := hr
    exact ⟨h1, h2, h3, h4, C, t, fr, h5, h6, h7, fun i v hi => let ⟨v', a, b⟩ := h8 i v hi; ⟨v', a, VR.congr S S' h b⟩, h9⟩
  | mp es => obtain ⟨E, clk, h1, h2, h3⟩ := hr; exact ⟨E, clk, h1, ML.congr (S := S) (S' := S') h h2, h3⟩
  | it mb since seen => exact hr
  | ext tag =>
    have h0 : ∃ o, w.heap[l.pb]? = some o ∧ @Sym.ext S tag o l.pb := hr
    obtain ⟨o, h1, h2⟩ := h0
    exact ⟨o, h1, he _ _ _ h2⟩
/-- a symbol's telling with other windows -/
theorem HR.congrI {S S' : Sym} (h : ∀ i, @Sym.val S' i = @Sym.val S i) (he : ∀ i o p, @Sym.ext S i o p → @Sym.ext S' i o p) {ρ : Rho} {σ : St} {w : World} (hr : @HR S ρ σ w) (hw : ∀ f ∈ @Sym.wins S', @WinR S' ρ f) : @HR S' ρ σ w :=
  @HR.mk S' ρ σ w (fun b o l h1 h2 => ObR.congrI h he (@HR.ob S ρ σ w hr b o l h1 h2)) (@HR.sep S ρ σ w hr) (@HR.dom S ρ σ w hr) (@HR.mkn S ρ σ w hr) hw

section
variable {P : Program} {S : Sym} {X : Nat → Prop} {B : Nat} {W : World}
theorem AtX.weaken {S' : Sym} {σ : St} {tm : List Value} {a : Act} {w : World} (hat : AtX P S X B W σ tm a w) (h : ∀ i, @Sym.val S' i = @Sym.val S i) (he : ∀ i o p, @Sym.ext S i o p → @Sym.ext S' i o p) (hw : @Sym.wins S' = @Sym.wins S) :
    AtX P S' X B W σ tm a w := by
  obtain ⟨ρ, h0⟩ := hat
  refine ⟨ρ, h0.gr, HR.congrI h he h0.hr (fun f hf => ?_), VL.congr S S' h h0.vl, h0.df, h0.os, h0.tape, h0.output, h0.keep, h0.size, h0.fresh⟩
  rw [hw] at hf
  obtain ⟨x, n, c, kd, i, l, h1, h2, h3, h4, h5, h6⟩ := @HR.win S _ _ _ h0.hr f hf
  refine ⟨x, n, c, kd, i, l, (h _).trans h1, ?_, h3, h4, h5, h6⟩
  rw [← h2]
  unfold idxVal
  split
  · exact h _
  · rfl

/-- to a canonical state; one window stays -/
theorem AtX.restateW {π : List (Option Nat)} {θ : List Value} {n : Nat} {σc σ : St} {tmc tm : List Value} {a : Act} {w : World} {f : Win} {kd : IntKind} {i : Int} (h : stB P π θ n σc tmc σ tm = true) (hat : AtX P S X B W σ tm a w)
    (hf : f ∈ S.wins) (hp : piOf π f.b = some f.b) (hs : θ[f.s]? = some (.chan (some f.s))) (hk : f.k = .int kd i) :
    ∃ hθ : θ.all okθ = true, AtX P { Sym.of S θ hθ with wins := [f] } X B W σc tmc a w := by
  obtain ⟨ρ, h0⟩ := hat
  obtain ⟨hθ, k1, k2, k3⟩ := AS.restate h h0.hr h0.vl h0.gr
  refine ⟨hθ, ren π ρ, k3, ?_, VL.congr (Sym.of S θ hθ) { Sym.of S θ hθ with wins := [f] } (fun _ => rfl) k2, h0.df, h0.os, h0.tape, h0.output, h0.keep, h0.size, fun b o l h1 h2 h3 => ?_⟩
  · refine HR.congrI (S := Sym.of S θ hθ) (S' := { Sym.of S θ hθ with wins := [f] }) (fun _ => rfl) (fun _ _ _ q => q) k1 ?_
    intro g hg
    have hg : g ∈ [f] := hg
    have hg := List.mem_singleton.1 hg
    subst hg
    obtain ⟨x, n, c, kd, j, l, q1, q2, q3, q4, q5, q6⟩ := @HR.win S _ _ _ h0.hr g hf
    refine ⟨x, n, c, kd, j, l, ?_, ?_, q3, q4, ?_, q6⟩
    · show conc S (θ.getD g.s (.int .i64 0)) = _
      rw [List.getD_eq_getElem?_getD, hs]
      exact q1
    · rw [hk] at q2 ⊢; exact q2
    · show (piOf π g.b).bind ρ = some l
      rw [hp]; exact q5
  · unfold stB at h
    simp only [Bool.and_eq_true] at h
    have hm := h.2.1
    unfold ren at h3
    cases hp : piOf π b with
    | none => rw [hp] at h3; cases h3
    | some b' =>
      rw [hp] at h3
      have hb : b < π.length := by
        unfold piOf at hp
        cases hb : π[b]? with
        | none => rw [hb] at hp; cases hp
        | some y => exact (List.getElem?_eq_some_iff.1 hb).1
      have := List.all_eq_true.1 hm b (List.mem_range.2 hb)
      rw [hp] at this
      simp only [h1] at this
      split at this
      · cases this
      · rename_i o' ho
        exact h0.fresh b' o' l ho (by rw [← obB_writable this]; exact h2) h3
theorem AtX.tellW {π : List (Option Nat)} {θ : List Value} {n : Nat} {σc σ : St} {tmc tm : List Value} {a : Act} {w : World} {f : Win} {kd : IntKind} {i : Int} (hθ : θ.all okθ = true) (h : stB2 P π θ n σc tmc σ tm = true) (hat : AtX P S X B W σ tm a w)
    (hf : f ∈ S.wins) (hp : piOf π f.b = some f.b) (hs : θ[f.s]? = some (.chan (some f.s))) (hk : f.k = .int kd i) :
    AtX P { Sym.of S θ hθ with wins := [f] } X B W σc tmc a w := by
  obtain ⟨_, h1⟩ := hat.restateW (stB_of hθ h) hf hp hs hk
  exact h1
end

section
variable [Sym]
/-- a block turns, and there may be more than there was -/
theorem HR.turned {ρ : Rho} {σ : St} {w w' : World} (hr : HR ρ σ w) {b : Nat} {o o' : Ob} {l : Loc} (hg : σ.get b = some o) (hw : writable o = true) (hl : ρ b = some l)
    (hw' : writable o' = true) (ho : ObR ρ w' l o') (hp : ∀ p, p < w.heap.size → p ≠ l.pb → w'.heap[p]? = w.heap[p]?) : HR ρ (σ.set b (some o')) w' := by
  have hb := St.get_lt hg
  refine ⟨?_, ?_, hr.dom, hr.mkn, hr.win⟩
  · intro x ox lx h1 h2
    rw [St.get_set hb] at h1
    by_cases e : x = b
    · subst e; simp only [if_true, Option.some.injEq] at h1; subst h1; rw [hl] at h2; cases h2; exact ho
    · rw [if_neg e] at h1
      have h3 := hr.ob x ox lx h1 h2
      exact h3.same (hp _ h3.lt (fun e' => hr.sep b x o ox l lx (fun q => e q.symm) hg hw h1 hl h2 e'.symm))
  · intro x y ox oy lx ly hne h1 h2 h3 h4 h5
    rw [St.get_set hb] at h1 h3
    by_cases ex : x = b
    · subst ex
      rw [if_neg (fun e => hne e.symm)] at h3
      exact hr.sep x y o oy lx ly hne hg hw h3 h4 h5
    · rw [if_neg ex] at h1
      by_cases ey : y = b
      · subst ey
        exact hr.sep x y ox o lx ly hne h1 h2 hg h4 h5
      · rw [if_neg ey] at h3
        exact hr.sep x y ox oy lx ly hne h1 h2 h3 h4 h5
theorem Ext.turned {ρ : Rho} {σ : St} {w w' : World} (hr : HR ρ σ w) {b : Nat} {o o' : Ob} {l : Loc} (hg : σ.get b = some o) (hw : writable o = true) (hl : ρ b = some l)
    (hp : ∀ p, p < w.heap.size → p ≠ l.pb → w'.heap[p]? = w.heap[p]?) (hs : w.heap.size ≤ w'.heap.size) (h1 : w'.os = w.os) (h2 : w'.tape = w.tape) (h3 : w'.output = w.output) : Ext ρ σ w ρ (σ.set b (some o')) w' where
  le := Rho.le_refl _
  next := Nat.le_refl _
  heap := hs
  os := h1
  tape := h2
  output := h3
  mkn := hr.mkn
  mark := rfl
  log x hx := mem_note.2 (.inl hx)
  logd x hx := by
    rcases mem_note.1 hx with h | ⟨rfl, h⟩
    · exact .inl h
    · exact .inr ⟨h, l, hl⟩
  frame p hlt hn := hp p hlt (fun e => hn b o l hg hw hl (fun q => mem_note.2 (.inr ⟨rfl, q⟩)) e.symm)
  wr x ox lx q1 q3 := by
    left
    rw [St.get_set (St.get_lt hg)] at q1
    by_cases e : x = b
    · subst e; exact ⟨q3, o, hg, fun _ => hw⟩
    · rw [if_neg e] at q1; exact ⟨q3, ox, q1, id⟩
  new x lx h := .inl h
theorem HR.grown {ρ : Rho} {σ : St} {w w' : World} (hr : HR ρ σ w) (hb : Below w.heap.size w w') : HR ρ σ w' :=
  ⟨fun b o l h1 h2 => ObR.same (hb.block _ (hr.ob b o l h1 h2).lt) (hr.ob b o l h1 h2), hr.sep, hr.dom, hr.mkn, hr.win⟩
theorem Ext.grown {ρ : Rho} {σ : St} {w w' : World} (hr : HR ρ σ w) (hb : Below w.heap.size w w') : Ext ρ σ w ρ σ w' where
  le := Rho.le_refl _
  next := Nat.le_refl _
  heap := hb.size
  os := hb.os
  tape := hb.tape
  output := hb.output
  mkn := hr.mkn
  mark := rfl
  log _ h := h
  logd _ h := .inl h
  frame p hp _ := hb.block p hp
  wr b o l h1 h2 := .inl ⟨h2, o, h1, id⟩
  new _ _ h := .inl h
end

/-! ## a map whose keys are keys, its values bools -/
section
open Go.WideMaps (KeyLaw)
open Go.MapKept
structure MapGood (P : Program) (k : TypeId) (o : Obj) : Prop where
  ex : ∃ E clk, o = .map E clk ∧ Stamped E clk ∧ (∀ e ∈ E.toList, ∃ l, keyOf P k e.key = some l) ∧ ∀ e ∈ E.toList, ∃ b, e.val = .bool b
theorem MapGood.empty {P : Program} {k : TypeId} (clk : Nat) : MapGood P k (.map #[] clk) := ⟨_, _, rfl, stamped_empty clk, fun e he => by simp at he, fun e he => by simp at he⟩
theorem pairwise_one {l : List MapEntry} (h : l.Pairwise fun x y => x.key ≠ y.key) {a b : MapEntry} (ha : a ∈ l) (hb : b ∈ l) (hk : a.key = b.key) : a = b := by
  induction l with
  | nil => cases ha
  | cons c l ih =>
    rw [List.pairwise_cons] at h
    rcases List.mem_cons.1 ha with e1 | ha'
    · rcases List.mem_cons.1 hb with e2 | hb'
      · rw [e1, e2]
      · exact absurd hk (e1 ▸ h.1 b hb')
    · rcases List.mem_cons.1 hb with e2 | hb'
      · exact absurd hk.symm (e2 ▸ h.1 a ha')
      · exact ih h.2 ha' hb'
variable {P : Program} {t k e : TypeId} {w : World} {m : Nat} {o : Obj}
theorem MapGood.lookup (K : KeyLaw P k) (ht : P.underlying t = some (.map k e)) (hz : ∀ w, (zeroValue e).run P w = .ok (.bool false) w) (G : MapGood P k o) {key : Value} {l : Lit} (hkey : keyOf P k key = some l) :
    ∃ b, ∀ (w : World) (m : Nat), w.heap[m]? = some o → (Instr.lookup t (.map (some m)) key false).run P w = .ok (.bool b) w := by
  obtain ⟨E, clk, rfl, hs, h1, h2⟩ := G.ex
  have hn := ((stamped_iff E clk).1 hs).2.2
  by_cases hex : ∃ e0 ∈ E.toList, e0.key = key
  · obtain ⟨e0, m0, k0⟩ := hex
    obtain ⟨b, hb⟩ := h2 e0 m0
    refine ⟨b, fun w m hm => ?_⟩
    rcases K.find w hkey E.toList h1 with ⟨q1, q2⟩ | ⟨j, e1, q1, q2, q3⟩
    · exact absurd k0 (q2 e0 m0)
    · have := pairwise_one hn (List.mem_of_getElem? q2) m0 (q3.trans k0.symm)
      subst this
      simp [Instr.lookup, run_underlying ht, MapKept.run_getObj_map hm, K.check w _ hkey, q1, hb, Result.andThen]
  · refine ⟨false, fun w m hm => ?_⟩
    rcases K.find w hkey E.toList h1 with ⟨q1, q2⟩ | ⟨j, e1, q1, q2, q3⟩
    · simp [Instr.lookup, run_underlying ht, MapKept.run_getObj_map hm, K.check w _ hkey, q1, hz, Result.andThen]
    · exact absurd ⟨e1, List.mem_of_getElem? q2, q3⟩ hex
theorem MapGood.update (K : KeyLaw P k) (ht : P.underlying t = some (.map k e)) (hm : w.heap[m]? = some o) (G : MapGood P k o) {key : Value} {l : Lit} (hkey : keyOf P k key = some l) (b : Bool) :
    ∃ o', MapGood P k o' ∧ (Instr.mapUpdate t (.map (some m)) key (.bool b)).run P w = .ok () { w with heap := w.heap.setIfInBounds m o' } := by
  obtain ⟨E, clk, rfl, hs, h1, h2⟩ := G.ex
  rcases K.find w hkey E.toList h1 with ⟨q1, q2⟩ | ⟨j, e0, q1, q2, q3⟩
  · refine ⟨.map (E.push ⟨key, .bool b, clk⟩) (clk + 1), ⟨_, _, rfl, stamped_push hs q2, fun x hx => ?_, fun x hx => ?_⟩, ?_⟩
    · simp only [Array.toList_push, List.mem_append, List.mem_singleton] at hx
      rcases hx with hx | rfl
      · exact h1 x hx
      · exact ⟨l, hkey⟩
    · simp only [Array.toList_push, List.mem_append, List.mem_singleton] at hx
      rcases hx with hx | rfl
      · exact h2 x hx
      · exact ⟨b, rfl⟩
    · simp [Instr.mapUpdate, run_underlying ht, MapKept.run_getObj_map hm, K.check w false hkey, q1, MapKept.run_setObj_map _ hm, Result.andThen, Go.ChangeMaps.setBlock]
  · have hj : E[j]? = some e0 := by simpa using q2
    have hkeyf : ∀ e', E[j]? = some e' → ({ e' with key := key, val := Value.bool b } : MapEntry).key = e'.key := fun e' he' => by rw [hj] at he'; cases he'; exact q3.symm
    refine ⟨.map (E.modify j (fun e' => { e' with key := key, val := .bool b })) clk, ⟨_, _, rfl, stamped_modify hs _ _ (fun _ _ => rfl) (fun e' _ he' => hkeyf e' he'), fun x hx => ?_, fun x hx => ?_⟩, ?_⟩
    · rcases MapFrom.mem_modify hx with hx | ⟨e', _, rfl⟩
      · exact h1 x hx
      · exact ⟨l, hkey⟩
    · rcases MapFrom.mem_modify hx with hx | ⟨e', _, rfl⟩
      · exact h2 x hx
      · exact ⟨b, rfl⟩
    · simp [Instr.mapUpdate, run_underlying ht, MapKept.run_getObj_map hm, K.check w false hkey, q1, hj, q3, K.stays w hkey, MapKept.run_setObj_map _ hm, Result.andThen, Go.ChangeMaps.setBlock]
end
end Go.Proofs.Ytbhjhffglcipbaa.AS
namespace Go.Proofs.Ytbhjhffglcipbaa.HW
open Go Go.Proofs.Ytbhjhffglcipbaa.AS Go.RowKit
set_option linter.unusedVariables false
set_option linter.unusedSimpArgs false
set_option linter.unusedSectionVars false
/-! ## search.goes: what stands in for what it calls -/
structure RowsIn (o : Obj) (x : Addr) (n : Nat) (row : Nat → List Value) : Prop where
  ex : ∃ C t fr, o = .cells C t fr ∧ x.off + n * 15 ≤ C.size ∧ ∀ i, i < n → ∀ j v, (row i)[j]? = some v → C[x.off + i * 15 + j]? = some v
def extG (P : Program) (m : Nat) (x : Addr) (n : Nat) (row : Nat → List Value) : Nat → Obj → Nat → Prop := fun tag o p => (tag = 0 ∧ p = m ∧ MapGood P 59 o) ∨ (tag = 1 ∧ p = x.block ∧ RowsIn o x n row)
def pinW : Win := ⟨1, i64 0, 1, 0⟩
def Struct2 (w : World) (sb : Nat) (x : Addr) (n c m : Nat) : Prop := w.heap[sb]? = some (.cells #[.slice (some x) n c, .map (some m)] 53 (0, 0))
theorem Struct2.at {w : World} {sb : Nat} {x : Addr} {n c m : Nat} (h : Struct2 w sb x n c m) : Go.Proofs.Ytbhjhffglcipbaa.StructAt w sb x n c m := ⟨_, _, _, h, rfl, rfl, Nat.le_refl _⟩
def MapAt (P : Program) (w : World) (m : Nat) : Prop := ∃ o, w.heap[m]? = some o ∧ MapGood P 59 o
/-- what the symbols stand for in goes -/
structure SG (P : Program) (S : Sym) (x : Addr) (n c m left : Nat) (s : ByteArray) (row : Nat → List Value) : Prop where
  so : SO S x n c m left
  v : S.val 5 = .string s
  ext : ∀ t o p, S.ext t o p → extG P m x n row t o p
  pin : pinW ∈ S.wins
/-- what is known of the rows once and for all -/
structure RowsOK (x : Addr) (n : Nat) (row : Nat → List Value) : Prop where
  spot : x.spot = none
  len : ∀ i, i < n → (row i).length = 15
  leafs : ∀ i, i < n → (row i).all AS.leaf = true

theorem okS_eq {o : Option Ob} (h : okS o = true) : ∃ ro, o = some (.blk [sy 1, .map (some 2)] 0 ro (some 53)) := by
  unfold okS at h
  split at h
  · rename_i a b u ro t
    simp only [Bool.and_eq_true] at h
    obtain ⟨h1, h2, h3, h4⟩ := h
    have h1 := of_beq h1; have h2 := of_beq h2; have h3 := of_beq h3; have h4 := of_beq h4
    subst h1 h2 h3 h4
    exact ⟨_, rfl⟩
  · cases h
theorem okX_eq {o : Option Ob} {n : Nat} (h : okX n o = true) : o = some (.ext n) := by
  unfold okX at h
  split at h
  · rw [of_beq h]
  · cases h
theorem okB_eq {σ : St} (h : okB σ = true) : (∃ ro, σ.get 0 = some (.blk [sy 1, .map (some 2)] 0 ro (some 53))) ∧ σ.get 1 = some (.ext 1) ∧ σ.get 2 = some (.ext 0) := by
  unfold okB at h
  simp only [Bool.and_eq_true] at h
  exact ⟨okS_eq h.1, okX_eq h.2.1, okX_eq h.2.2⟩

section
variable {P : Program} {S : Sym} {x : Addr} {n c m left : Nat} {s : ByteArray} {row : Nat → List Value} {ρ : Rho} {σ : St} {w : World}
theorem okB_world (hS : SG P S x n c m left s row) (hR : RowsOK x n row) (hr : @HR S ρ σ w) (hb : okB σ = true) {l0 : AS.Loc} (h0 : ρ 0 = some l0) :
    l0.po = 0 ∧ Struct2 w l0.pb x n c m ∧ RowsAt w x n row ∧ MapAt P w m ∧ ∃ l2, ρ 2 = some l2 ∧ l2.pb = m := by
  obtain ⟨⟨ro, g0⟩, g1, g2⟩ := okB_eq hb
  obtain ⟨h1, h2, h3, h4, C, t, fr, h5, h6, h7, h8, h9⟩ := @HR.ob S ρ σ w hr 0 _ l0 g0 h0
  obtain ⟨rfl, hpo, hsz, rfl, hu⟩ := h9 53 rfl
  have hext : l0.ext = 2 := hu rfl
  obtain ⟨v0, c0, r0⟩ := h8 0 (sy 1) rfl
  obtain ⟨v1, c1, r1⟩ := h8 1 (.map (some 2)) rfl
  rw [hpo] at c0 c1
  have e0 : v0 = .slice (some x) n c := by
    cases r0 with
    | leaf h => simp [HW.sy, AS.leaf] at h
    | sym h => rw [← h]; exact hS.so.l
  obtain ⟨l2, e1, hl2⟩ := @VR.inv_map S ρ _ _ r1
  subst e0 e1
  obtain ⟨o2, q1, q2⟩ := @HR.ob S ρ σ w hr 2 _ l2 g2 hl2
  have hm : l2.pb = m ∧ MapGood P 59 o2 := by
    rcases hS.ext _ _ _ q2 with ⟨_, a, b⟩ | ⟨a, _⟩
    · exact ⟨a, b⟩
    · omega
  obtain ⟨x1, n1, cc1, kd, i1, l1, k1, k2, k3, k4, k5, k6, k7, k8⟩ := @HR.win S ρ σ w hr pinW hS.pin
  have k1 : S.val 1 = .slice (some x1) n1 cc1 := k1
  rw [hS.so.l] at k1
  simp only [Value.slice.injEq, Option.some.injEq] at k1
  obtain ⟨rfl, rfl, rfl⟩ := k1
  obtain ⟨o1, p1, p2⟩ := @HR.ob S ρ σ w hr 1 _ l1 g1 k5
  have hrow : RowsIn o1 x n row := by
    rcases hS.ext _ _ _ p2 with ⟨a, _⟩ | ⟨_, _, b⟩
    · omega
    · exact b
  rw [k7] at p1
  refine ⟨hpo, ?_, ⟨hR.spot, ?_, hR.len, hR.leafs⟩, ⟨o2, hm.1 ▸ q1, hm.2⟩, l2, hl2, hm.1⟩
  · show w.heap[l0.pb]? = _
    rw [h5]
    have : C = #[.slice (some x) n c, .map (some m)] := by
      apply Array.ext
      · rw [hsz, hext]; rfl
      · intro i hi1 hi2
        have hi : i < 2 := hi2
        match i, hi with
        | 0, _ => have := (Array.getElem?_eq_some_iff.1 c0).2; simpa using this
        | 1, _ => have := (Array.getElem?_eq_some_iff.1 c1).2; simpa [hm.1] using this
    rw [this]
  · obtain ⟨C1, t1, fr1, rfl, a, b⟩ := hrow.ex
    exact ⟨C1, t1, fr1, p1, a, b⟩
/-- an argument that is the search -/
theorem at0_eq {v : Value} (h : @VR S ρ (at_ 0) v) : ∃ l0, ρ 0 = some l0 ∧ v = .pointer (some ⟨l0.pb, l0.po, none⟩) := by
  obtain ⟨a', rfl, ha⟩ := @VR.inv_ptr S ρ _ _ h
  obtain ⟨l, h1, h2, h3⟩ := ha.at_
  refine ⟨l, h1, ?_⟩
  have hs := ha.s'
  cases a'
  simp_all
theorem sy_eq {v : Value} {i : Nat} (h : @VR S ρ (sy i) v) : v = S.val i := by
  cases h with
  | leaf h => simp [HW.sy, AS.leaf] at h
  | sym h => exact h.symm
theorem args_eq {args : List Value} {l : List Value} {σ : St} (h : argsB args l σ = true) : args = at_ 0 :: l ∧ okB σ = true := by
  unfold argsB at h
  simp only [Bool.and_eq_true] at h
  obtain ⟨h1, h2, h3⟩ := h
  refine ⟨?_, h3⟩
  split at h2
  · rename_i b o tl
    simp only [Bool.and_eq_true] at h2
    obtain ⟨e1, e2⟩ := h2
    have e1 := of_beq e1; have e2 := of_beq e2
    subst e1 e2
    have h1 : tl = l := listB_eq (fun a b q => same_eq q) h1
    rw [h1]
    rfl
  · cases h2
theorem argsV_eq {has : Bool} {args : List Value} {σ : St} (h : argsV has args σ = true) : (∃ cs : Array Value, args = [at_ 0, .agg cs] ∧ (cs.toList = [sy 115, .bool true, sy 106] ∨ cs.toList = [sy 115, .bool has, sy 5] ∨ cs.toList = [sy 115, .bool false, .string ⟨#[]⟩])) ∧ okB σ = true := by
  unfold argsV at h
  simp only [Bool.and_eq_true] at h
  obtain ⟨h2, h3⟩ := h
  refine ⟨?_, h3⟩
  split at h2
  · rename_i b o cs
    simp only [Bool.and_eq_true] at h2
    obtain ⟨e1, e2, e3⟩ := h2
    have e1 := of_beq e1; have e2 := of_beq e2
    subst e1 e2
    refine ⟨cs, rfl, ?_⟩
    unfold okV at e3
    simp only [Bool.or_eq_true] at e3
    exact e3.imp (listB_eq fun a b q => same_eq q) fun e => e.imp (listB_eq fun a b q => same_eq q) (listB_eq fun a b q => same_eq q)
  · cases h2
end
end Go.Proofs.Ytbhjhffglcipbaa.HW
namespace Go.Proofs.Ytbhjhffglcipbaa
open Go Go.Proofs.Ytbhjhffglcipbaa.AS Go.Proofs.Ytbhjhffglcipbaa.HW Go.RowKit
set_option maxRecDepth 100000
set_option linter.unusedVariables false
set_option linter.unusedSimpArgs false
set_option linter.unusedSectionVars false
section
variable {S : Sym} {x : Addr} {n c m left : Nat} {s : ByteArray} {D : Nat → DR}
theorem overS_ok (hS : SG Try.prog S x n c m left s fun k => (D k).cells) (hR : RowsOK x n fun k => (D k).cells) (hn : n ≤ 31) (hl : left < 4294967296)
    (hend : ∃ i, i < n ∧ left / 2 ^ i % 2 = 1 ∧ 0 ≤ (D i).to ∧ (D i).code ≠ 7) : @SimFn S Try.prog 22 overS := by
  intro args σ v σ' h ρ w args' hg hr ha
  unfold overS at h
  split at h
  case isFalse => cases h
  rename_i hc
  obtain ⟨rfl, hb⟩ := args_eq hc
  simp only [Option.some.injEq, Prod.mk.injEq] at h
  obtain ⟨rfl, rfl⟩ := h
  cases ha with | cons h1 t => cases t with | cons h2 t => cases t with | nil =>
  obtain ⟨l0, g0, rfl⟩ := at0_eq h1
  have h2 := sy_eq h2
  rw [hS.so.left] at h2
  subst h2
  obtain ⟨q1, q2, q3, q4, q5⟩ := okB_world hS hR hr hb g0
  rw [q1]
  obtain ⟨i, e1, e2, e3, e4⟩ := hend
  refine (over_calls q2.at q3 (fun i _ => ⟨_, _, rfl, rfl⟩) hn hl ⟨i, e1, e2, _, _, rfl, rfl, e3, e4⟩).mono ?_
  rintro e w' ⟨rfl, hb'⟩
  exact ⟨_, ρ, rfl, @Ext.grown S _ _ _ _ hr hb', @HR.grown S _ _ _ _ hr hb', @VR.leaf S ρ _ rfl⟩
theorem firstS_ok {i : Nat} {b : Bool} (hS : SG Try.prog S x n c m left s fun k => (D k).cells) (hR : RowsOK x n fun k => (D k).cells) (hn : n ≤ 31) (hl : left < 4294967296) (hi : i < n) (h8 : S.val 8 = HW.i64 i)
    (hf : firstB D n left i = b) : @SimFn S Try.prog 23 (firstS b) := by
  intro args σ v σ' h ρ w args' hg hr ha
  unfold firstS at h
  split at h
  case isFalse => cases h
  rename_i hc
  obtain ⟨rfl, hb⟩ := args_eq hc
  simp only [Option.some.injEq, Prod.mk.injEq] at h
  obtain ⟨rfl, rfl⟩ := h
  cases ha with | cons h1 t => cases t with | cons h2 t => cases t with | cons h3 t => cases t with | nil =>
  obtain ⟨l0, g0, rfl⟩ := at0_eq h1
  have h2 := sy_eq h2
  have h3 := sy_eq h3
  rw [hS.so.left] at h2
  rw [h8] at h3
  subst h2 h3
  obtain ⟨q1, q2, q3, q4, q5⟩ := okB_world hS hR hr hb g0
  rw [q1]
  refine (first_calls q2.at q3 hn hl hi).mono ?_
  rintro e w' ⟨rfl, hb'⟩
  exact ⟨_, ρ, rfl, @Ext.grown S _ _ _ _ hr hb', @HR.grown S _ _ _ _ hr hb', by rw [hf]; exact @VR.leaf S ρ _ rfl⟩
end
end Go.Proofs.Ytbhjhffglcipbaa
namespace Go.Proofs.Ytbhjhffglcipbaa.HW
open Go Go.Proofs.Ytbhjhffglcipbaa.AS Go.RowKit
set_option linter.unusedVariables false
set_option linter.unusedSimpArgs false
set_option linter.unusedSectionVars false
/-- a value that a key may be: if there is one, it isn't what nobody writes -/
structure GoodV (nv : ByteArray) (has : Bool) (s : ByteArray) : Prop where
  size : s.size ≤ maxLen
  nev : has = true → s.toList ≠ nv.toList
/-- the calls: the last is an answered Get of what nobody writes -/
structure GoodR (nv : ByteArray) (n : Nat) (D : Nat → DR) : Prop where
  one : 1 ≤ n
  top : n ≤ 31
  kind : (D (n - 1)).kind = 1
  to : 0 ≤ (D (n - 1)).to
  code : (D (n - 1)).code = 0
  told : (D (n - 1)).told = nv
  has : (D (n - 1)).has = true
  vals : ∀ i, i < n → GoodV nv true (D i).val
/-- only the map has turned -/
structure Turned (P : Program) (m : Nat) (w w' : World) : Prop where
  os : w'.os = w.os
  tape : w'.tape = w.tape
  output : w'.output = w.output
  size : w.heap.size ≤ w'.heap.size
  keep : ∀ p, p < w.heap.size → p ≠ m → w'.heap[p]? = w.heap[p]?
  map : MapAt P w' m

theorem agg_eq {S : Sym} {ρ : Rho} {cs : Array Value} {v : Value} (h : @VR S ρ (.agg cs) v) : ∃ cs' : Array Value, v = .agg cs' ∧ @VL S ρ cs.toList cs'.toList := by
  cases h with
  | leaf h => simp [AS.leaf] at h
  | agg h => exact ⟨_, rfl, h⟩
theorem arr3 {cs : Array Value} {a b c : Value} (h : cs.toList = [a, b, c]) : cs = #[a, b, c] := by rw [← Array.toList_inj, h]
theorem isKey_eq {has : Bool} {k : Value} (h : isKey has k = true) : ∃ cs : Array Value, k = .agg cs ∧ cs.toList = keyX has := by
  unfold isKey at h
  split at h
  · rename_i cs
    exact ⟨cs, rfl, listB_eq (fun a b q => same_eq q) h⟩
  · cases h

section
variable {P : Program} {S : Sym} {x : Addr} {n c m left : Nat} {s : ByteArray} {row : Nat → List Value}
theorem key_eq (hS : SG P S x n c m left s row) {has : Bool} {k k' : Value} {ρ : Rho} (h : isKey has k = true) (hv : @VR S ρ k k') : k' = .agg #[u32 left, .bool has, .string s] := by
  obtain ⟨cs, rfl, hcs⟩ := isKey_eq h
  obtain ⟨cs', rfl, h2⟩ := agg_eq hv
  rw [hcs] at h2
  unfold keyX at h2
  generalize hl : cs'.toList = l at h2
  cases h2 with | cons h1 t => cases t with | cons h2 t => cases t with | cons h3 t => cases t with | nil =>
  have h1 := sy_eq h1
  have h3 := sy_eq h3
  have h2 := @VR.inv_leaf S ρ _ _ h2 rfl
  rw [hS.so.left] at h1
  rw [hS.v] at h3
  subst h1 h2 h3
  rw [arr3 hl]
theorem orcM_some (hS : SG P S x n c m left s row) {d has : Bool} (fs : List Fact) (ws : List Win) (h : ∀ f ∈ fs, FactOK P S f) (hw : ∀ f ∈ ws, f ∈ S.wins)
    (hlook : ∀ (w : World) (r : Nat) (ob : Obj), w.heap[r]? = some ob → S.ext 0 ob r → (Instr.lookup 51 (.map (some r)) (.agg #[u32 left, .bool has, .string s]) false).run P w = .ok (.bool d) w) : @OrcOK S (orcM P (some d) has fs ws) P := by
  have h0 := @orcL_ok P S lens fs hS.so.len h
  refine @OrcOK.mk S (orcM P (some d) has fs ws) P hw ?_ (fun _ _ _ _ _ h => by cases h) (fun o ev v ho ρ ev' w hX => @OrcOK.ok S (orcL P lens fs) P h0 o ev v ho ρ ev' w hX)
  intro t tag k ok v ho ρ k' w r hk ob h1 h2
  replace ho : (if Nat.beq t 51 && (Nat.beq tag 0 && (isKey has k && !ok)) then some (Value.bool d) else none) = some v := ho
  split at ho
  · rename_i hc
    simp only [Bool.and_eq_true, Bool.not_eq_true'] at hc
    obtain ⟨c1, c2, c3, c4⟩ := hc
    have c1 := of_beq c1; have c2 := of_beq c2
    subst c1 c2 c4
    simp only [Option.some.injEq] at ho
    subst ho
    rw [key_eq hS c3 hk]
    exact ⟨_, hlook w r ob h1 h2, @VR.leaf S ρ _ rfl⟩
  · cases ho
theorem orcM_none (hS : SG P S x n c m left s row) {has : Bool} (fs : List Fact) (ws : List Win) (h : ∀ f ∈ fs, FactOK P S f) (hw : ∀ f ∈ ws, f ∈ S.wins)
    (hupd : ∀ (w : World) (r : Nat) (ob : Obj) (b : Bool), w.heap[r]? = some ob → S.ext 0 ob r → ∃ ob', S.ext 0 ob' r ∧ (Instr.mapUpdate 51 (.map (some r)) (.agg #[u32 left, .bool has, .string s]) (.bool b)).run P w = .ok () { w with heap := w.heap.setIfInBounds r ob' }) :
    @OrcOK S (orcM P none has fs ws) P := by
  have h0 := @orcL_ok P S lens fs hS.so.len h
  refine @OrcOK.mk S (orcM P none has fs ws) P hw (fun _ _ _ _ _ h => by cases h) ?_ (fun o ev v ho ρ ev' w hX => @OrcOK.ok S (orcL P lens fs) P h0 o ev v ho ρ ev' w hX)
  intro t tag k y tag' ho ρ k' y' w r hk hy ob h1 h2
  replace ho : (if Nat.beq t 51 && (Nat.beq tag 0 && (isKey has k && isB y)) then some 0 else none) = some tag' := ho
  split at ho
  · rename_i hc
    simp only [Bool.and_eq_true] at hc
    obtain ⟨c1, c2, c3, c4⟩ := hc
    have c1 := of_beq c1; have c2 := of_beq c2
    subst c1 c2
    simp only [Option.some.injEq] at ho
    subst ho
    rw [key_eq hS c3 hk]
    unfold isB at c4
    split at c4
    · rename_i b
      rw [@VR.inv_leaf S ρ _ _ hy rfl]
      exact hupd w r ob b h1 h2
    · cases c4
  · cases ho
/-- strings that are compared -/
theorem FactOK.str {t : TypeId} {x y : Value} {a b : ByteArray} {r : Bool} (hx : conc S x = .string a) (hy : conc S y = .string b) (hr : (a.toList == b.toList) = r) : FactOK P S ⟨.eql, t, x, y, .bool r⟩ :=
  FactOK.of_run hx hy rfl (fun w => by simp [binOp, Op.stringOp, conc, hr]) ⟨rfl, by simp⟩ (.inl rfl)
end
theorem key_gen {P : Program} {a b : TypeId} {n1 n2 n3 n4 p1 p2 p3 p4 g1 g2 g3 g4 : String} {o1 o2 o3 o4 : Nat} {e1 e2 e3 e4 : Bool} {c1 c2 c3 : TypeId} {k : Nat} (h1 : n1 ≠ "_" ∧ n2 ≠ "_" ∧ n3 ≠ "_" ∧ n4 ≠ "_") (u1 : P.underlying a = some (.struct #[⟨n1, c1, 0, e1, g1, p1, o1⟩, ⟨n2, b, 1, e2, g2, p2, o2⟩])) (u2 : P.underlying b = some (.struct #[⟨n3, c2, 0, e3, g3, p3, o3⟩, ⟨n4, c3, 1, e4, g4, p4, o4⟩]))
    (v1 : P.underlying c1 = some (.int .u32)) (v2 : P.underlying c2 = some .bool) (v3 : P.underlying c3 = some .string) (z : P.cellsOf a = 3 ∧ P.cellsOf b = 2 ∧ P.cellsOf c1 = 1 ∧ P.cellsOf c2 = 1 ∧ P.cellsOf c3 = 1) (hk : P.types.size + 1 = k + 4) (hy : P.keyType a = true)
    {left : Nat} {has : Bool} {s : ByteArray} (hl : left < 4294967296) (hs : s.size ≤ maxLen) : ∃ l, keyOf P a (.agg #[.int .u32 left, .bool has, .string s]) = some l := by
  have hwf : (Lit.int .u32 left).wf = true := by
    simp [Lit.wf, IntKind.signed, IntKind.bits, IntKind.min, IntKind.max]
    omega
  obtain ⟨q1, q2, q3, q4⟩ := h1
  obtain ⟨z1, z2, z3, z4, z5⟩ := z
  unfold keyOf
  rw [u1, hk]
  simp [hy, Value.formed, u1, z1, Program.keyLits, u2, v1, v2, v3, z2, z3, z4, z5, hwf, hs, Value.cells, q1, q2, q3, q4]
  rw [if_pos (by intro i hi; match i, hi with | 0, _ => exact q3 | 1, _ => exact q4)]
  simp
end Go.Proofs.Ytbhjhffglcipbaa.HW
namespace Go.Proofs.Ytbhjhffglcipbaa
open Go Go.Proofs.Ytbhjhffglcipbaa.AS Go.Proofs.Ytbhjhffglcipbaa.HW Go.RowKit
set_option maxRecDepth 100000
set_option linter.unusedVariables false
set_option linter.unusedSimpArgs false
set_option linter.unusedSectionVars false
theorem t59 : Try.prog.keyTypeAt 5 59 = true := by kernel_rfl
theorem tl59 : Try.prog.tiled 5 59 = true := by kernel_rfl
theorem u51 : Try.prog.underlying 51 = some (.map 59 4) := by kernel_rfl
theorem u59 : Try.prog.underlying 59 = some (.struct #[⟨ "left", 57, 0, false, "", "lockgate/hist", 0⟩, ⟨ "v", 55, 1, false, "", "lockgate/hist", 8⟩]) := by kernel_rfl
theorem u55 : Try.prog.underlying 55 = some (.struct #[⟨ "has", 4, 0, false, "", "lockgate/hist", 0⟩, ⟨ "val", 9, 1, false, "", "lockgate/hist", 8⟩]) := by kernel_rfl
theorem u57 : Try.prog.underlying 57 = some (.int .u32) := by kernel_rfl
theorem u4 : Try.prog.underlying 4 = some .bool := by kernel_rfl
theorem u9 : Try.prog.underlying 9 = some .string := by kernel_rfl
theorem c59 : Try.prog.cellsOf 59 = 3 := by kernel_rfl
theorem c55 : Try.prog.cellsOf 55 = 2 := by kernel_rfl
theorem c57 : Try.prog.cellsOf 57 = 1 := by kernel_rfl
theorem c4 : Try.prog.cellsOf 4 = 1 := by kernel_rfl
theorem c9 : Try.prog.cellsOf 9 = 1 := by kernel_rfl
theorem k59 : Try.prog.keyType 59 = true := by kernel_rfl
theorem tsz : ∃ k, Try.prog.types.size + 1 = k + 4 := ⟨Try.prog.types.size - 3, by kernel_rfl⟩
theorem law59 : Go.WideMaps.KeyLaw Try.prog 59 := deep_law (m := 5) (by omega) t59 tl59 (by rw [u59])
theorem key59 {left : Nat} {has : Bool} {s : ByteArray} (hl : left < 4294967296) (hs : s.size ≤ maxLen) : ∃ l, keyOf Try.prog 59 (.agg #[u32 left, .bool has, .string s]) = some l := by
  obtain ⟨k, hk⟩ := tsz
  exact key_gen (by decide) u59 u55 u57 u4 u9 ⟨c59, c55, c57, c4, c9⟩ hk k59 hl hs
end Go.Proofs.Ytbhjhffglcipbaa
namespace Go.Proofs.Ytbhjhffglcipbaa.HW
open Go Go.Proofs.Ytbhjhffglcipbaa.AS Go.RowKit
set_option linter.unusedVariables false
set_option linter.unusedSimpArgs false
set_option linter.unusedSectionVars false
/-- a tree of questions whose ways all end well, and one way -/
theorem chk_way {ph : List Fact → Bool} (tr : Nat → Bool) : ∀ (t : QT) (fs : List Fact), chk ph t fs = true → ∃ gs, (∀ f ∈ gs, ∃ q, f = qf q (tr q)) ∧ ph (gs ++ fs) = true := by
  intro t
  induction t with
  | done => intro fs h; exact ⟨[], fun f hf => (by cases hf), h⟩
  | ask q y n ihy ihn =>
    intro fs h
    simp only [chk, Bool.and_eq_true] at h
    cases hq : tr q with
    | true =>
      obtain ⟨gs, h1, h2⟩ := ihy _ h.1
      refine ⟨gs ++ [qf q true], fun f hf => ?_, by simpa using h2⟩
      rcases List.mem_append.1 hf with hf | hf
      · exact h1 f hf
      · rw [List.mem_singleton] at hf; exact ⟨q, by rw [hf, hq]⟩
    | false =>
      obtain ⟨gs, h1, h2⟩ := ihn _ h.2
      refine ⟨gs ++ [qf q false], fun f hf => ?_, by simpa using h2⟩
      rcases List.mem_append.1 hf with hf | hf
      · exact h1 f hf
      · rw [List.mem_singleton] at hf; exact ⟨q, by rw [hf, hq]⟩
/-- the answers, of a row and a value -/
def qtrue (d : DR) (s : ByteArray) (q : Nat) : Bool :=
  match q with
  | 0 => decide (d.to ≥ 0)
  | 1 => !decide (d.code = 7)
  | 2 => decide (d.kind = 1)
  | 3 => decide (d.kind = 2)
  | 4 => decide (d.kind = 3)
  | 5 => decide (d.code = 0)
  | 6 => decide (d.code = 1)
  | 7 => decide (d.code = 2)
  | 8 => d.told.toList == s.toList
  | _ => s.toList == d.old.toList
/-- what the symbols stand for in a round of goes -/
structure RS (S : Sym) (d : DR) (i left : Nat) : Prop where
  h8 : S.val 8 = i64 i
  h20 : S.val 20 = u32 ((left / 2 ^ i : Nat) : Int)
  h21 : S.val 21 = u32 ((left / 2 ^ i % 2 : Nat) : Int)
  h22 : S.val 22 = i64 (i + 1 : Nat)
  h115 : S.val 115 = u32 ((struck left i : Nat) : Int)
  h116 : S.val 116 = u32 ((2 ^ i : Nat) : Int)
  kind : S.val 104 = i64 d.kind
  val : S.val 106 = .string d.val
  old : S.val 107 = .string d.old
  to : S.val 110 = i64 d.to
  code : S.val 111 = i64 d.code
  told : S.val 112 = .string d.told
section
variable {P : Program} {S : Sym} {d : DR} {i left : Nat}
theorem qf_ok (h : RS S d i left) {s : ByteArray} (hs : S.val 5 = .string s) (q : Nat) : FactOK P S (qf q (qtrue d s q)) := by
  match q with
  | 0 => exact FactOK.int (k := .i64) (x := d.to) (y := 0) h.to rfl rfl (.inl rfl)
  | 1 => exact FactOK.int (k := .i64) (x := d.code) (y := 7) h.code rfl rfl (.inl rfl)
  | 2 => exact FactOK.int (k := .i64) (x := d.kind) (y := 1) h.kind rfl rfl (.inl rfl)
  | 3 => exact FactOK.int (k := .i64) (x := d.kind) (y := 2) h.kind rfl rfl (.inl rfl)
  | 4 => exact FactOK.int (k := .i64) (x := d.kind) (y := 3) h.kind rfl rfl (.inl rfl)
  | 5 => exact FactOK.int (k := .i64) (x := d.code) (y := 0) h.code rfl rfl (.inl rfl)
  | 6 => exact FactOK.int (k := .i64) (x := d.code) (y := 1) h.code rfl rfl (.inl rfl)
  | 7 => exact FactOK.int (k := .i64) (x := d.code) (y := 2) h.code rfl rfl (.inl rfl)
  | 8 => exact FactOK.str h.told hs rfl
  | _ + 9 => exact FactOK.str hs h.old rfl
theorem bitF_ok (h : RS S d i left) {b : Bool} (hb : (left / 2 ^ i % 2 = 1) ↔ b = true) : ∀ f ∈ bitF b, FactOK P S f := by
  intro f hf
  simp only [bitF, List.mem_cons, List.not_mem_nil, or_false] at hf
  subst hf
  refine FactOK.int (k := .u32) (x := ((left / 2 ^ i % 2 : Nat) : Int)) (y := 0) h.h21 rfl ?_ (.inl rfl)
  have h2 : left / 2 ^ i % 2 < 2 := Nat.mod_lt _ (by omega)
  show some (Value.bool (decide (((left / 2 ^ i % 2 : Nat) : Int) = 0))) = some (Value.bool (!b))
  cases b with
  | true => have := hb.2 rfl; rw [decide_eq_false (by omega)]; rfl
  | false =>
    have : ¬ (left / 2 ^ i % 2 = 1) := fun e => by simpa using hb.1 e
    rw [decide_eq_true (by omega)]; rfl
theorem factsG_ok {x : Addr} {n c m : Nat} (h : RS S d i left) (hS : SO S x n c m left) (hl : left < 4294967296) (hn : n ≤ 31) (hi : i < n) (hb : left / 2 ^ i % 2 = 1) : ∀ f ∈ factsG, FactOK P S f := by
  intro f hf
  unfold factsG at hf
  rcases List.mem_append.1 hf with hf | hf
  · exact factsI_ok hS hl hn hi h.h8 h.h20 h.h21 h.h22 f hf
  rcases List.mem_append.1 hf with hf | hf
  · exact bitF_ok h (b := true) (by simp [hb]) f hf
  simp only [List.mem_cons, List.not_mem_nil, or_false] at hf
  rcases hf with rfl | rfl
  · exact FactOK.of_run (vx := .int .u32 1) (vy := .int .i64 i) (vr := .int .u32 ((2 ^ i : Nat) : Int)) rfl h.h8 h.h116 (fun w => run_shl1 i (by omega)) ⟨rfl, by simp⟩ (.inr rfl)
  · exact FactOK.of_run (vx := .int .u32 left) (vy := .int .u32 ((2 ^ i : Nat) : Int)) (vr := .int .u32 ((struck left i : Nat) : Int)) hS.left h.h116 h.h115 (fun w => run_andNot left i) ⟨rfl, by simp⟩ (.inr rfl)
end
end Go.Proofs.Ytbhjhffglcipbaa.HW
namespace Go.Proofs.Ytbhjhffglcipbaa
open Go Go.Proofs.Ytbhjhffglcipbaa.AS Go.Proofs.Ytbhjhffglcipbaa.HW Go.RowKit
set_option maxRecDepth 100000
set_option linter.unusedVariables false
set_option linter.unusedSimpArgs false
set_option linter.unusedSectionVars false
/-- what goes does: it answers false -/
def GoesC (nv : ByteArray) (n : Nat) (D : Nat → DR) (left : Nat) : Prop :=
  ∀ (w0 : World) (sb : Nat) (x : Addr) (c m : Nat) (has : Bool) (s : ByteArray), Struct2 w0 sb x n c m → RowsAt w0 x n (fun k => (D k).cells) → MapAt Try.prog w0 m → GoodV nv has s → left < 4294967296 → left / 2 ^ (n - 1) % 2 = 1 →
    Calls Try.prog 18 #[.pointer (some ⟨sb, 0, none⟩), .agg #[u32 left, .bool has, .string s]] w0 fun e w' => e = .returned (.bool false) ∧ Turned Try.prog m w0 w'
section
variable {S : Sym} {x : Addr} {n c m left i : Nat} {s : ByteArray} {has : Bool} {nv : ByteArray} {D : Nat → DR}
theorem goesS_ok (hS : SG Try.prog S x n c m left s fun k => (D k).cells) (hR : RowsOK x n fun k => (D k).cells) (h0 : ∀ o, MapGood Try.prog 59 o → S.ext 0 o m) (hr : RS S (D i) i left) (hg : GoodV nv has s) (hv : GoodV nv true (D i).val)
    (ih : GoesC nv n D (struck left i)) (hlast : struck left i / 2 ^ (n - 1) % 2 = 1) : @SimFn S Try.prog 18 (goesS has) := by
  intro args σ v σ' h ρ w args' hgr hhr ha
  unfold goesS at h
  split at h
  case isFalse => cases h
  rename_i hc
  obtain ⟨⟨cs, rfl, hcs⟩, hb⟩ := argsV_eq hc
  simp only [Option.some.injEq, Prod.mk.injEq] at h
  obtain ⟨rfl, rfl⟩ := h
  cases ha with | cons h1 t => cases t with | cons h2 t => cases t with | nil =>
  obtain ⟨l0, g0, rfl⟩ := at0_eq h1
  obtain ⟨cs', rfl, hl⟩ := agg_eq h2
  obtain ⟨q1, q2, q3, q4, l2, q5, q6⟩ := okB_world hS hR hhr hb g0
  rw [q1]
  have key : ∃ h' s', cs'.toList = [u32 (struck left i : Nat), .bool h', .string s'] ∧ GoodV nv h' s' := by
    rcases hcs with e | e | e
    · rw [e] at hl
      generalize cs'.toList = l at hl
      cases hl with | cons h1 t => cases t with | cons h2 t => cases t with | cons h3 t => cases t with | nil =>
      have h1 := sy_eq h1; have h3 := sy_eq h3; have h2 := @VR.inv_leaf S ρ _ _ h2 rfl
      rw [hr.h115] at h1; rw [hr.val] at h3
      subst h1 h2 h3
      exact ⟨_, _, rfl, hv⟩
    · rw [e] at hl
      generalize cs'.toList = l at hl
      cases hl with | cons h1 t => cases t with | cons h2 t => cases t with | cons h3 t => cases t with | nil =>
      have h1 := sy_eq h1; have h3 := sy_eq h3; have h2 := @VR.inv_leaf S ρ _ _ h2 rfl
      rw [hr.h115] at h1; rw [hS.v] at h3
      subst h1 h2 h3
      exact ⟨_, _, rfl, hg⟩
    · rw [e] at hl
      generalize cs'.toList = l at hl
      cases hl with | cons h1 t => cases t with | cons h2 t => cases t with | cons h3 t => cases t with | nil =>
      have h1 := sy_eq h1; have h3 := @VR.inv_leaf S ρ _ _ h3 rfl; have h2 := @VR.inv_leaf S ρ _ _ h2 rfl
      rw [hr.h115] at h1
      subst h1 h2 h3
      exact ⟨_, _, rfl, ⟨Nat.zero_le _, fun e => by cases e⟩⟩
  obtain ⟨h', s', e, hg'⟩ := key
  rw [arr3 e]
  obtain ⟨g0, g1, g2⟩ := okB_eq hb
  refine (ih w l0.pb x c m h' s' q2 q3 q4 hg' (struck_u32 _ _) hlast).mono ?_
  rintro e w' ⟨rfl, ht⟩
  have hp : ∀ p, p < w.heap.size → p ≠ l2.pb → w'.heap[p]? = w.heap[p]? := fun p h1 h2 => ht.keep p h1 (q6 ▸ h2)
  obtain ⟨o, k1, k2⟩ := ht.map
  exact ⟨_, ρ, rfl, @Ext.turned S _ _ _ _ hhr _ _ _ _ g2 rfl q5 hp ht.size ht.os ht.tape ht.output, @HR.turned S _ _ _ _ hhr _ _ _ _ g2 rfl q5 rfl ⟨o, q6 ▸ k1, q6 ▸ h0 o k2⟩ hp, @VR.leaf S ρ _ rfl⟩
end
end Go.Proofs.Ytbhjhffglcipbaa
namespace Go.Proofs.Ytbhjhffglcipbaa.HW
open Go Go.Proofs.Ytbhjhffglcipbaa.AS Go.RowKit
set_option linter.unusedVariables false
set_option linter.unusedSimpArgs false
set_option linter.unusedSectionVars false
theorem bools_all {f : Bool → Bool} (h : bools.all f = true) (b : Bool) : f b = true := by
  simp only [bools, List.all_cons, List.all_nil, Bool.and_true, Bool.and_eq_true] at h
  cases b
  · exact h.2
  · exact h.1
theorem rowG_get {o h : Bool} {j : Nat} {u : Value} (hu : (rowG o h)[j]? = some u) : j < 15 ∧ ((j = 8 ∧ u = .bool o) ∨ (j = 13 ∧ u = .bool h) ∨ u = sy (100 + j)) := by
  have hj : j < 15 := by
    have := (List.getElem?_eq_some_iff.1 hu).1
    simpa [rowG, rowU] using this
  refine ⟨hj, ?_⟩
  unfold rowG at hu
  rw [List.getElem?_set] at hu
  split at hu
  · rename_i e
    simp [rowU] at hu
    exact .inr (.inl ⟨e.symm, hu.symm⟩)
  · rw [List.getElem?_set] at hu
    split at hu
    · rename_i e
      simp [rowU] at hu
      exact .inl ⟨e.symm, hu.symm⟩
    · simp only [rowU, List.getElem?_map, List.getElem?_range hj, Option.map_some, Option.some.injEq] at hu
      exact .inr (.inr hu.symm)
theorem DR.get8 (d : DR) : d.cells[8]? = some (.bool d.hasOld) := rfl
theorem DR.get13 (d : DR) : d.cells[13]? = some (.bool d.has) := rfl
theorem new_rowG {has o h : Bool} : (stG has).new (.blk (rowG o h) 0 true none) = some (4, stGw has o h) := by rfl
end Go.Proofs.Ytbhjhffglcipbaa.HW
namespace Go.Proofs.Ytbhjhffglcipbaa
open Go Go.Proofs.Ytbhjhffglcipbaa.AS Go.Proofs.Ytbhjhffglcipbaa.HW Go.RowKit
set_option maxRecDepth 100000
set_option linter.unusedVariables false
set_option linter.unusedSimpArgs false
set_option linter.unusedSectionVars false
theorem body18 : Try.f18.body = some (Try.f18.body.getD .skip) := by kernel_rfl
theorem nt18 : Try.f18.ntmps = 68 := by kernel_rfl
theorem goL_eq2 : goL = goL.take 3 ++ ((goL.drop 3).take 1 ++ (goL.getD 4 .skip :: goL.drop 5)) := by kernel_rfl
theorem goL_eq3 : goL = goL.take 3 ++ ((goL.drop 3).take 3 ++ ([.block 0 (.loop goB)] ++ ((goL.drop 7).take 2 ++ [.ret]))) := by kernel_rfl
theorem goLb_eq1 : goLb = [goLb.getD 0 .skip] ++ (goLb.getD 1 .skip :: goLb.drop 2) := by kernel_rfl
theorem stB_tellG (has : Bool) (t8 t20 t21 t22 : Value) (vs : List Value) (h8 : t8 = sy 8) : stB2 Try.prog piG (theta t8 t20 t21 t22 vs) 8 (stG has) tmG (stG has) tmG = true := by
  subst h8
  cases has <;> kernel_rfl
theorem g_ask (has o h : Bool) : chk (phaseG Try.prog goLb (ovG has) has o h) (qAll has o h) factsG = true := by
  cases has <;> cases o
  · exact bools_all g_ff h
  · exact bools_all g_ft h
  · exact bools_all g_tf h
  · exact bools_all g_tt h
theorem firstS_kept (b : Bool) (args : List Value) (σ : St) (v : Value) (σ' : St) (h : firstS b args σ = some (v, σ')) : Kept σ σ' := by
  unfold firstS at h
  split at h
  · simp only [Option.some.injEq, Prod.mk.injEq] at h; rw [← h.2]; exact @Kept.refl plainSym mute _
  · cases h
theorem overS_kept (args : List Value) (σ : St) (v : Value) (σ' : St) (h : overS args σ = some (v, σ')) : Kept σ σ' := by
  unfold overS at h
  split at h
  · simp only [Option.some.injEq, Prod.mk.injEq] at h; rw [← h.2]; exact @Kept.refl plainSym mute _
  · cases h
theorem goesS_kept (has : Bool) (args : List Value) (σ : St) (v : Value) (σ' : St) (h : goesS has args σ = some (v, σ')) : Kept σ σ' := by
  unfold goesS at h
  split at h
  · rename_i hc
    simp only [Option.some.injEq, Prod.mk.injEq] at h
    rw [← h.2]
    obtain ⟨_, _, g2⟩ := okB_eq (argsV_eq hc).2
    exact @Kept.set plainSym mute _ _ _ _ g2 rfl
  · cases h
section
variable {w0 : World} {x : Addr} {n c m left : Nat} {s : ByteArray} {has : Bool} {nv : ByteArray} {D : Nat → DR}
theorem go_loop {Q : Exit → Act → World → Prop} (hr : RowsAt w0 x n fun k => (D k).cells) (hxB : x.block < w0.heap.size) (hxm : x.block ≠ m) (hD : GoodR nv n D) (hl : left < 4294967296) (hlast : left / 2 ^ (n - 1) % 2 = 1) (hg : GoodV nv has s)
    (ih0 : ∀ l, l < left → GoesC nv n D l)
    (hQe : ∀ S σ (t : TM) a w, SG Try.prog S x n c m left s (fun k => (D k).cells) → (∀ o, MapGood Try.prog 59 o → S.ext 0 o m) → AtX Try.prog S (fun p => p = m) w0.heap.size w0 σ t.toL a w →
      (match @runLT (orcM Try.prog none has [] []) Try.prog ov0 400 ((goL.drop 7).take 2) t σ with
      | some (t, σ) => ansG Try.prog Try.f18 t σ
      | none => false) = true → Q (.exit 0) a w) :
    ∀ (d : Nat) (i : Nat) (S : Sym) (a : Act) (w : World), n - i = d → i ≤ n → SG Try.prog S x n c m left s (fun k => (D k).cells) → (∀ o, MapGood Try.prog 59 o → S.ext 0 o m) → S.val 8 = HW.i64 i →
      AtX Try.prog S (fun p => p = m) w0.heap.size w0 (stG has) tmG a w → InLoop Try.prog goB Q a w := by
  have hn := hD.top
  have hupd : ∀ S : Sym, SG Try.prog S x n c m left s (fun k => (D k).cells) → (∀ o, MapGood Try.prog 59 o → S.ext 0 o m) → ∀ (w : World) (r : Nat) (ob : Obj) (b : Bool), w.heap[r]? = some ob → S.ext 0 ob r →
      ∃ ob', S.ext 0 ob' r ∧ (Instr.mapUpdate 51 (.map (some r)) (.agg #[u32 left, .bool has, .string s]) (.bool b)).run Try.prog w = .ok () { w with heap := w.heap.setIfInBounds r ob' } := by
    intro S hS h0 w r ob b h1 h2
    rcases hS.ext _ _ _ h2 with ⟨_, rfl, hm⟩ | ⟨e, _⟩
    · obtain ⟨l, hkey⟩ := key59 (has := has) hl hg.size
      obtain ⟨ob', q1, q2⟩ := hm.update law59 u51 h1 hkey b
      exact ⟨ob', h0 _ q1, q2⟩
    · omega
  intro d
  induction d with
  | zero =>
    intro i S a w hd hi hS h0 h8 hat
    have hin : i = n := by omega
    refine @inLoop_of_wp plainSym mute _ (mute_ok _) _ _ _ _ (wp_flat _ _ _ _ ?_)
    show wpL Try.prog _ goLb a w
    have htm : (TM.of tmG 68 ok68).toL = tmG := by rw [@TM.of_toL mute _ _ _ (by decide)]; rfl
    rw [← htm] at hat
    have hp := bools_all g_end has
    unfold phaseGe at hp
    split at hp
    case h_2 => cases hp
    rename_i t1 σ1 hrun
    split at hp
    case h_2 => cases hp
    rename_i id t2 σ2 hrun2
    simp only [Bool.and_eq_true] at hp
    obtain ⟨hid, hp⟩ := hp
    have hid := of_beq hid
    subst hid
    have hO : @OrcOK S (orcM Try.prog none has [⟨.lss, 3, HW.sy 8, HW.sy 9, .bool false⟩] []) Try.prog := by
      refine orcM_none hS _ _ ?_ (fun f hf => by cases hf) (hupd S hS h0)
      intro f hf
      simp only [List.mem_cons, List.not_mem_nil, or_false] at hf
      subst hf
      exact FactOK.int (k := .i64) (x := i) (y := n) h8 hS.so.n (by simp [intR, conc]; omega) (.inl rfl)
    have hO2 : @OrcOK S (orcM Try.prog none has [] []) Try.prog := orcM_none hS _ _ (fun f hf => by cases hf) (fun f hf => by cases hf) (hupd S hS h0)
    rw [goLb_eq1]
    refine AtX.runL _ hO mixed26 (fun _ _ h => by cases h) (fun _ _ h => by cases h) _ hrun hat fun a' w' hat3 => ?_
    refine AtX.run _ hO2 mixed26 (fun _ _ h => by cases h) (fun _ _ h => by cases h) hrun2 hat3 fun a2 w2 hat4 => ?_
    exact hQe S σ2 t2 a2 w2 hS h0 hat4 hp
  | succ d ih =>
    intro i S a w hd hi hS h0 h8 hat
    have hin : i < n := by omega
    have hθ : (theta (HW.sy 8) (u32 ((left / 2 ^ i : Nat) : Int)) (u32 ((left / 2 ^ i % 2 : Nat) : Int)) (HW.i64 (i + 1 : Nat)) ((D i).cells ++ [u32 ((struck left i : Nat) : Int), u32 ((2 ^ i : Nat) : Int)])).all okθ = true :=
      theta_ok rfl rfl rfl rfl (by rw [List.all_append, Bool.and_eq_true]; exact ⟨hr.leafs i hin, rfl⟩)
    have hat1 := hat.tellW hθ (stB_tellG has _ _ _ _ _ rfl) hS.pin rfl rfl rfl
    have g8 : ({ Sym.of S _ hθ with wins := [pinW] } : Sym).val 8 = HW.i64 i := h8
    have g20 : ({ Sym.of S _ hθ with wins := [pinW] } : Sym).val 20 = u32 ((left / 2 ^ i : Nat) : Int) := rfl
    have g21 : ({ Sym.of S _ hθ with wins := [pinW] } : Sym).val 21 = u32 ((left / 2 ^ i % 2 : Nat) : Int) := rfl
    have g22 : ({ Sym.of S _ hθ with wins := [pinW] } : Sym).val 22 = HW.i64 (i + 1 : Nat) := rfl
    have grow : ∀ j v, ((D i).cells ++ [u32 ((struck left i : Nat) : Int), u32 ((2 ^ i : Nat) : Int)])[j]? = some v → ({ Sym.of S _ hθ with wins := [pinW] } : Sym).val (100 + j) = v := by
      intro j v hv
      show conc S ((theta _ _ _ _ ((D i).cells ++ [u32 ((struck left i : Nat) : Int), u32 ((2 ^ i : Nat) : Int)])).getD (100 + j) _) = v
      rw [theta_row, List.getD_eq_getElem?_getD, hv]
      refine conc_leaf ?_
      have := List.mem_of_getElem? hv
      rcases List.mem_append.1 this with q | q
      · exact List.all_eq_true.1 (hr.leafs i hin) v q
      · simp only [List.mem_cons, List.not_mem_nil, or_false] at q
        rcases q with rfl | rfl <;> rfl
    have hS1 : SG Try.prog { Sym.of S _ hθ with wins := [pinW] } x n c m left s (fun k => (D k).cells) := ⟨⟨hS.so.l, hS.so.m, hS.so.left, hS.so.n⟩, hS.v, hS.ext, List.mem_cons_self ..⟩
    have h01 : ∀ o, MapGood Try.prog 59 o → ({ Sym.of S _ hθ with wins := [pinW] } : Sym).ext 0 o m := h0
    generalize ({ Sym.of S _ hθ with wins := [pinW] } : Sym) = S1 at hat1 hS1 h01 g8 g20 g21 g22 grow
    obtain ⟨ρw, hw⟩ := hat1
    have hrw : RowsAt w x n fun k => (D k).cells := hr.keep (hw.keep x.block hxB hxm)
    obtain ⟨C, t, fr, c1, c2, c3⟩ := hrw.cells
    have hat2 := AtX.window (k := HW.sy 8) ⟨ρw, hw⟩ (new_rowG (o := (D i).hasOld) (h := (D i).has)) (z := 15) hS1.so.l (kd := .i64) (i := (i : Int)) g8 (by omega) (by omega) hr.spot (by simp [rowG, rowU]) hxB hxm c1 (by simp only [Int.toNat_natCast]; omega) (fun j u hu => by
      obtain ⟨hj, hu⟩ := rowG_get hu
      have hv : ((D i).cells)[j]? = some (((D i).cells)[j]'hj) := List.getElem?_eq_getElem _
      refine ⟨_, by simp only [Int.toNat_natCast]; exact c3 i hin j _ hv, fun ρ => ?_⟩
      rcases hu with ⟨rfl, rfl⟩ | ⟨rfl, rfl⟩ | rfl
      · exact @VR.leaf S1 ρ _ rfl
      · exact @VR.leaf S1 ρ _ rfl
      · exact @VR.sym S1 ρ (100 + j) _ (grow j _ (by rw [List.getElem?_append_left (show j < (D i).cells.length from hj)]; exact hv)))
    refine @inLoop_of_wp plainSym mute _ (mute_ok _) _ _ _ _ (wp_flat _ _ _ _ ?_)
    show wpL Try.prog _ goLb a w
    have htm : (TM.of tmG 68 ok68).toL = tmG := by rw [@TM.of_toL mute _ _ _ (by decide)]; rfl
    rw [← htm] at hat2
    have hS2 : SG Try.prog { S1 with wins := ⟨1, HW.sy 8, 4, 15⟩ :: S1.wins } x n c m left s (fun k => (D k).cells) := ⟨⟨hS1.so.l, hS1.so.m, hS1.so.left, hS1.so.n⟩, hS1.v, hS1.ext, List.mem_cons_of_mem _ hS1.pin⟩
    have h02 : ∀ o, MapGood Try.prog 59 o → ({ S1 with wins := ⟨1, HW.sy 8, 4, 15⟩ :: S1.wins } : Sym).ext 0 o m := h01
    have hRS : RS { S1 with wins := ⟨1, HW.sy 8, 4, 15⟩ :: S1.wins } (D i) i left := ⟨g8, g20, g21, g22, grow 15 _ rfl, grow 16 _ rfl, grow 4 _ rfl, grow 6 _ rfl, grow 7 _ rfl, grow 10 _ rfl, grow 11 _ rfl, grow 12 _ rfl⟩
    have hwin : ∀ f ∈ winsG, f ∈ ({ S1 with wins := ⟨1, HW.sy 8, 4, 15⟩ :: S1.wins } : Sym).wins := by
      intro f hf
      simp only [winsG, List.mem_cons, List.not_mem_nil, or_false] at hf
      subst hf; simp
    generalize ({ S1 with wins := ⟨1, HW.sy 8, 4, 15⟩ :: S1.wins } : Sym) = S2 at hat2 hS2 h02 hRS hwin
    have goon : ∀ (ov : Ov) (fs : List Fact), phaseG Try.prog goLb ov has (D i).hasOld (D i).has fs = true → (∀ f ∈ fs, FactOK Try.prog S2 f) → (∀ f g, ov f = some g → @SimFn S2 Try.prog f g) → (∀ f g, ov f = some g → ∀ args σ v σ', g args σ = some (v, σ') → Kept σ σ') →
        wpL Try.prog (Exit.then (InLoop Try.prog goB Q) Q) goLb a w := by
      intro ov fs hp hfs hov hk
      unfold phaseG at hp
      split at hp
      case h_2 => cases hp
      rename_i t1 σ1 hrun
      rw [← List.append_nil goLb]
      refine AtX.runL _ (orcM_none hS2 _ _ hfs hwin (hupd S2 hS2 h02)) mixed26 hov hk goLb hrun hat2 fun a' w' hat4 => ?_
      obtain ⟨hθ2, hat5⟩ := hat4.restateW hp hS2.pin rfl rfl rfl
      refine ih (i + 1) _ a' w' (by omega) (by omega) ?_ ?_ ?_ hat5
      · exact ⟨⟨hS2.so.l, hS2.so.m, hS2.so.left, hS2.so.n⟩, hS2.v, hS2.ext, List.mem_cons_self ..⟩
      · exact h02
      · exact hRS.h22
    have hfI : ∀ f ∈ factsI, FactOK Try.prog S2 f := factsI_ok hS2.so hl hn hin hRS.h8 hRS.h20 hRS.h21 hRS.h22
    by_cases hbit : left / 2 ^ i % 2 = 1
    case neg =>
      refine goon ov0 _ (bools_all (bools_all (bools_all g_bit has) (D i).hasOld) (D i).has) ?_ (fun _ _ h => by cases h) (fun _ _ h => by cases h)
      intro f hf
      rcases List.mem_append.1 hf with hf | hf
      · exact hfI f hf
      · exact bitF_ok hRS (b := false) (by simp [hbit]) f hf
    have hRO : RowsOK x n fun k => (D k).cells := ⟨hr.spot, hr.len, hr.leafs⟩
    have hfG := factsG_ok (P := Try.prog) hRS hS2.so hl hn hin hbit
    have hovF : ∀ b, firstB D n left i = b → ∀ f g, ovF b f = some g → @SimFn S2 Try.prog f g := by
      intro b hb f g h
      unfold ovF at h
      split at h
      · rename_i e
        have e := of_beq e
        simp only [Option.some.injEq] at h
        subst h e
        exact firstS_ok hS2 hRO hn hl hin hRS.h8 hb
      · cases h
    have hovFk : ∀ b f g, ovF b f = some g → ∀ args σ v σ', g args σ = some (v, σ') → Kept σ σ' := by
      intro b f g h
      unfold ovF at h
      split at h
      · simp only [Option.some.injEq] at h
        subst h
        exact firstS_kept b
      · cases h
    cases hfst : firstB D n left i with
    | false =>
      refine goon (ovF false) _ (bools_all (bools_all (bools_all g_first has) (D i).hasOld) (D i).has) ?_ (hovF false hfst) (hovFk false)
      intro f hf
      rcases List.mem_append.1 hf with hf | hf
      · exact hfI f hf
      · exact bitF_ok hRS (b := true) (by simp [hbit]) f hf
    | true =>
      by_cases hil : i = n - 1
      · have hp := bools_all (bools_all g_last has) (D i).hasOld
        have hhas : (D i).has = true := by rw [hil]; exact hD.has
        refine goon (ovF true) (lastF has ++ factsG) (by rw [hhas]; exact hp) ?_ (hovF true hfst) (hovFk true)
        intro f hf
        rcases List.mem_append.1 hf with hf | hf
        · have hq := qf_ok (P := Try.prog) hRS hS2.v
          have q0 := hq 0; have q1 := hq 1; have q2 := hq 2; have q5 := hq 5; have q6 := hq 6; have q8 := hq 8
          simp only [qtrue, hil, hD.kind, hD.code, hD.told] at q0 q1 q2 q5 q6 q8
          rw [decide_eq_true hD.to] at q0
          unfold lastF at hf
          rcases List.mem_append.1 hf with hf | hf
          · simp only [List.mem_cons, List.not_mem_nil, or_false] at hf
            rcases hf with rfl | rfl | rfl
            · exact q0
            · exact q1
            · exact q2
          · split at hf
            · rename_i hh
              have hne := hg.nev hh
              rw [show (nv.toList == s.toList) = false by rw [beq_eq_false_iff_ne]; exact fun e => hne e.symm] at q8
              simp only [List.mem_cons, List.not_mem_nil, or_false] at hf
              rcases hf with rfl | rfl
              · exact q5
              · exact q8
            · simp only [List.mem_cons, List.not_mem_nil, or_false] at hf
              subst hf
              exact q6
        · exact hfG f hf
      · obtain ⟨gs, h1, h2⟩ := chk_way (qtrue (D i) s) _ _ (g_ask has (D i).hasOld (D i).has)
        have hlast2 : struck left i / 2 ^ (n - 1) % 2 = 1 := struck_keep hl (by omega) (by omega) (fun e => hil e.symm) hlast
        refine goon (ovG has) _ h2 ?_ ?_ ?_
        · intro f hf
          rcases List.mem_append.1 hf with hf | hf
          · obtain ⟨q, rfl⟩ := h1 f hf
            exact qf_ok hRS hS2.v q
          · exact hfG f hf
        · intro f g h
          unfold ovG at h
          split at h
          · rename_i e
            have e := of_beq e
            simp only [Option.some.injEq] at h
            subst h e
            exact firstS_ok hS2 hRO hn hl hin hRS.h8 hfst
          · split at h
            · rename_i e
              have e := of_beq e
              simp only [Option.some.injEq] at h
              subst h e
              exact goesS_ok hS2 hRO h02 hRS hg (hD.vals i hin) (ih0 _ (struck_lt hl (by omega) hbit)) hlast2
            · cases h
        · intro f g h
          unfold ovG at h
          split at h
          · simp only [Option.some.injEq] at h
            subst h
            exact firstS_kept true
          · split at h
            · simp only [Option.some.injEq] at h
              subst h
              exact goesS_kept has
            · cases h
end
end Go.Proofs.Ytbhjhffglcipbaa
namespace Go.Proofs.Ytbhjhffglcipbaa.HW
open Go Go.Proofs.Ytbhjhffglcipbaa.AS Go.RowKit
set_option linter.unusedVariables false
set_option linter.unusedSimpArgs false
set_option linter.unusedSectionVars false
/-- what is told at the start: the map is just this one -/
def extE (o0 : Obj) (m : Nat) (x : Addr) (n : Nat) (row : Nat → List Value) : Nat → Obj → Nat → Prop := fun tag o p => (tag = 0 ∧ p = m ∧ o = o0) ∨ (tag = 1 ∧ p = x.block ∧ RowsIn o x n row)
abbrev symG (E : Nat → Obj → Nat → Prop) (x : Addr) (n c m left : Nat) (s : ByteArray) : Sym where
  val i := if i = 1 then .slice (some x) n c else if i = 2 then .map (some m) else if i = 3 then .int .u32 left else if i = 9 then .int .i64 n else if i = 5 then .string s else .int .i64 0
  cell i := by split <;> first | rfl | (split <;> first | rfl | (split <;> first | rfl | (split <;> first | rfl | (split <;> rfl))))
  wins := [pinW]
  ext := E
def rhoG (sb : Nat) (x : Addr) (m : Nat) : Rho := fun b => if b = 0 then some ⟨sb, 0, 2, 0, 2, true⟩ else if b = 1 then some ⟨x.block, x.off, 0, 0, 0, true⟩ else if b = 2 then some ⟨m, 0, 0, 0, 0, false⟩ else none
theorem stG0_get {b : Nat} {o : Ob} (h : stG0.get b = some o) : (b = 0 ∧ o = .blk [sy 1, .map (some 2)] 0 true (some 53)) ∨ (b = 1 ∧ o = .ext 1) ∨ (b = 2 ∧ o = .ext 0) := by
  have hb := St.get_lt h
  rw [St.get_eq hb] at h
  have e : stG0.mem = Tr.set (some (.ext 0)) depth (Tr.set (some (.ext 1)) depth (Tr.set (some (.blk [sy 1, .map (some 2)] 0 true (some 53))) depth .leaf 0) 1) 2 := rfl
  rw [e, Tr.get_set] at h
  split at h
  · rename_i q; simp only [Option.some.injEq] at h; exact .inr (.inr ⟨q.1, h.symm⟩)
  rw [Tr.get_set] at h
  split at h
  · rename_i q; simp only [Option.some.injEq] at h; exact .inr (.inl ⟨q.1, h.symm⟩)
  rw [Tr.get_set] at h
  split at h
  · rename_i q; simp only [Option.some.injEq] at h; exact .inl ⟨q.1, h.symm⟩
  · simp [Tr.get] at h
section
variable {w : World} {sb : Nat} {x : Addr} {n c m left : Nat} {s : ByteArray} {row : Nat → List Value} {o0 : Obj}
theorem startG (hs : Struct2 w sb x n c m) (hr : RowsAt w x n row) (hn : 1 ≤ n) (hm : w.heap[m]? = some o0) (hms : m ≠ sb) (hmx : m ≠ x.block) :
    @HR (symG (extE o0 m x n row) x n c m left s) (rhoG sb x m) stG0 w := by
  refine @HR.mk (symG (extE o0 m x n row) x n c m left s) _ _ _ ?_ ?_ ?_ (Nat.zero_le _) ?_
  · intro b o l hb hl
    rcases stG0_get hb with ⟨rfl, rfl⟩ | ⟨rfl, rfl⟩ | ⟨rfl, rfl⟩
    · simp only [rhoG, if_true, Option.some.injEq] at hl
      subst hl
      refine ⟨rfl, rfl, rfl, Nat.le_refl _, _, _, _, hs, Nat.le_refl _, (fun e => by cases e), fun i v hi => ?_, (fun t' e => by cases e; exact ⟨rfl, rfl, rfl, rfl, fun _ => rfl⟩)⟩
      match i, hi with
      | 0, hi => simp at hi; subst hi; exact ⟨.slice (some x) n c, rfl, @VR.sym (symG (extE o0 m x n row) x n c m left s) _ 1 _ rfl⟩
      | 1, hi => simp at hi; subst hi; exact ⟨.map (some m), rfl, @VR.map (symG (extE o0 m x n row) x n c m left s) (rhoG sb x m) 2 ⟨m, 0, 0, 0, 0, false⟩ rfl⟩
      | i + 2, hi => simp at hi
    · have hl : some (⟨x.block, x.off, 0, 0, 0, true⟩ : AS.Loc) = some l := hl
      simp only [Option.some.injEq] at hl
      subst hl
      obtain ⟨C, t, fr, h1, h2⟩ := hr.cells
      exact ⟨_, h1, .inr ⟨rfl, rfl, ⟨C, t, fr, rfl, h2⟩⟩⟩
    · have hl : some (⟨m, 0, 0, 0, 0, false⟩ : AS.Loc) = some l := hl
      simp only [Option.some.injEq] at hl
      subst hl
      exact ⟨o0, hm, .inl ⟨rfl, rfl, rfl⟩⟩
  · intro b b' o o' l l' hne hb hw hb' hl hl'
    rcases stG0_get hb with ⟨rfl, rfl⟩ | ⟨rfl, rfl⟩ | ⟨rfl, rfl⟩
    · cases hw
    · cases hw
    have hl : some (⟨m, 0, 0, 0, 0, false⟩ : AS.Loc) = some l := hl
    simp only [Option.some.injEq] at hl
    subst hl
    rcases stG0_get hb' with ⟨rfl, rfl⟩ | ⟨rfl, rfl⟩ | ⟨rfl, rfl⟩
    · have hl' : some (⟨sb, 0, 2, 0, 2, true⟩ : AS.Loc) = some l' := hl'
      simp only [Option.some.injEq] at hl'
      subst hl'
      exact hms
    · have hl' : some (⟨x.block, x.off, 0, 0, 0, true⟩ : AS.Loc) = some l' := hl'
      simp only [Option.some.injEq] at hl'
      subst hl'
      exact hmx
    · exact absurd rfl hne
  · intro b hb
    have hb' : 3 ≤ b := hb
    unfold rhoG
    rw [if_neg (by omega), if_neg (by omega), if_neg (by omega)]
  · intro f hf
    have hf : f ∈ [pinW] := hf
    have hf := List.mem_singleton.1 hf
    subst hf
    exact ⟨x, n, c, .i64, 0, ⟨x.block, x.off, 0, 0, 0, true⟩, rfl, rfl, Int.le_refl _, by exact_mod_cast hn, rfl, hr.spot, rfl, by simp [pinW]⟩
/-- only the map has turned -/
theorem turned_of {P : Program} {S : Sym} {σ : St} {tm : List Value} {a : Act} {w0 w : World} (hS : SG P S x n c m left s row) (hR : RowsOK x n row) (hat : AtX P S (fun p => p = m) w0.heap.size w0 σ tm a w) (hb : okB σ = true) (h0 : isAt0 (tm.getD 0 undef) = true) : Turned P m w0 w := by
  obtain ⟨ρ, h⟩ := hat
  have hv := @VL.getD S ρ _ _ h.vl 0
  have e : tm.getD 0 undef = at_ 0 := by
    generalize tm.getD 0 undef = v at h0
    unfold isAt0 at h0
    split at h0
    · rw [of_beq h0]; rfl
    · cases h0
  rw [e] at hv
  obtain ⟨l0, g0, _⟩ := at0_eq hv
  obtain ⟨_, _, _, k4, _⟩ := okB_world hS hR h.hr hb g0
  exact ⟨h.os, h.tape, h.output, h.size, fun p h1 h2 => h.keep p h1 h2, k4⟩
end
end Go.Proofs.Ytbhjhffglcipbaa.HW
namespace Go.Proofs.Ytbhjhffglcipbaa
open Go Go.Proofs.Ytbhjhffglcipbaa.AS Go.Proofs.Ytbhjhffglcipbaa.HW Go.RowKit
set_option maxRecDepth 100000
set_option linter.unusedVariables false
set_option linter.unusedSimpArgs false
set_option linter.unusedSectionVars false
theorem zero4 (w : World) : (zeroValue 4).run Try.prog w = .ok (.bool false) w := by
  have h : zeroT Try.prog 4 = some (.bool false) := by kernel_rfl
  exact (@zero_eq plainSym Try.prog w _ _ h).1
/-- search.goes answers false, as long as an answered Get of what nobody writes is left -/
theorem goes_calls {nv : ByteArray} {n : Nat} {D : Nat → DR} (hD : GoodR nv n D) : ∀ left, GoesC nv n D left := by
  intro left
  induction left using Nat.strongRecOn with
  | ind left ih0 =>
  intro w0 sb x c m has s hs hr hmap hg hl hlast
  obtain ⟨o0, hm, hgood⟩ := hmap
  have hn := hD.top
  have h1 := hD.one
  have hxB : x.block < w0.heap.size := by
    obtain ⟨C, t, fr, h1, _⟩ := hr.cells
    exact (Array.getElem?_eq_some_iff.1 h1).1
  obtain ⟨E, clk, hE, _⟩ := hgood.ex
  have hms : m ≠ sb := by
    rintro rfl
    have := hs.symm.trans hm
    rw [hE] at this
    cases this
  have hmx : m ≠ x.block := by
    rintro rfl
    obtain ⟨C, t, fr, h1, _⟩ := hr.cells
    have := h1.symm.trans hm
    rw [hE] at this
    cases this
  have hRO : RowsOK x n fun k => (D k).cells := ⟨hr.spot, hr.len, hr.leafs⟩
  have hend : ∃ i, i < n ∧ left / 2 ^ i % 2 = 1 ∧ 0 ≤ (D i).to ∧ (D i).code ≠ 7 := ⟨n - 1, by omega, hlast, hD.to, by rw [hD.code]; decide⟩
  have hS : SG Try.prog (symG (extE o0 m x n fun k => (D k).cells) x n c m left s) x n c m left s (fun k => (D k).cells) := by
    refine ⟨⟨rfl, rfl, rfl, rfl⟩, rfl, fun t o p h => ?_, List.mem_cons_self ..⟩
    rcases h with ⟨a, b, rfl⟩ | h
    · exact .inl ⟨a, b, hgood⟩
    · exact .inr h
  obtain ⟨lk, hkey⟩ := key59 (has := has) hl hg.size
  obtain ⟨dead, hdead⟩ := hgood.lookup law59 u51 zero4 hkey
  have hlook : ∀ (w : World) (r : Nat) (ob : Obj), w.heap[r]? = some ob → (symG (extE o0 m x n fun k => (D k).cells) x n c m left s).ext 0 ob r → (Instr.lookup 51 (.map (some r)) (.agg #[u32 left, .bool has, .string s]) false).run Try.prog w = .ok (.bool dead) w := by
    intro w r ob h1 h2
    rcases h2 with ⟨_, rfl, rfl⟩ | ⟨e, _⟩
    · exact hdead w _ h1
    · omega
  refine calls_flat (args := [.pointer (some ⟨sb, 0, none⟩), .agg #[u32 left, .bool has, .string s]]) Try.func18 body18 fun a ht hd => ?_
  show wpL Try.prog _ goL a w0
  have hat := AtX.start (P := Try.prog) (S := symG (extE o0 m x n fun k => (D k).cells) x n c m left s) (X := fun p => p = m) (n := Try.f18.ntmps) (vs0 := [HW.at_ 0, .agg #[HW.sy 3, .bool has, HW.sy 5]]) (fun g hg => by rw [noG] at hg; omega) (startG hs hr h1 hm hms hmx)
    (@VL.cons (symG (extE o0 m x n fun k => (D k).cells) x n c m left s) (rhoG sb x m) _ _ _ _ (@VR.ptr (symG (extE o0 m x n fun k => (D k).cells) x n c m left s) _ _ _ ⟨rfl, rfl, ⟨sb, 0, 2, 0, 2, true⟩, rfl, rfl, rfl⟩)
      (@VL.cons (symG (extE o0 m x n fun k => (D k).cells) x n c m left s) (rhoG sb x m) _ _ _ _ (@VR.agg (symG (extE o0 m x n fun k => (D k).cells) x n c m left s) _ _ #[u32 left, .bool has, .string s] (by
        refine @VL.cons (symG (extE o0 m x n fun k => (D k).cells) x n c m left s) _ _ _ _ _ (@VR.sym (symG (extE o0 m x n fun k => (D k).cells) x n c m left s) _ 3 _ rfl) ?_
        refine @VL.cons (symG (extE o0 m x n fun k => (D k).cells) x n c m left s) _ _ _ _ _ (@VR.leaf (symG (extE o0 m x n fun k => (D k).cells) x n c m left s) _ _ rfl) ?_
        exact @VL.cons (symG (extE o0 m x n fun k => (D k).cells) x n c m left s) _ _ _ _ _ (@VR.sym (symG (extE o0 m x n fun k => (D k).cells) x n c m left s) _ 5 _ rfl) (@VL.nil (symG (extE o0 m x n fun k => (D k).cells) x n c m left s) _)))
        (@VL.nil (symG (extE o0 m x n fun k => (D k).cells) x n c m left s) _))) ht hd
    (fun b o l hb hw hl => by
      rcases stG0_get hb with ⟨rfl, rfl⟩ | ⟨rfl, rfl⟩ | ⟨rfl, rfl⟩
      · cases hw
      · cases hw
      · have hl : some (⟨m, 0, 0, 0, 0, false⟩ : AS.Loc) = some l := hl
        simp only [Option.some.injEq] at hl
        subst hl; rfl)
  rw [nt18] at hat
  have hat : AtX Try.prog (symG (extE o0 m x n fun k => (D k).cells) x n c m left s) (fun p => p = m) w0.heap.size w0 stG0 (TM.of [HW.at_ 0, .agg #[HW.sy 3, .bool has, HW.sy 5]] 68 ok68).toL a w0 := by
    rw [@TM.of_toL mute _ _ _ (show 2 ≤ 68 by decide)]; exact hat
  generalize (symG (extE o0 m x n fun k => (D k).cells) x n c m left s) = S at hat hS hlook
  have hovS : ∀ f g, ovS f = some g → @SimFn S Try.prog f g := by
    intro f g h
    unfold ovS at h
    split at h
    · rename_i e
      have e := of_beq e
      simp only [Option.some.injEq] at h
      subst h e
      exact overS_ok hS hRO hn hl hend
    · cases h
  have hovSk : ∀ f g, ovS f = some g → ∀ args σ v σ', g args σ = some (v, σ') → Kept σ σ' := by
    intro f g h
    unfold ovS at h
    split at h
    · simp only [Option.some.injEq] at h
      subst h
      exact overS_kept
    · cases h
  cases dead with
  | true =>
    have hp := bools_all g_dead has
    unfold phaseGd at hp
    split at hp
    case h_2 => cases hp
    rename_i t1 σ1 hrun
    split at hp
    case h_2 => cases hp
    rename_i t2 σ2 hrun2
    split at hp
    case h_2 => cases hp
    rename_i t3 σ3 hrun3
    have hO : @OrcOK S (orcM Try.prog (some true) has [] []) Try.prog := orcM_some hS [] [] (fun f hf => by cases hf) (fun f hf => by cases hf) hlook
    rw [goL_eq2]
    refine AtX.runL _ hO mixed26 hovS hovSk _ hrun hat fun a1 w1 hat1 => ?_
    refine AtX.runL _ hO mixed26 (fun _ _ h => by cases h) (fun _ _ h => by cases h) _ hrun2 hat1 fun a2 w2 hat2 => ?_
    refine AtX.run _ hO mixed26 (fun _ _ h => by cases h) (fun _ _ h => by cases h) hrun3 hat2 fun a3 w3 hat3 => ?_
    unfold ansG at hp
    simp only [Bool.and_eq_true] at hp
    obtain ⟨p1, p2, p3⟩ := hp
    show bodyPost Try.prog Try.f18 (fun e w' => e = Ending.returned (Value.bool false) ∧ Turned Try.prog m w0 w') Exit.ret a3 w3
    exact hat3.done (.inr rfl) (by rw [@resultsT_eq mute]; exact isFalse_eq p1) fun ρ v' hv => ⟨by rw [@VR.inv_leaf S ρ _ _ hv rfl], turned_of hS hRO hat3 p2 p3⟩
  | false =>
    have hp := bools_all g_start has
    unfold phaseG0 at hp
    split at hp
    case h_2 => cases hp
    rename_i t1 σ1 hrun
    split at hp
    case h_2 => cases hp
    rename_i t2 σ2 hrun2
    have hO : @OrcOK S (orcM Try.prog (some false) has [] []) Try.prog := orcM_some hS [] [] (fun f hf => by cases hf) (fun f hf => by cases hf) hlook
    rw [goL_eq3]
    refine AtX.runL _ hO mixed26 hovS hovSk _ hrun hat fun a1 w1 hat1 => ?_
    refine AtX.runL _ hO mixed26 (fun _ _ h => by cases h) (fun _ _ h => by cases h) _ hrun2 hat1 fun a2 w2 hat2 => ?_
    obtain ⟨hθ, hat3⟩ := hat2.restateW hp hS.pin rfl rfl rfl
    have hat4 := hat3.weaken (S' := { Sym.of S _ hθ with wins := [pinW], ext := extG Try.prog m x n fun k => (D k).cells }) (fun _ => rfl) (fun t o p h => hS.ext t o p h) rfl
    refine wp_block (@SimC.wp plainSym mute _ (mute_ok _) (.loop goB) _ _ _ ?_)
    refine go_loop (c := c) (s := s) hr hxB (fun e => hmx e.symm) hD hl hlast hg ih0 ?_ n 0 _ a2 w2 (by omega) (by omega) ?_ ?_ ?_ hat4
    · intro S σ t a3 w3 hS3 h03 hat5 hp2
      show wpL Try.prog (bodyPost Try.prog Try.f18 (fun e w' => e = Ending.returned (Value.bool false) ∧ Turned Try.prog m w0 w')) ((goL.drop 7).take 2 ++ [.ret]) a3 w3
      split at hp2
      case h_2 => cases hp2
      rename_i t3 σ3 hrun3
      have hO3 : @OrcOK S (orcM Try.prog none has [] []) Try.prog := by
        refine orcM_none hS3 _ _ (fun f hf => by cases hf) (fun f hf => by cases hf) ?_
        intro w r ob b h1 h2
        rcases hS3.ext _ _ _ h2 with ⟨_, rfl, hmg⟩ | ⟨e, _⟩
        · obtain ⟨ob', q1, q2⟩ := hmg.update law59 u51 h1 hkey b
          exact ⟨ob', h03 _ q1, q2⟩
        · omega
      refine AtX.runL _ hO3 mixed26 (fun _ _ h => by cases h) (fun _ _ h => by cases h) _ hrun3 hat5 fun a4 w4 hat6 => ?_
      rw [wpL_one]
      refine wp_ret ?_
      unfold ansG at hp2
      simp only [Bool.and_eq_true] at hp2
      obtain ⟨p1, p2, p3⟩ := hp2
      exact hat6.done (.inr rfl) (by rw [@resultsT_eq mute]; exact isFalse_eq p1) fun ρ v' hv => ⟨by rw [@VR.inv_leaf S ρ _ _ hv rfl], turned_of hS3 hRO hat6 p2 p3⟩
    · exact ⟨⟨hS.so.l, hS.so.m, hS.so.left, hS.so.n⟩, hS.v, fun _ _ _ h => h, List.mem_cons_self ..⟩
    · intro o ho
      exact .inl ⟨rfl, rfl, ho⟩
    · rfl
end Go.Proofs.Ytbhjhffglcipbaa
namespace Go.Proofs.Ytbhjhffglcipbaa.HW
open Go Go.Proofs.Ytbhjhffglcipbaa.AS Go.RowKit
set_option linter.unusedVariables false
set_option linter.unusedSimpArgs false
set_option linter.unusedSectionVars false
/-! ## hist.Linear -/
def stL0 : St := { next := 1, mark := 0, log := [], mem := Tr.set (some (.ext 1)) depth .leaf 0 }
def itemZ : Value := .agg #[.string ⟨#[]⟩, .string ⟨#[]⟩, .bool false, .complex .f64 0 0]
theorem ok27' : 27 ≤ most := by unfold most; omega
def factsL : List Fact := [⟨.shl, 57, u32 1, sy 9, sy 30⟩, ⟨.sub, 57, sy 30, u32 1, sy 31⟩]
/-- the search's struct as Linear makes it: the map's place -/
def okS2 : Option Ob → Option Nat
  | some (.blk [.chan (some a), .map (some b)] u _ (some t)) => if Nat.beq a 1 && (Nat.beq t 53 && Nat.beq u 0) then some b else none
  | _ => none
def isMp0 : Option Ob → Bool
  | some (.mp []) => true
  | _ => false
def argL (args : List Value) : Option Nat :=
  match args with
  | [.pointer (some ⟨b, o, none⟩), .agg cs] => if Nat.beq o 0 && listB same cs.toList [sy 31, .bool false, .string ⟨#[]⟩] then some b else none
  | _ => none
def goesL : Fn := fun args σ =>
  match argL args with
  | some b =>
    match okS2 (σ.get b) with
    | some m => if isMp0 (σ.get m) && okX 1 (σ.get 0) then some (.bool false, σ.set m (some (.ext 0))) else none
    | none => none
  | none => none
def ovL1 : Ov := fun f => match Nat.beq f 18 with | true => some goesL | false => none
def phaseL (P : Program) (fn : Func) (code : List Code) : Bool :=
  match @runLT (orcX P lens factsL []) P ovL1 400 code (TM.of [sy 1, itemZ] 27 ok27') stL0 with
  | some (t, σ) => HW.isFalse (resultsT P fn σ t)
  | none => false
end Go.Proofs.Ytbhjhffglcipbaa.HW
namespace Go.Proofs.Ytbhjhffglcipbaa
open Go Go.Proofs.Ytbhjhffglcipbaa.AS Go.Proofs.Ytbhjhffglcipbaa.HW Go.RowKit
set_option maxRecDepth 100000
set_option linter.unusedVariables false
set_option linter.unusedSimpArgs false
set_option linter.unusedSectionVars false
noncomputable def liL : List Code := flatC (Try.f14.body.getD .skip)
theorem liL_eq : liL = liL.take 6 ++ [.ret] := by kernel_rfl
theorem l_all : phaseL Try.prog Try.f14 (liL.take 6) = true := by kernel_rfl
end Go.Proofs.Ytbhjhffglcipbaa
namespace Go.Proofs.Ytbhjhffglcipbaa.HW
open Go Go.Proofs.Ytbhjhffglcipbaa.AS Go.RowKit
set_option linter.unusedVariables false
set_option linter.unusedSimpArgs false
set_option linter.unusedSectionVars false
theorem okS2_eq {o : Option Ob} {m : Nat} (h : okS2 o = some m) : ∃ ro, o = some (.blk [sy 1, .map (some m)] 0 ro (some 53)) := by
  unfold okS2 at h
  split at h
  · rename_i a b u ro t
    split at h
    · rename_i hc
      simp only [Bool.and_eq_true] at hc
      obtain ⟨h1, h2, h3⟩ := hc
      have h1 := of_beq h1; have h2 := of_beq h2; have h3 := of_beq h3
      subst h1 h2 h3
      simp only [Option.some.injEq] at h
      subst h
      exact ⟨_, rfl⟩
    · cases h
  · cases h
theorem isMp0_eq {o : Option Ob} (h : isMp0 o = true) : o = some (.mp []) := by
  unfold isMp0 at h
  split at h
  · rfl
  · cases h
theorem argL_eq {args : List Value} {b : Nat} (h : argL args = some b) : ∃ cs : Array Value, args = [at_ b, .agg cs] ∧ cs.toList = [sy 31, .bool false, .string ⟨#[]⟩] := by
  unfold argL at h
  split at h
  · rename_i b' o cs
    split at h
    · rename_i hc
      simp only [Bool.and_eq_true] at hc
      obtain ⟨h1, h2⟩ := hc
      have h1 := of_beq h1
      subst h1
      simp only [Option.some.injEq] at h
      subst h
      exact ⟨cs, rfl, listB_eq (fun a b q => same_eq q) h2⟩
    · cases h
  · cases h
theorem at_eq {S : Sym} {ρ : Rho} {b : Nat} {v : Value} (h : @VR S ρ (at_ b) v) : ∃ l0, ρ b = some l0 ∧ v = .pointer (some ⟨l0.pb, l0.po, none⟩) := by
  obtain ⟨a', rfl, ha⟩ := @VR.inv_ptr S ρ _ _ h
  obtain ⟨l, h1, h2, h3⟩ := ha.at_
  refine ⟨l, h1, ?_⟩
  have hs := ha.s'
  cases a'
  simp_all
/-- what is told in Linear -/
def extL (x : Addr) (n : Nat) (row : Nat → List Value) : Nat → Obj → Nat → Prop := fun tag o p => tag = 0 ∨ (tag = 1 ∧ p = x.block ∧ RowsIn o x n row)
def pinL : Win := ⟨1, i64 0, 0, 0⟩
structure SLi (S : Sym) (x : Addr) (n c : Nat) (row : Nat → List Value) : Prop where
  l : S.val 1 = .slice (some x) n c
  hn : S.val 9 = i64 n
  h30 : S.val 30 = u32 ((2 ^ n : Nat) : Int)
  h31 : S.val 31 = u32 ((2 ^ n - 1 : Nat) : Int)
  ext : S.ext = extL x n row
  pin : pinL ∈ S.wins
abbrev symL (x : Addr) (n c : Nat) (row : Nat → List Value) : Sym where
  val i := if i = 1 then .slice (some x) n c else if i = 9 then .int .i64 n else if i = 30 then .int .u32 ((2 ^ n : Nat) : Int) else if i = 31 then .int .u32 ((2 ^ n - 1 : Nat) : Int) else .int .i64 0
  cell i := by split <;> first | rfl | (split <;> first | rfl | (split <;> first | rfl | (split <;> rfl)))
  wins := [pinL]
  ext := extL x n row
theorem full_bit {n : Nat} (h1 : 1 ≤ n) : (2 ^ n - 1) / 2 ^ (n - 1) % 2 = 1 := by
  obtain ⟨k, rfl⟩ : ∃ k, n = k + 1 := ⟨n - 1, by omega⟩
  have hp : 1 ≤ 2 ^ k := Nat.one_le_two_pow
  have e : 2 ^ (k + 1) - 1 = 2 ^ k + (2 ^ k - 1) := by rw [Nat.pow_succ]; omega
  rw [Nat.add_sub_cancel, e, Nat.add_div_left _ (by omega), Nat.div_eq_of_lt (by omega)]
theorem full_lt {n : Nat} (h : n ≤ 31) : 2 ^ n - 1 < 4294967296 ∧ 2 ^ n < 4294967296 := by
  have : 2 ^ n ≤ 2 ^ 31 := Nat.pow_le_pow_right (by omega) h
  omega
end Go.Proofs.Ytbhjhffglcipbaa.HW
namespace Go.Proofs.Ytbhjhffglcipbaa
open Go Go.Proofs.Ytbhjhffglcipbaa.AS Go.Proofs.Ytbhjhffglcipbaa.HW Go.RowKit
set_option maxRecDepth 100000
set_option linter.unusedVariables false
set_option linter.unusedSimpArgs false
set_option linter.unusedSectionVars false
theorem body14 : Try.f14.body = some (Try.f14.body.getD .skip) := by kernel_rfl
theorem nt14 : Try.f14.ntmps = 27 := by kernel_rfl
section
variable {S : Sym} {x : Addr} {n c : Nat} {nv : ByteArray} {D : Nat → DR}
theorem goesL_ok (hS : SLi S x n c fun k => (D k).cells) (hR : RowsOK x n fun k => (D k).cells) (hD : GoodR nv n D) : @SimFn S Try.prog 18 goesL := by
  intro args σ v σ' h ρ w args' hg hr ha
  unfold goesL at h
  split at h
  case h_2 => cases h
  rename_i b hb
  split at h
  case h_2 => cases h
  rename_i m hm
  split at h
  case isFalse => cases h
  rename_i hc
  simp only [Bool.and_eq_true] at hc
  obtain ⟨c1, c2⟩ := hc
  simp only [Option.some.injEq, Prod.mk.injEq] at h
  obtain ⟨rfl, rfl⟩ := h
  obtain ⟨cs, rfl, hcs⟩ := argL_eq hb
  obtain ⟨ro, g0⟩ := okS2_eq hm
  have gm := isMp0_eq c1
  have g1 := okX_eq c2
  cases ha with | cons h1 t => cases t with | cons h2 t => cases t with | nil =>
  obtain ⟨l0, q0, rfl⟩ := at_eq h1
  obtain ⟨cs', rfl, hl⟩ := agg_eq h2
  rw [hcs] at hl
  generalize hcl : cs'.toList = cl at hl
  cases hl with | cons h1 t => cases t with | cons h2 t => cases t with | cons h3 t => cases t with | nil =>
  have h1 := sy_eq h1; have h2 := @VR.inv_leaf S ρ _ _ h2 rfl; have h3 := @VR.inv_leaf S ρ _ _ h3 rfl
  rw [hS.h31] at h1
  subst h1 h2 h3
  rw [arr3 hcl]
  -- the struct
  obtain ⟨e1, e2, e3, e4, C, t, fr, e5, e6, e7, e8, e9⟩ := @HR.ob S ρ σ w hr b _ l0 g0 q0
  obtain ⟨rfl, hpo, hsz, rfl, hu⟩ := e9 53 rfl
  have hext : l0.ext = 2 := hu rfl
  obtain ⟨v0, c0, r0⟩ := e8 0 (HW.sy 1) rfl
  obtain ⟨v1, c1, r1⟩ := e8 1 (.map (some m)) rfl
  rw [hpo] at c0 c1
  have r0 := sy_eq r0
  rw [hS.l] at r0
  obtain ⟨lm, r1, hlm⟩ := @VR.inv_map S ρ _ _ r1
  subst r0 r1
  have hstruct : Struct2 w l0.pb x n c lm.pb := by
    show w.heap[l0.pb]? = _
    rw [e5]
    have : C = #[.slice (some x) n c, .map (some lm.pb)] := by
      apply Array.ext
      · rw [hsz, hext]; rfl
      · intro i hi1 hi2
        have hi : i < 2 := hi2
        match i, hi with
        | 0, _ => have := (Array.getElem?_eq_some_iff.1 c0).2; simpa using this
        | 1, _ => have := (Array.getElem?_eq_some_iff.1 c1).2; simpa using this
    rw [this]
  -- the map
  obtain ⟨E, clk, k1, k2, _⟩ := @HR.ob S ρ σ w hr m _ lm gm hlm
  have hE : E = #[] := by
    cases E with
    | mk l => generalize hl : (Array.mk l).toList = l' at k2; cases k2; exact congrArg Array.mk hl
  subst hE
  -- the rows
  obtain ⟨x1, n1, cc1, kd, i1, l1, p1, p2, p3, p4, p5, p6, p7, p8⟩ := @HR.win S ρ σ w hr pinL hS.pin
  have p1 : S.val 1 = .slice (some x1) n1 cc1 := p1
  rw [hS.l] at p1
  simp only [Value.slice.injEq, Option.some.injEq] at p1
  obtain ⟨rfl, rfl, rfl⟩ := p1
  obtain ⟨o1, z1, z2⟩ := @HR.ob S ρ σ w hr 0 _ l1 g1 p5
  rw [hS.ext] at z2
  have hrow : RowsIn o1 x n (fun k => (D k).cells) := by
    rcases z2 with a | ⟨_, _, b⟩
    · omega
    · exact b
  rw [p7] at z1
  have hrows : RowsAt w x n fun k => (D k).cells := by
    obtain ⟨C1, t1, fr1, rfl, a, b⟩ := hrow.ex
    exact ⟨hR.spot, ⟨C1, t1, fr1, z1, a, b⟩, hR.len, hR.leafs⟩
  rw [hpo]
  refine (goes_calls hD (2 ^ n - 1) w l0.pb x c lm.pb false ⟨#[]⟩ hstruct hrows ⟨_, k1, MapGood.empty _⟩ ⟨Nat.zero_le _, fun e => by cases e⟩ (full_lt hD.top).1 (full_bit hD.one)).mono ?_
  rintro e w' ⟨rfl, ht⟩
  have hp : ∀ p, p < w.heap.size → p ≠ lm.pb → w'.heap[p]? = w.heap[p]? := fun p h1 h2 => ht.keep p h1 h2
  obtain ⟨o, y1, y2⟩ := ht.map
  exact ⟨_, ρ, rfl, @Ext.turned S _ _ _ _ hr _ _ _ _ gm rfl hlm hp ht.size ht.os ht.tape ht.output, @HR.turned S _ _ _ _ hr _ _ _ _ gm rfl hlm rfl ⟨o, y1, by rw [hS.ext]; exact .inl rfl⟩ hp, @VR.leaf S ρ _ rfl⟩
theorem goesL_kept (args : List Value) (σ : St) (v : Value) (σ' : St) (h : goesL args σ = some (v, σ')) : Kept σ σ' := by
  unfold goesL at h
  split at h
  case h_2 => cases h
  split at h
  case h_2 => cases h
  split at h
  case isFalse => cases h
  rename_i hc
  simp only [Bool.and_eq_true] at hc
  simp only [Option.some.injEq, Prod.mk.injEq] at h
  rw [← h.2]
  exact @Kept.set plainSym mute _ _ _ _ (isMp0_eq hc.1) rfl
theorem startL {w : World} (hr : RowsAt w x n fun k => (D k).cells) (hn : 1 ≤ n) : @HR (symL x n c fun k => (D k).cells) (fun b => if b = 0 then some ⟨x.block, x.off, 0, 0, 0, true⟩ else none) stL0 w := by
  have hget : ∀ b o, stL0.get b = some o → b = 0 ∧ o = .ext 1 := by
    intro b o h
    have hb := St.get_lt h
    rw [St.get_eq hb] at h
    have e : stL0.mem = Tr.set (some (.ext 1)) depth .leaf 0 := rfl
    rw [e, Tr.get_set] at h
    split at h
    · rename_i q; simp only [Option.some.injEq] at h; exact ⟨q.1, h.symm⟩
    · simp [Tr.get] at h
  refine @HR.mk (symL x n c fun k => (D k).cells) _ _ _ ?_ ?_ ?_ (Nat.zero_le _) ?_
  · intro b o l hb hl
    obtain ⟨rfl, rfl⟩ := hget b o hb
    have hl : some (⟨x.block, x.off, 0, 0, 0, true⟩ : AS.Loc) = some l := hl
    simp only [Option.some.injEq] at hl
    subst hl
    obtain ⟨C, t, fr, h1, h2⟩ := hr.cells
    exact ⟨_, h1, .inr ⟨rfl, rfl, ⟨C, t, fr, rfl, h2⟩⟩⟩
  · intro b b' o o' l l' _ hb hw
    obtain ⟨_, rfl⟩ := hget b o hb
    cases hw
  · intro b hb
    have hb' : 1 ≤ b := hb
    exact if_neg (by omega)
  · intro f hf
    have hf : f ∈ [pinL] := hf
    have hf := List.mem_singleton.1 hf
    subst hf
    exact ⟨x, n, c, .i64, 0, ⟨x.block, x.off, 0, 0, 0, true⟩, rfl, rfl, Int.le_refl _, by exact_mod_cast hn, rfl, hr.spot, rfl, by simp [pinL]⟩
/-- no history with an answered Get of what nobody writes is in order -/
theorem linear_calls {w0 : World} (hD : GoodR nv n D) (hr : RowsAt w0 x n fun k => (D k).cells) : Calls Try.prog 14 #[.slice (some x) n c, itemZ] w0 fun e w' => e = .returned (.bool false) ∧ Below w0.heap.size w0 w' := by
  have hRO : RowsOK x n fun k => (D k).cells := ⟨hr.spot, hr.len, hr.leafs⟩
  refine calls_flat (args := [.slice (some x) n c, itemZ]) Try.func14 body14 fun a ht hd => ?_
  show wpL Try.prog _ liL a w0
  have hat := AtX.start (P := Try.prog) (S := symL x n c fun k => (D k).cells) (X := fun _ => False) (n := Try.f14.ntmps) (vs0 := [HW.sy 1, itemZ]) (fun g hg => by rw [noG] at hg; omega) (startL hr hD.one)
    (@VL.cons (symL x n c fun k => (D k).cells) _ _ _ _ _ (@VR.sym (symL x n c fun k => (D k).cells) _ 1 _ rfl)
      (@VL.cons (symL x n c fun k => (D k).cells) _ _ _ _ _ (@flat_VR (symL x n c fun k => (D k).cells) _ itemZ rfl) (@VL.nil (symL x n c fun k => (D k).cells) _))) ht hd
    (fun b o l hb hw hl => by
      have hl : (if b = 0 then some (⟨x.block, x.off, 0, 0, 0, true⟩ : AS.Loc) else none) = some l := hl
      split at hl
      · rename_i e
        subst e
        have e2 : stL0.get 0 = some (.ext 1) := by rfl
        rw [e2] at hb
        cases hb
        cases hw
      · cases hl)
  rw [nt14] at hat
  have hat : AtX Try.prog (symL x n c fun k => (D k).cells) (fun _ => False) w0.heap.size w0 stL0 (TM.of [HW.sy 1, itemZ] 27 ok27').toL a w0 := by
    rw [@TM.of_toL mute _ _ _ (show 2 ≤ 27 by decide)]; exact hat
  have hS : SLi (symL x n c fun k => (D k).cells) x n c fun k => (D k).cells := ⟨rfl, rfl, rfl, rfl, rfl, List.mem_cons_self ..⟩
  generalize (symL x n c fun k => (D k).cells) = S at hat hS
  have hp := l_all
  unfold phaseL at hp
  split at hp
  case h_2 => cases hp
  rename_i t1 σ1 hrun
  have hlens : ∀ y ∈ lens, LenOK S y := by
    intro y hy
    simp only [lens, List.mem_cons, List.not_mem_nil, or_false] at hy
    subst hy
    exact ⟨⟨_, _, _, hS.l, hS.hn⟩, .inr rfl⟩
  have hO : @OrcOK S (orcX Try.prog lens factsL []) Try.prog := by
    refine orcX_ok _ _ _ _ hlens ?_ (fun f hf => by cases hf)
    intro f hf
    have hlt := full_lt hD.top
    simp only [factsL, List.mem_cons, List.not_mem_nil, or_false] at hf
    rcases hf with rfl | rfl
    · exact FactOK.of_run (vx := .int .u32 1) (vy := .int .i64 n) (vr := .int .u32 ((2 ^ n : Nat) : Int)) rfl hS.hn hS.h30 (fun w => run_shl1 n (by have := hD.top; omega)) ⟨rfl, by simp⟩ (.inr rfl)
    · refine FactOK.int (k := .u32) (x := ((2 ^ n : Nat) : Int)) (y := 1) hS.h30 rfl ?_ (.inr rfl)
      show some (Value.int .u32 (IntKind.u32.wrap (((2 ^ n : Nat) : Int) - 1))) = some (S.val 31)
      rw [hS.h31]
      have h1 : 1 ≤ 2 ^ n := Nat.one_le_two_pow
      have e : (((2 ^ n : Nat) : Int) - 1) = ((2 ^ n - 1 : Nat) : Int) := by omega
      rw [e, wrap_u32 hlt.1]; rfl
  rw [liL_eq]
  refine AtX.runL _ hO mixed26 ?_ ?_ _ hrun hat fun a1 w1 hat1 => ?_
  · intro f g h
    unfold ovL1 at h
    split at h
    · rename_i e
      have e := of_beq e
      simp only [Option.some.injEq] at h
      subst h e
      exact goesL_ok hS hRO hD
    · cases h
  · intro f g h
    unfold ovL1 at h
    split at h
    · simp only [Option.some.injEq] at h
      subst h
      exact goesL_kept
    · cases h
  rw [wpL_one]
  refine wp_ret ?_
  exact hat1.done (.inr rfl) (by rw [@resultsT_eq mute]; exact isFalse_eq hp) fun ρ v' hv => ⟨by rw [@VR.inv_leaf S ρ _ _ hv rfl], hat1.below⟩
end
end Go.Proofs.Ytbhjhffglcipbaa
