import Derived.Test.YtbhjhffglcipbaaAsG3
import Derived.Test.YtbhjhffglcipbaaAsG2tt
import Derived.Test.YtbhjhffglcipbaaAsG2tf
import Derived.Test.YtbhjhffglcipbaaAsG2ft
import Derived.Test.YtbhjhffglcipbaaAsG2ff
import Derived.Test.YtbhjhffglcipbaaAsAtX3
import Derived.Test.YtbhjhffglcipbaaAsName
namespace Go.Proofs.Ytbhjhffglcipbaa.HW
open Go Go.Proofs.Ytbhjhffglcipbaa.AS Go.RowKit Go.MapKept
open Go.WideMaps (KeyLaw)
set_option linter.unusedVariables false
set_option linter.unusedSimpArgs false
set_option linter.unusedSectionVars false
/-! ## what an order is -/
/-- the value that a label tells -/
def vR (v : ByteArray) (d : DR) : Nat → ByteArray
  | 0 => v
  | 1 => d.val
  | _ => ⟨#[]⟩
/-- what a call makes of a value, and whether it says what was answered -/
def doesF (d : DR) (v : Bool × ByteArray) : (Bool × ByteArray) × Bool :=
  let r := ev2 (qtrue d v.2) (all2 v.1 d.hasOld d.has)
  ((r.1, vR v.2 d r.2.1), r.2.2)
/-- there is an order of what is left -/
inductive Lin (D : Nat → DR) (n : Nat) : Nat → Bool × ByteArray → Prop
  | over {left : Nat} {v : Bool × ByteArray} (h : overB D n left = true) : Lin D n left v
  | step {left : Nat} {v : Bool × ByteArray} (i : Nat) (hi : i < n) (hb : left / 2 ^ i % 2 = 1) (hf : firstB D n left i = true) (hok : (doesF (D i) v).2 = true) (h : Lin D n (struck left i) (doesF (D i) v).1) : Lin D n left v

/-! ## the memo -/
structure MemoOK (P : Program) (k : TypeId) (L : Nat → Bool × ByteArray → Prop) (o : Obj) : Prop where
  good : MapGood P k o
  dead : ∀ E clk, o = .map E clk → ∀ e ∈ E.toList, ∀ (l : Nat) (h : Bool) (s : ByteArray), e.key = .agg #[u32 l, .bool h, .string s] → e.val = .bool true → ¬ L l (h, s)
theorem MemoOK.empty {P : Program} {k : TypeId} {L : Nat → Bool × ByteArray → Prop} (clk : Nat) : MemoOK P k L (.map #[] clk) := ⟨MapGood.empty clk, fun E c h e he => by cases h; simp at he⟩
section
variable {P : Program} {t k e : TypeId} {w : World} {m : Nat} {o : Obj} {L : Nat → Bool × ByteArray → Prop}
theorem MapGood.lookup2 (K : KeyLaw P k) (ht : P.underlying t = some (.map k e)) (hz : ∀ w, (zeroValue e).run P w = .ok (.bool false) w) (G : MapGood P k o) {key : Value} {l : Lit} (hkey : keyOf P k key = some l) :
    ∃ b, (∀ (w : World) (m : Nat), w.heap[m]? = some o → (Instr.lookup t (.map (some m)) key false).run P w = .ok (.bool b) w) ∧ (b = true → ∃ E clk, o = .map E clk ∧ ∃ e0 ∈ E.toList, e0.key = key ∧ e0.val = .bool true) := by
  obtain ⟨E, clk, rfl, hs, h1, h2⟩ := G.ex
  have hn := ((stamped_iff E clk).1 hs).2.2
  by_cases hex : ∃ e0 ∈ E.toList, e0.key = key
  · obtain ⟨e0, m0, k0⟩ := hex
    obtain ⟨b, hb⟩ := h2 e0 m0
    refine ⟨b, fun w m hm => ?_, fun hbt => ⟨E, clk, rfl, e0, m0, k0, by rw [hb, hbt]⟩⟩
    rcases K.find w hkey E.toList h1 with ⟨q1, q2⟩ | ⟨j, e1, q1, q2, q3⟩
    · exact absurd k0 (q2 e0 m0)
    · have := pairwise_one hn (List.mem_of_getElem? q2) m0 (q3.trans k0.symm)
      subst this
      simp [Instr.lookup, run_underlying ht, MapKept.run_getObj_map hm, K.check w _ hkey, q1, hb, Result.andThen]
  · refine ⟨false, fun w m hm => ?_, fun h => by cases h⟩
    rcases K.find w hkey E.toList h1 with ⟨q1, q2⟩ | ⟨j, e1, q1, q2, q3⟩
    · simp [Instr.lookup, run_underlying ht, MapKept.run_getObj_map hm, K.check w _ hkey, q1, hz, Result.andThen]
    · exact absurd ⟨e1, List.mem_of_getElem? q2, q3⟩ hex
theorem MemoOK.update (K : KeyLaw P k) (ht : P.underlying t = some (.map k e)) (hm : w.heap[m]? = some o) (G : MemoOK P k L o) {left : Nat} {has : Bool} {s : ByteArray} {l : Lit} (hkey : keyOf P k (.agg #[u32 left, .bool has, .string s]) = some l) (hL : ¬ L left (has, s)) :
    ∃ o', MemoOK P k L o' ∧ (Instr.mapUpdate t (.map (some m)) (.agg #[u32 left, .bool has, .string s]) (.bool true)).run P w = .ok () { w with heap := w.heap.setIfInBounds m o' } := by
  obtain ⟨E, clk, rfl, hs, h1, h2⟩ := G.good.ex
  have hnew : ∀ (l' : Nat) (h' : Bool) (s' : ByteArray), (.agg #[u32 left, .bool has, .string s] : Value) = .agg #[u32 l', .bool h', .string s'] → ¬ L l' (h', s') := by
    intro l' h' s' e
    simp only [u32, Value.agg.injEq, Array.mk.injEq, List.cons.injEq, Value.int.injEq, true_and, Value.bool.injEq, Value.string.injEq, and_true] at e
    obtain ⟨e1, e2, e3⟩ := e
    have e1 : left = l' := by exact_mod_cast e1
    subst e1 e2 e3
    exact hL
  generalize hkk : (.agg #[u32 left, .bool has, .string s] : Value) = key at hkey hnew
  rcases K.find w hkey E.toList h1 with ⟨q1, q2⟩ | ⟨j, e0, q1, q2, q3⟩
  · refine ⟨.map (E.push ⟨key, .bool true, clk⟩) (clk + 1), ⟨⟨_, _, rfl, stamped_push hs q2, fun x hx => ?_, fun x hx => ?_⟩, fun E' c' hE x hx l' h' s' hk' hv' => ?_⟩, ?_⟩
    · simp only [Array.toList_push, List.mem_append, List.mem_singleton] at hx
      rcases hx with hx | rfl
      · exact h1 x hx
      · exact ⟨l, hkey⟩
    · simp only [Array.toList_push, List.mem_append, List.mem_singleton] at hx
      rcases hx with hx | rfl
      · exact h2 x hx
      · exact ⟨true, rfl⟩
    · cases hE
      simp only [Array.toList_push, List.mem_append, List.mem_singleton] at hx
      rcases hx with hx | rfl
      · exact G.dead E clk rfl x hx l' h' s' hk' hv'
      · exact hnew l' h' s' hk'
    · simp [Instr.mapUpdate, run_underlying ht, MapKept.run_getObj_map hm, K.check w false hkey, q1, MapKept.run_setObj_map _ hm, Result.andThen, Go.ChangeMaps.setBlock]
  · have hj : E[j]? = some e0 := by simpa using q2
    have hkeyf : ∀ e', E[j]? = some e' → ({ e' with key := key, val := Value.bool true } : MapEntry).key = e'.key := fun e' he' => by rw [hj] at he'; cases he'; exact q3.symm
    refine ⟨.map (E.modify j (fun e' => { e' with key := key, val := .bool true })) clk, ⟨⟨_, _, rfl, stamped_modify hs _ _ (fun _ _ => rfl) (fun e' _ he' => hkeyf e' he'), fun x hx => ?_, fun x hx => ?_⟩, fun E' c' hE x hx l' h' s' hk' hv' => ?_⟩, ?_⟩
    · rcases MapFrom.mem_modify hx with hx | ⟨e', _, rfl⟩
      · exact h1 x hx
      · exact ⟨l, hkey⟩
    · rcases MapFrom.mem_modify hx with hx | ⟨e', _, rfl⟩
      · exact h2 x hx
      · exact ⟨true, rfl⟩
    · cases hE
      rcases MapFrom.mem_modify hx with hx | ⟨e', _, rfl⟩
      · exact G.dead E clk rfl x hx l' h' s' hk' hv'
      · exact hnew l' h' s' hk'
    · simp [Instr.mapUpdate, run_underlying ht, MapKept.run_getObj_map hm, K.check w false hkey, q1, hj, q3, K.stays w hkey, MapKept.run_setObj_map _ hm, Result.andThen, Go.ChangeMaps.setBlock]
end

/-! ## what stands in, whatever it answers -/
def extM (M : Obj → Prop) (m : Nat) (x : Addr) (n : Nat) (row : Nat → List Value) : Nat → Obj → Nat → Prop := fun tag o p => (tag = 0 ∧ p = m ∧ M o) ∨ (tag = 1 ∧ p = x.block ∧ RowsIn o x n row)
structure SH (M : Obj → Prop) (S : Sym) (x : Addr) (n c m left : Nat) (s : ByteArray) (row : Nat → List Value) : Prop where
  so : SO S x n c m left
  v : S.val 5 = .string s
  ext : ∀ t o p, S.ext t o p → extM M m x n row t o p
  pin : pinW ∈ S.wins
def MapIs (M : Obj → Prop) (w : World) (m : Nat) : Prop := ∃ o, w.heap[m]? = some o ∧ M o
structure Turned2 (M : Obj → Prop) (m : Nat) (w w' : World) : Prop where
  os : w'.os = w.os
  tape : w'.tape = w.tape
  output : w'.output = w.output
  size : w.heap.size ≤ w'.heap.size
  keep : ∀ p, p < w.heap.size → p ≠ m → w'.heap[p]? = w.heap[p]?
  map : MapIs M w' m
section
variable {P : Program} {M : Obj → Prop} {S : Sym} {x : Addr} {n c m left : Nat} {s : ByteArray} {row : Nat → List Value} {ρ : Rho} {σ : St} {w : World}
theorem okB_world2 (hS : SH M S x n c m left s row) (hR : RowsOK x n row) (hr : @HR S ρ σ w) (hb : okB σ = true) {l0 : AS.Loc} (h0 : ρ 0 = some l0) :
    l0.po = 0 ∧ Struct2 w l0.pb x n c m ∧ RowsAt w x n row ∧ MapIs M w m ∧ ∃ l2, ρ 2 = some l2 ∧ l2.pb = m := by
  obtain ⟨⟨ro, g0⟩, g1, g2⟩ := okB_eq hb
  obtain ⟨h1, h2, h3, h4, C, t, fr, h5, h6, h7, h8, h9⟩ := @HR.ob S ρ σ w hr 0 _ l0 g0 h0
  obtain ⟨rfl, hpo, hsz, rfl, hu⟩ := h9 53 rfl
  have hext : l0.ext = 2 := hu rfl
  obtain ⟨v0, c0, r0⟩ := h8 0 (sy 1) rfl
  obtain ⟨v1, c1, r1⟩ := h8 1 (.map (some 2)) rfl
  rw [hpo] at c0 c1
  have e0 : v0 = .slice (some x) n c := (sy_eq r0).trans hS.so.l
  obtain ⟨l2, e1, hl2⟩ := @VR.inv_map S ρ _ _ r1
  subst e0 e1
  obtain ⟨o2, q1, q2⟩ := @HR.ob S ρ σ w hr 2 _ l2 g2 hl2
  have hm : l2.pb = m ∧ M o2 := by
    rcases hS.ext _ _ _ q2 with ⟨_, a, b⟩ | ⟨a, _⟩
    · exact ⟨a, b⟩
    · omega
  obtain ⟨x1, n1, cc1, kd, i1, l1, k1, k2, k3, k4, k5, k6, k7, k8⟩ := @HR.win S ρ σ w hr pinW hS.pin
  have k1 : S.val 1 = .slice (some x1) n1 cc1 := k1
  rw [hS.so.l] at k1
  simp only [Value.slice.injEq, Option.some.injEq] at k1
  obtain ⟨rfl, rfl, rfl⟩ := k1
  obtain ⟨o1, p1, p2⟩ := @HR.ob S ρ σ w hr 1 _ l1 g1 k5
  have hrow : RowsIn o1 x n row := by
    rcases hS.ext _ _ _ p2 with ⟨a, _⟩ | ⟨_, _, b⟩
    · omega
    · exact b
  rw [k7] at p1
  refine ⟨hpo, ?_, ⟨hR.spot, ?_, hR.len, hR.leafs⟩, ⟨o2, hm.1 ▸ q1, hm.2⟩, l2, hl2, hm.1⟩
  · show w.heap[l0.pb]? = _
    rw [h5]
    have : C = #[.slice (some x) n c, .map (some m)] := by
      apply Array.ext
      · rw [hsz, hext]; rfl
      · intro i hi1 hi2
        have hi : i < 2 := hi2
        match i, hi with
        | 0, _ => have := (Array.getElem?_eq_some_iff.1 c0).2; simpa using this
        | 1, _ => have := (Array.getElem?_eq_some_iff.1 c1).2; simpa [hm.1] using this
    rw [this]
  · obtain ⟨C1, t1, fr1, rfl, a, b⟩ := hrow.ex
    exact ⟨C1, t1, fr1, p1, a, b⟩
theorem argsV2_eq {h : Bool} {v : Value} {args : List Value} {σ : St} (hh : argsV2 h v args σ = true) : (∃ cs : Array Value, args = [at_ 0, .agg cs] ∧ cs.toList = [sy 115, .bool h, v]) ∧ okB σ = true := by
  unfold argsV2 at hh
  simp only [Bool.and_eq_true] at hh
  obtain ⟨h2, h3⟩ := hh
  refine ⟨?_, h3⟩
  split at h2
  · rename_i b o cs
    simp only [Bool.and_eq_true] at h2
    obtain ⟨e1, e2, e3⟩ := h2
    have e1 := of_beq e1; have e2 := of_beq e2
    subst e1 e2
    exact ⟨cs, rfl, listB_eq (fun a b q => same_eq q) e3⟩
  · cases h2
theorem key_eq2 (hS : SH M S x n c m left s row) {has : Bool} {k k' : Value} (h : isKey has k = true) (hv : @VR S ρ k k') : k' = .agg #[u32 left, .bool has, .string s] := by
  obtain ⟨cs, rfl, hcs⟩ := isKey_eq h
  obtain ⟨cs', rfl, h2⟩ := agg_eq hv
  rw [hcs] at h2
  unfold keyX at h2
  generalize hl : cs'.toList = l at h2
  cases h2 with | cons h1 t => cases t with | cons h2 t => cases t with | cons h3 t => cases t with | nil =>
  have h1 := sy_eq h1
  have h3 := sy_eq h3
  have h2 := @VR.inv_leaf S ρ _ _ h2 rfl
  rw [hS.so.left] at h1
  rw [hS.v] at h3
  subst h1 h2 h3
  rw [arr3 hl]
/-- what is told of the map, by its number -/
def ModeOK (P : Program) (S : Sym) (left : Nat) (has : Bool) (s : ByteArray) : Nat → Prop
  | 0 => True
  | 1 => ∀ (w : World) (r : Nat) (ob : Obj), w.heap[r]? = some ob → S.ext 0 ob r → (Instr.lookup 51 (.map (some r)) (.agg #[u32 left, .bool has, .string s]) false).run P w = .ok (.bool false) w
  | 2 => ∀ (w : World) (r : Nat) (ob : Obj), w.heap[r]? = some ob → S.ext 0 ob r → (Instr.lookup 51 (.map (some r)) (.agg #[u32 left, .bool has, .string s]) false).run P w = .ok (.bool true) w
  | 3 => ∀ (w : World) (r : Nat) (ob : Obj), w.heap[r]? = some ob → S.ext 0 ob r → ∃ ob', S.ext 0 ob' r ∧ (Instr.mapUpdate 51 (.map (some r)) (.agg #[u32 left, .bool has, .string s]) (.bool true)).run P w = .ok () { w with heap := w.heap.setIfInBounds r ob' }
  | _ => False
theorem ite_some' {α : Type} {c : Bool} {a b : α} (h : (if c then some a else none) = some b) : c = true ∧ a = b := by
  cases c with
  | false => cases h
  | true => simp only [if_true, Option.some.injEq] at h; exact ⟨rfl, h⟩
theorem orcN_ok (hS : SH M S x n c m left s row) {has : Bool} (mode : Nat) (fs : List Fact) (ws : List Win) (h : ∀ f ∈ fs, FactOK P S f) (hw : ∀ f ∈ ws, f ∈ S.wins) (hm : ModeOK P S left has s mode) : @OrcOK S (orcN P mode has fs ws) P := by
  have h0 := @orcL_ok P S lens fs hS.so.len h
  refine @OrcOK.mk S (orcN P mode has fs ws) P hw ?_ ?_ (fun o ev v ho ρ ev' w hX => @OrcOK.ok S (orcL P lens fs) P h0 o ev v ho ρ ev' w hX)
  · intro t tag k ok v ho ρ k' w r hk ob h1 h2
    match mode, hm, ho with
    | 0, _, ho => cases ho
    | 1, hm, ho =>
      replace ho : (if Nat.beq t 51 && (Nat.beq tag 0 && (isKey has k && !ok)) then some (Value.bool false) else none) = some v := ho
      obtain ⟨hc, rfl⟩ := ite_some' ho
      simp only [Bool.and_eq_true, Bool.not_eq_true'] at hc
      obtain ⟨c1, c2, c3, c4⟩ := hc
      have c1 := of_beq c1; have c2 := of_beq c2
      subst c1 c2 c4
      rw [key_eq2 hS c3 hk]
      exact ⟨_, hm w r ob h1 h2, @VR.leaf S ρ _ rfl⟩
    | 2, hm, ho =>
      replace ho : (if Nat.beq t 51 && (Nat.beq tag 0 && (isKey has k && !ok)) then some (Value.bool true) else none) = some v := ho
      obtain ⟨hc, rfl⟩ := ite_some' ho
      simp only [Bool.and_eq_true, Bool.not_eq_true'] at hc
      obtain ⟨c1, c2, c3, c4⟩ := hc
      have c1 := of_beq c1; have c2 := of_beq c2
      subst c1 c2 c4
      rw [key_eq2 hS c3 hk]
      exact ⟨_, hm w r ob h1 h2, @VR.leaf S ρ _ rfl⟩
    | 3, _, ho => cases ho
    | n + 4, hm, _ => exact hm.elim
  · intro t tag k y tag' ho ρ k' y' w r hk hy ob h1 h2
    match mode, hm, ho with
    | 0, _, ho => cases ho
    | 1, _, ho => cases ho
    | 2, _, ho => cases ho
    | 3, hm, ho =>
      replace ho : (if Nat.beq t 51 && (Nat.beq tag 0 && (isKey has k && same y (.bool true))) then some 0 else none) = some tag' := ho
      obtain ⟨hc, rfl⟩ := ite_some' ho
      simp only [Bool.and_eq_true] at hc
      obtain ⟨c1, c2, c3, c4⟩ := hc
      have c1 := of_beq c1; have c2 := of_beq c2
      subst c1 c2
      have c4 := same_eq c4
      subst c4
      rw [key_eq2 hS c3 hk, @VR.inv_leaf S ρ _ _ hy rfl]
      exact hm w r ob h1 h2
    | n + 4, hm, _ => exact hm.elim
end
end Go.Proofs.Ytbhjhffglcipbaa.HW
namespace Go.Proofs.Ytbhjhffglcipbaa
open Go Go.Proofs.Ytbhjhffglcipbaa.AS Go.Proofs.Ytbhjhffglcipbaa.HW Go.RowKit
set_option maxRecDepth 100000
set_option linter.unusedVariables false
set_option linter.unusedSimpArgs false
set_option linter.unusedSectionVars false
/-- what is in the memo -/
def Memo (n : Nat) (D : Nat → DR) : Obj → Prop := MemoOK Try.prog 59 (Lin D n)
/-- what goes does -/
def GoesD (n : Nat) (D : Nat → DR) (left : Nat) : Prop :=
  ∀ (w0 : World) (sb : Nat) (x : Addr) (c m : Nat) (has : Bool) (s : ByteArray), Struct2 w0 sb x n c m → RowsAt w0 x n (fun k => (D k).cells) → MapIs (Memo n D) w0 m → s.size ≤ maxLen → left < 4294967296 →
    Calls Try.prog 18 #[.pointer (some ⟨sb, 0, none⟩), .agg #[u32 left, .bool has, .string s]] w0 fun e w' => (∃ b, e = .returned (.bool b) ∧ (b = true ↔ Lin D n left (has, s))) ∧ Turned2 (Memo n D) m w0 w'
section
variable {S : Sym} {x : Addr} {n c m left i : Nat} {s : ByteArray} {D : Nat → DR}
theorem overS2_ok {M : Obj → Prop} (hS : SH M S x n c m left s fun k => (D k).cells) (hR : RowsOK x n fun k => (D k).cells) (hn : n ≤ 31) (hl : left < 4294967296) {b : Bool} (hb0 : overB D n left = b) : @SimFn S Try.prog 22 (overS2 b) := by
  intro args σ v σ' h ρ w args' hg hr ha
  unfold overS2 at h
  split at h
  case isFalse => cases h
  rename_i hc
  obtain ⟨rfl, hb⟩ := args_eq hc
  simp only [Option.some.injEq, Prod.mk.injEq] at h
  obtain ⟨rfl, rfl⟩ := h
  cases ha with | cons h1 t => cases t with | cons h2 t => cases t with | nil =>
  obtain ⟨l0, g0, rfl⟩ := at0_eq h1
  have h2 := sy_eq h2
  rw [hS.so.left] at h2
  subst h2
  obtain ⟨q1, q2, q3, q4, q5⟩ := okB_world2 hS hR hr hb g0
  rw [q1]
  refine (over_calls2 q2.at q3 hn hl).mono ?_
  rintro e w' ⟨rfl, hb'⟩
  exact ⟨_, ρ, rfl, @Ext.grown S _ _ _ _ hr hb', @HR.grown S _ _ _ _ hr hb', by rw [hb0]; exact @VR.leaf S ρ _ rfl⟩
theorem firstS2_ok {M : Obj → Prop} {b : Bool} (hS : SH M S x n c m left s fun k => (D k).cells) (hR : RowsOK x n fun k => (D k).cells) (hn : n ≤ 31) (hl : left < 4294967296) (hi : i < n) (h8 : S.val 8 = HW.i64 i)
    (hf : firstB D n left i = b) : @SimFn S Try.prog 23 (firstS b) := by
  intro args σ v σ' h ρ w args' hg hr ha
  unfold firstS at h
  split at h
  case isFalse => cases h
  rename_i hc
  obtain ⟨rfl, hb⟩ := args_eq hc
  simp only [Option.some.injEq, Prod.mk.injEq] at h
  obtain ⟨rfl, rfl⟩ := h
  cases ha with | cons h1 t => cases t with | cons h2 t => cases t with | cons h3 t => cases t with | nil =>
  obtain ⟨l0, g0, rfl⟩ := at0_eq h1
  have h2 := sy_eq h2
  have h3 := sy_eq h3
  rw [hS.so.left] at h2
  rw [h8] at h3
  subst h2 h3
  obtain ⟨q1, q2, q3, q4, q5⟩ := okB_world2 hS hR hr hb g0
  rw [q1]
  refine (first_calls q2.at q3 hn hl hi).mono ?_
  rintro e w' ⟨rfl, hb'⟩
  exact ⟨_, ρ, rfl, @Ext.grown S _ _ _ _ hr hb', @HR.grown S _ _ _ _ hr hb', by rw [hf]; exact @VR.leaf S ρ _ rfl⟩
theorem vM_eq {ρ : Rho} {k : Nat} {v : Value} (h5 : S.val 5 = .string s) (hr : RS S (D i) i left) (h : @VR S ρ (vM k) v) : v = .string (vR s (D i) k) := by
  match k, h with
  | 0, h => exact (sy_eq h).trans h5
  | 1, h => exact (sy_eq h).trans hr.val
  | _ + 2, h => exact @VR.inv_leaf S ρ _ _ h rfl
theorem goesS2_ok (hS : SH (Memo n D) S x n c m left s fun k => (D k).cells) (hR : RowsOK x n fun k => (D k).cells) (h0 : ∀ o, Memo n D o → S.ext 0 o m) (hr : RS S (D i) i left) (hs : s.size ≤ maxLen) (hv : (D i).val.size ≤ maxLen)
    (ih : GoesD n D (struck left i)) {h : Bool} {v : Nat} {r : Bool} (hres : r = true ↔ Lin D n (struck left i) (h, vR s (D i) v)) : @SimFn S Try.prog 18 (goesS2 h (vM v) r) := by
  intro args σ u σ' hh ρ w args' hgr hhr ha
  unfold goesS2 at hh
  split at hh
  case isFalse => cases hh
  rename_i hc
  obtain ⟨⟨cs, rfl, hcs⟩, hb⟩ := argsV2_eq hc
  simp only [Option.some.injEq, Prod.mk.injEq] at hh
  obtain ⟨rfl, rfl⟩ := hh
  cases ha with | cons h1 t => cases t with | cons h2 t => cases t with | nil =>
  obtain ⟨l0, g0, rfl⟩ := at0_eq h1
  obtain ⟨cs', rfl, hl⟩ := agg_eq h2
  obtain ⟨q1, q2, q3, q4, l2, q5, q6⟩ := okB_world2 hS hR hhr hb g0
  rw [q1]
  have key : cs'.toList = [u32 (struck left i : Nat), .bool h, .string (vR s (D i) v)] := by
    rw [hcs] at hl
    generalize cs'.toList = l at hl
    cases hl with | cons h1 t => cases t with | cons h2 t => cases t with | cons h3 t => cases t with | nil =>
    have h1 := sy_eq h1
    have h3 := vM_eq hS.v hr h3
    have h2 := @VR.inv_leaf S ρ _ _ h2 rfl
    rw [hr.h115] at h1
    subst h1 h2 h3
    rfl
  rw [arr3 key]
  obtain ⟨g0, g1, g2⟩ := okB_eq hb
  have hsz : (vR s (D i) v).size ≤ maxLen := by
    unfold vR
    split
    · exact hs
    · exact hv
    · exact Nat.zero_le _
  refine (ih w l0.pb x c m h _ q2 q3 q4 hsz (struck_u32 _ _)).mono ?_
  rintro e w' ⟨⟨b, rfl, hbL⟩, ht⟩
  have hbr : b = r := by
    rw [Bool.eq_iff_iff, hbL, hres]
  subst hbr
  have hp : ∀ p, p < w.heap.size → p ≠ l2.pb → w'.heap[p]? = w.heap[p]? := fun p h1 h2 => ht.keep p h1 (q6 ▸ h2)
  obtain ⟨o, k1, k2⟩ := ht.map
  exact ⟨_, ρ, rfl, @Ext.turned S _ _ _ _ hhr _ _ _ _ g2 rfl q5 hp ht.size ht.os ht.tape ht.output, @HR.turned S _ _ _ _ hhr _ _ _ _ g2 rfl q5 rfl ⟨o, q6 ▸ k1, q6 ▸ h0 o k2⟩ hp, @VR.leaf S ρ _ rfl⟩
end
end Go.Proofs.Ytbhjhffglcipbaa
namespace Go.Proofs.Ytbhjhffglcipbaa.HW
open Go Go.Proofs.Ytbhjhffglcipbaa.AS Go.RowKit
set_option linter.unusedVariables false
set_option linter.unusedSimpArgs false
set_option linter.unusedSectionVars false
/-- of a tree whose ways all end well, one way -/
theorem chk2_way {P : Program} {fn : Func} {code c1 : List Code} {c : Code} {has ho h : Bool} (tr : Nat → Bool) : ∀ (t : Q2) (fs : List Fact), chk2 P fn code c1 c has ho h t fs = true →
    ∃ gs, (∀ f ∈ gs, ∃ q, f = qf q (tr q)) ∧ (if (ev2 tr t).2.2 = true then phaseH P code (ovG2 (ev2 tr t).1 (ev2 tr t).2.1 false) has ho h (gs ++ fs) = true ∧ phaseHt P fn c1 c (ovG2 (ev2 tr t).1 (ev2 tr t).2.1 true) has ho h (gs ++ fs) = true
      else phaseH P code (ovF true) has ho h (gs ++ fs) = true) := by
  intro t
  induction t with
  | done h' v ok =>
    intro fs hh
    refine ⟨[], fun f hf => (by cases hf), ?_⟩
    simp only [chk2] at hh
    simp only [ev2, List.nil_append]
    cases ok
    · simpa using hh
    · simpa using hh
  | ask q y n ihy ihn =>
    intro fs hh
    simp only [chk2, Bool.and_eq_true] at hh
    cases hq : tr q with
    | true =>
      obtain ⟨gs, h1, h2⟩ := ihy _ hh.1
      refine ⟨gs ++ [qf q true], fun f hf => ?_, ?_⟩
      · rcases List.mem_append.1 hf with hf | hf
        · exact h1 f hf
        · rw [List.mem_singleton] at hf; exact ⟨q, by rw [hf, hq]⟩
      · simp only [ev2, hq, if_true, List.append_assoc, List.singleton_append]
        exact h2
    | false =>
      obtain ⟨gs, h1, h2⟩ := ihn _ hh.2
      refine ⟨gs ++ [qf q false], fun f hf => ?_, ?_⟩
      · rcases List.mem_append.1 hf with hf | hf
        · exact h1 f hf
        · rw [List.mem_singleton] at hf; exact ⟨q, by rw [hf, hq]⟩
      · simp only [ev2, hq, Bool.false_eq_true, if_false, List.append_assoc, List.singleton_append]
        exact h2
/-- a call may stand next, and what is left then has an order -/
def tryOK (D : Nat → DR) (n left : Nat) (v : Bool × ByteArray) (j : Nat) : Prop := left / 2 ^ j % 2 = 1 ∧ firstB D n left j = true ∧ (doesF (D j) v).2 = true ∧ Lin D n (struck left j) (doesF (D j) v).1
theorem Lin.inv {D : Nat → DR} {n left : Nat} {v : Bool × ByteArray} (ho : overB D n left = false) (hno : ∀ j, j < n → ¬ tryOK D n left v j) : ¬ Lin D n left v := by
  intro h
  cases h with
  | over h => rw [ho] at h; cases h
  | step i hi hb hf hok h => exact hno i hi ⟨hb, hf, hok, h⟩
theorem ans2_eq {P : Program} {fn : Func} {r : Bool} {t : TM} {σ : St} (h : ans2 P fn r t σ = true) : resultsV P fn σ t.toL = some (.bool r) ∧ okB σ = true ∧ isAt0 (t.toL.getD 0 undef) = true := by
  unfold ans2 at h
  simp only [Bool.and_eq_true] at h
  obtain ⟨h1, h2, h3⟩ := h
  refine ⟨?_, h2, h3⟩
  rw [@resultsT_eq mute]
  split at h1
  · rename_i b hb
    rw [hb, eq_of_beq h1]
  · cases h1
end Go.Proofs.Ytbhjhffglcipbaa.HW
namespace Go.Proofs.Ytbhjhffglcipbaa
open Go Go.Proofs.Ytbhjhffglcipbaa.AS Go.Proofs.Ytbhjhffglcipbaa.HW Go.RowKit
set_option maxRecDepth 100000
set_option linter.unusedVariables false
set_option linter.unusedSimpArgs false
set_option linter.unusedSectionVars false
theorem h_ask (has o h : Bool) : chk2 Try.prog Try.f18 goLb (goLb.take 2) (goLb.getD 2 .skip) has o h (all2 has o h) factsG = true := by
  cases has <;> cases o
  · exact bools_all h_ff h
  · exact bools_all h_ft h
  · exact bools_all h_tf h
  · exact bools_all h_tt h
theorem goLb_eq2 : goLb = goLb.take 2 ++ (goLb.getD 2 .skip :: goLb.drop 3) := by kernel_rfl
theorem goL_eq4 : goL = goL.take 2 ++ (goL.getD 2 .skip :: goL.drop 3) := by kernel_rfl
theorem overS2_kept (b : Bool) (args : List Value) (σ : St) (v : Value) (σ' : St) (h : overS2 b args σ = some (v, σ')) : Kept σ σ' := by
  unfold overS2 at h
  split at h
  · simp only [Option.some.injEq, Prod.mk.injEq] at h; rw [← h.2]; exact @Kept.refl plainSym mute _
  · cases h
theorem goesS2_kept (h : Bool) (v : Value) (r : Bool) (args : List Value) (σ : St) (u : Value) (σ' : St) (hh : goesS2 h v r args σ = some (u, σ')) : Kept σ σ' := by
  unfold goesS2 at hh
  split at hh
  · rename_i hc
    simp only [Option.some.injEq, Prod.mk.injEq] at hh
    rw [← hh.2]
    obtain ⟨_, _, g2⟩ := okB_eq (argsV2_eq hc).2
    exact @Kept.set plainSym mute _ _ _ _ g2 rfl
  · cases hh
section
variable {w0 : World} {x : Addr} {n c m left : Nat} {s : ByteArray} {has : Bool} {D : Nat → DR}
theorem go_loop2 {Q : Exit → Act → World → Prop} (hr : RowsAt w0 x n fun k => (D k).cells) (hxB : x.block < w0.heap.size) (hxm : x.block ≠ m) (hn : n ≤ 31) (hl : left < 4294967296) (hs : s.size ≤ maxLen) (hvals : ∀ i, i < n → (D i).val.size ≤ maxLen)
    (ih0 : ∀ l, l < left → GoesD n D l)
    (hQt : ∀ S σ (t : TM) a w, SH (Memo n D) S x n c m left s (fun k => (D k).cells) → Lin D n left (has, s) → AtX Try.prog S (fun p => p = m) w0.heap.size w0 σ t.toL a w → ans2 Try.prog Try.f18 true t σ = true → Q .ret a w)
    (hQe : (∀ j, j < n → ¬ tryOK D n left (has, s) j) → ∀ S σ (t : TM) a w, SH (Memo n D) S x n c m left s (fun k => (D k).cells) → (∀ o, Memo n D o → S.ext 0 o m) → AtX Try.prog S (fun p => p = m) w0.heap.size w0 σ t.toL a w →
      (match @runLT (orcN Try.prog 3 has [] []) Try.prog ov0 400 ((goL.drop 7).take 2) t σ with
      | some (t, σ) => ans2 Try.prog Try.f18 false t σ
      | none => false) = true → Q (.exit 0) a w) :
    ∀ (d : Nat) (i : Nat) (S : Sym) (a : Act) (w : World), n - i = d → i ≤ n → (∀ j, j < i → ¬ tryOK D n left (has, s) j) → SH (Memo n D) S x n c m left s (fun k => (D k).cells) → (∀ o, Memo n D o → S.ext 0 o m) → S.val 8 = HW.i64 i →
      AtX Try.prog S (fun p => p = m) w0.heap.size w0 (stG has) tmG a w → InLoop Try.prog goB Q a w := by
  intro d
  induction d with
  | zero =>
    intro i S a w hd hi hno hS h0 h8 hat
    have hin : i = n := by omega
    refine @inLoop_of_wp plainSym mute _ (mute_ok _) _ _ _ _ (wp_flat _ _ _ _ ?_)
    show wpL Try.prog _ goLb a w
    have htm : (TM.of tmG 68 ok68).toL = tmG := by rw [@TM.of_toL mute _ _ _ (by decide)]; rfl
    rw [← htm] at hat
    have hp := bools_all h_end has
    unfold phaseHe at hp
    split at hp
    case h_2 => cases hp
    rename_i t1 σ1 hrun
    split at hp
    case h_2 => cases hp
    rename_i id t2 σ2 hrun2
    simp only [Bool.and_eq_true] at hp
    obtain ⟨hid, hp⟩ := hp
    have hid := of_beq hid
    subst hid
    have hO : @OrcOK S (orcN Try.prog 0 has [⟨.lss, 3, HW.sy 8, HW.sy 9, .bool false⟩] []) Try.prog := by
      refine orcN_ok hS 0 _ _ ?_ (fun f hf => by cases hf) trivial
      intro f hf
      simp only [List.mem_cons, List.not_mem_nil, or_false] at hf
      subst hf
      exact FactOK.int (k := .i64) (x := i) (y := n) h8 hS.so.n (by simp [intR, conc]; omega) (.inl rfl)
    have hO2 : @OrcOK S (orcN Try.prog 0 has [] []) Try.prog := orcN_ok hS 0 _ _ (fun f hf => by cases hf) (fun f hf => by cases hf) trivial
    rw [goLb_eq1]
    refine AtX.runL _ hO mixed26 (fun _ _ h => by cases h) (fun _ _ h => by cases h) _ hrun hat fun a' w' hat3 => ?_
    refine AtX.run _ hO2 mixed26 (fun _ _ h => by cases h) (fun _ _ h => by cases h) hrun2 hat3 fun a2 w2 hat4 => ?_
    exact hQe (by subst hin; exact hno) S σ2 t2 a2 w2 hS h0 hat4 hp
  | succ d ih =>
    intro i S a w hd hi hno hS h0 h8 hat
    have hin : i < n := by omega
    have hθ : (theta (HW.sy 8) (u32 ((left / 2 ^ i : Nat) : Int)) (u32 ((left / 2 ^ i % 2 : Nat) : Int)) (HW.i64 (i + 1 : Nat)) ((D i).cells ++ [u32 ((struck left i : Nat) : Int), u32 ((2 ^ i : Nat) : Int)])).all okθ = true :=
      theta_ok rfl rfl rfl rfl (by rw [List.all_append, Bool.and_eq_true]; exact ⟨hr.leafs i hin, rfl⟩)
    have hat1 := hat.tellW hθ (stB_tellG has _ _ _ _ _ rfl) hS.pin rfl rfl rfl
    have g8 : ({ Sym.of S _ hθ with wins := [pinW] } : Sym).val 8 = HW.i64 i := h8
    have g20 : ({ Sym.of S _ hθ with wins := [pinW] } : Sym).val 20 = u32 ((left / 2 ^ i : Nat) : Int) := rfl
    have g21 : ({ Sym.of S _ hθ with wins := [pinW] } : Sym).val 21 = u32 ((left / 2 ^ i % 2 : Nat) : Int) := rfl
    have g22 : ({ Sym.of S _ hθ with wins := [pinW] } : Sym).val 22 = HW.i64 (i + 1 : Nat) := rfl
    have grow : ∀ j v, ((D i).cells ++ [u32 ((struck left i : Nat) : Int), u32 ((2 ^ i : Nat) : Int)])[j]? = some v → ({ Sym.of S _ hθ with wins := [pinW] } : Sym).val (100 + j) = v := by
      intro j v hv
      show conc S ((theta _ _ _ _ ((D i).cells ++ [u32 ((struck left i : Nat) : Int), u32 ((2 ^ i : Nat) : Int)])).getD (100 + j) _) = v
      rw [theta_row, List.getD_eq_getElem?_getD, hv]
      refine conc_leaf ?_
      have := List.mem_of_getElem? hv
      rcases List.mem_append.1 this with q | q
      · exact List.all_eq_true.1 (hr.leafs i hin) v q
      · simp only [List.mem_cons, List.not_mem_nil, or_false] at q
        rcases q with rfl | rfl <;> rfl
    have hS1 : SH (Memo n D) { Sym.of S _ hθ with wins := [pinW] } x n c m left s (fun k => (D k).cells) := ⟨⟨hS.so.l, hS.so.m, hS.so.left, hS.so.n⟩, hS.v, hS.ext, List.mem_cons_self ..⟩
    have h01 : ∀ o, Memo n D o → ({ Sym.of S _ hθ with wins := [pinW] } : Sym).ext 0 o m := h0
    generalize ({ Sym.of S _ hθ with wins := [pinW] } : Sym) = S1 at hat1 hS1 h01 g8 g20 g21 g22 grow
    obtain ⟨ρw, hw⟩ := hat1
    have hrw : RowsAt w x n fun k => (D k).cells := hr.keep (hw.keep x.block hxB hxm)
    obtain ⟨C, t, fr, c1, c2, c3⟩ := hrw.cells
    have hat2 := AtX.window (k := HW.sy 8) ⟨ρw, hw⟩ (new_rowG (o := (D i).hasOld) (h := (D i).has)) (z := 15) hS1.so.l (kd := .i64) (i := (i : Int)) g8 (by omega) (by omega) hr.spot (by simp [rowG, rowU]) hxB hxm c1 (by simp only [Int.toNat_natCast]; omega) (fun j u hu => by
      obtain ⟨hj, hu⟩ := rowG_get hu
      have hv : ((D i).cells)[j]? = some (((D i).cells)[j]'hj) := List.getElem?_eq_getElem _
      refine ⟨_, by simp only [Int.toNat_natCast]; exact c3 i hin j _ hv, fun ρ => ?_⟩
      rcases hu with ⟨rfl, rfl⟩ | ⟨rfl, rfl⟩ | rfl
      · exact @VR.leaf S1 ρ _ rfl
      · exact @VR.leaf S1 ρ _ rfl
      · exact @VR.sym S1 ρ (100 + j) _ (grow j _ (by rw [List.getElem?_append_left (show j < (D i).cells.length from hj)]; exact hv)))
    refine @inLoop_of_wp plainSym mute _ (mute_ok _) _ _ _ _ (wp_flat _ _ _ _ ?_)
    show wpL Try.prog _ goLb a w
    have htm : (TM.of tmG 68 ok68).toL = tmG := by rw [@TM.of_toL mute _ _ _ (by decide)]; rfl
    rw [← htm] at hat2
    have hS2 : SH (Memo n D) { S1 with wins := ⟨1, HW.sy 8, 4, 15⟩ :: S1.wins } x n c m left s (fun k => (D k).cells) := ⟨⟨hS1.so.l, hS1.so.m, hS1.so.left, hS1.so.n⟩, hS1.v, hS1.ext, List.mem_cons_of_mem _ hS1.pin⟩
    have h02 : ∀ o, Memo n D o → ({ S1 with wins := ⟨1, HW.sy 8, 4, 15⟩ :: S1.wins } : Sym).ext 0 o m := h01
    have hRS : RS { S1 with wins := ⟨1, HW.sy 8, 4, 15⟩ :: S1.wins } (D i) i left := ⟨g8, g20, g21, g22, grow 15 _ rfl, grow 16 _ rfl, grow 4 _ rfl, grow 6 _ rfl, grow 7 _ rfl, grow 10 _ rfl, grow 11 _ rfl, grow 12 _ rfl⟩
    have hwin : ∀ f ∈ winsG, f ∈ ({ S1 with wins := ⟨1, HW.sy 8, 4, 15⟩ :: S1.wins } : Sym).wins := by
      intro f hf
      simp only [winsG, List.mem_cons, List.not_mem_nil, or_false] at hf
      subst hf; simp
    generalize ({ S1 with wins := ⟨1, HW.sy 8, 4, 15⟩ :: S1.wins } : Sym) = S2 at hat2 hS2 h02 hRS hwin
    have goon : ¬ tryOK D n left (has, s) i → ∀ (ov : Ov) (fs : List Fact), phaseH Try.prog goLb ov has (D i).hasOld (D i).has fs = true → (∀ f ∈ fs, FactOK Try.prog S2 f) → (∀ f g, ov f = some g → @SimFn S2 Try.prog f g) → (∀ f g, ov f = some g → ∀ args σ v σ', g args σ = some (v, σ') → Kept σ σ') →
        wpL Try.prog (Exit.then (InLoop Try.prog goB Q) Q) goLb a w := by
      intro hnt ov fs hp hfs hov hk
      unfold phaseH at hp
      split at hp
      case h_2 => cases hp
      rename_i t1 σ1 hrun
      rw [← List.append_nil goLb]
      refine AtX.runL _ (orcN_ok hS2 0 _ _ hfs hwin trivial) mixed26 hov hk goLb hrun hat2 fun a' w' hat4 => ?_
      obtain ⟨hθ2, hat5⟩ := hat4.restateW hp hS2.pin rfl rfl rfl
      refine ih (i + 1) _ a' w' (by omega) (by omega) ?_ ?_ ?_ ?_ hat5
      · intro j hj
        rcases Nat.lt_or_ge j i with q | q
        · exact hno j q
        · have e : j = i := by omega
          subst e; exact hnt
      · exact ⟨⟨hS2.so.l, hS2.so.m, hS2.so.left, hS2.so.n⟩, hS2.v, hS2.ext, List.mem_cons_self ..⟩
      · exact h02
      · exact hRS.h22
    have hfI : ∀ f ∈ factsI, FactOK Try.prog S2 f := factsI_ok hS2.so hl hn hin hRS.h8 hRS.h20 hRS.h21 hRS.h22
    by_cases hbit : left / 2 ^ i % 2 = 1
    case neg =>
      refine goon (fun h => hbit h.1) ov0 _ (bools_all (bools_all (bools_all h_bit has) (D i).hasOld) (D i).has) ?_ (fun _ _ h => by cases h) (fun _ _ h => by cases h)
      intro f hf
      rcases List.mem_append.1 hf with hf | hf
      · exact hfI f hf
      · exact bitF_ok hRS (b := false) (by simp [hbit]) f hf
    have hRO : RowsOK x n fun k => (D k).cells := ⟨hr.spot, hr.len, hr.leafs⟩
    have hfG := factsG_ok (P := Try.prog) hRS hS2.so hl hn hin hbit
    have hovF : ∀ b, firstB D n left i = b → ∀ f g, ovF b f = some g → @SimFn S2 Try.prog f g := by
      intro b hb f g h
      unfold ovF at h
      split at h
      · rename_i e
        have e := of_beq e
        simp only [Option.some.injEq] at h
        subst h e
        exact firstS2_ok hS2 hRO hn hl hin hRS.h8 hb
      · cases h
    have hovFk : ∀ b f g, ovF b f = some g → ∀ args σ v σ', g args σ = some (v, σ') → Kept σ σ' := by
      intro b f g h
      unfold ovF at h
      split at h
      · simp only [Option.some.injEq] at h
        subst h
        exact firstS_kept b
      · cases h
    cases hfst : firstB D n left i with
    | false =>
      refine goon (fun h => by have h2 := h.2.1; rw [hfst] at h2; cases h2) (ovF false) _ (bools_all (bools_all (bools_all h_first has) (D i).hasOld) (D i).has) ?_ (hovF false hfst) (hovFk false)
      intro f hf
      rcases List.mem_append.1 hf with hf | hf
      · exact hfI f hf
      · exact bitF_ok hRS (b := true) (by simp [hbit]) f hf
    | true =>
      obtain ⟨gs, h1, h2⟩ := chk2_way (qtrue (D i) s) _ _ (h_ask has (D i).hasOld (D i).has)
      have hfs : ∀ f ∈ gs ++ factsG, FactOK Try.prog S2 f := by
        intro f hf
        rcases List.mem_append.1 hf with hf | hf
        · obtain ⟨q, rfl⟩ := h1 f hf
          exact qf_ok hRS hS2.v q
        · exact hfG f hf
      have hdoes : doesF (D i) (has, s) = (((ev2 (qtrue (D i) s) (all2 has (D i).hasOld (D i).has)).1, vR s (D i) (ev2 (qtrue (D i) s) (all2 has (D i).hasOld (D i).has)).2.1), (ev2 (qtrue (D i) s) (all2 has (D i).hasOld (D i).has)).2.2) := rfl
      generalize hev : ev2 (qtrue (D i) s) (all2 has (D i).hasOld (D i).has) = r at h2 hdoes
      split at h2
      · rename_i hok
        obtain ⟨p1, p2⟩ := h2
        have hovG : ∀ b, (b = true ↔ Lin D n (struck left i) (r.1, vR s (D i) r.2.1)) → ∀ f g, ovG2 r.1 r.2.1 b f = some g → @SimFn S2 Try.prog f g := by
          intro b hb f g h
          unfold ovG2 at h
          split at h
          · rename_i e
            have e := of_beq e
            simp only [Option.some.injEq] at h
            subst h e
            exact firstS2_ok hS2 hRO hn hl hin hRS.h8 hfst
          · split at h
            · rename_i e
              have e := of_beq e
              simp only [Option.some.injEq] at h
              subst h e
              exact goesS2_ok hS2 hRO h02 hRS hs (hvals i hin) (ih0 _ (struck_lt hl (by omega) hbit)) hb
            · cases h
        have hovGk : ∀ b f g, ovG2 r.1 r.2.1 b f = some g → ∀ args σ v σ', g args σ = some (v, σ') → Kept σ σ' := by
          intro b f g h
          unfold ovG2 at h
          split at h
          · simp only [Option.some.injEq] at h
            subst h
            exact firstS_kept true
          · split at h
            · simp only [Option.some.injEq] at h
              subst h
              exact goesS2_kept _ _ b
            · cases h
        by_cases hL : Lin D n (struck left i) (r.1, vR s (D i) r.2.1)
        · unfold phaseHt at p2
          split at p2
          case h_2 => cases p2
          rename_i t1 σ1 hrun
          split at p2
          case h_2 => cases p2
          rename_i t2 σ2 hrun2
          rw [goLb_eq2]
          refine AtX.runL _ (orcN_ok hS2 0 _ _ hfs hwin trivial) mixed26 (hovG true (by simp [hL])) (hovGk true) _ hrun hat2 fun a' w' hat4 => ?_
          refine AtX.run _ (orcN_ok hS2 0 _ _ hfs hwin trivial) mixed26 (hovG true (by simp [hL])) (hovGk true) hrun2 hat4 fun a2 w2 hat5 => ?_
          refine hQt S2 σ2 t2 a2 w2 hS2 ?_ hat5 p2
          refine Lin.step i hin hbit hfst ?_ ?_
          · rw [hdoes]; exact hok
          · rw [hdoes]; exact hL
        · refine goon (fun h => hL ?_) (ovG2 r.1 r.2.1 false) _ p1 hfs (hovG false (by simp [hL])) (hovGk false)
          have := h.2.2.2
          rw [hdoes] at this
          exact this
      · rename_i hok
        refine goon (fun h => hok ?_) (ovF true) _ h2 hfs (hovF true hfst) (hovFk true)
        have := h.2.2.1
        rw [hdoes] at this
        exact this
end
end Go.Proofs.Ytbhjhffglcipbaa
namespace Go.Proofs.Ytbhjhffglcipbaa.HW
open Go Go.Proofs.Ytbhjhffglcipbaa.AS Go.RowKit
set_option linter.unusedVariables false
set_option linter.unusedSimpArgs false
set_option linter.unusedSectionVars false
theorem turned_of2 {P : Program} {M : Obj → Prop} {S : Sym} {σ : St} {tm : List Value} {a : Act} {w0 w : World} {x : Addr} {n c m left : Nat} {s : ByteArray} {row : Nat → List Value} (hS : SH M S x n c m left s row) (hR : RowsOK x n row) (hat : AtX P S (fun p => p = m) w0.heap.size w0 σ tm a w) (hb : okB σ = true) (h0 : isAt0 (tm.getD 0 undef) = true) : Turned2 M m w0 w := by
  obtain ⟨ρ, h⟩ := hat
  have hv := @VL.getD S ρ _ _ h.vl 0
  have e : tm.getD 0 undef = at_ 0 := by
    generalize tm.getD 0 undef = v at h0
    unfold isAt0 at h0
    split at h0
    · rw [of_beq h0]; rfl
    · cases h0
  rw [e] at hv
  obtain ⟨l0, g0, _⟩ := at0_eq hv
  obtain ⟨_, _, _, k4, _⟩ := okB_world2 hS hR h.hr hb g0
  exact ⟨h.os, h.tape, h.output, h.size, fun p h1 h2 => h.keep p h1 h2, k4⟩
end Go.Proofs.Ytbhjhffglcipbaa.HW
namespace Go.Proofs.Ytbhjhffglcipbaa
open Go Go.Proofs.Ytbhjhffglcipbaa.AS Go.Proofs.Ytbhjhffglcipbaa.HW Go.RowKit
set_option maxRecDepth 100000
set_option linter.unusedVariables false
set_option linter.unusedSimpArgs false
set_option linter.unusedSectionVars false
/-- search.goes answers whether there is an order -/
theorem goes_calls2 {n : Nat} {D : Nat → DR} (h1 : 1 ≤ n) (hn : n ≤ 31) (hvals : ∀ i, i < n → (D i).val.size ≤ maxLen) : ∀ left, GoesD n D left := by
  intro left
  induction left using Nat.strongRecOn with
  | ind left ih0 =>
  intro w0 sb x c m has s hs hr hmap hsz hl
  obtain ⟨o0, hm, hmemo⟩ := hmap
  have hgood := hmemo.good
  have hxB : x.block < w0.heap.size := by
    obtain ⟨C, t, fr, h1, _⟩ := hr.cells
    exact (Array.getElem?_eq_some_iff.1 h1).1
  obtain ⟨E, clk, hE, _⟩ := hgood.ex
  have hms : m ≠ sb := by
    rintro rfl
    have := hs.symm.trans hm
    rw [hE] at this
    cases this
  have hmx : m ≠ x.block := by
    rintro rfl
    obtain ⟨C, t, fr, h1, _⟩ := hr.cells
    have := h1.symm.trans hm
    rw [hE] at this
    cases this
  have hRO : RowsOK x n fun k => (D k).cells := ⟨hr.spot, hr.len, hr.leafs⟩
  have hS : SH (Memo n D) (symG (extE o0 m x n fun k => (D k).cells) x n c m left s) x n c m left s (fun k => (D k).cells) := by
    refine ⟨⟨rfl, rfl, rfl, rfl⟩, rfl, fun t o p h => ?_, List.mem_cons_self ..⟩
    rcases h with ⟨a, b, rfl⟩ | h
    · exact .inl ⟨a, b, hmemo⟩
    · exact .inr h
  obtain ⟨lk, hkey⟩ := key59 (has := has) hl hsz
  obtain ⟨dead, hdead, hdead2⟩ := HW.MapGood.lookup2 law59 u51 zero4 hgood hkey
  have hlook : ∀ (w : World) (r : Nat) (ob : Obj), w.heap[r]? = some ob → (symG (extE o0 m x n fun k => (D k).cells) x n c m left s).ext 0 ob r → (Instr.lookup 51 (.map (some r)) (.agg #[u32 left, .bool has, .string s]) false).run Try.prog w = .ok (.bool dead) w := by
    intro w r ob h1 h2
    rcases h2 with ⟨_, rfl, rfl⟩ | ⟨e, _⟩
    · exact hdead w _ h1
    · omega
  refine calls_flat (args := [.pointer (some ⟨sb, 0, none⟩), .agg #[u32 left, .bool has, .string s]]) Try.func18 body18 fun a ht hd => ?_
  show wpL Try.prog _ goL a w0
  have hat := AtX.start (P := Try.prog) (S := symG (extE o0 m x n fun k => (D k).cells) x n c m left s) (X := fun p => p = m) (n := Try.f18.ntmps) (vs0 := [HW.at_ 0, .agg #[HW.sy 3, .bool has, HW.sy 5]]) (fun g hg => by rw [noG] at hg; omega) (startG hs hr h1 hm hms hmx)
    (@VL.cons (symG (extE o0 m x n fun k => (D k).cells) x n c m left s) (rhoG sb x m) _ _ _ _ (@VR.ptr (symG (extE o0 m x n fun k => (D k).cells) x n c m left s) _ _ _ ⟨rfl, rfl, ⟨sb, 0, 2, 0, 2, true⟩, rfl, rfl, rfl⟩)
      (@VL.cons (symG (extE o0 m x n fun k => (D k).cells) x n c m left s) (rhoG sb x m) _ _ _ _ (@VR.agg (symG (extE o0 m x n fun k => (D k).cells) x n c m left s) _ _ #[u32 left, .bool has, .string s] (by
        refine @VL.cons (symG (extE o0 m x n fun k => (D k).cells) x n c m left s) _ _ _ _ _ (@VR.sym (symG (extE o0 m x n fun k => (D k).cells) x n c m left s) _ 3 _ rfl) ?_
        refine @VL.cons (symG (extE o0 m x n fun k => (D k).cells) x n c m left s) _ _ _ _ _ (@VR.leaf (symG (extE o0 m x n fun k => (D k).cells) x n c m left s) _ _ rfl) ?_
        exact @VL.cons (symG (extE o0 m x n fun k => (D k).cells) x n c m left s) _ _ _ _ _ (@VR.sym (symG (extE o0 m x n fun k => (D k).cells) x n c m left s) _ 5 _ rfl) (@VL.nil (symG (extE o0 m x n fun k => (D k).cells) x n c m left s) _)))
        (@VL.nil (symG (extE o0 m x n fun k => (D k).cells) x n c m left s) _))) ht hd
    (fun b o l hb hw hl => by
      rcases stG0_get hb with ⟨rfl, rfl⟩ | ⟨rfl, rfl⟩ | ⟨rfl, rfl⟩
      · cases hw
      · cases hw
      · have hl : some (⟨m, 0, 0, 0, 0, false⟩ : AS.Loc) = some l := hl
        simp only [Option.some.injEq] at hl
        subst hl; rfl)
  rw [nt18] at hat
  have hat : AtX Try.prog (symG (extE o0 m x n fun k => (D k).cells) x n c m left s) (fun p => p = m) w0.heap.size w0 stG0 (TM.of [HW.at_ 0, .agg #[HW.sy 3, .bool has, HW.sy 5]] 68 ok68).toL a w0 := by
    rw [@TM.of_toL mute _ _ _ (show 2 ≤ 68 by decide)]; exact hat
  generalize (symG (extE o0 m x n fun k => (D k).cells) x n c m left s) = S at hat hS hlook
  have hovS : ∀ b, overB D n left = b → ∀ f g, ovS2 b f = some g → @SimFn S Try.prog f g := by
    intro b hb f g h
    unfold ovS2 at h
    split at h
    · rename_i e
      have e := of_beq e
      simp only [Option.some.injEq] at h
      subst h e
      exact overS2_ok hS hRO hn hl hb
    · cases h
  have hovSk : ∀ b f g, ovS2 b f = some g → ∀ args σ v σ', g args σ = some (v, σ') → Kept σ σ' := by
    intro b f g h
    unfold ovS2 at h
    split at h
    · simp only [Option.some.injEq] at h
      subst h
      exact overS2_kept b
    · cases h
  have hO0 : @OrcOK S (orcN Try.prog 0 has [] []) Try.prog := orcN_ok hS 0 [] [] (fun f hf => by cases hf) (fun f hf => by cases hf) trivial
  cases hov : overB D n left with
  | true =>
    have hp := bools_all h_over has
    unfold phaseHo at hp
    split at hp
    case h_2 => cases hp
    rename_i t1 σ1 hrun
    split at hp
    case h_2 => cases hp
    rename_i t2 σ2 hrun2
    rw [goL_eq4]
    refine AtX.runL _ hO0 mixed26 (hovS true hov) (hovSk true) _ hrun hat fun a1 w1 hat1 => ?_
    refine AtX.run _ hO0 mixed26 (fun _ _ h => by cases h) (fun _ _ h => by cases h) hrun2 hat1 fun a3 w3 hat3 => ?_
    obtain ⟨p1, p2, p3⟩ := ans2_eq hp
    show bodyPost Try.prog Try.f18 (fun e w' => (∃ b, e = Ending.returned (Value.bool b) ∧ (b = true ↔ Lin D n left (has, s))) ∧ Turned2 (Memo n D) m w0 w') Exit.ret a3 w3
    exact hat3.done (.inr rfl) p1 fun ρ v' hv => ⟨⟨true, by rw [@VR.inv_leaf S ρ _ _ hv rfl], by simp [Lin.over hov]⟩, turned_of2 hS hRO hat3 p2 p3⟩
  | false =>
  cases dead with
  | true =>
    have hp := bools_all h_dead has
    unfold phaseHd at hp
    split at hp
    case h_2 => cases hp
    rename_i t1 σ1 hrun
    split at hp
    case h_2 => cases hp
    rename_i t2 σ2 hrun2
    split at hp
    case h_2 => cases hp
    rename_i t3 σ3 hrun3
    have hO : @OrcOK S (orcN Try.prog 2 has [] []) Try.prog := orcN_ok hS 2 [] [] (fun f hf => by cases hf) (fun f hf => by cases hf) hlook
    have hnot : ¬ Lin D n left (has, s) := by
      obtain ⟨E, clk, hE, e0, k1, k2, k3⟩ := hdead2 rfl
      exact hmemo.dead E clk hE e0 k1 left has s k2 k3
    rw [goL_eq2]
    refine AtX.runL _ hO mixed26 (hovS false hov) (hovSk false) _ hrun hat fun a1 w1 hat1 => ?_
    refine AtX.runL _ hO mixed26 (fun _ _ h => by cases h) (fun _ _ h => by cases h) _ hrun2 hat1 fun a2 w2 hat2 => ?_
    refine AtX.run _ hO mixed26 (fun _ _ h => by cases h) (fun _ _ h => by cases h) hrun3 hat2 fun a3 w3 hat3 => ?_
    obtain ⟨p1, p2, p3⟩ := ans2_eq hp
    show bodyPost Try.prog Try.f18 (fun e w' => (∃ b, e = Ending.returned (Value.bool b) ∧ (b = true ↔ Lin D n left (has, s))) ∧ Turned2 (Memo n D) m w0 w') Exit.ret a3 w3
    exact hat3.done (.inr rfl) p1 fun ρ v' hv => ⟨⟨false, by rw [@VR.inv_leaf S ρ _ _ hv rfl], by simp [hnot]⟩, turned_of2 hS hRO hat3 p2 p3⟩
  | false =>
    have hp := bools_all h_start has
    unfold phaseH0 at hp
    split at hp
    case h_2 => cases hp
    rename_i t1 σ1 hrun
    split at hp
    case h_2 => cases hp
    rename_i t2 σ2 hrun2
    have hO : @OrcOK S (orcN Try.prog 1 has [] []) Try.prog := orcN_ok hS 1 [] [] (fun f hf => by cases hf) (fun f hf => by cases hf) hlook
    rw [goL_eq3]
    refine AtX.runL _ hO mixed26 (hovS false hov) (hovSk false) _ hrun hat fun a1 w1 hat1 => ?_
    refine AtX.runL _ hO mixed26 (fun _ _ h => by cases h) (fun _ _ h => by cases h) _ hrun2 hat1 fun a2 w2 hat2 => ?_
    obtain ⟨hθ, hat3⟩ := hat2.restateW hp hS.pin rfl rfl rfl
    have hat4 := hat3.weaken (S' := { Sym.of S _ hθ with wins := [pinW], ext := extM (Memo n D) m x n fun k => (D k).cells }) (fun _ => rfl) (fun t o p h => hS.ext t o p h) rfl
    refine wp_block (@SimC.wp plainSym mute _ (mute_ok _) (.loop goB) _ _ _ ?_)
    refine go_loop2 (c := c) (s := s) hr hxB (fun e => hmx e.symm) hn hl hsz hvals ih0 ?_ ?_ n 0 _ a2 w2 (by omega) (by omega) (fun j hj => by omega) ?_ ?_ ?_ hat4
    · intro S σ t a3 w3 hS3 hL hat5 hp2
      obtain ⟨p1, p2, p3⟩ := ans2_eq hp2
      show bodyPost Try.prog Try.f18 (fun e w' => (∃ b, e = Ending.returned (Value.bool b) ∧ (b = true ↔ Lin D n left (has, s))) ∧ Turned2 (Memo n D) m w0 w') Exit.ret a3 w3
      exact hat5.done (.inr rfl) p1 fun ρ v' hv => ⟨⟨true, by rw [@VR.inv_leaf S ρ _ _ hv rfl], by simp [hL]⟩, turned_of2 hS3 hRO hat5 p2 p3⟩
    · intro hno S σ t a3 w3 hS3 h03 hat5 hp2
      have hnot : ¬ Lin D n left (has, s) := Lin.inv hov hno
      show wpL Try.prog (bodyPost Try.prog Try.f18 (fun e w' => (∃ b, e = Ending.returned (Value.bool b) ∧ (b = true ↔ Lin D n left (has, s))) ∧ Turned2 (Memo n D) m w0 w')) ((goL.drop 7).take 2 ++ [.ret]) a3 w3
      split at hp2
      case h_2 => cases hp2
      rename_i t3 σ3 hrun3
      have hO3 : @OrcOK S (orcN Try.prog 3 has [] []) Try.prog := by
        refine orcN_ok hS3 3 _ _ (fun f hf => by cases hf) (fun f hf => by cases hf) ?_
        intro w r ob h1 h2
        rcases hS3.ext _ _ _ h2 with ⟨_, rfl, hmg⟩ | ⟨e, _⟩
        · obtain ⟨ob', q1, q2⟩ := MemoOK.update law59 u51 h1 hmg hkey hnot
          exact ⟨ob', h03 _ q1, q2⟩
        · omega
      refine AtX.runL _ hO3 mixed26 (fun _ _ h => by cases h) (fun _ _ h => by cases h) _ hrun3 hat5 fun a4 w4 hat6 => ?_
      rw [wpL_one]
      refine wp_ret ?_
      obtain ⟨p1, p2, p3⟩ := ans2_eq hp2
      exact hat6.done (.inr rfl) p1 fun ρ v' hv => ⟨⟨false, by rw [@VR.inv_leaf S ρ _ _ hv rfl], by simp [hnot]⟩, turned_of2 hS3 hRO hat6 p2 p3⟩
    · exact ⟨⟨hS.so.l, hS.so.m, hS.so.left, hS.so.n⟩, hS.v, fun _ _ _ h => h, List.mem_cons_self ..⟩
    · intro o ho
      exact .inl ⟨rfl, rfl, ho⟩
    · rfl
end Go.Proofs.Ytbhjhffglcipbaa
namespace Go.Proofs.Ytbhjhffglcipbaa.AS
open Go
set_option linter.unusedSectionVars false
set_option linter.unusedVariables false
set_option linter.unusedSimpArgs false
/-! ## facts, lengths, windows, and conversions of whole numbers -/
structure Cnv where
  s : TypeId
  d : TypeId
  x : Value
  r : Value
def cnvB (v : Value) (s d : TypeId) (c : Cnv) : Bool := Nat.beq s c.s && (Nat.beq d c.d && same v c.x)
abbrev orcC (P : Program) (lens : List (Nat × Value)) (fs : List Fact) (cs : List Cnv) (ws : List Win) : Orc where
  orc o ev := match o.op with
    | .convert s d x => (cs.find? (cnvB (ev x) s d)).map (·.r)
    | _ => (orcL P lens fs).orc o ev
  wins := ws
structure CnvOK (P : Program) (S : Sym) (c : Cnv) : Prop where
  ex : ∃ ks kd n, P.underlying c.s = some (.int ks) ∧ P.underlying c.d = some (.int kd) ∧ conc S c.x = .int ks n ∧ conc S c.r = .int kd (kd.wrap n)
  leaf : leaf c.r = true ∨ isSym c.r = true
theorem orcC_ok {P : Program} (S : Sym) (lens : List (Nat × Value)) (fs : List Fact) (cs : List Cnv) (ws : List Win) (hl : ∀ x ∈ lens, LenOK S x) (h : ∀ f ∈ fs, FactOK P S f) (hc : ∀ c ∈ cs, CnvOK P S c) (hw : ∀ f ∈ ws, f ∈ S.wins) : @OrcOK S (orcC P lens fs cs ws) P := by
  have h0 := @orcL_ok P S lens fs hl h
  refine @OrcOK.mk S (orcC P lens fs cs ws) P hw (fun _ _ _ _ _ h => by cases h) (fun _ _ _ _ _ h => by cases h) ?_
  intro o ev v ho ρ ev' w hX
  replace ho : (match o.op with
    | .convert s d x => (cs.find? (cnvB (ev x) s d)).map (·.r)
    | _ => (orcL P lens fs).orc o ev) = some v := ho
  split at ho
  · rename_i s d x hop
    rw [Option.map_eq_some_iff] at ho
    obtain ⟨c, h1, rfl⟩ := ho
    have h2 := List.find?_some h1
    simp only [cnvB, Bool.and_eq_true] at h2
    obtain ⟨e1, e2, e3⟩ := h2
    have e1 := of_beq e1; have e2 := of_beq e2
    have k := hc c (List.mem_of_find?_eq_some h1)
    obtain ⟨ks, kd, n, u1, u2, k1, k2⟩ := k.ex
    have hx := conc_of e3 (hX x (by rw [hop]; simp [Op.operands]))
    rw [k1] at hx
    refine ⟨conc S c.r, ?_, conc_VR k.leaf⟩
    obtain ⟨dst, op, type, pos, after, guard⟩ := o
    subst hop
    rw [k2]
    subst e1 e2
    simp [execOp, convert, run_und w u1, run_und w u2, hx, Conv.intToInt, Result.andThen]
  · exact @OrcOK.ok S (orcL P lens fs) P h0 o ev v ho ρ ev' w hX
section
variable {P : Program} {w : World} {t : TypeId} {k : IntKind} {x y : Int}
theorem run_mul : (binOp .mul t (.int k x) (.int k y)).run P w = .ok (.int k (k.wrap (x * y))) w := by simp [binOp, Op.intArith]
theorem run_quo (hy : y ≠ 0) : (binOp .quo t (.int k x) (.int k y)).run P w = .ok (.int k (k.wrap (x.tdiv y))) w := by simp [binOp, Op.intDiv, hy]
theorem run_rem (hy : y ≠ 0) : (binOp .rem t (.int k x) (.int k y)).run P w = .ok (.int k (x.tmod y)) w := by simp [binOp, Op.intDiv, hy]
end
end Go.Proofs.Ytbhjhffglcipbaa.AS
namespace Go.Proofs.Ytbhjhffglcipbaa.HW
open Go Go.Proofs.Ytbhjhffglcipbaa.AS
/-! ## Made, computed -/
def nils : Value := .slice none 0 0
def emp : Value := .string ⟨#[]⟩
/-- a row: ten of its cells are symbols -/
def rowS (b : Nat) : List Value := [i64 0, i64 0, i64 0, i64 0, sy b, sy (b + 1), sy (b + 2), sy (b + 3), sy (b + 4), sy (b + 5), sy (b + 6), sy (b + 7), sy (b + 8), sy (b + 9), .complex .f64 0 0]
def outC : Nat → List Value
  | 0 => []
  | i + 1 => outC i ++ rowS (23 + 10 * i)
def stM (i : Nat) (has : Bool) : St :=
  let m0 := Tr.set (some (.blk [.bool has, sy 5] 0 false (some 47))) depth .leaf 0
  { next := 2, mark := 0, log := [], mem := match Nat.beq i 0 with | true => m0 | false => Tr.set (some (.blk (outC i) 15 false (some 40))) depth m0 1 }
def tmM (i : Nat) : List Value := slots 66 [(0, sy 1), (1, sy 2), (4, nils), (5, match Nat.beq i 0 with | true => nils | false => .slice (some ⟨1, 0, none⟩) i i), (6, at_ 0), (7, i64 i)]
theorem ok66 : 66 ≤ most := by unfold most; omega
def rowM (ho : Value) : List Value := [sy 11, sy 12, sy 13, sy 14, ho]
def stMr (i : Nat) (has : Bool) (ho : Value) : St := { next := 3, mark := 0, log := [], mem := Tr.set (some (.blk (rowM ho) 0 true none)) depth (stM i has).mem 2 }
def stMs (i : Nat) (has : Bool) (ho : Value) : St := { next := 4, mark := 0, log := [], mem := Tr.set (some (.blk [sy 16] 0 true none)) depth (stMr i has ho).mem 3 }
def lensM : List (Nat × Value) := [(1, sy 9), (2, sy 10)]
/-- what a call makes of a value: the value, its code, what it tells -/
def stepX {α : Type} (has : Bool) (kc : Nat) (mt : Bool) (v val e : α) : (Bool × α) × Int × (α × Bool) :=
  match kc with
  | 1 => if has then ((true, v), 0, (v, true)) else ((false, v), 1, (e, false))
  | 2 => ((true, val), 0, (e, false))
  | 3 => ((false, e), 0, (e, false))
  | _ => if mt then ((true, val), 0, (e, false)) else ((has, v), 2, (v, has))
def mtB (has ho eq : Bool) : Bool := (has && (ho && eq)) || (!has && !ho)
def kindF (kc : Nat) : List Fact := match kc with
  | 1 => [⟨.eql, 3, sy 11, i64 1, .bool true⟩]
  | 2 => [⟨.eql, 3, sy 11, i64 1, .bool false⟩, ⟨.eql, 3, sy 11, i64 2, .bool true⟩]
  | 3 => [⟨.eql, 3, sy 11, i64 1, .bool false⟩, ⟨.eql, 3, sy 11, i64 2, .bool false⟩, ⟨.eql, 3, sy 11, i64 3, .bool true⟩]
  | _ => [⟨.eql, 3, sy 11, i64 1, .bool false⟩, ⟨.eql, 3, sy 11, i64 2, .bool false⟩, ⟨.eql, 3, sy 11, i64 3, .bool false⟩]
def eqF (eq : Bool) : Fact := ⟨.eql, 9, sy 5, sy 14, .bool eq⟩
def atM (i : Nat) : Int := 100 + 10 * i
def spreadF (i : Nat) : List Fact := [⟨.rem, 3, sy 17, i64 40, sy 18⟩, ⟨.sub, 3, i64 (atM i), sy 18, sy 20⟩, ⟨.quo, 3, sy 17, i64 40, sy 19⟩, ⟨.mul, 3, sy 19, i64 10, sy 21⟩, ⟨.add, 3, i64 (atM i), sy 21, sy 22⟩]
def eqFs (kc : Nat) (has ho eq : Bool) : List Fact := match kc with
  | 4 => if has && ho then [eqF eq] else []
  | _ => []
def factsM (i kc : Nat) (has ho eq inr : Bool) : List Fact := ⟨.lss, 3, i64 i, sy 9, .bool true⟩ :: ⟨.lss, 3, i64 i, sy 10, .bool inr⟩ :: (kindF kc ++ (eqFs kc has ho eq ++ (if inr then spreadF i else [])))
def convM (inr : Bool) : List Cnv := if inr then [⟨5, 3, sy 16, sy 17⟩] else []
def winsM (i : Nat) (inr : Bool) : List Win := if inr then [⟨2, i64 i, 3, 1⟩, ⟨1, i64 i, 2, 5⟩] else [⟨1, i64 i, 2, 5⟩]
def newRow (ho frm to : Value) (code : Int) (told : Value) (has : Bool) : List Value := [sy 11, sy 12, sy 13, sy 14, ho, frm, to, i64 code, told, .bool has]
def thetaM (i : Nat) (v : Value) (row : List Value) : List Value := ((List.range 23).map sy).set 5 v ++ ((List.range (10 * i)).map (fun j => sy (23 + j)) ++ row)
/-- which block the calls' slice is in -/
def outAt (t : TM) : Option Nat := match t.toL.getD 5 undef with | .slice (some ⟨b, _, _⟩) _ _ => some b | _ => none
/-- the option's value: known, or a symbol -/
def hoV (kc : Nat) (ho : Bool) : Value := match kc with | 4 => .bool ho | _ => sy 15
def phaseM (P : Program) (code : List Code) (i kc : Nat) (has ho eq inr : Bool) : Bool :=
  match @runLT (orcC P lensM (factsM i kc has ho eq inr) (convM inr) (winsM i inr)) P ov0 600 code (TM.of (tmM i) 66 ok66) (if inr then stMs i has (hoV kc ho) else stMr i has (hoV kc ho)) with
  | some (t, σ) =>
    let r := stepX has kc (mtB has ho eq) (sy 5) (sy 13) emp
    stB P [some 0, outAt t] (thetaM i r.1.2 (newRow (hoV kc ho) (if inr then sy 20 else i64 (atM i)) (if inr then sy 22 else i64 (atM i)) r.2.1 r.2.2.1 r.2.2.2)) 8 (stM (i + 1) r.1.1) (tmM (i + 1)) σ t.toL
  | none => false
end Go.Proofs.Ytbhjhffglcipbaa.HW
namespace Go.Proofs.Ytbhjhffglcipbaa
open Go Go.Proofs.Ytbhjhffglcipbaa.AS Go.Proofs.Ytbhjhffglcipbaa.HW
set_option maxRecDepth 100000
noncomputable def maL : List Code := flatC (Try.f13.body.getD .skip)
noncomputable def maB : Code := match maL[4]? with | some (Code.block _ (Code.loop b)) => b | _ => .skip
noncomputable def maLb : List Code := flatC maB
/-- the ways of a call -/
def waysM : List (Nat × Bool × Bool × Bool) := [(1,true,true,true),(1,false,true,true),(2,true,true,true),(2,false,true,true),(3,true,true,true),(3,false,true,true),(4,true,true,true),(4,true,true,false),(4,true,false,true),(4,false,true,true),(4,false,false,true)]
def allM (P : Program) (code : List Code) (i : Nat) : Bool := waysM.all fun w => phaseM P code i w.1 w.2.1 w.2.2.1 w.2.2.2 false && phaseM P code i w.1 w.2.1 w.2.2.1 w.2.2.2 true
end Go.Proofs.Ytbhjhffglcipbaa
namespace Go.Proofs.Ytbhjhffglcipbaa.HW
open Go Go.Proofs.Ytbhjhffglcipbaa.AS
set_option linter.unusedVariables false
/-- a symbol's telling at a round: the call (11 to 15), the spread's byte and what it comes to (16 to 22) -/
def thetaT (i : Nat) (a0 a1 a2 a3 a4 b0 b1 b2 b3 b4 b5 b6 : Value) : List Value :=
  [i64 0, sy 1, sy 2, sy 3, sy 4, sy 5, sy 6, sy 7, sy 8, sy 9, sy 10, a0, a1, a2, a3, a4, b0, b1, b2, b3, b4, b5, b6] ++ (List.range (10 * i)).map fun j => sy (23 + j)
def stE : St := { next := 0, mark := 0, log := [], mem := .leaf }
def phaseM0 (P : Program) (code : List Code) : Bool :=
  match @runLT (orcC P lensM [] [] []) P ov0 600 code (TM.of [sy 1, sy 2] 66 ok66) stE with
  | some (t, σ) => stB P [some 0] (thetaM 0 emp []) 8 (stM 0 false) (tmM 0) σ t.toL
  | none => false
/-- the answer: nil, or i rows -/
def ansM (i : Nat) (v : Option Value) (σ : St) : Bool :=
  match v with
  | some (.slice none n c) => Nat.beq n 0 && (Nat.beq c 0 && Nat.beq i 0)
  | some (.slice (some ⟨b, o, none⟩) n c) => Nat.blt 0 i && Nat.beq o 0 && (Nat.beq n i && (Nat.beq c i && (match σ.get b with
    | some (.blk cs u false (some t)) => Nat.beq u 15 && (Nat.beq t 40 && listB same cs (outC i))
    | _ => false)))
  | _ => false
def phaseMe (P : Program) (fn : Func) (c1 c2 : Code) (rest : List Code) (i : Nat) (has : Bool) : Bool :=
  match @runLT (orcC P lensM [⟨.lss, 3, i64 i, sy 9, .bool false⟩] [] []) P ov0 600 [c1] (TM.of (tmM i) 66 ok66) (stM i has) with
  | some (t, σ) => (match @AS.runT (orcC P lensM [] [] []) P ov0 600 none c2 t σ with
    | some (.exit id, t, σ) => Nat.beq id 0 && (match @runLT (orcC P lensM [] [] []) P ov0 600 rest t σ with
      | some (t, σ) => ansM i (resultsT P fn σ t) σ
      | none => false)
    | _ => false)
  | none => false
end Go.Proofs.Ytbhjhffglcipbaa.HW
namespace Go.Proofs.Ytbhjhffglcipbaa
open Go Go.Proofs.Ytbhjhffglcipbaa.AS Go.Proofs.Ytbhjhffglcipbaa.HW
set_option maxRecDepth 100000
theorem m_start : phaseM0 Try.prog (maL.take 4) = true := by kernel_rfl
theorem m_end : ((List.range 11).all fun i => bools.all fun has => phaseMe Try.prog Try.f13 (maLb.getD 0 .skip) (maLb.getD 1 .skip) ((maL.drop 5).take 1) i has) = true := by kernel_rfl
theorem maL_eq : maL = maL.take 4 ++ ([.block 0 (.loop maB)] ++ ((maL.drop 5).take 1 ++ [.ret])) := by kernel_rfl
theorem maLb_eq1 : maLb = [maLb.getD 0 .skip] ++ (maLb.getD 1 .skip :: maLb.drop 2) := by kernel_rfl
section
variable {a0 a1 a2 a3 a4 b0 b1 b2 b3 b4 b5 b6 : Value} {has : Bool}
theorem tell0 : stB2 Try.prog [some 0, some 1] (thetaT 0 a0 a1 a2 a3 a4 b0 b1 b2 b3 b4 b5 b6) 8 (stM 0 has) (tmM 0) (stM 0 has) (tmM 0) = true := by cases has <;> kernel_rfl
theorem tell1 : stB2 Try.prog [some 0, some 1] (thetaT 1 a0 a1 a2 a3 a4 b0 b1 b2 b3 b4 b5 b6) 8 (stM 1 has) (tmM 1) (stM 1 has) (tmM 1) = true := by cases has <;> kernel_rfl
theorem tell2 : stB2 Try.prog [some 0, some 1] (thetaT 2 a0 a1 a2 a3 a4 b0 b1 b2 b3 b4 b5 b6) 8 (stM 2 has) (tmM 2) (stM 2 has) (tmM 2) = true := by cases has <;> kernel_rfl
theorem tell3 : stB2 Try.prog [some 0, some 1] (thetaT 3 a0 a1 a2 a3 a4 b0 b1 b2 b3 b4 b5 b6) 8 (stM 3 has) (tmM 3) (stM 3 has) (tmM 3) = true := by cases has <;> kernel_rfl
theorem tell4 : stB2 Try.prog [some 0, some 1] (thetaT 4 a0 a1 a2 a3 a4 b0 b1 b2 b3 b4 b5 b6) 8 (stM 4 has) (tmM 4) (stM 4 has) (tmM 4) = true := by cases has <;> kernel_rfl
theorem tell5 : stB2 Try.prog [some 0, some 1] (thetaT 5 a0 a1 a2 a3 a4 b0 b1 b2 b3 b4 b5 b6) 8 (stM 5 has) (tmM 5) (stM 5 has) (tmM 5) = true := by cases has <;> kernel_rfl
theorem tell6 : stB2 Try.prog [some 0, some 1] (thetaT 6 a0 a1 a2 a3 a4 b0 b1 b2 b3 b4 b5 b6) 8 (stM 6 has) (tmM 6) (stM 6 has) (tmM 6) = true := by cases has <;> kernel_rfl
theorem tell7 : stB2 Try.prog [some 0, some 1] (thetaT 7 a0 a1 a2 a3 a4 b0 b1 b2 b3 b4 b5 b6) 8 (stM 7 has) (tmM 7) (stM 7 has) (tmM 7) = true := by cases has <;> kernel_rfl
theorem tell8 : stB2 Try.prog [some 0, some 1] (thetaT 8 a0 a1 a2 a3 a4 b0 b1 b2 b3 b4 b5 b6) 8 (stM 8 has) (tmM 8) (stM 8 has) (tmM 8) = true := by cases has <;> kernel_rfl
theorem tell9 : stB2 Try.prog [some 0, some 1] (thetaT 9 a0 a1 a2 a3 a4 b0 b1 b2 b3 b4 b5 b6) 8 (stM 9 has) (tmM 9) (stM 9 has) (tmM 9) = true := by cases has <;> kernel_rfl
theorem tellM {i : Nat} (hi : i < 10) : stB2 Try.prog [some 0, some 1] (thetaT i a0 a1 a2 a3 a4 b0 b1 b2 b3 b4 b5 b6) 8 (stM i has) (tmM i) (stM i has) (tmM i) = true := by
  match i, hi with
  | 0, _ => exact tell0
  | 1, _ => exact tell1
  | 2, _ => exact tell2
  | 3, _ => exact tell3
  | 4, _ => exact tell4
  | 5, _ => exact tell5
  | 6, _ => exact tell6
  | 7, _ => exact tell7
  | 8, _ => exact tell8
  | 9, _ => exact tell9
end
end Go.Proofs.Ytbhjhffglcipbaa
