import Derived.Test.YtkghejleififiaaAsOps3
namespace Go.Proofs.Ytkghejleififiaa.AS
open Go
set_option linter.unusedSectionVars false
variable [Sym]
set_option linter.unusedVariables false
set_option linter.unusedSimpArgs false

section ops
variable {P : Program} {ρ : Rho} {σ : St} {w : World}

theorem copy_sim (hr : HR ρ σ w) {argTypes : Array TypeId} {args args' : Array Value} {v : Value} {σ' : St} (ty : TypeId) (ha : VL ρ args.toList args'.toList) (h : copyV P σ argTypes args = some (v, σ')) :
    ValR P ρ σ w (Builtin.copy_ argTypes ty args') v σ' := by
  unfold copyV at h
  simp only [bind, Option.bind_eq_some_iff, want] at h
  obtain ⟨dT, h0, d, a0, x, a1, e, he, size, hs, k, hk, h⟩ := h
  obtain ⟨d', a0', hvd⟩ := ha.get (i := 0) (by simpa using a0)
  obtain ⟨x', a1', hvx⟩ := ha.get (i := 1) (by simpa using a1)
  have a0' : args'[0]? = some d' := by simpa using a0'
  have a1' : args'[1]? = some x' := by simpa using a1'
  obtain ⟨hm1, hm2⟩ := len_sim (P := P) (w := w) hvx hk
  split at h
  · rename_i base n c
    simp only [bind, Option.bind_eq_some_iff, pure, Option.some.injEq] at h
    obtain ⟨cells, hc, σ1, hin, h⟩ := h
    simp only [Prod.mk.injEq] at h
    obtain ⟨rfl, rfl⟩ := h
    have hnm : ∀ a m' c, x = .slice a m' c → Nat.min k n ≤ m' := by
      intro a m' c e
      have : k = m' := by
        rcases hm2 with ⟨a2, c2, e2⟩ | ⟨s2, e2, _⟩
        · rw [e] at e2; cases e2; rfl
        · rw [e] at e2; cases e2
      rw [← this]; exact Nat.min_le_left _ _
    obtain ⟨cells', n1, n2⟩ := src_sim (P := P) (w := w) hr hvx hnm hc
    have hne : n = 0 → c = 0 → cells = [] := by
      intro e1 _
      have hm0 : Nat.min k n = 0 := by subst e1; exact Nat.min_zero _
      rw [hm0] at hc
      unfold srcCells at hc
      split at hc
      · split at hc
        · simp only [pure, Option.some.injEq] at hc; exact hc.symm
        · rename_i hb; exact absurd (beq_t (Nat.zero_mul size)) hb
      · simp only [pure, Option.some.injEq] at hc; exact hc.symm
      · simp only [pure, Option.some.injEq, List.take_zero, List.map_nil] at hc; exact hc.symm
      · simp [bad] at hc
    obtain ⟨base', c', w', rfl, hcc, k1, k2, k3⟩ := inPlace_sim (P := P) hr hvd n1 hne hin
    refine ⟨ρ, w', .int .i64 (Nat.min k n), k2, k1, ?_, .leaf rfl⟩
    simp only [Builtin.copy_, h0, a0', a1', Sem.run_bind, run_und w (elem_eq he), Result.andThen_ok, hm1, run_size w hs, n2]
    cases base' with
    | none =>
      simp only [Sem.run_pure, Result.ok.injEq, true_and] at k3
      subst k3
      simp [goInt]
    | some a =>
      simp only at k3
      have e0 : a.add 0 = a := by simp [Addr.add]
      rw [e0] at k3
      simp [k3, goInt]
  · simp [bad] at h

theorem clear_sim (hr : HR ρ σ w) {argTypes : Array TypeId} {args args' : Array Value} {v : Value} {σ' : St} (ty : TypeId) (ha : VL ρ args.toList args'.toList) (h : clearV P σ argTypes args = some (v, σ')) :
    ValR P ρ σ w (Builtin.clear_ argTypes ty args') v σ' := by
  unfold clearV at h
  simp only [bind, Option.bind_eq_some_iff, want] at h
  obtain ⟨dT, h0, d, a0, e, he, z, hz, h⟩ := h
  obtain ⟨d', a0', hvd⟩ := ha.get (i := 0) (by simpa using a0)
  have a0' : args'[0]? = some d' := by simpa using a0'
  obtain ⟨z1, z2, _⟩ := zero_eq w hz
  split at h
  · rename_i base n c
    simp only [bind, Option.bind_eq_some_iff, pure, Option.some.injEq] at h
    obtain ⟨σ1, hin, h⟩ := h
    simp only [Prod.mk.injEq] at h
    obtain ⟨rfl, rfl⟩ := h
    obtain ⟨base', c', w', rfl, hcc, k1, k2, k3⟩ := inPlace_sim (P := P) hr hvd (VL.of_leaf (repeatL_leaf z2 n)) (fun e _ => by subst e; rfl) hin
    refine ⟨ρ, w', .tuple #[], k2, k1, ?_, .tuple .nil⟩
    cases base' with
    | none =>
      simp only [Sem.run_pure, Result.ok.injEq, true_and] at k3
      subst k3
      simp [Builtin.clear_, h0, a0', run_und w (elem_eq he)]
    | some a =>
      simp only at k3
      have e0 : a.add 0 = a := by simp [Addr.add]
      rw [e0] at k3
      cases n with
      | zero =>
        simp only [repeatL, storeCells, Sem.run_pure, Result.ok.injEq, true_and] at k3
        subst k3
        simp [Builtin.clear_, h0, a0', run_und w (elem_eq he)]
      | succ n =>
        have e1 : (Builtin.zeroCells z.cells (n + 1)).toList = repeatL z.cells.toList (n + 1) := zeroCells_eq _ _
        simp only [Builtin.clear_, h0, a0', Sem.run_bind, run_und w (elem_eq he), Result.andThen_ok, z1, e1, k3, Sem.run_pure]
  · simp [bad] at h

theorem bytesOf_eq : ∀ {cs : List Value} {l : List UInt8}, bytesOf cs = some l → ∃ ns : List Int, cs = ns.map (Value.int .u8) ∧ l = ns.map fun n => UInt8.ofNat n.toNat := by
  intro cs
  induction cs with
  | nil => intro l h; simp only [bytesOf, pure, Option.some.injEq] at h; subst h; exact ⟨[], rfl, rfl⟩
  | cons c cs ih =>
    intro l h
    unfold bytesOf at h
    split at h
    · rename_i hq; cases hq
    · rename_i n r hq
      cases hq
      simp only [bind, Option.bind_eq_some_iff, pure, Option.some.injEq] at h
      obtain ⟨l', h1, rfl⟩ := h
      obtain ⟨ns, rfl, rfl⟩ := ih h1
      exact ⟨n :: ns, rfl, rfl⟩
    · simp [bad] at h

theorem push_fold (ns : List Int) : ∀ (s : ByteArray), ns.foldl (fun r n => r.push (UInt8.ofNat n.toNat)) s = ⟨s.data ++ (ns.map fun n => UInt8.ofNat n.toNat).toArray⟩ := by
  induction ns with
  | nil => intro s; simp
  | cons n ns ih =>
    intro s
    simp only [List.foldl_cons, ih, List.map_cons]
    congr 1
    apply Array.toList_inj.1
    simp [ByteArray.push]

theorem strBytes_sim (hr : HR ρ σ w) {src dst e b : Nat} {s : ByteArray} {σ' : St} (hs : P.underlying src = some .string) (hd : P.underlying dst = some (.slice e)) (he : P.underlying e = some (.int .u8))
    (hn : σ.new (.blk (s.data.toList.map fun b => .int .u8 b.toNat) 1 false) = some (b, σ')) : ValR P ρ σ w (convert src dst (.string s)) (.slice (some ⟨b, 0, none⟩) s.size s.size) σ' := by
  let cs : List Value := s.data.toList.map fun b => .int .u8 b.toNat
  have hlen : cs.length = s.size := by simp [cs]
  have hcap : s.size ≤ grownCap w s.size 0 e := by unfold grownCap; simp only [Question.cut]; omega
  have hsz : (Lib.bytesCells w e s).size = grownCap w s.size 0 e := by simp [Lib.bytesCells]; omega
  let l : Loc := ⟨w.heap.size, 0, grownCap w s.size 0 e, 1, s.size, false⟩
  have hleaf : ∀ {ρ' : Rho}, VL ρ' cs cs := VL.map_leaf _ _ (fun _ _ => rfl)
  obtain ⟨k1, k2, k3⟩ := hr.new' (l := l) (w' := Lib.bytesWorld w e s) hn (Nat.le_refl _) (by rw [Lib.bytesWorld_size]; omega) (fun p hp => Lib.bytesWorld_at_old w e s p hp)
    (by simp only [Lib.bytesWorld, World.freeze]; split <;> rfl) (by simp only [Lib.bytesWorld, World.freeze]; split <;> rfl) (by simp only [Lib.bytesWorld, World.freeze]; split <;> rfl)
    ⟨rfl, rfl, hlen.symm, by show cs.length ≤ _; rw [hlen]; exact hcap, Lib.bytesCells w e s, e, _, Lib.bytesWorld_at_new w e s, by simp only [l]; omega, fun _ i hi => by
      have : i < (Lib.bytesCells w e s).size := by rw [hsz]; exact hi
      simp only [l, Nat.zero_add, Bool.and_eq_false_iff, decide_eq_false_iff_not]; left; omega,
      fun i v hi => ⟨v, by
        have hi' : i < s.size := by rw [← hlen]; exact (List.getElem?_eq_some_iff.1 hi).1
        have hi2 : i < s.data.size := hi'
        simp only [l, Nat.zero_add, Lib.bytesCells]
        rw [Array.getElem?_append_left (by simpa using hi')]
        simpa using hi, by
        obtain ⟨v', r1, r2⟩ := (hleaf (ρ' := ρ.put b l)).get hi
        rw [hi] at r1; cases r1; exact r2⟩⟩
  refine ⟨_, _, _, k2, k1, Lib.run_convert_string_bytes (P := P) w src dst e s hs hd he, ?_⟩
  refine .slice ⟨rfl, rfl, l, Rho.put_self _ _ _, rfl, by simp [l]⟩ (.inr ⟨l, Rho.put_self _ _ _, hcap, .inr ⟨by simp [l], by simp [l], by simp [l]⟩⟩)

theorem bytesStr_sim (hr : HR ρ σ w) {src dst e b off n c : Nat} {x' : Value} {l : List UInt8} {cs : List Value} (hs : P.underlying src = some (.slice e)) (hd : P.underlying dst = some .string) (he : P.underlying e = some (.int .u8))
    (hx : VR ρ (.slice (some ⟨b, off, none⟩) n c) x') (hc : strCells σ b off n = some cs) (hl : bytesOf cs = some l) :
    (convert src dst x').run P w = .ok (.string ⟨l.toArray⟩) w := by
  obtain ⟨a', c', rfl, hva⟩ := hx.inv_slice
  rw [run_convert_bytes_string w src dst e _ _ _ hs he hd]
  have key : ∃ ns : List Int, (loadCells a' n).run P w = .ok (ns.map (Value.int .u8)).toArray w ∧ l = ns.map fun n => UInt8.ofNat n.toNat := by
    unfold strCells at hc
    split at hc
    · rename_i h0
      have h0 := of_beq h0
      simp only [pure, Option.some.injEq] at hc; subst hc
      simp only [bytesOf, pure, Option.some.injEq] at hl; subst hl
      exact ⟨[], by subst h0; simp [loadCells, loadCellsFrom], rfl⟩
    · rename_i h0
      rcases hva with ⟨hva, _⟩ | ⟨e1, _⟩
      · obtain ⟨l', k1, k2, k3⟩ := hr.loadCells P hva hc
        obtain ⟨ns, rfl, rfl⟩ := bytesOf_eq hl
        have : l' = ns.map (Value.int .u8) := k1.leaf_eq (by simp [List.all_map, AS.leaf, Function.comp_def])
        subst this
        exact ⟨ns, k3, rfl⟩
      · exact absurd (beq_t e1) h0
  obtain ⟨ns, h1, rfl⟩ := key
  rw [run_bytesToString w a' n c' ns h1, push_fold]
  have e : ByteArray.empty.data = #[] := rfl
  rw [e]; simp

end ops
end Go.Proofs.Ytkghejleififiaa.AS
