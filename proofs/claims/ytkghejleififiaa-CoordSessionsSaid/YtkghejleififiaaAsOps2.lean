import Derived.Test.YtkghejleififiaaAsOps
import Derived.Lib.ConvBytes
import Derived.Laws.BytesString
namespace Go.Proofs.Ytkghejleififiaa.AS
open Go
set_option linter.unusedSectionVars false
variable [Sym]
set_option linter.unusedVariables false
set_option linter.unusedSimpArgs false

section ops
variable {P : Program} {ρ : Rho} {σ : St} {w : World}

/-! ## slicing -/
theorem bound_eq {x : Value} {y n : Nat} (h : bound x y = some n) : ∃ k i, x = .int k i ∧ 0 ≤ i ∧ i ≤ (y : Int) ∧ n = i.toNat := by
  unfold bound at h
  split at h
  · rename_i k i
    split at h
    · rename_i hb
      simp only [pure, Option.some.injEq] at h
      simp only [Bool.and_eq_true, decide_eq_true_eq] at hb
      exact ⟨k, i, rfl, hb.1, hb.2, h.symm⟩
    · simp [bad] at h
  · simp [bad] at h

theorem run_bound {x x' : Value} {y y' n : Nat} (code : BoundsCode) (hx : VR ρ x x') (h : bound x y = some n) (hy : y ≤ y') :
    (Instr.sliceBound x' y' code).run P w = .ok n w ∧ n ≤ y := by
  obtain ⟨k, i, rfl, h0, h1, rfl⟩ := bound_eq h
  have := hx.inv_leaf rfl; subst this
  have h2 : i ≤ (y' : Int) := by omega
  exact ⟨by simp [Instr.sliceBound, asIntOf, h0, h2], by omega⟩

/-- relation of options of operands -/
def OR (ρ : Rho) : Option Value → Option Value → Prop
  | none, none => True
  | some v, some v' => VR ρ v v'
  | _, _ => False

theorem cutOK_unit {b size : Nat} (hr : HR ρ σ w) (h : cutOK σ b size = true) {l : Loc} (hl : ρ b = some l) : l.loose = true ∨ l.unit = 0 ∨ l.unit = size := by
  unfold cutOK at h
  split at h
  · rename_i cs u ro hg
    obtain ⟨q1, q2, _⟩ := hr.ob b _ l hg hl
    simp only [Bool.or_eq_true] at h
    rcases h with (h | h) | h
    · exact .inl (q2.trans h)
    · exact .inr (.inl (q1.trans (of_beq h)))
    · exact .inr (.inr (q1.trans (of_beq h)))
  · cases h

/-- the bounds of a cut, as the model works them out -/
theorem bounds_sim {is : Bool} {n c c' : Nat} {lo hi mx lo' hi' mx' : Option Value} {m q l : Nat} (hcc : c ≤ c') (hlo : OR ρ lo lo') (hhi : OR ρ hi hi') (hmx : OR ρ mx mx')
    (hm : boundO mx c c = some m) (hq : boundO hi m n = some q) (hl : boundO lo q 0 = some l) (hmh : (mx.isNone || hi.isSome) = true) :
    ∃ m', (Instr.sliceBounds is n c' lo' hi' mx').run P w = .ok (l, q, m') w ∧ (m = c ∧ m' = c' ∨ m' = m ∧ m ≤ c) := by
  have low : (lo' = none ∧ l = 0) ∨ ∃ v, lo' = some v ∧ ∀ code, (Instr.sliceBound v q code).run P w = .ok l w := by
    cases lo with
    | none => cases lo' with | some _ => exact hlo.elim | none => simp only [boundO, pure, Option.some.injEq] at hl; exact .inl ⟨rfl, hl.symm⟩
    | some lv => cases lo' with | none => exact hlo.elim | some lv' => exact .inr ⟨lv', rfl, fun code => (run_bound (P := P) (w := w) code hlo hl (Nat.le_refl _)).1⟩
  cases mx with
  | none =>
    cases mx' with
    | some _ => exact hmx.elim
    | none =>
      simp only [boundO, pure, Option.some.injEq] at hm; subst hm
      refine ⟨c', ?_, .inl ⟨rfl, rfl⟩⟩
      cases hi with
      | none =>
        cases hi' with
        | some _ => exact hhi.elim
        | none =>
          simp only [boundO, pure, Option.some.injEq] at hq; subst hq
          rcases low with ⟨rfl, rfl⟩ | ⟨v, rfl, hv⟩ <;> simp [Instr.sliceBounds, *]
      | some hv =>
        cases hi' with
        | none => exact hhi.elim
        | some hv' =>
          have e := fun code => (run_bound (P := P) (w := w) code hhi hq hcc).1
          rcases low with ⟨rfl, rfl⟩ | ⟨v, rfl, hv⟩ <;> cases is <;> simp [Instr.sliceBounds, e, *]
  | some mv =>
    cases mx' with
    | none => exact hmx.elim
    | some mv' =>
      have em := fun code => (run_bound (P := P) (w := w) code hmx hm hcc).1
      refine ⟨m, ?_, .inr ⟨rfl, (run_bound (P := P) (w := w) .index hmx hm hcc).2⟩⟩
      cases hi with
      | none => simp at hmh
      | some hv =>
        cases hi' with
        | none => exact hhi.elim
        | some hv' =>
          have e := fun code => (run_bound (P := P) (w := w) code hhi hq (Nat.le_refl _)).1
          rcases low with ⟨rfl, rfl⟩ | ⟨v, rfl, hv⟩ <;> cases is <;> simp [Instr.sliceBounds, e, em, *]

theorem slice_sim (hr : HR ρ σ w) {t : TypeId} {x x' v : Value} {lo hi mx lo' hi' mx' : Option Value} (hx : VR ρ x x') (hlo : OR ρ lo lo') (hhi : OR ρ hi hi') (hmx : OR ρ mx mx')
    (h : sliceV P σ t x lo hi mx = some v) : ∃ v', (Instr.sliceAt t x' lo' hi' mx').run P w = .ok v' w ∧ VR ρ v v' := by
  unfold sliceV at h
  split at h
  · -- a slice
    rename_i e a n c hu
    simp only [bind, Option.bind_eq_some_iff] at h
    obtain ⟨m, hm, q, hq, l, hl, size, hs, h⟩ := h
    split at h
    · rename_i hb
      simp only [Bool.and_eq_true] at hb
      have b1 := of_ble hb.1.1
      have b2 := of_ble hb.1.2
      have hmh := hb.2
      cases a with
      | none =>
        simp only [pure, Option.some.injEq] at h; subst h
        have := hx.inv_leaf rfl; subst this
        obtain ⟨m', hrun, hmm⟩ := bounds_sim (P := P) (w := w) (is := true) (Nat.le_refl c) hlo hhi hmx hm hq hl hmh
        have : m' = m := by rcases hmm with ⟨h1, h2⟩ | ⟨h1, _⟩ <;> omega
        subst this
        refine ⟨.slice none (q - l) (m' - l), ?_, .leaf rfl⟩
        simp [Instr.sliceAt, run_und w hu, Instr.slice, hrun, run_size w hs]
      | some a =>
        simp only at h
        split at h
        · rename_i hcut
          simp only [pure, Option.some.injEq] at h; subst h
          obtain ⟨a', c', rfl, hva⟩ := hx.inv_slice
          have hcc : c ≤ c' := by
            rcases hva with ⟨_, hc⟩ | ⟨_, hc, _⟩
            · rcases hc with hc | ⟨_, _, hc, _⟩ <;> omega
            · omega
          obtain ⟨m', hrun, hmm⟩ := bounds_sim (P := P) (w := w) (is := true) (n := n) hcc hlo hhi hmx hm hq hl hmh
          have hml : m ≤ m' := by rcases hmm with ⟨h1, h2⟩ | ⟨h1, _⟩ <;> omega
          refine ⟨.slice (some (if m' = l then a' else a'.add (l * size))) (q - l) (m' - l), ?_, ?_⟩
          · simp only [Instr.sliceAt, Sem.run_bind, run_und w hu, Result.andThen_ok, Instr.slice, hrun, run_size w hs, Sem.run_pure, Option.map_some]
            split <;> rfl
          · by_cases e : m' = l
            · have e1 : q - l = 0 := by omega
              have e2 : m - l = 0 := by omega
              have e3 : m' - l = 0 := by omega
              have hex : ∃ l, ρ a.block = some l := by
                rcases hva with ⟨hva, _⟩ | ⟨_, _, _, h⟩
                · obtain ⟨l, h, _⟩ := hva.at_; exact ⟨l, h⟩
                · exact h
              rw [e1, e2, e3]; exact .empty hex
            · rw [if_neg e]
              rcases hva with ⟨hva, hc⟩ | ⟨hn0, hc0, hc0', _⟩
              · refine .slice (addA_add hva _) ?_
                rcases hmm with ⟨h1, h2⟩ | ⟨h1, h2⟩
                · subst h1 h2
                  rcases hc with hc | ⟨lc, k1, k2, k3⟩
                  · exact .inl (by omega)
                  · right
                    refine ⟨lc, k1, by omega, ?_⟩
                    rcases k3 with k3 | ⟨k3, k4, k5⟩
                    · exact .inl k3
                    · rcases cutOK_unit hr hcut k1 with c1 | c1 | c1
                      · exact .inl c1
                      · omega
                      · right
                        have q1 : l * lc.unit ≤ m * lc.unit := Nat.mul_le_mul_right _ (by omega)
                        have q2 : l * lc.unit ≤ m' * lc.unit := Nat.mul_le_mul_right _ (by omega)
                        refine ⟨k3, ?_, ?_⟩ <;> simp only [addA] <;> rw [Nat.sub_mul, ← c1] <;> omega
                · exact .inl (by omega)
              · exfalso
                rcases hmm with ⟨h1, h2⟩ | ⟨h1, h2⟩ <;> omega
        · simp [bad] at h
    · simp [bad] at h
  · -- an array behind a pointer
    rename_i n e a hu
    simp only [bind, Option.bind_eq_some_iff] at h
    obtain ⟨q, hq, l, hl, size, hs, h⟩ := h
    split at h
    · rename_i hnone
      simp only [pure, Option.some.injEq] at h; subst h
      obtain ⟨a', rfl, hva⟩ := hx.inv_ptr
      cases mx with
      | some _ => simp at hnone
      | none =>
        cases mx' with
        | some _ => exact hmx.elim
        | none =>
          obtain ⟨m', hrun, hmm⟩ := bounds_sim (P := P) (w := w) (is := false) (n := n) (c := n) (m := n) (Nat.le_refl n) hlo hhi (mx := none) (mx' := none) trivial rfl hq hl rfl
          have : m' = n := by rcases hmm with ⟨h1, h2⟩ | ⟨h1, _⟩ <;> omega
          subst this
          have hqn : q ≤ m' := by
            cases hi with
            | none => simp only [boundO, pure, Option.some.injEq] at hq; omega
            | some hv => obtain ⟨_, _, _, _, _, rfl⟩ := bound_eq hq; omega
          have hlq : l ≤ q := by
            cases lo with
            | none => simp only [boundO, pure, Option.some.injEq] at hl; omega
            | some hv => obtain ⟨_, _, _, _, _, rfl⟩ := bound_eq hl; omega
          refine ⟨.slice (some (if m' = l then a' else a'.add (l * size))) (q - l) (m' - l), ?_, ?_⟩
          · simp only [Instr.sliceAt, Sem.run_bind, run_und w hu, Result.andThen_ok, Instr.sureAddr, Sem.run_pure, hrun, run_size w hs]
          · by_cases e : m' = l
            · have e1 : q - l = 0 := by omega
              have e2 : m' - l = 0 := by omega
              rw [e1, e2]; exact .empty (let ⟨l, h, _⟩ := hva.at_; ⟨l, h⟩)
            · rw [if_neg e]; exact .slice (addA_add hva _) (.inl rfl)
    · simp [bad] at h
  · simp [bad] at h

/-! ## rows of zeros -/
theorem repeatL_length (z : List Value) (n : Nat) : (repeatL z n).length = n * z.length := by
  induction n with
  | zero => simp [repeatL]
  | succ n ih => simp [repeatL, ih, Nat.succ_mul]; omega
theorem repeatL_leaf {z : List Value} (h : z.all leaf = true) (n : Nat) : (repeatL z n).all leaf = true := by
  induction n with
  | zero => rfl
  | succ n ih => simp only [repeatL, List.all_append, h, ih, Bool.and_self]
theorem repeatL_get (z : List Value) (n i : Nat) : (repeatL z n)[i]? = if i < n * z.length then z[i % z.length]? else none := by
  induction n generalizing i with
  | zero => simp [repeatL]
  | succ n ih =>
    have e : (n + 1) * z.length = n * z.length + z.length := by rw [Nat.add_mul, Nat.one_mul]
    simp only [repeatL, List.getElem?_append]
    by_cases h : i < z.length
    · rw [if_pos h, if_pos (by omega), Nat.mod_eq_of_lt h]
    · rw [if_neg h, ih]
      by_cases h2 : i < (n + 1) * z.length
      · rw [if_pos h2, if_pos (by omega)]
        show z[(i - z.length) % z.length]? = z[i % z.length]?
        rw [Nat.mod_eq_sub_mod (a := i) (by omega)]
      · rw [if_neg h2, if_neg (by omega)]
theorem repeat_eq (z : Array Value) (n size : Nat) (hs : z.size = size) : ((Array.range (n * size)).map (fun i => z[i % z.size]!)).toList = repeatL z.toList n := by
  apply List.ext_getElem?
  intro i
  rw [repeatL_get]
  rw [Array.getElem?_toList, Array.getElem?_map, Array.length_toList, Array.getElem?_toList, hs]
  by_cases h : i < n * size
  · rw [if_pos h]
    have hpos : 0 < size := by
      rcases Nat.eq_zero_or_pos size with e | e
      · subst e; simp at h
      · exact e
    have hm : i % size < z.size := by rw [hs]; exact Nat.mod_lt _ hpos
    rw [Array.getElem?_eq_getElem (by simpa using h), Option.map_some, Array.getElem_range, getElem!_pos z (i % size) hm, Array.getElem?_eq_getElem hm]
  · rw [if_neg h, Array.getElem?_eq_none_iff.2 (by simpa using h)]
    rfl

theorem buildS_sim (hr : HR ρ σ w) {t : TypeId} {len : Nat} {ps ps' : List (Nat × Value)} {v : Value} {σ' : St} (hp : PL ρ ps ps') (h : buildS P σ t len ps = some (v, σ')) :
    ValR P ρ σ w (Instr.buildSlice t len ps'.toArray) v σ' := by
  unfold buildS at h
  simp only [bind, Option.bind_eq_some_iff] at h
  obtain ⟨e, he, size, hs, h⟩ := h
  split at h
  · rename_i hb
    have hb := of_ble hb
    simp only [bind, Option.bind_eq_some_iff, pure, Option.some.injEq, want] at h
    obtain ⟨z, hz, cells, hf, ⟨b, σ1⟩, hnew, h⟩ := h
    simp only [Prod.mk.injEq] at h
    obtain ⟨rfl, rfl⟩ := h
    obtain ⟨z1, z2, _⟩ := zero_eq w hz
    have hzs := zero_size hz hs
    have hrep : VL ρ (repeatL z.cells.toList len) (repeatL z.cells.toList len) := VL.of_leaf (repeatL_leaf z2 len)
    obtain ⟨cells', k1, k2⟩ := fill_sim (ρ := ρ) (fun i => some (i * size, size)) ps ps' (repeatL z.cells.toList len).toArray (repeatL z.cells.toList len).toArray cells hp (by simpa using hrep) hf
    obtain ⟨ρ', r1, r2, r3⟩ := hr.newBlk (rest := []) e hnew k2
    simp only [List.append_nil, Array.toArray_toList] at r1 r2
    have hlen : len * size ≤ 16777216 := hb
    have hnot : ¬ (len * size > 2 ^ 24) := by omega
    refine ⟨ρ', _, .slice (some ⟨w.heap.size, 0, none⟩) len len, r2, r1, ?_, .slice ⟨rfl, rfl, _, r3, rfl, by simp⟩ (.inl rfl)⟩
    by_cases h0 : len * size = 0
    · have e0 : (repeatL z.cells.toList len) = [] := by
        apply List.eq_nil_of_length_eq_zero
        rw [repeatL_length]; simp [hzs, h0]
      have harr : ((Array.range (len * size)).map (fun i => (#[] : Array Value)[i % (#[] : Array Value).size]!)) = (repeatL z.cells.toList len).toArray := by
        rw [h0, e0]; simp
      simp only [Instr.buildSlice, Sem.run_bind, run_und w (elem_eq he), Result.andThen_ok, run_size w hs, if_neg hnot, if_pos h0, Sem.run_pure, harr, k1, newRow, run_newObj]
      rfl
    · have harr : ((Array.range (len * size)).map (fun i => z.cells[i % z.cells.size]!)) = (repeatL z.cells.toList len).toArray := by
        apply Array.toList_inj.1; exact repeat_eq z.cells len size hzs
      simp only [Instr.buildSlice, Sem.run_bind, run_und w (elem_eq he), Result.andThen_ok, run_size w hs, if_neg hnot, if_neg h0, Sem.run_pure, z1, harr, k1, newRow, run_newObj]
      rfl
  · simp [bad] at h

theorem wrap64_small {n : Int} (h0 : 0 ≤ n) (h1 : n ≤ 1000000000) : IntKind.i64.wrap n = n := by
  unfold IntKind.wrap
  simp [IntKind.signed, IntKind.bits]
  omega

theorem makeS_sim (hr : HR ρ σ w) {t : TypeId} {l c l' c' : Value} {v : Value} {σ' : St} (hl : VR ρ l l') (hc : VR ρ c c') (h : makeS P σ t l c = some (v, σ')) :
    ValR P ρ σ w (Instr.makeSlice t l' c') v σ' := by
  unfold makeS at h
  simp only [bind, Option.bind_eq_some_iff] at h
  obtain ⟨e, he, h⟩ := h
  split at h
  · rename_i k1 n k2 m
    have := hl.inv_leaf rfl; subst this
    have := hc.inv_leaf rfl; subst this
    simp only [bind, Option.bind_eq_some_iff] at h
    obtain ⟨by_, hby, h⟩ := h
    split at h
    · rename_i hb
      simp only [Bool.and_eq_true, decide_eq_true_eq] at hb
      obtain ⟨⟨⟨b1, b2⟩, b3⟩, b4⟩ := hb
      have b4 := of_ble b4
      have b3 : m ≤ 1000000000 := b3
      simp only [bind, Option.bind_eq_some_iff, pure, Option.some.injEq] at h
      obtain ⟨z, hz, ⟨b, σ1⟩, hnew, h⟩ := h
      simp only [Prod.mk.injEq] at h
      obtain ⟨rfl, rfl⟩ := h
      obtain ⟨z1, z2, i, hi, _, hzs⟩ := zero_eq w hz
      have hby' : i.bytes = by_ := by simpa [bytesT, hi] using hby
      have hsz : sizeT P e = some i.size := by simp [sizeT, hi]
      have hrep : VL ρ (repeatL z.cells.toList m.toNat) (repeatL z.cells.toList m.toNat) := VL.of_leaf (repeatL_leaf z2 _)
      obtain ⟨ρ', r1, r2, r3⟩ := hr.newBlk (rest := []) e hnew hrep
      simp only [List.append_nil] at r1 r2
      refine ⟨ρ', _, .slice (some ⟨w.heap.size, 0, none⟩) n.toNat m.toNat, r2, r1, ?_, .slice ⟨rfl, rfl, _, r3, rfl, by simp⟩ (.inl rfl)⟩
      have hw1 := wrap64_small b1 (by omega)
      have hw2 := wrap64_small (n := m) (by omega) b3
      have hm : (i.bytes : Int) * m ≤ 4096 * 1000000000 := by
        have h1 : (i.bytes : Int) * m ≤ (4096 : Int) * m := Int.mul_le_mul_of_nonneg_right (by omega) (by omega)
        omega
      have c1 : ¬ (m < 0) := by omega
      have c2 : ¬ (n < 0) := by omega
      have c3 : ¬ (n > m) := by omega
      have c4 : ¬ ((i.bytes : Int) * m > 2 ^ 48) := by omega
      by_cases h0 : m.toNat * i.size = 0
      · have e0 : (repeatL z.cells.toList m.toNat) = [] := by
          apply List.eq_nil_of_length_eq_zero
          rw [repeatL_length]; simp [hzs, h0]
        have harr : ((Array.range (m.toNat * i.size)).map (fun i => (#[] : Array Value)[i % (#[] : Array Value).size]!)) = (repeatL z.cells.toList m.toNat).toArray := by
          rw [h0, e0]; simp
        simp only [Instr.makeSlice, Sem.run_bind, run_und w (elem_eq he), Result.andThen_ok, asInt, asIntOf, Sem.run_pure, run_info w hi, hw1, hw2, c1, c2, c3, c4, decide_false, Bool.or_false, Bool.false_eq_true, if_false,
          run_askRoom, run_size w hsz, if_pos h0, harr, newRow, run_newObj]
        rfl
      · have harr : ((Array.range (m.toNat * i.size)).map (fun i => z.cells[i % z.cells.size]!)) = (repeatL z.cells.toList m.toNat).toArray := by
          apply Array.toList_inj.1; exact repeat_eq z.cells m.toNat i.size hzs
        simp only [Instr.makeSlice, Sem.run_bind, run_und w (elem_eq he), Result.andThen_ok, asInt, asIntOf, Sem.run_pure, run_info w hi, hw1, hw2, c1, c2, c3, c4, decide_false, Bool.or_false, Bool.false_eq_true, if_false,
          run_askRoom, run_size w hsz, if_neg h0, z1, harr, newRow, run_newObj]
        rfl
    · simp [bad] at h
  · simp [bad] at h

end ops
end Go.Proofs.Ytkghejleififiaa.AS
