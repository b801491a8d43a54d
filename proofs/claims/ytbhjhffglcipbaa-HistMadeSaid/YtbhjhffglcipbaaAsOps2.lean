import Derived.Test.YtbhjhffglcipbaaAsDef
import Derived.Lib.ConvBytes
import Derived.Laws.BytesString
import Derived.Lib.UnsafeStr
namespace Go.Proofs.Ytbhjhffglcipbaa.AS
open Go
set_option linter.unusedSectionVars false
variable [Sym]
set_option linter.unusedVariables false
set_option linter.unusedSimpArgs false

section ops
variable {P : Program} {ρ : Rho} {σ : St} {w : World}

/-! ## slicing -/
theorem bound_eq {x : Value} {y n : Nat} (h : bound x y = some n) : ∃ k i, x = .int k i ∧ 0 ≤ i ∧ i ≤ (y : Int) ∧ n = i.toNat := by
  unfold bound at h
  split at h
  · rename_i k i
    split at h
    · rename_i hb
      simp only [pure, Option.some.injEq] at h
      simp only [Bool.and_eq_true, decide_eq_true_eq] at hb
      exact ⟨k, i, rfl, hb.1, hb.2, h.symm⟩
    · simp [bad] at h
  · simp [bad] at h

theorem run_bound {x x' : Value} {y y' n : Nat} (code : BoundsCode) (hx : VR ρ x x') (h : bound x y = some n) (hy : y ≤ y') :
    (Instr.sliceBound x' y' code).run P w = .ok n w ∧ n ≤ y := by
  obtain ⟨k, i, rfl, h0, h1, rfl⟩ := bound_eq h
  have := hx.inv_leaf rfl; subst this
  have h2 : i ≤ (y' : Int) := by omega
  exact ⟨by simp [Instr.sliceBound, asIntOf, h0, h2], by omega⟩

/-- relation of options of operands -/
def OR (ρ : Rho) : Option Value → Option Value → Prop
  | none, none => True
  | some v, some v' => VR ρ v v'
  | _, _ => False

theorem cutOK_unit {b size : Nat} (hr : HR ρ σ w) (h : cutOK σ b size = true) {l : Loc} (hl : ρ b = some l) : l.loose = true ∨ l.unit = 0 ∨ l.unit = size := by
  unfold cutOK at h
  split at h
  · rename_i cs u ro hg
    obtain ⟨q1, q2, _⟩ := hr.ob b _ l hg hl
    simp only [Bool.or_eq_true] at h
    rcases h with (h | h) | h
    · exact .inl (q2.trans h)
    · exact .inr (.inl (q1.trans (of_beq h)))
    · exact .inr (.inr (q1.trans (of_beq h)))
  · cases h

/-- the bounds of a cut, as the model works them out -/
theorem bounds_sim {is : Bool} {n c c' : Nat} {lo hi mx lo' hi' mx' : Option Value} {m q l : Nat} (hcc : c ≤ c') (hlo : OR ρ lo lo') (hhi : OR ρ hi hi') (hmx : OR ρ mx mx')
    (hm : boundO mx c c = some m) (hq : boundO hi m n = some q) (hl : boundO lo q 0 = some l) (hmh : (mx.isNone || hi.isSome) = true) :
    ∃ m', (Instr.sliceBounds is n c' lo' hi' mx').run P w = .ok (l, q, m') w ∧ (m = c ∧ m' = c' ∨ m' = m ∧ m ≤ c) := by
  have low : (lo' = none ∧ l = 0) ∨ ∃ v, lo' = some v ∧ ∀ code, (Instr.sliceBound v q code).run P w = .ok l w := by
    cases lo with
    | none => cases lo' with | some _ => exact hlo.elim | none => simp only [boundO, pure, Option.some.injEq] at hl; exact .inl ⟨rfl, hl.symm⟩
    | some lv => cases lo' with | none => exact hlo.elim | some lv' => exact .inr ⟨lv', rfl, fun code => (run_bound (P := P) (w := w) code hlo hl (Nat.le_refl _)).1⟩
  cases mx with
  | none =>
    cases mx' with
    | some _ => exact hmx.elim
    | none =>
      simp only [boundO, pure, Option.some.injEq] at hm; subst hm
      refine ⟨c', ?_, .inl ⟨rfl, rfl⟩⟩
      cases hi with
      | none =>
        cases hi' with
        | some _ => exact hhi.elim
        | none =>
          simp only [boundO, pure, Option.some.injEq] at hq; subst hq
          rcases low with ⟨rfl, rfl⟩ | ⟨v, rfl, hv⟩ <;> simp [Instr.sliceBounds, *]
      | some hv =>
        cases hi' with
        | none => exact hhi.elim
        | some hv' =>
          have e := fun code => (run_bound (P := P) (w := w) code hhi hq hcc).1
          rcases low with ⟨rfl, rfl⟩ | ⟨v, rfl, hv⟩ <;> cases is <;> simp [Instr.sliceBounds, e, *]
  | some mv =>
    cases mx' with
    | none => exact hmx.elim
    | some mv' =>
      have em := fun code => (run_bound (P := P) (w := w) code hmx hm hcc).1
      refine ⟨m, ?_, .inr ⟨rfl, (run_bound (P := P) (w := w) .index hmx hm hcc).2⟩⟩
      cases hi with
      | none => simp at hmh
      | some hv =>
        cases hi' with
        | none => exact hhi.elim
        | some hv' =>
          have e := fun code => (run_bound (P := P) (w := w) code hhi hq (Nat.le_refl _)).1
          rcases low with ⟨rfl, rfl⟩ | ⟨v, rfl, hv⟩ <;> cases is <;> simp [Instr.sliceBounds, e, em, *]

theorem slice_sim (hr : HR ρ σ w) {t : TypeId} {x x' v : Value} {lo hi mx lo' hi' mx' : Option Value} (hx : VR ρ x x') (hlo : OR ρ lo lo') (hhi : OR ρ hi hi') (hmx : OR ρ mx mx')
    (h : sliceV P σ t x lo hi mx = some v) : ∃ v', (Instr.sliceAt t x' lo' hi' mx').run P w = .ok v' w ∧ VR ρ v v' := by
  unfold sliceV at h
  split at h
  · -- a slice
    rename_i e a n c hu
    simp only [bind, Option.bind_eq_some_iff] at h
    obtain ⟨m, hm, q, hq, l, hl, size, hs, h⟩ := h
    split at h
    · rename_i hb
      simp only [Bool.and_eq_true] at hb
      have b1 := of_ble hb.1.1
      have b2 := of_ble hb.1.2
      have hmh := hb.2
      cases a with
      | none =>
        simp only [pure, Option.some.injEq] at h; subst h
        have := hx.inv_leaf rfl; subst this
        obtain ⟨m', hrun, hmm⟩ := bounds_sim (P := P) (w := w) (is := true) (Nat.le_refl c) hlo hhi hmx hm hq hl hmh
        have : m' = m := by rcases hmm with ⟨h1, h2⟩ | ⟨h1, _⟩ <;> omega
        subst this
        refine ⟨.slice none (q - l) (m' - l), ?_, .leaf rfl⟩
        simp [Instr.sliceAt, run_und w hu, Instr.slice, hrun, run_size w hs]
      | some a =>
        simp only at h
        split at h
        · rename_i hcut
          simp only [pure, Option.some.injEq] at h; subst h
          obtain ⟨a', c', rfl, hva⟩ := hx.inv_slice
          have hcc : c ≤ c' := by
            rcases hva with ⟨_, hc⟩ | ⟨_, hc, _⟩
            · rcases hc with hc | ⟨_, _, hc, _⟩ <;> omega
            · omega
          obtain ⟨m', hrun, hmm⟩ := bounds_sim (P := P) (w := w) (is := true) (n := n) hcc hlo hhi hmx hm hq hl hmh
          have hml : m ≤ m' := by rcases hmm with ⟨h1, h2⟩ | ⟨h1, _⟩ <;> omega
          refine ⟨.slice (some (if m' = l then a' else a'.add (l * size))) (q - l) (m' - l), ?_, ?_⟩
          · simp only [Instr.sliceAt, Sem.run_bind, run_und w hu, Result.andThen_ok, Instr.slice, hrun, run_size w hs, Sem.run_pure, Option.map_some]
            split <;> rfl
          · by_cases e : m' = l
            · have e1 : q - l = 0 := by omega
              have e2 : m - l = 0 := by omega
              have e3 : m' - l = 0 := by omega
              have hex : ∃ l, ρ a.block = some l := by
                rcases hva with ⟨hva, _⟩ | ⟨_, _, _, h⟩
                · obtain ⟨l, h, _⟩ := hva.at_; exact ⟨l, h⟩
                · exact h
              rw [e1, e2, e3]; exact .empty hex
            · rw [if_neg e]
              rcases hva with ⟨hva, hc⟩ | ⟨hn0, hc0, hc0', _⟩
              · refine .slice (addA_add hva _) ?_
                rcases hmm with ⟨h1, h2⟩ | ⟨h1, h2⟩
                · subst h1 h2
                  rcases hc with hc | ⟨lc, k1, k2, k3⟩
                  · exact .inl (by omega)
                  · right
                    refine ⟨lc, k1, by omega, ?_⟩
                    rcases k3 with k3 | ⟨k3, k4, k5⟩
                    · exact .inl k3
                    · rcases cutOK_unit hr hcut k1 with c1 | c1 | c1
                      · exact .inl c1
                      · omega
                      · right
                        have q1 : l * lc.unit ≤ m * lc.unit := Nat.mul_le_mul_right _ (by omega)
                        have q2 : l * lc.unit ≤ m' * lc.unit := Nat.mul_le_mul_right _ (by omega)
                        refine ⟨k3, ?_, ?_⟩ <;> simp only [addA] <;> rw [Nat.sub_mul, ← c1] <;> omega
                · exact .inl (by omega)
              · exfalso
                rcases hmm with ⟨h1, h2⟩ | ⟨h1, h2⟩ <;> omega
        · simp [bad] at h
    · simp [bad] at h
  · -- an array behind a pointer
    rename_i n e a hu
    simp only [bind, Option.bind_eq_some_iff] at h
    obtain ⟨q, hq, l, hl, size, hs, h⟩ := h
    split at h
    · rename_i hnone
      simp only [pure, Option.some.injEq] at h; subst h
      obtain ⟨a', rfl, hva⟩ := hx.inv_ptr
      cases mx with
      | some _ => simp at hnone
      | none =>
        cases mx' with
        | some _ => exact hmx.elim
        | none =>
          obtain ⟨m', hrun, hmm⟩ := bounds_sim (P := P) (w := w) (is := false) (n := n) (c := n) (m := n) (Nat.le_refl n) hlo hhi (mx := none) (mx' := none) trivial rfl hq hl rfl
          have : m' = n := by rcases hmm with ⟨h1, h2⟩ | ⟨h1, _⟩ <;> omega
          subst this
          have hqn : q ≤ m' := by
            cases hi with
            | none => simp only [boundO, pure, Option.some.injEq] at hq; omega
            | some hv => obtain ⟨_, _, _, _, _, rfl⟩ := bound_eq hq; omega
          have hlq : l ≤ q := by
            cases lo with
            | none => simp only [boundO, pure, Option.some.injEq] at hl; omega
            | some hv => obtain ⟨_, _, _, _, _, rfl⟩ := bound_eq hl; omega
          refine ⟨.slice (some (if m' = l then a' else a'.add (l * size))) (q - l) (m' - l), ?_, ?_⟩
          · simp only [Instr.sliceAt, Sem.run_bind, run_und w hu, Result.andThen_ok, Instr.sureAddr, Sem.run_pure, hrun, run_size w hs]
          · by_cases e : m' = l
            · have e1 : q - l = 0 := by omega
              have e2 : m' - l = 0 := by omega
              rw [e1, e2]; exact .empty (let ⟨l, h, _⟩ := hva.at_; ⟨l, h⟩)
            · rw [if_neg e]; exact .slice (addA_add hva _) (.inl rfl)
    · simp [bad] at h
  · simp [bad] at h

/-! ## rows of zeros -/
theorem repeatL_length (z : List Value) (n : Nat) : (repeatL z n).length = n * z.length := by
  induction n with
  | zero => simp [repeatL]
  | succ n ih => simp [repeatL, ih, Nat.succ_mul]; omega
theorem repeatL_leaf {z : List Value} (h : z.all leaf = true) (n : Nat) : (repeatL z n).all leaf = true := by
  induction n with
  | zero => rfl
  | succ n ih => simp only [repeatL, List.all_append, h, ih, Bool.and_self]
theorem repeatL_get (z : List Value) (n i : Nat) : (repeatL z n)[i]? = if i < n * z.length then z[i % z.length]? else none := by
  induction n generalizing i with
  | zero => simp [repeatL]
  | succ n ih =>
    have e : (n + 1) * z.length = n * z.length + z.length := by rw [Nat.add_mul, Nat.one_mul]
    simp only [repeatL, List.getElem?_append]
    by_cases h : i < z.length
    · rw [if_pos h, if_pos (by omega), Nat.mod_eq_of_lt h]
    · rw [if_neg h, ih]
      by_cases h2 : i < (n + 1) * z.length
      · rw [if_pos h2, if_pos (by omega)]
        show z[(i - z.length) % z.length]? = z[i % z.length]?
        rw [Nat.mod_eq_sub_mod (a := i) (by omega)]
      · rw [if_neg h2, if_neg (by omega)]
theorem repeat_eq (z : Array Value) (n size : Nat) (hs : z.size = size) : ((Array.range (n * size)).map (fun i => z[i % z.size]!)).toList = repeatL z.toList n := by
  apply List.ext_getElem?
  intro i
  rw [repeatL_get]
  rw [Array.getElem?_toList, Array.getElem?_map, Array.length_toList, Array.getElem?_toList, hs]
  by_cases h : i < n * size
  · rw [if_pos h]
    have hpos : 0 < size := by
      rcases Nat.eq_zero_or_pos size with e | e
      · subst e; simp at h
      · exact e
    have hm : i % size < z.size := by rw [hs]; exact Nat.mod_lt _ hpos
    rw [Array.getElem?_eq_getElem (by simpa using h), Option.map_some, Array.getElem_range, getElem!_pos z (i % size) hm, Array.getElem?_eq_getElem hm]
  · rw [if_neg h, Array.getElem?_eq_none_iff.2 (by simpa using h)]
    rfl

theorem buildS_sim (hr : HR ρ σ w) {t : TypeId} {len : Nat} {ps ps' : List (Nat × Value)} {v : Value} {σ' : St} (hp : PL ρ ps ps') (h : buildS P σ t len ps = some (v, σ')) :
    ValR P ρ σ w (Instr.buildSlice t len ps'.toArray) v σ' := by
  unfold buildS at h
  simp only [bind, Option.bind_eq_some_iff] at h
  obtain ⟨e, he, size, hs, h⟩ := h
  split at h
  · rename_i hb
    have hb := of_ble hb
    simp only [bind, Option.bind_eq_some_iff, pure, Option.some.injEq, want] at h
    obtain ⟨z, hz, cells, hf, ⟨b, σ1⟩, hnew, h⟩ := h
    simp only [Prod.mk.injEq] at h
    obtain ⟨rfl, rfl⟩ := h
    obtain ⟨z1, z2, _⟩ := zero_eq w hz
    have hzs := zero_size hz hs
    have hrep : VL ρ (repeatL z.cells.toList len) (repeatL z.cells.toList len) := VL.of_leaf (repeatL_leaf z2 len)
    obtain ⟨cells', k1, k2⟩ := fill_sim (ρ := ρ) (fun i => some (i * size, size)) ps ps' (repeatL z.cells.toList len).toArray (repeatL z.cells.toList len).toArray cells hp (by simpa using hrep) hf
    obtain ⟨ρ', r1, r2, r3⟩ := hr.newBlk (rest := []) e (fun t' q => by cases q; rfl) (fun _ => rfl) hnew k2
    simp only [List.append_nil, Array.toArray_toList] at r1 r2
    have hlen : len * size ≤ 16777216 := hb
    have hnot : ¬ (len * size > 2 ^ 24) := by omega
    refine ⟨ρ', _, .slice (some ⟨w.heap.size, 0, none⟩) len len, r2, r1, ?_, .slice ⟨rfl, rfl, _, r3, rfl, by simp⟩ (.inl rfl)⟩
    by_cases h0 : len * size = 0
    · have e0 : (repeatL z.cells.toList len) = [] := by
        apply List.eq_nil_of_length_eq_zero
        rw [repeatL_length]; simp [hzs, h0]
      have harr : ((Array.range (len * size)).map (fun i => (#[] : Array Value)[i % (#[] : Array Value).size]!)) = (repeatL z.cells.toList len).toArray := by
        rw [h0, e0]; simp
      simp only [Instr.buildSlice, Sem.run_bind, run_und w (elem_eq he), Result.andThen_ok, run_size w hs, if_neg hnot, if_pos h0, Sem.run_pure, harr, k1, newRow, run_newObj]
      rfl
    · have harr : ((Array.range (len * size)).map (fun i => z.cells[i % z.cells.size]!)) = (repeatL z.cells.toList len).toArray := by
        apply Array.toList_inj.1; exact repeat_eq z.cells len size hzs
      simp only [Instr.buildSlice, Sem.run_bind, run_und w (elem_eq he), Result.andThen_ok, run_size w hs, if_neg hnot, if_neg h0, Sem.run_pure, z1, harr, k1, newRow, run_newObj]
      rfl
  · simp [bad] at h

theorem wrap64_small {n : Int} (h0 : 0 ≤ n) (h1 : n ≤ 1000000000) : IntKind.i64.wrap n = n := by
  unfold IntKind.wrap
  simp [IntKind.signed, IntKind.bits]
  omega

theorem makeS_sim (hr : HR ρ σ w) {t : TypeId} {l c l' c' : Value} {v : Value} {σ' : St} (hl : VR ρ l l') (hc : VR ρ c c') (h : makeS P σ t l c = some (v, σ')) :
    ValR P ρ σ w (Instr.makeSlice t l' c') v σ' := by
  unfold makeS at h
  simp only [bind, Option.bind_eq_some_iff] at h
  obtain ⟨e, he, h⟩ := h
  split at h
  · rename_i k1 n k2 m
    have := hl.inv_leaf rfl; subst this
    have := hc.inv_leaf rfl; subst this
    simp only [bind, Option.bind_eq_some_iff] at h
    obtain ⟨by_, hby, h⟩ := h
    split at h
    · rename_i hb
      simp only [Bool.and_eq_true, decide_eq_true_eq] at hb
      obtain ⟨⟨⟨b1, b2⟩, b3⟩, b4⟩ := hb
      have b4 := of_ble b4
      have b3 : m ≤ 1000000000 := b3
      simp only [bind, Option.bind_eq_some_iff, pure, Option.some.injEq] at h
      obtain ⟨z, hz, ⟨b, σ1⟩, hnew, h⟩ := h
      simp only [Prod.mk.injEq] at h
      obtain ⟨rfl, rfl⟩ := h
      obtain ⟨z1, z2, i, hi, _, hzs⟩ := zero_eq w hz
      have hby' : i.bytes = by_ := by simpa [bytesT, hi] using hby
      have hsz : sizeT P e = some i.size := by simp [sizeT, hi]
      have hrep : VL ρ (repeatL z.cells.toList m.toNat) (repeatL z.cells.toList m.toNat) := VL.of_leaf (repeatL_leaf z2 _)
      obtain ⟨ρ', r1, r2, r3⟩ := hr.newBlk (rest := []) e (fun t' q => by cases q; rfl) (fun _ => rfl) hnew hrep
      simp only [List.append_nil] at r1 r2
      refine ⟨ρ', _, .slice (some ⟨w.heap.size, 0, none⟩) n.toNat m.toNat, r2, r1, ?_, .slice ⟨rfl, rfl, _, r3, rfl, by simp⟩ (.inl rfl)⟩
      have hw1 := wrap64_small b1 (by omega)
      have hw2 := wrap64_small (n := m) (by omega) b3
      have hm : (i.bytes : Int) * m ≤ 4096 * 1000000000 := by
        have h1 : (i.bytes : Int) * m ≤ (4096 : Int) * m := Int.mul_le_mul_of_nonneg_right (by omega) (by omega)
        omega
      have c1 : ¬ (m < 0) := by omega
      have c2 : ¬ (n < 0) := by omega
      have c3 : ¬ (n > m) := by omega
      have c4 : ¬ ((i.bytes : Int) * m > 2 ^ 48) := by omega
      by_cases h0 : m.toNat * i.size = 0
      · have e0 : (repeatL z.cells.toList m.toNat) = [] := by
          apply List.eq_nil_of_length_eq_zero
          rw [repeatL_length]; simp [hzs, h0]
        have harr : ((Array.range (m.toNat * i.size)).map (fun i => (#[] : Array Value)[i % (#[] : Array Value).size]!)) = (repeatL z.cells.toList m.toNat).toArray := by
          rw [h0, e0]; simp
        simp only [Instr.makeSlice, Sem.run_bind, run_und w (elem_eq he), Result.andThen_ok, asInt, asIntOf, Sem.run_pure, run_info w hi, hw1, hw2, c1, c2, c3, c4, decide_false, Bool.or_false, Bool.false_eq_true, if_false,
          run_askRoom, run_size w hsz, if_pos h0, harr, newRow, run_newObj]
        rfl
      · have harr : ((Array.range (m.toNat * i.size)).map (fun i => z.cells[i % z.cells.size]!)) = (repeatL z.cells.toList m.toNat).toArray := by
          apply Array.toList_inj.1; exact repeat_eq z.cells m.toNat i.size hzs
        simp only [Instr.makeSlice, Sem.run_bind, run_und w (elem_eq he), Result.andThen_ok, asInt, asIntOf, Sem.run_pure, run_info w hi, hw1, hw2, c1, c2, c3, c4, decide_false, Bool.or_false, Bool.false_eq_true, if_false,
          run_askRoom, run_size w hsz, if_neg h0, z1, harr, newRow, run_newObj]
        rfl
    · simp [bad] at h
  · simp [bad] at h

end ops
end Go.Proofs.Ytbhjhffglcipbaa.AS
namespace Go.Proofs.Ytbhjhffglcipbaa.AS
open Go
set_option linter.unusedSectionVars false
variable [Sym]
set_option linter.unusedVariables false
set_option linter.unusedSimpArgs false

section ops
variable {P : Program} {ρ : Rho} {σ : St} {w : World}

theorem tyG_eq {σ : St} {e : TypeId} {base : Option Addr} : ∀ t', tyG σ e base = some t' → e = t' := by
  intro t' h
  unfold tyG at h
  split at h
  · cases h; rfl
  · split at h
    · split at h
      · cases h; rfl
      · cases h
    · cases h
theorem len_sim {x x' : Value} {m : Nat} (hx : VR ρ x x') (h : lenV x = some m) : (Builtin.lenOf x').run P w = .ok m w ∧ ((∃ a c, x = .slice a m c) ∨ ∃ s, x = .string s ∧ m = s.size) := by
  unfold lenV at h
  split at h
  · rename_i a n c
    simp only [pure, Option.some.injEq] at h; subst h
    refine ⟨?_, .inl ⟨_, _, rfl⟩⟩
    cases a with
    | none => have := hx.inv_leaf rfl; subst this; simp [Builtin.lenOf]
    | some a => obtain ⟨a', c', rfl, _⟩ := hx.inv_slice; simp [Builtin.lenOf]
  · rename_i s
    simp only [pure, Option.some.injEq] at h; subst h
    have := hx.inv_leaf rfl; subst this
    exact ⟨by simp [Builtin.lenOf], .inr ⟨_, rfl, rfl⟩⟩
  · simp [bad] at h

theorem src_sim_k (hr : HR ρ σ w) {x x' : Value} {size n : Nat} {l : List Value} (hx : VR ρ x x') (hn : ∀ a m c, x = .slice a m c → n ≤ m) (h : srcCells P σ size n x = some l) :
    ∃ l', VL ρ l l' ∧ ∀ k, (Builtin.firstCells size n x').run P { w with drawn := k } = .ok l'.toArray { w with drawn := k } := by
  unfold srcCells at h
  split at h
  · rename_i b o m c
    obtain ⟨a', c', rfl, hva⟩ := hx.inv_slice
    split at h
    · rename_i h0
      have h0 := of_beq h0
      simp only [pure, Option.some.injEq] at h; subst h
      exact ⟨[], .nil, fun k => by simp [Builtin.firstCells, h0, loadCells, loadCellsFrom]⟩
    · rename_i h0
      rcases hva with ⟨hva, _⟩ | ⟨e1, e2, e3⟩
      · obtain ⟨l', k1, k2, k3⟩ := hr.load hva h
        refine ⟨l', k1, fun k => ?_⟩
        have := run_loadCells_list (P := P) { w with drawn := k } a' l' (fun j v hj => k3 j v hj)
        rw [k2] at this
        simpa [Builtin.firstCells] using this
      · have := hn _ _ _ rfl
        have hn0 : n = 0 := by omega
        subst hn0
        exact absurd (beq_t (Nat.zero_mul size)) h0
  · simp only [pure, Option.some.injEq] at h; subst h
    have := hx.inv_leaf rfl; subst this
    exact ⟨[], .nil, fun k => by simp [Builtin.firstCells]⟩
  · rename_i s
    simp only [pure, Option.some.injEq] at h; subst h
    have := hx.inv_leaf rfl; subst this
    refine ⟨_, VL.map_leaf _ _ (fun _ _ => rfl), fun k => ?_⟩
    simp only [Builtin.firstCells, Sem.run_pure]
    congr 1
    apply Array.toList_inj.1
    simp [ByteArray.data_extract]
  · simp [bad] at h

theorem src_sim (hr : HR ρ σ w) {x x' : Value} {size n : Nat} {l : List Value} (hx : VR ρ x x') (hn : ∀ a m c, x = .slice a m c → n ≤ m) (h : srcCells P σ size n x = some l) :
    ∃ l', VL ρ l l' ∧ (Builtin.firstCells size n x').run P w = .ok l'.toArray w :=
  let ⟨l', h1, h2⟩ := src_sim_k hr hx hn h
  ⟨l', h1, h2 w.drawn⟩

/-- a store into the row behind a slice, or nothing where nothing is to be stored -/
theorem inPlace_sim (hr : HR ρ σ w) {base : Option Addr} {n c o : Nat} {x' : Value} {vs vs' : List Value} {σ' : St} (hx : VR ρ (.slice base n c) x') (hv : VL ρ vs vs') (hne : n = 0 → c = 0 → vs = [])
    (h : inPlace σ base o vs = some σ') : ∃ base' c' w', x' = .slice base' n c' ∧ c ≤ c' ∧ HR ρ σ' w' ∧ Ext ρ σ w ρ σ' w' ∧
      (match base' with | some a => storeCells (a.add o) vs' | none => pure ()).run P w = .ok () w' := by
  unfold inPlace at h
  split at h
  · simp only [pure, Option.some.injEq] at h; subst h
    have := hx.inv_leaf rfl; subst this
    exact ⟨none, c, w, rfl, Nat.le_refl _, hr, Ext.refl hr, rfl⟩
  · rename_i b p
    obtain ⟨a', c', rfl, hva⟩ := hx.inv_slice
    rcases hva with ⟨hva, hc⟩ | ⟨e1, e2, e3⟩
    · obtain ⟨w', k1, k2, k3⟩ := hr.store P (addA_add hva o) hv h
      refine ⟨some a', c', w', rfl, ?_, k2, k3, k1⟩
      rcases hc with hc | ⟨_, _, hc, _⟩ <;> omega
    · have := hne e1 e2; subst this
      cases hv
      simp only [storeC, pure, Option.some.injEq] at h; subst h
      exact ⟨some a', c', w, rfl, by omega, hr, Ext.refl hr, by simp [storeCells]⟩
  · cases h

theorem run_ite_pos {α : Type} {c : Prop} [Decidable c] {x y : Sem α} (h : c) : (if c then x else y).run P w = x.run P w := by rw [if_pos h]
theorem run_ite_neg {α : Type} {c : Prop} [Decidable c] {x y : Sem α} (h : ¬ c) : (if c then x else y).run P w = y.run P w := by rw [if_neg h]

theorem nextcap_le (need cap : Nat) (h : cap < need) : Builtin.nextslicecap need cap ≤ 2 * need + 1024 := by
  unfold Builtin.nextslicecap
  split
  · omega
  · split
    · omega
    · have key : ∀ (r c : Nat), c ≤ 2 * need + 1024 → Builtin.growBy need r c ≤ 2 * need + 1024 := by
        intro r
        induction r with
        | zero => intro c hc; simpa [Builtin.growBy] using hc
        | succ r ih =>
          intro c hc
          simp only [Builtin.growBy]
          split
          · exact hc
          · exact ih _ (by omega)
      exact key _ _ (by omega)

/-- what 'append' does where the room does not suffice -/
theorem run_append_new {sT xT : TypeId} {argTypes : Array TypeId} {args : Array Value} {e : TypeId} {base : Option Addr} {n c m size bytes : Nat} {x z : Value} {old new : List Value} {d : TypeDesc}
    (h0 : argTypes[0]? = some sT) (h1 : argTypes[1]? = some xT) (a0 : args[0]? = some (.slice base n c)) (a1 : args[1]? = some x) (he : P.underlying sT = some (.slice e))
    (hx : P.underlying xT = some d) (hd : ∀ k, d ≠ .int k) (hs : sizeT P e = some size) (hb : bytesT P e = some bytes) (hz : (zeroValue e).run P w = .ok z w)
    (hm : (Builtin.lenOf x).run P w = .ok m w) (hgt : c < n + m) (hmost : n + m ≤ 1000000000) (hb0 : 0 < bytes) (hb1 : bytes ≤ 4096)
    (hold : (Builtin.firstCells size n (.slice base n c)).run P w = .ok old.toArray w) (hnew : (Builtin.firstCells size m x).run P w = .ok new.toArray w)
    (hdr : ∀ (w2 : World), w2 = w.drew → (Builtin.firstCells size n (.slice base n c)).run P w2 = .ok old.toArray w2 ∧ (Builtin.firstCells size m x).run P w2 = .ok new.toArray w2 ∧ (zeroValue e).run P w2 = .ok z w2) (ty : TypeId) :
    ∃ cap, n + m ≤ cap ∧ (Builtin.append_ argTypes ty args).run P w =
      .ok (.slice (some ⟨w.heap.size, 0, none⟩) (n + m) cap) (w.drew.alloc (.cells (old ++ new ++ (Builtin.zeroCells z.cells (cap - (n + m))).toList).toArray e)) := by
  have hinfo : ∃ i, P.info? e = some i ∧ i.bytes = bytes := by
    unfold bytesT at hb; split at hb
    · rename_i i hi; exact ⟨i, hi, by simpa using hb⟩
    · simp [bad] at hb
  obtain ⟨i, hi, hib⟩ := hinfo
  obtain ⟨d1, d2, d3⟩ := hdr _ rfl
  have hnz : (d matches .int _) = false := by cases d <;> first | rfl | exact absurd rfl (hd _)
  refine ⟨(Question.appendCap (n + m) c e).cut (w.tape w.drawn (.appendCap (n + m) c e)), ?_, ?_⟩
  · simp only [Question.cut]; omega
  · have c1 : ¬ (n + m ≤ c) := by omega
    have c2 : ¬ (((n + m : Nat) : Int) > IntKind.i64.max ∧ (False ∨ i.bytes = 0)) := by
      rintro ⟨_, h | h⟩
      · cases h
      · omega
    have c3 : ¬ (Builtin.nextslicecap (n + m) c * i.bytes > 2 ^ 48) := by
      have := nextcap_le (n + m) c hgt
      have h2 : Builtin.nextslicecap (n + m) c * i.bytes ≤ (2 * (n + m) + 1024) * 4096 := Nat.mul_le_mul this (by omega)
      omega
    have hf : (Question.appendCap (n + m) c e).forced = false := rfl
    simp only [Builtin.append_, h0, h1, a0, a1, Sem.run_bind, run_und w he, Result.andThen_ok, run_size w hs, run_und w hx, hnz, Sem.run_pure, Bool.false_eq_true, if_false, hm, if_neg c1, run_info w hi, if_neg c2, if_neg c3, run_choose, hf,
      run_askRoom, Bool.not_false, if_true]
    simp only [World.drew_eq, run_info w.drew hi, d1, d2, d3, Result.andThen_ok, newRow, Sem.run_bind, run_newObj, Sem.run_pure]
    have e : ∀ q : Array Value, old.toArray ++ new.toArray ++ q = (old ++ new ++ q.toList).toArray := by
      intro q; apply Array.toList_inj.1; simp
    rw [e]
    rfl

theorem zeroCells_eq (z : Array Value) (n : Nat) : (Builtin.zeroCells z n).toList = repeatL z.toList n := by
  unfold Builtin.zeroCells
  exact repeat_eq z n z.size rfl

theorem HR.drew (hr : HR ρ σ w) : HR ρ σ w.drew := hr.drawn _
theorem Ext.drew (hr : HR ρ σ w) : Ext ρ σ w ρ σ w.drew := Ext.drawn hr _

/-- a slice of its own over a new row -/
theorem grown_slice {ρ' : Rho} {b pb po k cap size ext : Nat} (hb : ρ' b = some ⟨pb, po, ext, size, k * size, false⟩) (hs : 0 < size) (hk : k ≤ cap) (he : cap * size ≤ ext) :
    VR ρ' (.slice (some ⟨b, 0, none⟩) k k) (.slice (some ⟨pb, po, none⟩) k cap) := by
  refine .slice ⟨rfl, rfl, _, hb, rfl, by simp⟩ (.inr ⟨_, hb, hk, .inr ⟨hs, by simp, by simpa using he⟩⟩)

theorem VL.rest {l l' r : List Value} (h : VL ρ l l') (i : Nat) (v : Value) (hi : l[i]? = some v) : ∃ v', (l' ++ r)[i]? = some v' ∧ VR ρ v v' := by
  obtain ⟨v', h1, h2⟩ := h.get hi
  exact ⟨v', by rw [List.getElem?_append_left (List.getElem?_eq_some_iff.1 h1).1]; exact h1, h2⟩

theorem append_sim (hr : HR ρ σ w) {argTypes : Array TypeId} {args args' : Array Value} {v : Value} {σ' : St} (ty : TypeId) (ha : VL ρ args.toList args'.toList) (h : appendV P σ argTypes args = some (v, σ')) :
    ValR P ρ σ w (Builtin.append_ argTypes ty args') v σ' := by
  unfold appendV at h
  simp only [bind, Option.bind_eq_some_iff, want] at h
  obtain ⟨sT, h0, s, a0, x, a1, xT, h1, e, he, size, hs, _, hni, m, hm, new, hnew, h⟩ := h
  obtain ⟨s', a0', hvs⟩ := ha.get (i := 0) (by simpa using a0)
  obtain ⟨x', a1', hvx⟩ := ha.get (i := 1) (by simpa using a1)
  have a0' : args'[0]? = some s' := by simpa using a0'
  have a1' : args'[1]? = some x' := by simpa using a1'
  obtain ⟨hm1, hm2⟩ := len_sim (P := P) (w := w) hvx hm
  have hnm : ∀ a m' c, x = .slice a m' c → m ≤ m' := by
    intro a m' c e
    rcases hm2 with ⟨a2, c2, e2⟩ | ⟨s2, e2, _⟩
    · rw [e] at e2; cases e2; exact Nat.le_refl _
    · rw [e] at e2; cases e2
  obtain ⟨new', n1, n2⟩ := src_sim (P := P) (w := w) hr hvx hnm hnew
  have hxd : ∃ d, P.underlying xT = some d ∧ ∀ k, d ≠ .int k := by
    unfold noInt at hni
    split at hni
    · simp [bad] at hni
    · simp [bad] at hni
    · rename_i h1 h2
      cases hd : P.underlying xT with
      | none => exact absurd hd h2
      | some d => exact ⟨d, rfl, fun k e => h1 k (by rw [hd, e])⟩
  obtain ⟨d, hd1, hd2⟩ := hxd
  split at h
  · rename_i base n c
    unfold appendS at h
    split at h
    · -- there is room
      rename_i hle
      have hle := of_ble hle
      simp only [bind, Option.bind_eq_some_iff, pure, Option.some.injEq] at h
      obtain ⟨σ1, hin, h⟩ := h
      simp only [Prod.mk.injEq] at h
      obtain ⟨rfl, rfl⟩ := h
      have hne : n = 0 → c = 0 → new = [] := by
        intro e1 e2
        have hm0 : m = 0 := by omega
        subst hm0
        unfold srcCells at hnew
        split at hnew
        · split at hnew
          · simp only [pure, Option.some.injEq] at hnew; exact hnew.symm
          · rename_i hb; exact absurd (beq_t (Nat.zero_mul size)) hb
        · simp only [pure, Option.some.injEq] at hnew; exact hnew.symm
        · simp only [pure, Option.some.injEq, List.take_zero, List.map_nil] at hnew; exact hnew.symm
        · simp [bad] at hnew
      obtain ⟨base', c', w', rfl, hcc, k1, k2, k3⟩ := inPlace_sim (P := P) hr hvs n1 hne hin
      refine ⟨ρ, w', .slice base' (n + m) c', k2, k1, ?_, ?_⟩
      · have c1 : n + m ≤ c' := by omega
        have hnz : (d matches .int _) = false := by cases d <;> first | rfl | exact absurd rfl (hd2 _)
        simp only [Builtin.append_, h0, h1, a0', a1', Sem.run_bind, run_und w (elem_eq he), Result.andThen_ok, run_size w hs, run_und w hd1, hnz, Sem.run_pure, Bool.false_eq_true, if_false, hm1, if_pos c1, Bool.not_false, if_true, n2]
        cases base' with
        | none =>
          simp only [Sem.run_pure, Result.ok.injEq, true_and] at k3
          subst k3
          simp
        | some a =>
          simp only at k3
          simp [k3]
      · cases base with
        | none =>
          have := hvs.inv_leaf rfl
          simp only [Value.slice.injEq] at this
          obtain ⟨rfl, _, rfl⟩ := this
          exact .leaf rfl
        | some a =>
          obtain ⟨a', c'', e1, hva⟩ := hvs.inv_slice
          simp only [Value.slice.injEq] at e1
          obtain ⟨rfl, _, rfl⟩ := e1
          rcases hva with ⟨q1, q2⟩ | ⟨e1, e2, e3, e4⟩
          · exact .slice q1 q2
          · have q1 : n + m = 0 := by omega
            rw [q1, e2, e3]; exact .empty e4
    · -- a new row
      rename_i hgt
      have hgt : c < n + m := by
        rcases Nat.lt_or_ge c (n + m) with q | q
        · exact q
        · exact absurd (by simpa using q) hgt
      simp only [bind, Option.bind_eq_some_iff] at h
      obtain ⟨bytes, hb, old, hold, z, hz, h⟩ := h
      split at h
      · rename_i hc
        simp only [Bool.and_eq_true] at hc
        obtain ⟨⟨⟨⟨⟨b1, b2⟩, b3⟩, b4⟩, b5⟩, b6⟩ := hc
        have b1 := of_ble b1
        have b2 := of_ble b2
        have b3 := of_blt b3
        have b4 := of_blt b4
        have b6 := of_beq b6
        simp only [bind, Option.bind_eq_some_iff, pure, Option.some.injEq] at h
        obtain ⟨σ1, hgrow, ⟨b, σ2⟩, hnw, h⟩ := h
        simp only [Prod.mk.injEq] at h
        obtain ⟨rfl, rfl⟩ := h
        obtain ⟨z1, z2, _⟩ := zero_eq w hz
        have hzs := zero_size hz hs
        obtain ⟨old', o1, o2⟩ := src_sim_k (P := P) (w := w) hr hvs (fun a m' c' e => by cases e; exact Nat.le_refl _) hold
        obtain ⟨new2, p1, p2⟩ := src_sim_k (P := P) (w := w) hr hvx hnm hnew
        have hs' : ∃ base' c', s' = .slice base' n c' := by
          cases base with
          | none => exact ⟨_, _, hvs.inv_leaf rfl⟩
          | some a => obtain ⟨a', c', e, _⟩ := hvs.inv_slice; exact ⟨_, _, e⟩
        obtain ⟨base', c', rfl⟩ := hs'
        have hlen := (o1.append p1).length
        -- a new row, where the old one is left or forgotten
        have fresh : ∀ (σ0 : St), HR ρ σ0 w.drew → Ext ρ σ w ρ σ0 w.drew → σ0.new (.blk (old ++ new) size false (tyG σ e base)) = some (b, σ2) → c' < n + m →
            ValR P ρ σ w (Builtin.append_ argTypes ty args') (.slice (some ⟨b, 0, none⟩) (n + m) (n + m)) σ2 := by
          intro σ0 hr0 hx0 hnw0 hlt
          obtain ⟨cap, hcap, hrun⟩ := run_append_new (P := P) (w := w) h0 h1 a0' a1' (elem_eq he) hd1 hd2 hs hb z1 hm1 hlt b1 b3 b2 (o2 w.drawn) (p2 w.drawn)
            (fun w2 e => by subst e; exact ⟨o2 _, p2 _, (zero_eq w.drew hz).1⟩) ty
          obtain ⟨ρ', r1, r2, r3⟩ := hr0.newBlk (rest := (Builtin.zeroCells z.cells (cap - (n + m))).toList) e (tyG_eq (σ := σ) (base := base)) (fun q => by omega) hnw0 (o1.append p1)
          refine ⟨ρ', _, _, hx0.trans r2, r1, hrun, ?_⟩
          rw [b6] at r3
          refine grown_slice r3 b4 hcap ?_
          rw [zeroCells_eq, repeatL_length, Array.length_toList, hzs, ← Nat.add_mul]
          exact Nat.mul_le_mul_right _ (by omega)
        unfold growS at hgrow
        split at hgrow
        · -- nil
          simp only [pure, Option.some.injEq] at hgrow; subst hgrow
          have e1 := hvs.inv_leaf rfl
          simp only [Value.slice.injEq] at e1
          exact fresh σ hr.drew (Ext.drew hr) hnw (by omega)
        · rename_i bk o
          obtain ⟨a', c'', e1, hva⟩ := hvs.inv_slice
          simp only [Value.slice.injEq] at e1
          obtain ⟨rfl, _, rfl⟩ := e1
          split at hgrow
          · rename_i cs u ty hg
            split at hgrow
            · -- the row grows: it is forgotten
              rename_i hend
              simp only [Bool.and_eq_true] at hend
              have hu := of_blt hend.1
              have hend := of_beq hend.2
              split at hgrow
              · rename_i hus
                have hus := of_beq hus
                simp only [pure, Option.some.injEq] at hgrow; subst hgrow
                by_cases hroom : c' < n + m
                · have hex : ∃ l, ρ bk = some l := by
                    rcases hva with ⟨hva, _⟩ | ⟨_, _, _, h⟩
                    · obtain ⟨l, h, _⟩ := hva.at_; exact ⟨l, h⟩
                    · exact h
                  obtain ⟨l, hl⟩ := hex
                  exact fresh _ (hr.drew.kill (St.get_lt hg)) ((Ext.drew hr).trans (Ext.kill hr.drew (St.get_lt hg) hl)) hnw hroom
                · -- in place
                  rcases hva with ⟨hva, hcap⟩ | ⟨e1, e2, e3, _⟩
                  · obtain ⟨l, l1, l2, l3⟩ := hva.at_
                    obtain ⟨q1, q2, q3, q4, C, t, fr, q5, q6, q7, q8, q9⟩ := hr.ob bk _ l hg l1
                    have hc' : 0 < l.unit ∧ o + c * l.unit = l.size ∧ o + c' * l.unit ≤ l.ext := by
                      rcases hcap with hc | ⟨l', k1, k2, k3⟩
                      · omega
                      · rw [l1] at k1; cases k1
                        rcases k3 with k3 | k3
                        · rw [q2] at k3; cases k3
                        · exact k3
                    obtain ⟨c1, c2, c3⟩ := hc'
                    have hsz : l.unit = size := q1.trans hus
                    rw [hsz] at c2 c3
                    have hnl : new2.length = m * size := by
                      have e1 : old.length + new.length = (n + m) * size := by simpa using b6
                      have e2 := p1.length
                      have e3 : old.length = n * size := by
                        simp only [srcCells] at hold
                        split at hold
                        · rename_i hz0; have := of_beq hz0; simp only [pure, Option.some.injEq] at hold; subst hold; simp [this]
                        · obtain ⟨cs2, u2, ro2, _, _, hsub⟩ := loadC_eq hold; exact (sub_eq hsub).2.1
                      rw [Nat.add_mul] at e1; omega
                    have hmul : (n + m) * size ≤ c' * size := Nat.mul_le_mul_right _ (by omega)
                    rw [Nat.add_mul] at hmul
                    have ha' : a' = ⟨l.pb, l.po + o, none⟩ := by have := hva.s'; cases a'; simp_all
                    obtain ⟨w', C', r1, r2, r3, r4, r5, r6, r7, r8, r9⟩ := run_storeCells_in P l.pb (l.po + o + n * size) t fr new2 0 C w q5 (by omega)
                      (p1.all_isCell (by rw [List.all_append] at b5; simp only [Bool.and_eq_true] at b5; exact b5.2))
                      (fun k hk1 hk2 => by have := q7 rfl (k - l.po) (by omega); rwa [show l.po + (k - l.po) = k by omega] at this)
                    let l' : Loc := ⟨l.pb, l.po + o, l.ext - o, size, (n + m) * size, false⟩
                    obtain ⟨g1, g2⟩ := hr.grow (l' := l') (w' := w') (cs := cs) (new := []) hg l1 rfl hnw rfl
                      ⟨rfl, rfl, b6.symm, by rw [b6, Nat.add_mul]; simp only [l']; omega, C', t, fr, r2, by simp only [l']; omega,
                        fun _ i hi => by simp only [l'] at hi ⊢; have := q7 rfl (o + i) (by omega); rwa [show l.po + (o + i) = l.po + o + i by omega] at this, fun i v hi => by
                          have hle := Rho.put_le (l := l') (hr.dom _ (Nat.le_refl _))
                          obtain ⟨rfl, _⟩ := St.new_eq hnw
                          simp only [l', r9]
                          have hol : old.length = n * size := by
                            have e1 : old.length + new.length = (n + m) * size := by simpa using b6
                            have e2 := p1.length
                            rw [Nat.add_mul] at e1; omega
                          by_cases hi2 : i < n * size
                          · rw [List.getElem?_append_left (by omega)] at hi
                            rw [if_neg (by omega)]
                            -- an old cell
                            have hold' : cs[o + i]? = some v := by
                              simp only [srcCells] at hold
                              split at hold
                              · rename_i hz0; have := of_beq hz0; omega
                              · obtain ⟨cs2, u2, ro2, _, hg2, hsub⟩ := loadC_eq hold
                                rw [hg] at hg2; cases hg2
                                obtain ⟨rfl, _, _⟩ := sub_eq hsub
                                rw [List.getElem?_take, if_pos hi2, List.getElem?_drop] at hi
                                exact hi
                            obtain ⟨v', s1, s2⟩ := q8 (o + i) v hold'
                            exact ⟨v', by rw [show l.po + o + i = l.po + (o + i) by omega]; exact s1, s2.mono hle⟩
                          · rw [List.getElem?_append_right (by omega), hol] at hi
                            obtain ⟨v', s1, s2⟩ := p1.get hi
                            have : i - n * size < new2.length := (List.getElem?_eq_some_iff.1 s1).1
                            rw [if_pos (by omega)]
                            exact ⟨v', by rw [show l.po + o + i - (l.po + o + n * size + 0) = i - n * size by omega]; exact s1, s2.mono hle⟩, fun t' ht => by
                            simp only [tyG, hg] at ht
                            cases ty with
                            | none => cases ht
                            | some t2 =>
                              simp only at ht
                              split at ht
                              · rename_i hb2
                                simp only [Bool.and_eq_true] at hb2
                                obtain ⟨hb2, hb3⟩ := hb2
                                have hb2 := of_beq hb2; have hb3 : o = 0 := of_beq hb3
                                cases ht; subst hb2 hb3; exact ⟨(q9 _ rfl).1, by simp only [l']; have := (q9 _ rfl).2.1; omega, by simp only [l']; have := (q9 _ rfl).2.2.1; omega, (q9 _ rfl).2.2.2.1, fun q => by omega⟩
                              · cases ht⟩
                      r4 r5 r6 r7 r8
                    refine ⟨_, w', .slice (some a') (n + m) c', g2, g1, ?_, ?_⟩
                    · have c1' : n + m ≤ c' := by omega
                      have hnz : (d matches .int _) = false := by cases d <;> first | rfl | exact absurd rfl (hd2 _)
                      have p2' := p2 w.drawn
                      have r1' : (storeCells (a'.add (n * size)) new2).run P w = .ok () w' := by
                        rw [ha', add_eq rfl]; exact r1
                      simp only [Builtin.append_, h0, h1, a0', a1', Sem.run_bind, run_und w (elem_eq he), Result.andThen_ok, run_size w hs, run_und w hd1, hnz, Sem.run_pure, Bool.false_eq_true, if_false, hm1, if_pos c1', Bool.not_false, if_true, p2', r1']
                    · rw [ha']
                      obtain ⟨rfl, _⟩ := St.new_eq hnw
                      exact grown_slice (Rho.put_self _ _ _) (by omega) (by omega) (by omega)
                  · omega
              · simp [bad] at hgrow
            · -- the row is left: its slice's end isn't its own
              rename_i hend
              simp only [pure, Option.some.injEq] at hgrow; subst hgrow
              have hlt : c' < n + m := by
                rcases hva with ⟨hva, hcap⟩ | ⟨e1, e2, e3⟩
                · rcases hcap with hc | ⟨l, k1, k2, k3⟩
                  · omega
                  · obtain ⟨q1, q2, q3, _⟩ := hr.ob bk _ l hg k1
                    rcases k3 with k3 | ⟨k3, k4, k5⟩
                    · rw [q2] at k3; cases k3
                    · exfalso; apply hend
                      simp only [Bool.and_eq_true]
                      refine ⟨?_, beq_t ?_⟩
                      · rw [← q1]; simpa [Nat.blt_eq] using k3
                      · rw [← q1, ← q3]; exact k4
                · omega
              exact fresh σ hr.drew (Ext.drew hr) hnw hlt
          · simp [bad] at hgrow
        · simp [bad] at hgrow
      · simp [bad] at h
  · simp [bad] at h

end ops
end Go.Proofs.Ytbhjhffglcipbaa.AS
namespace Go.Proofs.Ytbhjhffglcipbaa.AS
open Go
set_option linter.unusedSectionVars false
variable [Sym]
set_option linter.unusedVariables false
set_option linter.unusedSimpArgs false

section ops
variable {P : Program} {ρ : Rho} {σ : St} {w : World}

theorem copy_sim (hr : HR ρ σ w) {argTypes : Array TypeId} {args args' : Array Value} {v : Value} {σ' : St} (ty : TypeId) (ha : VL ρ args.toList args'.toList) (h : copyV P σ argTypes args = some (v, σ')) :
    ValR P ρ σ w (Builtin.copy_ argTypes ty args') v σ' := by
  unfold copyV at h
  simp only [bind, Option.bind_eq_some_iff, want] at h
  obtain ⟨dT, h0, d, a0, x, a1, e, he, size, hs, k, hk, h⟩ := h
  obtain ⟨d', a0', hvd⟩ := ha.get (i := 0) (by simpa using a0)
  obtain ⟨x', a1', hvx⟩ := ha.get (i := 1) (by simpa using a1)
  have a0' : args'[0]? = some d' := by simpa using a0'
  have a1' : args'[1]? = some x' := by simpa using a1'
  obtain ⟨hm1, hm2⟩ := len_sim (P := P) (w := w) hvx hk
  split at h
  · rename_i base n c
    simp only [bind, Option.bind_eq_some_iff, pure, Option.some.injEq] at h
    obtain ⟨cells, hc, σ1, hin, h⟩ := h
    simp only [Prod.mk.injEq] at h
    obtain ⟨rfl, rfl⟩ := h
    have hnm : ∀ a m' c, x = .slice a m' c → Nat.min k n ≤ m' := by
      intro a m' c e
      have : k = m' := by
        rcases hm2 with ⟨a2, c2, e2⟩ | ⟨s2, e2, _⟩
        · rw [e] at e2; cases e2; rfl
        · rw [e] at e2; cases e2
      rw [← this]; exact Nat.min_le_left _ _
    obtain ⟨cells', n1, n2⟩ := src_sim (P := P) (w := w) hr hvx hnm hc
    have hne : n = 0 → c = 0 → cells = [] := by
      intro e1 _
      have hm0 : Nat.min k n = 0 := by subst e1; exact Nat.min_zero _
      rw [hm0] at hc
      unfold srcCells at hc
      split at hc
      · split at hc
        · simp only [pure, Option.some.injEq] at hc; exact hc.symm
        · rename_i hb; exact absurd (beq_t (Nat.zero_mul size)) hb
      · simp only [pure, Option.some.injEq] at hc; exact hc.symm
      · simp only [pure, Option.some.injEq, List.take_zero, List.map_nil] at hc; exact hc.symm
      · simp [bad] at hc
    obtain ⟨base', c', w', rfl, hcc, k1, k2, k3⟩ := inPlace_sim (P := P) hr hvd n1 hne hin
    refine ⟨ρ, w', .int .i64 (Nat.min k n), k2, k1, ?_, .leaf rfl⟩
    simp only [Builtin.copy_, h0, a0', a1', Sem.run_bind, run_und w (elem_eq he), Result.andThen_ok, hm1, run_size w hs, n2]
    cases base' with
    | none =>
      simp only [Sem.run_pure, Result.ok.injEq, true_and] at k3
      subst k3
      simp [goInt]
    | some a =>
      simp only at k3
      have e0 : a.add 0 = a := by simp [Addr.add]
      rw [e0] at k3
      simp [k3, goInt]
  · simp [bad] at h

theorem clear_sim (hr : HR ρ σ w) {argTypes : Array TypeId} {args args' : Array Value} {v : Value} {σ' : St} (ty : TypeId) (ha : VL ρ args.toList args'.toList) (h : clearV P σ argTypes args = some (v, σ')) :
    ValR P ρ σ w (Builtin.clear_ argTypes ty args') v σ' := by
  unfold clearV at h
  simp only [bind, Option.bind_eq_some_iff, want] at h
  obtain ⟨dT, h0, d, a0, e, he, z, hz, h⟩ := h
  obtain ⟨d', a0', hvd⟩ := ha.get (i := 0) (by simpa using a0)
  have a0' : args'[0]? = some d' := by simpa using a0'
  obtain ⟨z1, z2, _⟩ := zero_eq w hz
  split at h
  · rename_i base n c
    simp only [bind, Option.bind_eq_some_iff, pure, Option.some.injEq] at h
    obtain ⟨σ1, hin, h⟩ := h
    simp only [Prod.mk.injEq] at h
    obtain ⟨rfl, rfl⟩ := h
    obtain ⟨base', c', w', rfl, hcc, k1, k2, k3⟩ := inPlace_sim (P := P) hr hvd (VL.of_leaf (repeatL_leaf z2 n)) (fun e _ => by subst e; rfl) hin
    refine ⟨ρ, w', .tuple #[], k2, k1, ?_, .tuple .nil⟩
    cases base' with
    | none =>
      simp only [Sem.run_pure, Result.ok.injEq, true_and] at k3
      subst k3
      simp [Builtin.clear_, h0, a0', run_und w (elem_eq he)]
    | some a =>
      simp only at k3
      have e0 : a.add 0 = a := by simp [Addr.add]
      rw [e0] at k3
      cases n with
      | zero =>
        simp only [repeatL, storeCells, Sem.run_pure, Result.ok.injEq, true_and] at k3
        subst k3
        simp [Builtin.clear_, h0, a0', run_und w (elem_eq he)]
      | succ n =>
        have e1 : (Builtin.zeroCells z.cells (n + 1)).toList = repeatL z.cells.toList (n + 1) := zeroCells_eq _ _
        simp only [Builtin.clear_, h0, a0', Sem.run_bind, run_und w (elem_eq he), Result.andThen_ok, z1, e1, k3, Sem.run_pure]
  · simp [bad] at h

theorem bytesOf_eq : ∀ {cs : List Value} {l : List UInt8}, bytesOf cs = some l → ∃ ns : List Int, cs = ns.map (Value.int .u8) ∧ l = ns.map fun n => UInt8.ofNat n.toNat := by
  intro cs
  induction cs with
  | nil => intro l h; simp only [bytesOf, pure, Option.some.injEq] at h; subst h; exact ⟨[], rfl, rfl⟩
  | cons c cs ih =>
    intro l h
    unfold bytesOf at h
    split at h
    · rename_i hq; cases hq
    · rename_i n r hq
      cases hq
      simp only [bind, Option.bind_eq_some_iff, pure, Option.some.injEq] at h
      obtain ⟨l', h1, rfl⟩ := h
      obtain ⟨ns, rfl, rfl⟩ := ih h1
      exact ⟨n :: ns, rfl, rfl⟩
    · simp [bad] at h

theorem push_fold (ns : List Int) : ∀ (s : ByteArray), ns.foldl (fun r n => r.push (UInt8.ofNat n.toNat)) s = ⟨s.data ++ (ns.map fun n => UInt8.ofNat n.toNat).toArray⟩ := by
  induction ns with
  | nil => intro s; simp
  | cons n ns ih =>
    intro s
    simp only [List.foldl_cons, ih, List.map_cons]
    congr 1
    apply Array.toList_inj.1
    simp [ByteArray.push]

theorem strBytes_sim (hr : HR ρ σ w) {src dst e b : Nat} {s : ByteArray} {σ' : St} (hs : P.underlying src = some .string) (hd : P.underlying dst = some (.slice e)) (he : P.underlying e = some (.int .u8))
    (hn : σ.new (.blk (s.data.toList.map fun b => .int .u8 b.toNat) 1 false none) = some (b, σ')) : ValR P ρ σ w (convert src dst (.string s)) (.slice (some ⟨b, 0, none⟩) s.size s.size) σ' := by
  let cs : List Value := s.data.toList.map fun b => .int .u8 b.toNat
  have hlen : cs.length = s.size := by simp [cs]
  have hcap : s.size ≤ grownCap w s.size 0 e := by unfold grownCap; simp only [Question.cut]; omega
  have hsz : (Lib.bytesCells w e s).size = grownCap w s.size 0 e := by simp [Lib.bytesCells]; omega
  let l : Loc := ⟨w.heap.size, 0, grownCap w s.size 0 e, 1, s.size, false⟩
  have hleaf : ∀ {ρ' : Rho}, VL ρ' cs cs := VL.map_leaf _ _ (fun _ _ => rfl)
  obtain ⟨k1, k2, k3⟩ := hr.new' (l := l) (w' := Lib.bytesWorld w e s) hn (Nat.le_refl _) (by rw [Lib.bytesWorld_size]; omega) (fun p hp => Lib.bytesWorld_at_old w e s p hp)
    (by simp only [Lib.bytesWorld, World.freeze]; split <;> rfl) (by simp only [Lib.bytesWorld, World.freeze]; split <;> rfl) (by simp only [Lib.bytesWorld, World.freeze]; split <;> rfl)
    ⟨rfl, rfl, hlen.symm, by show cs.length ≤ _; rw [hlen]; exact hcap, Lib.bytesCells w e s, e, _, Lib.bytesWorld_at_new w e s, by simp only [l]; omega, fun _ i hi => by
      have : i < (Lib.bytesCells w e s).size := by rw [hsz]; exact hi
      simp only [l, Nat.zero_add, Bool.and_eq_false_iff, decide_eq_false_iff_not]; left; omega,
      fun i v hi => ⟨v, by
        have hi' : i < s.size := by rw [← hlen]; exact (List.getElem?_eq_some_iff.1 hi).1
        have hi2 : i < s.data.size := hi'
        simp only [l, Nat.zero_add, Lib.bytesCells]
        rw [Array.getElem?_append_left (by simpa using hi')]
        simpa using hi, by
        obtain ⟨v', r1, r2⟩ := (hleaf (ρ' := ρ.put b l)).get hi
        rw [hi] at r1; cases r1; exact r2⟩, fun t' e => by cases e⟩
  refine ⟨_, _, _, k2, k1, Lib.run_convert_string_bytes (P := P) w src dst e s hs hd he, ?_⟩
  refine .slice ⟨rfl, rfl, l, Rho.put_self _ _ _, rfl, by simp [l]⟩ (.inr ⟨l, Rho.put_self _ _ _, hcap, .inr ⟨by simp [l], by simp [l], by simp [l]⟩⟩)

theorem bytesStr_sim (hr : HR ρ σ w) {src dst e b off n c : Nat} {x' : Value} {l : List UInt8} {cs : List Value} (hs : P.underlying src = some (.slice e)) (hd : P.underlying dst = some .string) (he : P.underlying e = some (.int .u8))
    (hx : VR ρ (.slice (some ⟨b, off, none⟩) n c) x') (hc : strCells σ b off n = some cs) (hl : bytesOf cs = some l) :
    (convert src dst x').run P w = .ok (.string ⟨l.toArray⟩) w := by
  obtain ⟨a', c', rfl, hva⟩ := hx.inv_slice
  rw [run_convert_bytes_string w src dst e _ _ _ hs he hd]
  have key : ∃ ns : List Int, (loadCells a' n).run P w = .ok (ns.map (Value.int .u8)).toArray w ∧ l = ns.map fun n => UInt8.ofNat n.toNat := by
    unfold strCells at hc
    split at hc
    · rename_i h0
      have h0 := of_beq h0
      simp only [pure, Option.some.injEq] at hc; subst hc
      simp only [bytesOf, pure, Option.some.injEq] at hl; subst hl
      exact ⟨[], by subst h0; simp [loadCells, loadCellsFrom], rfl⟩
    · rename_i h0
      rcases hva with ⟨hva, _⟩ | ⟨e1, _⟩
      · obtain ⟨l', k1, k2, k3⟩ := hr.loadCells P hva hc
        obtain ⟨ns, rfl, rfl⟩ := bytesOf_eq hl
        have : l' = ns.map (Value.int .u8) := k1.leaf_eq (by simp [List.all_map, AS.leaf, Function.comp_def])
        subst this
        exact ⟨ns, k3, rfl⟩
      · exact absurd (beq_t e1) h0
  obtain ⟨ns, h1, rfl⟩ := key
  rw [run_bytesToString w a' n c' ns h1, push_fold]
  have e : ByteArray.empty.data = #[] := rfl
  rw [e]; simp

end ops
end Go.Proofs.Ytbhjhffglcipbaa.AS
namespace Go.Proofs.Ytbhjhffglcipbaa.AS
open Go
set_option linter.unusedSectionVars false
variable [Sym]
set_option linter.unusedVariables false
set_option linter.unusedSimpArgs false

section ops
variable {P : Program} {ρ : Rho} {σ : St} {w : World}

/-! ## maps -/
theorem ML.length {l : List (Value × Value)} {l' : List MapEntry} (h : ML ρ l l') : l.length = l'.length := by
  induction h with
  | nil => rfl
  | cons _ _ _ _ ih => simp [ih]
theorem ML.get {l : List (Value × Value)} {l' : List MapEntry} (h : ML ρ l l') {i : Nat} {k v : Value} (hi : l[i]? = some (k, v)) : ∃ e, l'[i]? = some e ∧ e.key = k ∧ VR ρ v e.val ∧ flat1 k = true := by
  induction h generalizing i with
  | nil => simp at hi
  | cons hf hk hv _ ih =>
    cases i with
    | zero => simp at hi; obtain ⟨rfl, rfl⟩ := hi; exact ⟨_, rfl, hk, hv, hf⟩
    | succ i => simp at hi; simpa using ih hi
theorem ML.snoc {l : List (Value × Value)} {l' : List MapEntry} (h : ML ρ l l') {k v : Value} {e : MapEntry} (hf : flat1 k = true) (hk : e.key = k) (hv : VR ρ v e.val) : ML ρ (l ++ [(k, v)]) (l' ++ [e]) := by
  induction h with
  | nil => exact .cons hf hk hv .nil
  | cons a b c _ ih => exact .cons a b c ih
theorem ML.set {l : List (Value × Value)} {l' : List MapEntry} (h : ML ρ l l') (i : Nat) {k v : Value} {e : MapEntry} (hf : flat1 k = true) (hk : e.key = k) (hv : VR ρ v e.val) : ML ρ (l.set i (k, v)) (l'.set i e) := by
  induction h generalizing i with
  | nil => exact .nil
  | cons a b c t ih =>
    cases i with
    | zero => exact .cons hf hk hv t
    | succ i => exact .cons a b c (ih i)

theorem MI.push {E : Array MapEntry} {clk : Nat} (h : MI E clk) {e : MapEntry} (he : e.born = clk) : MI (E.push e) (clk + 1) := by
  refine ⟨by rw [Array.size_push, h.1], fun i x hx => ?_⟩
  rw [Array.getElem?_push] at hx
  split at hx
  · rename_i hi; simp only [Option.some.injEq] at hx; subst hx; rw [he, hi, h.1]
  · exact h.2 i x hx
theorem MI.modify {E : Array MapEntry} {clk : Nat} (h : MI E clk) (i : Nat) {f : MapEntry → MapEntry} (hf : ∀ e, (f e).born = e.born) : MI (E.modify i f) clk := by
  refine ⟨by rw [Array.size_modify, h.1], fun j x hx => ?_⟩
  rw [Array.getElem?_modify] at hx
  split at hx
  · rename_i hi; subst hi
    rw [Option.map_eq_some_iff] at hx
    obtain ⟨e, he, rfl⟩ := hx
    rw [hf]; exact h.2 _ e he
  · exact h.2 j x hx
/-- what was found, here and there -/
def FR (ρ : Rho) : Option (Nat × Value) → Option (Nat × Value) → Prop
  | none, none => True
  | some (x, v), some (y, v') => x = y ∧ VR ρ v v'
  | _, _ => False

theorem findNow_sim {l : List (Value × Value)} {l' : List MapEntry} (h : ML ρ l l') (d : TypeDesc) (k : Value) : ∀ (i : Nat) (r : Option (Nat × Value)),
    Instr.findNow d k (l.map fun (a, v) => ⟨a, v, 0⟩) i = some r → ∃ r', Instr.findNow d k l' i = some r' ∧ FR ρ r r' ∧ (∀ x v, r = some (x, v) → x < i + l.length) := by
  induction h with
  | nil => intro i r hr; simp only [List.map_nil, Instr.findNow, Option.some.injEq] at hr; subst hr; exact ⟨none, rfl, trivial, by simp⟩
  | @cons k0 v e l l' hf hk hv t ih =>
    intro i r hr
    simp only [List.map_cons, Instr.findNow] at hr ⊢
    rw [hk]
    split at hr
    · rename_i hs
      simp only [Option.some.injEq] at hr; subst hr
      exact ⟨some (i, e.val), rfl, ⟨rfl, hv⟩, fun x v q => by cases q; simp⟩
    · rename_i hs
      obtain ⟨r', h1, h2, h3⟩ := ih (i + 1) r hr
      refine ⟨r', h1, h2, fun x v e => by have := h3 x v e; simp; omega⟩
    · cases hr

theorem findA_sim {l : List (Value × Value)} {l' : List MapEntry} (h : ML ρ l l') (kT : TypeId) (k : Value) : ∀ (i : Nat) (r : Option (Nat × Value)),
    findA P kT k l i = some r → ∃ r', (Instr.findAsking kT k l' i).run P w = .ok r' w ∧ FR ρ r r' ∧ (∀ x v, r = some (x, v) → x < i + l.length) := by
  induction h with
  | nil => intro i r hr; simp only [findA, pure, Option.some.injEq] at hr; subst hr; exact ⟨none, by simp [Instr.findAsking], trivial, by simp⟩
  | @cons k0 v e l l' hf hk hv t ih =>
    intro i r hr
    simp only [findA, bind, Option.bind_eq_some_iff] at hr
    obtain ⟨b, hb, hr⟩ := hr
    have hrun := pv_run w hb
    cases b with
    | true =>
      simp only [if_true, pure, Option.some.injEq] at hr; subst hr
      exact ⟨some (i, e.val), by simp [Instr.findAsking, hk, hrun], ⟨rfl, hv⟩, fun x v q => by cases q; simp⟩
    | false =>
      simp only [Bool.false_eq_true, if_false] at hr
      obtain ⟨r', h1, h2, h3⟩ := ih (i + 1) r hr
      refine ⟨r', by simp [Instr.findAsking, hk, hrun, h1], h2, fun x v e => by have := h3 x v e; simp; omega⟩

theorem find_sim {l : List (Value × Value)} {l' : List MapEntry} (h : ML ρ l l') {kT : TypeId} {k : Value} {r : Option (Nat × Value)} (hr : findV P kT k l = some r) :
    ∃ r', (Instr.findKey kT k l').run P w = .ok r' w ∧ FR ρ r r' ∧ (∀ x v, r = some (x, v) → x < l.length) := by
  unfold findV at hr
  split at hr
  · rename_i i hu
    obtain ⟨r', h1, h2, h3⟩ := findNow_sim h (.int i) k 0 r hr
    exact ⟨r', by simp [Instr.findKey, run_und w hu, h1], h2, fun x v e => by simpa using h3 x v e⟩
  · rename_i hu
    obtain ⟨r', h1, h2, h3⟩ := findNow_sim h .string k 0 r hr
    exact ⟨r', by simp [Instr.findKey, run_und w hu, h1], h2, fun x v e => by simpa using h3 x v e⟩
  · rename_i fs hu
    obtain ⟨r', h1, h2, h3⟩ := findA_sim (P := P) (w := w) h kT k 0 r hr
    refine ⟨r', ?_, h2, fun x v e => by simpa using h3 x v e⟩
    cases h with
    | nil =>
      simp only [findA, pure, Option.some.injEq] at hr; subst hr
      simp only [Instr.findAsking, Sem.run_pure, Result.ok.injEq, and_true] at h1; subst h1
      simp [Instr.findKey, run_und w hu, Instr.findNow]
    | cons hf hk hv t =>
      have : ∀ x y, Instr.sameNow (.struct fs) x y = none := by intro x y; rfl
      simp [Instr.findKey, run_und w hu, Instr.findNow, this, h1]
  · simp [bad] at hr

theorem map_eq {t k e : TypeId} (h : mapT P t = some (k, e)) : P.underlying t = some (.map k e) := by
  unfold mapT at h
  split at h
  · rename_i a b hu; simp only [pure, Option.some.injEq, Prod.mk.injEq] at h; obtain ⟨rfl, rfl⟩ := h; exact hu
  · simp [bad] at h

theorem rows_sim (hr : HR ρ σ w) {x x' : Value} {es : List (Value × Value)} (hx : VR ρ x x') (h : rowsOf σ x = some es) :
    (x' = .map none ∧ es = [] ∨ ∃ r l E clk, x = .map (some r) ∧ σ.get r = some (.mp es) ∧ ρ r = some l ∧ x' = .map (some l.pb) ∧ w.heap[l.pb]? = some (.map E clk) ∧ ML ρ es E.toList ∧ MI E clk) := by
  unfold rowsOf at h
  split at h
  · simp only [pure, Option.some.injEq] at h; subst h
    exact .inl ⟨hx.inv_leaf rfl, rfl⟩
  · rename_i r
    obtain ⟨l, rfl, hl⟩ := hx.inv_map
    split at h
    · rename_i es' hg
      simp only [pure, Option.some.injEq] at h; subst h
      obtain ⟨E, clk, h1, h2, h3⟩ := hr.ob r _ l hg hl
      exact .inr ⟨r, l, E, clk, rfl, hg, hl, rfl, h1, h2, h3⟩
    · simp [bad] at h
  · simp [bad] at h

theorem run_getMap {b : Nat} {E : Array MapEntry} {clk : Nat} (h : w.heap[b]? = some (.map E clk)) : (getObj b).run P w = .ok (.map E clk) w := by
  simp only [getObj, Sem.run, h]

theorem found_sim {e : TypeId} {ok : Bool} {r r' : Option (Nat × Value)} {v : Value} (hrr : FR ρ r r') (h : foundV P e ok r = some v) :
    (∃ y u', r' = some (y, u') ∧ VR ρ v (if ok then .tuple #[u', .bool true] else u')) ∨
    (r' = none ∧ ∃ z, (zeroValue e).run P w = .ok z w ∧ VR ρ v (if ok then .tuple #[z, .bool false] else z)) := by
  unfold foundV at h
  cases r with
  | none =>
    cases r' with
    | some _ => exact hrr.elim
    | none =>
      simp only [bind, Option.bind_eq_some_iff, pure, Option.some.injEq] at h
      obtain ⟨z, hz, rfl⟩ := h
      obtain ⟨z1, z2, _⟩ := zero_eq w hz
      have hzz : VR ρ z z := by
        cases z <;> first | exact .agg (VL.of_leaf z2) | (refine .leaf ?_; simpa [Value.cells] using z2)
      right
      refine ⟨rfl, z, z1, ?_⟩
      cases ok with
      | true => exact .tuple (.cons hzz (.cons (.leaf rfl) .nil))
      | false => exact hzz
  | some q =>
    obtain ⟨x, u⟩ := q
    cases r' with
    | none => exact hrr.elim
    | some q' =>
      obtain ⟨y, u'⟩ := q'
      simp only [pure, Option.some.injEq] at h; subst h
      left
      refine ⟨y, u', rfl, ?_⟩
      cases ok with
      | true => exact .tuple (.cons hrr.2 (.cons (.leaf rfl) .nil))
      | false => exact hrr.2

theorem ML.isEmpty {l : List (Value × Value)} {E : Array MapEntry} (h : ML ρ l E.toList) : E.isEmpty = l.isEmpty := by
  rw [← Array.isEmpty_toList]
  generalize E.toList = l' at h
  cases h <;> rfl

theorem lookup_sim (hr : HR ρ σ w) {t : TypeId} {x x' k k' v : Value} {ok : Bool} (hx : VR ρ x x') (hk : VR ρ k k') (h : lookupV P σ t x k ok = some v) :
    ∃ v', (Instr.lookup t x' k' ok).run P w = .ok v' w ∧ VR ρ v v' := by
  unfold lookupV at h
  simp only [bind, Option.bind_eq_some_iff, want] at h
  obtain ⟨⟨kT, e⟩, hm, es, hes, u, hck, h⟩ := h
  split at h
  · rename_i hf
    simp only [bind, Option.bind_eq_some_iff] at h
    obtain ⟨r, hfind, h⟩ := h
    have hkk := flat1_eq hf hk
    subst hkk
    have hmap := map_eq hm
    have hckr := pv_run w hck
    rcases rows_sim hr hx hes with ⟨rfl, rfl⟩ | ⟨b, l, E, clk, _, hg, hl, rfl, hE, hML, _⟩
    · obtain ⟨r', h1, h2, _⟩ := find_sim (P := P) (w := w) (ML.nil (ρ := ρ)) hfind
      have : (#[] : Array MapEntry).isEmpty = ([] : List (Value × Value)).isEmpty := rfl
      rcases found_sim (w := w) h2 h with ⟨y, u', rfl, h4⟩ | ⟨rfl, z, h3, h4⟩
      all_goals
        refine ⟨_, ?_, h4⟩
        simp only [Instr.lookup, Sem.run_bind, run_und w hmap, Result.andThen_ok, Sem.run_pure]
        rw [this, hckr]
        simp only [Result.andThen_ok, h1, Sem.run_bind, Sem.run_pure, *]
    · obtain ⟨r', h1, h2, _⟩ := find_sim (P := P) (w := w) hML hfind
      have : E.isEmpty = es.isEmpty := hML.isEmpty
      rcases found_sim (w := w) h2 h with ⟨y, u', rfl, h4⟩ | ⟨rfl, z, h3, h4⟩
      all_goals
        refine ⟨_, ?_, h4⟩
        simp only [Instr.lookup, Sem.run_bind, run_und w hmap, Result.andThen_ok, run_getMap hE, Sem.run_pure]
        rw [this, hckr]
        simp only [Result.andThen_ok, h1, Sem.run_bind, Sem.run_pure, *]
  · simp [bad] at h

theorem run_setMap {b : Nat} {E E' : Array MapEntry} {clk clk' : Nat} (h : w.heap[b]? = some (.map E clk)) : (setObj b (.map E' clk')).run P w = .ok () { w with heap := w.heap.setIfInBounds b (.map E' clk') } := by
  simp only [setObj, Sem.run, h]

theorem update_sim (hr : HR ρ σ w) {t : TypeId} {x x' k k' v v' : Value} {σ' : St} (hx : VR ρ x x') (hk : VR ρ k k') (hv : VR ρ v v') (h : updateV P σ t x k v = some σ') :
    ∃ w', (Instr.mapUpdate t x' k' v').run P w = .ok () w' ∧ HR ρ σ' w' ∧ Ext ρ σ w ρ σ' w' := by
  unfold updateV at h
  simp only [bind, Option.bind_eq_some_iff, want] at h
  obtain ⟨⟨kT, e⟩, hm, h⟩ := h
  split at h
  · rename_i r
    simp only [bind, Option.bind_eq_some_iff] at h
    obtain ⟨es, hes, u, hck, h⟩ := h
    split at h
    · rename_i hf
      simp only [bind, Option.bind_eq_some_iff] at h
      obtain ⟨f, hfind, h⟩ := h
      have hkk := flat1_eq hf hk
      subst hkk
      have hmap := map_eq hm
      have hckr := pv_run w hck
      rcases rows_sim hr hx hes with ⟨h1, _⟩ | ⟨b, l, E, clk, hxe, hg, hl, rfl, hE, hML, hMI⟩
      · obtain ⟨l, rfl, _⟩ := hx.inv_map; cases h1
      · simp only [Value.map.injEq, Option.some.injEq] at hxe; subst hxe
        obtain ⟨f', h1, h2, h3⟩ := find_sim (P := P) (w := w) hML hfind
        have fin : ∀ (es' : List (Value × Value)) (E' : Array MapEntry) (clk' : Nat), ML ρ es' E'.toList → MI E' clk' →
            HR ρ (σ.set r (some (.mp es'))) { w with heap := w.heap.setIfInBounds l.pb (.map E' clk') } ∧ Ext ρ σ w ρ (σ.set r (some (.mp es'))) { w with heap := w.heap.setIfInBounds l.pb (.map E' clk') } := by
          intro es' E' clk' hM hI
          have hp : ∀ p, p ≠ l.pb → (w.heap.setIfInBounds l.pb (.map E' clk'))[p]? = w.heap[p]? := fun p hne => Array.getElem?_setIfInBounds_ne (by omega)
          have hlt : l.pb < w.heap.size := (Array.getElem?_eq_some_iff.1 hE).1
          exact ⟨hr.setBlk hg rfl hl rfl ⟨E', clk', by simp [hlt], hM, hI⟩ hp, Ext.setBlk hr hg rfl hl hp (by simp) rfl rfl rfl⟩
        unfold setRow at h
        cases f with
        | none =>
          simp only [pure, Option.some.injEq] at h; subst h
          cases f' with
          | some _ => exact h2.elim
          | none =>
            obtain ⟨g1, g2⟩ := fin (es ++ [(k', v)]) (E.push { key := k', val := v', born := clk }) (clk + 1) (by simpa using hML.snoc (e := { key := k', val := v', born := clk }) hf rfl hv) (hMI.push rfl)
            refine ⟨_, ?_, g1, g2⟩
            simp only [Instr.mapUpdate, Sem.run_bind, run_und w hmap, Result.andThen_ok, run_getMap hE, hckr, h1, run_setMap hE]
        | some q =>
          obtain ⟨i, u0⟩ := q
          cases f' with
          | none => exact h2.elim
          | some q' =>
            obtain ⟨j, u'⟩ := q'
            obtain ⟨rfl, _⟩ := h2
            simp only at h
            split at h
            · rename_i k0 v0 hi
              split at h
              · rename_i hsame
                simp only [pure, Option.some.injEq] at h; subst h
                obtain ⟨e0, he0, hek, hev, _⟩ := hML.get hi
                have he0' : E[i]? = some e0 := by simpa using he0
                obtain ⟨g1, g2⟩ := fin (es.set i (k', v)) (E.modify i fun e => { e with key := k', val := v' }) clk (by
                  have e1 : (E.modify i fun e => { e with key := k', val := v' }).toList = E.toList.set i { e0 with key := k', val := v' } := by
                    apply List.ext_getElem?
                    intro n
                    rw [Array.getElem?_toList, Array.getElem?_modify, List.getElem?_set]
                    by_cases hn : i = n
                    · subst hn
                      have hlt : i < E.size := (Array.getElem?_eq_some_iff.1 he0').1
                      rw [if_pos rfl, if_pos rfl, if_pos (by simpa using hlt), he0']
                      rfl
                    · simp [hn]
                  rw [e1]
                  exact hML.set i hf rfl hv) (hMI.modify i fun e => rfl)
                refine ⟨_, ?_, g1, g2⟩
                simp only [Instr.mapUpdate, Sem.run_bind, run_und w hmap, Result.andThen_ok, run_getMap hE, hckr, h1, he0', Option.map_some, Option.getD_some, hek, Instr.keyThatStays, hsame, if_true, Sem.run_pure, run_setMap hE]
              · simp [bad] at h
            · simp [bad] at h
    · simp [bad] at h
  · simp [bad] at h

theorem ML.one {k v : Value} {E : Array MapEntry} (h : ML ρ [(k, v)] E.toList) : ∃ e, E = #[e] ∧ e.key = k ∧ flat1 k = true ∧ VR ρ v e.val := by
  generalize hl : E.toList = l at h
  cases h with
  | cons hf hk hv t =>
    cases t with
    | nil => rename_i e; exact ⟨e, by rw [← Array.toList_inj, hl], hk, hf, hv⟩
theorem ML.none {E : Array MapEntry} (h : ML ρ [] E.toList) : E = #[] := by
  generalize hl : E.toList = l at h
  cases h
  rw [← Array.toList_inj, hl]
end ops
end Go.Proofs.Ytbhjhffglcipbaa.AS
namespace Go.Proofs.Ytbhjhffglcipbaa.AS
open Go
set_option linter.unusedSectionVars false
variable [Sym] [Orc]
set_option linter.unusedVariables false
set_option linter.unusedSimpArgs false

/-- what is told of operations on symbols is true -/
class OrcOK (P : Program) : Prop where
  wins : ∀ f ∈ Orc.wins, f ∈ Sym.wins
  look : ∀ t tag k ok v, Orc.look t tag k ok = some v → ∀ (ρ : Rho) (k' : Value) (w : World) (r : Nat), VR ρ k k' → ∀ (ob : Obj), w.heap[r]? = some ob → Sym.ext tag ob r →
    ∃ v', (Instr.lookup t (.map (some r)) k' ok).run P w = .ok v' w ∧ VR ρ v v'
  upd : ∀ t tag k x tag', Orc.upd t tag k x = some tag' → ∀ (ρ : Rho) (k' x' : Value) (w : World) (r : Nat), VR ρ k k' → VR ρ x x' → ∀ (ob : Obj), w.heap[r]? = some ob → Sym.ext tag ob r →
    ∃ ob', Sym.ext tag' ob' r ∧ (Instr.mapUpdate t (.map (some r)) k' x').run P w = .ok () { w with heap := w.heap.setIfInBounds r ob' }
  ok : ∀ (o : Oper) (ev : Operand → Value) (v : Value), Orc.orc o ev = some v → ∀ (ρ : Rho) (ev' : Operand → Value) (w : World), (∀ x ∈ o.op.operands, VR ρ (ev x) (ev' x)) →
    ∃ v', (execOp ev' o).run P w = .ok (.value v') w ∧ VR ρ v v'

section ops
variable {P : Program} [OrcOK P] {ρ : Rho} {σ : St} {w : World}

theorem OpR.val0 {s : Sem Next} {v : Value} {v' : Value} (hr : HR ρ σ w) (h : s.run P w = .ok (.value v') w) (hv : VR ρ v v') : OpR P ρ σ w s (.val v) σ :=
  ⟨ρ, w, Ext.refl hr, hr, v', h, hv⟩

theorem plain_sim (hr : HR ρ σ w) {ev ev' : Operand → Value} {o : Oper} (hX : ∀ x ∈ o.op.operands, VR ρ (ev x) (ev' x)) (hsel : ∀ cs b, o.op ≠ .select cs b) {ne : Ne} {σ' : St} (h : plainV P σ ev o = some (ne, σ')) :
    OpR P ρ σ w (execOp ev' o) ne σ' := by
  unfold plainV at h
  split at h
  · rename_i hall
    have heq : execOp ev' o = execOp ev o := by
      refine execOp_congr o hsel fun x hx => flat_eq ?_ (hX x hx)
      exact List.all_eq_true.1 hall x (by simpa using hx)
    split at h
    · rename_i v hpv
      split at h
      · rename_i hf
        simp only [pure, Option.some.injEq, Prod.mk.injEq] at h
        obtain ⟨rfl, rfl⟩ := h
        rw [heq]
        exact .val0 hr (pv_run w hpv) (flat_VR hf)
      · simp [bad] at h
    · simp [bad] at h
  · split at h
    · rename_i v ho
      split at h
      · simp only [pure, Option.some.injEq, Prod.mk.injEq] at h
        obtain ⟨rfl, rfl⟩ := h
        obtain ⟨v', h1, h2⟩ := OrcOK.ok (P := P) o ev v ho ρ ev' w hX
        exact .val0 hr h1 h2
      · simp [bad] at h
    · simp [bad] at h

theorem VL.mapOps {ev ev' : Operand → Value} (xs : Array Operand) (h : ∀ x ∈ xs, VR ρ (ev x) (ev' x)) : VL ρ (xs.map ev).toList (xs.map ev').toList := by
  simp only [Array.toList_map]
  exact VL.map2 xs.toList ev ev' (fun x hx => h x (by simpa using hx))

theorem OR.map {ev ev' : Operand → Value} (x : Option Operand) (h : ∀ y, x = some y → VR ρ (ev y) (ev' y)) : OR ρ (x.map ev) (x.map ev') := by
  cases x with
  | none => trivial
  | some y => exact h y rfl

theorem eqGuard_none (op : BinOp) (t : TypeId) (p q : Operand) (x y : Value) (h : ∀ c d, ¬ (x = .agg c ∧ y = .agg d)) (h2 : ¬ (x = .nilIface ∧ y = .nilIface)) : (eqGuard op t p q x y).run P w = .ok () w := by
  unfold eqGuard
  split <;> (cases x <;> cases y <;> first | rfl | exact absurd ⟨rfl, rfl⟩ (h _ _) | exact absurd ⟨rfl, rfl⟩ h2)

section eq
variable {t : TypeId} (d : Nat) (w : World)
theorem eq_pn {e : TypeId} {a : Addr} (hu : P.underlying t = some (.pointer e)) : (Op.equalIn (d + 1) t (.pointer (some a)) (.pointer none)).run P w = .ok false w := by simp [Op.equalIn, run_und w hu]
theorem eq_np {e : TypeId} {a : Addr} (hu : P.underlying t = some (.pointer e)) : (Op.equalIn (d + 1) t (.pointer none) (.pointer (some a))).run P w = .ok false w := by simp [Op.equalIn, run_und w hu]
theorem eq_sn {e : TypeId} {a : Addr} {n c m k : Nat} (hu : P.underlying t = some (.slice e)) : (Op.equalIn (d + 1) t (.slice (some a) n c) (.slice none m k)).run P w = .ok false w := by simp [Op.equalIn, run_und w hu]
theorem eq_ns {e : TypeId} {a : Addr} {n c m k : Nat} (hu : P.underlying t = some (.slice e)) : (Op.equalIn (d + 1) t (.slice none m k) (.slice (some a) n c)).run P w = .ok false w := by simp [Op.equalIn, run_und w hu]
theorem eq_mn {k e : TypeId} {a : Nat} (hu : P.underlying t = some (.map k e)) : (Op.equalIn (d + 1) t (.map (some a)) (.map none)).run P w = .ok false w := by simp [Op.equalIn, run_und w hu]
theorem eq_nm {k e : TypeId} {a : Nat} (hu : P.underlying t = some (.map k e)) : (Op.equalIn (d + 1) t (.map none) (.map (some a))).run P w = .ok false w := by simp [Op.equalIn, run_und w hu]
theorem eq_fn {ps rs : Array TypeId} {v : Bool} {f : Fn} {p c : Array Value} (hu : P.underlying t = some (.func ps rs v)) : (Op.equalIn (d + 1) t (.func f p c) .nilFunc).run P w = .ok false w := by simp [Op.equalIn, run_und w hu]
theorem eq_nf {ps rs : Array TypeId} {v : Bool} {f : Fn} {p c : Array Value} (hu : P.underlying t = some (.func ps rs v)) : (Op.equalIn (d + 1) t .nilFunc (.func f p c)).run P w = .ok false w := by simp [Op.equalIn, run_und w hu]
end eq

theorem nilEq_sim {t : TypeId} {x x' y y' : Value} {b : Bool} (hx : VR ρ x x') (hy : VR ρ y y') (h : nilEq P t x y = some b) : (Op.equal t x' y').run P w = .ok b w ∧
    (∀ (op : BinOp) (p q : Operand), (eqGuard op t p q x' y').run P w = .ok () w) ∧ (binOp .eql t x' y' = (do pure (.bool (← Op.equal t x' y')))) ∧ (binOp .neq t x' y' = (do pure (.bool (!(← Op.equal t x' y'))))) := by
  unfold nilEq at h
  split at h
  · rename_i e a hu
    simp only [Option.some.injEq] at h; subst h
    obtain ⟨a', rfl, _⟩ := hx.inv_ptr
    have := hy.inv_leaf rfl; subst this
    refine ⟨?_, fun op p q => eqGuard_none _ _ _ _ _ _ (by simp) (by simp), rfl, rfl⟩
    exact eq_pn 9999 w hu
  · rename_i e a hu
    simp only [Option.some.injEq] at h; subst h
    obtain ⟨a', rfl, _⟩ := hy.inv_ptr
    have := hx.inv_leaf rfl; subst this
    refine ⟨?_, fun op p q => eqGuard_none _ _ _ _ _ _ (by simp) (by simp), rfl, rfl⟩
    exact eq_np 9999 w hu
  · rename_i e a n c m d hu
    simp only [Option.some.injEq] at h; subst h
    obtain ⟨a', c', rfl, _⟩ := hx.inv_slice
    have := hy.inv_leaf rfl; subst this
    refine ⟨?_, fun op p q => eqGuard_none _ _ _ _ _ _ (by simp) (by simp), rfl, rfl⟩
    exact eq_sn 9999 w hu
  · rename_i e n c a m d hu
    simp only [Option.some.injEq] at h; subst h
    obtain ⟨a', c', rfl, _⟩ := hy.inv_slice
    have := hx.inv_leaf rfl; subst this
    refine ⟨?_, fun op p q => eqGuard_none _ _ _ _ _ _ (by simp) (by simp), rfl, rfl⟩
    exact eq_ns 9999 w hu
  · rename_i k e a hu
    simp only [Option.some.injEq] at h; subst h
    obtain ⟨l, rfl, _⟩ := hx.inv_map
    have := hy.inv_leaf rfl; subst this
    refine ⟨?_, fun op p q => eqGuard_none _ _ _ _ _ _ (by simp) (by simp), rfl, rfl⟩
    exact eq_mn 9999 w hu
  · rename_i k e a hu
    simp only [Option.some.injEq] at h; subst h
    obtain ⟨l, rfl, _⟩ := hy.inv_map
    have := hx.inv_leaf rfl; subst this
    refine ⟨?_, fun op p q => eqGuard_none _ _ _ _ _ _ (by simp) (by simp), rfl, rfl⟩
    exact eq_nm 9999 w hu
  · rename_i ps rs v fn p c hu
    simp only [Option.some.injEq] at h; subst h
    have := hy.inv_leaf rfl; subst this
    have hx' : ∃ fn' p' c', x' = .func fn' p' c' := by cases hx <;> exact ⟨_, _, _, rfl⟩
    obtain ⟨fn', p', c', rfl⟩ := hx'
    refine ⟨?_, fun op p q => eqGuard_none _ _ _ _ _ _ (by simp) (by simp), rfl, rfl⟩
    exact eq_fn 9999 w hu
  · rename_i ps rs v fn p c hu
    simp only [Option.some.injEq] at h; subst h
    have := hx.inv_leaf rfl; subst this
    have hy' : ∃ fn' p' c', y' = .func fn' p' c' := by cases hy <;> exact ⟨_, _, _, rfl⟩
    obtain ⟨fn', p', c', rfl⟩ := hy'
    refine ⟨?_, fun op p q => eqGuard_none _ _ _ _ _ _ (by simp) (by simp), rfl, rfl⟩
    exact eq_nf 9999 w hu
  · cases h

theorem enter_sim {f : FuncId} {args : List Value} {ne : Ne} (h : enterV P f args = some ne) (args' : List Value) : ne = .enter f args ∧ (callFunc f args'.toArray).run P w = .ok (.enter f args'.toArray) w := by
  unfold enterV at h
  split at h
  · rename_i fn hf
    split at h
    · rename_i hb
      simp only [pure, Option.some.injEq] at h; subst h
      simp only [Bool.and_eq_true, Bool.not_eq_true'] at hb
      refine ⟨rfl, ?_⟩
      have h1 : fn.body.isNone = false := by cases hq : fn.body <;> simp_all
      simp only [callFunc, Sem.run_bind, run_program, Result.andThen_ok, hf, hb.2, Bool.false_eq_true, if_false, h1, Sem.run_pure]
    · simp [bad] at h
  · simp [bad] at h

theorem fill_PL {ev ev' : Operand → Value} (ps : Array (Nat × Operand)) (h : ∀ x ∈ (ps.toList.map (·.2)), VR ρ (ev x) (ev' x)) (hj : (ps.toList.all fun (_, x) => notJunk (ev x)) = true) :
    PL ρ (ps.toList.map fun (i, x) => (i, ev x)) (ps.map fun (i, x) => (i, ev' x)).toList := by
  rw [Array.toList_map]
  exact PL.map ps.toList (·.1) (fun p => ev p.2) (fun p => ev' p.2) (fun x hx => h x.2 (List.mem_map.2 ⟨x, hx, rfl⟩)) (fun x hx => List.all_eq_true.1 hj x hx)

theorem val0_op {s : Sem Value} {v v' : Value} (hr : HR ρ σ w) (h : s.run P w = .ok v' w) (hv : VR ρ v v') : OpR P ρ σ w (do pure (.value (← s))) (.val v) σ :=
  (ValR.same hr h hv).op

theorem skip_op {s : Sem Unit} {σ' : St} {w' : World} (h : s.run P w = .ok () w') (hr : HR ρ σ' w') (hx : Ext ρ σ w ρ σ' w') : OpR P ρ σ w (do s; pure .skip) .skip σ' :=
  ⟨ρ, w', hx, hr, by simp [h]⟩

/-! a map whose rows are told elsewhere -/
theorem extOf_eq {x : Value} {r tag : Nat} (h : extOf σ x = some (r, tag)) : x = .map (some r) ∧ σ.get r = some (.ext tag) ∧ Nat.beq (tag % 2) 0 = true := by
  unfold extOf at h
  split at h
  · split at h
    · rename_i hg
      split at h
      · rename_i he
        simp only [Option.some.injEq, Prod.mk.injEq] at h
        obtain ⟨rfl, rfl⟩ := h
        exact ⟨rfl, hg, he⟩
      · cases h
    · cases h
  · cases h
theorem lookupW_sim (hr : HR ρ σ w) {t : TypeId} {x x' k k' v : Value} {ok : Bool} (hx : VR ρ x x') (hk : VR ρ k k') (h : lookupW P σ t x k ok = some v) :
    ∃ v', (Instr.lookup t x' k' ok).run P w = .ok v' w ∧ VR ρ v v' := by
  unfold lookupW at h
  split at h
  · rename_i r tag he
    obtain ⟨rfl, hg, _⟩ := extOf_eq he
    obtain ⟨l, rfl, hl⟩ := hx.inv_map
    split at h
    · rename_i u hu
      simp only [pure, Option.some.injEq] at h; subst h
      obtain ⟨ob, o1, o2⟩ := hr.ob r _ l hg hl
      exact OrcOK.look (P := P) t tag k ok u hu ρ k' w l.pb hk ob o1 o2
    · simp [bad] at h
  · exact lookup_sim hr hx hk h
theorem updateW_sim (hr : HR ρ σ w) {t : TypeId} {x x' k k' v v' : Value} {σ' : St} (hx : VR ρ x x') (hk : VR ρ k k') (hv : VR ρ v v') (h : updateW P σ t x k v = some σ') :
    ∃ w', (Instr.mapUpdate t x' k' v').run P w = .ok () w' ∧ HR ρ σ' w' ∧ Ext ρ σ w ρ σ' w' := by
  unfold updateW at h
  split at h
  · rename_i r tag he
    obtain ⟨rfl, hg, hev⟩ := extOf_eq he
    obtain ⟨l, rfl, hl⟩ := hx.inv_map
    split at h
    · rename_i tag' hu
      split at h
      case isFalse => simp [bad] at h
      rename_i HEV
      simp only [pure, Option.some.injEq] at h; subst h
      obtain ⟨ob, o1, o2⟩ := hr.ob r _ l hg hl
      obtain ⟨ob', o3, hrun⟩ := OrcOK.upd (P := P) t tag k v tag' hu ρ k' v' w l.pb hk hv ob o1 o2
      have hp : ∀ p, p ≠ l.pb → (w.heap.setIfInBounds l.pb ob')[p]? = w.heap[p]? := fun p hne => Array.getElem?_setIfInBounds_ne (by omega)
      have hlt : l.pb < w.heap.size := (Array.getElem?_eq_some_iff.1 o1).1
      exact ⟨_, hrun, hr.setBlk hg hev hl HEV ⟨ob', by show (w.heap.setIfInBounds l.pb _)[l.pb]? = _; simp [hlt], o3⟩ hp, Ext.setBlk hr hg hev hl hp (by simp) rfl rfl rfl⟩
    · simp [bad] at h
  · exact update_sim hr hx hk hv h

/-! an element of a slice that is a symbol -/
theorem idx_conc {i i' k : Value} (hi : VR ρ i i') (h : idxSame k i = true) : i' = idxVal k := by
  unfold idxSame at h
  split at h
  · simp only [Bool.and_eq_true, decide_eq_true_eq] at h
    obtain ⟨rfl, rfl⟩ := h
    exact hi.inv_leaf rfl
  · have := of_beq h; subst this
    cases hi with
    | leaf h => simp [AS.leaf] at h
    | sym h => exact h.symm
  · cases h
theorem indexW_sim (hr : HR ρ σ w) {t : TypeId} {x x' i i' v : Value} (hx : VR ρ x x') (hi : VR ρ i i') (h : indexW P t x i = some v) :
    ∃ v', (Instr.indexAt t x' i').run P w = .ok v' w ∧ VR ρ v v' := by
  unfold indexW at h
  split at h
  · rename_i s
    simp only [bind, Option.bind_eq_some_iff] at h
    obtain ⟨e, he, z, hz, h⟩ := h
    have hu : P.underlying t = some (.slice e) := by
      split at he
      · rename_i e' hu; simp only [pure, Option.some.injEq] at he; subst he; exact hu
      · simp [bad] at he
    split at h
    · rename_i f hf
      simp only [pure, Option.some.injEq] at h; subst h
      have hb := List.find?_some hf
      simp only [winB, Bool.and_eq_true] at hb
      obtain ⟨⟨b1, b2⟩, b3⟩ := hb
      have b1 := of_beq b1; have b2 := of_beq b2
      subst b1 b2
      obtain ⟨x0, n, c, kd, j, l, k1, k2, k3, k4, k5, k6, k7, k8⟩ := hr.win f (OrcOK.wins P f (List.mem_of_find?_eq_some hf))
      have hi' := idx_conc hi b3
      rw [k2] at hi'
      subst hi'
      cases hx with
      | leaf h => simp [AS.leaf] at h
      | sym h =>
        rw [k1] at h
        subst h
        refine ⟨.pointer (some (x0.add (j.toNat * f.z))), ?_, .ptr ⟨rfl, ?_, l, k5, ?_, ?_⟩⟩
        · simp [Instr.indexAt, asIntOf, run_und w hu, k3, k4, run_size w hz]
        · rw [add_eq k6]
        · rw [add_eq k6]; exact k7.symm
        · rw [add_eq k6]; simp [k8]
    · simp [bad] at h
  · exact indexA_sim hx hi h

/-! unsafe.SliceData, unsafe.String: a strings.Builder's String -/
theorem sliceData_sim (ts : Array TypeId) (ty : TypeId) {l : List Value} {A : Array Value} {v : Value} (hargs : VL ρ l A.toList) (h : sliceDataV l = some v) :
    ∃ v', (Builtin.unsafeSliceData_ ts ty A).run P w = .ok v' w ∧ VR ρ v v' := by
  unfold sliceDataV at h
  split at h
  · rename_i b o n c
    split at h
    · rename_i hc
      have hc := of_blt hc
      simp only [pure, Option.some.injEq] at h; subst h
      obtain ⟨xs⟩ := A
      cases hargs with
      | cons hx ht =>
        cases ht
        obtain ⟨a', c', rfl, hva⟩ := hx.inv_slice
        rcases hva with ⟨hva, hcap⟩ | ⟨_, e2, _⟩
        · have hc' : c' ≠ 0 := by
            rcases hcap with q | ⟨_, _, q, _⟩ <;> omega
          exact ⟨.pointer (some a'), Lib.run_unsafeSliceData_row w ts ty a' n c' hc', .ptr hva⟩
        · omega
    · simp [bad] at h
  · simp [bad] at h

theorem freeze_eq (w : World) (a : Addr) (n : Nat) : (w.freeze a n).os = w.os ∧ (w.freeze a n).tape = w.tape ∧ (w.freeze a n).output = w.output ∧ (w.freeze a n).heap.size = w.heap.size ∧ ∀ p, p ≠ a.block → (w.freeze a n).heap[p]? = w.heap[p]? := by
  unfold World.freeze
  split
  · exact ⟨rfl, rfl, rfl, rfl, fun _ _ => rfl⟩
  · refine ⟨rfl, rfl, rfl, by simp, fun p hp => ?_⟩
    simp only [Array.getElem?_modify]
    rw [if_neg (Ne.symm hp)]

theorem unsafeStr_sim (hr : HR ρ σ w) (ty : TypeId) {ts : Array TypeId} {l : List Value} {A : Array Value} {v : Value} {σ' : St} (hargs : VL ρ l A.toList) (h : unsafeStrV P σ ts l = some (v, σ')) :
    ValR P ρ σ w (Builtin.unsafeString_ ts ty A) v σ' := by
  unfold unsafeStrV at h
  split at h
  · rename_i pt it b n hts
    split at h
    · rename_i e cs u t hu hg
      split at h
      · rename_i hc
        simp only [Bool.and_eq_true, decide_eq_true_eq] at hc
        obtain ⟨⟨⟨⟨⟨c1, c2⟩, c3⟩, c4⟩, c5⟩, c6⟩ := hc
        have c1 := of_beq c1; have c2 := of_beq c2; have c4 := of_ble c4; have c5 := of_ble c5
        subst c1
        simp only [bind, Option.bind_eq_some_iff, pure, Option.some.injEq, Prod.mk.injEq] at h
        obtain ⟨l, hl, rfl, rfl⟩ := h
        obtain ⟨xs⟩ := A
        obtain rfl : ts = #[pt, it] := by apply Array.toList_inj.1; rw [hts]
        cases hargs with
        | cons hx ht =>
          cases ht with
          | cons hy ht =>
            cases ht
            have hy := hy.inv_leaf rfl; subst hy
            obtain ⟨p', rfl, hva⟩ := hx.inv_ptr
            obtain ⟨lo, hl1, hl2, hl3⟩ := hva.at_
            obtain ⟨q1, q2, q3, q4, C, t', fr, q5, q6, q7, q8, q9⟩ := hr.ob b _ lo hg hl1
            obtain ⟨rfl, z1, z2, z3, _⟩ := q9 _ rfl
            obtain rfl : p' = ⟨lo.pb, 0, none⟩ := by have := hva.s'; cases p'; simp_all
            obtain ⟨ns, hns, rfl⟩ := bytesOf_eq hl
            have hlen : ns.length = n.toNat := by
              have := congrArg List.length hns
              rw [List.length_take, List.length_map] at this; omega
            have hnl : (n.toNat : Int) = n := by omega
            have hrun := Lib.run_unsafeString_row (P := P) w pt it ty t' hu c2 lo.pb C.size (by simp [World.shape?, q5]) (ns.map fun n => UInt8.ofNat n.toNat) (by intro e; have h0 := congrArg List.length e; rw [List.length_map, hlen, List.length_nil] at h0; omega)
              (by rw [List.length_map, hlen]; omega) (by rw [List.length_map, hlen]; unfold most at c5; omega) (by
                intro j x hx
                rw [List.getElem?_map, Option.map_eq_some_iff] at hx
                obtain ⟨m, hm, rfl⟩ := hx
                have hcj : cs[j]? = some (.int .u8 m) := by
                  have h1 : (cs.take n.toNat)[j]? = some (.int .u8 m) := by rw [hns, List.getElem?_map, hm]; rfl
                  have hj : j < ns.length := (List.getElem?_eq_some_iff.1 hm).1
                  rwa [List.getElem?_take, if_pos (by omega)] at h1
                have hok : byteOK (.int .u8 m) = true := by
                  refine List.all_eq_true.1 c6 _ ?_
                  rw [hns]; exact List.mem_map.2 ⟨m, List.mem_of_getElem? hm, rfl⟩
                simp only [byteOK, Bool.and_eq_true, decide_eq_true_eq] at hok
                obtain ⟨v', k1, k2⟩ := q8 j _ hcj
                have := k2.inv_leaf rfl; subst this
                have hm2 : ((UInt8.ofNat m.toNat).toNat : Int) = m := by simp; omega
                rw [hm2, add_eq rfl]
                rw [z1] at k1
                simp only [World.cell?, q5]
                simpa using k1)
            rw [List.length_map, hlen, hnl] at hrun
            obtain ⟨f1, f2, f3, f4, f5⟩ := freeze_eq w ⟨lo.pb, 0, none⟩ n.toNat
            exact ⟨ρ, _, _, Ext.killAt hr hg rfl hl1 f5 f4 f1 f2 f3, hr.killAt hg rfl hl1 f5, hrun, .leaf rfl⟩
      · simp [bad] at h
    · simp [bad] at h
  · simp [bad] at h

/-! a map of at most one row, ranged over -/
theorem range_sim (hr : HR ρ σ w) {t : TypeId} {x x' v : Value} {σ' : St} (hx : VR ρ x x') (h : rangeV P σ t x = some (v, σ')) : ValR P ρ σ w (Instr.range t x') v σ' := by
  unfold rangeV at h
  split at h
  · rename_i k e r hu
    obtain ⟨l, rfl, hl⟩ := hx.inv_map
    split at h
    · rename_i es hg
      simp only [bind, Option.bind_eq_some_iff, pure, Option.some.injEq] at h
      obtain ⟨⟨b, σ2⟩, hn, h⟩ := h
      simp only [Prod.mk.injEq] at h; obtain ⟨rfl, rfl⟩ := h
      obtain ⟨E, clk, hE, hML, hMI⟩ := hr.ob r _ l hg hl
      have hlen : clk = es.length := by have := hML.length; rw [hMI.1, this, Array.length_toList]
      subst hlen
      obtain ⟨rfl, _, _⟩ := St.new_eq hn
      let li : Loc := ⟨w.heap.size, 0, 1, 0, 0, false⟩
      obtain ⟨k1, k2, k3⟩ := hr.new (l := li) (ob := .mapIter (some l.pb) es.length #[] es.length) hn rfl
        ⟨rfl, l, es.length, Rho.put_le (hr.dom _ (Nat.le_refl _)) _ _ hl, by show (w.heap.push _)[w.heap.size]? = _; simp, by simp⟩
      refine ⟨_, _, .pointer (some ⟨w.heap.size, 0, none⟩), k2, k1, ?_, .ptr ⟨rfl, rfl, li, Rho.put_self _ _ _, rfl, rfl⟩⟩
      simp [Instr.range, run_und w hu, run_getMap hE]
    · simp [bad] at h
  · simp [bad] at h

theorem run_getIter {b : Nat} {m : Option Nat} {s st : Nat} {seen : Array Nat} (h : w.heap[b]? = some (.mapIter m s seen st)) : (getObj b).run P w = .ok (.mapIter m s seen st) w := by
  simp only [getObj, Sem.run, h]
theorem run_setIter {b : Nat} {m m' : Option Nat} {s st s' st' : Nat} {seen seen' : Array Nat} (h : w.heap[b]? = some (.mapIter m s seen st)) : (setObj b (.mapIter m' s' seen' st')).run P w = .ok () { w with heap := w.heap.setIfInBounds b (.mapIter m' s' seen' st') } := by
  simp only [setObj, Sem.run, h]

theorem next_sim (hr : HR ρ σ w) (ty : TypeId) {x x' v : Value} {s : Bool} {σ' : St} (hx : VR ρ x x') (h : nextV σ x s = some (v, σ')) : ValR P ρ σ w (Instr.next x' s ty) v σ' := by
  unfold nextV at h
  split at h
  · rename_i b
    obtain ⟨p', rfl, hva⟩ := hx.inv_ptr
    obtain ⟨l, hl, h1, h2⟩ := hva.at_
    split at h
    · rename_i mb since seen hg
      obtain ⟨hpo, lm, stepped, hlm, hheap, hst⟩ := hr.ob b _ l hg hl
      obtain rfl : p' = ⟨l.pb, 0, none⟩ := by
        have := hva.s'
        cases p'; simp_all
      split at h
      · rename_i hgm
        obtain ⟨E, clk, hE, hML, hMI⟩ := hr.ob mb _ lm hgm hlm
        obtain rfl := hML.none
        cases seen with
        | true => simp [bad] at h
        | false =>
          simp only [Bool.false_eq_true, if_false, pure, Option.some.injEq, Prod.mk.injEq] at h
          obtain ⟨rfl, rfl⟩ := h
          refine ValR.same (v' := .tuple #[.bool false]) hr ?_ (.tuple (.cons (.leaf rfl) .nil))
          simp only [Bool.false_eq_true, if_false] at hheap
          simp [Instr.next, run_getIter hheap, run_getMap hE, Question.forced]
      · rename_i k u hgm
        obtain ⟨E, clk, hE, hML, hMI⟩ := hr.ob mb _ lm hgm hlm
        obtain ⟨e, rfl, hk, hf, hv⟩ := hML.one
        have hclk : clk = 1 := hMI.1
        have hborn : e.born = 0 := hMI.2 0 e rfl
        subst hclk
        cases seen with
        | true =>
          simp only [if_true, pure, Option.some.injEq, Prod.mk.injEq] at h
          obtain ⟨rfl, rfl⟩ := h
          refine ValR.same (v' := .tuple #[.bool false]) hr ?_ (.tuple (.cons (.leaf rfl) .nil))
          simp only [if_true] at hheap
          have hst := hst rfl
          subst hst
          simp [Instr.next, run_getIter hheap, run_getMap hE, Question.forced, hborn]
        | false =>
          simp only [Bool.false_eq_true, if_false] at h
          split at h
          · rename_i hs
            have hs := of_blt hs
            simp only [pure, Option.some.injEq, Prod.mk.injEq] at h
            obtain ⟨rfl, rfl⟩ := h
            simp only [Bool.false_eq_true, if_false] at hheap
            have hp : ∀ p, p ≠ l.pb → (w.heap.setIfInBounds l.pb (.mapIter (some lm.pb) since #[0] 1))[p]? = w.heap[p]? := fun p hne => Array.getElem?_setIfInBounds_ne (by omega)
            have hlt : l.pb < w.heap.size := (Array.getElem?_eq_some_iff.1 hheap).1
            refine ⟨ρ, { w with heap := w.heap.setIfInBounds l.pb (.mapIter (some lm.pb) since #[0] 1) }, .tuple #[.bool true, k, e.val],
              Ext.setBlk hr hg rfl hl hp (by simp) rfl rfl rfl, hr.setBlk hg rfl hl rfl ⟨hpo, lm, 1, hlm, by simp [hlt], fun _ => rfl⟩ hp, ?_, .tuple (.cons (.leaf rfl) (.cons (flat1_VR hf) (.cons hv .nil)))⟩
            have h4 : ¬ since = 0 := by omega
            have h5 : ¬ since ≤ 0 := by omega
            simp [Instr.next, run_getIter hheap, run_getMap hE, Question.forced, hborn, hs, h4, List.filter_cons, run_setIter hheap, hk]
          · simp [bad] at h
      · simp [bad] at h
    · simp [bad] at h
  · simp [bad] at h

theorem entry_sim (hr : HR ρ σ w) {x x' v : Value} (hx : VR ρ x x') (h : entryV σ x = some v) : ∃ v', (Instr.entry x').run P w = .ok v' w ∧ VR ρ v v' := by
  unfold entryV at h
  split at h
  · rename_i b
    obtain ⟨p', rfl, hva⟩ := hx.inv_ptr
    obtain ⟨l, hl, h1, h2⟩ := hva.at_
    split at h
    · rename_i mb since hg
      obtain ⟨hpo, lm, stepped, hlm, hheap, hst⟩ := hr.ob b _ l hg hl
      obtain rfl : p' = ⟨l.pb, 0, none⟩ := by
        have := hva.s'
        cases p'; simp_all
      split at h
      · rename_i k u hgm
        obtain ⟨E, clk, hE, hML, hMI⟩ := hr.ob mb _ lm hgm hlm
        obtain ⟨e, rfl, hk, hf, hv⟩ := hML.one
        have hclk : clk = 1 := hMI.1
        have hborn : e.born = 0 := hMI.2 0 e rfl
        subst hclk
        simp only [pure, Option.some.injEq] at h; subst h
        simp only [if_true] at hheap
        have hst := hst rfl
        subst hst
        exact ⟨.tuple #[e.key, e.val], by simp [Instr.entry, run_getIter hheap, run_getMap hE, hborn], .tuple (.cons (by rw [hk]; exact flat1_VR hf) (.cons hv .nil))⟩
      · simp [bad] at h
    · simp [bad] at h
  · simp [bad] at h

theorem op_sim (hr : HR ρ σ w) {ev ev' : Operand → Value} {o : Oper} (hX : ∀ x ∈ o.op.operands, VR ρ (ev x) (ev' x)) {ne : Ne} {σ' : St} (h : opV P σ ev o = some (ne, σ')) :
    OpR P ρ σ w (execOp ev' o) ne σ' := by
  obtain ⟨dst, op, type, pos, after, guard⟩ := o
  cases op <;> simp only [opV] at h <;> simp only [Op.operands] at hX
  case move x =>
    simp only [pure, Option.some.injEq, Prod.mk.injEq] at h; obtain ⟨rfl, rfl⟩ := h
    exact .val0 hr rfl (hX x (by simp))
  case assign x =>
    simp only [pure, Option.some.injEq, Prod.mk.injEq] at h; obtain ⟨rfl, rfl⟩ := h
    exact .val0 hr rfl (hX x (by simp))
  case pick c a b =>
    split at h
    · rename_i t ht
      simp only [pure, Option.some.injEq, Prod.mk.injEq] at h; obtain ⟨rfl, rfl⟩ := h
      have hc := hX c (by simp)
      rw [ht] at hc
      have hc := hc.inv_leaf rfl
      refine .val0 (v' := if t then ev' a else ev' b) hr ?_ ?_
      · simp only [execOp, Sem.run_bind, asBool, hc, Sem.run_pure, Result.andThen_ok]
      · cases t
        · exact hX b (by simp)
        · exact hX a (by simp)
    · simp [bad] at h
  case alloc e =>
    simp only [v1, bind, Option.bind_eq_some_iff, pure, Option.some.injEq] at h
    obtain ⟨⟨v, σ1⟩, ⟨z, hz, hn⟩, h⟩ := h
    simp only [Prod.mk.injEq] at h; obtain ⟨rfl, rfl⟩ := h
    obtain ⟨z1, z2, _⟩ := zero_eq w hz
    obtain ⟨ρ', k1, k2, k3⟩ := newP_sim hr e (VL.of_leaf (ρ := ρ) z2) hn
    exact ValR.op ⟨ρ', _, _, k2, k1, by simp [Instr.alloc, z1, newVar, newRow], k3⟩
  case box e x =>
    split at h
    case isFalse => simp [bad] at h
    rename_i hj
    simp only [v1, bind, Option.bind_eq_some_iff, pure, Option.some.injEq] at h
    obtain ⟨⟨v, σ1⟩, hn, h⟩ := h
    simp only [Prod.mk.injEq] at h; obtain ⟨rfl, rfl⟩ := h
    obtain ⟨ρ', k1, k2, k3⟩ := newP_sim hr e ((hX x (by simp)).cells hj) hn
    exact ValR.op ⟨ρ', _, _, k2, k1, by simp [Instr.box, newVar, newRow], k3⟩
  case build t ps =>
    split at h
    case isFalse => simp [bad] at h
    rename_i hj
    simp only [v0, bind, Option.bind_eq_some_iff, pure, Option.some.injEq] at h
    obtain ⟨v, hb, h⟩ := h
    simp only [Prod.mk.injEq] at h; obtain ⟨rfl, rfl⟩ := h
    obtain ⟨v', h1, h2⟩ := build_sim (w := w) (fill_PL ps (fun x hx => hX x (by simpa using hx)) hj) hb
    rw [Array.toArray_toList] at h1
    exact val0_op hr h1 h2
  case buildSlice t n ps =>
    split at h
    case isFalse => simp [bad] at h
    rename_i hj
    simp only [v1, bind, Option.bind_eq_some_iff, pure, Option.some.injEq] at h
    obtain ⟨⟨v, σ1⟩, hb, h⟩ := h
    simp only [Prod.mk.injEq] at h; obtain ⟨rfl, rfl⟩ := h
    have := buildS_sim hr (fill_PL ps (fun x hx => hX x (by simpa using hx)) hj) hb
    rw [Array.toArray_toList] at this
    exact ValR.op this
  case load t a =>
    simp only [v0, bind, Option.bind_eq_some_iff, pure, Option.some.injEq] at h
    obtain ⟨v, hb, h⟩ := h
    simp only [Prod.mk.injEq] at h; obtain ⟨rfl, rfl⟩ := h
    obtain ⟨v', h1, h2⟩ := load_sim hr (hX a (by simp)) hb
    exact val0_op hr h1 h2
  case store t a x =>
    simp only [vs, bind, Option.bind_eq_some_iff, pure, Option.some.injEq] at h
    obtain ⟨σ1, hb, h⟩ := h
    simp only [Prod.mk.injEq] at h; obtain ⟨rfl, rfl⟩ := h
    obtain ⟨w', h1, h2, h3⟩ := store_sim hr (hX a (by simp)) (hX x (by simp)) hb
    exact skip_op h1 h2 h3
  case nilCheck x =>
    split at h
    · rename_i a ha
      simp only [pure, Option.some.injEq, Prod.mk.injEq] at h; obtain ⟨rfl, rfl⟩ := h
      have hx := hX x (by simp)
      rw [ha] at hx
      obtain ⟨a', e, hva⟩ := hx.inv_ptr
      exact .val0 (v' := .pointer (some a')) hr (by simp only [execOp, e, Sem.run_pure]) (.ptr hva)
    · rename_i f a b ha
      simp only [pure, Option.some.injEq, Prod.mk.injEq] at h; obtain ⟨rfl, rfl⟩ := h
      have hx := hX x (by simp)
      rw [ha] at hx
      obtain ⟨p', c', e, hp, hc⟩ := hx.inv_func
      exact .val0 (v' := .func (.func f) p' c') hr (by simp only [execOp, e, Sem.run_pure]) (.func hp hc)
    · simp [bad] at h
  case binOp b t x y yt =>
    have plainCase : plainV P σ ev ⟨dst, .binOp b t x y yt, type, pos, after, guard⟩ = some (ne, σ') → OpR P ρ σ w (execOp ev' ⟨dst, .binOp b t x y yt, type, pos, after, guard⟩) ne σ' :=
      fun hp => plain_sim hr (by simpa only [Op.operands] using hX) (by simp) hp
    split at h
    · rename_i r hn
      simp only [pure, Option.some.injEq, Prod.mk.injEq] at h; obtain ⟨rfl, rfl⟩ := h
      obtain ⟨h1, h2, h3, h4⟩ := nilEq_sim (w := w) (hX x (by simp)) (hX y (by simp)) hn
      refine val0_op (v' := .bool r) hr ?_ (.leaf rfl)
      simp only [Sem.run_bind, h2, Result.andThen_ok, h3, h1, Sem.run_pure]
    · rename_i r hn
      simp only [pure, Option.some.injEq, Prod.mk.injEq] at h; obtain ⟨rfl, rfl⟩ := h
      obtain ⟨h1, h2, h3, h4⟩ := nilEq_sim (w := w) (hX x (by simp)) (hX y (by simp)) hn
      refine val0_op (v' := .bool !r) hr ?_ (.leaf rfl)
      simp only [Sem.run_bind, h2, Result.andThen_ok, h4, h1, Sem.run_pure]
    · exact plainCase h
  case unOp a b c => exact plain_sim hr (by simpa only [Op.operands] using hX) (by simp) h
  case convert s d x =>
    unfold convertV at h
    split at h
    · rename_i e st hs hd hx
      split at h
      · rename_i he
        simp only [bind, Option.bind_eq_some_iff, pure, Option.some.injEq] at h
        obtain ⟨⟨b, σ1⟩, hn, h⟩ := h
        simp only [Prod.mk.injEq] at h; obtain ⟨rfl, rfl⟩ := h
        have hxx := hX x (by simp)
        rw [hx] at hxx
        have e := hxx.inv_leaf rfl
        have := strBytes_sim (P := P) hr hs hd he hn
        refine ValR.op ?_
        simp only [e]
        exact this
      · simp [bad] at h
    · rename_i e b off n c hs hd hx
      split at h
      · rename_i he
        simp only [bind, Option.bind_eq_some_iff, pure, Option.some.injEq] at h
        obtain ⟨cs, hc, l, hl, h⟩ := h
        simp only [Prod.mk.injEq] at h; obtain ⟨rfl, rfl⟩ := h
        have hxx := hX x (by simp)
        rw [hx] at hxx
        exact val0_op hr (bytesStr_sim hr hs hd he hxx hc hl) (.leaf rfl)
      · simp [bad] at h
    · exact plain_sim hr (by simpa only [Op.operands] using hX) (by simp) h
  case makeFunc fn a b =>
    cases fn <;> simp only [bad] at h <;> try (cases h; done)
    rename_i f
    simp only [pure, Option.some.injEq, Prod.mk.injEq] at h; obtain ⟨rfl, rfl⟩ := h
    refine val0_op hr (v' := .func (.func f) (a.map ev') (b.map ev')) rfl (.func (VL.mapOps a fun x hx => hX x (by simp [hx])) (VL.mapOps b fun x hx => hX x (by simp [hx])))
  case range t x =>
    simp only [v1, bind, Option.bind_eq_some_iff, pure, Option.some.injEq] at h
    obtain ⟨⟨v, σ1⟩, hb, h⟩ := h
    simp only [Prod.mk.injEq] at h; obtain ⟨rfl, rfl⟩ := h
    exact ValR.op (range_sim hr (hX x (by simp)) hb)
  case next x s =>
    simp only [v1, bind, Option.bind_eq_some_iff, pure, Option.some.injEq] at h
    obtain ⟨⟨v, σ1⟩, hb, h⟩ := h
    simp only [Prod.mk.injEq] at h; obtain ⟨rfl, rfl⟩ := h
    exact ValR.op (next_sim hr type (hX x (by simp)) hb)
  case entry x =>
    simp only [v0, bind, Option.bind_eq_some_iff, pure, Option.some.injEq, Prod.mk.injEq] at h
    obtain ⟨v, hb, rfl, rfl⟩ := h
    obtain ⟨v', h1, h2⟩ := entry_sim (P := P) hr (hX x (by simp)) hb
    exact val0_op hr h1 h2
  case makeMap t r =>
    cases r with
    | some r => simp [bad] at h
    | none =>
      simp only [v1, bind, Option.bind_eq_some_iff, pure, Option.some.injEq] at h
      obtain ⟨⟨v, σ1⟩, ⟨⟨b, σ2⟩, hn, h1⟩, h⟩ := h
      simp only [Prod.mk.injEq] at h h1; obtain ⟨rfl, rfl⟩ := h; obtain ⟨rfl, rfl⟩ := h1
      let l : Loc := ⟨w.heap.size, 0, 1, 0, 0, false⟩
      obtain ⟨k1, k2, k3⟩ := hr.new (l := l) (ob := .map #[] 0) hn rfl ⟨#[], 0, by show (w.heap.push _)[w.heap.size]? = _; simp, .nil, rfl, fun i e h => by simp at h⟩
      exact ValR.op ⟨_, _, .map (some w.heap.size), k2, k1, by simp [Instr.makeMap], .map (l := l) (Rho.put_self _ _ _)⟩
  case makeSlice t l c =>
    simp only [v1, bind, Option.bind_eq_some_iff, pure, Option.some.injEq] at h
    obtain ⟨⟨v, σ1⟩, hb, h⟩ := h
    simp only [Prod.mk.injEq] at h; obtain ⟨rfl, rfl⟩ := h
    exact ValR.op (makeS_sim hr (hX l (by simp)) (hX c (by simp)) hb)
  case slice t x l hh m =>
    split at h
    · exact plain_sim hr (by simpa only [Op.operands] using hX) (by simp) h
    · simp only [v0, bind, Option.bind_eq_some_iff, pure, Option.some.injEq] at h
      obtain ⟨v, hb, h⟩ := h
      simp only [Prod.mk.injEq] at h; obtain ⟨rfl, rfl⟩ := h
      obtain ⟨v', h1, h2⟩ := slice_sim (P := P) hr (hX x (by simp)) (OR.map (ev := ev) (ev' := ev') l fun y hy => hX y (by simp [hy])) (OR.map hh fun y hy => hX y (by simp [hy])) (OR.map m fun y hy => hX y (by simp [hy])) hb
      exact val0_op hr h1 h2
  case fieldAddr t x f =>
    simp only [v0, bind, Option.bind_eq_some_iff, pure, Option.some.injEq] at h
    obtain ⟨v, hb, h⟩ := h
    simp only [Prod.mk.injEq] at h; obtain ⟨rfl, rfl⟩ := h
    obtain ⟨v', h1, h2⟩ := fieldA_sim (w := w) (hX x (by simp)) hb
    exact val0_op hr h1 h2
  case field t x f =>
    simp only [v0, bind, Option.bind_eq_some_iff, pure, Option.some.injEq] at h
    obtain ⟨v, hb, h⟩ := h
    simp only [Prod.mk.injEq] at h; obtain ⟨rfl, rfl⟩ := h
    obtain ⟨v', h1, h2⟩ := field_sim (w := w) (hX x (by simp)) hb
    exact val0_op hr h1 h2
  case indexAddr t x i =>
    simp only [v0, bind, Option.bind_eq_some_iff, pure, Option.some.injEq] at h
    obtain ⟨v, hb, h⟩ := h
    simp only [Prod.mk.injEq] at h; obtain ⟨rfl, rfl⟩ := h
    obtain ⟨v', h1, h2⟩ := indexW_sim (w := w) hr (hX x (by simp)) (hX i (by simp)) hb
    exact val0_op hr h1 h2
  case index t x i =>
    split at h
    · exact plain_sim hr (by simpa only [Op.operands] using hX) (by simp) h
    · simp only [v0, bind, Option.bind_eq_some_iff, pure, Option.some.injEq] at h
      obtain ⟨v, hb, h⟩ := h
      simp only [Prod.mk.injEq] at h; obtain ⟨rfl, rfl⟩ := h
      obtain ⟨v', h1, h2⟩ := indexV_sim (w := w) (hX x (by simp)) (hX i (by simp)) hb
      exact val0_op hr h1 h2
  case lookup t x i ok =>
    simp only [v0, bind, Option.bind_eq_some_iff, pure, Option.some.injEq] at h
    obtain ⟨v, hb, h⟩ := h
    simp only [Prod.mk.injEq] at h; obtain ⟨rfl, rfl⟩ := h
    obtain ⟨v', h1, h2⟩ := lookupW_sim hr (hX x (by simp)) (hX i (by simp)) hb
    exact val0_op hr h1 h2
  case mapUpdate t m k x =>
    simp only [vs, bind, Option.bind_eq_some_iff, pure, Option.some.injEq] at h
    obtain ⟨σ1, hb, h⟩ := h
    simp only [Prod.mk.injEq] at h; obtain ⟨rfl, rfl⟩ := h
    obtain ⟨w', h1, h2, h3⟩ := updateW_sim hr (hX m (by simp)) (hX k (by simp)) (hX x (by simp)) hb
    exact skip_op h1 h2 h3
  case insert t m k x =>
    simp only [vs, bind, Option.bind_eq_some_iff, pure, Option.some.injEq] at h
    obtain ⟨σ1, hb, h⟩ := h
    simp only [Prod.mk.injEq] at h; obtain ⟨rfl, rfl⟩ := h
    obtain ⟨w', h1, h2, h3⟩ := updateW_sim hr (hX m (by simp)) (hX k (by simp)) (hX x (by simp)) hb
    exact skip_op h1 h2 h3
  case extract t i =>
    split at h
    · rename_i xs hxs
      simp only [v0, bind, Option.bind_eq_some_iff, pure, Option.some.injEq, want] at h
      obtain ⟨v, hb, h⟩ := h
      simp only [Prod.mk.injEq] at h; obtain ⟨rfl, rfl⟩ := h
      have hx := hX t (by simp)
      rw [hxs] at hx
      obtain ⟨v', h1, h2⟩ := extract_sim (P := P) (w := w) hx hb
      exact val0_op hr h1 h2
    · simp [bad] at h
  case call c =>
    obtain ⟨callee, args, argTypes⟩ := c
    simp only [Call.operands] at hX
    cases callee with
    | invoke r m => simp [bad] at h
    | value f =>
      simp only at h hX
      split at h
      · rename_i g first captured hf
        simp only [bind, Option.bind_eq_some_iff, pure, Option.some.injEq] at h
        obtain ⟨ne', he, h⟩ := h
        simp only [Prod.mk.injEq] at h; obtain ⟨rfl, rfl⟩ := h
        have hx := hX f (by simp)
        rw [hf] at hx
        obtain ⟨p', c', e, hp, hc⟩ := hx.inv_func
        obtain ⟨rfl, hrun⟩ := enter_sim (w := w) he (p'.toList ++ (args.map ev').toList ++ c'.toList)
        refine ⟨ρ, w, Ext.refl hr, hr, p'.toList ++ (args.map ev').toList ++ c'.toList, ?_, (hp.append (VL.mapOps args fun x hx => hX x (by simp [hx]))).append hc⟩
        have e2 : p' ++ args.map ev' ++ c' = (p'.toList ++ (args.map ev').toList ++ c'.toList).toArray := by
          apply Array.toList_inj.1; simp
        simp only [execOp, resolve, Sem.run_bind, e, Deferred.ofValue, Sem.run_pure, Result.andThen_ok, invoke, e2, hrun]
      · simp [bad] at h
    | builtin b =>
      have plainCase : plainV P σ ev ⟨dst, .call ⟨.builtin b, args, argTypes⟩, type, pos, after, guard⟩ = some (ne, σ') → OpR P ρ σ w (execOp ev' ⟨dst, .call ⟨.builtin b, args, argTypes⟩, type, pos, after, guard⟩) ne σ' :=
        fun hp => plain_sim hr (by simpa only [Op.operands, Call.operands] using hX) (by simp) hp
      have hargs : VL ρ (args.map ev).toList (args.map ev').toList := VL.mapOps args fun x hx => hX x (by simp [hx])
      have hexec : ∀ cs : Array Bool, True := fun _ => trivial
      simp only [builtinV] at h
      split at h
      · simp only [v1, bind, Option.bind_eq_some_iff, pure, Option.some.injEq] at h
        obtain ⟨⟨v, σ1⟩, hb, h⟩ := h
        simp only [Prod.mk.injEq] at h; obtain ⟨rfl, rfl⟩ := h
        exact ValR.op (append_sim hr type hargs hb)
      · simp only [v1, bind, Option.bind_eq_some_iff, pure, Option.some.injEq] at h
        obtain ⟨⟨v, σ1⟩, hb, h⟩ := h
        simp only [Prod.mk.injEq] at h; obtain ⟨rfl, rfl⟩ := h
        exact ValR.op (copy_sim hr type hargs hb)
      · simp only [v1, bind, Option.bind_eq_some_iff, pure, Option.some.injEq] at h
        obtain ⟨⟨v, σ1⟩, hb, h⟩ := h
        simp only [Prod.mk.injEq] at h; obtain ⟨rfl, rfl⟩ := h
        exact ValR.op (clear_sim hr type hargs hb)
      · -- len
        split at h
        · rename_i e a n c ht ha
          simp only [pure, Option.some.injEq, Prod.mk.injEq] at h; obtain ⟨rfl, rfl⟩ := h
          obtain ⟨x', hx', hvx⟩ := hargs.get (i := 0) (v := .slice a n c) (by simpa using ha)
          have hx' : (args.map ev')[0]? = some x' := by simpa using hx'
          simp only [Option.bind_eq_some_iff] at ht
          obtain ⟨t0, ht0, hu⟩ := ht
          have hs : ∃ a' c', x' = .slice a' n c' := by
            cases a with
            | none => exact ⟨_, _, hvx.inv_leaf rfl⟩
            | some a => obtain ⟨a', c', e, _⟩ := hvx.inv_slice; exact ⟨_, _, e⟩
          obtain ⟨a', c', rfl⟩ := hs
          refine val0_op (v' := .int .i64 n) hr ?_ (.leaf rfl)
          simp only [Builtin.len_, ht0, hx', Sem.run_bind, run_und w hu, Result.andThen_ok, Sem.run_pure, goInt]
        · rename_i k e r ht ha
          split at h
          · rename_i es hg
            simp only [pure, Option.some.injEq, Prod.mk.injEq] at h; obtain ⟨rfl, rfl⟩ := h
            obtain ⟨x', hx', hvx⟩ := hargs.get (i := 0) (v := .map (some r)) (by simpa using ha)
            have hx' : (args.map ev')[0]? = some x' := by simpa using hx'
            simp only [Option.bind_eq_some_iff] at ht
            obtain ⟨t0, ht0, hu⟩ := ht
            obtain ⟨l, rfl, hl⟩ := hvx.inv_map
            obtain ⟨E, clk, hE, hM, _⟩ := hr.ob r _ l hg hl
            have hlen := hM.length
            simp only [Array.length_toList] at hlen
            refine val0_op (v' := .int .i64 es.length) hr ?_ (.leaf rfl)
            simp only [Builtin.len_, ht0, hx', Sem.run_bind, run_und w hu, Result.andThen_ok, run_getMap hE, Sem.run_pure, goInt, hlen]
          · simp [bad] at h
        · rename_i n e x ht ha
          simp only [pure, Option.some.injEq, Prod.mk.injEq] at h; obtain ⟨rfl, rfl⟩ := h
          obtain ⟨x', hx', hvx⟩ := hargs.get (i := 0) (v := x) (by simpa using ha)
          have hx' : (args.map ev')[0]? = some x' := by simpa using hx'
          simp only [Option.bind_eq_some_iff] at ht
          obtain ⟨t0, ht0, hu⟩ := ht
          refine val0_op (v' := .int .i64 n) hr ?_ (.leaf rfl)
          simp only [Builtin.len_, ht0, hx', Sem.run_bind, run_und w hu, Result.andThen_ok, Sem.run_pure, goInt]
        · exact plainCase h
      · simp [bad] at h
      · simp only [v0, bind, Option.bind_eq_some_iff, pure, Option.some.injEq, Prod.mk.injEq] at h
        obtain ⟨v, hb, rfl, rfl⟩ := h
        obtain ⟨v', h1, h2⟩ := sliceData_sim (P := P) (w := w) argTypes type hargs hb
        exact val0_op hr h1 h2
      · simp only [v1, bind, Option.bind_eq_some_iff, pure, Option.some.injEq] at h
        obtain ⟨⟨v, σ1⟩, hb, h⟩ := h
        simp only [Prod.mk.injEq] at h; obtain ⟨rfl, rfl⟩ := h
        exact ValR.op (unsafeStr_sim hr type hargs hb)
      · exact plainCase h
  all_goals first
    | (simp [bad] at h; done)
    | skip

end ops
end Go.Proofs.Ytbhjhffglcipbaa.AS
namespace Go.Proofs.Ytbhjhffglcipbaa.AS
open Go
set_option linter.unusedSectionVars false
variable [Sym] [Orc]
set_option linter.unusedVariables false
set_option linter.unusedSimpArgs false

/-- the program's variables stand where they stand -/
def GR (P : Program) (ρ : Rho) : Prop := ∀ g, g < P.globals.size → ∃ l, ρ g = some l ∧ l.pb = g ∧ l.po = 0
theorem GR.mono {P : Program} {ρ ρ' : Rho} (hρ : ρ.le ρ') (h : GR P ρ) : GR P ρ' := fun g hg => let ⟨l, h1, h2⟩ := h g hg; ⟨l, hρ _ _ h1, h2⟩

def SimCall (P : Program) (call : FuncId → List Value → St → R (Value × St)) : Prop :=
  ∀ f args σ v σ', call f args σ = some (v, σ') → ∀ (ρ : Rho) (w : World) (args' : List Value), GR P ρ → HR ρ σ w → VL ρ args args' →
    Calls P f args'.toArray w fun e w' => ∃ v' ρ', e = .returned v' ∧ Ext ρ σ w ρ' σ' w' ∧ HR ρ' σ' w' ∧ VR ρ' v v'

theorem getD_tmps (a : Act) (t : Nat) : a.tmps.getD t undef = a.tmps.toList.getD t undef := by
  simp [Array.getD_eq_getD_getElem?, List.getD_eq_getElem?_getD]

section
variable {P : Program} [OrcOK P] {call : FuncId → List Value → St → R (Value × St)} {ops : Array Oper} {ρ : Rho} {σ : St} {w : World} {a : Act} {Q : Exit → Act → World → Prop}

theorem VR.bool_of {v v' : Value} (h : VR ρ v v') (b : Bool) (hj : ∀ c, v ≠ .chan c) (e : v' = .bool b) : v = .bool b := by
  subst e
  cases h with
  | leaf => rfl
  | sym h => exact absurd rfl (hj _)
  | junk => exact absurd rfl (hj _)

theorem wanted_eq {o : Oper} {tm : List Value} {b : Bool} (hlen : tm.length = a.tmps.size) (hX : ∀ t ∈ readsOf ops o, VR ρ (tm.getD t undef) (a.tmps.getD t undef)) (hw : wantedV ops tm o = some b) :
    Region.wanted o (yielded ops a.tmps) = b := by
  unfold wantedV at hw
  unfold Region.wanted
  cases hg : o.guard with
  | none => rw [hg] at hw; simpa using hw
  | some p =>
    obtain ⟨j, g⟩ := p
    rw [hg] at hw
    simp only [yielded] at hw ⊢
    cases hd : (ops[j]?).bind (·.dst) with
    | none => rw [hd] at hw; simpa using hw
    | some d =>
      rw [hd] at hw
      have hmem : d ∈ readsOf ops o := by
        unfold readsOf
        rw [hg]
        simp [hd]
      have hvr := hX d hmem
      simp only [Option.bind_some] at hw ⊢
      by_cases hlt : d < tm.length
      · have h1 : tm[d]? = some (tm.getD d undef) := by simp [List.getD_eq_getElem?_getD, List.getElem?_eq_getElem hlt]
        have h2 : a.tmps[d]? = some (a.tmps.getD d undef) := by
          have : d < a.tmps.size := hlen ▸ hlt
          simp [Array.getD_eq_getD_getElem?, Array.getElem?_eq_getElem this]
        rw [h1] at hw
        rw [h2]
        generalize tm.getD d undef = v at hw hvr
        generalize a.tmps.getD d undef = v' at hvr
        have hnb : (∀ c, v ≠ .chan c) → (∀ c, v ≠ .bool c) → ∀ c, v' ≠ .bool c := fun hj hn c e => hn c (hvr.bool_of c hj e)
        split at hw
        · rename_i c hc
          simp only [Option.some.injEq] at hc hw
          subst hc
          rw [hvr.inv_leaf rfl]
          simpa using hw
        · cases hw
        · rename_i n1 n2
          simp only [Option.some.injEq] at hw
          subst hw
          have hj : ∀ c, v ≠ .chan c := fun c e => n2 c (by rw [e])
          have := hnb hj (fun c e => n1 c (by rw [e]))
          split <;> first | rfl | (rename_i c hc; simp only [Option.some.injEq] at hc; exact absurd hc (this c))
      · have h1 : tm[d]? = none := by simpa using hlt
        have h2 : a.tmps[d]? = none := by rw [Array.getElem?_eq_none_iff, ← hlen]; exact Nat.le_of_not_lt hlt
        rw [h1] at hw; rw [h2]; simpa using hw

theorem eval_sim {x : Operand} {tm : List Value} (hok : okX P x = true) (hg : GR P ρ) (hX : ∀ t, x = .tmp t → VR ρ (tm.getD t undef) (a.tmps.getD t undef)) : VR ρ (evalOp tm x) (a.eval x) := by
  cases x with
  | tmp t => exact hX t rfl
  | const v => exact flat_VR (v := v) hok
  | global g =>
    obtain ⟨l, h1, h2, h3⟩ := hg g (of_blt (by simpa [okX] using hok))
    exact .ptr ⟨rfl, rfl, l, h1, h2.symm, by simp [h3]⟩
  | func f => exact .leaf rfl

/-- one operation -/
theorem step_sim (hc : SimCall P call) {i : Nat} {o : Oper} {tm tm' : List Value} {σ' : St} (ho : ops[i]? = some o) (h : stepV P call ops o tm σ = some (tm', σ')) (hr : HR ρ σ w) (hg : GR P ρ)
    (hlen : tm.length = a.tmps.size) (hX : ∀ t ∈ readsOf ops o, VR ρ (tm.getD t undef) (a.tmps.getD t undef)) {K : Act → World → Prop}
    (hK : ∀ ρ' v v' w', Ext ρ σ w ρ' σ' w' → HR ρ' σ' w' → VR ρ' v v' → tm' = putV tm o.dst v → K (a.put o.dst v') w') : wpOp P ops Q i K a w := by
  unfold stepV at h
  simp only [wpOp, ho]
  cases hwv : wantedV ops tm o with
  | none => rw [hwv] at h; simp [bad] at h
  | some b =>
  rw [wanted_eq (ops := ops) hlen hX hwv]
  cases b with
  | false =>
    rw [hwv] at h
    simp only [pure, Option.some.injEq, Prod.mk.injEq] at h
    obtain ⟨rfl, rfl⟩ := h
    simp only [Bool.false_eq_true, if_false]
    exact hK ρ undef undef w (Ext.refl hr) hr undef_VR rfl
  | true =>
    rw [hwv] at h
    simp only at h
    simp only [if_true]
    split at h
    · rename_i hok
      simp only [bind, Option.bind_eq_some_iff] at h
      obtain ⟨⟨ne, σ1⟩, hop, h⟩ := h
      have hXX : ∀ x ∈ o.op.operands, VR ρ (evalOp tm x) (a.eval x) := by
        intro x hx
        refine eval_sim (List.all_eq_true.1 hok x (by simpa using hx)) hg fun t e => hX t ?_
        unfold readsOf
        refine List.mem_append.2 (.inl (List.mem_filterMap.2 ⟨x, by simpa using hx, by rw [e]⟩))
      obtain ⟨ρ1, w1, h1, h2, h3⟩ := op_sim hr hXX hop
      left
      unfold Oper.wp
      cases ne with
      | val v =>
        simp only [pure, Option.some.injEq, Prod.mk.injEq] at h
        obtain ⟨rfl, rfl⟩ := h
        obtain ⟨v', h3, h4⟩ := h3
        rw [h3, Oper.upon_value]
        exact hK ρ1 v v' w1 h1 h2 h4 rfl
      | skip =>
        simp only [pure, Option.some.injEq, Prod.mk.injEq] at h
        obtain ⟨rfl, rfl⟩ := h
        have h3 : (execOp a.eval o).run P w = .ok .skip w1 := h3
        rw [h3, Oper.upon_skip]
        exact hK ρ1 undef undef w1 h1 h2 undef_VR rfl
      | enter f args =>
        simp only [bind, Option.bind_eq_some_iff, pure, Option.some.injEq] at h
        obtain ⟨⟨v, σ2⟩, hcall, h⟩ := h
        simp only [Prod.mk.injEq] at h
        obtain ⟨rfl, rfl⟩ := h
        obtain ⟨args', h3, h4⟩ := h3
        rw [h3, Oper.upon_enter]
        refine (hc f args σ1 v σ2 hcall ρ1 w1 args' (hg.mono h1.le) h2 h4).mono ?_
        rintro e w2 ⟨v', ρ2, rfl, k1, k2, k3⟩
        exact hK ρ2 v v' w2 (h1.trans k1) k2 k3 rfl
    · simp [bad] at h

theorem VL.put {ρ : Rho} {tm : List Value} {a : Act} (ht : VL ρ tm a.tmps.toList) (d : Option Tmp) {v v' : Value} (hv : VR ρ v v') : VL ρ (putV tm d v) (a.put d v').tmps.toList := by
  cases d with
  | none => exact ht
  | some d =>
    simp only [putV, Act.put, Array.toList_setIfInBounds]
    exact ht.set d hv

theorem put_defers (a : Act) (d : Option Tmp) (v : Value) : (a.put d v).defers = a.defers := by cases d <;> rfl

/-- operations one behind the other -/
theorem ops_sim (hc : SimCall P call) : ∀ (l : List Oper) (k : Nat) (tm tm' : List Value) (σ σ' : St) (ρ : Rho) (w : World) (a : Act), (∀ j, l[j]? = ops[k + j]?) → opsV P call ops l tm σ = some (tm', σ') →
    HR ρ σ w → GR P ρ → VL ρ tm a.tmps.toList →
    (∀ ρ' a' w', Ext ρ σ w ρ' σ' w' → HR ρ' σ' w' → VL ρ' tm' a'.tmps.toList → a'.defers = a.defers → Q .normal a' w') →
    wpOps P ops Q (List.range' k l.length) a w := by
  intro l
  induction l with
  | nil =>
    intro k tm tm' σ σ' ρ w a _ h hr hg ht hQ
    simp only [opsV, pure, Option.some.injEq, Prod.mk.injEq] at h
    obtain ⟨rfl, rfl⟩ := h
    exact hQ ρ a w (Ext.refl hr) hr ht rfl
  | cons o l ih =>
    intro k tm tm' σ σ' ρ w a hl h hr hg ht hQ
    simp only [opsV, bind, Option.bind_eq_some_iff] at h
    obtain ⟨⟨tm1, σ1⟩, h1, h2⟩ := h
    have ho : ops[k]? = some o := by have := hl 0; simpa using this.symm
    have hlen : tm.length = a.tmps.size := by have := ht.length; simpa using this
    simp only [List.length_cons, List.range'_succ]
    rw [wpOps_cons]
    refine step_sim hc ho h1 hr hg hlen (fun t _ => by rw [getD_tmps]; exact ht.getD t) ?_
    rintro ρ1 v v' w1 k1 k2 k3 rfl
    refine ih (k + 1) _ _ _ _ ρ1 w1 _ (fun j => by have := hl (j + 1); simpa [Nat.add_assoc, Nat.add_comm 1 j] using this) h2 k2 (hg.mono k1.le) ((ht.mono k1.le).put _ k3) ?_
    intro ρ2 a2 w2 q1 q2 q3 q4
    exact hQ ρ2 a2 w2 (k1.trans q1) q2 q3 (q4.trans (put_defers _ _ _))

end
end Go.Proofs.Ytbhjhffglcipbaa.AS
