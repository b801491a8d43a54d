import Derived.Test.YtkghejleififiaaAsOps2
namespace Go.Proofs.Ytkghejleififiaa.AS
open Go
set_option linter.unusedSectionVars false
variable [Sym]
set_option linter.unusedVariables false
set_option linter.unusedSimpArgs false

section ops
variable {P : Program} {ρ : Rho} {σ : St} {w : World}

theorem len_sim {x x' : Value} {m : Nat} (hx : VR ρ x x') (h : lenV x = some m) : (Builtin.lenOf x').run P w = .ok m w ∧ ((∃ a c, x = .slice a m c) ∨ ∃ s, x = .string s ∧ m = s.size) := by
  unfold lenV at h
  split at h
  · rename_i a n c
    simp only [pure, Option.some.injEq] at h; subst h
    refine ⟨?_, .inl ⟨_, _, rfl⟩⟩
    cases a with
    | none => have := hx.inv_leaf rfl; subst this; simp [Builtin.lenOf]
    | some a => obtain ⟨a', c', rfl, _⟩ := hx.inv_slice; simp [Builtin.lenOf]
  · rename_i s
    simp only [pure, Option.some.injEq] at h; subst h
    have := hx.inv_leaf rfl; subst this
    exact ⟨by simp [Builtin.lenOf], .inr ⟨_, rfl, rfl⟩⟩
  · simp [bad] at h

theorem src_sim_k (hr : HR ρ σ w) {x x' : Value} {size n : Nat} {l : List Value} (hx : VR ρ x x') (hn : ∀ a m c, x = .slice a m c → n ≤ m) (h : srcCells P σ size n x = some l) :
    ∃ l', VL ρ l l' ∧ ∀ k, (Builtin.firstCells size n x').run P { w with drawn := k } = .ok l'.toArray { w with drawn := k } := by
  unfold srcCells at h
  split at h
  · rename_i b o m c
    obtain ⟨a', c', rfl, hva⟩ := hx.inv_slice
    split at h
    · rename_i h0
      have h0 := of_beq h0
      simp only [pure, Option.some.injEq] at h; subst h
      exact ⟨[], .nil, fun k => by simp [Builtin.firstCells, h0, loadCells, loadCellsFrom]⟩
    · rename_i h0
      rcases hva with ⟨hva, _⟩ | ⟨e1, e2, e3⟩
      · obtain ⟨l', k1, k2, k3⟩ := hr.load hva h
        refine ⟨l', k1, fun k => ?_⟩
        have := run_loadCells_list (P := P) { w with drawn := k } a' l' (fun j v hj => k3 j v hj)
        rw [k2] at this
        simpa [Builtin.firstCells] using this
      · have := hn _ _ _ rfl
        have hn0 : n = 0 := by omega
        subst hn0
        exact absurd (beq_t (Nat.zero_mul size)) h0
  · simp only [pure, Option.some.injEq] at h; subst h
    have := hx.inv_leaf rfl; subst this
    exact ⟨[], .nil, fun k => by simp [Builtin.firstCells]⟩
  · rename_i s
    simp only [pure, Option.some.injEq] at h; subst h
    have := hx.inv_leaf rfl; subst this
    refine ⟨_, VL.map_leaf _ _ (fun _ _ => rfl), fun k => ?_⟩
    simp only [Builtin.firstCells, Sem.run_pure]
    congr 1
    apply Array.toList_inj.1
    simp [ByteArray.data_extract]
  · simp [bad] at h

theorem src_sim (hr : HR ρ σ w) {x x' : Value} {size n : Nat} {l : List Value} (hx : VR ρ x x') (hn : ∀ a m c, x = .slice a m c → n ≤ m) (h : srcCells P σ size n x = some l) :
    ∃ l', VL ρ l l' ∧ (Builtin.firstCells size n x').run P w = .ok l'.toArray w :=
  let ⟨l', h1, h2⟩ := src_sim_k hr hx hn h
  ⟨l', h1, h2 w.drawn⟩

/-- a store into the row behind a slice, or nothing where nothing is to be stored -/
theorem inPlace_sim (hr : HR ρ σ w) {base : Option Addr} {n c o : Nat} {x' : Value} {vs vs' : List Value} {σ' : St} (hx : VR ρ (.slice base n c) x') (hv : VL ρ vs vs') (hne : n = 0 → c = 0 → vs = [])
    (h : inPlace σ base o vs = some σ') : ∃ base' c' w', x' = .slice base' n c' ∧ c ≤ c' ∧ HR ρ σ' w' ∧ Ext ρ σ w ρ σ' w' ∧
      (match base' with | some a => storeCells (a.add o) vs' | none => pure ()).run P w = .ok () w' := by
  unfold inPlace at h
  split at h
  · simp only [pure, Option.some.injEq] at h; subst h
    have := hx.inv_leaf rfl; subst this
    exact ⟨none, c, w, rfl, Nat.le_refl _, hr, Ext.refl hr, rfl⟩
  · rename_i b p
    obtain ⟨a', c', rfl, hva⟩ := hx.inv_slice
    rcases hva with ⟨hva, hc⟩ | ⟨e1, e2, e3⟩
    · obtain ⟨w', k1, k2, k3⟩ := hr.store P (addA_add hva o) hv h
      refine ⟨some a', c', w', rfl, ?_, k2, k3, k1⟩
      rcases hc with hc | ⟨_, _, hc, _⟩ <;> omega
    · have := hne e1 e2; subst this
      cases hv
      simp only [storeC, pure, Option.some.injEq] at h; subst h
      exact ⟨some a', c', w, rfl, by omega, hr, Ext.refl hr, by simp [storeCells]⟩
  · cases h

theorem run_ite_pos {α : Type} {c : Prop} [Decidable c] {x y : Sem α} (h : c) : (if c then x else y).run P w = x.run P w := by rw [if_pos h]
theorem run_ite_neg {α : Type} {c : Prop} [Decidable c] {x y : Sem α} (h : ¬ c) : (if c then x else y).run P w = y.run P w := by rw [if_neg h]

theorem nextcap_le (need cap : Nat) (h : cap < need) : Builtin.nextslicecap need cap ≤ 2 * need + 1024 := by
  unfold Builtin.nextslicecap
  split
  · omega
  · split
    · omega
    · have key : ∀ (r c : Nat), c ≤ 2 * need + 1024 → Builtin.growBy need r c ≤ 2 * need + 1024 := by
        intro r
        induction r with
        | zero => intro c hc; simpa [Builtin.growBy] using hc
        | succ r ih =>
          intro c hc
          simp only [Builtin.growBy]
          split
          · exact hc
          · exact ih _ (by omega)
      exact key _ _ (by omega)

/-- what 'append' does where the room does not suffice -/
theorem run_append_new {sT xT : TypeId} {argTypes : Array TypeId} {args : Array Value} {e : TypeId} {base : Option Addr} {n c m size bytes : Nat} {x z : Value} {old new : List Value} {d : TypeDesc}
    (h0 : argTypes[0]? = some sT) (h1 : argTypes[1]? = some xT) (a0 : args[0]? = some (.slice base n c)) (a1 : args[1]? = some x) (he : P.underlying sT = some (.slice e))
    (hx : P.underlying xT = some d) (hd : ∀ k, d ≠ .int k) (hs : sizeT P e = some size) (hb : bytesT P e = some bytes) (hz : (zeroValue e).run P w = .ok z w)
    (hm : (Builtin.lenOf x).run P w = .ok m w) (hgt : c < n + m) (hmost : n + m ≤ 1000000000) (hb0 : 0 < bytes) (hb1 : bytes ≤ 4096)
    (hold : (Builtin.firstCells size n (.slice base n c)).run P w = .ok old.toArray w) (hnew : (Builtin.firstCells size m x).run P w = .ok new.toArray w)
    (hdr : ∀ (w2 : World), w2 = w.drew → (Builtin.firstCells size n (.slice base n c)).run P w2 = .ok old.toArray w2 ∧ (Builtin.firstCells size m x).run P w2 = .ok new.toArray w2 ∧ (zeroValue e).run P w2 = .ok z w2) (ty : TypeId) :
    ∃ cap, n + m ≤ cap ∧ (Builtin.append_ argTypes ty args).run P w =
      .ok (.slice (some ⟨w.heap.size, 0, none⟩) (n + m) cap) (w.drew.alloc (.cells (old ++ new ++ (Builtin.zeroCells z.cells (cap - (n + m))).toList).toArray e)) := by
  have hinfo : ∃ i, P.info? e = some i ∧ i.bytes = bytes := by
    unfold bytesT at hb; split at hb
    · rename_i i hi; exact ⟨i, hi, by simpa using hb⟩
    · simp [bad] at hb
  obtain ⟨i, hi, hib⟩ := hinfo
  obtain ⟨d1, d2, d3⟩ := hdr _ rfl
  have hnz : (d matches .int _) = false := by cases d <;> first | rfl | exact absurd rfl (hd _)
  refine ⟨(Question.appendCap (n + m) c e).cut (w.tape w.drawn (.appendCap (n + m) c e)), ?_, ?_⟩
  · simp only [Question.cut]; omega
  · have c1 : ¬ (n + m ≤ c) := by omega
    have c2 : ¬ (((n + m : Nat) : Int) > IntKind.i64.max ∧ (False ∨ i.bytes = 0)) := by
      rintro ⟨_, h | h⟩
      · cases h
      · omega
    have c3 : ¬ (Builtin.nextslicecap (n + m) c * i.bytes > 2 ^ 48) := by
      have := nextcap_le (n + m) c hgt
      have h2 : Builtin.nextslicecap (n + m) c * i.bytes ≤ (2 * (n + m) + 1024) * 4096 := Nat.mul_le_mul this (by omega)
      omega
    have hf : (Question.appendCap (n + m) c e).forced = false := rfl
    simp only [Builtin.append_, h0, h1, a0, a1, Sem.run_bind, run_und w he, Result.andThen_ok, run_size w hs, run_und w hx, hnz, Sem.run_pure, Bool.false_eq_true, if_false, hm, if_neg c1, run_info w hi, if_neg c2, if_neg c3, run_choose, hf,
      run_askRoom, Bool.not_false, if_true]
    simp only [World.drew_eq, run_info w.drew hi, d1, d2, d3, Result.andThen_ok, newRow, Sem.run_bind, run_newObj, Sem.run_pure]
    have e : ∀ q : Array Value, old.toArray ++ new.toArray ++ q = (old ++ new ++ q.toList).toArray := by
      intro q; apply Array.toList_inj.1; simp
    rw [e]
    rfl

theorem zeroCells_eq (z : Array Value) (n : Nat) : (Builtin.zeroCells z n).toList = repeatL z.toList n := by
  unfold Builtin.zeroCells
  exact repeat_eq z n z.size rfl

theorem HR.drew (hr : HR ρ σ w) : HR ρ σ w.drew := hr.drawn _
theorem Ext.drew (hr : HR ρ σ w) : Ext ρ σ w ρ σ w.drew := Ext.drawn hr _

/-- a slice of its own over a new row -/
theorem grown_slice {ρ' : Rho} {b pb po k cap size ext : Nat} (hb : ρ' b = some ⟨pb, po, ext, size, k * size, false⟩) (hs : 0 < size) (hk : k ≤ cap) (he : cap * size ≤ ext) :
    VR ρ' (.slice (some ⟨b, 0, none⟩) k k) (.slice (some ⟨pb, po, none⟩) k cap) := by
  refine .slice ⟨rfl, rfl, _, hb, rfl, by simp⟩ (.inr ⟨_, hb, hk, .inr ⟨hs, by simp, by simpa using he⟩⟩)

theorem VL.rest {l l' r : List Value} (h : VL ρ l l') (i : Nat) (v : Value) (hi : l[i]? = some v) : ∃ v', (l' ++ r)[i]? = some v' ∧ VR ρ v v' := by
  obtain ⟨v', h1, h2⟩ := h.get hi
  exact ⟨v', by rw [List.getElem?_append_left (List.getElem?_eq_some_iff.1 h1).1]; exact h1, h2⟩

theorem append_sim (hr : HR ρ σ w) {argTypes : Array TypeId} {args args' : Array Value} {v : Value} {σ' : St} (ty : TypeId) (ha : VL ρ args.toList args'.toList) (h : appendV P σ argTypes args = some (v, σ')) :
    ValR P ρ σ w (Builtin.append_ argTypes ty args') v σ' := by
  unfold appendV at h
  simp only [bind, Option.bind_eq_some_iff, want] at h
  obtain ⟨sT, h0, s, a0, x, a1, xT, h1, e, he, size, hs, _, hni, m, hm, new, hnew, h⟩ := h
  obtain ⟨s', a0', hvs⟩ := ha.get (i := 0) (by simpa using a0)
  obtain ⟨x', a1', hvx⟩ := ha.get (i := 1) (by simpa using a1)
  have a0' : args'[0]? = some s' := by simpa using a0'
  have a1' : args'[1]? = some x' := by simpa using a1'
  obtain ⟨hm1, hm2⟩ := len_sim (P := P) (w := w) hvx hm
  have hnm : ∀ a m' c, x = .slice a m' c → m ≤ m' := by
    intro a m' c e
    rcases hm2 with ⟨a2, c2, e2⟩ | ⟨s2, e2, _⟩
    · rw [e] at e2; cases e2; exact Nat.le_refl _
    · rw [e] at e2; cases e2
  obtain ⟨new', n1, n2⟩ := src_sim (P := P) (w := w) hr hvx hnm hnew
  have hxd : ∃ d, P.underlying xT = some d ∧ ∀ k, d ≠ .int k := by
    unfold noInt at hni
    split at hni
    · simp [bad] at hni
    · simp [bad] at hni
    · rename_i h1 h2
      cases hd : P.underlying xT with
      | none => exact absurd hd h2
      | some d => exact ⟨d, rfl, fun k e => h1 k (by rw [hd, e])⟩
  obtain ⟨d, hd1, hd2⟩ := hxd
  split at h
  · rename_i base n c
    unfold appendS at h
    split at h
    · -- there is room
      rename_i hle
      have hle := of_ble hle
      simp only [bind, Option.bind_eq_some_iff, pure, Option.some.injEq] at h
      obtain ⟨σ1, hin, h⟩ := h
      simp only [Prod.mk.injEq] at h
      obtain ⟨rfl, rfl⟩ := h
      have hne : n = 0 → c = 0 → new = [] := by
        intro e1 e2
        have hm0 : m = 0 := by omega
        subst hm0
        unfold srcCells at hnew
        split at hnew
        · split at hnew
          · simp only [pure, Option.some.injEq] at hnew; exact hnew.symm
          · rename_i hb; exact absurd (beq_t (Nat.zero_mul size)) hb
        · simp only [pure, Option.some.injEq] at hnew; exact hnew.symm
        · simp only [pure, Option.some.injEq, List.take_zero, List.map_nil] at hnew; exact hnew.symm
        · simp [bad] at hnew
      obtain ⟨base', c', w', rfl, hcc, k1, k2, k3⟩ := inPlace_sim (P := P) hr hvs n1 hne hin
      refine ⟨ρ, w', .slice base' (n + m) c', k2, k1, ?_, ?_⟩
      · have c1 : n + m ≤ c' := by omega
        have hnz : (d matches .int _) = false := by cases d <;> first | rfl | exact absurd rfl (hd2 _)
        simp only [Builtin.append_, h0, h1, a0', a1', Sem.run_bind, run_und w (elem_eq he), Result.andThen_ok, run_size w hs, run_und w hd1, hnz, Sem.run_pure, Bool.false_eq_true, if_false, hm1, if_pos c1, Bool.not_false, if_true, n2]
        cases base' with
        | none =>
          simp only [Sem.run_pure, Result.ok.injEq, true_and] at k3
          subst k3
          simp
        | some a =>
          simp only at k3
          simp [k3]
      · cases base with
        | none =>
          have := hvs.inv_leaf rfl
          simp only [Value.slice.injEq] at this
          obtain ⟨rfl, _, rfl⟩ := this
          exact .leaf rfl
        | some a =>
          obtain ⟨a', c'', e1, hva⟩ := hvs.inv_slice
          simp only [Value.slice.injEq] at e1
          obtain ⟨rfl, _, rfl⟩ := e1
          rcases hva with ⟨q1, q2⟩ | ⟨e1, e2, e3, e4⟩
          · exact .slice q1 q2
          · have q1 : n + m = 0 := by omega
            rw [q1, e2, e3]; exact .empty e4
    · -- a new row
      rename_i hgt
      have hgt : c < n + m := by
        rcases Nat.lt_or_ge c (n + m) with q | q
        · exact q
        · exact absurd (by simpa using q) hgt
      simp only [bind, Option.bind_eq_some_iff] at h
      obtain ⟨bytes, hb, old, hold, z, hz, h⟩ := h
      split at h
      · rename_i hc
        simp only [Bool.and_eq_true] at hc
        obtain ⟨⟨⟨⟨⟨b1, b2⟩, b3⟩, b4⟩, b5⟩, b6⟩ := hc
        have b1 := of_ble b1
        have b2 := of_ble b2
        have b3 := of_blt b3
        have b4 := of_blt b4
        have b6 := of_beq b6
        simp only [bind, Option.bind_eq_some_iff, pure, Option.some.injEq] at h
        obtain ⟨σ1, hgrow, ⟨b, σ2⟩, hnw, h⟩ := h
        simp only [Prod.mk.injEq] at h
        obtain ⟨rfl, rfl⟩ := h
        obtain ⟨z1, z2, _⟩ := zero_eq w hz
        have hzs := zero_size hz hs
        obtain ⟨old', o1, o2⟩ := src_sim_k (P := P) (w := w) hr hvs (fun a m' c' e => by cases e; exact Nat.le_refl _) hold
        obtain ⟨new2, p1, p2⟩ := src_sim_k (P := P) (w := w) hr hvx hnm hnew
        have hs' : ∃ base' c', s' = .slice base' n c' := by
          cases base with
          | none => exact ⟨_, _, hvs.inv_leaf rfl⟩
          | some a => obtain ⟨a', c', e, _⟩ := hvs.inv_slice; exact ⟨_, _, e⟩
        obtain ⟨base', c', rfl⟩ := hs'
        have hlen := (o1.append p1).length
        -- a new row, where the old one is left or forgotten
        have fresh : ∀ (σ0 : St), HR ρ σ0 w.drew → Ext ρ σ w ρ σ0 w.drew → σ0.new (.blk (old ++ new) size false) = some (b, σ2) → c' < n + m →
            ValR P ρ σ w (Builtin.append_ argTypes ty args') (.slice (some ⟨b, 0, none⟩) (n + m) (n + m)) σ2 := by
          intro σ0 hr0 hx0 hnw0 hlt
          obtain ⟨cap, hcap, hrun⟩ := run_append_new (P := P) (w := w) h0 h1 a0' a1' (elem_eq he) hd1 hd2 hs hb z1 hm1 hlt b1 b3 b2 (o2 w.drawn) (p2 w.drawn)
            (fun w2 e => by subst e; exact ⟨o2 _, p2 _, (zero_eq w.drew hz).1⟩) ty
          obtain ⟨ρ', r1, r2, r3⟩ := hr0.newBlk (rest := (Builtin.zeroCells z.cells (cap - (n + m))).toList) e hnw0 (o1.append p1)
          refine ⟨ρ', _, _, hx0.trans r2, r1, hrun, ?_⟩
          rw [b6] at r3
          refine grown_slice r3 b4 hcap ?_
          rw [zeroCells_eq, repeatL_length, Array.length_toList, hzs, ← Nat.add_mul]
          exact Nat.mul_le_mul_right _ (by omega)
        unfold growS at hgrow
        split at hgrow
        · -- nil
          simp only [pure, Option.some.injEq] at hgrow; subst hgrow
          have e1 := hvs.inv_leaf rfl
          simp only [Value.slice.injEq] at e1
          exact fresh σ hr.drew (Ext.drew hr) hnw (by omega)
        · rename_i bk o
          obtain ⟨a', c'', e1, hva⟩ := hvs.inv_slice
          simp only [Value.slice.injEq] at e1
          obtain ⟨rfl, _, rfl⟩ := e1
          split at hgrow
          · rename_i cs u hg
            split at hgrow
            · -- the row grows: it is forgotten
              rename_i hend
              simp only [Bool.and_eq_true] at hend
              have hu := of_blt hend.1
              have hend := of_beq hend.2
              split at hgrow
              · rename_i hus
                have hus := of_beq hus
                simp only [pure, Option.some.injEq] at hgrow; subst hgrow
                by_cases hroom : c' < n + m
                · have hex : ∃ l, ρ bk = some l := by
                    rcases hva with ⟨hva, _⟩ | ⟨_, _, _, h⟩
                    · obtain ⟨l, h, _⟩ := hva.at_; exact ⟨l, h⟩
                    · exact h
                  obtain ⟨l, hl⟩ := hex
                  exact fresh _ (hr.drew.kill (St.get_lt hg)) ((Ext.drew hr).trans (Ext.kill hr.drew (St.get_lt hg) hl)) hnw hroom
                · -- in place
                  rcases hva with ⟨hva, hcap⟩ | ⟨e1, e2, e3, _⟩
                  · obtain ⟨l, l1, l2, l3⟩ := hva.at_
                    obtain ⟨q1, q2, q3, q4, C, t, fr, q5, q6, q7, q8⟩ := hr.ob bk _ l hg l1
                    have hc' : 0 < l.unit ∧ o + c * l.unit = l.size ∧ o + c' * l.unit ≤ l.ext := by
                      rcases hcap with hc | ⟨l', k1, k2, k3⟩
                      · omega
                      · rw [l1] at k1; cases k1
                        rcases k3 with k3 | k3
                        · rw [q2] at k3; cases k3
                        · exact k3
                    obtain ⟨c1, c2, c3⟩ := hc'
                    have hsz : l.unit = size := q1.trans hus
                    rw [hsz] at c2 c3
                    have hnl : new2.length = m * size := by
                      have e1 : old.length + new.length = (n + m) * size := by simpa using b6
                      have e2 := p1.length
                      have e3 : old.length = n * size := by
                        simp only [srcCells] at hold
                        split at hold
                        · rename_i hz0; have := of_beq hz0; simp only [pure, Option.some.injEq] at hold; subst hold; simp [this]
                        · obtain ⟨cs2, u2, ro2, _, hsub⟩ := loadC_eq hold; exact (sub_eq hsub).2.1
                      rw [Nat.add_mul] at e1; omega
                    have hmul : (n + m) * size ≤ c' * size := Nat.mul_le_mul_right _ (by omega)
                    rw [Nat.add_mul] at hmul
                    have ha' : a' = ⟨l.pb, l.po + o, none⟩ := by have := hva.s'; cases a'; simp_all
                    obtain ⟨w', C', r1, r2, r3, r4, r5, r6, r7, r8, r9⟩ := run_storeCells_in P l.pb (l.po + o + n * size) t fr new2 0 C w q5 (by omega)
                      (p1.all_isCell (by rw [List.all_append] at b5; simp only [Bool.and_eq_true] at b5; exact b5.2))
                      (fun k hk1 hk2 => by have := q7 rfl (k - l.po) (by omega); rwa [show l.po + (k - l.po) = k by omega] at this)
                    let l' : Loc := ⟨l.pb, l.po + o, l.ext - o, size, (n + m) * size, false⟩
                    obtain ⟨g1, g2⟩ := hr.grow (l' := l') (w' := w') (cs := cs) (new := []) hg l1 rfl hnw rfl
                      ⟨rfl, rfl, b6.symm, by rw [b6, Nat.add_mul]; simp only [l']; omega, C', t, fr, r2, by simp only [l']; omega,
                        fun _ i hi => by simp only [l'] at hi ⊢; have := q7 rfl (o + i) (by omega); rwa [show l.po + (o + i) = l.po + o + i by omega] at this, fun i v hi => by
                          have hle := Rho.put_le (l := l') (hr.dom _ (Nat.le_refl _))
                          obtain ⟨rfl, _⟩ := St.new_eq hnw
                          simp only [l', r9]
                          have hol : old.length = n * size := by
                            have e1 : old.length + new.length = (n + m) * size := by simpa using b6
                            have e2 := p1.length
                            rw [Nat.add_mul] at e1; omega
                          by_cases hi2 : i < n * size
                          · rw [List.getElem?_append_left (by omega)] at hi
                            rw [if_neg (by omega)]
                            -- an old cell
                            have hold' : cs[o + i]? = some v := by
                              simp only [srcCells] at hold
                              split at hold
                              · rename_i hz0; have := of_beq hz0; omega
                              · obtain ⟨cs2, u2, ro2, hg2, hsub⟩ := loadC_eq hold
                                rw [hg] at hg2; cases hg2
                                obtain ⟨rfl, _, _⟩ := sub_eq hsub
                                rw [List.getElem?_take, if_pos hi2, List.getElem?_drop] at hi
                                exact hi
                            obtain ⟨v', s1, s2⟩ := q8 (o + i) v hold'
                            exact ⟨v', by rw [show l.po + o + i = l.po + (o + i) by omega]; exact s1, s2.mono hle⟩
                          · rw [List.getElem?_append_right (by omega), hol] at hi
                            obtain ⟨v', s1, s2⟩ := p1.get hi
                            have : i - n * size < new2.length := (List.getElem?_eq_some_iff.1 s1).1
                            rw [if_pos (by omega)]
                            exact ⟨v', by rw [show l.po + o + i - (l.po + o + n * size + 0) = i - n * size by omega]; exact s1, s2.mono hle⟩⟩
                      r4 r5 r6 r7 r8
                    refine ⟨_, w', .slice (some a') (n + m) c', g2, g1, ?_, ?_⟩
                    · have c1' : n + m ≤ c' := by omega
                      have hnz : (d matches .int _) = false := by cases d <;> first | rfl | exact absurd rfl (hd2 _)
                      have p2' := p2 w.drawn
                      have r1' : (storeCells (a'.add (n * size)) new2).run P w = .ok () w' := by
                        rw [ha', add_eq rfl]; exact r1
                      simp only [Builtin.append_, h0, h1, a0', a1', Sem.run_bind, run_und w (elem_eq he), Result.andThen_ok, run_size w hs, run_und w hd1, hnz, Sem.run_pure, Bool.false_eq_true, if_false, hm1, if_pos c1', Bool.not_false, if_true, p2', r1']
                    · rw [ha']
                      obtain ⟨rfl, _⟩ := St.new_eq hnw
                      exact grown_slice (Rho.put_self _ _ _) (by omega) (by omega) (by omega)
                  · omega
              · simp [bad] at hgrow
            · -- the row is left: its slice's end isn't its own
              rename_i hend
              simp only [pure, Option.some.injEq] at hgrow; subst hgrow
              have hlt : c' < n + m := by
                rcases hva with ⟨hva, hcap⟩ | ⟨e1, e2, e3⟩
                · rcases hcap with hc | ⟨l, k1, k2, k3⟩
                  · omega
                  · obtain ⟨q1, q2, q3, _⟩ := hr.ob bk _ l hg k1
                    rcases k3 with k3 | ⟨k3, k4, k5⟩
                    · rw [q2] at k3; cases k3
                    · exfalso; apply hend
                      simp only [Bool.and_eq_true]
                      refine ⟨?_, beq_t ?_⟩
                      · rw [← q1]; simpa [Nat.blt_eq] using k3
                      · rw [← q1, ← q3]; exact k4
                · omega
              exact fresh σ hr.drew (Ext.drew hr) hnw hlt
          · simp [bad] at hgrow
        · simp [bad] at hgrow
      · simp [bad] at h
  · simp [bad] at h

end ops
end Go.Proofs.Ytkghejleififiaa.AS
