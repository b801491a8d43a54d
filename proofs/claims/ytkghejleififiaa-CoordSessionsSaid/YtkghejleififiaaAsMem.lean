import Derived.Test.YtkghejleififiaaAsRel
namespace Go.Proofs.Ytkghejleififiaa.AS
open Go
set_option linter.unusedSectionVars false
variable [Sym]
set_option linter.unusedVariables false
set_option linter.unusedSimpArgs false

/-! ## loads -/
theorem sub_eq {cs l : List Value} {o n : Nat} (h : sub cs o n = some l) : l = (cs.drop o).take n ∧ l.length = n ∧ o + n ≤ max cs.length o := by
  unfold sub at h
  simp only at h
  split at h
  · rename_i hb
    have hb := of_beq hb
    simp only [pure, Option.some.injEq] at h
    refine ⟨h.symm, by rw [← h]; exact hb, ?_⟩
    rw [List.length_take, List.length_drop] at hb
    omega
  · simp [bad] at h

theorem loadC_eq {σ : St} {b o n : Nat} {l : List Value} (h : loadC σ b o n = some l) : ∃ cs u ro, σ.get b = some (.blk cs u ro) ∧ sub cs o n = some l := by
  unfold loadC at h
  split at h
  · rename_i cs u ro hg; exact ⟨cs, u, ro, hg, h⟩
  · simp [bad] at h

theorem cell_at {w : World} {pb k : Nat} {C : Array Value} {t : TypeId} {fr : Nat × Nat} (h : w.heap[pb]? = some (.cells C t fr)) : w.cell? ⟨pb, k, none⟩ = C[k]? := by
  simp [World.cell?, h]

theorem add_eq {a : Addr} (hs : a.spot = none) (n : Nat) : a.add n = ⟨a.block, a.off + n, none⟩ := by
  unfold Addr.add
  split
  · rename_i h; subst h; cases a; simp_all
  · rfl

/-- what the cells of a row hold -/
theorem HR.load {ρ : Rho} {σ : St} {w : World} (hr : HR ρ σ w) {b o n : Nat} {l : List Value} {a' : Addr} (ha : VA ρ ⟨b, o, none⟩ a')
    (h : loadC σ b o n = some l) : ∃ l', VL ρ l l' ∧ l'.length = n ∧ ∀ (j : Nat) (v : Value), l'[j]? = some v → w.cell? (a'.add j) = some v := by
  obtain ⟨cs, u, ro, hg, hs⟩ := loadC_eq h
  obtain ⟨hl, hn, _⟩ := sub_eq hs
  obtain ⟨lc, h1, h2, h3⟩ := ha.at_
  obtain ⟨q1, q2, q3, q4, C, t, fr, q5, q6, q7, q8⟩ := hr.ob b _ lc hg h1
  have key : ∀ (i : Nat) (v : Value), l[i]? = some v → ∃ v', C[lc.po + (o + i)]? = some v' ∧ VR ρ v v' := by
    intro i v hi
    rw [hl, List.getElem?_take] at hi
    split at hi
    · rw [List.getElem?_drop] at hi; exact q8 _ _ hi
    · simp at hi
  refine ⟨(C.toList.drop (lc.po + o)).take n, ?_, ?_, ?_⟩
  · refine VL.of_get ?_ ?_
    · rw [hn, List.length_take, List.length_drop]
      rcases Nat.eq_zero_or_pos n with e | e
      · omega
      · have := congrArg List.length hl
        rw [hn, List.length_take, List.length_drop] at this
        simp only [Array.length_toList]; omega
    · intro i v hi
      obtain ⟨v', r1, r2⟩ := key i v hi
      have hin : i < n := by rw [← hn]; exact (List.getElem?_eq_some_iff.1 hi).1
      exact ⟨v', by rw [List.getElem?_take, if_pos hin, List.getElem?_drop]; simpa [Nat.add_assoc] using r1, r2⟩
  · rw [List.length_take, List.length_drop]
    rcases Nat.eq_zero_or_pos n with e | e
    · omega
    · have := congrArg List.length hl
      rw [hn, List.length_take, List.length_drop] at this
      simp only [Array.length_toList]; omega
  · intro j v hj
    rw [List.getElem?_take] at hj
    split at hj
    · rw [List.getElem?_drop] at hj
      rw [add_eq ha.s', h2, cell_at q5, h3]
      simpa [Nat.add_assoc] using hj
    · simp at hj

theorem HR.loadCells {ρ : Rho} {σ : St} {w : World} (hr : HR ρ σ w) (P : Program) {b o n : Nat} {l : List Value} {a' : Addr} (ha : VA ρ ⟨b, o, none⟩ a')
    (h : loadC σ b o n = some l) : ∃ l', VL ρ l l' ∧ l'.length = n ∧ (loadCells a' n).run P w = .ok l'.toArray w := by
  obtain ⟨l', h1, h2, h3⟩ := hr.load ha h
  exact ⟨l', h1, h2, by rw [← h2]; exact run_loadCells_list w a' l' h3⟩

/-! ## stores -/
theorem oneCell_of {v : Value} (h : isCell v = true) : v.oneCell' = true := by cases v <;> first | rfl | (simp [isCell] at h)

theorem run_storeCells_in (P : Program) (pb po : Nat) (t : TypeId) (fr : Nat × Nat) : ∀ (vs : List Value) (i : Nat) (C : Array Value) (w : World),
    w.heap[pb]? = some (.cells C t fr) → po + i + vs.length ≤ C.size → vs.all isCell = true →
    (∀ k, po + i ≤ k → k < po + i + vs.length → (decide (fr.1 ≤ k) && decide (k < fr.2)) = false) →
    ∃ w' C', (storeCells ⟨pb, po, none⟩ vs i).run P w = .ok () w' ∧ w'.heap[pb]? = some (.cells C' t fr) ∧ C'.size = C.size ∧
      (∀ p, p ≠ pb → w'.heap[p]? = w.heap[p]?) ∧ w'.heap.size = w.heap.size ∧ w'.os = w.os ∧ w'.tape = w.tape ∧ w'.output = w.output ∧
      ∀ k, C'[k]? = if po + i ≤ k ∧ k < po + i + vs.length then vs[k - (po + i)]? else C[k]? := by
  intro vs
  induction vs with
  | nil =>
    intro i C w h0 h1 h2 h3
    exact ⟨w, C, by simp [storeCells], h0, rfl, fun _ _ => rfl, rfl, rfl, rfl, rfl, fun k => by simp; omega⟩
  | cons v vs ih =>
    intro i C w h0 h1 h2 h3
    simp only [List.all_cons, Bool.and_eq_true] at h2
    simp only [List.length_cons] at h1 h3
    have hadd : (⟨pb, po, none⟩ : Addr).add i = ⟨pb, po + i, none⟩ := add_eq rfl i
    have hcell : w.cell? ⟨pb, po + i, none⟩ = some C[po + i] := by rw [cell_at h0, Array.getElem?_eq_getElem (by omega)]
    have hfr : w.frozen? ⟨pb, po + i, none⟩ = false := by
      have := h3 (po + i) (by omega) (by omega)
      simpa [World.frozen?, h0] using this
    have hst : (store ((⟨pb, po, none⟩ : Addr).add i) v).run P w = .ok () (w.setCell ⟨pb, po + i, none⟩ v) := by
      rw [hadd, run_store P w _ v .plain (oneCell_of h2.1), hcell]
      simp [hfr]
    have hheap : (w.setCell ⟨pb, po + i, none⟩ v).heap[pb]? = some (.cells (C.setIfInBounds (po + i) v) t fr) := by
      simp [World.setCell, Array.getElem?_modify, h0]
    obtain ⟨w', C', r1, r2, r3, r4, r5, r6, r7, r8, r9⟩ := ih (i + 1) (C.setIfInBounds (po + i) v) (w.setCell ⟨pb, po + i, none⟩ v) hheap (by simp; omega) h2.2
      (fun k hk1 hk2 => h3 k (by omega) (by omega))
    refine ⟨w', C', ?_, r2, by simpa using r3, ?_, by simpa using r5, r6, r7, r8, ?_⟩
    · simp only [storeCells, Sem.run_bind, hst, Result.andThen_ok]
      exact r1
    · intro p hp
      rw [r4 p hp]
      simp only [World.setCell, Array.getElem?_modify]
      rw [if_neg (by omega)]
    · intro k
      rw [r9 k]
      by_cases hk : k = po + i
      · subst hk
        rw [if_neg (by omega), if_pos (by simp)]
        simp [show po + i < C.size by omega]
      · by_cases hk2 : po + (i + 1) ≤ k ∧ k < po + (i + 1) + vs.length
        · rw [if_pos hk2, if_pos (by simp; omega)]
          rw [show k - (po + i) = (k - (po + (i + 1))) + 1 by omega]
          simp
        · rw [if_neg hk2, if_neg (by simp; omega)]
          rw [Array.getElem?_setIfInBounds_ne (by omega)]

theorem storeC_eq {σ σ' : St} {b o : Nat} {vs : List Value} (h : storeC σ b o vs = some σ') :
    (vs = [] ∧ σ' = σ) ∨ (vs ≠ [] ∧ ∃ cs u, σ.get b = some (.blk cs u false) ∧ o + vs.length ≤ cs.length ∧ vs.all isCell = true ∧ σ' = σ.set b (some (.blk (cs.take o ++ vs ++ cs.drop (o + vs.length)) u false))) := by
  cases vs with
  | nil => simp only [storeC, pure, Option.some.injEq] at h; exact .inl ⟨rfl, h.symm⟩
  | cons v vs =>
    right
    refine ⟨by simp, ?_⟩
    simp only [storeC] at h
    split at h
    · rename_i cs u hg
      split at h
      · rename_i hb
        simp only [pure, Option.some.injEq] at h
        simp only [Bool.and_eq_true] at hb
        exact ⟨cs, u, hg, of_ble hb.1, hb.2, h.symm⟩
      · simp [bad] at h
    · simp [bad] at h

theorem splice_get (cs vs : List Value) (o : Nat) (ho : o + vs.length ≤ cs.length) (i : Nat) :
    (cs.take o ++ vs ++ cs.drop (o + vs.length))[i]? = if o ≤ i ∧ i < o + vs.length then vs[i - o]? else cs[i]? := by
  have hlt : (cs.take o).length = o := by rw [List.length_take]; omega
  by_cases h1 : i < o
  · rw [if_neg (by omega), List.append_assoc, List.getElem?_append_left (by omega), List.getElem?_take, if_pos h1]
  · by_cases h2 : i < o + vs.length
    · rw [if_pos (by omega), List.getElem?_append_left (by rw [List.length_append]; omega), List.getElem?_append_right (by omega), hlt]
    · rw [if_neg (by omega), List.getElem?_append_right (by rw [List.length_append]; omega), List.length_append, hlt, List.getElem?_drop]
      congr 1; omega

theorem HR.setBlk {ρ : Rho} {σ : St} {w w' : World} (hr : HR ρ σ w) {b : Nat} {o o' : Ob} {l : Loc} (hg : σ.get b = some o) (hw : writable o = true) (hl : ρ b = some l)
    (hw' : writable o' = true) (ho : ObR ρ w' l o') (hp : ∀ p, p ≠ l.pb → w'.heap[p]? = w.heap[p]?) : HR ρ (σ.set b (some o')) w' := by
  have hb := St.get_lt hg
  refine ⟨?_, ?_, hr.dom, hr.mkn⟩
  · intro x ox lx h1 h2
    rw [St.get_set hb] at h1
    by_cases e : x = b
    · subst e; simp only [if_true, Option.some.injEq] at h1; subst h1; rw [hl] at h2; cases h2; exact ho
    · rw [if_neg e] at h1
      exact (hr.ob x ox lx h1 h2).same (hp _ (fun e' => hr.sep b x o ox l lx (fun q => e q.symm) hg hw h1 hl h2 e'.symm))
  · intro x y ox oy lx ly hne h1 h2 h3 h4 h5
    rw [St.get_set hb] at h1 h3
    by_cases ex : x = b
    · subst ex
      rw [if_neg (fun e => hne e.symm)] at h3
      exact hr.sep x y o oy lx ly hne hg hw h3 h4 h5
    · rw [if_neg ex] at h1
      by_cases ey : y = b
      · subst ey
        exact hr.sep x y ox o lx ly hne h1 h2 hg h4 h5
      · rw [if_neg ey] at h3
        exact hr.sep x y ox oy lx ly hne h1 h2 h3 h4 h5

theorem mem_note {mark i b : Nat} {l : List Nat} : b ∈ note mark i l ↔ b ∈ l ∨ (b = i ∧ i < mark) := by
  unfold note
  split
  · rename_i hb
    have hb := of_blt hb
    split
    · rename_i ha
      constructor
      · exact .inl
      · rintro (h | ⟨rfl, _⟩)
        · exact h
        · obtain ⟨x, hx, e⟩ := List.any_eq_true.1 ha
          rw [of_beq e]; exact hx
    · simp [hb, or_comm]
  · rename_i hb
    constructor
    · exact .inl
    · rintro (h | ⟨rfl, h⟩)
      · exact h
      · have : Nat.blt b mark = true := by simpa [Nat.blt_eq] using h
        rw [this] at hb; cases hb

theorem Ext.setBlk {ρ : Rho} {σ : St} {w w' : World} (hr : HR ρ σ w) {b : Nat} {o o' : Ob} {l : Loc} (hg : σ.get b = some o) (hw : writable o = true) (hl : ρ b = some l)
    (hp : ∀ p, p ≠ l.pb → w'.heap[p]? = w.heap[p]?) (hs : w'.heap.size = w.heap.size) (h1 : w'.os = w.os) (h2 : w'.tape = w.tape) (h3 : w'.output = w.output) : Ext ρ σ w ρ (σ.set b (some o')) w' where
  le := Rho.le_refl _
  next := Nat.le_refl _
  heap := by omega
  os := h1
  tape := h2
  output := h3
  mkn := hr.mkn
  mark := rfl
  log x hx := mem_note.2 (.inl hx)
  logd x hx := by
    rcases mem_note.1 hx with h | ⟨rfl, h⟩
    · exact .inl h
    · exact .inr ⟨h, l, hl⟩
  frame p _ hn := hp p (fun e => hn b o l hg hw hl (fun q => mem_note.2 (.inr ⟨rfl, q⟩)) e.symm)
  wr x ox lx q1 q3 := by
    left
    rw [St.get_set (St.get_lt hg)] at q1
    by_cases e : x = b
    · subst e; exact ⟨q3, o, hg, fun _ => hw⟩
    · rw [if_neg e] at q1; exact ⟨q3, ox, q1, id⟩
  new x lx h := .inl h

/-- a store into a row -/
theorem HR.store {ρ : Rho} {σ σ' : St} {w : World} (hr : HR ρ σ w) (P : Program) {b o : Nat} {vs vs' : List Value} {a' : Addr} (ha : VA ρ ⟨b, o, none⟩ a')
    (hv : VL ρ vs vs') (h : storeC σ b o vs = some σ') : ∃ w', (storeCells a' vs').run P w = .ok () w' ∧ HR ρ σ' w' ∧ Ext ρ σ w ρ σ' w' := by
  rcases storeC_eq h with ⟨rfl, rfl⟩ | ⟨hne, cs, u, hg, hlen, hcell, rfl⟩
  · cases hv; exact ⟨w, by simp [storeCells], hr, Ext.refl hr⟩
  · obtain ⟨l, h1, h2, h3⟩ := ha.at_
    obtain ⟨q1, q2, q3, q4, C, t, fr, q5, q6, q7, q8⟩ := hr.ob b _ l hg h1
    have hl' := hv.length
    have ha' : a' = ⟨l.pb, l.po + o, none⟩ := by cases a'; simp_all [ha.s']; exact ha.s'
    obtain ⟨w', C', r1, r2, r3, r4, r5, r6, r7, r8, r9⟩ := run_storeCells_in P l.pb (l.po + o) t fr vs' 0 C w q5 (by omega) (hv.all_isCell hcell)
      (fun k hk1 hk2 => by have := q7 rfl (k - l.po) (by omega); rwa [show l.po + (k - l.po) = k by omega] at this)
    refine ⟨w', by rw [ha']; exact r1, ?_, Ext.setBlk hr hg rfl h1 r4 r5 r6 r7 r8⟩
    refine hr.setBlk hg rfl h1 rfl ⟨q1, q2, ?_, ?_, C', t, fr, r2, by omega, q7, ?_⟩ r4
    · rw [q3]; simp; omega
    · simp; omega
    · intro i v hi
      rw [splice_get cs vs o hlen] at hi
      rw [r9]
      by_cases e : o ≤ i ∧ i < o + vs.length
      · rw [if_pos e] at hi
        obtain ⟨v', s1, s2⟩ := hv.get hi
        rw [if_pos (by omega)]
        exact ⟨v', by rw [show l.po + i - (l.po + o + 0) = i - o by omega]; exact s1, s2⟩
      · rw [if_neg e] at hi
        rw [if_neg (by omega)]
        exact q8 i v hi

/-! ## new blocks -/
def Rho.put (ρ : Rho) (b : Nat) (l : Loc) : Rho := fun x => if x = b then some l else ρ x
theorem Rho.put_le {ρ : Rho} {b : Nat} {l : Loc} (h : ρ b = none) : ρ.le (ρ.put b l) := by
  intro x lx hx
  unfold Rho.put
  split
  · rename_i e; subst e; rw [h] at hx; cases hx
  · exact hx
theorem Rho.put_self (ρ : Rho) (b : Nat) (l : Loc) : ρ.put b l b = some l := by simp [Rho.put]
theorem Rho.put_ne {ρ : Rho} {b x : Nat} {l : Loc} (h : x ≠ b) : ρ.put b l x = ρ x := by simp [Rho.put, h]

theorem HR.new' {ρ : Rho} {σ σ' : St} {w w' : World} (hr : HR ρ σ w) {o : Ob} {b : Nat} {l : Loc} (h : σ.new o = some (b, σ')) (hl : w.heap.size ≤ l.pb)
    (hs : w.heap.size ≤ w'.heap.size) (hheap : ∀ p, p < w.heap.size → w'.heap[p]? = w.heap[p]?) (hos : w'.os = w.os) (htape : w'.tape = w.tape) (hout : w'.output = w.output)
    (ho : ObR (ρ.put b l) w' l o) : HR (ρ.put b l) σ' w' ∧ Ext ρ σ w (ρ.put b l) σ' w' ∧ ρ b = none := by
  obtain ⟨rfl, hm, hn, hmk, hlog, hget⟩ := St.new_eq h
  have hnone : ρ σ.next = none := hr.dom _ (Nat.le_refl _)
  have hle := Rho.put_le (l := l) hnone
  refine ⟨⟨?_, ?_, ?_, by have := hr.mkn; omega⟩, ⟨hle, by omega, hs, hos, htape, hout, hr.mkn, hmk, fun x hx => by rw [hlog]; exact hx, fun x hx => .inl (by rw [← hlog]; exact hx), fun p hp _ => hheap p hp, ?_, ?_⟩, hnone⟩
  · intro x ox lx h1 h2
    rw [hget] at h1
    by_cases e : x = σ.next
    · subst e; rw [if_pos rfl] at h1; cases h1; rw [Rho.put_self] at h2; cases h2; exact ho
    · rw [if_neg e] at h1; rw [Rho.put_ne e] at h2
      have := hr.ob x ox lx h1 h2
      exact (this.same (hheap _ this.lt)).mono hle
  · intro x y ox oy lx ly hne h1 h2 h3 h4 h5
    rw [hget] at h1 h3
    by_cases ex : x = σ.next
    · subst ex
      rw [Rho.put_self] at h4; cases h4
      rw [if_neg (fun e => hne e.symm)] at h3
      rw [Rho.put_ne (fun e => hne e.symm)] at h5
      have := (hr.ob y oy ly h3 h5).lt; omega
    · rw [if_neg ex] at h1; rw [Rho.put_ne ex] at h4
      by_cases ey : y = σ.next
      · subst ey
        rw [Rho.put_self] at h5; cases h5
        have := (hr.ob x ox lx h1 h4).lt; omega
      · rw [if_neg ey] at h3; rw [Rho.put_ne ey] at h5
        exact hr.sep x y ox oy lx ly hne h1 h2 h3 h4 h5
  · intro x hx
    rw [Rho.put_ne (by omega)]; exact hr.dom x (by omega)
  · intro x ox lx h1 h3
    rw [hget] at h1
    by_cases e : x = σ.next
    · subst e; rw [Rho.put_self] at h3; cases h3; exact .inr (.inl (by omega))
    · rw [if_neg e] at h1; rw [Rho.put_ne e] at h3; exact .inl ⟨h3, ox, h1, id⟩
  · intro x lx hx
    by_cases e : x = σ.next
    · subst e; exact .inr (Nat.le_refl _)
    · rw [Rho.put_ne e] at hx; exact .inl hx

theorem HR.new {ρ : Rho} {σ σ' : St} {w : World} (hr : HR ρ σ w) {o : Ob} {b : Nat} {l : Loc} {ob : Obj} (h : σ.new o = some (b, σ')) (hl : l.pb = w.heap.size)
    (ho : ObR (ρ.put b l) (w.alloc ob) l o) : HR (ρ.put b l) σ' (w.alloc ob) ∧ Ext ρ σ w (ρ.put b l) σ' (w.alloc ob) ∧ ρ b = none :=
  hr.new' h (by omega) (by simp) (fun p hp => by show (w.heap.push ob)[p]? = _; rw [Array.getElem?_push, if_neg (by omega)]) rfl rfl rfl ho

/-- a new row of cells; 'rest' lies behind them -/
theorem HR.newBlk {ρ : Rho} {σ σ' : St} {w : World} (hr : HR ρ σ w) {cs cs' rest : List Value} {u b : Nat} (t : TypeId) (h : σ.new (.blk cs u false) = some (b, σ')) (hv : VL ρ cs cs') :
    ∃ ρ', HR ρ' σ' (w.alloc (.cells (cs' ++ rest).toArray t)) ∧ Ext ρ σ w ρ' σ' (w.alloc (.cells (cs' ++ rest).toArray t)) ∧
      ρ' b = some ⟨w.heap.size, 0, cs.length + rest.length, u, cs.length, false⟩ := by
  let l : Loc := ⟨w.heap.size, 0, cs.length + rest.length, u, cs.length, false⟩
  have hlen := hv.length
  obtain ⟨rfl, hm, hn, _⟩ := St.new_eq h
  have hnone : ρ σ.next = none := hr.dom _ (Nat.le_refl _)
  obtain ⟨k1, k2, _⟩ := hr.new (l := l) (ob := .cells (cs' ++ rest).toArray t) h rfl
    ⟨rfl, rfl, rfl, by simp [l], (cs' ++ rest).toArray, t, (0, 0), by show (w.heap.push _)[w.heap.size]? = _; simp, by simp [l]; omega, fun _ i _ => by simp, fun i v hi => by
      obtain ⟨v', r1, r2⟩ := hv.get hi
      refine ⟨v', ?_, r2.mono (Rho.put_le hnone)⟩
      have hi' : i < cs'.length := (List.getElem?_eq_some_iff.1 r1).1
      simp only [l, Nat.zero_add, List.getElem?_toArray]
      rw [List.getElem?_append_left hi']; exact r1⟩
  exact ⟨_, k1, k2, Rho.put_self _ _ _⟩

/-- a block is forgotten -/
theorem HR.kill {ρ : Rho} {σ : St} {w : World} (hr : HR ρ σ w) {b : Nat} (hb : b < most) : HR ρ (σ.set b none) w := by
  refine ⟨?_, ?_, hr.dom, hr.mkn⟩
  · intro x ox lx h1 h2
    rw [St.get_set hb] at h1
    split at h1
    · cases h1
    · exact hr.ob x ox lx h1 h2
  · intro x y ox oy lx ly hne h1 h2 h3 h4 h5
    rw [St.get_set hb] at h1 h3
    split at h1
    · cases h1
    · split at h3
      · cases h3
      · exact hr.sep x y ox oy lx ly hne h1 h2 h3 h4 h5
theorem Ext.kill {ρ : Rho} {σ : St} {w : World} (hr : HR ρ σ w) {b : Nat} (hb : b < most) {l : Loc} (hl : ρ b = some l) : Ext ρ σ w ρ (σ.set b none) w where
  le := Rho.le_refl _
  next := Nat.le_refl _
  heap := Nat.le_refl _
  os := rfl
  tape := rfl
  output := rfl
  mkn := hr.mkn
  mark := rfl
  log x hx := mem_note.2 (.inl hx)
  logd x hx := by
    rcases mem_note.1 hx with h | ⟨rfl, h⟩
    · exact .inl h
    · exact .inr ⟨h, l, hl⟩
  frame _ _ _ := rfl
  wr x ox lx h1 h3 := by
    rw [St.get_set hb] at h1
    split at h1
    · cases h1
    · exact .inl ⟨h3, ox, h1, id⟩
  new _ _ h := .inl h

/-- a row grows where it lies: the old block is forgotten, the new one takes its place -/
theorem HR.grow {ρ : Rho} {σ σ' : St} {w w' : World} (hr : HR ρ σ w) {b d : Nat} {cs new : List Value} {u : Nat} {l l' : Loc} {o : Ob} (hg : σ.get b = some (.blk cs u false)) (hl : ρ b = some l)
    (hpb : l'.pb = l.pb) (h : (σ.set b none).new o = some (d, σ')) (hwo : writable o = true)
    (ho : ObR (ρ.put d l') w' l' o) (hp : ∀ p, p ≠ l.pb → w'.heap[p]? = w.heap[p]?) (hs : w'.heap.size = w.heap.size) (h1 : w'.os = w.os) (h2 : w'.tape = w.tape) (h3 : w'.output = w.output) :
    HR (ρ.put d l') σ' w' ∧ Ext ρ σ w (ρ.put d l') σ' w' := by
  have hb := St.get_lt hg
  obtain ⟨rfl, hm, hn0, hmk, hlog, hget0⟩ := St.new_eq h
  have hget : ∀ j, σ'.get j = if j = σ.next then some o else (σ.set b none).get j := hget0
  have hn : σ'.next = σ.next + 1 := hn0
  replace ho : ObR (ρ.put σ.next l') w' l' o := ho
  show HR (ρ.put σ.next l') σ' w' ∧ Ext ρ σ w (ρ.put σ.next l') σ' w'
  clear hget0 hn0 h
  have hnone : ρ σ.next = none := hr.dom _ (Nat.le_refl _)
  have hle := Rho.put_le (l := l') hnone
  have hbn : b ≠ σ.next := fun e => by rw [← e, hl] at hnone; cases hnone
  have hlogs : ∀ x, x ∈ σ'.log ↔ x ∈ σ.log ∨ (x = b ∧ b < σ.mark) := fun x => by rw [hlog]; exact mem_note
  have hmk' : σ'.mark = σ.mark := hmk
  refine ⟨⟨?_, ?_, ?_, by have := hr.mkn; omega⟩, ⟨hle, by omega, by omega, h1, h2, h3, hr.mkn, hmk', fun x hx => (hlogs x).2 (.inl hx), fun x hx => by
      rcases (hlogs x).1 hx with q | ⟨rfl, q⟩
      · exact .inl q
      · exact .inr ⟨q, l, hl⟩, fun p _ hq => hp p (fun e => hq b _ l hg rfl hl (fun q => (hlogs b).2 (.inr ⟨rfl, q⟩)) e.symm), ?_, ?_⟩⟩
  · intro x ox lx k1 k2
    rw [hget] at k1
    by_cases e : x = σ.next
    · subst e; rw [if_pos rfl] at k1; cases k1; rw [Rho.put_self] at k2; cases k2; exact ho
    · rw [if_neg e, St.get_set hb] at k1
      split at k1
      · cases k1
      · rename_i e2
        rw [Rho.put_ne e] at k2
        exact ((hr.ob x ox lx k1 k2).same (hp _ (fun q => hr.sep b x _ ox l lx (fun q => e2 q.symm) hg rfl k1 hl k2 q.symm))).mono hle
  · intro x y ox oy lx ly hne k1 k2 k3 k4 k5
    rw [hget] at k1 k3
    by_cases ex : x = σ.next
    · subst ex
      rw [Rho.put_self] at k4; cases k4
      rw [if_neg (fun e => hne e.symm), St.get_set hb] at k3
      rw [Rho.put_ne (fun e => hne e.symm)] at k5
      split at k3
      · cases k3
      · rename_i e2; rw [hpb]; exact hr.sep b y _ oy l ly (fun q => e2 q.symm) hg rfl k3 hl k5
    · rw [if_neg ex, St.get_set hb] at k1; rw [Rho.put_ne ex] at k4
      split at k1
      · cases k1
      · rename_i e1
        by_cases ey : y = σ.next
        · subst ey
          rw [Rho.put_self] at k5; cases k5
          rw [hpb]
          exact fun q => hr.sep x b ox _ lx l e1 k1 k2 hg k4 hl q
        · rw [if_neg ey, St.get_set hb] at k3; rw [Rho.put_ne ey] at k5
          split at k3
          · cases k3
          · exact hr.sep x y ox oy lx ly hne k1 k2 k3 k4 k5
  · intro x hx
    rw [Rho.put_ne (by omega)]; exact hr.dom x (by omega)
  · intro x ox lx k1 k3
    rw [hget] at k1
    by_cases e : x = σ.next
    · subst e; rw [Rho.put_self] at k3; cases k3; exact .inr (.inr ⟨b, _, l, hg, rfl, hl, hpb.symm, fun q => (hlogs b).2 (.inr ⟨rfl, q⟩)⟩)
    · rw [if_neg e, St.get_set hb] at k1; rw [Rho.put_ne e] at k3
      split at k1
      · cases k1
      · exact .inl ⟨k3, ox, k1, id⟩
  · intro x lx hx
    by_cases e : x = σ.next
    · subst e; exact .inr (Nat.le_refl _)
    · rw [Rho.put_ne e] at hx; exact .inl hx

end Go.Proofs.Ytkghejleififiaa.AS
