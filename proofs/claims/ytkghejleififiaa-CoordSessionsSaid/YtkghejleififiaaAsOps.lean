import Derived.Test.YtkghejleififiaaAsMem
namespace Go.Proofs.Ytkghejleififiaa.AS
open Go
set_option linter.unusedSectionVars false
variable [Sym]
set_option linter.unusedVariables false
set_option linter.unusedSimpArgs false

section types
variable {P : Program} (w : World)
theorem run_und {t : TypeId} {d : TypeDesc} (h : P.underlying t = some d) : (underlying t).run P w = .ok d w := by
  simp [underlying, h]
theorem run_info {t : TypeId} {i : TypeInfo} (h : P.info? t = some i) : (typeInfo t).run P w = .ok i w := by
  simp [typeInfo, h]
theorem run_size {t : TypeId} {n : Nat} (h : sizeT P t = some n) : (sizeOf t).run P w = .ok n w := by
  unfold sizeT at h
  split at h
  · rename_i i hi; simp only [pure, Option.some.injEq] at h; simp [sizeOf, run_info w hi, h]
  · simp [bad] at h
theorem run_agg {t : TypeId} {b : Bool} (h : aggT P t = some b) : (isAgg t).run P w = .ok b w := by
  unfold aggT at h
  split at h
  · rename_i fs hi; simp only [pure, Option.some.injEq] at h; subst h; simp [isAgg, run_und w hi]
  · rename_i n e hi; simp only [pure, Option.some.injEq] at h; subst h; simp [isAgg, run_und w hi]
  · rename_i d h1 h2 hi
    simp only [pure, Option.some.injEq] at h; subst h
    simp only [isAgg, Sem.run_bind, run_und w hi, Result.andThen_ok]
    cases d <;> first | rfl | exact absurd hi (h1 _) | exact absurd hi (h2 _ _)
  · simp [bad] at h
theorem zero_eq {t : TypeId} {z : Value} (h : zeroT P t = some z) : (zeroValue t).run P w = .ok z w ∧ z.cells.toList.all leaf = true ∧ ∃ i, P.info? t = some i ∧ i.zero = some z ∧ z.cells.size = i.size := by
  unfold zeroT at h
  split at h
  · rename_i i hi
    split at h
    · rename_i z' hz
      split at h
      · rename_i hc
        simp only [pure, Option.some.injEq] at h; subst h
        simp only [Bool.and_eq_true] at hc
        exact ⟨by simp [zeroValue, run_info w hi, hz], hc.1, i, hi, hz, of_beq hc.2⟩
      · simp [bad] at h
    · simp [bad] at h
  · simp [bad] at h
theorem zero_size {t : TypeId} {z : Value} {n : Nat} (h : zeroT P t = some z) (k : sizeT P t = some n) : z.cells.size = n := by
  obtain ⟨_, _, i, hi, _, hs⟩ := zero_eq default h
  simp [sizeT, hi] at k; omega
theorem elem_eq {t e : TypeId} (h : elemT P t = some e) : P.underlying t = some (.slice e) := by
  unfold elemT at h
  split at h
  · rename_i e' hi; simp only [pure, Option.some.injEq] at h; subst h; exact hi
  · simp [bad] at h
end types

theorem VR.inv_ptr {ρ : Rho} {a : Addr} {v' : Value} (h : VR ρ (.pointer (some a)) v') : ∃ a', v' = .pointer (some a') ∧ VA ρ a a' := by
  cases h with
  | leaf h => simp [AS.leaf] at h
  | ptr h => exact ⟨_, rfl, h⟩
theorem VR.inv_slice {ρ : Rho} {a : Addr} {n c : Nat} {v' : Value} (h : VR ρ (.slice (some a) n c) v') :
    ∃ a' c', v' = .slice (some a') n c' ∧ (VA ρ a a' ∧ capR ρ a c c' ∨ n = 0 ∧ c = 0 ∧ c' = 0 ∧ ∃ l, ρ a.block = some l) := by
  cases h with
  | leaf h => simp [AS.leaf] at h
  | slice h hc => exact ⟨_, _, rfl, .inl ⟨h, hc⟩⟩
  | empty h => exact ⟨_, _, rfl, .inr ⟨rfl, rfl, rfl, h⟩⟩
theorem VR.inv_leaf {ρ : Rho} {v v' : Value} (h : VR ρ v v') (hl : AS.leaf v = true) : v' = v := leaf_eq hl h
theorem VR.inv_agg {ρ : Rho} {cs : Array Value} {v' : Value} (h : VR ρ (.agg cs) v') : ∃ cs', v' = .agg cs' ∧ VL ρ cs.toList cs'.toList := by
  cases h with
  | leaf h => simp [AS.leaf] at h
  | agg h => exact ⟨_, rfl, h⟩
theorem VR.inv_tuple {ρ : Rho} {cs : Array Value} {v' : Value} (h : VR ρ (.tuple cs) v') : ∃ cs', v' = .tuple cs' ∧ VL ρ cs.toList cs'.toList := by
  cases h with
  | leaf h => simp [AS.leaf] at h
  | tuple h => exact ⟨_, rfl, h⟩
theorem VR.inv_map {ρ : Rho} {r : Nat} {v' : Value} (h : VR ρ (.map (some r)) v') : ∃ l, v' = .map (some l.pb) ∧ ρ r = some l := by
  cases h with
  | leaf h => simp [AS.leaf] at h
  | map h => exact ⟨_, rfl, h⟩
theorem VR.inv_func {ρ : Rho} {f : FuncId} {p c : Array Value} {v' : Value} (h : VR ρ (.func (.func f) p c) v') :
    ∃ p' c', v' = .func (.func f) p' c' ∧ VL ρ p.toList p'.toList ∧ VL ρ c.toList c'.toList := by
  cases h with
  | leaf h =>
    simp only [AS.leaf, Bool.and_eq_true, beq_iff_eq] at h
    have q1 := Array.eq_empty_of_size_eq_zero h.1
    have q2 := Array.eq_empty_of_size_eq_zero h.2
    subst q1 q2
    exact ⟨_, _, rfl, .nil, .nil⟩
  | func hp hc => exact ⟨_, _, rfl, hp, hc⟩

theorem addA_add {ρ : Rho} {a a' : Addr} (h : VA ρ a a') (n : Nat) : VA ρ (addA a n) (a'.add n) := by
  obtain ⟨l, h1, h2, h3⟩ := h.at_
  rw [add_eq h.s']
  exact ⟨rfl, rfl, l, h1, h2, by simp [addA]; omega⟩

/-! ## what an operation comes to -/
def OpR (P : Program) (ρ : Rho) (σ : St) (w : World) (s : Sem Next) (ne : Ne) (σ' : St) : Prop :=
  ∃ ρ' w', Ext ρ σ w ρ' σ' w' ∧ HR ρ' σ' w' ∧
    match ne with
    | .val v => ∃ v', s.run P w = .ok (.value v') w' ∧ VR ρ' v v'
    | .skip => s.run P w = .ok .skip w'
    | .enter f args => ∃ args' : List Value, s.run P w = .ok (.enter f args'.toArray) w' ∧ VL ρ' args args'

/-- the same of a value -/
def ValR (P : Program) (ρ : Rho) (σ : St) (w : World) (s : Sem Value) (v : Value) (σ' : St) : Prop :=
  ∃ ρ' w' v', Ext ρ σ w ρ' σ' w' ∧ HR ρ' σ' w' ∧ s.run P w = .ok v' w' ∧ VR ρ' v v'
theorem ValR.op {P : Program} {ρ : Rho} {σ σ' : St} {w : World} {s : Sem Value} {v : Value} (h : ValR P ρ σ w s v σ') :
    OpR P ρ σ w (do pure (.value (← s))) (.val v) σ' := by
  obtain ⟨ρ', w', v', h1, h2, h3, h4⟩ := h
  exact ⟨ρ', w', h1, h2, v', by simp [h3], h4⟩
theorem ValR.same {P : Program} {ρ : Rho} {σ : St} {w : World} {s : Sem Value} {v v' : Value} (hr : HR ρ σ w) (h : s.run P w = .ok v' w) (hv : VR ρ v v') : ValR P ρ σ w s v σ :=
  ⟨ρ, w, v', Ext.refl hr, hr, h, hv⟩

theorem pv_run {α : Type} {P : Program} : ∀ {s : Sem α} {a : α} (w : World), pv P s = some a → s.run P w = .ok a w
  | .pure _, _, w, h => by simp only [pv, Option.some.injEq] at h; subst h; rfl
  | .program k, _, w, h => by simp only [pv] at h; simp only [Sem.run]; exact pv_run w h
  | .mark _ k, _, w, h => by simp only [pv] at h; simp only [Sem.run]; exact pv_run w h
  | .load .., _, _, h => by simp [pv] at h
  | .store .., _, _, h => by simp [pv] at h
  | .new .., _, _, h => by simp [pv] at h
  | .shape .., _, _, h => by simp [pv] at h
  | .freeze .., _, _, h => by simp [pv] at h
  | .frozen .., _, _, h => by simp [pv] at h
  | .getObj .., _, _, h => by simp [pv] at h
  | .setObj .., _, _, h => by simp [pv] at h
  | .choose .., _, _, h => by simp [pv] at h
  | .sys .., _, _, h => by simp [pv] at h
  | .halt .., _, _, h => by simp [pv] at h

section ops
variable {P : Program} {ρ : Rho} {σ : St} {w : World}

theorem load_sim (hr : HR ρ σ w) {t : TypeId} {a a' v : Value} (ha : VR ρ a a') (h : loadV P σ t a = some v) :
    ∃ v', (Instr.loadAt t a').run P w = .ok v' w ∧ VR ρ v v' := by
  unfold loadV at h
  split at h
  · rename_i b o
    obtain ⟨p', rfl, hva⟩ := ha.inv_ptr
    simp only [bind, Option.bind_eq_some_iff] at h
    obtain ⟨ag, hag, h⟩ := h
    cases ag with
    | true =>
      simp only [if_true] at h
      simp only [Option.bind_eq_some_iff, pure, Option.some.injEq] at h
      obtain ⟨n, hn, l, hl, rfl⟩ := h
      obtain ⟨l', h1, h2, h3⟩ := hr.loadCells P hva hl
      exact ⟨.agg l'.toArray, by simp [Instr.loadAt, Instr.sureAddr, loadVar, run_agg w hag, run_size w hn, h3], .agg (by simpa using h1)⟩
    | false =>
      simp only [Bool.false_eq_true, if_false] at h
      simp only [Option.bind_eq_some_iff] at h
      obtain ⟨l, hl, h⟩ := h
      split at h
      · rename_i x
        simp only [pure, Option.some.injEq] at h; subst h
        obtain ⟨l', h1, h2, h3⟩ := hr.load hva hl
        cases h1 with
        | cons hx ht =>
          cases ht
          rename_i x'
          have := h3 0 x' rfl
          rw [add_eq hva.s', Nat.add_zero] at this
          have e : (⟨p'.block, p'.off, none⟩ : Addr) = p' := by have := hva.s'; cases p'; simp_all
          rw [e] at this
          exact ⟨x', by simp [Instr.loadAt, Instr.sureAddr, loadVar, run_agg w hag, this], hx⟩
      · simp [bad] at h
  · simp [bad] at h

theorem store_sim (hr : HR ρ σ w) {t : TypeId} {a a' v v' : Value} {σ' : St} (ha : VR ρ a a') (hv : VR ρ v v') (h : storeV P σ t a v = some σ') :
    ∃ w', (Instr.storeAt t a' v').run P w = .ok () w' ∧ HR ρ σ' w' ∧ Ext ρ σ w ρ σ' w' := by
  unfold storeV at h
  split at h
  · rename_i b o
    obtain ⟨p', rfl, hva⟩ := ha.inv_ptr
    simp only [bind, Option.bind_eq_some_iff] at h
    obtain ⟨n, hn, h⟩ := h
    split at h
    · rename_i hb
      have hb := of_beq hb
      have hj : notJunk v = true := by
        cases hq : notJunk v with
        | true => rfl
        | false =>
          exfalso
          have e : v = .chan none := by unfold notJunk at hq; split at hq <;> first | rfl | cases hq
          subst e
          unfold storeC at h
          simp only [Value.cells, List.all_cons, isCell, Bool.false_and, Bool.and_false] at h
          split at h <;> simp [bad] at h
      obtain ⟨w', h1, h2, h3⟩ := hr.store P hva (hv.cells hj) h
      have hs : v'.cells.size = n := by
        have := (hv.cells hj).length; simp only [Array.length_toList] at this hb; omega
      exact ⟨w', by simp [Instr.storeAt, Instr.sureAddr, storeVar, run_size w hn, hs, h1], h2, h3⟩
    · simp [bad] at h
  · simp [bad] at h

theorem newP_sim (hr : HR ρ σ w) {cs cs' : List Value} {v : Value} {σ' : St} (t : TypeId) (hv : VL ρ cs cs') (h : newP σ cs = some (v, σ')) :
    ∃ ρ', HR ρ' σ' (w.alloc (.cells cs'.toArray t)) ∧ Ext ρ σ w ρ' σ' (w.alloc (.cells cs'.toArray t)) ∧ VR ρ' v (.pointer (some ⟨w.heap.size, 0, none⟩)) := by
  unfold newP at h
  simp only [bind, Option.bind_eq_some_iff, pure, Option.some.injEq] at h
  obtain ⟨⟨b, σ1⟩, h1, h2⟩ := h
  simp only [Prod.mk.injEq] at h2
  obtain ⟨rfl, rfl⟩ := h2
  obtain ⟨ρ', k1, k2, k3⟩ := hr.newBlk (rest := []) t h1 hv
  simp only [List.append_nil] at k1 k2
  exact ⟨ρ', k1, k2, .ptr ⟨rfl, rfl, _, k3, rfl, by simp⟩⟩

theorem part_sim {t : TypeId} {cs cs' : List Value} {o : Nat} {v : Value} (hv : VL ρ cs cs') (h : partV P t cs o = some v) :
    ∃ v', (part t cs'.toArray o).run P w = .ok v' w ∧ VR ρ v v' := by
  unfold partV at h
  simp only [bind, Option.bind_eq_some_iff] at h
  obtain ⟨ag, hag, h⟩ := h
  cases ag with
  | true =>
    simp only [if_true] at h
    simp only [Option.bind_eq_some_iff, pure, Option.some.injEq] at h
    obtain ⟨n, hn, l, hl, rfl⟩ := h
    obtain ⟨rfl, _, _⟩ := sub_eq hl
    refine ⟨.agg (cs'.toArray.extract o (o + n)), by simp only [part, Sem.run_bind, run_agg w hag, Result.andThen_ok, if_true, run_size w hn, Sem.run_pure], .agg ?_⟩
    have := (hv.drop o).take n
    simp only [Array.toList_extract, List.extract_eq_take_drop, Nat.add_sub_cancel_left]
    simpa using this
  | false =>
    simp only [Bool.false_eq_true, if_false] at h
    simp only [Option.bind_eq_some_iff] at h
    obtain ⟨l, hl, h⟩ := h
    split at h
    · rename_i x
      simp only [pure, Option.some.injEq] at h; subst h
      obtain ⟨e, _, _⟩ := sub_eq hl
      have hx : cs[o]? = some x := by
        have : ((cs.drop o).take 1)[0]? = some x := by rw [← e]; rfl
        rw [List.getElem?_take, if_pos (by omega), List.getElem?_drop] at this
        simpa using this
      obtain ⟨x', h1, h2⟩ := hv.get hx
      exact ⟨x', by simp only [part, Sem.run_bind, run_agg w hag, Result.andThen_ok, Bool.false_eq_true, if_false, List.getElem?_toArray, h1, Sem.run_pure], h2⟩
    · simp [bad] at h

/-- parts of a composite -/
inductive PL (ρ : Rho) : List (Nat × Value) → List (Nat × Value) → Prop
  | nil : PL ρ [] []
  | cons {i : Nat} {v v' : Value} {l l' : List (Nat × Value)} (h : VR ρ v v') (hj : notJunk v = true) (t : PL ρ l l') : PL ρ ((i, v) :: l) ((i, v') :: l')

theorem PL.map {α : Type} (l : List α) (i : α → Nat) (f g : α → Value) (h : ∀ x ∈ l, VR ρ (f x) (g x)) (hj : ∀ x ∈ l, notJunk (f x) = true) : PL ρ (l.map fun x => (i x, f x)) (l.map fun x => (i x, g x)) := by
  induction l with
  | nil => exact .nil
  | cons x l ih => exact .cons (h x (by simp)) (hj x (by simp)) (ih (fun y hy => h y (by simp [hy])) fun y hy => hj y (by simp [hy]))

theorem lay_sim (off : Nat) : ∀ (l l' : List Value) (k : Nat) (cs cs' : Array Value), VL ρ l l' → VL ρ cs.toList cs'.toList →
    VL ρ ((l.zipIdx k).foldl (fun cs (c, j) => cs.setIfInBounds (off + j) c) cs).toList ((l'.zipIdx k).foldl (fun cs (c, j) => cs.setIfInBounds (off + j) c) cs').toList := by
  intro l
  induction l with
  | nil => intro l' k cs cs' h hc; cases h; simpa using hc
  | cons x l ih =>
    intro l' k cs cs' h hc
    cases h with
    | cons hx t =>
      simp only [List.zipIdx_cons, List.foldl_cons]
      refine ih _ _ _ _ t ?_
      simp only [Array.toList_setIfInBounds]
      exact hc.set _ hx

theorem fill_sim (place : Nat → Option (Nat × Nat)) : ∀ (ps ps' : List (Nat × Value)) (cs cs' out : Array Value), PL ρ ps ps' → VL ρ cs.toList cs'.toList →
    Instr.fill place cs ps = some out → ∃ out', Instr.fill place cs' ps' = some out' ∧ VL ρ out.toList out'.toList := by
  intro ps
  induction ps with
  | nil => intro ps' cs cs' out h hc hf; cases h; simp only [Instr.fill, Option.some.injEq] at hf; subst hf; exact ⟨cs', rfl, hc⟩
  | cons p ps ih =>
    intro ps' cs cs' out h hc hf
    cases h with
    | @cons i v v' l l' hv hj t =>
      have e1 : v'.cells.size = v.cells.size := by have := (hv.cells hj).length; simpa using this.symm
      have e2 : cs'.size = cs.size := by have := hc.length; simpa using this.symm
      simp only [Instr.fill] at hf ⊢
      split at hf
      · cases hf
      · rename_i off size hp
        rw [e1, e2]
        split at hf
        · cases hf
        · rename_i hcnd
          rw [if_neg hcnd]
          refine ih _ _ _ _ t ?_ hf
          simp only [← Array.foldl_toList, Array.toList_zipIdx]
          exact lay_sim off _ _ 0 _ _ (hv.cells hj) hc

theorem mapM_run {α β : Type} (f : α → Option β) (g : α → Sem β) : ∀ (l : List α) (ys : List β), (∀ x ∈ l, ∀ y, f x = some y → (g x).run P w = .ok y w) → l.mapM f = some ys → (l.mapM g).run P w = .ok ys w := by
  intro l
  induction l with
  | nil => intro ys _ h; simp at h; subst h; simp
  | cons x l ih =>
    intro ys hx h
    simp only [List.mapM_cons, bind, Option.bind_eq_some_iff, pure, Option.some.injEq] at h
    obtain ⟨y, h1, zs, h2, rfl⟩ := h
    have e1 := hx x (by simp) y h1
    have e2 := ih zs (fun a ha => hx a (by simp [ha])) h2
    simp only [List.mapM_cons, Sem.run_bind, e1, e2, Result.andThen_ok, Sem.run_pure]

theorem build_sim {t : TypeId} {ps ps' : List (Nat × Value)} {v : Value} (hp : PL ρ ps ps') (h : buildV P t ps = some v) :
    ∃ v', (Instr.build t ps'.toArray).run P w = .ok v' w ∧ VR ρ v v' := by
  unfold buildV at h
  simp only [bind, Option.bind_eq_some_iff] at h
  obtain ⟨z, hz, h⟩ := h
  obtain ⟨z1, z2, _⟩ := zero_eq w hz
  have hzz : VL ρ z.cells.toList z.cells.toList := VL.of_leaf z2
  split at h
  · rename_i fs hu
    simp only [bind, Option.bind_eq_some_iff, pure, Option.some.injEq, want] at h
    obtain ⟨pl, hpl, out, hf, rfl⟩ := h
    obtain ⟨out', k1, k2⟩ := fill_sim (fun x => pl[x]?) ps ps' _ _ out hp hzz hf
    have hm : (fs.mapM fun f => (do pure (f.offset, ← sizeOf f.type) : Sem (Nat × Nat))).run P w = .ok pl.toArray w := by
      rw [Array.mapM_eq_mapM_toList]
      have := mapM_run (P := P) (w := w) (fun f : Field => (do pure (f.offset, ← sizeT P f.type) : Option (Nat × Nat))) (fun f => (do pure (f.offset, ← sizeOf f.type) : Sem (Nat × Nat))) fs.toList pl (by
        intro x _ y hy
        simp only [bind, Option.bind_eq_some_iff, pure, Option.some.injEq] at hy
        obtain ⟨n, hn, rfl⟩ := hy
        simp [run_size w hn]) hpl
      simp only [Sem.run_map, this, Result.andThen_ok]
    refine ⟨.agg out', ?_, .agg k2⟩
    have k1' : Instr.fill (fun x => pl.toArray[x]?) z.cells ps' = some out' := by simpa using k1
    simp only [Instr.build, Sem.run_bind, z1, Result.andThen_ok, run_und w hu, hm, k1', Sem.run_pure]
  · rename_i n e hu
    simp only [bind, Option.bind_eq_some_iff, pure, Option.some.injEq, want] at h
    obtain ⟨size, hs, out, hf, rfl⟩ := h
    obtain ⟨out', k1, k2⟩ := fill_sim _ ps ps' _ _ out hp hzz hf
    refine ⟨.agg out', ?_, .agg k2⟩
    simp only [Instr.build, Sem.run_bind, z1, Result.andThen_ok, run_und w hu, run_size w hs, k1, Sem.run_pure]
  · simp [bad] at h

theorem fieldA_sim {t : TypeId} {x x' v : Value} {f : Nat} (hx : VR ρ x x') (h : fieldA P t x f = some v) :
    ∃ v', (Instr.fieldAt t x' f).run P w = .ok v' w ∧ VR ρ v v' := by
  unfold fieldA at h
  split at h
  · rename_i fs a hu
    obtain ⟨a', rfl, hva⟩ := hx.inv_ptr
    simp only [bind, Option.bind_eq_some_iff, want] at h
    obtain ⟨fd, hfd, n, hn, h⟩ := h
    split at h
    · simp [bad] at h
    · rename_i hne
      simp only [pure, Option.some.injEq] at h; subst h
      have hn0 : n ≠ 0 := fun e => hne (beq_t e)
      exact ⟨.pointer (some (a'.add fd.offset)), by simp [Instr.fieldAt, Instr.sureAddr, run_und w hu, hfd, fieldPlace, run_size w hn, hn0], .ptr (addA_add hva _)⟩
  · simp [bad] at h

theorem field_sim {t : TypeId} {x x' v : Value} {f : Nat} (hx : VR ρ x x') (h : fieldV P t x f = some v) :
    ∃ v', (Instr.field t x' f).run P w = .ok v' w ∧ VR ρ v v' := by
  unfold fieldV at h
  split at h
  · rename_i fs cs hu
    obtain ⟨cs', rfl, hcs⟩ := hx.inv_agg
    simp only [bind, Option.bind_eq_some_iff, want] at h
    obtain ⟨fd, hfd, h⟩ := h
    obtain ⟨v', h1, h2⟩ := part_sim (w := w) hcs h
    refine ⟨v', ?_, h2⟩
    simp only [Array.toArray_toList] at h1
    simp [Instr.field, run_und w hu, hfd, asAgg, h1]
  · simp [bad] at h

theorem and_le {i : Int} {n : Int} (h : (decide (0 ≤ i) && decide (i < n)) = true) : 0 ≤ i ∧ i < n := by simpa using h

theorem indexA_sim {t : TypeId} {x x' i i' v : Value} (hx : VR ρ x x') (hi : VR ρ i i') (h : indexA P t x i = some v) :
    ∃ v', (Instr.indexAt t x' i').run P w = .ok v' w ∧ VR ρ v v' := by
  unfold indexA at h
  split at h
  · rename_i n e a k i hu
    obtain ⟨a', rfl, hva⟩ := hx.inv_ptr
    have := hi.inv_leaf rfl; subst this
    split at h
    · rename_i hb
      obtain ⟨b1, b2⟩ := and_le hb
      simp only [bind, Option.bind_eq_some_iff, pure, Option.some.injEq] at h
      obtain ⟨sz, hs, rfl⟩ := h
      refine ⟨.pointer (some (a'.add (i.toNat * sz))), ?_, .ptr (addA_add hva _)⟩
      simp [Instr.indexAt, asIntOf, run_und w hu, Instr.sureAddr, b1, b2, run_size w hs]
    · simp [bad] at h
  · rename_i e a n c k i hu
    obtain ⟨a', c', rfl, hva⟩ := hx.inv_slice
    have := hi.inv_leaf rfl; subst this
    split at h
    · rename_i hb
      obtain ⟨b1, b2⟩ := and_le hb
      simp only [bind, Option.bind_eq_some_iff, pure, Option.some.injEq] at h
      obtain ⟨sz, hs, rfl⟩ := h
      rcases hva with ⟨hva, _⟩ | ⟨hn, _⟩
      · refine ⟨.pointer (some (a'.add (i.toNat * sz))), ?_, .ptr (addA_add hva _)⟩
        simp [Instr.indexAt, asIntOf, run_und w hu, b1, b2, run_size w hs]
      · omega
    · simp [bad] at h
  · simp [bad] at h

theorem indexV_sim {t : TypeId} {x x' i i' v : Value} (hx : VR ρ x x') (hi : VR ρ i i') (h : indexV P t x i = some v) :
    ∃ v', (Instr.index t x' i').run P w = .ok v' w ∧ VR ρ v v' := by
  unfold indexV at h
  split at h
  · rename_i n e cs k i hu
    obtain ⟨cs', rfl, hcs⟩ := hx.inv_agg
    have := hi.inv_leaf rfl; subst this
    split at h
    · rename_i hb
      obtain ⟨b1, b2⟩ := and_le hb
      simp only [bind, Option.bind_eq_some_iff] at h
      obtain ⟨sz, hs, h⟩ := h
      obtain ⟨v', h1, h2⟩ := part_sim (w := w) hcs h
      simp only [Array.toArray_toList] at h1
      exact ⟨v', by simp [Instr.index, asIntOf, run_und w hu, b1, b2, run_size w hs, h1], h2⟩
    · simp [bad] at h
  · simp [bad] at h

theorem extract_sim {x' v : Value} {xs : Array Value} {i : Nat} (hx : VR ρ (.tuple xs) x') (h : xs[i]? = some v) :
    ∃ v', (Instr.extract x' i).run P w = .ok v' w ∧ VR ρ v v' := by
  obtain ⟨xs', rfl, hxs⟩ := hx.inv_tuple
  obtain ⟨v', h1, h2⟩ := hxs.get (i := i) (v := v) (by simpa using h)
  have h1' : xs'[i]? = some v' := by simpa using h1
  exact ⟨v', by simp [Instr.extract, h1'], h2⟩

end ops
end Go.Proofs.Ytkghejleififiaa.AS
