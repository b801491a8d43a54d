import Derived.Test.YtkghejleififiaaAsOps4
namespace Go.Proofs.Ytkghejleififiaa.AS
open Go
set_option linter.unusedSectionVars false
variable [Sym]
set_option linter.unusedVariables false
set_option linter.unusedSimpArgs false

section ops
variable {P : Program} {ρ : Rho} {σ : St} {w : World}

/-! ## maps -/
theorem ML.length {l : List (Value × Value)} {l' : List MapEntry} (h : ML ρ l l') : l.length = l'.length := by
  induction h with
  | nil => rfl
  | cons _ _ _ _ ih => simp [ih]
theorem ML.get {l : List (Value × Value)} {l' : List MapEntry} (h : ML ρ l l') {i : Nat} {k v : Value} (hi : l[i]? = some (k, v)) : ∃ e, l'[i]? = some e ∧ e.key = k ∧ VR ρ v e.val ∧ flat1 k = true := by
  induction h generalizing i with
  | nil => simp at hi
  | cons hf hk hv _ ih =>
    cases i with
    | zero => simp at hi; obtain ⟨rfl, rfl⟩ := hi; exact ⟨_, rfl, hk, hv, hf⟩
    | succ i => simp at hi; simpa using ih hi
theorem ML.snoc {l : List (Value × Value)} {l' : List MapEntry} (h : ML ρ l l') {k v : Value} {e : MapEntry} (hf : flat1 k = true) (hk : e.key = k) (hv : VR ρ v e.val) : ML ρ (l ++ [(k, v)]) (l' ++ [e]) := by
  induction h with
  | nil => exact .cons hf hk hv .nil
  | cons a b c _ ih => exact .cons a b c ih
theorem ML.set {l : List (Value × Value)} {l' : List MapEntry} (h : ML ρ l l') (i : Nat) {k v : Value} {e : MapEntry} (hf : flat1 k = true) (hk : e.key = k) (hv : VR ρ v e.val) : ML ρ (l.set i (k, v)) (l'.set i e) := by
  induction h generalizing i with
  | nil => exact .nil
  | cons a b c t ih =>
    cases i with
    | zero => exact .cons hf hk hv t
    | succ i => exact .cons a b c (ih i)

/-- what was found, here and there -/
def FR (ρ : Rho) : Option (Nat × Value) → Option (Nat × Value) → Prop
  | none, none => True
  | some (x, v), some (y, v') => x = y ∧ VR ρ v v'
  | _, _ => False

theorem findNow_sim {l : List (Value × Value)} {l' : List MapEntry} (h : ML ρ l l') (d : TypeDesc) (k : Value) : ∀ (i : Nat) (r : Option (Nat × Value)),
    Instr.findNow d k (l.map fun (a, v) => ⟨a, v, 0⟩) i = some r → ∃ r', Instr.findNow d k l' i = some r' ∧ FR ρ r r' ∧ (∀ x v, r = some (x, v) → x < i + l.length) := by
  induction h with
  | nil => intro i r hr; simp only [List.map_nil, Instr.findNow, Option.some.injEq] at hr; subst hr; exact ⟨none, rfl, trivial, by simp⟩
  | @cons k0 v e l l' hf hk hv t ih =>
    intro i r hr
    simp only [List.map_cons, Instr.findNow] at hr ⊢
    rw [hk]
    split at hr
    · rename_i hs
      simp only [Option.some.injEq] at hr; subst hr
      exact ⟨some (i, e.val), rfl, ⟨rfl, hv⟩, fun x v q => by cases q; simp⟩
    · rename_i hs
      obtain ⟨r', h1, h2, h3⟩ := ih (i + 1) r hr
      refine ⟨r', h1, h2, fun x v e => by have := h3 x v e; simp; omega⟩
    · cases hr

theorem findA_sim {l : List (Value × Value)} {l' : List MapEntry} (h : ML ρ l l') (kT : TypeId) (k : Value) : ∀ (i : Nat) (r : Option (Nat × Value)),
    findA P kT k l i = some r → ∃ r', (Instr.findAsking kT k l' i).run P w = .ok r' w ∧ FR ρ r r' ∧ (∀ x v, r = some (x, v) → x < i + l.length) := by
  induction h with
  | nil => intro i r hr; simp only [findA, pure, Option.some.injEq] at hr; subst hr; exact ⟨none, by simp [Instr.findAsking], trivial, by simp⟩
  | @cons k0 v e l l' hf hk hv t ih =>
    intro i r hr
    simp only [findA, bind, Option.bind_eq_some_iff] at hr
    obtain ⟨b, hb, hr⟩ := hr
    have hrun := pv_run w hb
    cases b with
    | true =>
      simp only [if_true, pure, Option.some.injEq] at hr; subst hr
      exact ⟨some (i, e.val), by simp [Instr.findAsking, hk, hrun], ⟨rfl, hv⟩, fun x v q => by cases q; simp⟩
    | false =>
      simp only [Bool.false_eq_true, if_false] at hr
      obtain ⟨r', h1, h2, h3⟩ := ih (i + 1) r hr
      refine ⟨r', by simp [Instr.findAsking, hk, hrun, h1], h2, fun x v e => by have := h3 x v e; simp; omega⟩

theorem find_sim {l : List (Value × Value)} {l' : List MapEntry} (h : ML ρ l l') {kT : TypeId} {k : Value} {r : Option (Nat × Value)} (hr : findV P kT k l = some r) :
    ∃ r', (Instr.findKey kT k l').run P w = .ok r' w ∧ FR ρ r r' ∧ (∀ x v, r = some (x, v) → x < l.length) := by
  unfold findV at hr
  split at hr
  · rename_i i hu
    obtain ⟨r', h1, h2, h3⟩ := findNow_sim h (.int i) k 0 r hr
    exact ⟨r', by simp [Instr.findKey, run_und w hu, h1], h2, fun x v e => by simpa using h3 x v e⟩
  · rename_i hu
    obtain ⟨r', h1, h2, h3⟩ := findNow_sim h .string k 0 r hr
    exact ⟨r', by simp [Instr.findKey, run_und w hu, h1], h2, fun x v e => by simpa using h3 x v e⟩
  · rename_i fs hu
    obtain ⟨r', h1, h2, h3⟩ := findA_sim (P := P) (w := w) h kT k 0 r hr
    refine ⟨r', ?_, h2, fun x v e => by simpa using h3 x v e⟩
    cases h with
    | nil =>
      simp only [findA, pure, Option.some.injEq] at hr; subst hr
      simp only [Instr.findAsking, Sem.run_pure, Result.ok.injEq, and_true] at h1; subst h1
      simp [Instr.findKey, run_und w hu, Instr.findNow]
    | cons hf hk hv t =>
      have : ∀ x y, Instr.sameNow (.struct fs) x y = none := by intro x y; rfl
      simp [Instr.findKey, run_und w hu, Instr.findNow, this, h1]
  · simp [bad] at hr

theorem map_eq {t k e : TypeId} (h : mapT P t = some (k, e)) : P.underlying t = some (.map k e) := by
  unfold mapT at h
  split at h
  · rename_i a b hu; simp only [pure, Option.some.injEq, Prod.mk.injEq] at h; obtain ⟨rfl, rfl⟩ := h; exact hu
  · simp [bad] at h

theorem rows_sim (hr : HR ρ σ w) {x x' : Value} {es : List (Value × Value)} (hx : VR ρ x x') (h : rowsOf σ x = some es) :
    (x' = .map none ∧ es = [] ∨ ∃ r l E clk, x = .map (some r) ∧ σ.get r = some (.mp es) ∧ ρ r = some l ∧ x' = .map (some l.pb) ∧ w.heap[l.pb]? = some (.map E clk) ∧ ML ρ es E.toList) := by
  unfold rowsOf at h
  split at h
  · simp only [pure, Option.some.injEq] at h; subst h
    exact .inl ⟨hx.inv_leaf rfl, rfl⟩
  · rename_i r
    obtain ⟨l, rfl, hl⟩ := hx.inv_map
    split at h
    · rename_i es' hg
      simp only [pure, Option.some.injEq] at h; subst h
      obtain ⟨E, clk, h1, h2⟩ := hr.ob r _ l hg hl
      exact .inr ⟨r, l, E, clk, rfl, hg, hl, rfl, h1, h2⟩
    · simp [bad] at h
  · simp [bad] at h

theorem run_getMap {b : Nat} {E : Array MapEntry} {clk : Nat} (h : w.heap[b]? = some (.map E clk)) : (getObj b).run P w = .ok (.map E clk) w := by
  simp only [getObj, Sem.run, h]

theorem found_sim {e : TypeId} {ok : Bool} {r r' : Option (Nat × Value)} {v : Value} (hrr : FR ρ r r') (h : foundV P e ok r = some v) :
    (∃ y u', r' = some (y, u') ∧ VR ρ v (if ok then .tuple #[u', .bool true] else u')) ∨
    (r' = none ∧ ∃ z, (zeroValue e).run P w = .ok z w ∧ VR ρ v (if ok then .tuple #[z, .bool false] else z)) := by
  unfold foundV at h
  cases r with
  | none =>
    cases r' with
    | some _ => exact hrr.elim
    | none =>
      simp only [bind, Option.bind_eq_some_iff, pure, Option.some.injEq] at h
      obtain ⟨z, hz, rfl⟩ := h
      obtain ⟨z1, z2, _⟩ := zero_eq w hz
      have hzz : VR ρ z z := by
        cases z <;> first | exact .agg (VL.of_leaf z2) | (refine .leaf ?_; simpa [Value.cells] using z2)
      right
      refine ⟨rfl, z, z1, ?_⟩
      cases ok with
      | true => exact .tuple (.cons hzz (.cons (.leaf rfl) .nil))
      | false => exact hzz
  | some q =>
    obtain ⟨x, u⟩ := q
    cases r' with
    | none => exact hrr.elim
    | some q' =>
      obtain ⟨y, u'⟩ := q'
      simp only [pure, Option.some.injEq] at h; subst h
      left
      refine ⟨y, u', rfl, ?_⟩
      cases ok with
      | true => exact .tuple (.cons hrr.2 (.cons (.leaf rfl) .nil))
      | false => exact hrr.2

theorem ML.isEmpty {l : List (Value × Value)} {E : Array MapEntry} (h : ML ρ l E.toList) : E.isEmpty = l.isEmpty := by
  rw [← Array.isEmpty_toList]
  generalize E.toList = l' at h
  cases h <;> rfl

theorem lookup_sim (hr : HR ρ σ w) {t : TypeId} {x x' k k' v : Value} {ok : Bool} (hx : VR ρ x x') (hk : VR ρ k k') (h : lookupV P σ t x k ok = some v) :
    ∃ v', (Instr.lookup t x' k' ok).run P w = .ok v' w ∧ VR ρ v v' := by
  unfold lookupV at h
  simp only [bind, Option.bind_eq_some_iff, want] at h
  obtain ⟨⟨kT, e⟩, hm, es, hes, u, hck, h⟩ := h
  split at h
  · rename_i hf
    simp only [bind, Option.bind_eq_some_iff] at h
    obtain ⟨r, hfind, h⟩ := h
    have hkk := flat1_eq hf hk
    subst hkk
    have hmap := map_eq hm
    have hckr := pv_run w hck
    rcases rows_sim hr hx hes with ⟨rfl, rfl⟩ | ⟨b, l, E, clk, _, hg, hl, rfl, hE, hML⟩
    · obtain ⟨r', h1, h2, _⟩ := find_sim (P := P) (w := w) (ML.nil (ρ := ρ)) hfind
      have : (#[] : Array MapEntry).isEmpty = ([] : List (Value × Value)).isEmpty := rfl
      rcases found_sim (w := w) h2 h with ⟨y, u', rfl, h4⟩ | ⟨rfl, z, h3, h4⟩
      all_goals
        refine ⟨_, ?_, h4⟩
        simp only [Instr.lookup, Sem.run_bind, run_und w hmap, Result.andThen_ok, Sem.run_pure]
        rw [this, hckr]
        simp only [Result.andThen_ok, h1, Sem.run_bind, Sem.run_pure, *]
    · obtain ⟨r', h1, h2, _⟩ := find_sim (P := P) (w := w) hML hfind
      have : E.isEmpty = es.isEmpty := hML.isEmpty
      rcases found_sim (w := w) h2 h with ⟨y, u', rfl, h4⟩ | ⟨rfl, z, h3, h4⟩
      all_goals
        refine ⟨_, ?_, h4⟩
        simp only [Instr.lookup, Sem.run_bind, run_und w hmap, Result.andThen_ok, run_getMap hE, Sem.run_pure]
        rw [this, hckr]
        simp only [Result.andThen_ok, h1, Sem.run_bind, Sem.run_pure, *]
  · simp [bad] at h

theorem run_setMap {b : Nat} {E E' : Array MapEntry} {clk clk' : Nat} (h : w.heap[b]? = some (.map E clk)) : (setObj b (.map E' clk')).run P w = .ok () { w with heap := w.heap.setIfInBounds b (.map E' clk') } := by
  simp only [setObj, Sem.run, h]

theorem update_sim (hr : HR ρ σ w) {t : TypeId} {x x' k k' v v' : Value} {σ' : St} (hx : VR ρ x x') (hk : VR ρ k k') (hv : VR ρ v v') (h : updateV P σ t x k v = some σ') :
    ∃ w', (Instr.mapUpdate t x' k' v').run P w = .ok () w' ∧ HR ρ σ' w' ∧ Ext ρ σ w ρ σ' w' := by
  unfold updateV at h
  simp only [bind, Option.bind_eq_some_iff, want] at h
  obtain ⟨⟨kT, e⟩, hm, h⟩ := h
  split at h
  · rename_i r
    simp only [bind, Option.bind_eq_some_iff] at h
    obtain ⟨es, hes, u, hck, h⟩ := h
    split at h
    · rename_i hf
      simp only [bind, Option.bind_eq_some_iff] at h
      obtain ⟨f, hfind, h⟩ := h
      have hkk := flat1_eq hf hk
      subst hkk
      have hmap := map_eq hm
      have hckr := pv_run w hck
      rcases rows_sim hr hx hes with ⟨h1, _⟩ | ⟨b, l, E, clk, hxe, hg, hl, rfl, hE, hML⟩
      · obtain ⟨l, rfl, _⟩ := hx.inv_map; cases h1
      · simp only [Value.map.injEq, Option.some.injEq] at hxe; subst hxe
        obtain ⟨f', h1, h2, h3⟩ := find_sim (P := P) (w := w) hML hfind
        have fin : ∀ (es' : List (Value × Value)) (E' : Array MapEntry) (clk' : Nat), ML ρ es' E'.toList →
            HR ρ (σ.set r (some (.mp es'))) { w with heap := w.heap.setIfInBounds l.pb (.map E' clk') } ∧ Ext ρ σ w ρ (σ.set r (some (.mp es'))) { w with heap := w.heap.setIfInBounds l.pb (.map E' clk') } := by
          intro es' E' clk' hM
          have hp : ∀ p, p ≠ l.pb → (w.heap.setIfInBounds l.pb (.map E' clk'))[p]? = w.heap[p]? := fun p hne => Array.getElem?_setIfInBounds_ne (by omega)
          have hlt : l.pb < w.heap.size := (Array.getElem?_eq_some_iff.1 hE).1
          exact ⟨hr.setBlk hg rfl hl rfl ⟨E', clk', by simp [hlt], hM⟩ hp, Ext.setBlk hr hg rfl hl hp (by simp) rfl rfl rfl⟩
        unfold setRow at h
        cases f with
        | none =>
          simp only [pure, Option.some.injEq] at h; subst h
          cases f' with
          | some _ => exact h2.elim
          | none =>
            obtain ⟨g1, g2⟩ := fin (es ++ [(k', v)]) (E.push { key := k', val := v', born := clk }) (clk + 1) (by simpa using hML.snoc (e := { key := k', val := v', born := clk }) hf rfl hv)
            refine ⟨_, ?_, g1, g2⟩
            simp only [Instr.mapUpdate, Sem.run_bind, run_und w hmap, Result.andThen_ok, run_getMap hE, hckr, h1, run_setMap hE]
        | some q =>
          obtain ⟨i, u0⟩ := q
          cases f' with
          | none => exact h2.elim
          | some q' =>
            obtain ⟨j, u'⟩ := q'
            obtain ⟨rfl, _⟩ := h2
            simp only at h
            split at h
            · rename_i k0 v0 hi
              split at h
              · rename_i hsame
                simp only [pure, Option.some.injEq] at h; subst h
                obtain ⟨e0, he0, hek, hev, _⟩ := hML.get hi
                have he0' : E[i]? = some e0 := by simpa using he0
                obtain ⟨g1, g2⟩ := fin (es.set i (k', v)) (E.modify i fun e => { e with key := k', val := v' }) clk (by
                  have e1 : (E.modify i fun e => { e with key := k', val := v' }).toList = E.toList.set i { e0 with key := k', val := v' } := by
                    apply List.ext_getElem?
                    intro n
                    rw [Array.getElem?_toList, Array.getElem?_modify, List.getElem?_set]
                    by_cases hn : i = n
                    · subst hn
                      have hlt : i < E.size := (Array.getElem?_eq_some_iff.1 he0').1
                      rw [if_pos rfl, if_pos rfl, if_pos (by simpa using hlt), he0']
                      rfl
                    · simp [hn]
                  rw [e1]
                  exact hML.set i hf rfl hv)
                refine ⟨_, ?_, g1, g2⟩
                simp only [Instr.mapUpdate, Sem.run_bind, run_und w hmap, Result.andThen_ok, run_getMap hE, hckr, h1, he0', Option.map_some, Option.getD_some, hek, Instr.keyThatStays, hsame, if_true, Sem.run_pure, run_setMap hE]
              · simp [bad] at h
            · simp [bad] at h
    · simp [bad] at h
  · simp [bad] at h

end ops
end Go.Proofs.Ytkghejleififiaa.AS
