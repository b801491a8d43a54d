import Derived.Test.YtkghejleififiaaAsOps5
namespace Go.Proofs.Ytkghejleififiaa.AS
open Go
set_option linter.unusedSectionVars false
variable [Sym] [Orc]
set_option linter.unusedVariables false
set_option linter.unusedSimpArgs false

/-- what is told of operations on symbols is true -/
class OrcOK (P : Program) : Prop where
  ok : ∀ (o : Oper) (ev : Operand → Value) (v : Value), Orc.orc o ev = some v → ∀ (ρ : Rho) (ev' : Operand → Value) (w : World), (∀ x ∈ o.op.operands, VR ρ (ev x) (ev' x)) →
    ∃ v', (execOp ev' o).run P w = .ok (.value v') w ∧ VR ρ v v'

section ops
variable {P : Program} [OrcOK P] {ρ : Rho} {σ : St} {w : World}

theorem OpR.val0 {s : Sem Next} {v : Value} {v' : Value} (hr : HR ρ σ w) (h : s.run P w = .ok (.value v') w) (hv : VR ρ v v') : OpR P ρ σ w s (.val v) σ :=
  ⟨ρ, w, Ext.refl hr, hr, v', h, hv⟩

theorem plain_sim (hr : HR ρ σ w) {ev ev' : Operand → Value} {o : Oper} (hX : ∀ x ∈ o.op.operands, VR ρ (ev x) (ev' x)) (hsel : ∀ cs b, o.op ≠ .select cs b) {ne : Ne} {σ' : St} (h : plainV P σ ev o = some (ne, σ')) :
    OpR P ρ σ w (execOp ev' o) ne σ' := by
  unfold plainV at h
  split at h
  · rename_i hall
    have heq : execOp ev' o = execOp ev o := by
      refine execOp_congr o hsel fun x hx => flat_eq ?_ (hX x hx)
      exact List.all_eq_true.1 hall x (by simpa using hx)
    split at h
    · rename_i v hpv
      split at h
      · rename_i hf
        simp only [pure, Option.some.injEq, Prod.mk.injEq] at h
        obtain ⟨rfl, rfl⟩ := h
        rw [heq]
        exact .val0 hr (pv_run w hpv) (flat_VR hf)
      · simp [bad] at h
    · simp [bad] at h
  · split at h
    · rename_i v ho
      split at h
      · simp only [pure, Option.some.injEq, Prod.mk.injEq] at h
        obtain ⟨rfl, rfl⟩ := h
        obtain ⟨v', h1, h2⟩ := OrcOK.ok (P := P) o ev v ho ρ ev' w hX
        exact .val0 hr h1 h2
      · simp [bad] at h
    · simp [bad] at h

theorem VL.mapOps {ev ev' : Operand → Value} (xs : Array Operand) (h : ∀ x ∈ xs, VR ρ (ev x) (ev' x)) : VL ρ (xs.map ev).toList (xs.map ev').toList := by
  simp only [Array.toList_map]
  exact VL.map2 xs.toList ev ev' (fun x hx => h x (by simpa using hx))

theorem OR.map {ev ev' : Operand → Value} (x : Option Operand) (h : ∀ y, x = some y → VR ρ (ev y) (ev' y)) : OR ρ (x.map ev) (x.map ev') := by
  cases x with
  | none => trivial
  | some y => exact h y rfl

theorem eqGuard_none (op : BinOp) (t : TypeId) (p q : Operand) (x y : Value) (h : ∀ c d, ¬ (x = .agg c ∧ y = .agg d)) (h2 : ¬ (x = .nilIface ∧ y = .nilIface)) : (eqGuard op t p q x y).run P w = .ok () w := by
  unfold eqGuard
  split <;> (cases x <;> cases y <;> first | rfl | exact absurd ⟨rfl, rfl⟩ (h _ _) | exact absurd ⟨rfl, rfl⟩ h2)

section eq
variable {t : TypeId} (d : Nat) (w : World)
theorem eq_pn {e : TypeId} {a : Addr} (hu : P.underlying t = some (.pointer e)) : (Op.equalIn (d + 1) t (.pointer (some a)) (.pointer none)).run P w = .ok false w := by simp [Op.equalIn, run_und w hu]
theorem eq_np {e : TypeId} {a : Addr} (hu : P.underlying t = some (.pointer e)) : (Op.equalIn (d + 1) t (.pointer none) (.pointer (some a))).run P w = .ok false w := by simp [Op.equalIn, run_und w hu]
theorem eq_sn {e : TypeId} {a : Addr} {n c m k : Nat} (hu : P.underlying t = some (.slice e)) : (Op.equalIn (d + 1) t (.slice (some a) n c) (.slice none m k)).run P w = .ok false w := by simp [Op.equalIn, run_und w hu]
theorem eq_ns {e : TypeId} {a : Addr} {n c m k : Nat} (hu : P.underlying t = some (.slice e)) : (Op.equalIn (d + 1) t (.slice none m k) (.slice (some a) n c)).run P w = .ok false w := by simp [Op.equalIn, run_und w hu]
theorem eq_mn {k e : TypeId} {a : Nat} (hu : P.underlying t = some (.map k e)) : (Op.equalIn (d + 1) t (.map (some a)) (.map none)).run P w = .ok false w := by simp [Op.equalIn, run_und w hu]
theorem eq_nm {k e : TypeId} {a : Nat} (hu : P.underlying t = some (.map k e)) : (Op.equalIn (d + 1) t (.map none) (.map (some a))).run P w = .ok false w := by simp [Op.equalIn, run_und w hu]
theorem eq_fn {ps rs : Array TypeId} {v : Bool} {f : Fn} {p c : Array Value} (hu : P.underlying t = some (.func ps rs v)) : (Op.equalIn (d + 1) t (.func f p c) .nilFunc).run P w = .ok false w := by simp [Op.equalIn, run_und w hu]
theorem eq_nf {ps rs : Array TypeId} {v : Bool} {f : Fn} {p c : Array Value} (hu : P.underlying t = some (.func ps rs v)) : (Op.equalIn (d + 1) t .nilFunc (.func f p c)).run P w = .ok false w := by simp [Op.equalIn, run_und w hu]
end eq

theorem nilEq_sim {t : TypeId} {x x' y y' : Value} {b : Bool} (hx : VR ρ x x') (hy : VR ρ y y') (h : nilEq P t x y = some b) : (Op.equal t x' y').run P w = .ok b w ∧
    (∀ (op : BinOp) (p q : Operand), (eqGuard op t p q x' y').run P w = .ok () w) ∧ (binOp .eql t x' y' = (do pure (.bool (← Op.equal t x' y')))) ∧ (binOp .neq t x' y' = (do pure (.bool (!(← Op.equal t x' y'))))) := by
  unfold nilEq at h
  split at h
  · rename_i e a hu
    simp only [Option.some.injEq] at h; subst h
    obtain ⟨a', rfl, _⟩ := hx.inv_ptr
    have := hy.inv_leaf rfl; subst this
    refine ⟨?_, fun op p q => eqGuard_none _ _ _ _ _ _ (by simp) (by simp), rfl, rfl⟩
    exact eq_pn 9999 w hu
  · rename_i e a hu
    simp only [Option.some.injEq] at h; subst h
    obtain ⟨a', rfl, _⟩ := hy.inv_ptr
    have := hx.inv_leaf rfl; subst this
    refine ⟨?_, fun op p q => eqGuard_none _ _ _ _ _ _ (by simp) (by simp), rfl, rfl⟩
    exact eq_np 9999 w hu
  · rename_i e a n c m d hu
    simp only [Option.some.injEq] at h; subst h
    obtain ⟨a', c', rfl, _⟩ := hx.inv_slice
    have := hy.inv_leaf rfl; subst this
    refine ⟨?_, fun op p q => eqGuard_none _ _ _ _ _ _ (by simp) (by simp), rfl, rfl⟩
    exact eq_sn 9999 w hu
  · rename_i e n c a m d hu
    simp only [Option.some.injEq] at h; subst h
    obtain ⟨a', c', rfl, _⟩ := hy.inv_slice
    have := hx.inv_leaf rfl; subst this
    refine ⟨?_, fun op p q => eqGuard_none _ _ _ _ _ _ (by simp) (by simp), rfl, rfl⟩
    exact eq_ns 9999 w hu
  · rename_i k e a hu
    simp only [Option.some.injEq] at h; subst h
    obtain ⟨l, rfl, _⟩ := hx.inv_map
    have := hy.inv_leaf rfl; subst this
    refine ⟨?_, fun op p q => eqGuard_none _ _ _ _ _ _ (by simp) (by simp), rfl, rfl⟩
    exact eq_mn 9999 w hu
  · rename_i k e a hu
    simp only [Option.some.injEq] at h; subst h
    obtain ⟨l, rfl, _⟩ := hy.inv_map
    have := hx.inv_leaf rfl; subst this
    refine ⟨?_, fun op p q => eqGuard_none _ _ _ _ _ _ (by simp) (by simp), rfl, rfl⟩
    exact eq_nm 9999 w hu
  · rename_i ps rs v fn p c hu
    simp only [Option.some.injEq] at h; subst h
    have := hy.inv_leaf rfl; subst this
    have hx' : ∃ fn' p' c', x' = .func fn' p' c' := by cases hx <;> exact ⟨_, _, _, rfl⟩
    obtain ⟨fn', p', c', rfl⟩ := hx'
    refine ⟨?_, fun op p q => eqGuard_none _ _ _ _ _ _ (by simp) (by simp), rfl, rfl⟩
    exact eq_fn 9999 w hu
  · rename_i ps rs v fn p c hu
    simp only [Option.some.injEq] at h; subst h
    have := hx.inv_leaf rfl; subst this
    have hy' : ∃ fn' p' c', y' = .func fn' p' c' := by cases hy <;> exact ⟨_, _, _, rfl⟩
    obtain ⟨fn', p', c', rfl⟩ := hy'
    refine ⟨?_, fun op p q => eqGuard_none _ _ _ _ _ _ (by simp) (by simp), rfl, rfl⟩
    exact eq_nf 9999 w hu
  · cases h

theorem enter_sim {f : FuncId} {args : List Value} {ne : Ne} (h : enterV P f args = some ne) (args' : List Value) : ne = .enter f args ∧ (callFunc f args'.toArray).run P w = .ok (.enter f args'.toArray) w := by
  unfold enterV at h
  split at h
  · rename_i fn hf
    split at h
    · rename_i hb
      simp only [pure, Option.some.injEq] at h; subst h
      simp only [Bool.and_eq_true, Bool.not_eq_true'] at hb
      refine ⟨rfl, ?_⟩
      have h1 : fn.body.isNone = false := by cases hq : fn.body <;> simp_all
      simp only [callFunc, Sem.run_bind, run_program, Result.andThen_ok, hf, hb.2, Bool.false_eq_true, if_false, h1, Sem.run_pure]
    · simp [bad] at h
  · simp [bad] at h

theorem fill_PL {ev ev' : Operand → Value} (ps : Array (Nat × Operand)) (h : ∀ x ∈ (ps.toList.map (·.2)), VR ρ (ev x) (ev' x)) (hj : (ps.toList.all fun (_, x) => notJunk (ev x)) = true) :
    PL ρ (ps.toList.map fun (i, x) => (i, ev x)) (ps.map fun (i, x) => (i, ev' x)).toList := by
  rw [Array.toList_map]
  exact PL.map ps.toList (·.1) (fun p => ev p.2) (fun p => ev' p.2) (fun x hx => h x.2 (List.mem_map.2 ⟨x, hx, rfl⟩)) (fun x hx => List.all_eq_true.1 hj x hx)

theorem val0_op {s : Sem Value} {v v' : Value} (hr : HR ρ σ w) (h : s.run P w = .ok v' w) (hv : VR ρ v v') : OpR P ρ σ w (do pure (.value (← s))) (.val v) σ :=
  (ValR.same hr h hv).op

theorem skip_op {s : Sem Unit} {σ' : St} {w' : World} (h : s.run P w = .ok () w') (hr : HR ρ σ' w') (hx : Ext ρ σ w ρ σ' w') : OpR P ρ σ w (do s; pure .skip) .skip σ' :=
  ⟨ρ, w', hx, hr, by simp [h]⟩

theorem op_sim (hr : HR ρ σ w) {ev ev' : Operand → Value} {o : Oper} (hX : ∀ x ∈ o.op.operands, VR ρ (ev x) (ev' x)) {ne : Ne} {σ' : St} (h : opV P σ ev o = some (ne, σ')) :
    OpR P ρ σ w (execOp ev' o) ne σ' := by
  obtain ⟨dst, op, type, pos, after, guard⟩ := o
  cases op <;> simp only [opV] at h <;> simp only [Op.operands] at hX
  case move x =>
    simp only [pure, Option.some.injEq, Prod.mk.injEq] at h; obtain ⟨rfl, rfl⟩ := h
    exact .val0 hr rfl (hX x (by simp))
  case assign x =>
    simp only [pure, Option.some.injEq, Prod.mk.injEq] at h; obtain ⟨rfl, rfl⟩ := h
    exact .val0 hr rfl (hX x (by simp))
  case pick c a b =>
    split at h
    · rename_i t ht
      simp only [pure, Option.some.injEq, Prod.mk.injEq] at h; obtain ⟨rfl, rfl⟩ := h
      have hc := hX c (by simp)
      rw [ht] at hc
      have hc := hc.inv_leaf rfl
      refine .val0 (v' := if t then ev' a else ev' b) hr ?_ ?_
      · simp only [execOp, Sem.run_bind, asBool, hc, Sem.run_pure, Result.andThen_ok]
      · cases t
        · exact hX b (by simp)
        · exact hX a (by simp)
    · simp [bad] at h
  case alloc e =>
    simp only [v1, bind, Option.bind_eq_some_iff, pure, Option.some.injEq] at h
    obtain ⟨⟨v, σ1⟩, ⟨z, hz, hn⟩, h⟩ := h
    simp only [Prod.mk.injEq] at h; obtain ⟨rfl, rfl⟩ := h
    obtain ⟨z1, z2, _⟩ := zero_eq w hz
    obtain ⟨ρ', k1, k2, k3⟩ := newP_sim hr e (VL.of_leaf (ρ := ρ) z2) hn
    exact ValR.op ⟨ρ', _, _, k2, k1, by simp [Instr.alloc, z1, newVar, newRow], k3⟩
  case box e x =>
    split at h
    case isFalse => simp [bad] at h
    rename_i hj
    simp only [v1, bind, Option.bind_eq_some_iff, pure, Option.some.injEq] at h
    obtain ⟨⟨v, σ1⟩, hn, h⟩ := h
    simp only [Prod.mk.injEq] at h; obtain ⟨rfl, rfl⟩ := h
    obtain ⟨ρ', k1, k2, k3⟩ := newP_sim hr e ((hX x (by simp)).cells hj) hn
    exact ValR.op ⟨ρ', _, _, k2, k1, by simp [Instr.box, newVar, newRow], k3⟩
  case build t ps =>
    split at h
    case isFalse => simp [bad] at h
    rename_i hj
    simp only [v0, bind, Option.bind_eq_some_iff, pure, Option.some.injEq] at h
    obtain ⟨v, hb, h⟩ := h
    simp only [Prod.mk.injEq] at h; obtain ⟨rfl, rfl⟩ := h
    obtain ⟨v', h1, h2⟩ := build_sim (w := w) (fill_PL ps (fun x hx => hX x (by simpa using hx)) hj) hb
    rw [Array.toArray_toList] at h1
    exact val0_op hr h1 h2
  case buildSlice t n ps =>
    split at h
    case isFalse => simp [bad] at h
    rename_i hj
    simp only [v1, bind, Option.bind_eq_some_iff, pure, Option.some.injEq] at h
    obtain ⟨⟨v, σ1⟩, hb, h⟩ := h
    simp only [Prod.mk.injEq] at h; obtain ⟨rfl, rfl⟩ := h
    have := buildS_sim hr (fill_PL ps (fun x hx => hX x (by simpa using hx)) hj) hb
    rw [Array.toArray_toList] at this
    exact ValR.op this
  case load t a =>
    simp only [v0, bind, Option.bind_eq_some_iff, pure, Option.some.injEq] at h
    obtain ⟨v, hb, h⟩ := h
    simp only [Prod.mk.injEq] at h; obtain ⟨rfl, rfl⟩ := h
    obtain ⟨v', h1, h2⟩ := load_sim hr (hX a (by simp)) hb
    exact val0_op hr h1 h2
  case store t a x =>
    simp only [vs, bind, Option.bind_eq_some_iff, pure, Option.some.injEq] at h
    obtain ⟨σ1, hb, h⟩ := h
    simp only [Prod.mk.injEq] at h; obtain ⟨rfl, rfl⟩ := h
    obtain ⟨w', h1, h2, h3⟩ := store_sim hr (hX a (by simp)) (hX x (by simp)) hb
    exact skip_op h1 h2 h3
  case nilCheck x =>
    split at h
    · rename_i a ha
      simp only [pure, Option.some.injEq, Prod.mk.injEq] at h; obtain ⟨rfl, rfl⟩ := h
      have hx := hX x (by simp)
      rw [ha] at hx
      obtain ⟨a', e, hva⟩ := hx.inv_ptr
      exact .val0 (v' := .pointer (some a')) hr (by simp only [execOp, e, Sem.run_pure]) (.ptr hva)
    · rename_i f a b ha
      simp only [pure, Option.some.injEq, Prod.mk.injEq] at h; obtain ⟨rfl, rfl⟩ := h
      have hx := hX x (by simp)
      rw [ha] at hx
      obtain ⟨p', c', e, hp, hc⟩ := hx.inv_func
      exact .val0 (v' := .func (.func f) p' c') hr (by simp only [execOp, e, Sem.run_pure]) (.func hp hc)
    · simp [bad] at h
  case binOp b t x y yt =>
    have plainCase : plainV P σ ev ⟨dst, .binOp b t x y yt, type, pos, after, guard⟩ = some (ne, σ') → OpR P ρ σ w (execOp ev' ⟨dst, .binOp b t x y yt, type, pos, after, guard⟩) ne σ' :=
      fun hp => plain_sim hr (by simpa only [Op.operands] using hX) (by simp) hp
    split at h
    · rename_i r hn
      simp only [pure, Option.some.injEq, Prod.mk.injEq] at h; obtain ⟨rfl, rfl⟩ := h
      obtain ⟨h1, h2, h3, h4⟩ := nilEq_sim (w := w) (hX x (by simp)) (hX y (by simp)) hn
      refine val0_op (v' := .bool r) hr ?_ (.leaf rfl)
      simp only [Sem.run_bind, h2, Result.andThen_ok, h3, h1, Sem.run_pure]
    · rename_i r hn
      simp only [pure, Option.some.injEq, Prod.mk.injEq] at h; obtain ⟨rfl, rfl⟩ := h
      obtain ⟨h1, h2, h3, h4⟩ := nilEq_sim (w := w) (hX x (by simp)) (hX y (by simp)) hn
      refine val0_op (v' := .bool !r) hr ?_ (.leaf rfl)
      simp only [Sem.run_bind, h2, Result.andThen_ok, h4, h1, Sem.run_pure]
    · exact plainCase h
  case unOp a b c => exact plain_sim hr (by simpa only [Op.operands] using hX) (by simp) h
  case convert s d x =>
    unfold convertV at h
    split at h
    · rename_i e st hs hd hx
      split at h
      · rename_i he
        simp only [bind, Option.bind_eq_some_iff, pure, Option.some.injEq] at h
        obtain ⟨⟨b, σ1⟩, hn, h⟩ := h
        simp only [Prod.mk.injEq] at h; obtain ⟨rfl, rfl⟩ := h
        have hxx := hX x (by simp)
        rw [hx] at hxx
        have e := hxx.inv_leaf rfl
        have := strBytes_sim (P := P) hr hs hd he hn
        refine ValR.op ?_
        simp only [e]
        exact this
      · simp [bad] at h
    · rename_i e b off n c hs hd hx
      split at h
      · rename_i he
        simp only [bind, Option.bind_eq_some_iff, pure, Option.some.injEq] at h
        obtain ⟨cs, hc, l, hl, h⟩ := h
        simp only [Prod.mk.injEq] at h; obtain ⟨rfl, rfl⟩ := h
        have hxx := hX x (by simp)
        rw [hx] at hxx
        exact val0_op hr (bytesStr_sim hr hs hd he hxx hc hl) (.leaf rfl)
      · simp [bad] at h
    · exact plain_sim hr (by simpa only [Op.operands] using hX) (by simp) h
  case makeFunc fn a b =>
    cases fn <;> simp only [bad] at h <;> try (cases h; done)
    rename_i f
    simp only [pure, Option.some.injEq, Prod.mk.injEq] at h; obtain ⟨rfl, rfl⟩ := h
    refine val0_op hr (v' := .func (.func f) (a.map ev') (b.map ev')) rfl (.func (VL.mapOps a fun x hx => hX x (by simp [hx])) (VL.mapOps b fun x hx => hX x (by simp [hx])))
  case makeMap t r =>
    cases r with
    | some r => simp [bad] at h
    | none =>
      simp only [v1, bind, Option.bind_eq_some_iff, pure, Option.some.injEq] at h
      obtain ⟨⟨v, σ1⟩, ⟨⟨b, σ2⟩, hn, h1⟩, h⟩ := h
      simp only [Prod.mk.injEq] at h h1; obtain ⟨rfl, rfl⟩ := h; obtain ⟨rfl, rfl⟩ := h1
      let l : Loc := ⟨w.heap.size, 0, 1, 0, 0, false⟩
      obtain ⟨k1, k2, k3⟩ := hr.new (l := l) (ob := .map #[] 0) hn rfl ⟨#[], 0, by show (w.heap.push _)[w.heap.size]? = _; simp, .nil⟩
      exact ValR.op ⟨_, _, .map (some w.heap.size), k2, k1, by simp [Instr.makeMap], .map (l := l) (Rho.put_self _ _ _)⟩
  case makeSlice t l c =>
    simp only [v1, bind, Option.bind_eq_some_iff, pure, Option.some.injEq] at h
    obtain ⟨⟨v, σ1⟩, hb, h⟩ := h
    simp only [Prod.mk.injEq] at h; obtain ⟨rfl, rfl⟩ := h
    exact ValR.op (makeS_sim hr (hX l (by simp)) (hX c (by simp)) hb)
  case slice t x l hh m =>
    split at h
    · exact plain_sim hr (by simpa only [Op.operands] using hX) (by simp) h
    · simp only [v0, bind, Option.bind_eq_some_iff, pure, Option.some.injEq] at h
      obtain ⟨v, hb, h⟩ := h
      simp only [Prod.mk.injEq] at h; obtain ⟨rfl, rfl⟩ := h
      obtain ⟨v', h1, h2⟩ := slice_sim (P := P) hr (hX x (by simp)) (OR.map (ev := ev) (ev' := ev') l fun y hy => hX y (by simp [hy])) (OR.map hh fun y hy => hX y (by simp [hy])) (OR.map m fun y hy => hX y (by simp [hy])) hb
      exact val0_op hr h1 h2
  case fieldAddr t x f =>
    simp only [v0, bind, Option.bind_eq_some_iff, pure, Option.some.injEq] at h
    obtain ⟨v, hb, h⟩ := h
    simp only [Prod.mk.injEq] at h; obtain ⟨rfl, rfl⟩ := h
    obtain ⟨v', h1, h2⟩ := fieldA_sim (w := w) (hX x (by simp)) hb
    exact val0_op hr h1 h2
  case field t x f =>
    simp only [v0, bind, Option.bind_eq_some_iff, pure, Option.some.injEq] at h
    obtain ⟨v, hb, h⟩ := h
    simp only [Prod.mk.injEq] at h; obtain ⟨rfl, rfl⟩ := h
    obtain ⟨v', h1, h2⟩ := field_sim (w := w) (hX x (by simp)) hb
    exact val0_op hr h1 h2
  case indexAddr t x i =>
    simp only [v0, bind, Option.bind_eq_some_iff, pure, Option.some.injEq] at h
    obtain ⟨v, hb, h⟩ := h
    simp only [Prod.mk.injEq] at h; obtain ⟨rfl, rfl⟩ := h
    obtain ⟨v', h1, h2⟩ := indexA_sim (w := w) (hX x (by simp)) (hX i (by simp)) hb
    exact val0_op hr h1 h2
  case index t x i =>
    split at h
    · exact plain_sim hr (by simpa only [Op.operands] using hX) (by simp) h
    · simp only [v0, bind, Option.bind_eq_some_iff, pure, Option.some.injEq] at h
      obtain ⟨v, hb, h⟩ := h
      simp only [Prod.mk.injEq] at h; obtain ⟨rfl, rfl⟩ := h
      obtain ⟨v', h1, h2⟩ := indexV_sim (w := w) (hX x (by simp)) (hX i (by simp)) hb
      exact val0_op hr h1 h2
  case lookup t x i ok =>
    simp only [v0, bind, Option.bind_eq_some_iff, pure, Option.some.injEq] at h
    obtain ⟨v, hb, h⟩ := h
    simp only [Prod.mk.injEq] at h; obtain ⟨rfl, rfl⟩ := h
    obtain ⟨v', h1, h2⟩ := lookup_sim hr (hX x (by simp)) (hX i (by simp)) hb
    exact val0_op hr h1 h2
  case mapUpdate t m k x =>
    simp only [vs, bind, Option.bind_eq_some_iff, pure, Option.some.injEq] at h
    obtain ⟨σ1, hb, h⟩ := h
    simp only [Prod.mk.injEq] at h; obtain ⟨rfl, rfl⟩ := h
    obtain ⟨w', h1, h2, h3⟩ := update_sim hr (hX m (by simp)) (hX k (by simp)) (hX x (by simp)) hb
    exact skip_op h1 h2 h3
  case insert t m k x =>
    simp only [vs, bind, Option.bind_eq_some_iff, pure, Option.some.injEq] at h
    obtain ⟨σ1, hb, h⟩ := h
    simp only [Prod.mk.injEq] at h; obtain ⟨rfl, rfl⟩ := h
    obtain ⟨w', h1, h2, h3⟩ := update_sim hr (hX m (by simp)) (hX k (by simp)) (hX x (by simp)) hb
    exact skip_op h1 h2 h3
  case extract t i =>
    split at h
    · rename_i xs hxs
      simp only [v0, bind, Option.bind_eq_some_iff, pure, Option.some.injEq, want] at h
      obtain ⟨v, hb, h⟩ := h
      simp only [Prod.mk.injEq] at h; obtain ⟨rfl, rfl⟩ := h
      have hx := hX t (by simp)
      rw [hxs] at hx
      obtain ⟨v', h1, h2⟩ := extract_sim (P := P) (w := w) hx hb
      exact val0_op hr h1 h2
    · simp [bad] at h
  case call c =>
    obtain ⟨callee, args, argTypes⟩ := c
    simp only [Call.operands] at hX
    cases callee with
    | invoke r m => simp [bad] at h
    | value f =>
      simp only at h hX
      split at h
      · rename_i g first captured hf
        simp only [bind, Option.bind_eq_some_iff, pure, Option.some.injEq] at h
        obtain ⟨ne', he, h⟩ := h
        simp only [Prod.mk.injEq] at h; obtain ⟨rfl, rfl⟩ := h
        have hx := hX f (by simp)
        rw [hf] at hx
        obtain ⟨p', c', e, hp, hc⟩ := hx.inv_func
        obtain ⟨rfl, hrun⟩ := enter_sim (w := w) he (p'.toList ++ (args.map ev').toList ++ c'.toList)
        refine ⟨ρ, w, Ext.refl hr, hr, p'.toList ++ (args.map ev').toList ++ c'.toList, ?_, (hp.append (VL.mapOps args fun x hx => hX x (by simp [hx]))).append hc⟩
        have e2 : p' ++ args.map ev' ++ c' = (p'.toList ++ (args.map ev').toList ++ c'.toList).toArray := by
          apply Array.toList_inj.1; simp
        simp only [execOp, resolve, Sem.run_bind, e, Deferred.ofValue, Sem.run_pure, Result.andThen_ok, invoke, e2, hrun]
      · simp [bad] at h
    | builtin b =>
      have plainCase : plainV P σ ev ⟨dst, .call ⟨.builtin b, args, argTypes⟩, type, pos, after, guard⟩ = some (ne, σ') → OpR P ρ σ w (execOp ev' ⟨dst, .call ⟨.builtin b, args, argTypes⟩, type, pos, after, guard⟩) ne σ' :=
        fun hp => plain_sim hr (by simpa only [Op.operands, Call.operands] using hX) (by simp) hp
      have hargs : VL ρ (args.map ev).toList (args.map ev').toList := VL.mapOps args fun x hx => hX x (by simp [hx])
      have hexec : ∀ cs : Array Bool, True := fun _ => trivial
      simp only [builtinV] at h
      split at h
      · simp only [v1, bind, Option.bind_eq_some_iff, pure, Option.some.injEq] at h
        obtain ⟨⟨v, σ1⟩, hb, h⟩ := h
        simp only [Prod.mk.injEq] at h; obtain ⟨rfl, rfl⟩ := h
        exact ValR.op (append_sim hr type hargs hb)
      · simp only [v1, bind, Option.bind_eq_some_iff, pure, Option.some.injEq] at h
        obtain ⟨⟨v, σ1⟩, hb, h⟩ := h
        simp only [Prod.mk.injEq] at h; obtain ⟨rfl, rfl⟩ := h
        exact ValR.op (copy_sim hr type hargs hb)
      · simp only [v1, bind, Option.bind_eq_some_iff, pure, Option.some.injEq] at h
        obtain ⟨⟨v, σ1⟩, hb, h⟩ := h
        simp only [Prod.mk.injEq] at h; obtain ⟨rfl, rfl⟩ := h
        exact ValR.op (clear_sim hr type hargs hb)
      · -- len
        split at h
        · rename_i e a n c ht ha
          simp only [pure, Option.some.injEq, Prod.mk.injEq] at h; obtain ⟨rfl, rfl⟩ := h
          obtain ⟨x', hx', hvx⟩ := hargs.get (i := 0) (v := .slice a n c) (by simpa using ha)
          have hx' : (args.map ev')[0]? = some x' := by simpa using hx'
          simp only [Option.bind_eq_some_iff] at ht
          obtain ⟨t0, ht0, hu⟩ := ht
          have hs : ∃ a' c', x' = .slice a' n c' := by
            cases a with
            | none => exact ⟨_, _, hvx.inv_leaf rfl⟩
            | some a => obtain ⟨a', c', e, _⟩ := hvx.inv_slice; exact ⟨_, _, e⟩
          obtain ⟨a', c', rfl⟩ := hs
          refine val0_op (v' := .int .i64 n) hr ?_ (.leaf rfl)
          simp only [Builtin.len_, ht0, hx', Sem.run_bind, run_und w hu, Result.andThen_ok, Sem.run_pure, goInt]
        · rename_i k e r ht ha
          split at h
          · rename_i es hg
            simp only [pure, Option.some.injEq, Prod.mk.injEq] at h; obtain ⟨rfl, rfl⟩ := h
            obtain ⟨x', hx', hvx⟩ := hargs.get (i := 0) (v := .map (some r)) (by simpa using ha)
            have hx' : (args.map ev')[0]? = some x' := by simpa using hx'
            simp only [Option.bind_eq_some_iff] at ht
            obtain ⟨t0, ht0, hu⟩ := ht
            obtain ⟨l, rfl, hl⟩ := hvx.inv_map
            obtain ⟨E, clk, hE, hM⟩ := hr.ob r _ l hg hl
            have hlen := hM.length
            simp only [Array.length_toList] at hlen
            refine val0_op (v' := .int .i64 es.length) hr ?_ (.leaf rfl)
            simp only [Builtin.len_, ht0, hx', Sem.run_bind, run_und w hu, Result.andThen_ok, run_getMap hE, Sem.run_pure, goInt, hlen]
          · simp [bad] at h
        · rename_i n e x ht ha
          simp only [pure, Option.some.injEq, Prod.mk.injEq] at h; obtain ⟨rfl, rfl⟩ := h
          obtain ⟨x', hx', hvx⟩ := hargs.get (i := 0) (v := x) (by simpa using ha)
          have hx' : (args.map ev')[0]? = some x' := by simpa using hx'
          simp only [Option.bind_eq_some_iff] at ht
          obtain ⟨t0, ht0, hu⟩ := ht
          refine val0_op (v' := .int .i64 n) hr ?_ (.leaf rfl)
          simp only [Builtin.len_, ht0, hx', Sem.run_bind, run_und w hu, Result.andThen_ok, Sem.run_pure, goInt]
        · exact plainCase h
      · simp [bad] at h
      · exact plainCase h
  all_goals first
    | (simp [bad] at h; done)
    | skip

end ops
end Go.Proofs.Ytkghejleififiaa.AS
