import Derived.Test.YtkghejleififiaaAsDraw4
namespace Go.Proofs.Ytkghejleififiaa.AS
open Go
set_option linter.unusedSectionVars false
variable [Sym] [Orc]
set_option linter.unusedVariables false
set_option linter.unusedSimpArgs false
section
open Classical
variable {P : Program} [OrcOK P] {call : FuncId → List Value → St → R (Value × St)} {ops : Array Oper} {bef : List Nat} {pre : List (Nat × Nat)}
variable {T : Tra P call ops bef pre ops.size}

namespace Tra
variable {S : Nat → Prop} {ρ0 ρ : Rho} {w0 w : World} {a0 a : Act} {Q : Exit → Act → World → Prop}

theorem Inv.start (hc : KeptCall call) (hr : HR ρ0 (T.σ 0) w0) (ht : VL ρ0 (T.tm 0) a0.tmps.toList) : T.Inv ρ0 w0 a0 (fun _ => False) ρ0 w0 a0 := by
  have hle : ∀ q, q ≤ ops.size → ρ0.le (cut ρ0 (T.σ q).next) := by
    intro q hq b l hb
    refine cut_some.2 ⟨?_, hb⟩
    rcases Nat.lt_or_ge b (T.σ 0).next with z | z
    · exact Nat.lt_of_lt_of_le z (T.next_mono hc (by omega) hq)
    · rw [hr.dom b z] at hb; cases hb
  have hV : ∀ k, T.V (fun _ => False) k = T.σ 0 := by
    intro k
    induction k with
    | zero => rfl
    | succ k ih => simp only [V]; rw [if_neg (fun q => q.1)]; exact ih
  have hθ : ∀ k t, T.θ (fun _ => False) k t = (T.tm 0).getD t undef := by
    intro k t
    induction k with
    | zero => rfl
    | succ k ih => simp only [θ]; rw [if_neg (fun q => q.1)]; exact ih
  refine ⟨fun i h => h.elim, fun i h => h.elim, ?_, fun i b h => h.elim, ?_, ?_, ?_, ?_, rfl, ?_⟩
  · intro b l hb
    left
    rcases Nat.lt_or_ge b (T.σ 0).next with z | z
    · exact z
    · rw [hr.dom b z] at hb; cases hb
  · intro b o l q hq _ h1 h2
    rw [hV] at h1
    exact (hr.ob b o l h1 h2).mono (hle q hq)
  · intro b b' o o' l l' hne h1 h2 h3
    rw [hV] at h1 h3
    exact hr.sep b b' o o' l l' hne h1 h2 h3
  · have := ht.length; simpa using this.symm
  · intro t q hq _
    rw [hθ, getD_tmps]
    exact (ht.getD t).mono (hle q hq)
  · rw [hV]; exact Ext.refl hr

theorem Inv.finish (hc : KeptCall call) (hr : HR ρ0 (T.σ 0) w0) (I : T.Inv ρ0 w0 a0 S ρ w a) (hall : ∀ i, i < ops.size → S i) :
    Ext ρ0 (T.σ 0) w0 ρ (T.σ ops.size) w ∧ HR ρ (T.σ ops.size) w ∧ VL ρ (T.tm ops.size) a.tmps.toList ∧ a.defers = a0.defers := by
  have hdom : ∀ b l, ρ b = some l → b < (T.σ ops.size).next := by
    intro b l hb
    rcases I.dom b l hb with q | ⟨i, q1, _, q3⟩
    · exact Nat.lt_of_lt_of_le q (T.next_mono hc (by omega) (Nat.le_refl _))
    · exact Nat.lt_of_lt_of_le q3 (T.next_mono hc (by have := I.bd i q1; omega) (Nat.le_refl _))
  have hget : ∀ b l, ρ b = some l → (T.V S ops.size).get b = (T.σ ops.size).get b := by
    intro b l hb
    exact T.V_agree hc ops.size (Nat.le_refl _) (fun i hi _ => hall i hi) (hdom b l hb)
  have hlog : ∀ k, k ≤ ops.size → (T.V S k).log = (T.σ k).log := by
    intro k
    induction k with
    | zero => intro _; rfl
    | succ k ih =>
      intro hk
      simp only [V]
      rcases T.pure_or_loud k with hp | hl
      · rw [if_neg (fun q => by have := q.2; unfold isLoud at this; rw [hp] at this; cases this), ih (by omega), T.quiet_same (by omega) hp]
      · rw [if_pos ⟨hall k (by omega), hl⟩, (T.loud k (by omega) hl).2.2.1]
        show noteAll _ _ _ = noteAll _ _ _
        rw [ih (by omega), T.mark0 (k := k) (by omega)]
  have hE := I.ext
  refine ⟨⟨hE.le, T.next_mono hc (by omega) (Nat.le_refl _), hE.heap, hE.os, hE.tape, hE.output, hE.mkn, T.mark0 (Nat.le_refl _), ?_, ?_, ?_, ?_, hE.new⟩, ⟨?_, ?_, ?_, ?_⟩, ?_, I.defers⟩
  · rw [← hlog _ (Nat.le_refl _)]; exact hE.log
  · rw [← hlog _ (Nat.le_refl _)]; exact hE.logd
  · rw [← hlog _ (Nat.le_refl _)]; exact hE.frame
  · intro b o l h1 h2
    rw [← hlog _ (Nat.le_refl _)]
    exact hE.wr b o l (by rw [hget b l h2]; exact h1) h2
  · intro b o l h1 h2
    exact (I.ob b o l ops.size (Nat.le_refl _) (fun i hi _ => I.bd i hi) (by rw [hget b l h2]; exact h1) h2).mono (cut_le _ _)
  · intro b b' o o' l l' hne h1 h2 h3 h4 h5
    exact I.sep b b' o o' l l' hne (by rw [hget b l h4]; exact h1) h2 (by rw [hget b' l' h5]; exact h3) h4 h5
  · intro b hb
    cases h : ρ b with
    | none => rfl
    | some l => have := hdom b l h; omega
  · rw [T.mark0 (Nat.le_refl _)]; exact Nat.le_trans hr.mkn (T.next_mono hc (by omega) (Nat.le_refl _))
  · have hlen : (T.tm ops.size).length = a.tmps.toList.length := by rw [T.tm_len (Nat.le_refl _)]; simpa using I.size.symm
    refine VL.of_get hlen ?_
    intro t v hv
    have h1 := I.tmp t ops.size (Nat.le_refl _) (fun i hi _ => I.bd i hi)
    rw [T.θ_agree ops.size (Nat.le_refl _) (fun i hi _ => hall i hi), getD_tmps] at h1
    have hlt : t < a.tmps.toList.length := by rw [← hlen]; exact (List.getElem?_eq_some_iff.1 hv).1
    refine ⟨a.tmps.toList.getD t undef, by simp [List.getD_eq_getElem?_getD, List.getElem?_eq_getElem hlt], ?_⟩
    have : (T.tm ops.size).getD t undef = v := by simp [List.getD_eq_getElem?_getD, hv]
    rw [this] at h1
    exact h1.mono (cut_le _ _)

theorem ready_all (he : edgesOK ops = true) {listed : Array Bool} (hsz : listed.size = ops.size) (h : Region.ready .any ops listed = []) : ∀ m i, i < m → i < ops.size → listed[i]? = some true := by
  intro m
  induction m with
  | zero => intro i hi; omega
  | succ m ih =>
    intro i hi hio
    cases hl : listed[i]? with
    | none => rw [Array.getElem?_eq_none_iff] at hl; omega
    | some b =>
      cases b with
      | true => rfl
      | false =>
        exfalso
        have : i ∈ Region.ready .any ops listed := by
          unfold Region.ready
          refine List.mem_filter.2 ⟨List.mem_range.2 hio, ?_⟩
          have ho : ops[i]? = some ops[i] := Array.getElem?_eq_getElem hio
          rw [ho]
          simp only [Array.getD_eq_getD_getElem?, hl, Option.getD_some, Bool.not_false, Bool.true_and, Option.map_some]
          rw [Array.all_eq_true']
          intro e hem
          unfold edgesOK at he
          have hz : (ops[i], i) ∈ ops.toList.zipIdx := by rw [List.mem_zipIdx_iff_getElem?]; simp
          have h1 := List.all_eq_true.1 (List.all_eq_true.1 he _ hz) e (by simpa using hem)
          simp only [Bool.or_eq_true] at h1 ⊢
          rcases h1 with h1 | h1
          · exact .inl h1
          · right
            have := ih e.on (by have := of_blt h1; omega) (by have := of_blt h1; omega)
            rw [this]; rfl
        rw [h] at this; cases this

theorem any_sim (hc : KeptCall call) (hs : SimCall P call) (hbef : bef = befOf ops ops.toList []) (hslots : slotsOK ops bef = true) (he : edgesOK ops = true) (hpre : ∀ i b, (i, b) ∈ pre → b < (T.σ 0).next)
    (hg : GR P ρ0) (hr0 : HR ρ0 (T.σ 0) w0)
    (hQ : ∀ ρ' a' w', Ext ρ0 (T.σ 0) w0 ρ' (T.σ ops.size) w' → HR ρ' (T.σ ops.size) w' → VL ρ' (T.tm ops.size) a'.tmps.toList → a'.defers = a0.defers → Q .normal a' w') :
    ∀ (fuel : Nat) (listed : Array Bool) (ρ : Rho) (a : Act) (w : World), listed.size = ops.size → listed.toList.count false ≤ fuel → T.Inv ρ0 w0 a0 (fun i => listed[i]? = some true) ρ w a →
      wpAny P .any ops Q fuel listed a w := by
  have hend : ∀ (listed : Array Bool) (ρ : Rho) (a : Act) (w : World), listed.size = ops.size → T.Inv ρ0 w0 a0 (fun i => listed[i]? = some true) ρ w a → Region.ready .any ops listed = [] → Q .normal a w := by
    intro listed ρ a w hsz I h
    obtain ⟨h1, h2, h3, h4⟩ := I.finish hc hr0 (fun i hi => ready_all he hsz h ops.size i hi hi)
    exact hQ ρ a w h1 h2 h3 h4
  intro fuel
  induction fuel with
  | zero =>
    intro listed ρ a w hsz hcnt I
    have hnil : Region.ready .any ops listed = [] := by
      unfold Region.ready
      rw [List.filter_eq_nil_iff]
      intro i hi hh
      have hi := List.mem_range.1 hi
      rw [Bool.and_eq_true] at hh
      have hlt : i < listed.size := by omega
      have h0 : listed.toList.count false = 0 := by omega
      have hne := List.count_eq_zero.1 h0
      have h1 := hh.1
      simp only [Array.getD_eq_getD_getElem?, Array.getElem?_eq_getElem hlt, Option.getD_some, Bool.not_eq_true'] at h1
      exact hne (by rw [← h1]; simp)
    exact ⟨hnil, hend listed ρ a w hsz I hnil⟩
  | succ fuel ih =>
    intro listed ρ a w hsz hcnt I
    refine ⟨hend listed ρ a w hsz I, ?_⟩
    intro i hi
    unfold Region.ready at hi
    obtain ⟨hi1, hi2⟩ := List.mem_filter.1 hi
    have hio := List.mem_range.1 hi1
    rw [Bool.and_eq_true] at hi2
    have hlt : i < listed.size := by omega
    have h1 := hi2.1
    simp only [Array.getD_eq_getD_getElem?, Array.getElem?_eq_getElem hlt, Option.getD_some, Bool.not_eq_true'] at h1
    refine I.step (S' := fun k => (listed.setIfInBounds i true)[k]? = some true) hc hs hbef hslots hpre hg hr0 hio ?_ ?_ ?_ ?_
    · rw [Array.getElem?_eq_getElem hlt, h1]; simp
    · intro e hem hb
      have h2 := hi2.2
      rw [T.ho i hio] at h2
      simp only [Option.map_some, Option.getD_some] at h2
      have h3 := (Array.all_eq_true'.1 h2) e (by simpa using hem)
      rw [hb] at h3
      simp only [Bool.not_true, Bool.false_or, Array.getD_eq_getD_getElem?] at h3
      cases hq : listed[e.on]? with
      | none => rw [hq] at h3; simp at h3
      | some b => rw [hq] at h3; simp at h3; rw [h3]
    · intro k
      by_cases e : k = i
      · subst e; simp [Array.getElem?_setIfInBounds_self_of_lt hlt]
      · rw [Array.getElem?_setIfInBounds_ne (fun z => e z.symm)]; simp [e]
    · intro ρ' a' w' I'
      refine ih _ ρ' a' w' (by simpa using hsz) ?_ I'
      rw [Array.toList_setIfInBounds]
      have hlt' : i < listed.toList.length := by simpa using hlt
      rw [List.count_set hlt']
      have hv : listed.toList[i] = false := by simpa using h1
      rw [hv]
      have hpos : 0 < listed.toList.count false := List.count_pos_iff.2 (by rw [← hv]; exact List.getElem_mem hlt')
      have q1 : (if (false == false) = true then (1:Nat) else 0) = 1 := rfl
      have q2 : (if (true == false) = true then (1:Nat) else 0) = 0 := rfl
      rw [q1, q2]
      omega
end Tra

/-- a region, over whatever the tape bids -/
theorem region_sim (hm : P.follows .mixedOrders = true) (hc : KeptCall call) (hs : SimCall P call) {ρ : Rho} {σ σ' : St} {w : World} {a : Act} {Q : Exit → Act → World → Prop} {id : Nat} {draw : Bool} {tm tm' : List Value}
    (h : regionV P call ops draw tm σ = some (tm', σ')) (hr : HR ρ σ w) (hg : GR P ρ) (ht : VL ρ tm a.tmps.toList)
    (hQ : ∀ ρ' a' w', Ext ρ σ w ρ' σ' w' → HR ρ' σ' w' → VL ρ' tm' a'.tmps.toList → a'.defers = a.defers → Q .normal a' w') :
    (Code.region id ops draw).wp P Q a w := by
  unfold regionV at h
  cases draw with
  | false =>
    simp only [Bool.false_eq_true, if_false] at h
    refine wp_region ?_
    have := ops_sim (P := P) (call := call) (Q := Q) (ops := ops) hs ops.toList 0 tm tm' σ σ' ρ w a (fun j => by rw [Nat.zero_add, Array.getElem?_toList]) h hr hg ht hQ
    rw [Array.length_toList, ← List.range_eq_range'] at this
    exact this
  | true =>
    simp only [if_true] at h
    split at h
    · rename_i hcond
      simp only [Bool.and_eq_true] at hcond
      simp only [bind, Option.bind_eq_some_iff, pure, Option.some.injEq] at h
      obtain ⟨⟨tm1, σ1, d1⟩, h1, h⟩ := h
      simp only [Prod.mk.injEq] at h
      obtain ⟨rfl, rfl⟩ := h
      have hpre : ∀ i b, (i, b) ∈ (storesOf ops tm).filter (fun (_, b) => Nat.blt b σ.next) → b < σ.next := fun i b hb => of_blt (List.mem_filter.1 hb).2
      generalize (storesOf ops tm).filter (fun (_, b) => Nat.blt b σ.next) = pre at h1 hpre
      obtain ⟨T, e1, e2, e3, e4⟩ := tra_of h1
      subst e1 e2 e3 e4
      refine wp_region_any hm ?_
      have hr' := hr.drawn (w.drawn + 1)
      refine Tra.any_sim (T := T) (a0 := a) (Q := Q) hc hs rfl hcond.1.1 hcond.1.2 hpre hg hr' ?_ ops.size _ ρ a _ (by simp) (by simp) ?_
      · intro ρ' a' w' k1 k2 k3 k4
        exact hQ ρ' a' w' ((Ext.drawn hr (w.drawn + 1)).trans k1) k2 k3 k4
      · have hS : (fun i : Nat => (Array.replicate ops.size false)[i]? = some true) = fun _ => False := by
          funext i
          simp [Array.getElem?_replicate]
        rw [hS]
        exact Tra.Inv.start hc hr' ht
    · simp [bad] at h
end
end Go.Proofs.Ytkghejleififiaa.AS
