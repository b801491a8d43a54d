import Derived.Test.YtkghejleififiaaAsDraw3
namespace Go.Proofs.Ytkghejleififiaa.AS
open Go
set_option linter.unusedSectionVars false
variable [Sym] [Orc]
set_option linter.unusedVariables false
set_option linter.unusedSimpArgs false
section
open Classical
variable {P : Program} [OrcOK P] {call : FuncId → List Value → St → R (Value × St)} {ops : Array Oper} {bef : List Nat} {pre : List (Nat × Nat)} {n : Nat}
variable {T : Tra P call ops bef pre n}

namespace Tra
variable {S : Nat → Prop} {ρ0 ρ : Rho} {w0 w : World} {a0 a : Act} {Q : Exit → Act → World → Prop}

theorem slots {i j d : Nat} {p o : Oper} (h : slotsOK ops bef = true) (hp : ops[i]? = some p) (ho : ops[j]? = some o) (hd : p.dst = some d) (hij : i ≠ j) :
    o.dst ≠ some d ∧ (d ∈ readsOf ops o → if i < j then ahead bef i j = true else ahead bef j i = true) := by
  unfold slotsOK at h
  have hp' : (p, i) ∈ ops.toList.zipIdx := by rw [List.mem_zipIdx_iff_getElem?]; simpa using hp
  have ho' : (o, j) ∈ ops.toList.zipIdx := by rw [List.mem_zipIdx_iff_getElem?]; simpa using ho
  have h1 := List.all_eq_true.1 h _ hp'
  simp only [hd] at h1
  have h2 := List.all_eq_true.1 h1 _ ho'
  simp only [beq_f hij, Bool.false_or, Bool.and_eq_true] at h2
  refine ⟨fun e => ?_, fun hm => ?_⟩
  · rw [e] at h2; simp only [beq_t rfl] at h2; cases h2.1
  · have h3 := h2.2
    have : (readsOf ops o).any (fun t => Nat.beq t d) = true := List.any_eq_true.2 ⟨d, hm, beq_t rfl⟩
    rw [this] at h3
    simp only [Bool.not_true, Bool.false_or] at h3
    by_cases e : i < j
    · rw [if_pos e]; rw [if_pos (by simpa [Nat.blt_eq] using e)] at h3; exact h3
    · rw [if_neg e]; rw [if_neg (by simp [blt_f (by omega : j ≤ i)])] at h3; exact h3

/-- one operation that is ready -/
theorem Inv.step (hc : KeptCall call) (hs : SimCall P call) (hbef : bef = befOf ops ops.toList []) (hslots : slotsOK ops bef = true) (hpre : ∀ i b, (i, b) ∈ pre → b < (T.σ 0).next)
    (hg : GR P ρ0) (hr0 : HR ρ0 (T.σ 0) w0) (I : T.Inv ρ0 w0 a0 S ρ w a) {j : Nat} (hj : j < n) (hjS : ¬ S j)
    (hr : ∀ e ∈ (T.o j).after.toList, Region.binds .any e = true → S e.on) {S' : Nat → Prop} (hS : ∀ i, S' i ↔ (S i ∨ i = j)) {K : Act → World → Prop}
    (hK : ∀ ρ' a' w', T.Inv ρ0 w0 a0 S' ρ' w' a' → K a' w') : wpOp P ops Q j K a w := by
  obtain ⟨sv, sx, hstep, hnx, hmk, hlg, hvis, hsx, ht1, ht2, ht3⟩ := vis hc hbef hpre I hj hjS hr
  have hoj := T.ho j hj
  have hHR : HR (cut ρ (T.σ j).next) sv w := by
    refine ⟨fun b o l h1 h2 => ?_, fun b b' o o' l l' hne h1 h2 h3 h4 h5 => ?_, fun b hb => ?_, by rw [hmk, hnx]; exact Nat.le_refl _⟩
    · obtain ⟨q1, q2⟩ := cut_some.1 h2
      obtain ⟨r1, r2⟩ := hvis b o l h1 q2 q1
      exact I.ob b o l j (by omega) r2 r1 q2
    · obtain ⟨q1, q2⟩ := cut_some.1 h4
      obtain ⟨q3, q4⟩ := cut_some.1 h5
      exact I.sep b b' o o' l l' hne (hvis b o l h1 q2 q1).1 h2 (hvis b' o' l' h3 q4 q3).1 q2 q4
    · rw [hnx] at hb
      unfold cut; rw [if_neg (by omega)]
  have hGR : GR P (cut ρ (T.σ j).next) := by
    intro g hgs
    obtain ⟨l, h1, h2⟩ := hg g hgs
    refine ⟨l, cut_some.2 ⟨?_, I.ext.le _ _ h1⟩, h2⟩
    rcases Nat.lt_or_ge g (T.σ 0).next with q | q
    · exact Nat.lt_of_lt_of_le q (T.next_mono hc (by omega) (by omega))
    · rw [hr0.dom g q] at h1; cases h1
  have hlen : (T.tm j).length = a.tmps.size := by rw [T.tm_len (by omega), I.size]
  have hX : ∀ t ∈ readsOf ops (T.o j), VR (cut ρ (T.σ j).next) ((T.tm j).getD t undef) (a.tmps.getD t undef) := by
    intro t ht
    have h1 : ∀ i, S i → (T.o i).dst = some t → i < j := by
      intro i hi hd
      rcases Nat.lt_or_ge i j with q | q
      · exact q
      · exfalso
        have hne : i ≠ j := fun e => hjS (e ▸ hi)
        have := (slots hslots (T.ho i (I.bd i hi)) hoj hd hne).2 ht
        rw [if_neg (by omega)] at this
        exact hjS (ahead_S (T := T) hbef I.down (i + 1) i (by omega) (I.bd i hi) (I.down i hi) this)
    have h2 := I.tmp t j (by omega) h1
    rw [T.θ_const (j := j) (fun i q1 q2 => .inl (h1 i q1 q2)) n (by omega) (Nat.le_refl _), T.θ_agree j (by omega) (fun i hi hd => ?_)] at h2
    · exact h2
    · have := (slots hslots (T.ho i (by omega)) hoj hd (by omega)).2 ht
      rw [if_pos hi] at this
      exact ahead_S (T := T) hbef I.down (j + 1) j (by omega) hj hr this
  refine step_sim hs hoj hstep hHR hGR hlen hX ?_
  intro ρ1 v v' w1 e hR1 hv htm
  have hle1 := e.le
  have hnn : (T.σ j).next ≤ (T.σ (j + 1)).next := T.next_le hc hj
  have hrange : ∀ b l, ρ b = some l → ¬ ((T.σ j).next ≤ b ∧ b < (T.σ (j + 1)).next) := by
    intro b l hb hq
    rcases I.dom b l hb with q | ⟨i, q1, q2, q3⟩
    · have := T.next_mono hc (by omega : 0 ≤ j) (by omega); omega
    · rcases Nat.lt_trichotomy i j with q | q | q
      · have := T.next_mono hc (by omega : i + 1 ≤ j) (by omega); omega
      · exact hjS (q ▸ q1)
      · have := T.next_mono hc (by omega : j + 1 ≤ i) (by have := I.bd i q1; omega); omega
  let ρ2 : Rho := fun b => if (T.σ j).next ≤ b ∧ b < (T.σ (j + 1)).next then ρ1 b else ρ b
  have h2in : ∀ b, (T.σ j).next ≤ b ∧ b < (T.σ (j + 1)).next → ρ2 b = ρ1 b := fun b h => if_pos h
  have h2out : ∀ b, ¬ ((T.σ j).next ≤ b ∧ b < (T.σ (j + 1)).next) → ρ2 b = ρ b := fun b h => if_neg h
  have hle : ρ.le ρ2 := fun b l hb => by rw [h2out b (hrange b l hb)]; exact hb
  have h1lt : ∀ b l, ρ1 b = some l → b < (T.σ (j + 1)).next := by
    intro b l hb
    rcases Nat.lt_or_ge b (T.σ (j + 1)).next with q | q
    · exact q
    · rw [hR1.dom b (by rw [hsx]; exact q)] at hb; cases hb
  have h12 : ρ1.le ρ2 := by
    intro b l hb
    have hlt := h1lt b l hb
    by_cases q : (T.σ j).next ≤ b
    · rw [h2in b ⟨q, hlt⟩]; exact hb
    · rw [h2out b (fun z => q z.1)]
      rcases e.new b l hb with r | r
      · exact (cut_some.1 r).2
      · rw [hnx] at r; omega
  have h12q : ∀ q, j < q → q ≤ n → ρ1.le (cut ρ2 (T.σ q).next) := by
    intro q hq hqn b l hb
    exact cut_some.2 ⟨Nat.lt_of_lt_of_le (h1lt b l hb) (T.next_mono hc (by omega) hqn), h12 b l hb⟩
  -- what j touched, under the new map, is under the operation's own
  have htouch : ∀ b l, T.touch j b → ρ2 b = some l → ρ1 b = some l := by
    intro b l ht hb
    by_cases q : (T.σ j).next ≤ b ∧ b < (T.σ (j + 1)).next
    · rw [h2in b q] at hb; exact hb
    · rw [h2out b q] at hb
      rcases ht with ⟨hl, ht | ht⟩
      · have := (T.log_lt hc hj hl ht).1
        exact hle1 _ _ (cut_some.2 ⟨this, hb⟩)
      · exact absurd ht q
  have hnotouch : ∀ b, ¬ T.touch j b → ρ2 b = ρ b := by
    intro b ht
    refine h2out b fun q => ?_
    rcases T.pure_or_loud j with hp | hl
    · rw [T.quiet_same hj hp] at q; omega
    · exact ht ⟨hl, .inr q⟩
  have hlog_lt : ∀ b, b ∈ sx.log → b < (T.σ j).next ∧ ∃ l, cut ρ (T.σ j).next b = some l := by
    intro b hb
    rcases e.logd b hb with q | ⟨q, r⟩
    · rw [hlg] at q; cases q
    · rw [hmk] at q; exact ⟨q, r⟩
  -- nobody behind j has touched what j touched
  have hlast : ∀ b l, T.touch j b → ρ2 b = some l → ∀ i, S' i → T.touch i b → i ≤ j := by
    intro b l ht hb i hi hti
    rcases (hS i).1 hi with hi | rfl
    · rcases Nat.lt_or_ge j i with hji | hji
      · exfalso
        have hin := I.bd i hi
        have hmono := T.next_mono hc (by omega : j + 1 ≤ i) (by omega)
        by_cases q : (T.σ j).next ≤ b ∧ b < (T.σ (j + 1)).next
        · rcases hti with ⟨hli, hti | hti⟩
          · obtain ⟨l', hl'⟩ := I.ldom i b hi hli hti
            exact hrange b l' hl' q
          · omega
        · have hbl : b ∈ sx.log := by
            rcases ht3 b ht with r | r
            · exact r
            · exfalso
              exact q ⟨r, h1lt b l (htouch b l ht hb)⟩
          obtain ⟨r1, l', r2⟩ := hlog_lt b hbl
          rcases ht with ⟨hlj, ht | ht⟩
          · rcases hti with ⟨hli, hti | hti⟩
            · -- both wrote it: j's own sight of it
              have hna : ahead bef j i = false := by
                cases hh : ahead bef j i with
                | false => rfl
                | true => exact absurd (ahead_S (T := T) hbef I.down (i + 1) i (by omega) hin (I.down i hi) hh) hjS
              rcases T.hidden_pre hin hji hli hlj hti hna with z | ⟨b0, z1, z2⟩
              · exact (T.log_lt hc hj hlj ht).2.1 z
              · have := (step_load_local (σ2 := seen (T.σ j) (T.H j)) z1 rfl hlj (T.loud j hj hlj).1).1
                rw [this] at ht; cases ht
            · omega
          · exact q ht
      · exact hji
    · exact Nat.le_refl _
  have hSj : S' j := (hS j).2 (.inr rfl)
  have hVt : ∀ b l, T.touch j b → ρ2 b = some l → (T.V S' n).get b = sx.get b := by
    intro b l ht hb
    rw [T.V_last hSj ht (hlast b l ht hb) hj, ht1 b ht]
  have hVn : ∀ b, ¬ T.touch j b → (T.V S' n).get b = (T.V S n).get b := fun b ht => T.V_no hS ht n
  have hlogs : ∀ b, b ∈ (T.V S' n).log ↔ b ∈ (T.V S n).log ∨ (b < (T.σ 0).mark ∧ T.isLoud j ∧ b ∈ (T.s j).log) := by
    intro b
    rw [T.V_log, T.V_log]
    constructor
    · rintro (h | ⟨h, i, h1, h2, h3⟩)
      · exact .inl (.inl h)
      · rcases (hS i).1 h2 with q | rfl
        · exact .inl (.inr ⟨h, i, h1, q, h3⟩)
        · exact .inr ⟨h, h3⟩
    · rintro ((h | ⟨h, i, h1, h2, h3⟩) | ⟨h, h3⟩)
      · exact .inl h
      · exact .inr ⟨h, i, h1, (hS i).2 (.inl h2), h3⟩
      · exact .inr ⟨h, j, hj, hSj, h3⟩
  -- the own log of j
  have hown : ∀ b, b ∈ sx.log → T.isLoud j ∧ b ∈ (T.s j).log := by
    intro b hb
    obtain ⟨h1, h2⟩ := ht2 b hb
    refine ⟨h1, ?_⟩
    rcases h2 with h2 | h2
    · exact h2
    · have := (hlog_lt b hb).1; omega
  have hown' : ∀ b, T.isLoud j → b ∈ (T.s j).log → b ∈ sx.log := by
    intro b hl hb
    rcases ht3 b ⟨hl, .inl hb⟩ with r | r
    · exact r
    · have := (T.log_lt hc hj hl hb).1; omega
  have hM : (T.V S n).mark = (T.σ 0).mark := (T.V_next S n).2
  have hN : (T.V S n).next = (T.σ 0).next := (T.V_next S n).1
  have hmn : (T.σ 0).mark ≤ (T.σ 0).next := hr0.mkn
  have hExt : Ext ρ (T.V S n) w ρ2 (T.V S' n) w1 := by
    refine ⟨hle, by rw [hN, (T.V_next S' n).1]; exact Nat.le_refl _, e.heap, e.os, e.tape, e.output, by rw [hM, hN]; exact hmn, by rw [hM, (T.V_next S' n).2], fun b hb => (hlogs b).2 (.inl hb), ?_, ?_, ?_, ?_⟩
    · intro b hb
      rcases (hlogs b).1 hb with q | ⟨q1, q2, q3⟩
      · exact .inl q
      · obtain ⟨_, l, r⟩ := hlog_lt b (hown' b q2 q3)
        exact .inr ⟨by rw [hM]; exact q1, l, (cut_some.1 r).2⟩
    · intro p hp hf
      refine e.frame p hp ?_
      intro b o l h1 h2 h3 h4
      obtain ⟨q1, q2⟩ := cut_some.1 h3
      have hbl := h4 (by rw [hmk]; exact q1)
      refine hf b o l (hvis b o l h1 q2 q1).1 h2 q2 (fun hm => (hlogs b).2 (.inr ⟨by rw [hM] at hm; exact hm, hown b hbl⟩))
    · intro b o l h1 h2
      by_cases ht : T.touch j b
      · rw [hVt b l ht h2] at h1
        rcases e.wr b o l h1 (htouch b l ht h2) with ⟨q1, o0, q2, q3⟩ | q | ⟨b0, o0, l0, q1, q2, q3, q4, q5⟩
        · obtain ⟨r1, r2⟩ := cut_some.1 q1
          exact .inl ⟨r2, o0, (hvis b o0 l q2 r2 r1).1, q3⟩
        · exact .inr (.inl q)
        · obtain ⟨r1, r2⟩ := cut_some.1 q3
          have hbl := q5 (by rw [hmk]; exact r1)
          exact .inr (.inr ⟨b0, o0, l0, (hvis b0 o0 l0 q1 r2 r1).1, q2, r2, q4, fun hm => (hlogs b0).2 (.inr ⟨by rw [hM] at hm; exact hm, hown b0 hbl⟩)⟩)
      · rw [hVn b ht] at h1
        rw [hnotouch b ht] at h2
        exact .inl ⟨h2, o, h1, id⟩
    · intro b l hb
      by_cases q : (T.σ j).next ≤ b ∧ b < (T.σ (j + 1)).next
      · have := T.next_mono hc (by omega : 0 ≤ j) (by omega)
        exact .inr (by rw [hN]; omega)
      · rw [h2out b q] at hb; exact .inl hb
  -- blocks that j left alone stand in the world as they stood
  have hstill : ∀ b o l, ¬ T.touch j b → (T.V S n).get b = some o → ρ b = some l → l.pb < w.heap.size → w1.heap[l.pb]? = w.heap[l.pb]? := by
    intro b o l ht h1 h2 hlt
    refine e.frame l.pb hlt ?_
    intro b1 o1 l1 k1 k2 k3 k4
    obtain ⟨q1, q2⟩ := cut_some.1 k3
    have hbl := k4 (by rw [hmk]; exact q1)
    have hne : b1 ≠ b := fun z => ht (z ▸ ht2 b1 hbl)
    exact I.sep b1 b o1 o l1 l hne (hvis b1 o1 l1 k1 q2 q1).1 k2 h1 q2 h2
  have hob_lt : ∀ b o l, (T.V S n).get b = some o → ρ b = some l → l.pb < w.heap.size := by
    intro b o l h1 h2
    exact (I.ob b o l n (Nat.le_refl _) (fun i hi _ => I.bd i hi) h1 h2).lt
  refine hK ρ2 _ w1 ⟨?_, ?_, ?_, ?_, ?_, ?_, ?_, ?_, ?_, I.ext.trans hExt⟩
  · intro i hi
    rcases (hS i).1 hi with q | rfl
    · exact I.bd i q
    · exact hj
  · intro i hi ed h1 h2
    rcases (hS i).1 hi with q | rfl
    · exact (hS _).2 (.inl (I.down i q ed h1 h2))
    · exact (hS _).2 (.inl (hr ed h1 h2))
  · intro b l hb
    by_cases q : (T.σ j).next ≤ b ∧ b < (T.σ (j + 1)).next
    · exact .inr ⟨j, hSj, q⟩
    · rw [h2out b q] at hb
      exact (I.dom b l hb).imp id fun ⟨i, h1, h2⟩ => ⟨i, (hS i).2 (.inl h1), h2⟩
  · intro i b hi hl hb
    rcases (hS i).1 hi with q | rfl
    · obtain ⟨l, h⟩ := I.ldom i b q hl hb; exact ⟨l, hle _ _ h⟩
    · obtain ⟨_, l, h⟩ := hlog_lt b (hown' b hl hb); exact ⟨l, hle _ _ (cut_some.1 h).2⟩
  · intro b o l q hq hqt h1 h2
    by_cases ht : T.touch j b
    · have hjq := hqt j hSj ht
      rw [hVt b l ht h2] at h1
      exact (hR1.ob b o l h1 (htouch b l ht h2)).mono (h12q q hjq hq)
    · rw [hVn b ht] at h1
      rw [hnotouch b ht] at h2
      have hold := I.ob b o l q hq (fun i hi => hqt i ((hS i).2 (.inl hi))) h1 h2
      exact (hold.same (hstill b o l ht h1 h2 hold.lt)).mono (cut_mono hle (Nat.le_refl _))
  · intro b b' o o' l l' hne h1 hw h3 h4 h5
    by_cases ht : T.touch j b
    · have k1 := hVt b l ht h4
      rw [k1] at h1
      have k4 := htouch b l ht h4
      by_cases ht' : T.touch j b'
      · rw [hVt b' l' ht' h5] at h3
        exact hR1.sep b b' o o' l l' hne h1 hw h3 k4 (htouch b' l' ht' h5)
      · rw [hVn b' ht'] at h3
        rw [hnotouch b' ht'] at h5
        rcases e.wr b o l h1 k4 with ⟨q1, o0, q2, q3⟩ | q | ⟨b0, o0, l0, q1, q2, q3, q4, q5⟩
        · obtain ⟨r1, r2⟩ := cut_some.1 q1
          exact I.sep b b' o0 o' l l' hne (hvis b o0 l q2 r2 r1).1 (q3 hw) h3 r2 h5
        · have := hob_lt b' o' l' h3 h5
          omega
        · obtain ⟨r1, r2⟩ := cut_some.1 q3
          have hbl := q5 (by rw [hmk]; exact r1)
          have hne0 : b0 ≠ b' := fun z => ht' (z ▸ ht2 b0 hbl)
          rw [← q4]
          exact I.sep b0 b' o0 o' l0 l' hne0 (hvis b0 o0 l0 q1 r2 r1).1 q2 h3 r2 h5
    · rw [hVn b ht] at h1
      rw [hnotouch b ht] at h4
      by_cases ht' : T.touch j b'
      · have k5 := htouch b' l' ht' h5
        rw [hVt b' l' ht' h5] at h3
        rcases e.wr b' o' l' h3 k5 with ⟨q1, o0, q2, q3⟩ | q | ⟨b0, o0, l0, q1, q2, q3, q4, q5⟩
        · obtain ⟨r1, r2⟩ := cut_some.1 q1
          exact I.sep b b' o o0 l l' hne h1 hw (hvis b' o0 l' q2 r2 r1).1 h4 r2
        · have := hob_lt b o l h1 h4
          omega
        · obtain ⟨r1, r2⟩ := cut_some.1 q3
          have hbl := q5 (by rw [hmk]; exact r1)
          have hne0 : b ≠ b0 := fun z => ht (z ▸ ht2 b0 hbl)
          rw [← q4]
          exact I.sep b b0 o o0 l l0 hne0 h1 hw (hvis b0 o0 l0 q1 r2 r1).1 h4 r2
      · rw [hVn b' ht'] at h3
        rw [hnotouch b' ht'] at h5
        exact I.sep b b' o o' l l' hne h1 hw h3 h4 h5
  · rw [put_size, I.size]
  · intro t q hq hqt
    by_cases hd : (T.o j).dst = some t
    · have hjq := hqt j hSj hd
      have hθ : T.θ S' n t = (T.tm (j + 1)).getD t undef := by
        rw [T.θ_const (j := j + 1) (fun i hi hdi => ?_) n (by omega) (Nat.le_refl _)]
        · simp only [θ]; rw [if_pos ⟨hSj, hd⟩]
        · rcases (hS i).1 hi with r | rfl
          · exfalso
            have hne : j ≠ i := fun z => hjS (z ▸ r)
            exact (slots hslots hoj (T.ho i (I.bd i r)) hd hne).1 hdi
          · exact .inl (by omega)
      rw [hθ, htm, hd]
      exact (put_getD_VR hlen hv).mono (h12q q hjq hq)
    · rw [T.θ_no hS hd, put_getD_ne hd]
      exact (I.tmp t q hq (fun i hi => hqt i ((hS i).2 (.inl hi)))).mono (cut_mono hle (Nat.le_refl _))
  · rw [put_defers]; exact I.defers
end Tra
end
end Go.Proofs.Ytkghejleififiaa.AS
