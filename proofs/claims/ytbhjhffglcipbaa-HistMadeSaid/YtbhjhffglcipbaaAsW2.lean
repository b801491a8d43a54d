import Derived.Test.YtbhjhffglcipbaaAsW1
import Derived.Test.YtbhjhffglcipbaaAsAtX3
import Derived.Test.YtbhjhffglcipbaaAsG4
namespace Go.Proofs.Ytbhjhffglcipbaa.HW
open Go Go.Proofs.Ytbhjhffglcipbaa.AS Go.RowKit
open Go.Proofs.Ytbhjhffglcipbaa (u8V)
set_option linter.unusedVariables false
set_option linter.unusedSimpArgs false
set_option linter.unusedSectionVars false
def pinS : Win := ⟨2, i64 0, 0, 0⟩
/-- what is told in HistWrong: the spread's block -/
def extW (ap : Option Addr) (ns : Nat) (sb : Nat → Int) : Nat → Obj → Nat → Prop := fun tag o p =>
  tag = 1 ∧ ∃ y, ap = some y ∧ p = y.block ∧ ∃ C t fr, o = .cells C t fr ∧ y.off + ns * 1 ≤ C.size ∧ ∀ i, i < ns → ∀ j v, ([u8V (sb i)] : List Value)[j]? = some v → C[y.off + i * 1 + j]? = some v
/-- what the symbols stand for -/
structure SW (S : Sym) (ao ap : Option Addr) (n co ns cs : Nat) (av : Int) (sb : Nat → Int) (k : Nat) (sel : Nat → OpR) : Prop where
  hops : S.val 1 = .slice ao n co
  hspr : S.val 2 = .slice ap ns cs
  hat : S.val 3 = u8V av
  hn : S.val 9 = i64 n
  hns : S.val 10 = i64 ns
  rows : ∀ j, j < k → ∀ c u, ((sel j).cells)[c]? = some u → S.val (23 + 5 * j + c) = u
  ext : S.ext = extW ap ns sb
  pin : 0 < ns → pinS ∈ S.wins
theorem mineC_len (n : Nat) : (mineC n).length = 5 * n := by
  induction n with
  | zero => rfl
  | succ n ih => rw [mineC, List.length_append, ih]; show 5 * n + 5 = _; omega
theorem mineC_get {n j c : Nat} (hj : j < n) (hc : c < 5) : (mineC n)[j * 5 + c]? = (opS (23 + 5 * j))[c]? := by
  induction n with
  | zero => omega
  | succ n ih =>
    rw [mineC]
    have hl := mineC_len n
    rcases Nat.lt_or_ge j n with h | h
    · rw [List.getElem?_append_left (by omega)]; exact ih h
    · have e : j = n := by omega
      subst e
      rw [List.getElem?_append_right (by omega)]
      congr 1
      omega
theorem madeC_len (n : Nat) : (madeC n).length = 15 * n := by
  induction n with
  | zero => rfl
  | succ n ih => rw [madeC, List.length_append, ih]; show 15 * n + 15 = _; omega
theorem madeC_get {n j c : Nat} (hj : j < n) (hc : c < 15) : (madeC n)[j * 15 + c]? = (rowS (80 + 10 * j))[c]? := by
  induction n with
  | zero => omega
  | succ n ih =>
    rw [madeC]
    have hl := madeC_len n
    rcases Nat.lt_or_ge j n with h | h
    · rw [List.getElem?_append_left (by omega)]; exact ih h
    · have e : j = n := by omega
      subst e
      rw [List.getElem?_append_right (by omega)]
      congr 1
      omega
theorem opS_get {b c : Nat} (hc : c < 5) : (opS b)[c]? = some (sy (b + c)) := by
  match c, hc with
  | 0, _ => rfl
  | 1, _ => rfl
  | 2, _ => rfl
  | 3, _ => rfl
  | 4, _ => rfl
/-- the last call -/
def lastD (frm to : Int) : DR := ⟨i64 0, i64 0, i64 0, i64 0, 1, ⟨#[107]⟩, ⟨#[]⟩, ⟨#[]⟩, false, frm, to, 0, neverV, true, .complex .f64 0 0⟩
theorem lastC_VR {S : Sym} {ρ : Rho} {c : Nat} {frm to : Int} {u v' v : Value} (h16 : S.val 16 = i64 frm) (h17 : S.val 17 = i64 to) (hu : lastC[c]? = some u) (hv : @VR S ρ u v') (hc : ((lastD frm to).cells)[c]? = some v) : v' = v := by
  have hc15 : c < 15 := (List.getElem?_eq_some_iff.1 hu).1
  match c, hc15, hu, hc with
  | 0, _, hu, hc => simp only [lastC, DR.cells, lastD, List.getElem?_cons_zero, Option.some.injEq] at hu hc; subst hu hc; exact @VR.inv_leaf S ρ _ _ hv rfl
  | 1, _, hu, hc => simp only [lastC, DR.cells, lastD, List.getElem?_cons_succ, List.getElem?_cons_zero, Option.some.injEq] at hu hc; subst hu hc; exact @VR.inv_leaf S ρ _ _ hv rfl
  | 2, _, hu, hc => simp only [lastC, DR.cells, lastD, List.getElem?_cons_succ, List.getElem?_cons_zero, Option.some.injEq] at hu hc; subst hu hc; exact @VR.inv_leaf S ρ _ _ hv rfl
  | 3, _, hu, hc => simp only [lastC, DR.cells, lastD, List.getElem?_cons_succ, List.getElem?_cons_zero, Option.some.injEq] at hu hc; subst hu hc; exact @VR.inv_leaf S ρ _ _ hv rfl
  | 4, _, hu, hc => simp only [lastC, DR.cells, lastD, List.getElem?_cons_succ, List.getElem?_cons_zero, Option.some.injEq] at hu hc; subst hu hc; exact @VR.inv_leaf S ρ _ _ hv rfl
  | 5, _, hu, hc => simp only [lastC, DR.cells, lastD, List.getElem?_cons_succ, List.getElem?_cons_zero, Option.some.injEq] at hu hc; subst hu hc; exact @VR.inv_leaf S ρ _ _ hv rfl
  | 6, _, hu, hc => simp only [lastC, DR.cells, lastD, List.getElem?_cons_succ, List.getElem?_cons_zero, Option.some.injEq] at hu hc; subst hu hc; exact @VR.inv_leaf S ρ _ _ hv rfl
  | 7, _, hu, hc => simp only [lastC, DR.cells, lastD, List.getElem?_cons_succ, List.getElem?_cons_zero, Option.some.injEq] at hu hc; subst hu hc; exact @VR.inv_leaf S ρ _ _ hv rfl
  | 8, _, hu, hc => simp only [lastC, DR.cells, lastD, List.getElem?_cons_succ, List.getElem?_cons_zero, Option.some.injEq] at hu hc; subst hu hc; exact @VR.inv_leaf S ρ _ _ hv rfl
  | 9, _, hu, hc => simp only [lastC, DR.cells, lastD, List.getElem?_cons_succ, List.getElem?_cons_zero, Option.some.injEq] at hu hc; subst hu hc; rw [sy_eq hv]; exact h16
  | 10, _, hu, hc => simp only [lastC, DR.cells, lastD, List.getElem?_cons_succ, List.getElem?_cons_zero, Option.some.injEq] at hu hc; subst hu hc; rw [sy_eq hv]; exact h17
  | 11, _, hu, hc => simp only [lastC, DR.cells, lastD, List.getElem?_cons_succ, List.getElem?_cons_zero, Option.some.injEq] at hu hc; subst hu hc; exact @VR.inv_leaf S ρ _ _ hv rfl
  | 12, _, hu, hc => simp only [lastC, DR.cells, lastD, List.getElem?_cons_succ, List.getElem?_cons_zero, Option.some.injEq] at hu hc; subst hu hc; exact @VR.inv_leaf S ρ _ _ hv rfl
  | 13, _, hu, hc => simp only [lastC, DR.cells, lastD, List.getElem?_cons_succ, List.getElem?_cons_zero, Option.some.injEq] at hu hc; subst hu hc; exact @VR.inv_leaf S ρ _ _ hv rfl
  | 14, _, hu, hc => simp only [lastC, DR.cells, lastD, List.getElem?_cons_succ, List.getElem?_cons_zero, Option.some.injEq] at hu hc; subst hu hc; exact @VR.inv_leaf S ρ _ _ hv rfl
/-- the history that Linear is asked of -/
def histD (sel : Nat → OpR) (sp : Nat → Option Int) (k : Nat) (frm to : Int) (j : Nat) : DR := if j < k then madeRow sel sp j else lastD frm to

section
variable {S : Sym} {ao ap : Option Addr} {n co ns cs : Nat} {av : Int} {sb : Nat → Int} {k : Nat} {sel : Nat → OpR} {ρ : Rho} {σ : St} {w : World}
theorem spread_world (hS : SW S ao ap n co ns cs av sb k sel) (hr : @HR S ρ σ w) (h0 : okX 1 (σ.get 0) = true) : RowsZ w ap ns 1 fun k => [u8V (sb k)] := by
  rcases Nat.eq_zero_or_pos ns with h | h
  · exact .inl h
  have g0 := okX_eq h0
  obtain ⟨x1, n1, c1, kd, i1, l, p1, p2, p3, p4, p5, p6, p7, p8⟩ := @HR.win S ρ σ w hr pinS (hS.pin h)
  have p1 : S.val 2 = .slice (some x1) n1 c1 := p1
  rw [hS.hspr] at p1
  simp only [Value.slice.injEq] at p1
  obtain ⟨rfl, rfl, rfl⟩ := p1
  obtain ⟨o, z1, z2⟩ := @HR.ob S ρ σ w hr 0 _ l g0 p5
  rw [hS.ext] at z2
  obtain ⟨_, y, hy, hp, C, t, fr, rfl, a, b⟩ := z2
  simp only [Option.some.injEq] at hy
  subst hy
  refine .inr ⟨x1, rfl, p6, C, t, fr, ?_, a, b⟩
  rw [← hp]; exact z1
/-- the calls that are taken lie there -/
theorem mine_world (hS : SW S ao ap n co ns cs av sb k sel) (hr : @HR S ρ σ w) {b c : Nat} {v : Value} (hg : σ.get b = some (.blk (mineC k) 5 false (some 31))) (hk : 0 < k) (hv : @VR S ρ (.slice (some ⟨b, 0, none⟩) k c) v) :
    ∃ a' c', v = .slice (some a') k c' ∧ RowsZ w (some a') k 5 fun j => (sel j).cells := by
  obtain ⟨a', c', rfl, hva⟩ := @VR.inv_slice S ρ _ _ _ _ hv
  rcases hva with ⟨hva, hcap⟩ | ⟨e, _⟩
  case inr => omega
  obtain ⟨l, l1, l2, l3⟩ := hva.at_
  have l1 : ρ b = some l := l1
  have l3 : a'.off = l.po := l3
  obtain ⟨e1, e2, e3, e4, C, t, fr, e5, e6, e7, e8, e9⟩ := @HR.ob S ρ _ _ hr b _ l hg l1
  rw [mineC_len] at e3 e4
  refine ⟨a', c', rfl, .inr ⟨a', rfl, hva.s', C, t, fr, by rw [l2]; exact e5, by rw [l3]; omega, fun j hj c v hc => ?_⟩⟩
  have hc5 : c < 5 := (List.getElem?_eq_some_iff.1 hc).1
  obtain ⟨v', q1, q2⟩ := e8 (j * 5 + c) _ ((mineC_get hj hc5).trans (opS_get hc5))
  rw [l3, Nat.add_assoc, q1, sy_eq q2, hS.rows j hj c v hc]
end
end Go.Proofs.Ytbhjhffglcipbaa.HW
namespace Go.Proofs.Ytbhjhffglcipbaa
open Go Go.Proofs.Ytbhjhffglcipbaa.AS Go.Proofs.Ytbhjhffglcipbaa.HW Go.RowKit
set_option maxRecDepth 100000
set_option linter.unusedVariables false
set_option linter.unusedSimpArgs false
set_option linter.unusedSectionVars false
section
variable {S : Sym} {ao ap : Option Addr} {n co ns cs : Nat} {av : Int} {sb : Nat → Int} {k : Nat} {sel : Nat → OpR}
theorem madeS_ok (hS : SW S ao ap n co ns cs av sb k sel) (hk : k ≤ 9) (hm : ∀ j, j < k → ∀ c u, (rowT (madeRow sel (spF ns sb) j))[c]? = some u → S.val (80 + 10 * j + c) = u) : @SimFn S Try.prog 13 (madeS k) := by
  intro args σ v σ' h ρ w args' hg hr ha
  unfold madeS at h
  split at h
  case h_2 => cases h
  rename_i m s
  split at h
  case isFalse => cases h
  rename_i hc
  simp only [Bool.and_eq_true] at hc
  obtain ⟨c1, c2⟩ := hc
  have c1 := same_eq c1
  subst c1
  cases ha with | cons h1 t => cases t with | cons h2 t => cases t with | nil =>
  have h2 := sy_eq h2
  rw [hS.hspr] at h2
  subst h2
  have hsp := spread_world hS hr c2
  split at h
  · rename_i hk0
    have hk0 := of_beq hk0
    subst hk0
    split at h
    case isFalse => cases h
    rename_i hm0
    have hm0 := same_eq hm0
    subst hm0
    simp only [Option.some.injEq, Prod.mk.injEq] at h
    obtain ⟨rfl, rfl⟩ := h
    have h1 := @VR.inv_leaf S ρ _ _ h1 rfl
    subst h1
    refine (made_calls (ao := none) (n := 0) (co := 0) (ops := sel) (.inl rfl) hsp (by omega)).mono ?_
    rintro e w' ⟨hb, he⟩
    rcases he with ⟨_, rfl⟩ | ⟨h0, _⟩
    · exact ⟨_, ρ, rfl, @Ext.grown S _ _ _ _ hr hb, @HR.grown S _ _ _ _ hr hb, @VR.leaf S ρ _ rfl⟩
    · omega
  · rename_i hk0
    split at h
    case h_2 => cases h
    rename_i b o n' c'
    split at h
    case isFalse => cases h
    rename_i hc
    simp only [Bool.and_eq_true] at hc
    obtain ⟨e1, e2, e3⟩ := hc
    have e1 := of_beq e1; have e2 := of_beq e2
    subst e1 e2
    split at h
    case h_2 => cases h
    rename_i nb σ1 hnew
    simp only [Option.some.injEq, Prod.mk.injEq] at h
    obtain ⟨rfl, rfl⟩ := h
    have hkp : 0 < n' := by
      rcases Nat.eq_zero_or_pos n' with e | e
      · subst e; cases hk0
      · exact e
    have hgb : σ.get b = some (.blk (mineC n') 5 false (some 31)) := by
      unfold mineB at e3
      split at e3
      · rename_i cs0 u t hgg
        simp only [Bool.and_eq_true] at e3
        obtain ⟨k1, k2, k3⟩ := e3
        rw [hgg, of_beq k1, of_beq k2, listB_eq (fun a b q => same_eq q) k3]
      · cases e3
    obtain ⟨a', c2', rfl, hrows⟩ := mine_world hS hr hgb hkp h1
    refine (made_calls (n := n') (ops := sel) hrows hsp (by omega)).mono ?_
    rintro e w' ⟨hb, he⟩
    rcases he with ⟨h0, _⟩ | ⟨_, pb, cap, C, rfl, q1, q2, q3, q4, q5⟩
    · omega
    let l : AS.Loc := ⟨pb, 0, C.size, 15, 15 * n', false⟩
    have hob : @ObR S (ρ.put nb l) w' l (.blk (madeC n') 15 false (some 40)) := by
      refine ⟨rfl, rfl, (madeC_len n').symm, ?_, C, 40, (0, 0), q2, by simp only [l]; omega, fun _ i _ => by simp, ?_, ?_⟩
      · rw [madeC_len]; simp only [l]; omega
      · intro i u hu
        have hi : i < 15 * n' := by rw [← madeC_len]; exact (List.getElem?_eq_some_iff.1 hu).1
        have hj : i / 15 < n' := by omega
        have hc : i % 15 < 15 := Nat.mod_lt _ (by omega)
        have hi' : i = i / 15 * 15 + i % 15 := by omega
        have hcell : ((madeRow sel (spF ns sb) (i / 15)).cells)[i % 15]? = some (((madeRow sel (spF ns sb) (i / 15)).cells)[i % 15]'hc) := List.getElem?_eq_getElem _
        refine ⟨_, by rw [show l.po + i = i / 15 * 15 + i % 15 by simp only [l]; omega]; exact q5 _ hj _ _ hcell, ?_⟩
        rw [hi', madeC_get hj hc] at hu
        have hS2 := hm (i / 15) hj
        generalize hval : ((madeRow sel (spF ns sb) (i / 15)).cells)[i % 15]'hc = v at hcell
        generalize hcc : i % 15 = c at hc hcell hu
        match c, hc, hu, hcell with
        | 0, _, hu, hc => simp only [rowS, madeRow, DR.cells, List.getElem?_cons_zero, Option.some.injEq] at hu hc; subst hu hc; exact @VR.leaf S _ _ rfl
        | 1, _, hu, hc => simp only [rowS, madeRow, DR.cells, List.getElem?_cons_succ, List.getElem?_cons_zero, Option.some.injEq] at hu hc; subst hu hc; exact @VR.leaf S _ _ rfl
        | 2, _, hu, hc => simp only [rowS, madeRow, DR.cells, List.getElem?_cons_succ, List.getElem?_cons_zero, Option.some.injEq] at hu hc; subst hu hc; exact @VR.leaf S _ _ rfl
        | 3, _, hu, hc => simp only [rowS, madeRow, DR.cells, List.getElem?_cons_succ, List.getElem?_cons_zero, Option.some.injEq] at hu hc; subst hu hc; exact @VR.leaf S _ _ rfl
        | 4, _, hu, hc => simp only [rowS, DR.cells, List.getElem?_cons_succ, List.getElem?_cons_zero, Option.some.injEq] at hu hc; subst hu hc; exact @VR.sym S _ _ _ (hS2 0 _ rfl)
        | 5, _, hu, hc => simp only [rowS, DR.cells, List.getElem?_cons_succ, List.getElem?_cons_zero, Option.some.injEq] at hu hc; subst hu hc; exact @VR.sym S _ _ _ (hS2 1 _ rfl)
        | 6, _, hu, hc => simp only [rowS, DR.cells, List.getElem?_cons_succ, List.getElem?_cons_zero, Option.some.injEq] at hu hc; subst hu hc; exact @VR.sym S _ _ _ (hS2 2 _ rfl)
        | 7, _, hu, hc => simp only [rowS, DR.cells, List.getElem?_cons_succ, List.getElem?_cons_zero, Option.some.injEq] at hu hc; subst hu hc; exact @VR.sym S _ _ _ (hS2 3 _ rfl)
        | 8, _, hu, hc => simp only [rowS, DR.cells, List.getElem?_cons_succ, List.getElem?_cons_zero, Option.some.injEq] at hu hc; subst hu hc; exact @VR.sym S _ _ _ (hS2 4 _ rfl)
        | 9, _, hu, hc => simp only [rowS, DR.cells, List.getElem?_cons_succ, List.getElem?_cons_zero, Option.some.injEq] at hu hc; subst hu hc; exact @VR.sym S _ _ _ (hS2 5 _ rfl)
        | 10, _, hu, hc => simp only [rowS, DR.cells, List.getElem?_cons_succ, List.getElem?_cons_zero, Option.some.injEq] at hu hc; subst hu hc; exact @VR.sym S _ _ _ (hS2 6 _ rfl)
        | 11, _, hu, hc => simp only [rowS, DR.cells, List.getElem?_cons_succ, List.getElem?_cons_zero, Option.some.injEq] at hu hc; subst hu hc; exact @VR.sym S _ _ _ (hS2 7 _ rfl)
        | 12, _, hu, hc => simp only [rowS, DR.cells, List.getElem?_cons_succ, List.getElem?_cons_zero, Option.some.injEq] at hu hc; subst hu hc; exact @VR.sym S _ _ _ (hS2 8 _ rfl)
        | 13, _, hu, hc => simp only [rowS, DR.cells, List.getElem?_cons_succ, List.getElem?_cons_zero, Option.some.injEq] at hu hc; subst hu hc; exact @VR.sym S _ _ _ (hS2 9 _ rfl)
        | 14, _, hu, hc => simp only [rowS, madeRow, DR.cells, List.getElem?_cons_succ, List.getElem?_cons_zero, Option.some.injEq] at hu hc; subst hu hc; exact @VR.leaf S _ _ rfl
      · intro t' e
        simp only [Option.some.injEq] at e
        exact ⟨e, rfl, rfl, rfl, fun q => by cases q⟩
    obtain ⟨k1, k2, _⟩ := @HR.new' S ρ σ σ1 w w' hr _ nb l hnew q1 hb.size (fun p hp => hb.block p hp) hb.os hb.tape hb.output hob
    exact ⟨_, ρ.put nb l, rfl, k2, k1, @VR.slice S _ _ _ _ _ _ ⟨rfl, rfl, l, Rho.put_self _ _ _, rfl, rfl⟩ (.inr ⟨l, Rho.put_self _ _ _, q4, .inr ⟨by simp [l], by simp only [l]; omega, by simp only [l]; omega⟩⟩)⟩
theorem linS_ok (hS : SW S ao ap n co ns cs av sb k sel) (hk : k ≤ 9) (hm : ∀ j, j < k → ∀ c u, (rowT (madeRow sel (spF ns sb) j))[c]? = some u → S.val (80 + 10 * j + c) = u)
    (hsel : ∀ j, j < k → GoodV neverV true (sel j).val) {frm to : Int} (h16 : S.val 16 = HW.i64 frm) (h17 : S.val 17 = HW.i64 to) (hto : 0 ≤ to) : @SimFn S Try.prog 14 (linS k) := by
  intro args σ v σ' h ρ w args' hg hr ha
  unfold linS at h
  split at h
  case h_2 => cases h
  rename_i b o n' c' it
  split at h
  case isFalse => cases h
  rename_i hc
  simp only [Bool.and_eq_true] at hc
  obtain ⟨e1, e2, e3, e4⟩ := hc
  have e1 := of_beq e1; have e2 := of_beq e2
  subst e1 e2
  simp only [Option.some.injEq, Prod.mk.injEq] at h
  obtain ⟨rfl, rfl⟩ := h
  have hit : Value.agg it = itemZ := by
    have := listB_eq (fun a b q => same_eq q) e3
    unfold itemZ
    congr 1
    exact Array.toList_inj.1 this
  rw [hit] at ha
  cases ha with | cons h1 t => cases t with | cons h2 t => cases t with | nil =>
  have h2 := @flat1_eq S ρ _ _ (show flat1 itemZ = true by rfl) h2
  subst h2
  obtain ⟨cs0, u, ro, ty, hgb, hcs⟩ : ∃ cs0 u ro ty, σ.get b = some (.blk cs0 u ro ty) ∧ cs0 = madeC k ++ lastC := by
    unfold histB at e4
    split at e4
    · rename_i cs0 u ro ty hgg
      exact ⟨cs0, u, ro, ty, hgg, listB_eq (fun a b q => same_eq q) e4⟩
    · cases e4
  subst hcs
  obtain ⟨a', c2', rfl, hva⟩ := @VR.inv_slice S ρ _ _ _ _ h1
  rcases hva with ⟨hva, hcap⟩ | ⟨e, _⟩
  case inr => omega
  obtain ⟨l, l1, l2, l3⟩ := hva.at_
  have l1 : ρ b = some l := l1
  have l3 : a'.off = l.po := l3
  obtain ⟨f1, f2, f3, f4, C, t, fr, f5, f6, f7, f8, f9⟩ := @HR.ob S ρ _ _ hr b _ l hgb l1
  have hlen : (madeC k ++ lastC).length = 15 * (k + 1) := by rw [List.length_append, madeC_len]; show 15 * k + 15 = _; omega
  rw [hlen] at f3 f4
  have hrows : RowsAt w a' (k + 1) fun j => (histD sel (spF ns sb) k frm to j).cells := by
    refine ⟨hva.s', ⟨C, t, fr, by rw [l2]; exact f5, by rw [l3]; omega, fun j hj c v hc => ?_⟩, fun j _ => rfl, fun j _ => ?_⟩
    · have hc15 : c < 15 := (List.getElem?_eq_some_iff.1 hc).1
      rcases Nat.lt_or_ge j k with hjk | hjk
      · have hcell : (rowS (80 + 10 * j))[c]? = some ((rowS (80 + 10 * j))[c]'hc15) := List.getElem?_eq_getElem _
        obtain ⟨v', q1, q2⟩ := f8 (j * 15 + c) _ (by rw [List.getElem?_append_left (by rw [madeC_len]; omega)]; exact (madeC_get hjk hc15).trans hcell)
        simp only [histD, if_pos hjk] at hc
        rw [l3, Nat.add_assoc, q1, rowS_VR (d := madeRow sel (spF ns sb) j) ⟨rfl, rfl, rfl, rfl, rfl⟩ (fun k u hk => hm j hjk k u hk) hcell q2 hc]
      · have e : j = k := by omega
        subst e
        have hcell : lastC[c]? = some (lastC[c]'hc15) := List.getElem?_eq_getElem _
        obtain ⟨v', q1, q2⟩ := f8 (j * 15 + c) _ (by rw [List.getElem?_append_right (by rw [madeC_len]; omega), madeC_len, show j * 15 + c - 15 * j = c by omega]; exact hcell)
        simp only [histD, if_neg (Nat.lt_irrefl j)] at hc
        rw [l3, Nat.add_assoc, q1, lastC_VR h16 h17 hcell q2 hc]
    · unfold histD
      split
      · rfl
      · rfl
  have hD : GoodR neverV (k + 1) (histD sel (spF ns sb) k frm to) := by
    have hlast : histD sel (spF ns sb) k frm to k = lastD frm to := by simp [histD]
    refine ⟨by omega, by omega, ?_, ?_, ?_, ?_, ?_, ?_⟩
    · rw [Nat.add_sub_cancel, hlast]; rfl
    · rw [Nat.add_sub_cancel, hlast]; exact hto
    · rw [Nat.add_sub_cancel, hlast]; rfl
    · rw [Nat.add_sub_cancel, hlast]; rfl
    · rw [Nat.add_sub_cancel, hlast]; rfl
    · intro j hj
      unfold histD
      split
      · rename_i hjk; exact hsel j hjk
      · exact ⟨Nat.zero_le _, fun _ => by rw [ByteArray.toList_eq, ByteArray.toList_eq]; simp [lastD, neverV]⟩
  refine (linear_calls (c := c2') hD hrows).mono ?_
  rintro e w' ⟨rfl, hb⟩
  exact ⟨_, ρ, rfl, @Ext.grown S _ _ _ _ hr hb, @HR.grown S _ _ _ _ hr hb, @VR.leaf S ρ _ rfl⟩
end
end Go.Proofs.Ytbhjhffglcipbaa
namespace Go.Proofs.Ytbhjhffglcipbaa.AS
open Go Go.RowKit
set_option linter.unusedVariables false
/-- to a canonical state; a window stays, if there is one -/
theorem AtX.restateP {P : Program} {S : Sym} {X : Nat → Prop} {B : Nat} {W : World} {π : List (Option Nat)} {θ : List Value} {n : Nat} {σc σ : St} {tmc tm : List Value} {a : Act} {w : World} {f : Win} {kd : IntKind} {i : Int} {c : Prop} (h : stB P π θ n σc tmc σ tm = true) (hat : AtX P S X B W σ tm a w)
    (hf : c → f ∈ S.wins) (hp : piOf π f.b = some f.b) (hs : θ[f.s]? = some (.chan (some f.s))) (hk : f.k = .int kd i) :
    ∃ (hθ : θ.all okθ = true) (ws : List Win), (c → f ∈ ws) ∧ AtX P { Sym.of S θ hθ with wins := ws } X B W σc tmc a w := by
  by_cases hc : c
  · obtain ⟨hθ, h1⟩ := hat.restateW h (hf hc) hp hs hk
    exact ⟨hθ, [f], fun _ => List.mem_cons_self .., h1⟩
  · obtain ⟨hθ, h1⟩ := hat.restate h
    exact ⟨hθ, [], fun q => (hc q).elim, h1⟩
end Go.Proofs.Ytbhjhffglcipbaa.AS
namespace Go.Proofs.Ytbhjhffglcipbaa.HW
open Go Go.Proofs.Ytbhjhffglcipbaa.AS Go.RowKit
open Go.Proofs.Ytbhjhffglcipbaa (u8V)
set_option linter.unusedVariables false
set_option linter.unusedSimpArgs false
set_option linter.unusedSectionVars false
theorem thetaW_8 {k : Nat} {v e : Value} {row : List Value} : (thetaW k v row).getD 8 e = v := by
  unfold thetaW
  rw [List.getD_eq_getElem?_getD, List.getElem?_append_left (by simp)]
  simp
theorem thetaW_old {i j : Nat} {v e : Value} {row : List Value} (hj : j < 5 * i) : (thetaW i v row).getD (23 + j) e = sy (23 + j) := by
  unfold thetaW
  rw [List.getD_eq_getElem?_getD, List.getElem?_append_right (by simp), List.getElem?_append_left (by simp; omega)]
  simp [hj]
theorem thetaW_new {i c : Nat} {v e : Value} {row : List Value} : (thetaW i v row).getD (23 + 5 * i + c) e = row.getD c e := by
  unfold thetaW
  rw [List.getD_eq_getElem?_getD, List.getElem?_append_right (by simp; omega), List.getElem?_append_right (by simp; omega), List.getD_eq_getElem?_getD]
  congr 2
  simp
  omega
def thetaE (a b : Value) (rows : List Value) : List Value := (((List.range 80).map sy).set 16 a).set 17 b ++ rows
theorem thetaE_low {a b e : Value} {rows : List Value} {j : Nat} (hj : j < 80) (h1 : j ≠ 16) (h2 : j ≠ 17) : (thetaE a b rows).getD j e = sy j := by
  unfold thetaE
  rw [List.getD_eq_getElem?_getD, List.getElem?_append_left (by simpa using hj), List.getElem?_set_ne (by omega), List.getElem?_set_ne (by omega)]
  simp [hj]
theorem thetaE_row {a b e : Value} {rows : List Value} {j : Nat} : (thetaE a b rows).getD (80 + j) e = rows.getD j e := by
  unfold thetaE
  rw [List.getD_eq_getElem?_getD, List.getElem?_append_right (by simp), List.getD_eq_getElem?_getD]
  simp
theorem thetaE_ok {a b : Value} {rows : List Value} (ha : AS.leaf a = true) (hb : AS.leaf b = true) (hr : rows.all AS.leaf = true) : (thetaE a b rows).all okθ = true := by
  unfold thetaE
  rw [List.all_append, Bool.and_eq_true, List.all_eq_true, List.all_eq_true]
  constructor
  · intro x hx
    rcases List.mem_or_eq_of_mem_set hx with hx | rfl
    · rcases List.mem_or_eq_of_mem_set hx with hx | rfl
      · obtain ⟨j, _, rfl⟩ := List.mem_map.1 hx; rfl
      · exact leaf_ok ha
    · exact leaf_ok hb
  · intro x hx
    exact leaf_ok (List.all_eq_true.1 hr x hx)
/-- the made rows' symbols -/
def rowsT (ops : Nat → OpR) (sp : Nat → Option Int) : Nat → List Value
  | 0 => []
  | k + 1 => rowsT ops sp k ++ rowT (madeRow ops sp k)
theorem rowsT_len {ops : Nat → OpR} {sp : Nat → Option Int} (n : Nat) : (rowsT ops sp n).length = 10 * n := by
  induction n with
  | zero => rfl
  | succ n ih => rw [rowsT, List.length_append, ih]; show 10 * n + 10 = _; omega
theorem rowsT_leaf {ops : Nat → OpR} {sp : Nat → Option Int} (n : Nat) : (rowsT ops sp n).all AS.leaf = true := by
  induction n with
  | zero => rfl
  | succ n ih => rw [rowsT, List.all_append, ih]; rfl
theorem rowsT_get {ops : Nat → OpR} {sp : Nat → Option Int} {n j c : Nat} (hj : j < n) (hc : c < 10) : (rowsT ops sp n)[10 * j + c]? = (rowT (madeRow ops sp j))[c]? := by
  induction n with
  | zero => omega
  | succ n ih =>
    rw [rowsT]
    have hl := rowsT_len (ops := ops) (sp := sp) n
    rcases Nat.lt_or_ge j n with h | h
    · rw [List.getElem?_append_left (by omega)]; exact ih h
    · have e : j = n := by omega
      subst e
      rw [List.getElem?_append_right (by omega)]
      congr 1
      omega
theorem new_rowW {k : Nat} : (stW1 k).new (.blk (opS 11) 0 true none) = some (2, stW2 k) := by rfl
/-- which way a call goes -/
def wayW (o : OpR) : WayW := if 1 ≤ o.kind then (if o.kind ≤ 4 then (if o.val.toList = neverV.toList then .nev else .take) else .high) else .low
theorem FactOK.strNe {P : Program} {S : Sym} {t : TypeId} {x y : Value} {a b : ByteArray} {r : Bool} (hx : conc S x = .string a) (hy : conc S y = .string b) (hr : (!(a.toList == b.toList)) = r) : FactOK P S ⟨.neq, t, x, y, .bool r⟩ :=
  FactOK.of_run hx hy rfl (fun w => by simp [binOp, Op.stringOp, conc, ← hr]) ⟨rfl, by simp⟩ (.inl rfl)
theorem factsW_ok {P : Program} {S : Sym} {o : OpR} (h11 : S.val 11 = i64 o.kind) (h13 : S.val 13 = .string o.val) : ∀ f ∈ factsW (wayW o), FactOK P S f := by
  intro f hf
  have k1 : ∀ b, decide (o.kind ≥ 1) = b → FactOK P S ⟨.geq, 3, sy 11, i64 1, .bool b⟩ := fun b hb => FactOK.int (k := .i64) (x := o.kind) (y := 1) h11 rfl (by simp [intR, conc, ← hb]) (.inl rfl)
  have k2 : ∀ b, decide (o.kind ≤ 4) = b → FactOK P S ⟨.leq, 3, sy 11, i64 4, .bool b⟩ := fun b hb => FactOK.int (k := .i64) (x := o.kind) (y := 4) h11 rfl (by simp [intR, conc, ← hb]) (.inl rfl)
  have k3 : ∀ b, (!(o.val.toList == neverV.toList)) = b → FactOK P S ⟨.neq, 9, sy 13, .string neverV, .bool b⟩ := fun b hb => FactOK.strNe h13 rfl hb
  unfold wayW at hf
  split at hf
  · rename_i h1
    split at hf
    · rename_i h2
      split at hf
      · rename_i h3
        simp only [factsW, List.mem_cons, List.not_mem_nil, or_false] at hf
        rcases hf with rfl | rfl | rfl
        · exact k1 true (by simpa using h1)
        · exact k2 true (by simpa using h2)
        · exact k3 false (by simp [h3])
      · rename_i h3
        simp only [factsW, List.mem_cons, List.not_mem_nil, or_false] at hf
        rcases hf with rfl | rfl | rfl
        · exact k1 true (by simpa using h1)
        · exact k2 true (by simpa using h2)
        · exact k3 true (by simpa using h3)
    · rename_i h2
      simp only [factsW, List.mem_cons, List.not_mem_nil, or_false] at hf
      rcases hf with rfl | rfl
      · exact k1 true (by simpa using h1)
      · exact k2 false (by simpa using h2)
  · rename_i h1
    simp only [factsW, List.mem_cons, List.not_mem_nil, or_false] at hf
    subst hf
    exact k1 false (by simpa using h1)
theorem SW.len {S : Sym} {ao ap : Option Addr} {n co ns cs k : Nat} {av : Int} {sb : Nat → Int} {sel : Nat → OpR} (h : SW S ao ap n co ns cs av sb k sel) : ∀ y ∈ lensM, LenOK S y := by
  intro y hy
  simp only [lensM, List.mem_cons, List.not_mem_nil, or_false] at hy
  rcases hy with rfl | rfl
  · exact ⟨⟨_, _, _, h.hops, h.hn⟩, .inr rfl⟩
  · exact ⟨⟨_, _, _, h.hspr, h.hns⟩, .inr rfl⟩
end Go.Proofs.Ytbhjhffglcipbaa.HW
namespace Go.Proofs.Ytbhjhffglcipbaa
open Go Go.Proofs.Ytbhjhffglcipbaa.AS Go.Proofs.Ytbhjhffglcipbaa.HW Go.RowKit
set_option maxRecDepth 100000
set_option linter.unusedVariables false
set_option linter.unusedSimpArgs false
set_option linter.unusedSectionVars false
theorem hwLb_eq1 : hwLb = [hwLb.getD 0 .skip] ++ (hwLb.getD 1 .skip :: hwLb.drop 2) := by kernel_rfl
section
variable {a0 a1 a2 a3 a4 b0 b1 b2 b3 b4 b5 b6 : Value} {rows : List Value}
theorem tellW0 : stB2 Try.prog [some 0, some 1] (thetaT 0 a0 a1 a2 a3 a4 b0 b1 b2 b3 b4 b5 b6) 8 (stW1 0) (tmW1 0) (stW1 0) (tmW1 0) = true := by kernel_rfl
theorem tellE0 : stB2 Try.prog [some 0, some 1] (thetaE a0 a1 rows) 8 (stW1 0) (tmW1 0) (stW1 0) (tmW1 0) = true := by kernel_rfl
theorem tellW1 : stB2 Try.prog [some 0, some 1] (thetaT 1 a0 a1 a2 a3 a4 b0 b1 b2 b3 b4 b5 b6) 8 (stW1 1) (tmW1 1) (stW1 1) (tmW1 1) = true := by kernel_rfl
theorem tellE1 : stB2 Try.prog [some 0, some 1] (thetaE a0 a1 rows) 8 (stW1 1) (tmW1 1) (stW1 1) (tmW1 1) = true := by kernel_rfl
theorem tellW2 : stB2 Try.prog [some 0, some 1] (thetaT 2 a0 a1 a2 a3 a4 b0 b1 b2 b3 b4 b5 b6) 8 (stW1 2) (tmW1 2) (stW1 2) (tmW1 2) = true := by kernel_rfl
theorem tellE2 : stB2 Try.prog [some 0, some 1] (thetaE a0 a1 rows) 8 (stW1 2) (tmW1 2) (stW1 2) (tmW1 2) = true := by kernel_rfl
theorem tellW3 : stB2 Try.prog [some 0, some 1] (thetaT 3 a0 a1 a2 a3 a4 b0 b1 b2 b3 b4 b5 b6) 8 (stW1 3) (tmW1 3) (stW1 3) (tmW1 3) = true := by kernel_rfl
theorem tellE3 : stB2 Try.prog [some 0, some 1] (thetaE a0 a1 rows) 8 (stW1 3) (tmW1 3) (stW1 3) (tmW1 3) = true := by kernel_rfl
theorem tellW4 : stB2 Try.prog [some 0, some 1] (thetaT 4 a0 a1 a2 a3 a4 b0 b1 b2 b3 b4 b5 b6) 8 (stW1 4) (tmW1 4) (stW1 4) (tmW1 4) = true := by kernel_rfl
theorem tellE4 : stB2 Try.prog [some 0, some 1] (thetaE a0 a1 rows) 8 (stW1 4) (tmW1 4) (stW1 4) (tmW1 4) = true := by kernel_rfl
theorem tellW5 : stB2 Try.prog [some 0, some 1] (thetaT 5 a0 a1 a2 a3 a4 b0 b1 b2 b3 b4 b5 b6) 8 (stW1 5) (tmW1 5) (stW1 5) (tmW1 5) = true := by kernel_rfl
theorem tellE5 : stB2 Try.prog [some 0, some 1] (thetaE a0 a1 rows) 8 (stW1 5) (tmW1 5) (stW1 5) (tmW1 5) = true := by kernel_rfl
theorem tellW6 : stB2 Try.prog [some 0, some 1] (thetaT 6 a0 a1 a2 a3 a4 b0 b1 b2 b3 b4 b5 b6) 8 (stW1 6) (tmW1 6) (stW1 6) (tmW1 6) = true := by kernel_rfl
theorem tellE6 : stB2 Try.prog [some 0, some 1] (thetaE a0 a1 rows) 8 (stW1 6) (tmW1 6) (stW1 6) (tmW1 6) = true := by kernel_rfl
theorem tellW7 : stB2 Try.prog [some 0, some 1] (thetaT 7 a0 a1 a2 a3 a4 b0 b1 b2 b3 b4 b5 b6) 8 (stW1 7) (tmW1 7) (stW1 7) (tmW1 7) = true := by kernel_rfl
theorem tellE7 : stB2 Try.prog [some 0, some 1] (thetaE a0 a1 rows) 8 (stW1 7) (tmW1 7) (stW1 7) (tmW1 7) = true := by kernel_rfl
theorem tellW8 : stB2 Try.prog [some 0, some 1] (thetaT 8 a0 a1 a2 a3 a4 b0 b1 b2 b3 b4 b5 b6) 8 (stW1 8) (tmW1 8) (stW1 8) (tmW1 8) = true := by kernel_rfl
theorem tellE8 : stB2 Try.prog [some 0, some 1] (thetaE a0 a1 rows) 8 (stW1 8) (tmW1 8) (stW1 8) (tmW1 8) = true := by kernel_rfl
theorem tellW9 : stB2 Try.prog [some 0, some 1] (thetaT 9 a0 a1 a2 a3 a4 b0 b1 b2 b3 b4 b5 b6) 8 (stW1 9) (tmW1 9) (stW1 9) (tmW1 9) = true := by kernel_rfl
theorem tellE9 : stB2 Try.prog [some 0, some 1] (thetaE a0 a1 rows) 8 (stW1 9) (tmW1 9) (stW1 9) (tmW1 9) = true := by kernel_rfl
theorem tellW {i : Nat} (hi : i < 10) : stB2 Try.prog [some 0, some 1] (thetaT i a0 a1 a2 a3 a4 b0 b1 b2 b3 b4 b5 b6) 8 (stW1 i) (tmW1 i) (stW1 i) (tmW1 i) = true := by
  match i, hi with
  | 0, _ => exact tellW0
  | 1, _ => exact tellW1
  | 2, _ => exact tellW2
  | 3, _ => exact tellW3
  | 4, _ => exact tellW4
  | 5, _ => exact tellW5
  | 6, _ => exact tellW6
  | 7, _ => exact tellW7
  | 8, _ => exact tellW8
  | 9, _ => exact tellW9
theorem tellE {i : Nat} (hi : i < 10) : stB2 Try.prog [some 0, some 1] (thetaE a0 a1 rows) 8 (stW1 i) (tmW1 i) (stW1 i) (tmW1 i) = true := by
  match i, hi with
  | 0, _ => exact tellE0
  | 1, _ => exact tellE1
  | 2, _ => exact tellE2
  | 3, _ => exact tellE3
  | 4, _ => exact tellE4
  | 5, _ => exact tellE5
  | 6, _ => exact tellE6
  | 7, _ => exact tellE7
  | 8, _ => exact tellE8
  | 9, _ => exact tellE9
end
section
variable {w0 : World} {ao ap : Option Addr} {n co ns cs : Nat} {av : Int} {ops : Nat → OpR} {sb : Nat → Int}
theorem wrong_loop {Q : Exit → Act → World → Prop} (hops : RowsZ w0 ao n 5 fun k => (ops k).cells) (hn : n ≤ 9) (hsz : ∀ i, i < n → (ops i).val.size ≤ maxLen)
    (hQe : ∀ S σ (t : TM) a w k sel, k ≤ 9 → SW S ao ap n co ns cs av sb k sel → (∀ j, j < k → ∀ c u, (rowT (madeRow sel (spF ns sb) j))[c]? = some u → S.val (80 + 10 * j + c) = u) → (∀ j, j < k → GoodV neverV true (sel j).val) →
      S.val 16 = HW.i64 (wI av) → S.val 17 = HW.i64 (wI (wI av + 5)) → AtX Try.prog S (fun _ => False) w0.heap.size w0 σ t.toL a w →
      (match @runLT (orcC Try.prog lensM factsWe convW []) Try.prog (ovW k) 600 ((hwL.drop 6).take 3) t σ with
      | some (t, σ) => isTrue2 (resultsT Try.prog Try.f7 σ t)
      | none => false) = true → Q (.exit 0) a w) :
    ∀ (d i k : Nat) (sel : Nat → OpR) (S : Sym) (a : Act) (w : World), n - i = d → i ≤ n → k ≤ i → SW S ao ap n co ns cs av sb k sel → S.val 8 = HW.i64 i → (∀ j, j < k → GoodV neverV true (sel j).val) →
      AtX Try.prog S (fun _ => False) w0.heap.size w0 (stW1 k) (tmW1 k) a w → InLoop Try.prog hwB Q a w := by
  intro d
  induction d with
  | zero =>
    intro i k sel S a w hd hi hk hS h8 hsel hat
    have hin : i = n := by omega
    -- what Made makes is told
    have hθ := thetaE_ok (a := HW.i64 (wI av)) (b := HW.i64 (wI (wI av + 5))) rfl rfl (rowsT_leaf (ops := sel) (sp := spF ns sb) k)
    obtain ⟨_, ws, hws, hat1⟩ := hat.restateP (f := pinS) (c := 0 < ns) (stB_of hθ (tellE (show k < 10 by omega))) hS.pin rfl rfl rfl
    have hS1 : SW { Sym.of S _ hθ with wins := ws } ao ap n co ns cs av sb k sel := ⟨hS.hops, hS.hspr, hS.hat, hS.hn, hS.hns, fun j hj c u hc => by
      have hc5 : c < 5 := (List.getElem?_eq_some_iff.1 hc).1
      show conc S ((thetaE _ _ _).getD (23 + 5 * j + c) _) = u
      rw [thetaE_low (by omega) (by omega) (by omega)]
      exact hS.rows j hj c u hc, hS.ext, hws⟩
    have h81 : ({ Sym.of S _ hθ with wins := ws } : Sym).val 8 = HW.i64 i := h8
    have h16 : ({ Sym.of S _ hθ with wins := ws } : Sym).val 16 = HW.i64 (wI av) := rfl
    have h17 : ({ Sym.of S _ hθ with wins := ws } : Sym).val 17 = HW.i64 (wI (wI av + 5)) := rfl
    have hm : ∀ j, j < k → ∀ c u, (rowT (madeRow sel (spF ns sb) j))[c]? = some u → ({ Sym.of S _ hθ with wins := ws } : Sym).val (80 + 10 * j + c) = u := by
      intro j hj c u hc
      have hc10 : c < 10 := (List.getElem?_eq_some_iff.1 hc).1
      show conc S ((thetaE _ _ (rowsT sel (spF ns sb) k)).getD (80 + 10 * j + c) _) = u
      rw [Nat.add_assoc, thetaE_row, List.getD_eq_getElem?_getD, rowsT_get hj hc10, hc]
      refine conc_leaf (List.all_eq_true.1 (rowsT_leaf (ops := sel) (sp := spF ns sb) k) u ?_)
      exact List.mem_of_getElem? ((rowsT_get hj hc10).trans hc)
    generalize ({ Sym.of S _ hθ with wins := ws } : Sym) = S1 at hat1 hS1 h81 h16 h17 hm
    refine @inLoop_of_wp plainSym mute _ (mute_ok _) _ _ _ _ (wp_flat _ _ _ _ ?_)
    show wpL Try.prog _ hwLb a w
    have htm : (TM.of (tmW1 k) 73 ok73).toL = tmW1 k := by
      rw [@TM.of_toL mute _ _ _ (by simp [tmW1, slots])]
      simp [tmW1, slots]
    rw [← htm] at hat1
    have hp := List.all_eq_true.1 w_end k (List.mem_range.2 (by omega))
    unfold phaseWe at hp
    split at hp
    case h_2 => cases hp
    rename_i t1 σ1 hrun
    split at hp
    case h_2 => cases hp
    rename_i id t2 σ2 hrun2
    simp only [Bool.and_eq_true] at hp
    obtain ⟨hid, hp⟩ := hp
    have hid := of_beq hid
    subst hid
    have hO : @OrcOK S1 (orcC Try.prog lensM [⟨.lss, 3, HW.sy 8, HW.sy 9, .bool false⟩] [] []) Try.prog := by
      refine orcC_ok _ _ _ _ _ hS1.len ?_ (fun f hf => by cases hf) (fun f hf => by cases hf)
      intro f hf
      simp only [List.mem_cons, List.not_mem_nil, or_false] at hf
      subst hf
      exact FactOK.int (k := .i64) (x := i) (y := n) h81 hS1.hn (by simp [intR, conc]; omega) (.inl rfl)
    have hO2 : @OrcOK S1 (orcC Try.prog lensM [] [] []) Try.prog := orcC_ok _ _ _ _ _ hS1.len (fun f hf => by cases hf) (fun f hf => by cases hf) (fun f hf => by cases hf)
    rw [hwLb_eq1]
    refine AtX.runL _ hO mixed26 (fun _ _ h => by cases h) (fun _ _ h => by cases h) _ hrun hat1 fun a' w' hat3 => ?_
    refine AtX.run _ hO2 mixed26 (fun _ _ h => by cases h) (fun _ _ h => by cases h) hrun2 hat3 fun a2 w2 hat4 => ?_
    exact hQe S1 σ2 t2 a2 w2 k sel (by omega) hS1 hm hsel h16 h17 hat4 hp
  | succ d ih =>
    intro i k sel S a w hd hi hk hS h8 hsel hat
    have hin : i < n := by omega
    have hk10 : k < 10 := by omega
    obtain ⟨x, rfl, hxs, C, ct, fr, c1, c2, c3⟩ : ∃ x, ao = some x ∧ x.spot = none ∧ ∃ C t fr, w0.heap[x.block]? = some (.cells C t fr) ∧ x.off + n * 5 ≤ C.size ∧ ∀ i, i < n → ∀ j v, ((ops i).cells)[j]? = some v → C[x.off + i * 5 + j]? = some v := by
      rcases hops with h | h
      · omega
      · exact h
    have hxB : x.block < w0.heap.size := (Array.getElem?_eq_some_iff.1 c1).1
    let o := ops i
    have hθ : (thetaT k (HW.i64 o.kind) (.string o.key) (.string o.val) (.string o.old) (.bool o.hasOld) (HW.i64 0) (HW.i64 0) (HW.i64 0) (HW.i64 0) (HW.i64 0) (HW.i64 0) (HW.i64 (i + 1 : Nat))).all okθ = true := thetaT_ok rfl
    obtain ⟨_, ws, hws, hat1⟩ := hat.restateP (f := pinS) (c := 0 < ns) (stB_of hθ (tellW hk10)) hS.pin rfl rfl rfl
    have hS1 : SW { Sym.of S _ hθ with wins := ws } (some x) ap n co ns cs av sb k sel := ⟨hS.hops, hS.hspr, hS.hat, hS.hn, hS.hns, fun j hj c u hc => by
      have hc5 : c < 5 := (List.getElem?_eq_some_iff.1 hc).1
      show conc S ((thetaT k _ _ _ _ _ _ _ _ _ _ _ _).getD (23 + 5 * j + c) _) = u
      rw [Nat.add_assoc, thetaT_old (by omega), ← Nat.add_assoc]
      exact hS.rows j hj c u hc, hS.ext, hws⟩
    have g8 : ({ Sym.of S _ hθ with wins := ws } : Sym).val 8 = HW.i64 i := h8
    have g11 : ({ Sym.of S _ hθ with wins := ws } : Sym).val 11 = HW.i64 o.kind := rfl
    have g12 : ({ Sym.of S _ hθ with wins := ws } : Sym).val 12 = .string o.key := rfl
    have g13 : ({ Sym.of S _ hθ with wins := ws } : Sym).val 13 = .string o.val := rfl
    have g14 : ({ Sym.of S _ hθ with wins := ws } : Sym).val 14 = .string o.old := rfl
    have g15 : ({ Sym.of S _ hθ with wins := ws } : Sym).val 15 = .bool o.hasOld := rfl
    have g22 : ({ Sym.of S _ hθ with wins := ws } : Sym).val 22 = HW.i64 (i + 1 : Nat) := rfl
    generalize ({ Sym.of S _ hθ with wins := ws } : Sym) = S1 at hat1 hS1 g8 g11 g12 g13 g14 g15 g22
    obtain ⟨ρw, hw⟩ := hat1
    have hwx : w.heap[x.block]? = some (.cells C ct fr) := (hw.keep x.block hxB (fun q => q)).trans c1
    have hat2 := AtX.window (k := HW.sy 8) ⟨ρw, hw⟩ (new_rowW (k := k)) (z := 5) hS1.hops (kd := .i64) (i := (i : Int)) g8 (by omega) (by omega) hxs rfl hxB (fun q => q) hwx (by simp only [Int.toNat_natCast]; omega) (fun j u hu => by
      have hj : j < 5 := (List.getElem?_eq_some_iff.1 hu).1
      have hv : ((ops i).cells)[j]? = some (((ops i).cells)[j]'hj) := List.getElem?_eq_getElem _
      refine ⟨_, by simp only [Int.toNat_natCast]; exact c3 i hin j _ hv, fun ρ => ?_⟩
      match j, hj, hu with
      | 0, _, hu => simp only [opS, List.getElem?_cons_zero, Option.some.injEq] at hu; subst hu; exact @VR.sym S1 ρ 11 _ g11
      | 1, _, hu => simp only [opS, List.getElem?_cons_succ, List.getElem?_cons_zero, Option.some.injEq] at hu; subst hu; exact @VR.sym S1 ρ 12 _ g12
      | 2, _, hu => simp only [opS, List.getElem?_cons_succ, List.getElem?_cons_zero, Option.some.injEq] at hu; subst hu; exact @VR.sym S1 ρ 13 _ g13
      | 3, _, hu => simp only [opS, List.getElem?_cons_succ, List.getElem?_cons_zero, Option.some.injEq] at hu; subst hu; exact @VR.sym S1 ρ 14 _ g14
      | 4, _, hu => simp only [opS, List.getElem?_cons_succ, List.getElem?_cons_zero, Option.some.injEq] at hu; subst hu; exact @VR.sym S1 ρ 15 _ g15)
    have hS2 : SW { S1 with wins := ⟨1, HW.sy 8, 2, 5⟩ :: S1.wins } (some x) ap n co ns cs av sb k sel := ⟨hS1.hops, hS1.hspr, hS1.hat, hS1.hn, hS1.hns, hS1.rows, hS1.ext, fun q => List.mem_cons_of_mem _ (hS1.pin q)⟩
    have hwin : ∀ f ∈ winsW, f ∈ ({ S1 with wins := ⟨1, HW.sy 8, 2, 5⟩ :: S1.wins } : Sym).wins := by
      intro f hf
      simp only [winsW, List.mem_cons, List.not_mem_nil, or_false] at hf
      subst hf; simp
    have k8 : ({ S1 with wins := ⟨1, HW.sy 8, 2, 5⟩ :: S1.wins } : Sym).val 8 = HW.i64 i := g8
    have k11 : ({ S1 with wins := ⟨1, HW.sy 8, 2, 5⟩ :: S1.wins } : Sym).val 11 = HW.i64 o.kind := g11
    have k13 : ({ S1 with wins := ⟨1, HW.sy 8, 2, 5⟩ :: S1.wins } : Sym).val 13 = .string o.val := g13
    have k14 : ({ S1 with wins := ⟨1, HW.sy 8, 2, 5⟩ :: S1.wins } : Sym).val 14 = .string o.old := g14
    have k15 : ({ S1 with wins := ⟨1, HW.sy 8, 2, 5⟩ :: S1.wins } : Sym).val 15 = .bool o.hasOld := g15
    have k22 : ({ S1 with wins := ⟨1, HW.sy 8, 2, 5⟩ :: S1.wins } : Sym).val 22 = HW.i64 (i + 1 : Nat) := g22
    generalize ({ S1 with wins := ⟨1, HW.sy 8, 2, 5⟩ :: S1.wins } : Sym) = S2 at hat2 hS2 hwin k8 k11 k13 k14 k15 k22
    have hO : ∀ wy, wy = wayW o → @OrcOK S2 (orcC Try.prog lensM (factsWI ++ factsW wy) [] winsW) Try.prog := by
      rintro wy rfl
      refine orcC_ok _ _ _ _ _ hS2.len ?_ (fun f hf => by cases hf) hwin
      intro f hf
      rcases List.mem_append.1 hf with hf | hf
      · simp only [factsWI, List.mem_cons, List.not_mem_nil, or_false] at hf
        rcases hf with rfl | rfl
        · exact FactOK.int (k := .i64) (x := i) (y := n) k8 hS2.hn (by simp [intR, conc]; omega) (.inl rfl)
        · refine FactOK.int (k := .i64) (x := i) (y := 1) k8 rfl ?_ (.inr rfl)
          show some (Value.int .i64 (IntKind.i64.wrap ((i : Int) + 1))) = some (S2.val 22)
          rw [k22, wrap_i64 (by omega) (by omega)]; rfl
      · exact factsW_ok k11 k13 f hf
    refine @inLoop_of_wp plainSym mute _ (mute_ok _) _ _ _ _ (wp_flat _ _ _ _ ?_)
    show wpL Try.prog _ hwLb a w
    have htm : (TM.of (tmW1 k) 73 ok73).toL = tmW1 k := by
      rw [@TM.of_toL mute _ _ _ (by simp [tmW1, slots])]
      simp [tmW1, slots]
    rw [← htm] at hat2
    have hskip := List.all_eq_true.1 w_skip k (List.mem_range.2 hk10)
    unfold allW at hskip
    simp only [Bool.and_eq_true] at hskip
    obtain ⟨sk1, sk2, sk3⟩ := hskip
    have skip : ∀ wy, wy = wayW o → (match @runLT (orcC Try.prog lensM (factsWI ++ factsW wy) [] winsW) Try.prog ov0 600 hwLb (TM.of (tmW1 k) 73 ok73) (stW2 k) with
        | some (t, σ) => stB Try.prog [some 0, some 1] (thetaW k (HW.sy 22) []) 8 (stW1 k) (tmW1 k) σ t.toL
        | none => false) = true → wpL Try.prog (Exit.then (InLoop Try.prog hwB Q) Q) hwLb a w := by
      intro wy hwy hp
      split at hp
      case h_2 => cases hp
      rename_i t1 σ1 hrun
      rw [← List.append_nil hwLb]
      refine AtX.runL _ (hO wy hwy) mixed26 (fun _ _ h => by cases h) (fun _ _ h => by cases h) hwLb hrun hat2 fun a' w' hat3 => ?_
      obtain ⟨hθ2, ws2, hws2, hat4⟩ := hat3.restateP (f := pinS) (c := 0 < ns) hp hS2.pin rfl rfl rfl
      refine ih (i + 1) k sel _ a' w' (by omega) (by omega) (by omega) ?_ ?_ hsel hat4
      · refine ⟨hS2.hops, hS2.hspr, hS2.hat, hS2.hn, hS2.hns, fun j hj c u hc => ?_, hS2.ext, hws2⟩
        have hc5 : c < 5 := (List.getElem?_eq_some_iff.1 hc).1
        show conc S2 ((thetaW k _ _).getD (23 + 5 * j + c) _) = u
        rw [Nat.add_assoc, thetaW_old (by omega), ← Nat.add_assoc]
        exact hS2.rows j hj c u hc
      · exact k22
    cases hwy : wayW o with
    | low => exact skip .low hwy.symm sk1
    | high => exact skip .high hwy.symm sk2
    | nev => exact skip .nev hwy.symm sk3
    | take =>
      have hp := List.all_eq_true.1 w_take k (List.mem_range.2 (by omega))
      unfold phaseW at hp
      split at hp
      case h_2 => cases hp
      rename_i t1 σ1 hrun
      have hp : stB Try.prog [some 0, mineAt t1] (thetaW k (HW.sy 22) [HW.sy 11, keyK, HW.sy 13, HW.sy 14, HW.sy 15]) 8 (stW1 (k + 1)) (tmW1 (k + 1)) σ1 t1.toL = true := hp
      have hval : o.val.toList ≠ neverV.toList := by
        unfold wayW at hwy
        split at hwy
        · split at hwy
          · split at hwy
            · cases hwy
            · assumption
          · cases hwy
        · cases hwy
      rw [← List.append_nil hwLb]
      refine AtX.runL _ (hO .take hwy.symm) mixed26 (fun _ _ h => by cases h) (fun _ _ h => by cases h) hwLb hrun hat2 fun a' w' hat3 => ?_
      obtain ⟨hθ2, ws2, hws2, hat4⟩ := hat3.restateP (f := pinS) (c := 0 < ns) hp hS2.pin rfl rfl rfl
      refine ih (i + 1) (k + 1) (fun j => if j = k then { o with key := ⟨#[107]⟩ } else sel j) _ a' w' (by omega) (by omega) (by omega) ?_ ?_ ?_ hat4
      · refine ⟨hS2.hops, hS2.hspr, hS2.hat, hS2.hn, hS2.hns, fun j hj c u hc => ?_, hS2.ext, hws2⟩
        have hc5 : c < 5 := (List.getElem?_eq_some_iff.1 hc).1
        show conc S2 ((thetaW k _ _).getD (23 + 5 * j + c) _) = u
        by_cases hjk : j = k
        · subst hjk
          rw [thetaW_new]
          simp only [if_true] at hc
          match c, hc5, hc with
          | 0, _, hc => simp only [OpR.cells, List.getElem?_cons_zero, Option.some.injEq] at hc; subst hc; exact k11
          | 1, _, hc => simp only [OpR.cells, List.getElem?_cons_succ, List.getElem?_cons_zero, Option.some.injEq] at hc; subst hc; rfl
          | 2, _, hc => simp only [OpR.cells, List.getElem?_cons_succ, List.getElem?_cons_zero, Option.some.injEq] at hc; subst hc; exact k13
          | 3, _, hc => simp only [OpR.cells, List.getElem?_cons_succ, List.getElem?_cons_zero, Option.some.injEq] at hc; subst hc; exact k14
          | 4, _, hc => simp only [OpR.cells, List.getElem?_cons_succ, List.getElem?_cons_zero, Option.some.injEq] at hc; subst hc; exact k15
        · rw [Nat.add_assoc, thetaW_old (by omega), ← Nat.add_assoc]
          simp only [if_neg hjk] at hc
          exact hS2.rows j (by omega) c u hc
      · exact k22
      · intro j hj
        by_cases hjk : j = k
        · simp only [if_pos hjk]
          exact ⟨hsz i hin, fun _ => hval⟩
        · simp only [if_neg hjk]
          exact hsel j (by omega)
end
end Go.Proofs.Ytbhjhffglcipbaa
namespace Go.Proofs.Ytbhjhffglcipbaa.AS
open Go Go.RowKit
set_option linter.unusedVariables false
def isYes : Option (Value × St) → Bool
  | some (.bool true, _) => true
  | _ => false
/-- a call that is run whole, by the tree machine -/
theorem calls_runT {P : Program} (S : Sym) (hwin : S.wins = []) {fuel : Nat} {f : FuncId} (hm : P.follows .mixedOrders = true)
    (h : isYes (@AS.callT P (fun _ => none) (@AS.runT mute P (fun _ => none) fuel none) f [] (AS.start P)) = true) (w : World) :
    Calls P f #[] w fun e w' => e = .returned (.bool true) ∧ Below w.heap.size w w' := by
  unfold isYes at h
  split at h
  case h_2 => cases h
  rename_i σ' h0
  have h1 := @callT_sound mute P (fun _ => none) _ _ (fun c m σ e m' σ' => @runT_sound mute P (fun _ => none) fuel none c m σ e m' σ') f [] (AS.start P) (.bool true, σ') h0
  refine (@calls_sim S mute P (mute_ok S) (fun _ => none) hm (fun _ _ h => by cases h) (fun _ _ h => by cases h) fuel f [] (AS.start P) _ σ' h1 (rho0 P) w [] (@start_GR S mute P) (@start_HR S mute P w hwin) (@VL.nil S _)).mono ?_
  rintro e w' ⟨v', ρ', rfl, k1, k2, k3⟩
  refine ⟨by rw [@VR.inv_leaf S ρ' _ v' k3 rfl], ⟨k1.os, k1.tape, k1.output, k1.heap, fun p hp => k1.frame p hp (fun b o l q => ?_)⟩⟩
  rw [@start_get S mute P] at q; cases q
end Go.Proofs.Ytbhjhffglcipbaa.AS
namespace Go.Proofs.Ytbhjhffglcipbaa.HW
open Go Go.Proofs.Ytbhjhffglcipbaa.AS Go.RowKit
open Go.Proofs.Ytbhjhffglcipbaa (u8V)
set_option linter.unusedVariables false
abbrev symW (ao ap : Option Addr) (n co ns cs : Nat) (av : Int) (sb : Nat → Int) (ws : List Win) : Sym where
  val i := if i = 1 then .slice ao n co else if i = 2 then .slice ap ns cs else if i = 3 then .int .u8 av else if i = 9 then .int .i64 n else if i = 10 then .int .i64 ns else .int .i64 0
  cell i := by split <;> first | rfl | (split <;> first | rfl | (split <;> first | rfl | (split <;> first | rfl | (split <;> rfl))))
  wins := ws
  ext := extW ap ns sb
theorem stW0_get {b : Nat} {o : Ob} (h : stW0.get b = some o) : b = 0 ∧ o = .ext 1 := by
  have hb := St.get_lt h
  rw [St.get_eq hb] at h
  have e : stW0.mem = Tr.set (some (.ext 1)) depth .leaf 0 := rfl
  rw [e, Tr.get_set] at h
  split at h
  · rename_i q; simp only [Option.some.injEq] at h; exact ⟨q.1, h.symm⟩
  · simp [Tr.get] at h
/-- the first state -/
theorem startW {w : World} {ao ap : Option Addr} {n co ns cs : Nat} {av : Int} {sb : Nat → Int} {sel : Nat → OpR} (hsp : RowsZ w ap ns 1 fun k => [u8V (sb k)]) :
    ∃ (S : Sym) (ρ : Rho), @HR S ρ stW0 w ∧ SW S ao ap n co ns cs av sb 0 sel := by
  have hsw : ∀ ws, (0 < ns → pinS ∈ ws) → SW (symW ao ap n co ns cs av sb ws) ao ap n co ns cs av sb 0 sel := fun ws h => ⟨rfl, rfl, rfl, rfl, rfl, fun j hj => by omega, rfl, h⟩
  rcases Nat.eq_zero_or_pos ns with h0 | hpos
  · refine ⟨symW ao ap n co ns cs av sb [], fun _ => none, ?_, hsw _ (fun q => by omega)⟩
    exact @HR.mk (symW ao ap n co ns cs av sb []) _ _ _ (fun _ _ _ _ h => by cases h) (fun _ _ _ _ _ _ _ _ _ _ h => by cases h) (fun _ _ => rfl) (Nat.zero_le _) (fun f hf => by cases hf)
  · obtain ⟨y, rfl, hys, C, t, fr, d1, d2, d3⟩ : ∃ x, ap = some x ∧ x.spot = none ∧ ∃ C t fr, w.heap[x.block]? = some (.cells C t fr) ∧ x.off + ns * 1 ≤ C.size ∧ ∀ i, i < ns → ∀ j v, ([u8V (sb i)] : List Value)[j]? = some v → C[x.off + i * 1 + j]? = some v := by
      rcases hsp with h | h
      · omega
      · exact h
    refine ⟨symW ao (some y) n co ns cs av sb [pinS], fun b => if b = 0 then some ⟨y.block, y.off, 0, 0, 0, true⟩ else none, ?_, hsw _ (fun _ => List.mem_cons_self ..)⟩
    refine @HR.mk (symW ao (some y) n co ns cs av sb [pinS]) _ _ _ ?_ ?_ ?_ (Nat.zero_le _) ?_
    · intro b o l hb hl
      obtain ⟨rfl, rfl⟩ := stW0_get hb
      have hl : some (⟨y.block, y.off, 0, 0, 0, true⟩ : AS.Loc) = some l := hl
      simp only [Option.some.injEq] at hl
      subst hl
      exact ⟨_, d1, rfl, y, rfl, rfl, C, t, fr, rfl, d2, d3⟩
    · intro b b' o o' l l' _ hb hw
      obtain ⟨_, rfl⟩ := stW0_get hb
      cases hw
    · intro b hb
      have hb' : 1 ≤ b := hb
      exact if_neg (by omega)
    · intro f hf
      have hf : f ∈ [pinS] := hf
      have hf := List.mem_singleton.1 hf
      subst hf
      exact ⟨y, ns, cs, .i64, 0, ⟨y.block, y.off, 0, 0, 0, true⟩, rfl, rfl, Int.le_refl _, by exact_mod_cast hpos, rfl, hys, rfl, by simp [pinS]⟩
end Go.Proofs.Ytbhjhffglcipbaa.HW
namespace Go.Proofs.Ytbhjhffglcipbaa
open Go Go.Proofs.Ytbhjhffglcipbaa.AS Go.Proofs.Ytbhjhffglcipbaa.HW Go.RowKit
set_option maxRecDepth 100000
set_option linter.unusedVariables false
set_option linter.unusedSimpArgs false
set_option linter.unusedSectionVars false
theorem body7 : Try.f7.body = some (Try.f7.body.getD .skip) := by kernel_rfl
theorem nt7 : Try.f7.ntmps = 73 := by kernel_rfl
theorem hwL_eq2 : hwL = hwL.take 2 ++ (hwL.getD 2 .skip :: hwL.drop 3) := by kernel_rfl
theorem awake_yes : isYes (@AS.callT Try.prog (fun _ => none) (@AS.runT mute Try.prog (fun _ => none) 3000 none) 12 [] (AS.start Try.prog)) = true := by kernel_rfl
theorem awake_calls (w : World) : Calls Try.prog 12 #[] w fun e w' => e = .returned (.bool true) ∧ Below w.heap.size w w' := calls_runT (fuel := 3000) plainSym rfl mixed26 awake_yes w
theorem awakeS_ok (S : Sym) : @SimFn S Try.prog 12 awakeS := by
  intro args σ v σ' h ρ w args' hg hr ha
  unfold awakeS at h
  split at h
  · simp only [Option.some.injEq, Prod.mk.injEq] at h
    obtain ⟨rfl, rfl⟩ := h
    cases ha with | nil =>
    refine (awake_calls w).mono ?_
    rintro e w' ⟨rfl, hb⟩
    exact ⟨_, ρ, rfl, @Ext.grown S _ _ _ _ hr hb, @HR.grown S _ _ _ _ hr hb, @VR.leaf S ρ _ rfl⟩
  · cases h
theorem ovA_ok (S : Sym) : ∀ f g, ovA f = some g → @SimFn S Try.prog f g := by
  intro f g h
  unfold ovA at h
  split at h
  · rename_i e
    have e := of_beq e
    simp only [Option.some.injEq] at h
    subst h e
    exact awakeS_ok S
  · cases h
theorem ovA_kept : ∀ f g, ovA f = some g → ∀ args σ v σ', g args σ = some (v, σ') → Kept σ σ' := by
  intro f g h args σ v σ' h2
  unfold ovA at h
  split at h
  · simp only [Option.some.injEq] at h
    subst h
    unfold awakeS at h2
    split at h2
    · simp only [Option.some.injEq, Prod.mk.injEq] at h2; rw [← h2.2]; exact @Kept.refl plainSym mute _
    · cases h2
  · cases h
theorem madeS_kept (k : Nat) (args : List Value) (σ : St) (v : Value) (σ' : St) (h : madeS k args σ = some (v, σ')) : Kept σ σ' := by
  unfold madeS at h
  split at h
  case h_2 => cases h
  split at h
  case isFalse => cases h
  split at h
  · split at h
    · simp only [Option.some.injEq, Prod.mk.injEq] at h; rw [← h.2]; exact @Kept.refl plainSym mute _
    · cases h
  · split at h
    case h_2 => cases h
    split at h
    case isFalse => cases h
    split at h
    case h_2 => cases h
    rename_i nb σ1 hnew
    simp only [Option.some.injEq, Prod.mk.injEq] at h
    rw [← h.2]
    exact @Kept.new plainSym mute _ _ _ _ hnew
theorem linS_kept (k : Nat) (args : List Value) (σ : St) (v : Value) (σ' : St) (h : linS k args σ = some (v, σ')) : Kept σ σ' := by
  unfold linS at h
  split at h
  case h_2 => cases h
  split at h
  case isFalse => cases h
  simp only [Option.some.injEq, Prod.mk.injEq] at h; rw [← h.2]; exact @Kept.refl plainSym mute _
theorem isTrue2_eq {o : Option Value} (h : isTrue2 o = true) : o = some (.bool true) := by
  unfold isTrue2 at h
  split at h
  · rfl
  · cases h
section
variable {w0 : World} {ao ap : Option Addr} {n co ns cs : Nat} {av : Int} {ops : Nat → OpR} {sb : Nat → Int}
/-- HistWrong, of whatever calls: true -/
theorem wrong_calls (hops : RowsZ w0 ao n 5 fun k => (ops k).cells) (hsp : RowsZ w0 ap ns 1 fun k => [u8V (sb k)]) (hsz : ∀ i, i < n → (ops i).val.size ≤ maxLen) (h0 : 0 ≤ av) (h1 : av < 256) :
    Calls Try.prog 7 #[.slice ao n co, .slice ap ns cs, u8V av] w0 fun e w' => e = .returned (.bool true) ∧ Below w0.heap.size w0 w' := by
  refine calls_flat (args := [.slice ao n co, .slice ap ns cs, u8V av]) Try.func7 body7 fun a ht hd => ?_
  show wpL Try.prog _ hwL a w0
  obtain ⟨S, ρ, hr, hS⟩ := startW (ao := ao) (n := n) (co := co) (cs := cs) (av := av) (sel := ops) hsp
  have hat := AtX.start (P := Try.prog) (S := S) (X := fun _ => False) (n := Try.f7.ntmps) (vs0 := [HW.sy 1, HW.sy 2, HW.sy 3]) (fun g hg => by rw [noG] at hg; omega) hr
    (@VL.cons S _ _ _ _ _ (@VR.sym S _ 1 _ hS.hops) (@VL.cons S _ _ _ _ _ (@VR.sym S _ 2 _ hS.hspr) (@VL.cons S _ _ _ _ _ (@VR.sym S _ 3 _ hS.hat) (@VL.nil S _)))) ht hd
    (fun b o l hb hw hl => by obtain ⟨_, rfl⟩ := stW0_get hb; cases hw)
  rw [nt7] at hat
  have hat : AtX Try.prog S (fun _ => False) w0.heap.size w0 stW0 (TM.of [HW.sy 1, HW.sy 2, HW.sy 3] 73 ok73).toL a w0 := by
    rw [@TM.of_toL mute _ _ _ (show 3 ≤ 73 by decide)]; exact hat
  have hO : ∀ b, decide ((n : Int) > 9) = b → @OrcOK S (orcC Try.prog lensM [⟨.gtr, 3, HW.sy 9, HW.i64 9, .bool b⟩] [] []) Try.prog := by
    intro b hb
    refine orcC_ok _ _ _ _ _ hS.len ?_ (fun f hf => by cases hf) (fun f hf => by cases hf)
    intro f hf
    simp only [List.mem_cons, List.not_mem_nil, or_false] at hf
    subst hf
    exact FactOK.int (k := .i64) (x := n) (y := 9) hS.hn rfl (by simp [intR, conc, ← hb]) (.inl rfl)
  have hO2 : @OrcOK S (orcC Try.prog lensM [] [] []) Try.prog := orcC_ok _ _ _ _ _ hS.len (fun f hf => by cases hf) (fun f hf => by cases hf) (fun f hf => by cases hf)
  by_cases hn : n ≤ 9
  · have hp := w_start
    unfold phaseW0 at hp
    split at hp
    case h_2 => cases hp
    rename_i t1 σ1 hrun
    rw [hwL_eq]
    refine AtX.runL _ (hO false (by simp; omega)) mixed26 (ovA_ok S) ovA_kept _ hrun hat fun a1 w1 hat1 => ?_
    obtain ⟨hθ, ws, hws, hat2⟩ := hat1.restateP (f := pinS) (c := 0 < ns) hp hS.pin rfl rfl rfl
    refine wp_block (@SimC.wp plainSym mute _ (mute_ok _) (.loop hwB) _ _ _ ?_)
    refine wrong_loop (co := co) (cs := cs) (av := av) (sb := sb) (ap := ap) (ns := ns) hops hn hsz ?_ n 0 0 ops _ a1 w1 (by omega) (by omega) (by omega) ?_ ?_ (fun j hj => by omega) hat2
    · intro S σ t a2 w2 k sel hk hS hm hsel h16 h17 hat3 hp2
      show wpL Try.prog (bodyPost Try.prog Try.f7 (fun e w' => e = Ending.returned (Value.bool true) ∧ Below w0.heap.size w0 w')) ((hwL.drop 6).take 3 ++ [.ret]) a2 w2
      split at hp2
      case h_2 => cases hp2
      rename_i t3 σ3 hrun3
      have hav : wI av = av := by
        unfold wI
        simp [IntKind.wrap, IntKind.bits, IntKind.signed]
        omega
      have hto : 0 ≤ wI (wI av + 5) := by
        rw [hav]
        unfold wI
        simp [IntKind.wrap, IntKind.bits, IntKind.signed]
        omega
      have hO3 : @OrcOK S (orcC Try.prog lensM factsWe convW []) Try.prog := by
        refine orcC_ok _ _ _ _ _ hS.len ?_ ?_ (fun f hf => by cases hf)
        · intro f hf
          simp only [factsWe, List.mem_cons, List.not_mem_nil, or_false] at hf
          subst hf
          exact FactOK.int (k := .i64) (x := wI av) (y := 5) h16 rfl (by show some (Value.int .i64 (IntKind.i64.wrap (wI av + 5))) = some (S.val 17); rw [h17]; rfl) (.inr rfl)
        · intro c hc
          simp only [convW, List.mem_cons, List.not_mem_nil, or_false] at hc
          subst hc
          exact ⟨⟨_, _, _, u5, u3, hS.hat, h16⟩, .inr rfl⟩
      refine AtX.runL _ hO3 mixed26 ?_ ?_ _ hrun3 hat3 fun a4 w4 hat4 => ?_
      · intro f g h
        unfold ovW at h
        split at h
        · rename_i e
          have e := of_beq e
          simp only [Option.some.injEq] at h
          subst h e
          exact madeS_ok hS hk hm
        · split at h
          · rename_i e
            have e := of_beq e
            simp only [Option.some.injEq] at h
            subst h e
            exact linS_ok hS hk hm hsel h16 h17 hto
          · cases h
      · intro f g h
        unfold ovW at h
        split at h
        · simp only [Option.some.injEq] at h
          subst h
          exact madeS_kept k
        · split at h
          · simp only [Option.some.injEq] at h
            subst h
            exact linS_kept k
          · cases h
      rw [wpL_one]
      refine wp_ret ?_
      exact hat4.done (.inr rfl) (by rw [@resultsT_eq mute]; exact isTrue2_eq hp2) fun ρ v' hv => ⟨by rw [@VR.inv_leaf S ρ _ _ hv rfl], hat4.below⟩
    · exact ⟨hS.hops, hS.hspr, hS.hat, hS.hn, hS.hns, fun j hj => by omega, hS.ext, hws⟩
    · show conc S ((thetaW 0 (HW.i64 0) []).getD 8 _) = _
      rw [thetaW_8]
      rfl
  · have hp := w_full
    unfold phaseWx at hp
    split at hp
    case h_2 => cases hp
    rename_i t1 σ1 hrun
    split at hp
    case h_2 => cases hp
    rename_i t2 σ2 hrun2
    rw [hwL_eq2]
    refine AtX.runL _ (hO true (by simp; omega)) mixed26 (ovA_ok S) ovA_kept _ hrun hat fun a1 w1 hat1 => ?_
    refine AtX.run _ hO2 mixed26 (ovA_ok S) ovA_kept hrun2 hat1 fun a2 w2 hat2 => ?_
    show bodyPost Try.prog Try.f7 (fun e w' => e = Ending.returned (Value.bool true) ∧ Below w0.heap.size w0 w') Exit.ret a2 w2
    exact hat2.done (.inr rfl) (by rw [@resultsT_eq mute]; exact isTrue2_eq hp) fun ρ v' hv => ⟨by rw [@VR.inv_leaf S ρ _ _ hv rfl], hat2.below⟩
end
end Go.Proofs.Ytbhjhffglcipbaa
namespace Go.Proofs.Ytbhjhffglcipbaa.HW
open Go Go.Proofs.Ytbhjhffglcipbaa.AS Go.RowKit
set_option linter.unusedVariables false
set_option linter.unusedSimpArgs false
set_option linter.unusedSectionVars false
/-! ## hist.Linear, whatever it answers -/
def goesL2 (r : Bool) : Fn := fun args σ =>
  match argL args with
  | some b =>
    match okS2 (σ.get b) with
    | some m => if isMp0 (σ.get m) && okX 1 (σ.get 0) then some (.bool r, σ.set m (some (.ext 0))) else none
    | none => none
  | none => none
def ovL2 (r : Bool) : Ov := fun f => match Nat.beq f 18 with | true => some (goesL2 r) | false => none
def isB2 (r : Bool) : Option Value → Bool
  | some (.bool b) => b == r
  | _ => false
theorem isB2_eq {r : Bool} {o : Option Value} (h : isB2 r o = true) : o = some (.bool r) := by
  unfold isB2 at h
  split at h
  · rename_i b; rw [eq_of_beq h]
  · cases h
def phaseL2 (P : Program) (fn : Func) (code : List Code) (r : Bool) : Bool :=
  match @runLT (orcX P lens factsL []) P (ovL2 r) 400 code (TM.of [sy 1, itemZ] 27 ok27') stL0 with
  | some (t, σ) => isB2 r (resultsT P fn σ t)
  | none => false
end Go.Proofs.Ytbhjhffglcipbaa.HW
namespace Go.Proofs.Ytbhjhffglcipbaa
open Go Go.Proofs.Ytbhjhffglcipbaa.AS Go.Proofs.Ytbhjhffglcipbaa.HW Go.RowKit
set_option maxRecDepth 100000
set_option linter.unusedVariables false
set_option linter.unusedSimpArgs false
set_option linter.unusedSectionVars false
theorem l_all2 : (bools.all fun r => phaseL2 Try.prog Try.f14 (liL.take 6) r) = true := by kernel_rfl
theorem linear_nil_yes : isYes (@AS.callT Try.prog (fun _ => none) (@AS.runT mute Try.prog (fun _ => none) 3000 none) 14 [.slice none 0 0, itemZ] (AS.start Try.prog)) = true := by kernel_rfl
/-- no calls are in order -/
theorem linear_nil (w : World) : Calls Try.prog 14 #[.slice none 0 0, itemZ] w fun e w' => e = .returned (.bool true) ∧ Below w.heap.size w w' := by
  have h := linear_nil_yes
  unfold isYes at h
  split at h
  case h_2 => cases h
  rename_i σ' h0
  have h1 := @callT_sound mute Try.prog (fun _ => none) _ _ (fun c m σ e m' σ' => @runT_sound mute Try.prog (fun _ => none) 3000 none c m σ e m' σ') 14 [.slice none 0 0, itemZ] (AS.start Try.prog) (.bool true, σ') h0
  refine (@calls_sim plainSym mute Try.prog (mute_ok plainSym) (fun _ => none) mixed26 (fun _ _ h => by cases h) (fun _ _ h => by cases h) 3000 14 [.slice none 0 0, itemZ] (AS.start Try.prog) _ σ' h1 (rho0 Try.prog) w [.slice none 0 0, itemZ] (@start_GR plainSym mute Try.prog) (@start_HR plainSym mute Try.prog w rfl)
    (@VL.cons plainSym _ _ _ _ _ (@VR.leaf plainSym _ _ rfl) (@VL.cons plainSym _ _ _ _ _ (@flat_VR plainSym _ itemZ rfl) (@VL.nil plainSym _)))).mono ?_
  rintro e w' ⟨v', ρ', rfl, k1, k2, k3⟩
  refine ⟨by rw [@VR.inv_leaf plainSym ρ' _ v' k3 rfl], ⟨k1.os, k1.tape, k1.output, k1.heap, fun p hp => k1.frame p hp (fun b o l q => ?_)⟩⟩
  rw [@start_get plainSym mute Try.prog] at q; cases q
section
variable {S : Sym} {x : Addr} {n c : Nat} {D : Nat → DR}
theorem goesL2_ok {r : Bool} (hS : SLi S x n c fun k => (D k).cells) (hR : RowsOK x n fun k => (D k).cells) (hn1 : 1 ≤ n) (hn : n ≤ 31) (hvals : ∀ i, i < n → (D i).val.size ≤ maxLen) (hres : r = true ↔ Lin D n (2 ^ n - 1) (false, ⟨#[]⟩)) : @SimFn S Try.prog 18 (goesL2 r) := by
  intro args σ v σ' h ρ w args' hg hr ha
  unfold goesL2 at h
  split at h
  case h_2 => cases h
  rename_i b hb
  split at h
  case h_2 => cases h
  rename_i m hm
  split at h
  case isFalse => cases h
  rename_i hc
  simp only [Bool.and_eq_true] at hc
  obtain ⟨c1, c2⟩ := hc
  simp only [Option.some.injEq, Prod.mk.injEq] at h
  obtain ⟨rfl, rfl⟩ := h
  obtain ⟨cs, rfl, hcs⟩ := argL_eq hb
  obtain ⟨ro, g0⟩ := okS2_eq hm
  have gm := isMp0_eq c1
  have g1 := okX_eq c2
  cases ha with | cons h1 t => cases t with | cons h2 t => cases t with | nil =>
  obtain ⟨l0, q0, rfl⟩ := at_eq h1
  obtain ⟨cs', rfl, hl⟩ := agg_eq h2
  rw [hcs] at hl
  generalize hcl : cs'.toList = cl at hl
  cases hl with | cons h1 t => cases t with | cons h2 t => cases t with | cons h3 t => cases t with | nil =>
  have h1 := sy_eq h1; have h2 := @VR.inv_leaf S ρ _ _ h2 rfl; have h3 := @VR.inv_leaf S ρ _ _ h3 rfl
  rw [hS.h31] at h1
  subst h1 h2 h3
  rw [arr3 hcl]
  -- the struct
  obtain ⟨e1, e2, e3, e4, C, t, fr, e5, e6, e7, e8, e9⟩ := @HR.ob S ρ σ w hr b _ l0 g0 q0
  obtain ⟨rfl, hpo, hsz, rfl, hu⟩ := e9 53 rfl
  have hext : l0.ext = 2 := hu rfl
  obtain ⟨v0, c0, r0⟩ := e8 0 (HW.sy 1) rfl
  obtain ⟨v1, c1, r1⟩ := e8 1 (.map (some m)) rfl
  rw [hpo] at c0 c1
  have r0 := sy_eq r0
  rw [hS.l] at r0
  obtain ⟨lm, r1, hlm⟩ := @VR.inv_map S ρ _ _ r1
  subst r0 r1
  have hstruct : Struct2 w l0.pb x n c lm.pb := by
    show w.heap[l0.pb]? = _
    rw [e5]
    have : C = #[.slice (some x) n c, .map (some lm.pb)] := by
      apply Array.ext
      · rw [hsz, hext]; rfl
      · intro i hi1 hi2
        have hi : i < 2 := hi2
        match i, hi with
        | 0, _ => have := (Array.getElem?_eq_some_iff.1 c0).2; simpa using this
        | 1, _ => have := (Array.getElem?_eq_some_iff.1 c1).2; simpa using this
    rw [this]
  -- the map
  obtain ⟨E, clk, k1, k2, _⟩ := @HR.ob S ρ σ w hr m _ lm gm hlm
  have hE : E = #[] := by
    cases E with
    | mk l => generalize hl : (Array.mk l).toList = l' at k2; cases k2; exact congrArg Array.mk hl
  subst hE
  -- the rows
  obtain ⟨x1, n1, cc1, kd, i1, l1, p1, p2, p3, p4, p5, p6, p7, p8⟩ := @HR.win S ρ σ w hr pinL hS.pin
  have p1 : S.val 1 = .slice (some x1) n1 cc1 := p1
  rw [hS.l] at p1
  simp only [Value.slice.injEq, Option.some.injEq] at p1
  obtain ⟨rfl, rfl, rfl⟩ := p1
  obtain ⟨o1, z1, z2⟩ := @HR.ob S ρ σ w hr 0 _ l1 g1 p5
  rw [hS.ext] at z2
  have hrow : RowsIn o1 x n (fun k => (D k).cells) := by
    rcases z2 with a | ⟨_, _, b⟩
    · omega
    · exact b
  rw [p7] at z1
  have hrows : RowsAt w x n fun k => (D k).cells := by
    obtain ⟨C1, t1, fr1, rfl, a, b⟩ := hrow.ex
    exact ⟨hR.spot, ⟨C1, t1, fr1, z1, a, b⟩, hR.len, hR.leafs⟩
  rw [hpo]
  refine (goes_calls2 hn1 hn hvals (2 ^ n - 1) w l0.pb x c lm.pb false ⟨#[]⟩ hstruct hrows ⟨_, k1, MemoOK.empty _⟩ (Nat.zero_le _) (full_lt hn).1).mono ?_
  rintro e w' ⟨⟨b, rfl, hbL⟩, ht⟩
  have hbr : b = r := by rw [Bool.eq_iff_iff, hbL, hres]
  subst hbr
  have hp : ∀ p, p < w.heap.size → p ≠ lm.pb → w'.heap[p]? = w.heap[p]? := fun p h1 h2 => ht.keep p h1 h2
  obtain ⟨o, y1, y2⟩ := ht.map
  exact ⟨_, ρ, rfl, @Ext.turned S _ _ _ _ hr _ _ _ _ gm rfl hlm hp ht.size ht.os ht.tape ht.output, @HR.turned S _ _ _ _ hr _ _ _ _ gm rfl hlm rfl ⟨o, y1, by rw [hS.ext]; exact .inl rfl⟩ hp, @VR.leaf S ρ _ rfl⟩
theorem goesL2_kept (r : Bool) (args : List Value) (σ : St) (v : Value) (σ' : St) (h : goesL2 r args σ = some (v, σ')) : Kept σ σ' := by
  unfold goesL2 at h
  split at h
  case h_2 => cases h
  split at h
  case h_2 => cases h
  split at h
  case isFalse => cases h
  rename_i hc
  simp only [Bool.and_eq_true] at hc
  simp only [Option.some.injEq, Prod.mk.injEq] at h
  rw [← h.2]
  exact @Kept.set plainSym mute _ _ _ _ (isMp0_eq hc.1) rfl
/-- Linear answers whether there is an order -/
theorem linear_calls2 {w0 : World} (hn1 : 1 ≤ n) (hn : n ≤ 31) (hvals : ∀ i, i < n → (D i).val.size ≤ maxLen) {r : Bool} (hres : r = true ↔ Lin D n (2 ^ n - 1) (false, ⟨#[]⟩)) (hr : RowsAt w0 x n fun k => (D k).cells) : Calls Try.prog 14 #[.slice (some x) n c, itemZ] w0 fun e w' => e = .returned (.bool r) ∧ Below w0.heap.size w0 w' := by
  have hRO : RowsOK x n fun k => (D k).cells := ⟨hr.spot, hr.len, hr.leafs⟩
  refine calls_flat (args := [.slice (some x) n c, itemZ]) Try.func14 body14 fun a ht hd => ?_
  show wpL Try.prog _ liL a w0
  have hat := AtX.start (P := Try.prog) (S := symL x n c fun k => (D k).cells) (X := fun _ => False) (n := Try.f14.ntmps) (vs0 := [HW.sy 1, itemZ]) (fun g hg => by rw [noG] at hg; omega) (startL hr hn1)
    (@VL.cons (symL x n c fun k => (D k).cells) _ _ _ _ _ (@VR.sym (symL x n c fun k => (D k).cells) _ 1 _ rfl)
      (@VL.cons (symL x n c fun k => (D k).cells) _ _ _ _ _ (@flat_VR (symL x n c fun k => (D k).cells) _ itemZ rfl) (@VL.nil (symL x n c fun k => (D k).cells) _))) ht hd
    (fun b o l hb hw hl => by
      have hl : (if b = 0 then some (⟨x.block, x.off, 0, 0, 0, true⟩ : AS.Loc) else none) = some l := hl
      split at hl
      · rename_i e
        subst e
        have e2 : stL0.get 0 = some (.ext 1) := by rfl
        rw [e2] at hb
        cases hb
        cases hw
      · cases hl)
  rw [nt14] at hat
  have hat : AtX Try.prog (symL x n c fun k => (D k).cells) (fun _ => False) w0.heap.size w0 stL0 (TM.of [HW.sy 1, itemZ] 27 ok27').toL a w0 := by
    rw [@TM.of_toL mute _ _ _ (show 2 ≤ 27 by decide)]; exact hat
  have hS : SLi (symL x n c fun k => (D k).cells) x n c fun k => (D k).cells := ⟨rfl, rfl, rfl, rfl, rfl, List.mem_cons_self ..⟩
  generalize (symL x n c fun k => (D k).cells) = S at hat hS
  have hp := bools_all l_all2 r
  unfold phaseL2 at hp
  split at hp
  case h_2 => cases hp
  rename_i t1 σ1 hrun
  have hlens : ∀ y ∈ lens, LenOK S y := by
    intro y hy
    simp only [lens, List.mem_cons, List.not_mem_nil, or_false] at hy
    subst hy
    exact ⟨⟨_, _, _, hS.l, hS.hn⟩, .inr rfl⟩
  have hO : @OrcOK S (orcX Try.prog lens factsL []) Try.prog := by
    refine orcX_ok _ _ _ _ hlens ?_ (fun f hf => by cases hf)
    intro f hf
    have hlt := full_lt hn
    simp only [factsL, List.mem_cons, List.not_mem_nil, or_false] at hf
    rcases hf with rfl | rfl
    · exact FactOK.of_run (vx := .int .u32 1) (vy := .int .i64 n) (vr := .int .u32 ((2 ^ n : Nat) : Int)) rfl hS.hn hS.h30 (fun w => run_shl1 n (by omega)) ⟨rfl, by simp⟩ (.inr rfl)
    · refine FactOK.int (k := .u32) (x := ((2 ^ n : Nat) : Int)) (y := 1) hS.h30 rfl ?_ (.inr rfl)
      show some (Value.int .u32 (IntKind.u32.wrap (((2 ^ n : Nat) : Int) - 1))) = some (S.val 31)
      rw [hS.h31]
      have h1 : 1 ≤ 2 ^ n := Nat.one_le_two_pow
      have e : (((2 ^ n : Nat) : Int) - 1) = ((2 ^ n - 1 : Nat) : Int) := by omega
      rw [e, wrap_u32 hlt.1]; rfl
  rw [liL_eq]
  refine AtX.runL _ hO mixed26 ?_ ?_ _ hrun hat fun a1 w1 hat1 => ?_
  · intro f g h
    unfold ovL2 at h
    split at h
    · rename_i e
      have e := of_beq e
      simp only [Option.some.injEq] at h
      subst h e
      exact goesL2_ok hS hRO hn1 hn hvals hres
    · cases h
  · intro f g h
    unfold ovL2 at h
    split at h
    · simp only [Option.some.injEq] at h
      subst h
      exact goesL2_kept r
    · cases h
  rw [wpL_one]
  refine wp_ret ?_
  exact hat1.done (.inr rfl) (by rw [@resultsT_eq mute]; exact isB2_eq hp) fun ρ v' hv => ⟨by rw [@VR.inv_leaf S ρ _ _ hv rfl], hat1.below⟩
end
end Go.Proofs.Ytbhjhffglcipbaa
namespace Go.Proofs.Ytbhjhffglcipbaa.HW
open Go Go.Proofs.Ytbhjhffglcipbaa.AS
set_option linter.unusedVariables false
/-! ## hist.Key, computed -/
def outY : Nat → List Value
  | 0 => []
  | i + 1 => outY i ++ rowS (22 + 10 * i)
def stY (k : Nat) : St := { next := 1, mark := 0, log := [], mem := match Nat.beq k 0 with | true => .leaf | false => Tr.set (some (.blk (outY k) 15 false (some 40))) depth .leaf 0 }
def stYr (k : Nat) : St := { next := 2, mark := 0, log := [], mem := Tr.set (some (.blk (rowS 11) 0 true none)) depth (stY k).mem 1 }
def outYV (k : Nat) : Value := match Nat.beq k 0 with | true => nils | false => .slice (some ⟨0, 0, none⟩) k k
def tmY (k : Nat) : List Value := slots 23 [(0, sy 1), (1, keyK), (4, nils), (5, outYV k), (8, sy 1), (9, sy 9), (10, sy 8)]
theorem ok23 : 23 ≤ most := by unfold most; omega
inductive WayY where
  | good | absent | other | put | get
def factsYc : List Fact := [⟨.lss, 3, sy 8, sy 9, .bool true⟩, ⟨.add, 3, sy 8, i64 1, sy 21⟩, ⟨.neq, 9, sy 12, keyK, .bool false⟩, ⟨.lss, 3, sy 11, i64 1, .bool false⟩, ⟨.gtr, 3, sy 11, i64 4, .bool false⟩]
def factsY : WayY → List Fact
  | .good => [⟨.geq, 3, sy 17, i64 0, .bool true⟩, ⟨.neq, 3, sy 18, i64 7, .bool true⟩, ⟨.eql, 3, sy 18, i64 0, .bool true⟩]
  | .absent => [⟨.geq, 3, sy 17, i64 0, .bool true⟩, ⟨.neq, 3, sy 18, i64 7, .bool true⟩, ⟨.eql, 3, sy 18, i64 0, .bool false⟩, ⟨.eql, 3, sy 18, i64 1, .bool true⟩]
  | .other => [⟨.geq, 3, sy 17, i64 0, .bool true⟩, ⟨.neq, 3, sy 18, i64 7, .bool true⟩, ⟨.eql, 3, sy 18, i64 0, .bool false⟩, ⟨.eql, 3, sy 18, i64 1, .bool false⟩, ⟨.eql, 3, sy 18, i64 2, .bool true⟩]
  | .put => [⟨.geq, 3, sy 17, i64 0, .bool false⟩, ⟨.neq, 3, sy 11, i64 1, .bool true⟩]
  | .get => [⟨.geq, 3, sy 17, i64 0, .bool false⟩, ⟨.neq, 3, sy 11, i64 1, .bool false⟩]
def winsY : List Win := [⟨1, sy 8, 1, 15⟩]
def lensY : List (Nat × Value) := [(1, sy 9)]
def thetaY (k : Nat) (v : Value) (row : List Value) : List Value := ((List.range 22).map sy).set 8 v ++ ((List.range (10 * k)).map (fun j => sy (22 + j)) ++ row)
def newY : List Value := [sy 11, sy 12, sy 13, sy 14, sy 15, sy 16, sy 17, sy 18, sy 19, sy 20]
def phaseY (P : Program) (code : List Code) (k : Nat) (w : WayY) : Bool :=
  match @runLT (orcC P lensY (factsYc ++ factsY w) [] winsY) P ov0 600 code (TM.of (tmY k) 23 ok23) (stYr k) with
  | some (t, σ) =>
    match w with
    | .get => stB P [some 0] (thetaY k (sy 21) []) 8 (stY k) (tmY k) σ t.toL
    | _ => stB P [outAt t] (thetaY k (sy 21) newY) 8 (stY (k + 1)) (tmY (k + 1)) σ t.toL
  | none => false
def phaseY0 (P : Program) (code : List Code) : Bool :=
  match @runLT (orcC P lensY [] [] []) P ov0 600 code (TM.of [sy 1, keyK] 23 ok23) stE with
  | some (t, σ) => stB P [] (thetaY 0 (i64 0) []) 8 (stY 0) (tmY 0) σ t.toL
  | none => false
def ansY (i : Nat) (v : Option Value) (σ : St) : Bool :=
  match v with
  | some (.slice none n c) => Nat.beq n 0 && (Nat.beq c 0 && Nat.beq i 0)
  | some (.slice (some ⟨b, o, none⟩) n c) => Nat.blt 0 i && Nat.beq o 0 && (Nat.beq n i && (Nat.beq c i && (match σ.get b with
    | some (.blk cs u false (some t)) => Nat.beq u 15 && (Nat.beq t 40 && listB same cs (outY i))
    | _ => false)))
  | _ => false
def phaseYe (P : Program) (fn : Func) (c1 c2 : Code) (rest : List Code) (k : Nat) : Bool :=
  match @runLT (orcC P lensY [⟨.lss, 3, sy 8, sy 9, .bool false⟩] [] []) P ov0 600 [c1] (TM.of (tmY k) 23 ok23) (stY k) with
  | some (t, σ) => (match @AS.runT (orcC P lensY [] [] []) P ov0 600 none c2 t σ with
    | some (.exit id, t, σ) => Nat.beq id 0 && (match @runLT (orcC P lensY [] [] []) P ov0 600 rest t σ with
      | some (t, σ) => ansY k (resultsT P fn σ t) σ
      | none => false)
    | _ => false)
  | none => false
def takeY (P : Program) (code : List Code) (k : Nat) : Bool := phaseY P code k .good && (phaseY P code k .absent && (phaseY P code k .other && phaseY P code k .put))
end Go.Proofs.Ytbhjhffglcipbaa.HW
namespace Go.Proofs.Ytbhjhffglcipbaa
open Go Go.Proofs.Ytbhjhffglcipbaa.AS Go.Proofs.Ytbhjhffglcipbaa.HW
set_option maxRecDepth 100000
noncomputable def keL : List Code := flatC (Try.f15.body.getD .skip)
noncomputable def keB : Code := match keL[3]? with | some (Code.block _ (Code.loop b)) => b | _ => .skip
noncomputable def keLb : List Code := flatC keB
theorem keL_eq : keL = keL.take 3 ++ ([.block 0 (.loop keB)] ++ ((keL.drop 4).take 1 ++ [.ret])) := by kernel_rfl
theorem keLb_eq1 : keLb = [keLb.getD 0 .skip] ++ (keLb.getD 1 .skip :: keLb.drop 2) := by kernel_rfl
theorem y_start : phaseY0 Try.prog (keL.take 3) = true := by kernel_rfl
theorem y_skip : ((List.range 11).all fun k => phaseY Try.prog keLb k .get) = true := by kernel_rfl
theorem y_end : ((List.range 11).all fun k => phaseYe Try.prog Try.f15 (keLb.getD 0 .skip) (keLb.getD 1 .skip) ((keL.drop 4).take 1) k) = true := by kernel_rfl
end Go.Proofs.Ytbhjhffglcipbaa
