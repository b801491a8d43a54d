import Derived.Test.YtbhjhffglcipbaaAsZ1
namespace Go.Proofs.Ytbhjhffglcipbaa.HW
open Go Go.Proofs.Ytbhjhffglcipbaa.AS Go.RowKit
open Go.Proofs.Ytbhjhffglcipbaa (u8V)
set_option linter.unusedVariables false
set_option linter.unusedSimpArgs false
set_option linter.unusedSectionVars false
/-! ## HistMade: what stands in -/
def StdD (d : DR) : Prop := d.c0 = i64 0 ∧ d.c1 = i64 0 ∧ d.c2 = i64 0 ∧ d.c3 = i64 0 ∧ d.ver = .complex .f64 0 0
theorem rowsB_len (base n : Nat) : (rowsB base n).length = 15 * n := by
  induction n with
  | zero => rfl
  | succ n ih => rw [rowsB, List.length_append, ih]; show 15 * n + 15 = _; omega
theorem rowsB_get {base n j c : Nat} (hj : j < n) (hc : c < 15) : (rowsB base n)[j * 15 + c]? = (rowS (base + 10 * j))[c]? := by
  induction n with
  | zero => omega
  | succ n ih =>
    rw [rowsB]
    have hl := rowsB_len base n
    rcases Nat.lt_or_ge j n with h | h
    · rw [List.getElem?_append_left (by omega)]; exact ih h
    · have e : j = n := by omega
      subst e
      rw [List.getElem?_append_right (by omega)]
      congr 1
      omega
theorem rowsOB_eq {base k : Nat} {o : Option Ob} (h : rowsOB base k o = true) : o = some (.blk (rowsB base k) 15 false (some 40)) := by
  unfold rowsOB at h
  split at h
  · rename_i cs u t
    simp only [Bool.and_eq_true] at h
    obtain ⟨k1, k2, k3⟩ := h
    rw [of_beq k1, of_beq k2, listB_eq (fun a b q => same_eq q) k3]
  · cases h
theorem sliceB_eq {base k : Nat} {σ : St} {v : Value} (h : sliceB base k σ v = true) : (k = 0 ∧ v = nils) ∨ (0 < k ∧ ∃ b, v = .slice (some ⟨b, 0, none⟩) k k ∧ σ.get b = some (.blk (rowsB base k) 15 false (some 40))) := by
  unfold sliceB at h
  split at h
  · rename_i hk
    exact .inl ⟨of_beq hk, same_eq h⟩
  · rename_i hk
    have hk0 : 0 < k := by
      rcases Nat.eq_zero_or_pos k with e | e
      · subst e; cases hk
      · exact e
    split at h
    · rename_i b o n c
      simp only [Bool.and_eq_true] at h
      obtain ⟨h1, h2, h3, h4⟩ := h
      have h1 := of_beq h1; have h2 := of_beq h2; have h3 := of_beq h3
      subst h1 h2 h3
      exact .inr ⟨hk0, b, rfl, rowsOB_eq h4⟩
    · cases h
section
variable {S : Sym} {ρ : Rho} {σ : St} {w : World} {base k : Nat} {D : Nat → DR}
/-- the rows that lie there -/
theorem rows_world (hr : @HR S ρ σ w) {v v' : Value} (h : sliceB base k σ v = true) (hv : @VR S ρ v v') (hstd : ∀ j, j < k → StdD (D j)) (hm : ∀ j, j < k → ∀ c u, (rowT (D j))[c]? = some u → S.val (base + 10 * j + c) = u) :
    (k = 0 ∧ v' = nils) ∨ (0 < k ∧ ∃ a' c', v' = .slice (some a') k c' ∧ RowsAt w a' k fun j => (D j).cells) := by
  rcases sliceB_eq h with ⟨hk, rfl⟩ | ⟨hk, b, rfl, hg⟩
  · exact .inl ⟨hk, @VR.inv_leaf S ρ _ _ hv rfl⟩
  · obtain ⟨a', c', rfl, hva⟩ := @VR.inv_slice S ρ _ _ _ _ hv
    rcases hva with ⟨hva, hcap⟩ | ⟨e, _⟩
    case inr => omega
    obtain ⟨l, l1, l2, l3⟩ := hva.at_
    have l1 : ρ b = some l := l1
    have l3 : a'.off = l.po := l3
    obtain ⟨f1, f2, f3, f4, C, t, fr, f5, f6, f7, f8, f9⟩ := @HR.ob S ρ _ _ hr b _ l hg l1
    rw [rowsB_len] at f3 f4
    refine .inr ⟨hk, a', c', rfl, hva.s', ⟨C, t, fr, by rw [l2]; exact f5, by rw [l3]; omega, fun j hj c v hc => ?_⟩, fun j _ => rfl, fun j hj => ?_⟩
    · have hc15 : c < 15 := (List.getElem?_eq_some_iff.1 hc).1
      have hcell : (rowS (base + 10 * j))[c]? = some ((rowS (base + 10 * j))[c]'hc15) := List.getElem?_eq_getElem _
      obtain ⟨v', q1, q2⟩ := f8 (j * 15 + c) _ ((rowsB_get hj hc15).trans hcell)
      rw [l3, Nat.add_assoc, q1, rowS_VR (d := D j) (hstd j hj) (fun k u hk => hm j hj k u hk) hcell q2 hc]
    · obtain ⟨h0, h1, h2, h3, h4⟩ := hstd j hj
      simp only [DR.cells, h0, h1, h2, h3, h4]
      rfl
/-- new rows are laid -/
theorem newRows_ok (hr : @HR S ρ σ w) {v : Value} {σ' : St} {w' : World} {e : Ending} (h : newRows base k σ = some (v, σ')) (hb : Below w.heap.size w w') (he : MadeE k D w.heap.size e w') (hstd : ∀ j, j < k → StdD (D j)) (hm : ∀ j, j < k → ∀ c u, (rowT (D j))[c]? = some u → S.val (base + 10 * j + c) = u) :
    ∃ v' ρ', e = .returned v' ∧ Ext ρ σ w ρ' σ' w' ∧ @HR S ρ' σ' w' ∧ @VR S ρ' v v' := by
  unfold newRows at h
  split at h
  · rename_i hk
    have hk := of_beq hk
    subst hk
    simp only [Option.some.injEq, Prod.mk.injEq] at h
    obtain ⟨rfl, rfl⟩ := h
    rcases he with ⟨_, rfl⟩ | ⟨h0, _⟩
    · exact ⟨_, ρ, rfl, @Ext.grown S _ _ _ _ hr hb, @HR.grown S _ _ _ _ hr hb, @VR.leaf S ρ _ rfl⟩
    · omega
  · rename_i hk
    have hk0 : 0 < k := by
      rcases Nat.eq_zero_or_pos k with e | e
      · subst e; cases hk
      · exact e
    split at h
    case h_2 => cases h
    rename_i nb σ1 hnew
    simp only [Option.some.injEq, Prod.mk.injEq] at h
    obtain ⟨rfl, rfl⟩ := h
    rcases he with ⟨h0, _⟩ | ⟨_, pb, cap, C, rfl, q1, q2, q3, q4, q5⟩
    · omega
    let l : AS.Loc := ⟨pb, 0, C.size, 15, 15 * k, false⟩
    have hob : @ObR S (ρ.put nb l) w' l (.blk (rowsB base k) 15 false (some 40)) := by
      refine ⟨rfl, rfl, (rowsB_len base k).symm, ?_, C, 40, (0, 0), q2, by simp only [l]; omega, fun _ i _ => by simp, ?_, ?_⟩
      · rw [rowsB_len]; simp only [l]; omega
      · intro i u hu
        have hi : i < 15 * k := by rw [← rowsB_len base k]; exact (List.getElem?_eq_some_iff.1 hu).1
        have hj : i / 15 < k := by omega
        have hc : i % 15 < 15 := Nat.mod_lt _ (by omega)
        have hi' : i = i / 15 * 15 + i % 15 := by omega
        have hcell : ((D (i / 15)).cells)[i % 15]? = some (((D (i / 15)).cells)[i % 15]'hc) := List.getElem?_eq_getElem _
        refine ⟨_, by rw [show l.po + i = i / 15 * 15 + i % 15 by simp only [l]; omega]; exact q5 _ hj _ _ hcell, ?_⟩
        rw [hi', rowsB_get hj hc] at hu
        exact rowS_to (hstd _ hj) (fun k u hk => hm _ hj k u hk) hu hcell
      · intro t' e
        simp only [Option.some.injEq] at e
        exact ⟨e, rfl, rfl, rfl, fun q => by cases q⟩
    obtain ⟨k1, k2, _⟩ := @HR.new' S ρ σ σ1 w w' hr _ nb l hnew q1 hb.size (fun p hp => hb.block p hp) hb.os hb.tape hb.output hob
    exact ⟨_, ρ.put nb l, rfl, k2, k1, @VR.slice S _ _ _ _ _ _ ⟨rfl, rfl, l, Rho.put_self _ _ _, rfl, rfl⟩ (.inr ⟨l, Rho.put_self _ _ _, q4, .inr ⟨by simp [l], by simp only [l]; omega, by simp only [l]; omega⟩⟩)⟩
theorem newRows_kept {v : Value} {σ' : St} (h : newRows base k σ = some (v, σ')) : Kept σ σ' := by
  unfold newRows at h
  split at h
  · simp only [Option.some.injEq, Prod.mk.injEq] at h; rw [← h.2]; exact @Kept.refl plainSym mute _
  · split at h
    case h_2 => cases h
    rename_i nb σ1 hnew
    simp only [Option.some.injEq, Prod.mk.injEq] at h
    rw [← h.2]
    exact @Kept.new plainSym mute _ _ _ _ hnew
end
/-- what the symbols stand for -/
structure SZ (S : Sym) (ao ap : Option Addr) (n co ns cs : Nat) (lo : Int) (sb : Nat → Int) (k : Nat) (sel : Nat → OpR) : Prop where
  hops : S.val 1 = .slice ao n co
  hspr : S.val 2 = .slice ap ns cs
  hlost : S.val 3 = .int .u16 lo
  hn : S.val 9 = i64 n
  hns : S.val 10 = i64 ns
  rows : ∀ j, j < k → ∀ c u, ((sel j).cells)[c]? = some u → S.val (23 + 5 * j + c) = u
  ext : S.ext = extW ap ns sb
  pin : 0 < ns → pinS ∈ S.wins
theorem SZ.len {S : Sym} {ao ap : Option Addr} {n co ns cs k : Nat} {lo : Int} {sb : Nat → Int} {sel : Nat → OpR} (h : SZ S ao ap n co ns cs lo sb k sel) : ∀ y ∈ lensM, LenOK S y := by
  intro y hy
  simp only [lensM, List.mem_cons, List.not_mem_nil, or_false] at hy
  rcases hy with rfl | rfl
  · exact ⟨⟨_, _, _, h.hops, h.hn⟩, .inr rfl⟩
  · exact ⟨⟨_, _, _, h.hspr, h.hns⟩, .inr rfl⟩
section
variable {S : Sym} {ao ap : Option Addr} {n co ns cs : Nat} {lo : Int} {sb : Nat → Int} {k : Nat} {sel : Nat → OpR} {ρ : Rho} {σ : St} {w : World}
theorem spread_worldZ (hS : SZ S ao ap n co ns cs lo sb k sel) (hr : @HR S ρ σ w) (h0 : okX 1 (σ.get 0) = true) : RowsZ w ap ns 1 fun k => [u8V (sb k)] := by
  rcases Nat.eq_zero_or_pos ns with h | h
  · exact .inl h
  have g0 := okX_eq h0
  obtain ⟨x1, n1, c1, kd, i1, l, p1, p2, p3, p4, p5, p6, p7, p8⟩ := @HR.win S ρ σ w hr pinS (hS.pin h)
  have p1 : S.val 2 = .slice (some x1) n1 c1 := p1
  rw [hS.hspr] at p1
  simp only [Value.slice.injEq] at p1
  obtain ⟨rfl, rfl, rfl⟩ := p1
  obtain ⟨o, z1, z2⟩ := @HR.ob S ρ σ w hr 0 _ l g0 p5
  rw [hS.ext] at z2
  obtain ⟨_, y, hy, hp, C, t, fr, rfl, a, b⟩ := z2
  simp only [Option.some.injEq] at hy
  subst hy
  refine .inr ⟨x1, rfl, p6, C, t, fr, ?_, a, b⟩
  rw [← hp]; exact z1
theorem mine_worldZ (hS : SZ S ao ap n co ns cs lo sb k sel) (hr : @HR S ρ σ w) {v v' : Value} (h : mineSB k σ v = true) (hv : @VR S ρ v v') :
    ∃ ao' c', v' = .slice ao' k c' ∧ RowsZ w ao' k 5 fun j => (sel j).cells := by
  unfold mineSB at h
  split at h
  · rename_i hk
    have hk := of_beq hk
    subst hk
    have h := same_eq h
    subst h
    exact ⟨none, 0, @VR.inv_leaf S ρ _ _ hv rfl, .inl rfl⟩
  · rename_i hk
    have hk0 : 0 < k := by
      rcases Nat.eq_zero_or_pos k with e | e
      · subst e; cases hk
      · exact e
    split at h
    · rename_i b o n c
      simp only [Bool.and_eq_true] at h
      obtain ⟨h1, h2, h3⟩ := h
      have h1 := of_beq h1; have h2 := of_beq h2
      subst h1 h2
      have hg : σ.get b = some (.blk (mineC n) 5 false (some 31)) := by
        unfold mineB at h3
        split at h3
        · rename_i cs0 u t hgg
          simp only [Bool.and_eq_true] at h3
          obtain ⟨k1, k2, k3⟩ := h3
          rw [hgg, of_beq k1, of_beq k2, listB_eq (fun a b q => same_eq q) k3]
        · cases h3
      obtain ⟨a', c', rfl, hva⟩ := @VR.inv_slice S ρ _ _ _ _ hv
      rcases hva with ⟨hva, hcap⟩ | ⟨e, _⟩
      case inr => omega
      obtain ⟨l, l1, l2, l3⟩ := hva.at_
      have l1 : ρ b = some l := l1
      have l3 : a'.off = l.po := l3
      obtain ⟨e1, e2, e3, e4, C, t, fr, e5, e6, e7, e8, e9⟩ := @HR.ob S ρ _ _ hr b _ l hg l1
      rw [mineC_len] at e3 e4
      refine ⟨some a', c', rfl, .inr ⟨a', rfl, hva.s', C, t, fr, by rw [l2]; exact e5, by rw [l3]; omega, fun j hj c v hc => ?_⟩⟩
      have hc5 : c < 5 := (List.getElem?_eq_some_iff.1 hc).1
      obtain ⟨v', q1, q2⟩ := e8 (j * 5 + c) _ ((mineC_get hj hc5).trans (opS_get hc5))
      rw [l3, Nat.add_assoc, q1, sy_eq q2, hS.rows j hj c v hc]
    · cases h
end
end Go.Proofs.Ytbhjhffglcipbaa.HW
namespace Go.Proofs.Ytbhjhffglcipbaa
open Go Go.Proofs.Ytbhjhffglcipbaa.AS Go.Proofs.Ytbhjhffglcipbaa.HW Go.RowKit
set_option maxRecDepth 100000
set_option linter.unusedVariables false
set_option linter.unusedSimpArgs false
set_option linter.unusedSectionVars false
section
variable {S : Sym} {ao ap : Option Addr} {n co ns cs : Nat} {lo : Int} {sb : Nat → Int} {k : Nat} {sel : Nat → OpR}
theorem madeZ_ok (hS : SZ S ao ap n co ns cs lo sb k sel) (hk : k ≤ 10) (hm : ∀ j, j < k → ∀ c u, (rowT (madeRow sel (spF ns sb) j))[c]? = some u → S.val (80 + 10 * j + c) = u) : @SimFn S Try.prog 13 (madeZ k) := by
  intro args σ v σ' h ρ w args' hg hr ha
  unfold madeZ at h
  split at h
  case h_2 => cases h
  rename_i m s
  split at h
  case isFalse => cases h
  rename_i hc
  simp only [Bool.and_eq_true] at hc
  obtain ⟨c1, c2, c3⟩ := hc
  have c1 := same_eq c1
  subst c1
  cases ha with | cons h1 t => cases t with | cons h2 t => cases t with | nil =>
  have h2 := sy_eq h2
  rw [hS.hspr] at h2
  subst h2
  obtain ⟨ao', c', rfl, hmine⟩ := mine_worldZ hS hr c3 h1
  refine (made_calls (ops := sel) hmine (spread_worldZ hS hr c2) hk).mono ?_
  rintro e w' ⟨hb, he⟩
  exact newRows_ok hr h hb he (fun j hj => ⟨rfl, rfl, rfl, rfl, rfl⟩) hm
theorem linB_ok {base : Nat} {D : Nat → DR} (hk : k ≤ 10) (hstd : ∀ j, j < k → StdD (D j)) (hm : ∀ j, j < k → ∀ c u, (rowT (D j))[c]? = some u → S.val (base + 10 * j + c) = u) (hvals : ∀ j, j < k → (D j).val.size ≤ maxLen)
    (hL : Lin D k (2 ^ k - 1) (false, ⟨#[]⟩)) : @SimFn S Try.prog 14 (linB base k) := by
  intro args σ v σ' h ρ w args' hg hr ha
  unfold linB at h
  split at h
  case h_2 => cases h
  rename_i u it
  split at h
  case isFalse => cases h
  rename_i hc
  simp only [Bool.and_eq_true] at hc
  obtain ⟨c1, c2⟩ := hc
  simp only [Option.some.injEq, Prod.mk.injEq] at h
  obtain ⟨rfl, rfl⟩ := h
  have hit : it = itemZ := by
    unfold itB at c1
    split at c1
    · have := listB_eq (fun a b q => same_eq q) c1
      unfold itemZ
      congr 1
      exact Array.toList_inj.1 this
    · cases c1
  subst hit
  cases ha with | cons h1 t => cases t with | cons h2 t => cases t with | nil =>
  have h2 := @flat1_eq S ρ _ _ (show flat1 itemZ = true by rfl) h2
  subst h2
  rcases rows_world hr c2 h1 hstd hm with ⟨hk0, rfl⟩ | ⟨hk0, a', c', rfl, hrows⟩
  · refine (linear_nil w).mono ?_
    rintro e w' ⟨rfl, hb⟩
    exact ⟨_, ρ, rfl, @Ext.grown S _ _ _ _ hr hb, @HR.grown S _ _ _ _ hr hb, @VR.leaf S ρ _ rfl⟩
  · refine (linear_calls2 (r := true) (by omega) (by omega) hvals (by simp [hL]) hrows).mono ?_
    rintro e w' ⟨rfl, hb⟩
    exact ⟨_, ρ, rfl, @Ext.grown S _ _ _ _ hr hb, @HR.grown S _ _ _ _ hr hb, @VR.leaf S ρ _ rfl⟩
theorem keyZ_ok {k' : Nat} {D : Nat → DR} (hk : k ≤ 10) (hy : ∀ j, j < k → RowY (D j)) (hm : ∀ j, j < k → ∀ c u, (rowT (D j))[c]? = some u → S.val (23 + 10 * j + c) = u) (hk' : (pkF D k).length = k')
    (hm2 : ∀ j, j < k' → ∀ c u, (rowT ((pkF D k).getD j (D 0)))[c]? = some u → S.val (150 + 10 * j + c) = u) : @SimFn S Try.prog 15 (keyZ k k') := by
  intro args σ v σ' h ρ w args' hg hr ha
  unfold keyZ at h
  split at h
  case h_2 => cases h
  rename_i u s
  split at h
  case isFalse => cases h
  rename_i hc
  simp only [Bool.and_eq_true] at hc
  obtain ⟨c1, c2⟩ := hc
  have c1 := same_eq c1
  subst c1
  cases ha with | cons h1 t => cases t with | cons h2 t => cases t with | nil =>
  have h2 := @VR.inv_leaf S ρ _ _ h2 rfl
  subst h2
  have hstd2 : ∀ j, j < k' → StdD ((pkF D k).getD j (D 0)) := by
    intro j hj
    have hget : (pkF D k)[j]? = some ((pkF D k).getD j (D 0)) := by
      rw [List.getD_eq_getElem?_getD, List.getElem?_eq_getElem (by omega)]; rfl
    obtain ⟨i, hi, hdi⟩ := pkF_mem (List.mem_of_getElem? hget)
    rw [hdi]
    exact (hy i hi).std
  rcases rows_world hr c2 h1 (fun j hj => (hy j hj).std) hm with ⟨hk0, rfl⟩ | ⟨hk0, a', c', rfl, hrows⟩
  · subst hk0
    refine (key_calls (ao := none) (n := 0) (co := 0) (D := D) (.inl rfl) (by omega) (fun i hi => by omega)).mono ?_
    rintro e w' ⟨hb, he⟩
    rw [hk'] at he
    exact newRows_ok hr h hb he hstd2 hm2
  · refine (key_calls (D := D) (.inr ⟨a', rfl, hrows.spot, hrows.cells⟩) hk hy).mono ?_
    rintro e w' ⟨hb, he⟩
    rw [hk'] at he
    exact newRows_ok hr h hb he hstd2 hm2
end
theorem madeZ_kept (k : Nat) (args : List Value) (σ : St) (v : Value) (σ' : St) (h : madeZ k args σ = some (v, σ')) : Kept σ σ' := by
  unfold madeZ at h
  split at h
  case h_2 => cases h
  split at h
  case isFalse => cases h
  exact newRows_kept h
theorem linB_kept (base k : Nat) (args : List Value) (σ : St) (v : Value) (σ' : St) (h : linB base k args σ = some (v, σ')) : Kept σ σ' := by
  unfold linB at h
  split at h
  case h_2 => cases h
  split at h
  case isFalse => cases h
  simp only [Option.some.injEq, Prod.mk.injEq] at h; rw [← h.2]; exact @Kept.refl plainSym mute _
theorem keyZ_kept (k k' : Nat) (args : List Value) (σ : St) (v : Value) (σ' : St) (h : keyZ k k' args σ = some (v, σ')) : Kept σ σ' := by
  unfold keyZ at h
  split at h
  case h_2 => cases h
  split at h
  case isFalse => cases h
  exact newRows_kept h
end Go.Proofs.Ytbhjhffglcipbaa
