/- The recovery of all parts. -/
import Derived.Test.YtaoimnfmhdmkmaaVolD
namespace Go.AI
open Go

theorem basis_run {X : Type} (F : Nat) (fail : X) (K : Mat → Mat → X) (ps : Mat) (hps : ps.length ≤ 64) (parts : Mat) (s51 data : Int) (rows : Mat) (hrows : ps.length ≤ rows.length) (n : Nat) (hn : data = (n : Int)) (hn2 : n ≤ 64)
    (ex0 ex1 : Mat → Int → Int → Mat → Int → Int → Mat → Mat → Mat → X) (h0 : ∀ s7 some_ basis, ex0 ps ((ps.length : Nat) : Int) s7 parts s51 data rows some_ basis = K some_ basis) (h1 : ∀ s7 some_ basis, ex1 ps ((ps.length : Nat) : Int) s7 parts s51 data rows some_ basis = K some_ basis) :
    ∀ (pr rr : Mat) (m j k : Nat) (some_ basis : Mat), ps.drop j = pr → rows.drop j = rr → j + pr.length = ps.length → basis.length + k = n → some_.length = basis.length → pr.length < m →
      pWhole_l1F F fail ex0 ex1 m ps ((ps.length : Nat) : Int) (j : Int) parts s51 data rows some_ basis = K (some_ ++ (basisB k pr rr).1) (basis ++ (basisB k pr rr).2)
  | [], rr, m + 1, j, k, some_, basis, g1, g2, g3, g4, g5, g6 => by
    have hj : j = ps.length := by simpa using g3
    subst hj
    simp only [pWhole_l1F, pWhole_l1]
    rw [bif_false (ff (by omega)), h1]
    have : basisB k [] rr = ([], []) := by cases k <;> rfl
    rw [this]; simp
  | p :: pr, rr, m + 1, j, k, some_, basis, g1, g2, g3, g4, g5, g6 => by
    simp only [List.length_cons] at g3 g6
    obtain ⟨hx, hjl, hd⟩ := drop_head (d := ([] : List UInt8)) g1
    obtain ⟨r, rr', rfl⟩ : ∃ r rr', rr = r :: rr' := by
      cases rr with
      | nil => have := congrArg List.length g2; simp at this; omega
      | cons r rr' => exact ⟨r, rr', rfl⟩
    obtain ⟨hy, hjr, hdr⟩ := drop_head (d := ([] : List UInt8)) g2
    simp only [pWhole_l1F, pWhole_l1]
    rw [bif_true (tt (by omega)), bif_true (tt2 (by omega) (by omega)), Int.toNat_natCast, hx, hy]
    cases hp : p.isEmpty with
    | true =>
      have hp0 : p = [] := by simpa using hp
      subst hp0
      rw [bif_false (ff (by simp)), addI_eq (by omega) (by omega), show ((j : Int) + 1) = ((j + 1 : Nat) : Int) by omega]
      rw [basis_run F fail K ps hps parts s51 data rows hrows n hn hn2 ex0 ex1 h0 h1 pr rr' m (j + 1) k some_ basis hd hdr (by omega) g4 g5 (by omega)]
      cases k with
      | zero => simp [basisB]
      | succ k => rfl
    | false =>
      have hpl : 0 < p.length := by cases p with | nil => cases hp | cons _ _ => simp
      rw [bif_true (tt (by omega))]
      cases k with
      | zero =>
        rw [bif_true (beq_t (by omega)), h0]
        simp [basisB]
      | succ k =>
        rw [bif_false (beq_f (by omega)), bif_true (tt2 (by omega) (by omega)), bif_true (le_big (by simp; omega)), bif_true (le_big (by simp; omega)), addI_eq (by omega) (by omega), show ((j : Int) + 1) = ((j + 1 : Nat) : Int) by omega]
        rw [basis_run F fail K ps hps parts s51 data rows hrows n hn hn2 ex0 ex1 h0 h1 pr rr' m (j + 1) k (some_ ++ [r]) (basis ++ [p]) hd hdr (by omega) (by simp; omega) (by simp [g5]) (by omega)]
        simp [basisB, hp]
theorem basis_zero (pr rr : Mat) : basisB 0 pr rr = ([], []) := by cases pr <;> cases rr <;> rfl
theorem basis_len : ∀ (k : Nat) (pr rr : Mat), (basisB k pr rr).1.length = (basisB k pr rr).2.length
  | 0, _, _ => by rw [basis_zero]
  | k + 1, [], _ => rfl
  | k + 1, _ :: _, [] => rfl
  | k + 1, p :: pr, r :: rr => by
    rw [basisB]
    cases p.isEmpty with
    | true => exact basis_len (k + 1) pr rr
    | false => simp [basis_len k pr rr]
theorem basis_mem : ∀ (k : Nat) (pr rr : Mat) (p : List UInt8), p ∈ (basisB k pr rr).2 → p ∈ pr ∧ p.isEmpty = false
  | 0, _, _, p, h => by rw [basis_zero] at h; cases h
  | k + 1, [], _, p, h => by cases h
  | k + 1, _ :: _, [], p, h => by cases h
  | k + 1, q :: pr, r :: rr, p, h => by
    rw [basisB] at h
    cases hq : q.isEmpty with
    | true =>
      rw [hq] at h
      have := basis_mem (k + 1) pr rr p h
      exact ⟨List.mem_cons_of_mem _ this.1, this.2⟩
    | false =>
      rw [hq] at h
      rcases List.mem_cons.1 h with rfl | h
      · exact ⟨List.mem_cons_self, hq⟩
      · have := basis_mem k pr rr p h
        exact ⟨List.mem_cons_of_mem _ this.1, this.2⟩
theorem inv_shape : (invTab.all fun e => e.2.length == e.1.length && e.2.all fun r => r.length == e.1.length) = true := by decide +kernel
theorem inv_rows {m : Mat} (h : gInvert_P m = true) : (gInvert_r0 m).length = m.length ∧ ∀ r ∈ gInvert_r0 m, r.length = m.length := by
  refine tab_ind (tab := invTab) (C := fun m r => r.length = m.length ∧ ∀ x ∈ r, x.length = m.length) (fun e he => ?_) [] h
  have := List.all_eq_true.1 inv_shape e he
  rw [Bool.and_eq_true, beq_iff_eq, List.all_eq_true] at this
  exact ⟨this.1, fun r hr => by simpa using this.2 r hr⟩
theorem pWhole_plain (parts : List (List UInt8)) (data : Int) (h : pWhole_P parts data = true) : ∃ F, ∀ {X : Type} (fail : X) (ret : List (List UInt8) → Int → X), pWhole F parts data fail ret = ret (pWhole_r0 parts data) (pWhole_r1 parts data) := by
  unfold pWhole_P at h
  rw [Bool.and_eq_true, Bool.and_eq_true, Bool.and_eq_true, beq_iff_eq] at h
  obtain ⟨⟨⟨hchk, hc⟩, hbl⟩, hinv⟩ := h
  have hchk' := hchk
  unfold pCheck_P at hchk'
  rw [Bool.and_eq_true, decide_eq_true_eq, List.all_eq_true] at hchk'
  obtain ⟨⟨c1, c2, c3, c4, c5⟩, c6⟩ := hchk'
  have hcc := cauchyIn_cases hc
  obtain ⟨m1, m2, m3⟩ := matrix_rows hc
  have hsub : ((parts.length : Int) - data).toNat = parts.length - data.toNat := by omega
  rw [hsub] at m1 m2 m3
  refine ⟨70000, fun fail ret => ?_⟩
  unfold pWhole
  have hm : pMatrix_r data (subI ((parts.length : Nat) : Int) data) = matrixB data.toNat (parts.length - data.toNat) := by
    unfold pMatrix_r; rw [subI_eq (by omega) (by omega), hsub]
  rw [bif_true hchk, bif_false (show (pCheck_r parts data != (0 : Int)) = false from rfl), bif_true (show pMatrix_P data (subI ((parts.length : Nat) : Int) data) = true by rw [subI_eq (by omega) (by omega)]; exact hc), hm]
  generalize hM : matrixB data.toNat (parts.length - data.toNat) = M at *
  refine (basis_run 70000 fail (fun some_ basis => _) parts c2 parts 0 data M (by omega) data.toNat (by omega) (by omega) _ _ (fun _ _ _ => rfl) (fun _ _ _ => rfl) parts M 70000 0 data.toNat [] [] rfl rfl (by simp) (by simp) rfl (by omega)).trans ?_
  simp only [List.nil_append]
  have hb1 := basis_len data.toNat parts M
  have hbm := basis_mem data.toNat parts M
  obtain ⟨i1, i2⟩ := inv_rows hinv
  generalize hB : basisB data.toNat parts M = B at *
  have hBr : ∀ p ∈ B.2, p.length = firstLen parts := fun p hp => by
    obtain ⟨g1, g2⟩ := hbm p hp
    have := c6 p g1
    rw [g2, Bool.false_or] at this
    simpa using this
  have hB0 : headLen B.2 = firstLen parts := hBr _ (getD_mem (by omega))
  rw [bif_false (ff (by omega)), bif_true hinv, bif_false (show (gInvert_r1 B.1 != (0 : Int)) = false from rfl)]
  refine (whl2_run 70000 fail _ M [] B.2 (by omega) (by omega) (by omega) (fun p hp => by rw [hBr p hp, hB0]) (by omega) (by omega) (gInvert_r0 B.1) (fun r hr => by rw [i2 r hr, hb1]) (by omega) (gInvert_r0 B.1) 70000 0 [] rfl (by simp) rfl (by omega)).trans ?_
  simp only [List.nil_append]
  have hO : ∀ p ∈ (gInvert_r0 B.1).map (combZ B.2), p.length = headLen B.2 := fun p hp => by
    obtain ⟨r, _, rfl⟩ := List.mem_map.1 hp
    rw [combZ, comb_len, List.length_replicate]
  have hOl : ((gInvert_r0 B.1).map (combZ B.2)).length = data.toNat := by rw [List.length_map, i1]; omega
  have hO0 : headLen ((gInvert_r0 B.1).map (combZ B.2)) = headLen B.2 := hO _ (getD_mem (by omega))
  have hMr : ∀ r ∈ M, r.length = data.toNat := fun r hr => by
    rw [← hM] at hr
    unfold matrixB at hr
    rcases List.mem_append.1 hr with hr | hr
    · obtain ⟨i, _, rfl⟩ := List.mem_map.1 hr
      simp [unitB]
    · exact m3 r hr
  refine (whl5_run 70000 fail _ ((gInvert_r0 B.1).map (combZ B.2)) (by omega) (by omega) (by omega) (fun p hp => by rw [hO p hp, hO0]) (by omega) (by omega) M (fun r hr => by rw [hMr r hr, hOl]) (by omega) M 70000 0 [] rfl (by simp) rfl (by omega)).trans ?_
  unfold pWhole_r0 wholeB
  rw [hM, hB]; rfl
theorem rep_run {X : Type} (F : Nat) (fail : X) (ex0 : Mat → Int → Int → Mat → Int → Mat → X) (ps : Mat) (hps : ps.length ≤ 64) (hl : ∀ p ∈ ps, p.length ≤ 65536) (parts : Mat) (s51 : Int) :
    ∀ (pr : Mat) (m j : Nat) (pre rest : Mat), ps.drop j = pr → j + pr.length = ps.length → pre.length = j → pr.length ≤ rest.length → pr.length < m →
      pRepair_l1F F fail ex0 m ps ((ps.length : Nat) : Int) (j : Int) parts s51 (pre ++ rest) = ex0 ps ((ps.length : Nat) : Int) ((ps.length : Nat) : Int) parts s51 (pre ++ over pr rest)
  | [], m + 1, j, pre, rest, h1, h2, h3, h4, h5 => by
    have hj : j = ps.length := by simpa using h2
    subst hj
    simp only [pRepair_l1F, pRepair_l1]
    rw [bif_false (ff (by omega))]
    cases rest <;> rfl
  | p :: pr, m + 1, j, pre, [], h1, h2, h3, h4, h5 => by simp at h4
  | p :: pr, m + 1, j, pre, o :: rest, h1, h2, h3, h4, h5 => by
    simp only [List.length_cons] at h2 h4 h5
    obtain ⟨hx, hjl, hd⟩ := drop_head (d := ([] : List UInt8)) h1
    have hpl := hl p (by rw [← hx]; exact getD_mem hjl)
    have hset : ∀ v, (pre ++ o :: rest).set j v = (pre ++ [v]) ++ rest := fun v => by
      rw [← h3]; simp
    simp only [pRepair_l1F, pRepair_l1]
    rw [bif_true (tt (by omega)), bif_true (tt2 (by omega) (by omega)), Int.toNat_natCast, hx, addI_eq (by omega) (by omega), show ((j : Int) + 1) = ((j + 1 : Nat) : Int) by omega]
    cases hp : p.isEmpty with
    | true =>
      have hp0 : p = [] := by simpa using hp
      subst hp0
      rw [bif_false (ff (by simp)), show pre ++ o :: rest = (pre ++ [o]) ++ rest by simp]
      rw [rep_run F fail ex0 ps hps hl parts s51 pr m (j + 1) (pre ++ [o]) rest hd (by omega) (by simp [h3]) (by omega) (by omega)]
      simp [over]
    | false =>
      have hpl0 : 0 < p.length := by cases p with | nil => cases hp | cons _ _ => simp
      rw [bif_true (tt (by omega)), bif_true (show sClone_P p = true from le_big (by omega)), bif_true (tt2 (by omega) (by simp; omega)), hset]
      rw [rep_run F fail ex0 ps hps hl parts s51 pr m (j + 1) (pre ++ [sClone_r p]) rest hd (by omega) (by simp [h3]) (by omega) (by omega)]
      simp [over, hp, sClone_r]
theorem pRepair_plain (parts : List (List UInt8)) (data : Int) (h : pRepair_P parts data = true) : ∃ F, ∀ {X : Type} (fail : X) (ret : List (List UInt8) → Int → X), pRepair F parts data fail ret = ret (pRepair_r0 parts data) (pRepair_r1 parts data) := by
  have h' : pWhole_P parts data = true := h
  unfold pWhole_P at h'
  rw [Bool.and_eq_true, Bool.and_eq_true, Bool.and_eq_true] at h'
  obtain ⟨⟨⟨hchk, hc⟩, _⟩, _⟩ := h'
  unfold pCheck_P at hchk
  rw [Bool.and_eq_true, decide_eq_true_eq, List.all_eq_true] at hchk
  obtain ⟨⟨c1, c2, c3, c4, c5⟩, c6⟩ := hchk
  have hl : ∀ p ∈ parts, p.length ≤ 65536 := fun p hp => by
    have := c6 p hp
    simp only [Bool.or_eq_true, beq_iff_eq, List.isEmpty_iff] at this
    rcases this with e | e
    · rw [e]; simp
    · omega
  obtain ⟨m1, _, _⟩ := matrix_rows hc
  have hsub : ((parts.length : Int) - data).toNat = parts.length - data.toNat := by omega
  rw [hsub] at m1
  have hw : (pWhole_r0 parts data).length = parts.length := by
    unfold pWhole_r0 wholeB
    simp only [List.length_map, m1]; omega
  refine ⟨100, fun fail ret => ?_⟩
  unfold pRepair
  rw [bif_true (show pWhole_P parts data = true from h), bif_false (show (pWhole_r1 parts data != (0 : Int)) = false from rfl)]
  exact rep_run 100 fail _ parts c2 hl parts 0 parts 100 0 [] (pWhole_r0 parts data) rfl (by simp) rfl (by omega) (by omega)
end Go.AI
