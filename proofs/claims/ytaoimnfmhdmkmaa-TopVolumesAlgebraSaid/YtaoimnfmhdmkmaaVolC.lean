/- What recovery parts are, and which lists of parts are refused. -/
import Derived.Test.YtaoimnfmhdmkmaaVolB
namespace Go.AI
open Go

theorem evenP_rows {ps : Mat} (h : evenP ps = true) : 1 ≤ headLen ps ∧ headLen ps ≤ 65536 ∧ ∀ p ∈ ps, p.length = headLen ps := by
  unfold evenP at h
  rw [Bool.and_eq_true, decide_eq_true_eq, List.all_eq_true] at h
  exact ⟨h.1.1, h.1.2, fun p hp => by simpa using h.2 p hp⟩
theorem cauchyIn_cases {r c : Int} (h : cauchyIn r c = true) : (r = 2 ∧ 1 ≤ c ∧ c ≤ 6) ∨ (r = 1 ∧ c = 3) := by
  unfold cauchyIn at h
  simp only [Bool.or_eq_true, Bool.and_eq_true, beq_iff_eq, decide_eq_true_eq] at h
  omega
theorem drop_head {α : Type} {l : List α} {j : Nat} {x d : α} {r : List α} (h : l.drop j = x :: r) : l.getD j d = x ∧ j < l.length ∧ l.drop (j + 1) = r := by
  have h1 : (l.drop j)[0]? = some x := by rw [h]; rfl
  rw [List.getElem?_drop, Nat.add_zero] at h1
  refine ⟨by simp [List.getD, h1], (List.getElem?_eq_some_iff.1 h1).1, ?_⟩
  rw [← List.drop_drop, h]; rfl

theorem rec5_run {X : Type} (F : Nat) (fail : X) (ex0 : UInt8 → List UInt8 → Int → Int → List UInt8 → Int → Int → Mat → Int → Int → Mat → List UInt8 → Mat → X) (f : UInt8) (s14 : List UInt8) (s15 s16 : Int) (p : List UInt8) (s45 : Mat) (s46 s47 : Int) (s1 out1 : Mat) (hp : p.length ≤ 2147483648) :
    ∀ (pr : List UInt8) (m : Nat) (j : Nat) (pre rest : List UInt8), pre.length = j → p.drop j = pr → j + pr.length = p.length → pr.length ≤ rest.length → pr.length < m →
      pRecovery_l5F F fail ex0 m f s14 s15 s16 p ((p.length : Nat) : Int) (j : Int) s45 s46 s47 s1 (pre ++ rest) out1 = ex0 f s14 s15 s16 p ((p.length : Nat) : Int) ((p.length : Nat) : Int) s45 s46 s47 s1 (pre ++ addTo f rest pr) out1
  | [], m + 1, j, pre, rest, h1, h2, h3, h4, h5 => by
    have hj : j = p.length := by simpa using h3
    subst hj
    simp only [pRecovery_l5F, pRecovery_l5]
    rw [bif_false (ff (by omega))]
    cases rest <;> rfl
  | x :: pr, m + 1, j, pre, [], h1, h2, h3, h4, h5 => by simp at h4
  | x :: pr, m + 1, j, pre, o :: rest, h1, h2, h3, h4, h5 => by
    simp only [List.length_cons] at h3 h4 h5
    obtain ⟨hx, hjl, hd⟩ := drop_head (d := (0 : UInt8)) h2
    have ho : (pre ++ o :: rest).getD j 0 = o := by
      rw [← h1]; simp [List.getD]
    have hset : ∀ v, (pre ++ o :: rest).set j v = (pre ++ [v]) ++ rest := fun v => by
      rw [← h1]; simp
    simp only [pRecovery_l5F, pRecovery_l5]
    rw [bif_true (tt (by omega)), bif_true (tt2 (by omega) (by omega)), Int.toNat_natCast, bif_true (tt2 (by omega) (by simp; omega)), hx, bif_true (show gMul_P f x = true from rfl), bif_true (tt2 (by omega) (by simp; omega)), ho, hset]
    rw [addI_eq (by omega) (by omega)]
    have := rec5_run F fail ex0 f s14 s15 s16 p s45 s46 s47 s1 out1 hp pr m (j + 1) (pre ++ [xorB o (gMul_r f x)]) rest (by simp [h1]) hd (by omega) (by omega) (by omega)
    rw [show ((j : Int) + 1) = ((j + 1 : Nat) : Int) by omega, this]
    rw [List.append_assoc]; rfl
theorem rec4_run {X : Type} (F : Nat) (fail : X) (ex0 : List UInt8 → Int → Int → Mat → Int → Int → Mat → List UInt8 → Mat → X) (b : Mat) (w : Nat) (hw : w ≤ 2147483648) (hb : ∀ p ∈ b, p.length = w) (hF : w < F) (s45 : Mat) (s46 s47 : Int) (row : List UInt8) (hr : row.length = b.length) (hl : b.length ≤ 64) (out1 : Mat) :
    ∀ (rr : List UInt8) (br : Mat) (m j : Nat) (sums : List UInt8), row.drop j = rr → b.drop j = br → j + rr.length = row.length → sums.length = w → rr.length < m →
      pRecovery_l4F F fail ex0 m row ((row.length : Nat) : Int) (j : Int) s45 s46 s47 b sums out1 = ex0 row ((row.length : Nat) : Int) ((row.length : Nat) : Int) s45 s46 s47 b (comb rr br sums) out1
  | [], br, m + 1, j, sums, h1, h2, h3, h4, h5 => by
    have hj : j = row.length := by simpa using h3
    subst hj
    simp only [pRecovery_l4F, pRecovery_l4]
    rw [bif_false (ff (by omega))]
    rfl
  | f :: rr, br, m + 1, j, sums, h1, h2, h3, h4, h5 => by
    simp only [List.length_cons] at h3 h5
    obtain ⟨hf, hjl, hd⟩ := drop_head (d := (0 : UInt8)) h1
    obtain ⟨p, br', rfl⟩ : ∃ p br', br = p :: br' := by
      cases br with
      | nil => have := congrArg List.length h2; simp at this; omega
      | cons p br' => exact ⟨p, br', rfl⟩
    obtain ⟨hp, hjb, hdb⟩ := drop_head (d := ([] : List UInt8)) h2
    have hpl : p.length = w := hb p (by rw [← hp]; exact getD_mem hjb)
    simp only [pRecovery_l4F, pRecovery_l4]
    rw [bif_true (tt (by omega)), bif_true (tt2 (by omega) (by omega)), bif_true (tt2 (by omega) (by omega)), Int.toNat_natCast, hf, hp]
    refine (rec5_run F fail _ f row ((row.length : Nat) : Int) (j : Int) p s45 s46 s47 b out1 (by omega) p F 0 [] sums rfl rfl (by simp) (by omega) (by omega)).trans ?_
    simp only [List.nil_append]
    rw [addI_eq (by omega) (by omega), show ((j : Int) + 1) = ((j + 1 : Nat) : Int) by omega]
    exact rec4_run F fail ex0 b w hw hb hF s45 s46 s47 row hr hl out1 rr br' m (j + 1) (addTo f sums p) hd hdb (by omega) (by rw [addTo_len]; exact h4) (by omega)
theorem rec3_run {X : Type} (F : Nat) (fail : X) (ex0 : Mat → Int → Int → Mat → Mat → X) (b : Mat) (hb1 : 1 ≤ b.length) (hbl : b.length ≤ 64) (hw : headLen b ≤ 65536) (hb : ∀ p ∈ b, p.length = headLen b) (hF : headLen b < F) (hF2 : 64 < F) (a : Mat) (ha : ∀ r ∈ a, r.length = b.length) (hal : a.length ≤ 64) :
    ∀ (ar : Mat) (m j : Nat) (out : Mat), a.drop j = ar → j + ar.length = a.length → out.length = j → ar.length < m →
      pRecovery_l3F F fail ex0 m a ((a.length : Nat) : Int) (j : Int) b out = ex0 a ((a.length : Nat) : Int) ((a.length : Nat) : Int) b (out ++ ar.map (combZ b))
  | [], m + 1, j, out, h1, h2, h3, h4 => by
    have hj : j = a.length := by simpa using h2
    rw [hj]
    simp only [pRecovery_l3F, pRecovery_l3]
    rw [bif_false (ff (by omega)), List.map_nil, List.append_nil]
  | r :: ar, m + 1, j, out, h1, h2, h3, h4 => by
    simp only [List.length_cons] at h2 h4
    obtain ⟨hr, hjl, hd⟩ := drop_head (d := ([] : List UInt8)) h1
    have hrl : r.length = b.length := ha r (by rw [← hr]; exact getD_mem hjl)
    have hhead : (b.getD 0 []).length = headLen b := rfl
    simp only [pRecovery_l3F, pRecovery_l3]
    rw [bif_true (tt (by omega)), bif_true (tt2 (by omega) (by omega)), bif_true (tt (by omega)), Int.toNat_natCast, hr, hhead]
    rw [bif_true (by rw [Bool.and_true]; exact tt2 (by omega) (by simp only [big]; omega))]
    refine (rec4_run F fail _ b (headLen b) (by omega) hb hF a ((a.length : Nat) : Int) (j : Int) r hrl hbl out r b F 0 (List.replicate (headLen b) 0) rfl rfl (by simp) (by simp) (by omega)).trans ?_
    rw [bif_true (le_big (by simp; omega)), addI_eq (by omega) (by omega), show ((j : Int) + 1) = ((j + 1 : Nat) : Int) by omega]
    rw [rec3_run F fail ex0 b hb1 hbl hw hb hF hF2 a ha hal ar m (j + 1) (out ++ [comb r b (List.replicate (headLen b) 0)]) hd (by omega) (by simp [h3]) (by omega)]
    rw [List.append_assoc]; rfl
theorem rec1_run {X : Type} (F : Nat) (fail : X) (ex0 ex1 : Mat → Int → Int → Int → Int → Mat → X) (s : Mat) (hs : s.length ≤ 64) (hr : ∀ p ∈ s, p.length ≤ 65536) (s4 count : Int) (data : Mat) : ∀ (rr : Mat) (m j : Nat), s.drop j = rr → j + rr.length = s.length → rr.length < m →
    pRecovery_l1F F fail ex0 ex1 m s s4 ((s.length : Nat) : Int) (j : Int) count data = ex1 s s4 ((s.length : Nat) : Int) ((s.length : Nat) : Int) count data
  | [], m + 1, j, h1, h2, h3 => by
    have hj : j = s.length := by simpa using h2
    subst hj
    simp only [pRecovery_l1F, pRecovery_l1]
    rw [bif_false (ff (by omega))]
  | r :: rr, m + 1, j, h1, h2, h3 => by
    simp only [List.length_cons] at h2 h3
    obtain ⟨hx, hjl, hd⟩ := drop_head (d := ([] : List UInt8)) h1
    have := hr r (by rw [← hx]; exact getD_mem hjl)
    simp only [pRecovery_l1F, pRecovery_l1]
    rw [bif_true (tt (by omega)), bif_true (tt2 (by omega) (by omega)), Int.toNat_natCast, hx, bif_false (ff (by omega)), addI_eq (by omega) (by omega), show ((j : Int) + 1) = ((j + 1 : Nat) : Int) by omega]
    exact rec1_run F fail ex0 ex1 s hs hr s4 count data rr m (j + 1) hd (by omega) (by omega)
theorem rec2_run {X : Type} (F : Nat) (fail : X) (ex0 ex1 : Mat → Int → Int → Int → Int → Mat → X) (s : Mat) (hs : s.length ≤ 64) (hs1 : 1 ≤ s.length) (h0 : 1 ≤ headLen s) (hr : ∀ p ∈ s, p.length = headLen s) (s4 count : Int) : ∀ (rr : Mat) (m j : Nat), s.drop j = rr → j + rr.length = s.length → rr.length < m →
    pRecovery_l2F F fail ex0 ex1 m s s4 ((s.length : Nat) : Int) (j : Int) count s = ex1 s s4 ((s.length : Nat) : Int) ((s.length : Nat) : Int) count s
  | [], m + 1, j, h1, h2, h3 => by
    have hj : j = s.length := by simpa using h2
    subst hj
    simp only [pRecovery_l2F, pRecovery_l2]
    rw [bif_false (ff (by omega))]
  | r :: rr, m + 1, j, h1, h2, h3 => by
    simp only [List.length_cons] at h2 h3
    obtain ⟨hx, hjl, hd⟩ := drop_head (d := ([] : List UInt8)) h1
    have := hr r (by rw [← hx]; exact getD_mem hjl)
    have hhead : (s.getD 0 []).length = headLen s := rfl
    simp only [pRecovery_l2F, pRecovery_l2]
    rw [bif_true (tt (by omega)), bif_true (tt2 (by omega) (by omega)), Int.toNat_natCast, hx, bif_false (beq_f (by omega)), bif_true (tt (by omega)), hhead, bif_false (bne_f (by omega)), addI_eq (by omega) (by omega), show ((j : Int) + 1) = ((j + 1 : Nat) : Int) by omega]
    exact rec2_run F fail ex0 ex1 s hs hs1 h0 hr s4 count rr m (j + 1) hd (by omega) (by omega)
theorem matrix_rows {r n : Int} (h : cauchyIn r n = true) : (matrixB n.toNat r.toNat).length = n.toNat + r.toNat ∧ (matrixB n.toNat r.toNat).drop n.toNat = cauchyB r.toNat n.toNat ∧ ∀ x ∈ cauchyB r.toNat n.toNat, x.length = n.toNat := by
  refine ⟨by simp [matrixB, cauchyB], ?_, fun x hx => ?_⟩
  · unfold matrixB
    rw [List.drop_append_of_le_length (by simp)]
    have : ((List.range n.toNat).map (unitB n.toNat)).drop n.toNat = [] := List.drop_eq_nil_of_le (by simp)
    rw [this, List.nil_append]
  · unfold cauchyB at hx
    obtain ⟨i, _, rfl⟩ := List.mem_map.1 hx
    simp
theorem pRecovery_plain (data : List (List UInt8)) (count : Int) (h : pRecovery_P data count = true) : ∃ F, ∀ {X : Type} (fail : X) (ret : List (List UInt8) → Int → X), pRecovery F data count fail ret = ret (pRecovery_r0 data count) (pRecovery_r1 data count) := by
  unfold pRecovery_P at h
  rw [Bool.and_eq_true] at h
  obtain ⟨hc, he⟩ := h
  obtain ⟨e1, e2, e3⟩ := evenP_rows he
  have hcc := cauchyIn_cases hc
  obtain ⟨m1, m2, m3⟩ := matrix_rows hc
  rw [Int.toNat_natCast] at m1 m2 m3
  refine ⟨70000, fun fail ret => ?_⟩
  unfold pRecovery
  rw [bif_false (ff (by omega)), bif_false (ff (by omega)), bif_false (ff (by omega)), subI_eq (by omega) (by omega), bif_false (ff (by omega))]
  refine (rec1_run 70000 fail _ _ data (by omega) (fun p hp => by rw [e3 p hp]; exact e2) 0 count data data 70000 0 rfl (by simp) (by omega)).trans ?_
  refine (rec2_run 70000 fail _ _ data (by omega) (by omega) e1 e3 0 count data 70000 0 rfl (by simp) (by omega)).trans ?_
  rw [bif_true (show pMatrix_P ((data.length : Nat) : Int) count = true from hc)]
  have hm : pMatrix_r ((data.length : Nat) : Int) count = matrixB data.length count.toNat := by unfold pMatrix_r; rw [Int.toNat_natCast]
  rw [hm, bif_true (tt2 (by omega) (by rw [m1]; omega)), m2]
  have hcl : (cauchyB count.toNat data.length).length = count.toNat := by simp [cauchyB]
  exact rec3_run 70000 fail _ data (by omega) (by omega) e2 e3 (by omega) (by omega) (cauchyB count.toNat data.length) m3 (by omega) (cauchyB count.toNat data.length) 70000 0 [] rfl (by simp) rfl (by omega)
theorem chk1_run {X : Type} (F : Nat) (fail : X) (ex0 ex1 : Mat → Int → Int → Int → Mat → Int → X) (s : Mat) (hs : s.length ≤ 64) (hr : ∀ p ∈ s, p.length ≤ 65536) (s4 : Int) (parts : Mat) (s41 : Int) : ∀ (rr : Mat) (m j : Nat), s.drop j = rr → j + rr.length = s.length → rr.length < m →
    pCheck_l1F F fail ex0 ex1 m s s4 ((s.length : Nat) : Int) (j : Int) parts s41 = ex1 s s4 ((s.length : Nat) : Int) ((s.length : Nat) : Int) parts s41
  | [], m + 1, j, h1, h2, h3 => by
    have hj : j = s.length := by simpa using h2
    subst hj
    simp only [pCheck_l1F, pCheck_l1]
    rw [bif_false (ff (by omega))]
  | r :: rr, m + 1, j, h1, h2, h3 => by
    simp only [List.length_cons] at h2 h3
    obtain ⟨hx, hjl, hd⟩ := drop_head (d := ([] : List UInt8)) h1
    have := hr r (by rw [← hx]; exact getD_mem hjl)
    simp only [pCheck_l1F, pCheck_l1]
    rw [bif_true (tt (by omega)), bif_true (tt2 (by omega) (by omega)), Int.toNat_natCast, hx, bif_false (ff (by omega)), addI_eq (by omega) (by omega), show ((j : Int) + 1) = ((j + 1 : Nat) : Int) by omega]
    exact chk1_run F fail ex0 ex1 s hs hr s4 parts s41 rr m (j + 1) hd (by omega) (by omega)
theorem chk2_run {X : Type} (F : Nat) (fail y : X) (ex0 : Mat → Int → Int → Mat → Int → Int → X) (s : Mat) (hs : s.length ≤ 64) (L : Nat) (hr : ∀ p ∈ s, p.length = 0 ∨ p.length = L) (parts : Mat) (s4 : Int) : ∀ (rr : Mat) (m j : Nat) (len : Int), (len = 0 ∨ len = L) → s.drop j = rr → j + rr.length = s.length → rr.length < m →
    pCheck_l2F F fail ex0 (fun _ _ _ _ _ _ => y) m s ((s.length : Nat) : Int) (j : Int) parts s4 len = y
  | [], m + 1, j, len, h0, h1, h2, h3 => by
    have hj : j = s.length := by simpa using h2
    subst hj
    simp only [pCheck_l2F, pCheck_l2]
    rw [bif_false (ff (by omega))]
  | r :: rr, m + 1, j, len, h0, h1, h2, h3 => by
    simp only [List.length_cons] at h2 h3
    obtain ⟨hx, hjl, hd⟩ := drop_head (d := ([] : List UInt8)) h1
    have hrl := hr r (by rw [← hx]; exact getD_mem hjl)
    have ih := fun len h0 => chk2_run F fail y ex0 s hs L hr parts s4 rr m (j + 1) len h0 hd (by omega) (by omega)
    simp only [pCheck_l2F, pCheck_l2]
    rw [bif_true (tt (by omega)), bif_true (tt2 (by omega) (by omega)), Int.toNat_natCast, hx, addI_eq (by omega) (by omega), show ((j : Int) + 1) = ((j + 1 : Nat) : Int) by omega]
    by_cases hp : (((r.length : Nat) : Int) > 0)
    · rw [bif_true (tt hp)]
      have hL : (((r.length : Nat) : Int)) = L := by omega
      by_cases hl : len > 0
      · rw [bif_true (tt hl), bif_false (bne_f (by omega))]
        exact ih _ (.inr hL)
      · rw [bif_false (ff hl)]
        exact ih _ (.inr hL)
    · rw [bif_false (ff hp)]
      exact ih _ h0
theorem pCheck_plain (parts : List (List UInt8)) (data : Int) (h : pCheck_P parts data = true) : ∃ F, ∀ {X : Type} (fail : X) (ret : Int → X), pCheck F parts data fail ret = ret (pCheck_r parts data) := by
  unfold pCheck_P at h
  rw [Bool.and_eq_true, decide_eq_true_eq, List.all_eq_true] at h
  obtain ⟨⟨h1, h2, h3, h4, h5⟩, h6⟩ := h
  have hr : ∀ p ∈ parts, p.length = 0 ∨ p.length = firstLen parts := fun p hp => by
    have := h6 p hp
    simp only [Bool.or_eq_true, beq_iff_eq, List.isEmpty_iff] at this
    exact this.imp (fun e => by rw [e]; rfl) id
  refine ⟨100, fun fail ret => ?_⟩
  unfold pCheck
  rw [bif_false (ff (by omega)), bif_false (ff (by omega)), bif_false (ff (by omega)), bif_false (ff (by omega))]
  refine (chk1_run 100 fail _ _ parts h2 (fun p hp => by rcases hr p hp with e | e <;> omega) 0 parts 0 parts 100 0 rfl (by simp) (by omega)).trans ?_
  exact chk2_run 100 fail (ret 0) _ parts h2 (firstLen parts) hr parts 0 parts 100 0 0 (.inl rfl) rfl (by simp) (by omega)
end Go.AI
