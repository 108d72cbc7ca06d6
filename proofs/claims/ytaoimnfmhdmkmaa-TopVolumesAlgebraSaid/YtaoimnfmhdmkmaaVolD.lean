/- The loops of the recovery of all parts. -/
import Derived.Test.YtaoimnfmhdmkmaaVolC
namespace Go.AI
open Go

theorem whl7_run {X : Type} (F : Nat) (fail : X) (ex0 : UInt8 → List UInt8 → Int → Int → List UInt8 → Int → Int → Mat → Int → Int → Mat → List UInt8 → Mat → X) (f : UInt8) (s14 : List UInt8) (s15 s16 : Int) (p : List UInt8) (s45 : Mat) (s46 s47 : Int) (s1 out1 : Mat) (hp : p.length ≤ 2147483648) :
    ∀ (pr : List UInt8) (m : Nat) (j : Nat) (pre rest : List UInt8), pre.length = j → p.drop j = pr → j + pr.length = p.length → pr.length ≤ rest.length → pr.length < m →
      pWhole_l7F F fail ex0 m f s14 s15 s16 p ((p.length : Nat) : Int) (j : Int) s45 s46 s47 s1 (pre ++ rest) out1 = ex0 f s14 s15 s16 p ((p.length : Nat) : Int) ((p.length : Nat) : Int) s45 s46 s47 s1 (pre ++ addTo f rest pr) out1
  | [], m + 1, j, pre, rest, h1, h2, h3, h4, h5 => by
    have hj : j = p.length := by simpa using h3
    subst hj
    simp only [pWhole_l7F, pWhole_l7]
    rw [bif_false (ff (by omega))]
    cases rest <;> rfl
  | x :: pr, m + 1, j, pre, [], h1, h2, h3, h4, h5 => by simp at h4
  | x :: pr, m + 1, j, pre, o :: rest, h1, h2, h3, h4, h5 => by
    simp only [List.length_cons] at h3 h4 h5
    obtain ⟨hx, hjl, hd⟩ := drop_head (d := (0 : UInt8)) h2
    have ho : (pre ++ o :: rest).getD j 0 = o := by
      rw [← h1]; simp [List.getD]
    have hset : ∀ v, (pre ++ o :: rest).set j v = (pre ++ [v]) ++ rest := fun v => by
      rw [← h1]; simp
    simp only [pWhole_l7F, pWhole_l7]
    rw [bif_true (tt (by omega)), bif_true (tt2 (by omega) (by omega)), Int.toNat_natCast, bif_true (tt2 (by omega) (by simp; omega)), hx, bif_true (show gMul_P f x = true from rfl), bif_true (tt2 (by omega) (by simp; omega)), ho, hset]
    rw [addI_eq (by omega) (by omega)]
    have := whl7_run F fail ex0 f s14 s15 s16 p s45 s46 s47 s1 out1 hp pr m (j + 1) (pre ++ [xorB o (gMul_r f x)]) rest (by simp [h1]) hd (by omega) (by omega) (by omega)
    rw [show ((j : Int) + 1) = ((j + 1 : Nat) : Int) by omega, this]
    rw [List.append_assoc]; rfl
theorem whl6_run {X : Type} (F : Nat) (fail : X) (ex0 : List UInt8 → Int → Int → Mat → Int → Int → Mat → List UInt8 → Mat → X) (b : Mat) (w : Nat) (hw : w ≤ 2147483648) (hb : ∀ p ∈ b, p.length = w) (hF : w < F) (s45 : Mat) (s46 s47 : Int) (row : List UInt8) (hr : row.length = b.length) (hl : b.length ≤ 64) (out1 : Mat) :
    ∀ (rr : List UInt8) (br : Mat) (m j : Nat) (sums : List UInt8), row.drop j = rr → b.drop j = br → j + rr.length = row.length → sums.length = w → rr.length < m →
      pWhole_l6F F fail ex0 m row ((row.length : Nat) : Int) (j : Int) s45 s46 s47 b sums out1 = ex0 row ((row.length : Nat) : Int) ((row.length : Nat) : Int) s45 s46 s47 b (comb rr br sums) out1
  | [], br, m + 1, j, sums, h1, h2, h3, h4, h5 => by
    have hj : j = row.length := by simpa using h3
    subst hj
    simp only [pWhole_l6F, pWhole_l6]
    rw [bif_false (ff (by omega))]
    rfl
  | f :: rr, br, m + 1, j, sums, h1, h2, h3, h4, h5 => by
    simp only [List.length_cons] at h3 h5
    obtain ⟨hf, hjl, hd⟩ := drop_head (d := (0 : UInt8)) h1
    obtain ⟨p, br', rfl⟩ : ∃ p br', br = p :: br' := by
      cases br with
      | nil => have := congrArg List.length h2; simp at this; omega
      | cons p br' => exact ⟨p, br', rfl⟩
    obtain ⟨hp, hjb, hdb⟩ := drop_head (d := ([] : List UInt8)) h2
    have hpl : p.length = w := hb p (by rw [← hp]; exact getD_mem hjb)
    simp only [pWhole_l6F, pWhole_l6]
    rw [bif_true (tt (by omega)), bif_true (tt2 (by omega) (by omega)), bif_true (tt2 (by omega) (by omega)), Int.toNat_natCast, hf, hp]
    refine (whl7_run F fail _ f row ((row.length : Nat) : Int) (j : Int) p s45 s46 s47 b out1 (by omega) p F 0 [] sums rfl rfl (by simp) (by omega) (by omega)).trans ?_
    simp only [List.nil_append]
    rw [addI_eq (by omega) (by omega), show ((j : Int) + 1) = ((j + 1 : Nat) : Int) by omega]
    exact whl6_run F fail ex0 b w hw hb hF s45 s46 s47 row hr hl out1 rr br' m (j + 1) (addTo f sums p) hd hdb (by omega) (by rw [addTo_len]; exact h4) (by omega)
theorem whl5_run {X : Type} (F : Nat) (fail : X) (ex0 : Mat → Int → Int → Mat → Mat → X) (b : Mat) (hb1 : 1 ≤ b.length) (hbl : b.length ≤ 64) (hw : headLen b ≤ 65536) (hb : ∀ p ∈ b, p.length = headLen b) (hF : headLen b < F) (hF2 : 64 < F) (a : Mat) (ha : ∀ r ∈ a, r.length = b.length) (hal : a.length ≤ 64) :
    ∀ (ar : Mat) (m j : Nat) (out : Mat), a.drop j = ar → j + ar.length = a.length → out.length = j → ar.length < m →
      pWhole_l5F F fail ex0 m a ((a.length : Nat) : Int) (j : Int) out b = ex0 a ((a.length : Nat) : Int) ((a.length : Nat) : Int) (out ++ ar.map (combZ b)) b
  | [], m + 1, j, out, h1, h2, h3, h4 => by
    have hj : j = a.length := by simpa using h2
    rw [hj]
    simp only [pWhole_l5F, pWhole_l5]
    rw [bif_false (ff (by omega)), List.map_nil, List.append_nil]
  | r :: ar, m + 1, j, out, h1, h2, h3, h4 => by
    simp only [List.length_cons] at h2 h4
    obtain ⟨hr, hjl, hd⟩ := drop_head (d := ([] : List UInt8)) h1
    have hrl : r.length = b.length := ha r (by rw [← hr]; exact getD_mem hjl)
    have hhead : (b.getD 0 []).length = headLen b := rfl
    simp only [pWhole_l5F, pWhole_l5]
    rw [bif_true (tt (by omega)), bif_true (tt2 (by omega) (by omega)), bif_true (tt (by omega)), Int.toNat_natCast, hr, hhead]
    rw [bif_true (by rw [Bool.and_true]; exact tt2 (by omega) (by simp only [big]; omega))]
    refine (whl6_run F fail _ b (headLen b) (by omega) hb hF a ((a.length : Nat) : Int) (j : Int) r hrl hbl out r b F 0 (List.replicate (headLen b) 0) rfl rfl (by simp) (by simp) (by omega)).trans ?_
    rw [bif_true (le_big (by simp; omega)), addI_eq (by omega) (by omega), show ((j : Int) + 1) = ((j + 1 : Nat) : Int) by omega]
    rw [whl5_run F fail ex0 b hb1 hbl hw hb hF hF2 a ha hal ar m (j + 1) (out ++ [comb r b (List.replicate (headLen b) 0)]) hd (by omega) (by simp [h3]) (by omega)]
    rw [List.append_assoc]; rfl
theorem whl4_run {X : Type} (F : Nat) (fail : X) (ex0 : UInt8 → List UInt8 → Int → Int → List UInt8 → Int → Int → Mat → Int → Int → Mat → List UInt8 → Mat → Mat → Mat → X) (f : UInt8) (s14 : List UInt8) (s15 s16 : Int) (p : List UInt8) (s45 : Mat) (s46 s47 : Int) (s1 w1 w2 out1 : Mat) (hp : p.length ≤ 2147483648) :
    ∀ (pr : List UInt8) (m : Nat) (j : Nat) (pre rest : List UInt8), pre.length = j → p.drop j = pr → j + pr.length = p.length → pr.length ≤ rest.length → pr.length < m →
      pWhole_l4F F fail ex0 m f s14 s15 s16 p ((p.length : Nat) : Int) (j : Int) s45 s46 s47 s1 (pre ++ rest) w1 w2 out1 = ex0 f s14 s15 s16 p ((p.length : Nat) : Int) ((p.length : Nat) : Int) s45 s46 s47 s1 (pre ++ addTo f rest pr) w1 w2 out1
  | [], m + 1, j, pre, rest, h1, h2, h3, h4, h5 => by
    have hj : j = p.length := by simpa using h3
    subst hj
    simp only [pWhole_l4F, pWhole_l4]
    rw [bif_false (ff (by omega))]
    cases rest <;> rfl
  | x :: pr, m + 1, j, pre, [], h1, h2, h3, h4, h5 => by simp at h4
  | x :: pr, m + 1, j, pre, o :: rest, h1, h2, h3, h4, h5 => by
    simp only [List.length_cons] at h3 h4 h5
    obtain ⟨hx, hjl, hd⟩ := drop_head (d := (0 : UInt8)) h2
    have ho : (pre ++ o :: rest).getD j 0 = o := by
      rw [← h1]; simp [List.getD]
    have hset : ∀ v, (pre ++ o :: rest).set j v = (pre ++ [v]) ++ rest := fun v => by
      rw [← h1]; simp
    simp only [pWhole_l4F, pWhole_l4]
    rw [bif_true (tt (by omega)), bif_true (tt2 (by omega) (by omega)), Int.toNat_natCast, bif_true (tt2 (by omega) (by simp; omega)), hx, bif_true (show gMul_P f x = true from rfl), bif_true (tt2 (by omega) (by simp; omega)), ho, hset]
    rw [addI_eq (by omega) (by omega)]
    have := whl4_run F fail ex0 f s14 s15 s16 p s45 s46 s47 s1 w1 w2 out1 hp pr m (j + 1) (pre ++ [xorB o (gMul_r f x)]) rest (by simp [h1]) hd (by omega) (by omega) (by omega)
    rw [show ((j : Int) + 1) = ((j + 1 : Nat) : Int) by omega, this]
    rw [List.append_assoc]; rfl
theorem whl3_run {X : Type} (F : Nat) (fail : X) (ex0 : List UInt8 → Int → Int → Mat → Int → Int → Mat → List UInt8 → Mat → Mat → Mat → X) (b : Mat) (w : Nat) (hw : w ≤ 2147483648) (hb : ∀ p ∈ b, p.length = w) (hF : w < F) (s45 : Mat) (s46 s47 : Int) (row : List UInt8) (hr : row.length = b.length) (hl : b.length ≤ 64) (w1 w2 out1 : Mat) :
    ∀ (rr : List UInt8) (br : Mat) (m j : Nat) (sums : List UInt8), row.drop j = rr → b.drop j = br → j + rr.length = row.length → sums.length = w → rr.length < m →
      pWhole_l3F F fail ex0 m row ((row.length : Nat) : Int) (j : Int) s45 s46 s47 b sums w1 w2 out1 = ex0 row ((row.length : Nat) : Int) ((row.length : Nat) : Int) s45 s46 s47 b (comb rr br sums) w1 w2 out1
  | [], br, m + 1, j, sums, h1, h2, h3, h4, h5 => by
    have hj : j = row.length := by simpa using h3
    subst hj
    simp only [pWhole_l3F, pWhole_l3]
    rw [bif_false (ff (by omega))]
    rfl
  | f :: rr, br, m + 1, j, sums, h1, h2, h3, h4, h5 => by
    simp only [List.length_cons] at h3 h5
    obtain ⟨hf, hjl, hd⟩ := drop_head (d := (0 : UInt8)) h1
    obtain ⟨p, br', rfl⟩ : ∃ p br', br = p :: br' := by
      cases br with
      | nil => have := congrArg List.length h2; simp at this; omega
      | cons p br' => exact ⟨p, br', rfl⟩
    obtain ⟨hp, hjb, hdb⟩ := drop_head (d := ([] : List UInt8)) h2
    have hpl : p.length = w := hb p (by rw [← hp]; exact getD_mem hjb)
    simp only [pWhole_l3F, pWhole_l3]
    rw [bif_true (tt (by omega)), bif_true (tt2 (by omega) (by omega)), bif_true (tt2 (by omega) (by omega)), Int.toNat_natCast, hf, hp]
    refine (whl4_run F fail _ f row ((row.length : Nat) : Int) (j : Int) p s45 s46 s47 b w1 w2 out1 (by omega) p F 0 [] sums rfl rfl (by simp) (by omega) (by omega)).trans ?_
    simp only [List.nil_append]
    rw [addI_eq (by omega) (by omega), show ((j : Int) + 1) = ((j + 1 : Nat) : Int) by omega]
    exact whl3_run F fail ex0 b w hw hb hF s45 s46 s47 row hr hl w1 w2 out1 rr br' m (j + 1) (addTo f sums p) hd hdb (by omega) (by rw [addTo_len]; exact h4) (by omega)
theorem whl2_run {X : Type} (F : Nat) (fail : X) (ex0 : Mat → Int → Int → Mat → Mat → Mat → Mat → X) (w1 w2 : Mat) (b : Mat) (hb1 : 1 ≤ b.length) (hbl : b.length ≤ 64) (hw : headLen b ≤ 65536) (hb : ∀ p ∈ b, p.length = headLen b) (hF : headLen b < F) (hF2 : 64 < F) (a : Mat) (ha : ∀ r ∈ a, r.length = b.length) (hal : a.length ≤ 64) :
    ∀ (ar : Mat) (m j : Nat) (out : Mat), a.drop j = ar → j + ar.length = a.length → out.length = j → ar.length < m →
      pWhole_l2F F fail ex0 m a ((a.length : Nat) : Int) (j : Int) w1 out w2 b = ex0 a ((a.length : Nat) : Int) ((a.length : Nat) : Int) w1 (out ++ ar.map (combZ b)) w2 b
  | [], m + 1, j, out, h1, h2, h3, h4 => by
    have hj : j = a.length := by simpa using h2
    rw [hj]
    simp only [pWhole_l2F, pWhole_l2]
    rw [bif_false (ff (by omega)), List.map_nil, List.append_nil]
  | r :: ar, m + 1, j, out, h1, h2, h3, h4 => by
    simp only [List.length_cons] at h2 h4
    obtain ⟨hr, hjl, hd⟩ := drop_head (d := ([] : List UInt8)) h1
    have hrl : r.length = b.length := ha r (by rw [← hr]; exact getD_mem hjl)
    have hhead : (b.getD 0 []).length = headLen b := rfl
    simp only [pWhole_l2F, pWhole_l2]
    rw [bif_true (tt (by omega)), bif_true (tt2 (by omega) (by omega)), bif_true (tt (by omega)), Int.toNat_natCast, hr, hhead]
    rw [bif_true (by rw [Bool.and_true]; exact tt2 (by omega) (by simp only [big]; omega))]
    refine (whl3_run F fail _ b (headLen b) (by omega) hb hF a ((a.length : Nat) : Int) (j : Int) r hrl hbl w1 out w2 r b F 0 (List.replicate (headLen b) 0) rfl rfl (by simp) (by simp) (by omega)).trans ?_
    rw [bif_true (le_big (by simp; omega)), addI_eq (by omega) (by omega), show ((j : Int) + 1) = ((j + 1 : Nat) : Int) by omega]
    rw [whl2_run F fail ex0 w1 w2 b hb1 hbl hw hb hF hF2 a ha hal ar m (j + 1) (out ++ [comb r b (List.replicate (headLen b) 0)]) hd (by omega) (by simp [h3]) (by omega)]
    rw [List.append_assoc]; rfl
end Go.AI
