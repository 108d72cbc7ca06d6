/- The law of the recovery parts, in plain terms. -/
import Derived.Test.YtaoimnfmhdmkmaaVolG2
import Derived.Test.YtaoimnfmhdmkmaaVolK
namespace Go.AI
open Go

/- A row that is cut, or filled up with zeros. -/
def cutR (z : Nat) (x : List UInt8) : List UInt8 := ((List.take 0 (List.replicate z (0 : UInt8))) ++ (List.take (min x.length (List.replicate z (0 : UInt8)).length) x)) ++ (List.drop (0 + (min x.length (List.replicate z (0 : UInt8)).length)) (List.replicate z (0 : UInt8)))
theorem cutR_len (z : Nat) (x : List UInt8) : (cutR z x).length = z := by
  unfold cutR
  simp only [List.length_append, List.length_take, List.length_drop, List.length_replicate]
  omega
theorem cut1_run {X : Type} (F : Nat) (fail : X) (ex0 : Mat → Int → Int → Mat → Mat → Int → Mat → List UInt8 → Int → X) (s : Mat) (hs : s.length ≤ 6) (a b : Mat) (at_ : List UInt8) (n : Int) (z : Nat) (hz : 1 ≤ z) (hz2 : z ≤ 20) : ∀ (rr : Mat) (m j : Nat) (out : Mat), s.drop j = rr → j + rr.length = s.length → out.length = j → rr.length < m →
    TopVolumesAlgebra_l1F F fail ex0 m s ((s.length : Nat) : Int) (j : Int) a b (z : Int) out at_ n = ex0 s ((s.length : Nat) : Int) ((s.length : Nat) : Int) a b (z : Int) (out ++ rr.map (cutR z)) at_ n
  | [], m + 1, j, out, h1, h2, h3, h4 => by
    have hj : j = s.length := by simpa using h2
    subst hj
    simp only [TopVolumesAlgebra_l1F, TopVolumesAlgebra_l1]
    rw [bif_false (ff (by omega)), List.map_nil, List.append_nil]
  | r :: rr, m + 1, j, out, h1, h2, h3, h4 => by
    simp only [List.length_cons] at h2 h4
    obtain ⟨hx, hjl, hd⟩ := drop_head (d := ([] : List UInt8)) h1
    simp only [TopVolumesAlgebra_l1F, TopVolumesAlgebra_l1]
    rw [bif_true (tt (by omega)), bif_true (tt2 (by omega) (by omega)), bif_true (by rw [Bool.and_true]; exact tt2 (by omega) (by simp only [big]; omega)), Int.toNat_natCast, Int.toNat_natCast, hx]
    have hc := cutR_len z r
    unfold cutR at hc
    rw [bif_true (tt2 (by simp only [big]; omega) (by rw [hc]; omega)), addI_eq (by omega) (by omega), show ((j : Int) + 1) = ((j + 1 : Nat) : Int) by omega]
    refine (cut1_run F fail ex0 s hs a b at_ n z hz hz2 rr m (j + 1) _ hd (by omega) (by rw [List.length_append, h3]; rfl) (by omega)).trans ?_
    rw [List.append_assoc]; rfl
theorem cut2_run {X : Type} (F : Nat) (fail : X) (ex0 : Mat → Int → Int → Mat → Mat → Int → Mat → List UInt8 → Int → Mat → X) (s : Mat) (hs : s.length ≤ 6) (a b : Mat) (at_ : List UInt8) (n : Int) (s60 : Mat) (z : Nat) (hz : 1 ≤ z) (hz2 : z ≤ 20) : ∀ (rr : Mat) (m j : Nat) (out : Mat), s.drop j = rr → j + rr.length = s.length → out.length = j → rr.length < m →
    TopVolumesAlgebra_l2F F fail ex0 m s ((s.length : Nat) : Int) (j : Int) a b (z : Int) out at_ n s60 = ex0 s ((s.length : Nat) : Int) ((s.length : Nat) : Int) a b (z : Int) (out ++ rr.map (cutR z)) at_ n s60
  | [], m + 1, j, out, h1, h2, h3, h4 => by
    have hj : j = s.length := by simpa using h2
    subst hj
    simp only [TopVolumesAlgebra_l2F, TopVolumesAlgebra_l2]
    rw [bif_false (ff (by omega)), List.map_nil, List.append_nil]
  | r :: rr, m + 1, j, out, h1, h2, h3, h4 => by
    simp only [List.length_cons] at h2 h4
    obtain ⟨hx, hjl, hd⟩ := drop_head (d := ([] : List UInt8)) h1
    simp only [TopVolumesAlgebra_l2F, TopVolumesAlgebra_l2]
    rw [bif_true (tt (by omega)), bif_true (tt2 (by omega) (by omega)), bif_true (by rw [Bool.and_true]; exact tt2 (by omega) (by simp only [big]; omega)), Int.toNat_natCast, Int.toNat_natCast, hx]
    have hc := cutR_len z r
    unfold cutR at hc
    rw [bif_true (tt2 (by simp only [big]; omega) (by rw [hc]; omega)), addI_eq (by omega) (by omega), show ((j : Int) + 1) = ((j + 1 : Nat) : Int) by omega]
    refine (cut2_run F fail ex0 s hs a b at_ n s60 z hz hz2 rr m (j + 1) _ hd (by omega) (by rw [List.length_append, h3]; rfl) (by omega)).trans ?_
    rw [List.append_assoc]; rfl
theorem cut3_run {X : Type} (F : Nat) (fail : X) (ex0 : Mat → Int → Int → Mat → Mat → Mat → Mat → Int → Mat → List UInt8 → Int → X) (s : Mat) (hs : s.length ≤ 6) (a b x_ y : Mat) (at_ : List UInt8) (n : Int) (z : Nat) (hz : 1 ≤ z) (hz2 : z ≤ 20) : ∀ (rr : Mat) (m j : Nat) (out : Mat), s.drop j = rr → j + rr.length = s.length → out.length = j → rr.length < m →
    TopVolumesAlgebra_l3F F fail ex0 m s ((s.length : Nat) : Int) (j : Int) a b x_ y (z : Int) out at_ n = ex0 s ((s.length : Nat) : Int) ((s.length : Nat) : Int) a b x_ y (z : Int) (out ++ rr.map (cutR z)) at_ n
  | [], m + 1, j, out, h1, h2, h3, h4 => by
    have hj : j = s.length := by simpa using h2
    subst hj
    simp only [TopVolumesAlgebra_l3F, TopVolumesAlgebra_l3]
    rw [bif_false (ff (by omega)), List.map_nil, List.append_nil]
  | r :: rr, m + 1, j, out, h1, h2, h3, h4 => by
    simp only [List.length_cons] at h2 h4
    obtain ⟨hx, hjl, hd⟩ := drop_head (d := ([] : List UInt8)) h1
    simp only [TopVolumesAlgebra_l3F, TopVolumesAlgebra_l3]
    rw [bif_true (tt (by omega)), bif_true (tt2 (by omega) (by omega)), bif_true (by rw [Bool.and_true]; exact tt2 (by omega) (by simp only [big]; omega)), Int.toNat_natCast, Int.toNat_natCast, hx]
    have hc := cutR_len z r
    unfold cutR at hc
    rw [bif_true (tt2 (by simp only [big]; omega) (by rw [hc]; omega)), addI_eq (by omega) (by omega), show ((j : Int) + 1) = ((j + 1 : Nat) : Int) by omega]
    refine (cut3_run F fail ex0 s hs a b x_ y at_ n z hz hz2 rr m (j + 1) _ hd (by omega) (by rw [List.length_append, h3]; rfl) (by omega)).trans ?_
    rw [List.append_assoc]; rfl
theorem cut8_run {X : Type} (F : Nat) (fail : X) (ex0 : Mat → Int → Int → Mat → Bool → Mat → Mat → Mat → Mat → Mat → Int → Int → Int → Mat → List UInt8 → Int → X) (s : Mat) (hs : s.length ≤ 6) (a : Mat) (s6 : Bool) (x_ p q r_ product : Mat) (s155 s156 : Int) (at_ : List UInt8) (n : Int) (z : Nat) (hz : 1 ≤ z) (hz2 : z ≤ 20) : ∀ (rr : Mat) (m j : Nat) (out : Mat), s.drop j = rr → j + rr.length = s.length → out.length = j → rr.length < m →
    TopVolumesAlgebra_l8F F fail ex0 m s ((s.length : Nat) : Int) (j : Int) a s6 x_ p q r_ product s155 s156 (z : Int) out at_ n = ex0 s ((s.length : Nat) : Int) ((s.length : Nat) : Int) a s6 x_ p q r_ product s155 s156 (z : Int) (out ++ rr.map (cutR z)) at_ n
  | [], m + 1, j, out, h1, h2, h3, h4 => by
    have hj : j = s.length := by simpa using h2
    subst hj
    simp only [TopVolumesAlgebra_l8F, TopVolumesAlgebra_l8]
    rw [bif_false (ff (by omega)), List.map_nil, List.append_nil]
  | r :: rr, m + 1, j, out, h1, h2, h3, h4 => by
    simp only [List.length_cons] at h2 h4
    obtain ⟨hx, hjl, hd⟩ := drop_head (d := ([] : List UInt8)) h1
    simp only [TopVolumesAlgebra_l8F, TopVolumesAlgebra_l8]
    rw [bif_true (tt (by omega)), bif_true (tt2 (by omega) (by omega)), bif_true (by rw [Bool.and_true]; exact tt2 (by omega) (by simp only [big]; omega)), Int.toNat_natCast, Int.toNat_natCast, hx]
    have hc := cutR_len z r
    unfold cutR at hc
    rw [bif_true (tt2 (by simp only [big]; omega) (by rw [hc]; omega)), addI_eq (by omega) (by omega), show ((j : Int) + 1) = ((j + 1 : Nat) : Int) by omega]
    refine (cut8_run F fail ex0 s hs a s6 x_ p q r_ product s155 s156 at_ n z hz hz2 rr m (j + 1) _ hd (by omega) (by rw [List.length_append, h3]; rfl) (by omega)).trans ?_
    rw [List.append_assoc]; rfl
theorem set_same {sum : Mat} {i : Nat} {v : List UInt8} (h : i < sum.length) (e : sum.getD i [] = v) : sum.set i v = sum := by
  subst e
  apply List.ext_getElem (by simp)
  intro k h1 h2
  by_cases c : i = k
  · subst c; simp [List.getD, h]
  · simp [c]
theorem set_get {sum : Mat} {i : Nat} (v : List UInt8) (h : i < sum.length) : (sum.set i v).getD i [] = v := by simp [List.getD, h]
theorem xor5_run {X : Type} (F : Nat) (fail : X) (ex0 : Mat → Bool → Mat → Mat → Int → Int → Int → Int → Int → List UInt8 → Int → Int → Mat → X) (a : Mat) (s6 : Bool) (x_ y : Mat) (i : Nat) (s68 s69 : Int) (at_ : List UInt8) (n size : Int) (L : Nat) (hL : L ≤ 65536) (hy : i < y.length) (yr : List UInt8) (hyr : y.getD i [] = yr) (hyl : yr.length = L) :
    ∀ (rest yrest : List UInt8) (m j : Nat) (pre : List UInt8) (sum : Mat), i < sum.length → sum.getD i [] = pre ++ rest → pre.length = j → j + rest.length = L → yr.drop j = yrest → rest.length < m →
      TopVolumesAlgebra_l5F F fail ex0 m a s6 x_ y (i : Int) s68 s69 (L : Int) (j : Int) at_ n size sum = ex0 a s6 x_ y (i : Int) s68 s69 (L : Int) (L : Int) at_ n size (sum.set i (pre ++ sumR rest yrest))
  | [], yrest, m + 1, j, pre, sum, g0, g1, g2, g3, g4, g5 => by
    have hj : j = L := by simpa using g3
    subst hj
    simp only [TopVolumesAlgebra_l5F, TopVolumesAlgebra_l5]
    rw [bif_false (ff (by omega)), show sumR [] yrest = [] from rfl, set_same g0 g1]
  | o :: rest, [], m + 1, j, pre, sum, g0, g1, g2, g3, g4, g5 => by
    have := congrArg List.length g4
    simp at this g3
    omega
  | o :: rest, v :: yrest, m + 1, j, pre, sum, g0, g1, g2, g3, g4, g5 => by
    simp only [List.length_cons] at g3 g5
    obtain ⟨hv, hjl, hd⟩ := drop_head (d := (0 : UInt8)) g4
    have ho : (pre ++ o :: rest).getD j 0 = o := by
      rw [← g2]; simp [List.getD]
    have hset : ∀ v, (pre ++ o :: rest).set j v = (pre ++ [v]) ++ rest := fun v => by
      rw [← g2]; simp
    have hlen : (pre ++ o :: rest).length = L := by simp; omega
    simp only [TopVolumesAlgebra_l5F, TopVolumesAlgebra_l5]
    rw [bif_true (tt (by omega)), bif_true (tt2 (by omega) (by omega)), Int.toNat_natCast, bif_true (tt g0), g1, hlen, bif_true (tt2 (by omega) (by omega)), Int.toNat_natCast, bif_true (tt (by omega)), bif_true (tt2 (by omega) (by omega)), hyr, hyl, bif_true (tt2 (by omega) (by omega)), bif_true (tt2 (by omega) (by omega)), bif_true (tt (by omega)), hv, ho, hset, addI_eq (by omega) (by omega), show ((j : Int) + 1) = ((j + 1 : Nat) : Int) by omega]
    refine (xor5_run F fail ex0 a s6 x_ y i s68 s69 at_ n size L hL hy yr hyr hyl rest yrest m (j + 1) (pre ++ [xorB o v]) _ (by rw [List.length_set]; exact g0) (set_get _ g0) (by simp [g2]) (by omega) hd (by omega)).trans ?_
    rw [List.set_set, List.append_assoc]; rfl
theorem xor4_run {X : Type} (F : Nat) (fail : X) (ex0 : Mat → Bool → Mat → Mat → Int → Int → List UInt8 → Int → Int → Mat → X) (a : Mat) (s6 : Bool) (x_ y : Mat) (at_ : List UInt8) (n size : Int) (L : Nat) (hL : L ≤ 65536) (hF : L < F) (hy : ∀ p ∈ y, p.length = L) (N : Nat) (hN : N ≤ 64) (hyN : y.length = N) :
    ∀ (sr yr : Mat) (m j : Nat) (pre : Mat), (∀ p ∈ sr, p.length = L) → y.drop j = yr → pre.length = j → j + sr.length = N → sr.length < m →
      TopVolumesAlgebra_l4F F fail ex0 m a s6 x_ y (N : Int) (j : Int) at_ n size (pre ++ sr) = ex0 a s6 x_ y (N : Int) (N : Int) at_ n size (pre ++ sumM sr yr)
  | [], yr, m + 1, j, pre, g0, g1, g2, g3, g4 => by
    have hj : j = N := by simpa using g3
    subst hj
    simp only [TopVolumesAlgebra_l4F, TopVolumesAlgebra_l4]
    rw [bif_false (ff (by omega))]; rfl
  | s :: sr, [], m + 1, j, pre, g0, g1, g2, g3, g4 => by
    have := congrArg List.length g1
    simp at this g3
    omega
  | s :: sr, v :: yr, m + 1, j, pre, g0, g1, g2, g3, g4 => by
    simp only [List.length_cons] at g3 g4
    obtain ⟨hv, hjl, hd⟩ := drop_head (d := ([] : List UInt8)) g1
    have hvl : v.length = L := hy v (by rw [← hv]; exact getD_mem hjl)
    have hsl : s.length = L := g0 s List.mem_cons_self
    have ho : (pre ++ s :: sr).getD j [] = s := by
      rw [← g2]; simp [List.getD]
    have hset : ∀ v, (pre ++ s :: sr).set j v = (pre ++ [v]) ++ sr := fun v => by
      rw [← g2]; simp
    have hlen : (pre ++ s :: sr).length = N := by simp; omega
    simp only [TopVolumesAlgebra_l4F, TopVolumesAlgebra_l4]
    rw [hlen, bif_true (tt (by omega)), bif_true (tt2 (by omega) (by omega)), Int.toNat_natCast, bif_true (tt (by omega)), ho, hsl]
    refine (xor5_run F fail _ a s6 x_ y j (N : Int) (j : Int) at_ n size L hL (by omega) v hv hvl s v F 0 [] (pre ++ s :: sr) (by omega) ho rfl (by simpa using hsl) rfl (by omega)).trans ?_
    rw [hset, addI_eq (by omega) (by omega), show ((j : Int) + 1) = ((j + 1 : Nat) : Int) by omega]
    refine (xor4_run F fail ex0 a s6 x_ y at_ n size L hL hF hy N hN hyN sr yr m (j + 1) (pre ++ [[] ++ sumR s v]) (fun p hp => g0 p (List.mem_cons_of_mem _ hp)) hd (by simp [g2]) (by omega) (by omega)).trans ?_
    rw [List.append_assoc]; rfl
theorem eq7_run {X : Type} (F : Nat) (fail : X) (ex0 ex1 : Mat → Bool → Mat → Mat → Mat → Mat → Mat → Int → Int → Int → Int → Int → List UInt8 → Int → Int → X) (a : Mat) (s6 : Bool) (x_ p q r product : Mat) (k : Nat) (s155 s156 : Int) (at_ : List UInt8) (n size : Int) (L : Nat) (hL : L ≤ 65536)
    (hp : k < p.length) (hq : k < q.length) (hr : k < r.length) (pl : (p.getD k []).length = L) (ql : (q.getD k []).length = L) (rl : (r.getD k []).length = L)
    (he : ∀ j, (r.getD k []).getD j 0 = xorB ((p.getD k []).getD j 0) ((q.getD k []).getD j 0)) : ∀ (c m j : Nat), j + c = L → c < m →
      TopVolumesAlgebra_l7F F fail ex0 ex1 m a s6 x_ p q r product (k : Int) s155 s156 (L : Int) (j : Int) at_ n size = ex1 a s6 x_ p q r product (k : Int) s155 s156 (L : Int) (L : Int) at_ n size
  | 0, m + 1, j, h1, h2 => by
    have hj : j = L := by simpa using h1
    subst hj
    simp only [TopVolumesAlgebra_l7F, TopVolumesAlgebra_l7]
    rw [bif_false (ff (by omega))]
  | c + 1, m + 1, j, h1, h2 => by
    simp only [TopVolumesAlgebra_l7F, TopVolumesAlgebra_l7]
    rw [bif_true (tt (by omega)), bif_true (tt2 (by omega) (by omega)), Int.toNat_natCast, rl, bif_true (tt2 (by omega) (by omega)), bif_true (tt2 (by omega) (by omega)), pl, bif_true (tt2 (by omega) (by omega)), bif_true (tt2 (by omega) (by omega)), ql, bif_true (tt2 (by omega) (by omega)), Int.toNat_natCast, he, bif_false (bne_f rfl), addI_eq (by omega) (by omega), show ((j : Int) + 1) = ((j + 1 : Nat) : Int) by omega]
    exact eq7_run F fail ex0 ex1 a s6 x_ p q r product k s155 s156 at_ n size L hL hp hq hr pl ql rl he c m (j + 1) (by omega) (by omega)
theorem eq6_run {X : Type} (F : Nat) (fail : X) (ex0 ex1 : Mat → Bool → Mat → Mat → Mat → Mat → Mat → Int → Int → List UInt8 → Int → Int → X) (a : Mat) (s6 : Bool) (x_ p q r : Mat) (at_ : List UInt8) (n : Int) (L : Nat) (hL : L ≤ 65536) (hF : L < F)
    (hq : q.length = p.length) (hr : r.length = p.length) (hp : p.length ≤ 64) (pl : ∀ x ∈ p, x.length = L) (ql : ∀ x ∈ q, x.length = L) (rl : ∀ x ∈ r, x.length = L)
    (he : ∀ k, k < p.length → ∀ j, (r.getD k []).getD j 0 = xorB ((p.getD k []).getD j 0) ((q.getD k []).getD j 0)) : ∀ (c m k : Nat), k + c = p.length → c < m →
      TopVolumesAlgebra_l6F F fail ex0 ex1 m a s6 x_ p q r p ((p.length : Nat) : Int) (k : Int) at_ n (L : Int) = ex1 a s6 x_ p q r p ((p.length : Nat) : Int) ((p.length : Nat) : Int) at_ n (L : Int)
  | 0, m + 1, k, h1, h2 => by
    have hk : k = p.length := by simpa using h1
    subst hk
    simp only [TopVolumesAlgebra_l6F, TopVolumesAlgebra_l6]
    rw [bif_false (ff (by omega))]
  | c + 1, m + 1, k, h1, h2 => by
    have e1 : (p.getD k []).length = L := pl _ (getD_mem (by omega))
    have e2 : (q.getD k []).length = L := ql _ (getD_mem (by omega))
    have e3 : (r.getD k []).length = L := rl _ (getD_mem (by omega))
    simp only [TopVolumesAlgebra_l6F, TopVolumesAlgebra_l6]
    rw [bif_true (tt (by omega)), bif_true (tt2 (by omega) (by omega)), bif_true (tt2 (by omega) (by omega)), Int.toNat_natCast, bif_true (show bEqual_P (p.getD k []) (p.getD k []) = true from rfl), show bEqual_r (p.getD k []) (p.getD k []) = true from beq_self_eq_true _, Bool.not_true, cond_false, e1, bif_true (tt2 (by omega) (by omega)), bif_false (bne_f rfl), bif_true (tt2 (by omega) (by omega)), e2, bif_false (bne_f rfl), bif_true (tt2 (by omega) (by omega)), e3, bif_false (bne_f rfl), bif_true (tt2 (by omega) (by omega))]
    refine (eq7_run F fail _ _ a s6 x_ p q r p k ((p.length : Nat) : Int) (k : Int) at_ n (L : Int) L hL (by omega) (by omega) (by omega) e1 e2 e3 (he k (by omega)) L F 0 (by omega) (by omega)).trans ?_
    rw [addI_eq (by omega) (by omega), show ((k : Int) + 1) = ((k + 1 : Nat) : Int) by omega]
    exact eq6_run F fail ex0 ex1 a s6 x_ p q r at_ n L hL hF hq hr hp pl ql rl he c m (k + 1) (by omega) (by omega)
theorem eq9_run {X : Type} (F : Nat) (fail : X) (ex0 ex1 : Bool → Mat → Mat → Int → Int → X) (s6 : Bool) (x_ back : Mat) (hb : x_.length ≤ back.length) (hx : x_.length ≤ 64) (he : ∀ k, k < x_.length → back.getD k [] = x_.getD k []) : ∀ (c m k : Nat), k + c = x_.length → c < m →
      TopVolumesAlgebra_l9F F fail ex0 ex1 m s6 x_ back ((x_.length : Nat) : Int) (k : Int) = ex1 s6 x_ back ((x_.length : Nat) : Int) ((x_.length : Nat) : Int)
  | 0, m + 1, k, h1, h2 => by
    have hk : k = x_.length := by simpa using h1
    subst hk
    simp only [TopVolumesAlgebra_l9F, TopVolumesAlgebra_l9]
    rw [bif_false (ff (by omega))]
  | c + 1, m + 1, k, h1, h2 => by
    simp only [TopVolumesAlgebra_l9F, TopVolumesAlgebra_l9]
    rw [bif_true (tt (by omega)), bif_true (tt2 (by omega) (by omega)), bif_true (tt2 (by omega) (by omega)), Int.toNat_natCast, he k (by omega), bif_true (show bEqual_P (x_.getD k []) (x_.getD k []) = true from rfl), show bEqual_r (x_.getD k []) (x_.getD k []) = true from beq_self_eq_true _, Bool.not_true, cond_false, addI_eq (by omega) (by omega), show ((k : Int) + 1) = ((k + 1 : Nat) : Int) by omega]
    exact eq9_run F fail ex0 ex1 s6 x_ back hb hx he c m (k + 1) (by omega) (by omega)
theorem even_P {x : Mat} {w : Nat} (hx : ∀ p ∈ x, p.length = w) (h1 : 1 ≤ x.length) (h6 : x.length ≤ 6) (hw : 1 ≤ w) (hw2 : w ≤ 20) : pRecovery_P x 2 = true := by
  have e := headLen_of hx (by omega)
  unfold pRecovery_P cauchyIn evenP
  rw [e]
  simp only [Bool.or_eq_true, Bool.and_eq_true, decide_eq_true_eq, List.all_eq_true, beq_iff_eq]
  exact ⟨.inl ⟨trivial, by omega, by omega⟩, ⟨hw, by omega⟩, hx⟩
theorem TopVolumesAlgebra_plain (a b : List (List UInt8)) (at_ : List UInt8) (_ : TopVolumesAlgebra_P a b at_ = true) : ∃ F, ∀ {X : Type} (fail : X) (ret : Bool → X), TopVolumesAlgebra F a b at_ fail ret = ret (TopVolumesAlgebra_r a b at_) := by
  refine ⟨1000, fun fail ret => ?_⟩
  unfold TopVolumesAlgebra TopVolumesAlgebra_r
  have hn : minI (minI ((a.length : Nat) : Int) ((b.length : Nat) : Int)) 6 = ((min (min a.length b.length) 6 : Nat) : Int) := by
    rw [minI_eq, minI_eq]; omega
  rw [hn]
  generalize hN : min (min a.length b.length) 6 = N
  by_cases h0 : N < 1
  · rw [bif_true (tt (by omega))]; rfl
  rw [bif_false (ff (by omega)), bif_true (tt (by omega))]
  generalize hz : (a.getD 0 []).length = z
  by_cases h1 : z < 1
  · rw [bif_true (tt (by omega))]; rfl
  rw [bif_false (ff (by omega)), bif_true (tt (by omega))]
  by_cases h2 : z > 20
  · rw [bif_true (tt (by omega))]; rfl
  rw [bif_false (ff (by omega)), bif_true (tt (by omega)), bif_true (tt2 (by omega) (by omega)), Int.toNat_natCast]
  have hal : (a.take N).length = N := by rw [List.length_take]; omega
  have hbl : (b.take N).length = N := by rw [List.length_take]; omega
  refine (cut1_run 1000 fail _ (a.take N) (by omega) a b at_ (N : Int) z (by omega) (by omega) (a.take N) 1000 0 [] rfl (by simp) rfl (by omega)).trans ?_
  rw [List.nil_append, bif_true (tt2 (by omega) (by omega)), Int.toNat_natCast]
  refine (cut2_run 1000 fail _ (b.take N) (by omega) a b at_ (N : Int) ((a.take N).map (cutR z)) z (by omega) (by omega) (b.take N) 1000 0 [] rfl (by simp) rfl (by omega)).trans ?_
  rw [List.nil_append, bif_true (tt2 (by omega) (by omega)), Int.toNat_natCast]
  refine (cut3_run 1000 fail _ (a.take N) (by omega) a b ((a.take N).map (cutR z)) ((b.take N).map (cutR z)) at_ (N : Int) z (by omega) (by omega) (a.take N) 1000 0 [] rfl (by simp) rfl (by omega)).trans ?_
  rw [List.nil_append]
  have hxr : ∀ p ∈ (a.take N).map (cutR z), p.length = z := fun p hp => by
    obtain ⟨r, _, rfl⟩ := List.mem_map.1 hp
    exact cutR_len z r
  have hyr : ∀ p ∈ (b.take N).map (cutR z), p.length = z := fun p hp => by
    obtain ⟨r, _, rfl⟩ := List.mem_map.1 hp
    exact cutR_len z r
  have hxl : ((a.take N).map (cutR z)).length = N := by rw [List.length_map, hal]
  have hyl : ((b.take N).map (cutR z)).length = N := by rw [List.length_map, hbl]
  generalize hX : (a.take N).map (cutR z) = x at *
  generalize hY : (b.take N).map (cutR z) = y at *
  rw [hxl]
  refine (xor4_run 1000 fail _ a false x y at_ (N : Int) (z : Int) z (by omega) (by omega) hyr N (by omega) hyl x y 1000 0 [] hxr rfl rfl (by simpa using hxl) (by omega)).trans ?_
  rw [List.nil_append]
  have hsr := sumM_rows hxr hyr
  have hsl : (sumM x y).length = N := by simp [sumM]; omega
  have hxw : headLen x = z := headLen_of hxr (by omega)
  have hyw : headLen y = z := headLen_of hyr (by omega)
  have hsw : headLen (sumM x y) = z := headLen_of hsr (by omega)
  have hc : gCauchy_P 2 (N : Int) = true := by
    unfold gCauchy_P cauchyIn
    simp only [Bool.or_eq_true, Bool.and_eq_true, decide_eq_true_eq]
    exact .inl ⟨rfl, by omega, by omega⟩
  obtain ⟨c1, c2, c3⟩ := matrix_rows hc
  rw [Int.toNat_natCast, show (2 : Int).toNat = 2 from rfl] at c1 c2 c3
  have hcl : (cauchyB 2 N).length = 2 := by simp [cauchyB]
  have hch : headLen (cauchyB 2 N) = N := c3 _ (getD_mem (by omega))
  have hm : gCauchy_r0 2 (N : Int) = cauchyB 2 N := by unfold gCauchy_r0; rw [Int.toNat_natCast]; rfl
  have hP : pRecovery_r0 x 2 = (cauchyB 2 N).map (combZ x) := by unfold pRecovery_r0; rw [hxl]; rfl
  have hQ : pRecovery_r0 y 2 = (cauchyB 2 N).map (combZ y) := by unfold pRecovery_r0; rw [hyl]; rfl
  have hR : pRecovery_r0 (sumM x y) 2 = (cauchyB 2 N).map (combZ (sumM x y)) := by unfold pRecovery_r0; rw [hsl]; rfl
  have hG : gProduct_r0 (cauchyB 2 N) x = (cauchyB 2 N).map (combZ x) := rfl
  have hGP : gProduct_P (cauchyB 2 N) x = true := by
    unfold gProduct_P isMatS
    rw [hcl, hch, hxl, hxw]
    simp only [Bool.and_eq_true, decide_eq_true_eq, List.all_eq_true, beq_iff_eq]
    exact ⟨⟨⟨by omega, c3⟩, ⟨by omega, hxr⟩⟩, trivial⟩
  rw [bif_true (even_P hxr (by omega) (by omega) (by omega) (by omega)), bif_true (even_P hyr (by omega) (by omega) (by omega) (by omega)), bif_true (even_P hsr (by omega) (by omega) (by omega) (by omega)), bif_true hc, hm, bif_true hGP, hP, hQ, hR, hG]
  rw [bif_false (show (addI (addI (addI (addI (pRecovery_r1 x 2) (pRecovery_r1 y 2)) (pRecovery_r1 (sumM x y) 2)) (gCauchy_r1 2 (N : Int))) (gProduct_r1 (cauchyB 2 N) x) != (0 : Int)) = false from rfl)]
  rw [bif_false (bne_f (by rw [List.length_map, hcl]; rfl)), bif_false (bne_f (by rw [List.length_map, hcl]; rfl)), bif_false (bne_f (by rw [List.length_map, hcl]; rfl)), bif_false (bne_f (by rw [List.length_map, hcl]; rfl))]
  have rows : ∀ (u : Mat), headLen u = z → ∀ p ∈ (cauchyB 2 N).map (combZ u), p.length = z := fun u hu p hp => by
    obtain ⟨r, _, rfl⟩ := List.mem_map.1 hp
    rw [combZ_len, hu]
  refine (eq6_run 1000 fail _ _ a false x ((cauchyB 2 N).map (combZ x)) ((cauchyB 2 N).map (combZ y)) ((cauchyB 2 N).map (combZ (sumM x y))) at_ (N : Int) z (by omega) (by omega) (by rw [List.length_map, List.length_map]) (by rw [List.length_map, List.length_map]) (by rw [List.length_map]; omega) (rows x hxw) (rows y hyw) (rows _ hsw) (fun k hk j => by
    rw [List.length_map] at hk
    rw [getD_mapM _ _ _ hk, getD_mapM _ _ _ hk, getD_mapM _ _ _ hk]
    exact combZ_sum hxr hyr (by omega) (by omega) _ j) 2 1000 0 (by rw [List.length_map, hcl]) (by omega)).trans ?_
  rw [bif_true (tt2 (by omega) (by omega)), Int.toNat_natCast]
  refine (cut8_run 1000 fail _ (a.take N) (by omega) a false x _ _ _ _ _ _ at_ (N : Int) z (by omega) (by omega) (a.take N) 1000 0 [] rfl (by simp) rfl (by omega)).trans ?_
  rw [List.nil_append, hX]
  have hfull : x ++ (cauchyB 2 N).map (combZ x) = (matrixB x.length 2).map (combZ x) := by
    rw [full_eq (by rw [hxw]; exact hxr), hxl]
  have hfl : (x ++ (cauchyB 2 N).map (combZ x)).length = N + 2 := by rw [List.length_append, List.length_map, hcl, hxl]
  have hi : ∀ k, remI (cvBI (at_.getD k 0)) (N : Int) = (((at_.getD k 0).toNat % N : Nat) : Int) := fun k => by
    rw [cvBI_eq, remI_eq (by omega), Int.natCast_emod]
  have hlt : ∀ k, (at_.getD k 0).toNat % N < N := fun k => Nat.mod_lt _ (by omega)
  have hlt0 := hlt 0
  have hlt1 := hlt 1
  rw [hi, hi]
  generalize (at_.getD 0 0).toNat % N = i0 at *
  generalize (at_.getD 1 0).toNat % N = i1 at *
  have hset : ((x ++ (cauchyB 2 N).map (combZ x)).set i0 []).set i1 [] = lose (patB N i0 i1) ((matrixB x.length 2).map (combZ x)) := by
    rw [hfull]
    unfold patB
    rw [lose_set _ _ _ (by simp [matrix_len, hxl]), lose_set _ _ _ (by simp [matrix_len, hxl])]
    rw [show N + 2 = ((matrixB x.length 2).map (combZ x)).length by rw [List.length_map, matrix_len, hxl], lose_false]
  rw [bif_true (le_big (by omega)), bif_true (bne_t (by omega)), bif_true (bne_t (by omega)), bif_true (tt2 (by omega) (by omega)), Int.toNat_natCast, bif_true (tt2 (by omega) (by rw [List.length_set]; omega)), Int.toNat_natCast, hset]
  have hxr' : ∀ p ∈ x, p.length = headLen x := by rw [hxw]; exact hxr
  have hrp := repair_P hxr' (by omega) (by omega) (by omega) (by omega) (i := i0) (j := i1) (by omega) (by omega)
  have hbk := fun k (hk : k < x.length) => back_eq hxr' (by omega) (by omega) (by omega) (i := i0) (j := i1) (by omega) (by omega) (k := k) hk
  rw [hxl] at hrp hbk
  rw [bif_true (by rw [hxl]; exact hrp)]
  have hlen : (lose (patB N i0 i1) ((matrixB N 2).map (combZ x))).length = N + 2 := by rw [lose_len, List.length_map, matrix_len]
  have hr0 : pRepair_r0 (lose (patB N i0 i1) ((matrixB N 2).map (combZ x))) (N : Int) = over (lose (patB N i0 i1) ((matrixB N 2).map (combZ x))) (wholeB (lose (patB N i0 i1) ((matrixB N 2).map (combZ x))) N 2) := by
    unfold pRepair_r0 pWhole_r0
    rw [hlen, Int.toNat_natCast, show N + 2 - N = 2 by omega]
  have hol : (over (lose (patB N i0 i1) ((matrixB N 2).map (combZ x))) (wholeB (lose (patB N i0 i1) ((matrixB N 2).map (combZ x))) N 2)).length = N + 2 := by
    rw [over_len]
    unfold wholeB
    rw [List.length_map, matrix_len]
  rw [hxl, bif_false (show (pRepair_r1 (lose (patB N i0 i1) ((matrixB N 2).map (combZ x))) (N : Int) != (0 : Int)) = false from rfl), hr0, hol, bif_false (bne_f (by rw [addI_eq (by omega) (by omega)]; omega))]
  rw [← hxl] at hol hbk ⊢
  refine (eq9_run 1000 fail _ _ false x _ (by omega) (by omega) hbk x.length 1000 0 (by omega) (by omega)).trans ?_
  rfl
end Go.AI
