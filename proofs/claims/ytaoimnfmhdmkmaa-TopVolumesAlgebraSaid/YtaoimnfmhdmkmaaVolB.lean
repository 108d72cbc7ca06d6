/- What the product of matrices answers. -/
import Derived.Test.YtaoimnfmhdmkmaaVolA
namespace Go.AI
open Go

theorem isMat_rows {m : Mat} (h : isMatS m = true) : 1 ≤ m.length ∧ m.length ≤ 64 ∧ 1 ≤ headLen m ∧ headLen m ≤ 64 ∧ ∀ r ∈ m, r.length = headLen m := by
  unfold isMatS at h
  rw [Bool.and_eq_true, decide_eq_true_eq, List.all_eq_true] at h
  obtain ⟨⟨h1, h2, h3, h4⟩, h5⟩ := h
  exact ⟨h1, h2, h3, h4, fun r hr => by simpa using h5 r hr⟩
theorem getD_mem {α : Type} {l : List α} {i : Nat} {d : α} (h : i < l.length) : l.getD i d ∈ l := by
  simp [List.getD, List.getElem?_eq_getElem h]

theorem isMat_loop {X : Type} (F : Nat) (fail : X) (ret : Bool → X) (s : Mat) (hs : s.length ≤ 64) (hs1 : 1 ≤ s.length) : ∀ (rr : Mat) (m j : Nat) (s4 : Int), s.drop j = rr → j + rr.length = s.length → rr.length < m →
    isMat_l1F F fail (fun (_ : Mat) (s4 : Int) (_ : Int) (_ : Int) (_ : Mat) => ret (!(decide (s4 ≥ (0 : Int))))) (fun (_ : Mat) (_ : Int) (_ : Int) (_ : Int) (_ : Mat) => ret true) m s s4 ((s.length : Nat) : Int) (j : Int) s = ret (rr.all fun r => r.length == headLen s)
  | [], m + 1, j, s4, h1, h2, h3 => by
    have hj : j = s.length := by simpa using h2
    simp only [isMat_l1F, isMat_l1]
    rw [bif_false (ff (by omega))]; rfl
  | r :: rr, m + 1, j, s4, h1, h2, h3 => by
    simp only [List.length_cons] at h2 h3
    have hr : s.getD j [] = r := by
      have : (s.drop j)[0]? = some r := by rw [h1]; rfl
      rw [List.getElem?_drop, Nat.add_zero] at this
      simp [List.getD, this]
    have hhead : (s.getD 0 []).length = headLen s := rfl
    simp only [isMat_l1F, isMat_l1]
    rw [bif_true (tt (by omega)), bif_true (tt2 (by omega) (by omega)), bif_true (tt (by omega)), Int.toNat_natCast, hr, hhead]
    by_cases he : r.length = headLen s
    · rw [bif_false (bne_f (by omega)), addI_eq (by omega) (by omega), show ((j : Int) + 1) = ((j + 1 : Nat) : Int) by omega]
      rw [isMat_loop F fail ret s hs hs1 rr m (j + 1) s4 (by rw [← List.drop_drop, h1]; rfl) (by omega) (by omega)]
      simp [he]
    · rw [bif_true (bne_t (by omega))]
      have h0 : (!(decide ((j : Int) ≥ (0 : Int)))) = false := by rw [tt (p := (j : Int) ≥ 0) (by omega)]; rfl
      have h9 : (r.length == headLen s) = false := beq_eq_false_iff_ne.2 he
      rw [h0, List.all_cons, h9, Bool.false_and]
theorem isMat_plain (m_ : List (List UInt8)) (_ : isMat_P m_ = true) : ∃ F, ∀ {X : Type} (fail : X) (ret : Bool → X), isMat F m_ fail ret = ret (isMat_r m_) := by
  refine ⟨100, fun fail ret => ?_⟩
  have hhead : (m_.getD 0 []).length = headLen m_ := rfl
  unfold isMat isMat_r isMatS
  by_cases h1 : m_.length < 1
  · rw [bif_true (tt (by omega)), ff (p := 1 ≤ m_.length ∧ _) (by omega)]; rfl
  rw [bif_false (ff (by omega))]
  by_cases h2 : m_.length > 64
  · rw [bif_true (tt (by omega)), ff (p := 1 ≤ m_.length ∧ _) (by omega)]; rfl
  rw [bif_false (ff (by omega)), bif_true (tt (by omega)), hhead]
  by_cases h3 : headLen m_ < 1
  · rw [bif_true (tt (by omega)), ff (p := 1 ≤ m_.length ∧ _) (by omega)]; rfl
  rw [bif_false (ff (by omega)), bif_true (tt (by omega))]
  by_cases h4 : headLen m_ > 64
  · rw [bif_true (tt (by omega)), ff (p := 1 ≤ m_.length ∧ _) (by omega)]; rfl
  rw [bif_false (ff (by omega)), tt (p := 1 ≤ m_.length ∧ _) (by omega), Bool.true_and]
  exact isMat_loop 100 fail ret m_ (by omega) (by omega) m_ 100 0 0 rfl (by simp) (by omega)

theorem prod3_run {X : Type} (F : Nat) (fail : X) (ex0 : Mat → FT → UInt8 → Mat → Int → Int → List UInt8 → Int → Int → List UInt8 → Int → Int → Mat → List UInt8 → X) (b : Mat) (f : UInt8) (s31 : Mat) (s32 s33 : Int) (s42 : List UInt8) (s43 s44 : Int) (p : List UInt8) (out : Mat) (hp : p.length ≤ 2147483648) :
    ∀ (pr : List UInt8) (m : Nat) (j : Nat) (pre rest : List UInt8), pre.length = j → p.drop j = pr → j + pr.length = p.length → pr.length ≤ rest.length → pr.length < m →
      gProduct_l3F F fail ex0 m b fieldT f s31 s32 s33 s42 s43 s44 p ((p.length : Nat) : Int) (j : Int) out (pre ++ rest) = ex0 b fieldT f s31 s32 s33 s42 s43 s44 p ((p.length : Nat) : Int) ((p.length : Nat) : Int) out (pre ++ addTo f rest pr)
  | [], m + 1, j, pre, rest, h1, h2, h3, h4, h5 => by
    have hj : j = p.length := by simpa using h3
    subst hj
    simp only [gProduct_l3F, gProduct_l3]
    rw [bif_false (ff (by omega))]
    cases rest <;> rfl
  | x :: pr, m + 1, j, pre, [], h1, h2, h3, h4, h5 => by simp at h4
  | x :: pr, m + 1, j, pre, o :: rest, h1, h2, h3, h4, h5 => by
    simp only [List.length_cons] at h3 h4 h5
    have hx : p.getD j 0 = x := by
      have : (p.drop j)[0]? = some x := by rw [h2]; rfl
      rw [List.getElem?_drop, Nat.add_zero] at this
      simp [List.getD, this]
    have ho : (pre ++ o :: rest).getD j 0 = o := by
      rw [← h1]; simp [List.getD]
    have hset : ∀ v, (pre ++ o :: rest).set j v = (pre ++ [v]) ++ rest := fun v => by
      rw [← h1]; simp
    obtain ⟨t1, t2⟩ := tMul_ok f x
    simp only [gProduct_l3F, gProduct_l3]
    rw [bif_true (tt (by omega)), bif_true (tt2 (by omega) (by omega)), Int.toNat_natCast, bif_true (tt2 (by omega) (by simp; omega)), hx, bif_true t1, bif_true (tt2 (by omega) (by simp; omega)), ho, t2, hset]
    rw [addI_eq (by omega) (by omega)]
    have := prod3_run F fail ex0 b f s31 s32 s33 s42 s43 s44 p out hp pr m (j + 1) (pre ++ [xorB o (gfm f x)]) rest (by simp [h1]) (by rw [← List.drop_drop, h2]; rfl) (by omega) (by omega) (by omega)
    rw [show ((j : Int) + 1) = ((j + 1 : Nat) : Int) by omega, this]
    rw [List.append_assoc]; rfl
theorem comb_len : ∀ (ps : Mat) (row out : List UInt8), (comb row ps out).length = out.length
  | [], row, out => by cases row <;> rfl
  | p :: ps, [], out => rfl
  | p :: ps, f :: row, out => by
    rw [comb, comb_len ps row]
    have : ∀ (out p : List UInt8), (addTo f out p).length = out.length := by
      intro out
      induction out with
      | nil => intro p; cases p <;> rfl
      | cons o out ih =>
        intro p
        cases p with
        | nil => rfl
        | cons b p => rw [addTo, List.length_cons, List.length_cons, ih]
    exact this _ _
theorem addTo_len (f : UInt8) : ∀ (out p : List UInt8), (addTo f out p).length = out.length
  | [], p => by cases p <;> rfl
  | o :: out, [] => rfl
  | o :: out, b :: p => by rw [addTo, List.length_cons, List.length_cons, addTo_len f out p]
theorem prod2_run {X : Type} (F : Nat) (fail : X) (ex0 : Mat → FT → Mat → Int → Int → List UInt8 → Int → Int → Mat → List UInt8 → X) (b : Mat) (w : Nat) (hw : w ≤ 2147483648) (hb : ∀ p ∈ b, p.length = w) (hF : w < F) (s31 : Mat) (s32 s33 : Int) (row : List UInt8) (hr : row.length = b.length) (hl : b.length ≤ 64) (out : Mat) :
    ∀ (rr : List UInt8) (br : Mat) (m j : Nat) (sums : List UInt8), row.drop j = rr → b.drop j = br → j + rr.length = row.length → sums.length = w → rr.length < m →
      gProduct_l2F F fail ex0 m b fieldT s31 s32 s33 row ((row.length : Nat) : Int) (j : Int) out sums = ex0 b fieldT s31 s32 s33 row ((row.length : Nat) : Int) ((row.length : Nat) : Int) out (comb rr br sums)
  | [], br, m + 1, j, sums, h1, h2, h3, h4, h5 => by
    have hj : j = row.length := by simpa using h3
    subst hj
    simp only [gProduct_l2F, gProduct_l2]
    rw [bif_false (ff (by omega))]
    rfl
  | f :: rr, br, m + 1, j, sums, h1, h2, h3, h4, h5 => by
    simp only [List.length_cons] at h3 h5
    have hf : row.getD j 0 = f := by
      have : (row.drop j)[0]? = some f := by rw [h1]; rfl
      rw [List.getElem?_drop, Nat.add_zero] at this
      simp [List.getD, this]
    obtain ⟨p, br', rfl⟩ : ∃ p br', br = p :: br' := by
      cases br with
      | nil => have := congrArg List.length h2; simp at this; omega
      | cons p br' => exact ⟨p, br', rfl⟩
    have hp : b.getD j [] = p := by
      have : (b.drop j)[0]? = some p := by rw [h2]; rfl
      rw [List.getElem?_drop, Nat.add_zero] at this
      simp [List.getD, this]
    have hpl : p.length = w := hb p (by rw [← hp]; exact getD_mem (by omega))
    simp only [gProduct_l2F, gProduct_l2]
    rw [bif_true (tt (by omega)), bif_true (tt2 (by omega) (by omega)), bif_true (tt2 (by omega) (by omega)), Int.toNat_natCast, hf, hp]
    have h3' := prod3_run F fail (fun (b1 : Mat) (t1 : FT) (x_ : UInt8) (s311 : Mat) (s321 : Int) (s331 : Int) (s421 : List UInt8) (s431 : Int) (s441 : Int) (s52 : List UInt8) (s53 : Int) (s54 : Int) (out1 : Mat) (sums1 : List UInt8) =>
        gProduct_l2F F fail ex0 m b1 t1 s311 s321 s331 s421 s431 (addI s441 (1 : Int)) out1 sums1) b f s31 s32 s33 row ((row.length : Nat) : Int) (j : Int) p out (by omega) p F 0 [] sums rfl rfl (by simp) (by omega) (by omega)
    refine h3'.trans ?_
    simp only [List.nil_append]
    rw [addI_eq (by omega) (by omega), show ((j : Int) + 1) = ((j + 1 : Nat) : Int) by omega]
    exact prod2_run F fail ex0 b w hw hb hF s31 s32 s33 row hr hl out rr br' m (j + 1) (addTo f sums p) (by rw [← List.drop_drop, h1]; rfl) (by rw [← List.drop_drop, h2]; rfl) (by omega) (by rw [addTo_len]; exact h4) (by omega)
theorem prod1_run {X : Type} (F : Nat) (fail : X) (ex0 : Mat → FT → Mat → Int → Int → Mat → X) (b : Mat) (hb1 : 1 ≤ b.length) (hbl : b.length ≤ 64) (hw : headLen b ≤ 65536) (hb : ∀ p ∈ b, p.length = headLen b) (hF : headLen b < F) (hF2 : 64 < F) (a : Mat) (ha : ∀ r ∈ a, r.length = b.length) (hal : a.length ≤ 64) :
    ∀ (ar : Mat) (m j : Nat) (out : Mat), a.drop j = ar → j + ar.length = a.length → out.length = j → ar.length < m →
      gProduct_l1F F fail ex0 m b fieldT a ((a.length : Nat) : Int) (j : Int) out = ex0 b fieldT a ((a.length : Nat) : Int) ((a.length : Nat) : Int) (out ++ ar.map (combZ b))
  | [], m + 1, j, out, h1, h2, h3, h4 => by
    have hj : j = a.length := by simpa using h2
    rw [hj]
    simp only [gProduct_l1F, gProduct_l1]
    rw [bif_false (ff (by omega)), List.map_nil, List.append_nil]
  | r :: ar, m + 1, j, out, h1, h2, h3, h4 => by
    simp only [List.length_cons] at h2 h4
    have hr : a.getD j [] = r := by
      have : (a.drop j)[0]? = some r := by rw [h1]; rfl
      rw [List.getElem?_drop, Nat.add_zero] at this
      simp [List.getD, this]
    have hrl : r.length = b.length := ha r (by rw [← hr]; exact getD_mem (by omega))
    have hhead : (b.getD 0 []).length = headLen b := rfl
    simp only [gProduct_l1F, gProduct_l1]
    rw [bif_true (tt (by omega)), bif_true (tt2 (by omega) (by omega)), bif_true (tt (by omega)), Int.toNat_natCast, hr, hhead]
    rw [bif_true (by rw [Bool.and_true]; exact tt2 (by omega) (by simp only [big]; omega))]
    have h2' := prod2_run F fail (fun (b1 : Mat) (t1 : FT) (s311 : Mat) (s321 : Int) (s331 : Int) (s42 : List UInt8) (s43 : Int) (s44 : Int) (out1 : Mat) (sums : List UInt8) =>
        bif (decide ((out1 ++ ([sums] : Mat)).length ≤ big)) then
        gProduct_l1F F fail ex0 m b1 t1 s311 s321 (addI s331 (1 : Int)) (out1 ++ ([sums] : Mat))
        else fail) b (headLen b) (by omega) hb hF a ((a.length : Nat) : Int) (j : Int) r hrl hbl out r b F 0 (List.replicate (headLen b) 0) rfl rfl (by simp) (by simp) (by omega)
    refine h2'.trans ?_
    rw [bif_true (le_big (by simp; omega)), addI_eq (by omega) (by omega), show ((j : Int) + 1) = ((j + 1 : Nat) : Int) by omega]
    rw [prod1_run F fail ex0 b hb1 hbl hw hb hF hF2 a ha hal ar m (j + 1) (out ++ [comb r b (List.replicate (headLen b) 0)]) (by rw [← List.drop_drop, h1]; rfl) (by omega) (by simp [h3]) (by omega)]
    rw [List.append_assoc]; rfl
theorem gProduct_plain (a : List (List UInt8)) (b : List (List UInt8)) (h : gProduct_P a b = true) : ∃ F, ∀ {X : Type} (fail : X) (ret : List (List UInt8) → Int → X), gProduct F a b fail ret = ret (gProduct_r0 a b) (gProduct_r1 a b) := by
  unfold gProduct_P at h
  rw [Bool.and_eq_true, Bool.and_eq_true, beq_iff_eq] at h
  obtain ⟨⟨ha, hb⟩, hab⟩ := h
  obtain ⟨a1, a2, a3, a4, a5⟩ := isMat_rows ha
  obtain ⟨b1, b2, b3, b4, b5⟩ := isMat_rows hb
  refine ⟨200, fun fail ret => ?_⟩
  have e1 : isMat_r a = true := ha
  have e2 : isMat_r b = true := hb
  have hhead : (a.getD 0 []).length = headLen a := rfl
  unfold gProduct
  rw [bif_true (show isMat_P a = true from rfl), e1, Bool.not_true, cond_false, bif_true (show isMat_P b = true from rfl), e2, Bool.not_true, cond_false, bif_true (tt (by omega)), hhead, bif_false (bne_f (by omega)), bif_true (show gField_P = true from rfl)]
  exact prod1_run 200 fail _ b b1 b2 (by omega) b5 (by omega) (by omega) a (fun r hr => by rw [a5 r hr, hab]) a2 a 200 0 [] rfl (by simp) rfl (by omega)
end Go.AI
