/- Texts of the proof, joined: LogP5. -/
import Derived.Test.YtnmidfcefljafaaGreatQtLogP4
namespace Go.AI
open Go
theorem payOf_get : ∀ (ps : List Page) (i : Nat), pg16 ps = true → i < 15 * ps.length → (payOf ps).getD i 0 = (ps.getD (i / 15) z16).getD (1 + i % 15) 0
 | [], i, _, h => absurd h (by simp)
 | p :: ps, i, h, hi => by
  have h' := pg16_cons.1 h
  have hl : ((p.drop 1).take 15).length = 15 := by rw [List.length_take, List.length_drop]; omega
  rw [payOf_cons]
  by_cases c : i < 15
  ·have e : ((p.drop 1).take 15 ++ payOf ps).getD i 0 = p.getD (1 + i) 0 := by
    simp only [List.getD, List.getElem?_append_left (show i < ((p.drop 1).take 15).length by omega)]
    rw [List.getElem?_take_of_lt c, List.getElem?_drop]
   rw [e, show i / 15 = 0 by omega, show i % 15 = i by omega]; rfl
  ·have e : ((p.drop 1).take 15 ++ payOf ps).getD i 0 = (payOf ps).getD (i - 15) 0 := by
    simp only [List.getD, List.getElem?_append_right (show ((p.drop 1).take 15).length ≤ i by omega), hl]
   rw [e, payOf_get ps (i - 15) h'.2 (by rw [List.length_cons] at hi; omega), show i / 15 = (i - 15) / 15 + 1 by omega, show (i - 15) % 15 = i % 15 by omega]; rfl
theorem page_parts {p : Page} (h : p.length = 16) : p = p.getD 0 0 :: (be 4 (fld p 1 4) ++ (be 3 (fld p 5 3) ++ (be 4 (fld p 8 4) ++ be 4 (fld p 12 4)))) := by
 have hb : ∀ a n, a + n ≤ 16 → be n (fld p a n) = (p.drop a).take n := fun a n hn => by
  have := be_beV ((p.drop a).take n)
  rwa [List.length_take, List.length_drop, show min n (p.length - a) = n by omega] at this
 rw [hb 1 4 (by omega), hb 5 3 (by omega), hb 8 4 (by omega), hb 12 4 (by omega)]
 match p, h with
 | [x0, x1, x2, x3, x4, x5, x6, x7, x8, x9, x10, x11, x12, x13, x14, x15], _ => rfl
theorem fld_com (b : Bys) (c : Nat) : fld (comP b c) 1 4 = c % 4294967296 ∧ fld (comP b c) 5 3 = needN b.length % 16777216 ∧ fld (comP b c) 8 4 = b.length % 4294967296 ∧ fld (comP b c) 12 4 = crcN b :=
 ⟨beV_be 4 c, beV_be 3 _, beV_be 4 _, (beV_be 4 _).trans (Nat.mod_eq_of_lt (crcN_lt b))⟩
theorem com_16 (b : Bys) (c : Nat) : (comP b c).length = 16 := by simp [comP, be]
theorem com_eq_iff {p : Page} (h : p.length = 16) {b : Bys} {c : Nat} (hc : c < 4294967296) (hb : b.length ≤ 65536) :
  p = comP b c ↔ (p.getD 0 0).toNat = 2 ∧ fld p 1 4 = c ∧ fld p 5 3 = needN b.length ∧ fld p 8 4 = b.length ∧ fld p 12 4 = crcN b := by
 obtain ⟨f1, f2, f3, f4⟩ := fld_com b c
 have hn : needN b.length < 16777216 := by unfold needN; omega
 constructor
 ·rintro rfl
  exact ⟨rfl, by rw [f1]; omega, by rw [f2]; omega, by rw [f3]; omega, f4⟩
 ·rintro ⟨h1, h2, h3, h4, h5⟩
  rw [page_parts h, h2, h3, h4, h5, UInt8.toNat_inj.1 (show (p.getD 0 0).toNat = (2 : UInt8).toNat from h1)]; rfl
theorem rebuild : ∀ (ps : List Page), pg16 ps = true → (∀ p, p ∈ ps → isDat p = true) → datN ps.length (payOf ps) = ps
 | [], _, _ => rfl
 | p :: ps, h, hd => by
  have h' := pg16_cons.1 h
  have hl : ((p.drop 1).take 15).length = 15 := by rw [List.length_take, List.length_drop]; omega
  have h1 : p.getD 0 0 = 1 := UInt8.toNat_inj.1 (isDat_iff.1 (hd p List.mem_cons_self))
  rw [payOf_cons, List.length_cons, datN, List.take_left' hl, List.drop_left' hl, rebuild ps h'.2 (fun q hq => hd q (List.mem_cons_of_mem _ hq)), hl, Nat.sub_self, List.replicate_zero, List.append_nil]
  have e : p = p.getD 0 0 :: p.drop 1 := by
   rw [← drop_cons (0 : UInt8) (show 0 < p.length by omega), List.drop_zero]
  rw [List.take_of_length_le (by rw [List.length_drop]; omega), ← h1]
  exact congrArg (· :: ps) e.symm
theorem datN_zeros : ∀ (k : Nat) (x : Bys) (m : Nat), datN k (x ++ List.replicate m 0) = datN k x
 | 0, _, _ => rfl
 | k + 1, x, m => by
  have e1 : (x ++ List.replicate m 0).take 15 ++ List.replicate (15 - ((x ++ List.replicate m 0).take 15).length) 0 = x.take 15 ++ List.replicate (15 - (x.take 15).length) (0 : UInt8) := by
   rw [List.take_append, List.take_replicate, List.append_assoc, List.replicate_append_replicate]
   congr 2
   simp only [List.length_append, List.length_take, List.length_replicate]; omega
  have e2 : (x ++ List.replicate m 0).drop 15 = x.drop 15 ++ List.replicate (m - (15 - x.length)) (0 : UInt8) := by
   rw [List.drop_append, List.drop_replicate]
  rw [datN, datN, e1, e2, datN_zeros k]
theorem payOf_datN : ∀ (k : Nat) (x : Bys), x.length ≤ 15 * k → payOf (datN k x) = x ++ List.replicate (15 * k - x.length) 0
 | 0, x, h => by
  have : x = [] := List.length_eq_zero_iff.1 (by omega)
  subst this; rfl
 | k + 1, x, h => by
  rw [datN, payOf_cons, payOf_datN k _ (by rw [List.length_drop]; omega)]
  rw [List.drop_succ_cons, List.drop_zero, List.take_of_length_le (by simp only [List.length_append, List.length_take, List.length_replicate]; omega)]
  by_cases c : x.length ≤ 15
  ·rw [List.drop_eq_nil_of_le c, List.take_of_length_le c, List.nil_append, List.append_assoc, List.replicate_append_replicate]
   congr 2
   simp only [List.length_nil]; omega
  ·have : (x.take 15).length = 15 := by rw [List.length_take]; omega
   rw [this, Nat.sub_self, List.replicate_zero, List.append_nil, ← List.append_assoc, List.take_append_drop, List.length_drop]
   congr 2
   omega
theorem nonZero_rep (n : Nat) : nonZero (List.replicate n 0) = false := by
 unfold nonZero
 rw [List.any_eq_false]
 intro x hx
 rw [List.eq_of_mem_replicate hx]; decide
theorem zeros_of {x : Bys} (h : nonZero x = false) : x = List.replicate x.length 0 := by
 refine List.eq_replicate_of_mem fun y hy => ?_
 have := List.any_eq_false.1 h y hy
 have : y.toNat = 0 := by simpa using this
 exact UInt8.toNat_inj.1 this
theorem okCom_iff {p : Page} (hp : p.length = 16) {ps : List Page} (h16 : pg16 ps = true) (hd : ∀ q, q ∈ ps → isDat q = true) {num : Nat} (hn : num < 4294967296) :
  okCom p num ps.length (payOf ps) = true ↔ fld p 8 4 ≤ 65536 ∧ fld p 8 4 ≤ 15 * ps.length ∧ p = comP ((payOf ps).take (fld p 8 4)) num ∧ fld p 5 3 = ps.length ∧ ps = dataPs ((payOf ps).take (fld p 8 4)) := by
 have hl := payOf_len h16
 unfold okCom
 simp only [Bool.and_eq_true, decide_eq_true_eq, Bool.not_eq_true']
 constructor
 ·rintro ⟨⟨h1, h2, h3, h4, h5⟩, h6, h7⟩
  have hle : fld p 8 4 ≤ 15 * ps.length := by unfold needN at h5; omega
  have htl : ((payOf ps).take (fld p 8 4)).length = fld p 8 4 := by rw [List.length_take]; omega
  refine ⟨h4, hle, (com_eq_iff hp hn (by omega)).2 ⟨h1, by omega, by rw [htl, h5, h3], htl.symm, h7⟩, h3, ?_⟩
  have hz := zeros_of h6
  have e : payOf ps = (payOf ps).take (fld p 8 4) ++ List.replicate ((payOf ps).drop (fld p 8 4)).length 0 := by
   rw [← hz, List.take_append_drop]
  have hr := rebuild ps h16 hd
  rw [e, datN_zeros] at hr
  unfold dataPs
  rw [htl, h5]
  exact hr.symm
 ·rintro ⟨h4, hle, hc, h3, hps⟩
  have htl : ((payOf ps).take (fld p 8 4)).length = fld p 8 4 := by rw [List.length_take]; omega
  obtain ⟨g1, g2, g3, g4, g5⟩ := (com_eq_iff hp hn (b := (payOf ps).take (fld p 8 4)) (by omega)).1 hc
  have hk : needN (fld p 8 4) = ps.length := by
   have := congrArg List.length hps
   rw [dataPs_len, htl] at this; exact this.symm
  refine ⟨⟨g1, by omega, h3, h4, hk⟩, ?_, g5⟩
  have e : payOf ps = (payOf ps).take (fld p 8 4) ++ List.replicate (15 * ps.length - fld p 8 4) 0 := by
   have := congrArg payOf hps
   unfold dataPs at this
   rw [payOf_datN _ _ (by rw [htl]; unfold needN; omega), htl, hk] at this
   exact this
  have : (payOf ps).drop (fld p 8 4) = List.replicate (15 * ps.length - fld p 8 4) 0 := by
   have := congrArg (List.drop (fld p 8 4)) e
   rwa [List.drop_left' htl] at this
  rw [this]
  exact nonZero_rep _
end Go.AI
