/- Texts of the proof, joined: LogP5. Names of our own are shortened by program; the long ones stand in wip/. -/
import Derived.Test.YtnmidfcefljafaaGreatQpLogP4
namespace Go.AI
open Go
theorem Kuh {p : Ja4} (h : p.length = 16) : p = p.getD 0 0 :: (be 4 (fld p 1 4) ++ (be 3 (fld p 5 3) ++ (be 4 (fld p 8 4) ++ be 4 (fld p 12 4)))) := by
 have hb : ∀ a n, a + n ≤ 16 → be n (fld p a n) = (p.drop a).take n := fun a n hn => by
  have := K6a ((p.drop a).take n)
  rwa [List.length_take, List.length_drop, show min n (p.length - a) = n by omega] at this
 rw [hb 1 4 (by omega), hb 5 3 (by omega), hb 8 4 (by omega), hb 12 4 (by omega)]
 match p, h with
 | [x0, x1, x2, x3, x4, x5, x6, x7, x8, x9, x10, x11, x12, x13, x14, x15], _ => rfl
theorem Kzs (b : Bys) (c : Nat) : fld (Jr7 b c) 1 4 = c % 4294967296 ∧ fld (Jr7 b c) 5 3 = Jau b.length % 16777216 ∧ fld (Jr7 b c) 8 4 = b.length % 4294967296 ∧ fld (Jr7 b c) 12 4 = Kx3 b :=
 ⟨Khk 4 c, Khk 3 _, Khk 4 _, (Khk 4 _).trans (Nat.mod_eq_of_lt (Km9 b))⟩
theorem K6c (b : Bys) (c : Nat) : (Jr7 b c).length = 16 := by simp [Jr7, be]
theorem J9i {p : Ja4} (h : p.length = 16) {b : Bys} {c : Nat} (hc : c < 4294967296) (hb : b.length ≤ 65536) :
  p = Jr7 b c ↔ (p.getD 0 0).toNat = 2 ∧ fld p 1 4 = c ∧ fld p 5 3 = Jau b.length ∧ fld p 8 4 = b.length ∧ fld p 12 4 = Kx3 b := by
 obtain ⟨f1, f2, f3, f4⟩ := Kzs b c
 have hn : Jau b.length < 16777216 := by unfold Jau; omega
 constructor
 ·rintro rfl
  exact ⟨rfl, by rw [f1]; omega, by rw [f2]; omega, by rw [f3]; omega, f4⟩
 ·rintro ⟨h1, h2, h3, h4, h5⟩
  rw [Kuh h, h2, h3, h4, h5, UInt8.toNat_inj.1 (show (p.getD 0 0).toNat = (2 : UInt8).toNat from h1)]; rfl
theorem Kzt : ∀ (ps : List Ja4), Jql ps = true → (∀ p, p ∈ ps → Jet p = true) → Ke3 ps.length (Jhg ps) = ps
 | [], _, _ => rfl
 | p :: ps, h, hd => by
  have h' := Ji2.1 h
  have hl : ((p.drop 1).take 15).length = 15 := by rw [List.length_take, List.length_drop]; omega
  have h1 : p.getD 0 0 = 1 := UInt8.toNat_inj.1 (Jk5.1 (hd p List.mem_cons_self))
  rw [Jst, List.length_cons, Ke3, List.take_left' hl, List.drop_left' hl, Kzt ps h'.2 (fun q hq => hd q (List.mem_cons_of_mem _ hq)), hl, Nat.sub_self, List.replicate_zero, List.append_nil]
  have e : p = p.getD 0 0 :: p.drop 1 := by
   rw [← Jcx (0 : UInt8) (show 0 < p.length by omega), List.drop_zero]
  rw [List.take_of_length_le (by rw [List.length_drop]; omega), ← h1]
  exact congrArg (· :: ps) e.symm
theorem J9j : ∀ (k : Nat) (x : Bys) (m : Nat), Ke3 k (x ++ List.replicate m 0) = Ke3 k x
 | 0, _, _ => rfl
 | k + 1, x, m => by
  have e1 : (x ++ List.replicate m 0).take 15 ++ List.replicate (15 - ((x ++ List.replicate m 0).take 15).length) 0 = x.take 15 ++ List.replicate (15 - (x.take 15).length) (0 : UInt8) := by
   rw [List.take_append, List.take_replicate, List.append_assoc, List.replicate_append_replicate]
   congr 2
   simp only [List.length_append, List.length_take, List.length_replicate]; omega
  have e2 : (x ++ List.replicate m 0).drop 15 = x.drop 15 ++ List.replicate (m - (15 - x.length)) (0 : UInt8) := by
   rw [List.drop_append, List.drop_replicate]
  rw [Ke3, Ke3, e1, e2, J9j k]
theorem Jyu : ∀ (k : Nat) (x : Bys), x.length ≤ 15 * k → Jhg (Ke3 k x) = x ++ List.replicate (15 * k - x.length) 0
 | 0, x, h => by
  have : x = [] := List.length_eq_zero_iff.1 (by omega)
  subst this; rfl
 | k + 1, x, h => by
  rw [Ke3, Jst, Jyu k _ (by rw [List.length_drop]; omega)]
  rw [List.drop_succ_cons, List.drop_zero, List.take_of_length_le (by simp only [List.length_append, List.length_take, List.length_replicate]; omega)]
  by_cases c : x.length ≤ 15
  ·rw [List.drop_eq_nil_of_le c, List.take_of_length_le c, List.nil_append, List.append_assoc, List.replicate_append_replicate]
   congr 2
   simp only [List.length_nil]; omega
  ·have : (x.take 15).length = 15 := by rw [List.length_take]; omega
   rw [this, Nat.sub_self, List.replicate_zero, List.append_nil, ← List.append_assoc, List.take_append_drop, List.length_drop]
   congr 2
   omega
theorem Kni (n : Nat) : Jk2 (List.replicate n 0) = false := by
 unfold Jk2
 rw [List.any_eq_false]
 intro x hx
 rw [List.eq_of_mem_replicate hx]; decide
theorem K4m {x : Bys} (h : Jk2 x = false) : x = List.replicate x.length 0 := by
 refine List.eq_replicate_of_mem fun y hy => ?_
 have := List.any_eq_false.1 h y hy
 have : y.toNat = 0 := by simpa using this
 exact UInt8.toNat_inj.1 this
theorem Kzu {p : Ja4} (hp : p.length = 16) {ps : List Ja4} (h16 : Jql ps = true) (hd : ∀ q, q ∈ ps → Jet q = true) {num : Nat} (hn : num < 4294967296) :
  Js1 p num ps.length (Jhg ps) = true ↔ fld p 8 4 ≤ 65536 ∧ fld p 8 4 ≤ 15 * ps.length ∧ p = Jr7 ((Jhg ps).take (fld p 8 4)) num ∧ fld p 5 3 = ps.length ∧ ps = Jcw ((Jhg ps).take (fld p 8 4)) := by
 have hl := J4b h16
 unfold Js1
 simp only [Bool.and_eq_true, decide_eq_true_eq, Bool.not_eq_true']
 constructor
 ·rintro ⟨⟨h1, h2, h3, h4, h5⟩, h6, h7⟩
  have hle : fld p 8 4 ≤ 15 * ps.length := by unfold Jau at h5; omega
  have htl : ((Jhg ps).take (fld p 8 4)).length = fld p 8 4 := by rw [List.length_take]; omega
  refine ⟨h4, hle, (J9i hp hn (by omega)).2 ⟨h1, by omega, by rw [htl, h5, h3], htl.symm, h7⟩, h3, ?_⟩
  have hz := K4m h6
  have e : Jhg ps = (Jhg ps).take (fld p 8 4) ++ List.replicate ((Jhg ps).drop (fld p 8 4)).length 0 := by
   rw [← hz, List.take_append_drop]
  have hr := Kzt ps h16 hd
  rw [e, J9j] at hr
  unfold Jcw
  rw [htl, h5]
  exact hr.symm
 ·rintro ⟨h4, hle, hc, h3, hps⟩
  have htl : ((Jhg ps).take (fld p 8 4)).length = fld p 8 4 := by rw [List.length_take]; omega
  obtain ⟨g1, g2, g3, g4, g5⟩ := (J9i hp hn (b := (Jhg ps).take (fld p 8 4)) (by omega)).1 hc
  have hk : Jau (fld p 8 4) = ps.length := by
   have := congrArg List.length hps
   rw [Jcc, htl] at this; exact this.symm
  refine ⟨⟨g1, by omega, h3, h4, hk⟩, ?_, g5⟩
  have e : Jhg ps = (Jhg ps).take (fld p 8 4) ++ List.replicate (15 * ps.length - fld p 8 4) 0 := by
   have := congrArg Jhg hps
   unfold Jcw at this
   rw [Jyu _ _ (by rw [htl]; unfold Jau; omega), htl, hk] at this
   exact this
  have : (Jhg ps).drop (fld p 8 4) = List.replicate (15 * ps.length - fld p 8 4) 0 := by
   have := congrArg (List.drop (fld p 8 4)) e
   rwa [List.drop_left' htl] at this
  rw [this]
  exact Kni _
end Go.AI
