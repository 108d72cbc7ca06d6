/- Texts of the proof, joined: LogP5. Names of our own are shortened by program; the long ones stand in wip/. -/
import Derived.Test.YtnmidfcefljafaaGreatQsLogP4
namespace Go.AI
open Go
theorem Ksl {p : Ja4} (h : p.length = 16) : p = p.getD 0 0 :: (be 4 (fld p 1 4) ++ (be 3 (fld p 5 3) ++ (be 4 (fld p 8 4) ++ be 4 (fld p 12 4)))) := by
 have hb : ∀ a n, a + n ≤ 16 → be n (fld p a n) = (p.drop a).take n := fun a n hn => by
  have := K4d ((p.drop a).take n)
  rwa [List.length_take, List.length_drop, show min n (p.length - a) = n by omega] at this
 rw [hb 1 4 (by omega), hb 5 3 (by omega), hb 8 4 (by omega), hb 12 4 (by omega)]
 match p, h with
 | [x0, x1, x2, x3, x4, x5, x6, x7, x8, x9, x10, x11, x12, x13, x14, x15], _ => rfl
theorem Kxt (b : Bys) (c : Nat) : fld (Jrt b c) 1 4 = c % 4294967296 ∧ fld (Jrt b c) 5 3 = Jas b.length % 16777216 ∧ fld (Jrt b c) 8 4 = b.length % 4294967296 ∧ fld (Jrt b c) 12 4 = Kv8 b :=
 ⟨Kgf 4 c, Kgf 3 _, Kgf 4 _, (Kgf 4 _).trans (Nat.mod_eq_of_lt (Klx b))⟩
theorem K4f (b : Bys) (c : Nat) : (Jrt b c).length = 16 := by simp [Jrt, be]
theorem J8a {p : Ja4} (h : p.length = 16) {b : Bys} {c : Nat} (hc : c < 4294967296) (hb : b.length ≤ 65536) :
  p = Jrt b c ↔ (p.getD 0 0).toNat = 2 ∧ fld p 1 4 = c ∧ fld p 5 3 = Jas b.length ∧ fld p 8 4 = b.length ∧ fld p 12 4 = Kv8 b := by
 obtain ⟨f1, f2, f3, f4⟩ := Kxt b c
 have hn : Jas b.length < 16777216 := by unfold Jas; omega
 constructor
 ·rintro rfl
  exact ⟨rfl, by rw [f1]; omega, by rw [f2]; omega, by rw [f3]; omega, f4⟩
 ·rintro ⟨h1, h2, h3, h4, h5⟩
  rw [Ksl h, h2, h3, h4, h5, UInt8.toNat_inj.1 (show (p.getD 0 0).toNat = (2 : UInt8).toNat from h1)]; rfl
theorem Kxu : ∀ (ps : List Ja4), Jp8 ps = true → (∀ p, p ∈ ps → Jet p = true) → Kdw ps.length (Jhf ps) = ps
 | [], _, _ => rfl
 | p :: ps, h, hd => by
  have h' := Jix.1 h
  have hl : ((p.drop 1).take 15).length = 15 := by rw [List.length_take, List.length_drop]; omega
  have h1 : p.getD 0 0 = 1 := UInt8.toNat_inj.1 (Jky.1 (hd p List.mem_cons_self))
  rw [Jsf, List.length_cons, Kdw, List.take_left' hl, List.drop_left' hl, Kxu ps h'.2 (fun q hq => hd q (List.mem_cons_of_mem _ hq)), hl, Nat.sub_self, List.replicate_zero, List.append_nil]
  have e : p = p.getD 0 0 :: p.drop 1 := by
   rw [← Jcz (0 : UInt8) (show 0 < p.length by omega), List.drop_zero]
  rw [List.take_of_length_le (by rw [List.length_drop]; omega), ← h1]
  exact congrArg (· :: ps) e.symm
theorem J8b : ∀ (k : Nat) (x : Bys) (m : Nat), Kdw k (x ++ List.replicate m 0) = Kdw k x
 | 0, _, _ => rfl
 | k + 1, x, m => by
  have e1 : (x ++ List.replicate m 0).take 15 ++ List.replicate (15 - ((x ++ List.replicate m 0).take 15).length) 0 = x.take 15 ++ List.replicate (15 - (x.take 15).length) (0 : UInt8) := by
   rw [List.take_append, List.take_replicate, List.append_assoc, List.replicate_append_replicate]
   congr 2
   simp only [List.length_append, List.length_take, List.length_replicate]; omega
  have e2 : (x ++ List.replicate m 0).drop 15 = x.drop 15 ++ List.replicate (m - (15 - x.length)) (0 : UInt8) := by
   rw [List.drop_append, List.drop_replicate]
  rw [Kdw, Kdw, e1, e2, J8b k]
theorem Jyg : ∀ (k : Nat) (x : Bys), x.length ≤ 15 * k → Jhf (Kdw k x) = x ++ List.replicate (15 * k - x.length) 0
 | 0, x, h => by
  have : x = [] := List.length_eq_zero_iff.1 (by omega)
  subst this; rfl
 | k + 1, x, h => by
  rw [Kdw, Jsf, Jyg k _ (by rw [List.length_drop]; omega)]
  rw [List.drop_succ_cons, List.drop_zero, List.take_of_length_le (by simp only [List.length_append, List.length_take, List.length_replicate]; omega)]
  by_cases c : x.length ≤ 15
  ·rw [List.drop_eq_nil_of_le c, List.take_of_length_le c, List.nil_append, List.append_assoc, List.replicate_append_replicate]
   congr 2
   simp only [List.length_nil]; omega
  ·have : (x.take 15).length = 15 := by rw [List.length_take]; omega
   rw [this, Nat.sub_self, List.replicate_zero, List.append_nil, ← List.append_assoc, List.take_append_drop, List.length_drop]
   congr 2
   omega
theorem Kl6 (n : Nat) : Jkt (List.replicate n 0) = false := by
 unfold Jkt
 rw [List.any_eq_false]
 intro x hx
 rw [List.eq_of_mem_replicate hx]; decide
theorem K2l {x : Bys} (h : Jkt x = false) : x = List.replicate x.length 0 := by
 refine List.eq_replicate_of_mem fun y hy => ?_
 have := List.any_eq_false.1 h y hy
 have : y.toNat = 0 := by simpa using this
 exact UInt8.toNat_inj.1 this
theorem Kxv {p : Ja4} (hp : p.length = 16) {ps : List Ja4} (h16 : Jp8 ps = true) (hd : ∀ q, q ∈ ps → Jet q = true) {num : Nat} (hn : num < 4294967296) :
  Jsn p num ps.length (Jhf ps) = true ↔ fld p 8 4 ≤ 65536 ∧ fld p 8 4 ≤ 15 * ps.length ∧ p = Jrt ((Jhf ps).take (fld p 8 4)) num ∧ fld p 5 3 = ps.length ∧ ps = Jcs ((Jhf ps).take (fld p 8 4)) := by
 have hl := J3a h16
 unfold Jsn
 simp only [Bool.and_eq_true, decide_eq_true_eq, Bool.not_eq_true']
 constructor
 ·rintro ⟨⟨h1, h2, h3, h4, h5⟩, h6, h7⟩
  have hle : fld p 8 4 ≤ 15 * ps.length := by unfold Jas at h5; omega
  have htl : ((Jhf ps).take (fld p 8 4)).length = fld p 8 4 := by rw [List.length_take]; omega
  refine ⟨h4, hle, (J8a hp hn (by omega)).2 ⟨h1, by omega, by rw [htl, h5, h3], htl.symm, h7⟩, h3, ?_⟩
  have hz := K2l h6
  have e : Jhf ps = (Jhf ps).take (fld p 8 4) ++ List.replicate ((Jhf ps).drop (fld p 8 4)).length 0 := by
   rw [← hz, List.take_append_drop]
  have hr := Kxu ps h16 hd
  rw [e, J8b] at hr
  unfold Jcs
  rw [htl, h5]
  exact hr.symm
 ·rintro ⟨h4, hle, hc, h3, hps⟩
  have htl : ((Jhf ps).take (fld p 8 4)).length = fld p 8 4 := by rw [List.length_take]; omega
  obtain ⟨g1, g2, g3, g4, g5⟩ := (J8a hp hn (b := (Jhf ps).take (fld p 8 4)) (by omega)).1 hc
  have hk : Jas (fld p 8 4) = ps.length := by
   have := congrArg List.length hps
   rw [Jcb, htl] at this; exact this.symm
  refine ⟨⟨g1, by omega, h3, h4, hk⟩, ?_, g5⟩
  have e : Jhf ps = (Jhf ps).take (fld p 8 4) ++ List.replicate (15 * ps.length - fld p 8 4) 0 := by
   have := congrArg Jhf hps
   unfold Jcs at this
   rw [Jyg _ _ (by rw [htl]; unfold Jas; omega), htl, hk] at this
   exact this
  have : (Jhf ps).drop (fld p 8 4) = List.replicate (15 * ps.length - fld p 8 4) 0 := by
   have := congrArg (List.drop (fld p 8 4)) e
   rwa [List.drop_left' htl] at this
  rw [this]
  exact Kl6 _
end Go.AI
