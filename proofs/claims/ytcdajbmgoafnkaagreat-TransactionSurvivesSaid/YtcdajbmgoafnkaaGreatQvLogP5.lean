/- Texts of the proof, joined: LogP5. Names of our own are shortened by program; the long ones stand in wip/. -/
import Derived.Test.YtcdajbmgoafnkaaGreatQvLogP4
namespace Go.AI
open Go
theorem Kti {p : Jbe} (h : p.length = 16) : p = p.getD 0 0 :: (be 4 (fld p 1 4) ++ (be 3 (fld p 5 3) ++ (be 4 (fld p 8 4) ++ be 4 (fld p 12 4)))) := by
 have hb : ∀ a n, a + n ≤ 16 → be n (fld p a n) = (p.drop a).take n := fun a n hn => by
  have := K5v ((p.drop a).take n)
  rwa [List.length_take, List.length_drop, show min n (p.length - a) = n by omega] at this
 rw [hb 1 4 (by omega), hb 5 3 (by omega), hb 8 4 (by omega), hb 12 4 (by omega)]
 match p, h with
 | [x0, x1, x2, x3, x4, x5, x6, x7, x8, x9, x10, x11, x12, x13, x14, x15], _ => rfl
theorem Kyv (b : Bys) (c : Nat) : fld (Jsd b c) 1 4 = c % 4294967296 ∧ fld (Jsd b c) 5 3 = Jaq b.length % 16777216 ∧ fld (Jsd b c) 8 4 = b.length % 4294967296 ∧ fld (Jsd b c) 12 4 = Kw8 b :=
 ⟨Kg4 4 c, Kg4 3 _, Kg4 4 _, (Kg4 4 _).trans (Nat.mod_eq_of_lt (Kmk b))⟩
theorem K5x (b : Bys) (c : Nat) : (Jsd b c).length = 16 := by simp [Jsd, be]
theorem J85 {p : Jbe} (h : p.length = 16) {b : Bys} {c : Nat} (hc : c < 4294967296) (hb : b.length ≤ 65536) :
  p = Jsd b c ↔ (p.getD 0 0).toNat = 2 ∧ fld p 1 4 = c ∧ fld p 5 3 = Jaq b.length ∧ fld p 8 4 = b.length ∧ fld p 12 4 = Kw8 b := by
 obtain ⟨f1, f2, f3, f4⟩ := Kyv b c
 have hn : Jaq b.length < 16777216 := by unfold Jaq; omega
 constructor
 ·rintro rfl
  exact ⟨rfl, by rw [f1]; omega, by rw [f2]; omega, by rw [f3]; omega, f4⟩
 ·rintro ⟨h1, h2, h3, h4, h5⟩
  rw [Kti h, h2, h3, h4, h5, UInt8.toNat_inj.1 (show (p.getD 0 0).toNat = (2 : UInt8).toNat from h1)]; rfl
theorem Kyw : ∀ (ps : List Jbe), Jqr ps = true → (∀ p, p ∈ ps → Je5 p = true) → Keo ps.length (Jhs ps) = ps
 | [], _, _ => rfl
 | p :: ps, h, hd => by
  have h' := Jja.1 h
  have hl : ((p.drop 1).take 15).length = 15 := by rw [List.length_take, List.length_drop]; omega
  have h1 : p.getD 0 0 = 1 := UInt8.toNat_inj.1 (Jlf.1 (hd p List.mem_cons_self))
  rw [Js0, List.length_cons, Keo, List.take_left' hl, List.drop_left' hl, Kyw ps h'.2 (fun q hq => hd q (List.mem_cons_of_mem _ hq)), hl, Nat.sub_self, List.replicate_zero, List.append_nil]
  have e : p = p.getD 0 0 :: p.drop 1 := by
   rw [← Jcu (0 : UInt8) (show 0 < p.length by omega), List.drop_zero]
  rw [List.take_of_length_le (by rw [List.length_drop]; omega), ← h1]
  exact congrArg (· :: ps) e.symm
theorem J86 : ∀ (k : Nat) (x : Bys) (m : Nat), Keo k (x ++ List.replicate m 0) = Keo k x
 | 0, _, _ => rfl
 | k + 1, x, m => by
  have e1 : (x ++ List.replicate m 0).take 15 ++ List.replicate (15 - ((x ++ List.replicate m 0).take 15).length) 0 = x.take 15 ++ List.replicate (15 - (x.take 15).length) (0 : UInt8) := by
   rw [List.take_append, List.take_replicate, List.append_assoc, List.replicate_append_replicate]
   congr 2
   simp only [List.length_append, List.length_take, List.length_replicate]; omega
  have e2 : (x ++ List.replicate m 0).drop 15 = x.drop 15 ++ List.replicate (m - (15 - x.length)) (0 : UInt8) := by
   rw [List.drop_append, List.drop_replicate]
  rw [Keo, Keo, e1, e2, J86 k]
theorem Jyz : ∀ (k : Nat) (x : Bys), x.length ≤ 15 * k → Jhs (Keo k x) = x ++ List.replicate (15 * k - x.length) 0
 | 0, x, h => by
  have : x = [] := List.length_eq_zero_iff.1 (by omega)
  subst this; rfl
 | k + 1, x, h => by
  rw [Keo, Js0, Jyz k _ (by rw [List.length_drop]; omega)]
  rw [List.drop_succ_cons, List.drop_zero, List.take_of_length_le (by simp only [List.length_append, List.length_take, List.length_replicate]; omega)]
  by_cases c : x.length ≤ 15
  ·rw [List.drop_eq_nil_of_le c, List.take_of_length_le c, List.nil_append, List.append_assoc, List.replicate_append_replicate]
   congr 2
   simp only [List.length_nil]; omega
  ·have : (x.take 15).length = 15 := by rw [List.length_take]; omega
   rw [this, Nat.sub_self, List.replicate_zero, List.append_nil, ← List.append_assoc, List.take_append_drop, List.length_drop]
   congr 2
   omega
theorem Kmt (n : Nat) : Jlb (List.replicate n 0) = false := by
 unfold Jlb
 rw [List.any_eq_false]
 intro x hx
 rw [List.eq_of_mem_replicate hx]; decide
theorem K3z {x : Bys} (h : Jlb x = false) : x = List.replicate x.length 0 := by
 refine List.eq_replicate_of_mem fun y hy => ?_
 have := List.any_eq_false.1 h y hy
 have : y.toNat = 0 := by simpa using this
 exact UInt8.toNat_inj.1 this
theorem Kyx {p : Jbe} (hp : p.length = 16) {ps : List Jbe} (h16 : Jqr ps = true) (hd : ∀ q, q ∈ ps → Je5 q = true) {num : Nat} (hn : num < 4294967296) :
  Js9 p num ps.length (Jhs ps) = true ↔ fld p 8 4 ≤ 65536 ∧ fld p 8 4 ≤ 15 * ps.length ∧ p = Jsd ((Jhs ps).take (fld p 8 4)) num ∧ fld p 5 3 = ps.length ∧ ps = Jc0 ((Jhs ps).take (fld p 8 4)) := by
 have hl := J30 h16
 unfold Js9
 simp only [Bool.and_eq_true, decide_eq_true_eq, Bool.not_eq_true']
 constructor
 ·rintro ⟨⟨h1, h2, h3, h4, h5⟩, h6, h7⟩
  have hle : fld p 8 4 ≤ 15 * ps.length := by unfold Jaq at h5; omega
  have htl : ((Jhs ps).take (fld p 8 4)).length = fld p 8 4 := by rw [List.length_take]; omega
  refine ⟨h4, hle, (J85 hp hn (by omega)).2 ⟨h1, by omega, by rw [htl, h5, h3], htl.symm, h7⟩, h3, ?_⟩
  have hz := K3z h6
  have e : Jhs ps = (Jhs ps).take (fld p 8 4) ++ List.replicate ((Jhs ps).drop (fld p 8 4)).length 0 := by
   rw [← hz, List.take_append_drop]
  have hr := Kyw ps h16 hd
  rw [e, J86] at hr
  unfold Jc0
  rw [htl, h5]
  exact hr.symm
 ·rintro ⟨h4, hle, hc, h3, hps⟩
  have htl : ((Jhs ps).take (fld p 8 4)).length = fld p 8 4 := by rw [List.length_take]; omega
  obtain ⟨g1, g2, g3, g4, g5⟩ := (J85 hp hn (b := (Jhs ps).take (fld p 8 4)) (by omega)).1 hc
  have hk : Jaq (fld p 8 4) = ps.length := by
   have := congrArg List.length hps
   rw [Jcl, htl] at this; exact this.symm
  refine ⟨⟨g1, by omega, h3, h4, hk⟩, ?_, g5⟩
  have e : Jhs ps = (Jhs ps).take (fld p 8 4) ++ List.replicate (15 * ps.length - fld p 8 4) 0 := by
   have := congrArg Jhs hps
   unfold Jc0 at this
   rw [Jyz _ _ (by rw [htl]; unfold Jaq; omega), htl, hk] at this
   exact this
  have : (Jhs ps).drop (fld p 8 4) = List.replicate (15 * ps.length - fld p 8 4) 0 := by
   have := congrArg (List.drop (fld p 8 4)) e
   rwa [List.drop_left' htl] at this
  rw [this]
  exact Kmt _
end Go.AI
