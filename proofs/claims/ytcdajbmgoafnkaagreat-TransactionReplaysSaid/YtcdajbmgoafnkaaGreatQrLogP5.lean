/- Texts of the proof, joined: LogP5. Names of our own are shortened by program; the long ones stand in wip/. -/
import Derived.Test.YtcdajbmgoafnkaaGreatQrLogP4
namespace Go.AI
open Go
theorem K41 : ∀ k, J1m k [] = List.replicate k (Ksj [])
 | 0 => rfl
 | k + 1 => by show Ksj [] :: J1m k [] = _; rw [K41 k]; rfl
theorem Kbn {X : Type} (F : Nat) (fail : X) (ex0 : Bys → Int → List Jbw → X) (b : Bys) (k : Nat) (hk : k ≤ 1000000) : ∀ (j m i : Nat), i + j = k → j ≤ m →
  Jqr F fail ex0 (m + 1) b i (List.replicate i (Ksj []) ++ List.replicate (k - i) z16) = ex0 b (k : Int) (J1m k [])
 | 0, m, i, hi, _ => by
  obtain rfl : i = k := by omega
  rw [Jqr, J87]
  rw [Jab (ff (by simp)), K41, Nat.sub_self, List.replicate_zero, List.append_nil]
 | j + 1, 0, i, _, hm => absurd hm (by omega)
 | j + 1, m + 1, i, hi, hm => by
  have ih := Kbn F fail ex0 b k hk j m (i + 1) (by omega) (by omega)
  have hl : (List.replicate i (Ksj []) ++ List.replicate (k - i) z16).length = k := by simp; omega
  rw [Jqr, J87]
  rw [hl, Int.toNat_natCast, Jaa (tt (by omega)), Jaa (tt2 (by omega) (by omega)), Jai (by omega) (by omega), J2d]
  have hg : (List.replicate i (Ksj []) ++ List.replicate (k - i) z16).getD i z16 = z16 := by
   rw [List.getD, List.getElem?_append_right (by simp), List.length_replicate, Nat.sub_self, show k - i = (k - (i + 1)) + 1 by omega]; rfl
  have hs : (List.replicate i (Ksj []) ++ List.replicate (k - i) z16).set i (z16.set 0 1) = List.replicate (i + 1) (Ksj []) ++ List.replicate (k - (i + 1)) z16 := by
   rw [List.set_append_right _ _ (by simp), List.length_replicate, Nat.sub_self, show k - i = (k - (i + 1)) + 1 by omega, List.replicate_succ, List.set_cons_zero, show z16.set 0 1 = Ksj [] from rfl, List.replicate_succ', List.append_assoc]; rfl
  rw [hg, hs]
  exact ih
theorem Qdv (x : Bys) (y : UInt8) (h : x.length < 15) : (Ksj x).set (1 + x.length) y = Ksj (x ++ [y]) := by
 unfold Ksj
 rw [List.take_of_length_le (by omega), List.take_of_length_le (by rw [List.length_append, List.length_singleton]; omega), Nat.add_comm, List.set_cons_succ, List.set_append_right _ _ (Nat.le_refl _), Nat.sub_self, List.length_append, List.length_singleton, show 15 - x.length = (15 - (x.length + 1)) + 1 by omega, List.replicate_succ, List.set_cons_zero, List.append_assoc]; rfl
theorem Qdw (k : Nat) (b : Bys) (i : Nat) (hi : i < b.length) : (J1m k (b.take i)).set (i / 15) (((J1m k (b.take i)).getD (i / 15) z16).set (1 + i % 15) (b.getD i 0)) = J1m k (b.take (i + 1)) := by
 apply List.ext_getElem
 ·rw [List.length_set, Jsl, Jsl]
 intro q h1 h2
 rw [List.length_set, Jsl] at h1
 have g : ∀ c : Bys, (hq : q < (J1m k c).length) → (J1m k c)[q] = Ksj (c.drop (15 * q)) := fun c hq => by rw [← Jsh (d := z16) hq, Knd k c q h1]
 rw [g, List.getElem_set]
 by_cases e : i / 15 = q
 ·subst e
  rw [if_pos rfl, Knd k _ _ h1]
  have hd : ((b.take i).drop (15 * (i / 15))).length = i % 15 := by rw [List.length_drop, List.length_take]; omega
  rw [← hd, Qdv _ _ (by rw [hd]; omega), Jd9 b i 0 hi, List.drop_append_of_le_length (by rw [List.length_take]; omega)]
 ·rw [if_neg e, g]
  unfold Ksj
  have e2 : ((b.take (i + 1)).drop (15 * q)).take 15 = ((b.take i).drop (15 * q)).take 15 := by
   rw [List.drop_take, List.drop_take, List.take_take, List.take_take]
   by_cases c : 15 * q + 15 ≤ i
   ·rw [show min 15 (i + 1 - 15 * q) = min 15 (i - 15 * q) by omega]
   ·rw [show i + 1 - 15 * q = 0 by omega, show i - 15 * q = 0 by omega]
  rw [e2]
theorem Kbo {X : Type} (F : Nat) (fail : X) (ex0 : Bys → Int → List Jbw → X) (b : Bys) (k : Nat) (hb : b.length ≤ 1000000) (hk : b.length ≤ 15 * k) : ∀ (j m i : Nat), i + j = b.length → j ≤ m →
  Jqs F fail ex0 (m + 1) b i (J1m k (b.take i)) = ex0 b (b.length : Nat) (J1m k b)
 | 0, m, i, hi, _ => by
  obtain rfl : i = b.length := by omega
  rw [Jqs, J88]
  rw [Jab (ff (by omega)), List.take_length]
 | j + 1, 0, i, _, hm => absurd hm (by omega)
 | j + 1, m + 1, i, hi, hm => by
  have ih := Kbo F fail ex0 b k hb hk j m (i + 1) (by omega) (by omega)
  have e1 : Jzd (i : Int) 15 = ((i / 15 : Nat) : Int) := by rw [Jrp (by omega) (by omega) (by omega)]; omega
  have e2 : Jag 1 (Jcg (i : Int) 15) = ((1 + i % 15 : Nat) : Int) := by rw [Jj6 (by omega), Jai (by omega) (by omega)]; omega
  rw [Jqs, J88]
  rw [e1, e2, Int.toNat_natCast, Int.toNat_natCast, Int.toNat_natCast, Jsl, Jaa (tt (by omega)), Jaa (tt2 (by omega) (by omega)), Jaa (tt2 (by omega) (by omega)), Jaa (tt2 (by omega) (by omega)), Jai (by omega) (by omega), J2d, Qdw k b i (by omega)]
  exact ih
theorem Kzt (b : Bys) (h : Ka2 b = true) : ∃ F, ∀ {X : Type} (fail : X) (ret : List Jbw → X), Qmf F b fail ret = ret (Jzf b) := ⟨b.length + 1, fun fail ret => by
 simp only [Ka2, decide_eq_true_eq] at h
 have hp : Jgu (b.length : Int) = true := tt (by omega)
 have hn : Jc8 (b.length : Int) = ((Jco b.length : Nat) : Int) := rfl
 have hnb : Jco b.length ≤ b.length ∧ b.length ≤ 15 * Jco b.length := by unfold Jco; omega
 unfold Qmf Jzf Jqa
 rw [hp, cond_true, hn, Jaa (by rw [Bool.and_true]; exact tt2 (by omega) (by unfold big; omega)), Int.toNat_natCast]
 refine (Kbn (b.length + 1) fail _ b (Jco b.length) (by omega) (Jco b.length) b.length 0 (by omega) (by omega)).trans ?_
 exact Kbo (b.length + 1) fail (fun _ _ o => ret o) b (Jco b.length) (by omega) (by omega) b.length b.length 0 (by omega) (by omega)⟩
theorem Ksm : ∀ (ps : List Jbw) (i : Nat), J1o ps = true → i < 15 * ps.length → (Jf1 ps).getD i 0 = (ps.getD (i / 15) z16).getD (1 + i % 15) 0
 | [], i, _, h => absurd h (by simp)
 | p :: ps, i, h, hi => by
  have h' := Jlk.1 h
  have hl : ((p.drop 1).take 15).length = 15 := by rw [List.length_take, List.length_drop]; omega
  rw [Jqw]
  by_cases c : i < 15
  ·have e : ((p.drop 1).take 15 ++ Jf1 ps).getD i 0 = p.getD (1 + i) 0 := by
    simp only [List.getD, List.getElem?_append_left (show i < ((p.drop 1).take 15).length by omega)]
    rw [List.getElem?_take_of_lt c, List.getElem?_drop]
   rw [e, show i / 15 = 0 by omega, show i % 15 = i by omega]; rfl
  ·have e : ((p.drop 1).take 15 ++ Jf1 ps).getD i 0 = (Jf1 ps).getD (i - 15) 0 := by
    simp only [List.getD, List.getElem?_append_right (show ((p.drop 1).take 15).length ≤ i by omega), hl]
   rw [e, Ksm ps (i - 15) h'.2 (by rw [List.length_cons] at hi; omega), show i / 15 = (i - 15) / 15 + 1 by omega, show (i - 15) % 15 = i % 15 by omega]; rfl
theorem Jus {X : Type} (F : Nat) (fail : X) (ex0 : List Jbw → Int → Int → X) (l : List Jbw) (num : Int) (hl : l.length ≤ 1000000) : ∀ (j m k : Nat), k + j = l.length → j ≤ m →
  Jhq F fail ex0 (m + 1) l num k = ex0 l num ((k + ((l.drop k).takeWhile Jdp).length : Nat) : Int)
 | 0, m, k, hk, _ => by
  obtain rfl : k = l.length := by omega
  rw [Jhq, Jpf]
  rw [Jab (ff (by omega)), List.drop_length]; rfl
 | j + 1, 0, k, _, hm => absurd hm (by omega)
 | j + 1, m + 1, k, hk, hm => by
  have ih := Jus F fail ex0 l num hl j m (k + 1) (by omega) (by omega)
  rw [Jhq, Jpf]
  rw [Int.toNat_natCast, Jaa (tt (by omega)), Jaa (tt2 (by omega) (by omega)), Jdj z16 (show k < l.length by omega), List.takeWhile_cons]
  by_cases c : Jdp (l.getD k z16) = true
  ·rw [Jaa (Jk8 (by rw [Jnq.1 c]; rfl)), if_pos c, Jai (by omega) (by omega), J2d, ih, List.length_cons]
   congr 1; omega
  ·rw [Jab (Jl3 (fun e => c (Jnq.2 (by omega)))), if_neg c]; rfl
theorem Jut {X : Type} (F : Nat) (fail : X) (ex0 : List Jbw → Int → Int → Int → Int → Bys → X) (l : List Jbw) (num : Int) (k n : Nat) (hk : k ≤ l.length) (hl : l.length ≤ 1000000) (hn : n ≤ 15 * k) (hn2 : n ≤ 65536) (h16 : J1o (l.take k) = true) : ∀ (j m i : Nat), i + j = n → j ≤ m →
  Jhr F fail ex0 (m + 1) l num k n i ((Jf1 (l.take k)).take i) = ex0 l num k n n ((Jf1 (l.take k)).take n)
 | 0, m, i, hi, _ => by
  obtain rfl : i = n := by omega
  rw [Jhr, Jpg]
  rw [Jab (ff (by omega))]
 | j + 1, 0, i, _, hm => absurd hm (by omega)
 | j + 1, m + 1, i, hi, hm => by
  have ih := Jut F fail ex0 l num k n hk hl hn hn2 h16 j m (i + 1) (by omega) (by omega)
  have hlen : (Jf1 (l.take k)).length = 15 * k := by rw [J2o h16, List.length_take]; omega
  have e1 : Jzd (i : Int) 15 = ((i / 15 : Nat) : Int) := by rw [Jrp (by omega) (by omega) (by omega)]; omega
  have e2 : Jag 1 (Jcg (i : Int) 15) = ((1 + i % 15 : Nat) : Int) := by rw [Jj6 (by omega), Jai (by omega) (by omega)]; omega
  have eg : (Jf1 (l.take k)).getD i 0 = (l.getD (i / 15) z16).getD (1 + i % 15) 0 := by
   rw [Ksm _ i h16 (by rw [List.length_take]; omega)]
   congr 1
   simp only [List.getD, List.getElem?_take_of_lt (show i / 15 < k by omega)]
  rw [Jd9 _ i 0 (by omega), eg] at ih
  rw [Jhr, Jpg]
  rw [e1, e2, Int.toNat_natCast, Int.toNat_natCast, Jaa (tt (by omega)), Jaa (tt2 (by omega) (by omega)), Jaa (tt2 (by omega) (by omega)), Jaa (Jch (by rw [List.length_append, List.length_singleton, List.length_take]; omega)), Jai (by omega) (by omega), J2d]
  exact ih
theorem K7u {p : Jbw} (h : p.length = 16) : p = p.getD 0 0 :: (be 4 (fld p 1 4) ++ (be 3 (fld p 5 3) ++ (be 4 (fld p 8 4) ++ be 4 (fld p 12 4)))) := by
 have hb : ∀ a n, a + n ≤ 16 → be n (fld p a n) = (p.drop a).take n := fun a n hn => by
  have := Qkw ((p.drop a).take n)
  rwa [List.length_take, List.length_drop, show min n (p.length - a) = n by omega] at this
 rw [hb 1 4 (by omega), hb 5 3 (by omega), hb 8 4 (by omega), hb 12 4 (by omega)]
 match p, h with
 | [x0, x1, x2, x3, x4, x5, x6, x7, x8, x9, x10, x11, x12, x13, x14, x15], _ => rfl
theorem Qng (b : Bys) (c : Nat) : fld (K6z b c) 1 4 = c % 4294967296 ∧ fld (K6z b c) 5 3 = Jco b.length % 16777216 ∧ fld (K6z b c) 8 4 = b.length % 4294967296 ∧ fld (K6z b c) 12 4 = K9r b :=
 ⟨Ksa 4 c, Ksa 3 _, Ksa 4 _, (Ksa 4 _).trans (Nat.mod_eq_of_lt (Km5 b))⟩
theorem Kiy {p : Jbw} (h : p.length = 16) {b : Bys} {c : Nat} (hc : c < 4294967296) (hb : b.length ≤ 65536) :
  p = K6z b c ↔ (p.getD 0 0).toNat = 2 ∧ fld p 1 4 = c ∧ fld p 5 3 = Jco b.length ∧ fld p 8 4 = b.length ∧ fld p 12 4 = K9r b := by
 obtain ⟨f1, f2, f3, f4⟩ := Qng b c
 have hn : Jco b.length < 16777216 := by unfold Jco; omega
 constructor
 ·rintro rfl
  exact ⟨rfl, by rw [f1]; omega, by rw [f2]; omega, by rw [f3]; omega, f4⟩
 ·rintro ⟨h1, h2, h3, h4, h5⟩
  rw [K7u h, h2, h3, h4, h5, UInt8.toNat_inj.1 (show (p.getD 0 0).toNat = (2 : UInt8).toNat from h1)]; rfl
theorem Qdx : ∀ (ps : List Jbw), J1o ps = true → (∀ p, p ∈ ps → Jdp p = true) → J1m ps.length (Jf1 ps) = ps
 | [], _, _ => rfl
 | p :: ps, h, hd => by
  have h' := Jlk.1 h
  have hl : ((p.drop 1).take 15).length = 15 := by rw [List.length_take, List.length_drop]; omega
  have h1 : p.getD 0 0 = 1 := UInt8.toNat_inj.1 (Jnq.1 (hd p List.mem_cons_self))
  rw [Jqw, List.length_cons, J1m, List.take_left' hl, List.drop_left' hl, Qdx ps h'.2 (fun q hq => hd q (List.mem_cons_of_mem _ hq)), hl, Nat.sub_self, List.replicate_zero, List.append_nil]
  have e : p = p.getD 0 0 :: p.drop 1 := by
   rw [← Jdj (0 : UInt8) (show 0 < p.length by omega), List.drop_zero]
  rw [List.take_of_length_le (by rw [List.length_drop]; omega), ← h1]
  exact congrArg (· :: ps) e.symm
theorem Kiz : ∀ (k : Nat) (x : Bys) (m : Nat), J1m k (x ++ List.replicate m 0) = J1m k x
 | 0, _, _ => rfl
 | k + 1, x, m => by
  have e1 : (x ++ List.replicate m 0).take 15 ++ List.replicate (15 - ((x ++ List.replicate m 0).take 15).length) 0 = x.take 15 ++ List.replicate (15 - (x.take 15).length) (0 : UInt8) := by
   rw [List.take_append, List.take_replicate, List.append_assoc, List.replicate_append_replicate]
   congr 2
   simp only [List.length_append, List.length_take, List.length_replicate]; omega
  have e2 : (x ++ List.replicate m 0).drop 15 = x.drop 15 ++ List.replicate (m - (15 - x.length)) (0 : UInt8) := by
   rw [List.drop_append, List.drop_replicate]
  rw [J1m, J1m, e1, e2, Kiz k]
theorem Ki0 : ∀ (k : Nat) (x : Bys), x.length ≤ 15 * k → Jf1 (J1m k x) = x ++ List.replicate (15 * k - x.length) 0
 | 0, x, h => by
  have : x = [] := List.length_eq_zero_iff.1 (by omega)
  subst this; rfl
 | k + 1, x, h => by
  rw [J1m, Jqw, Ki0 k _ (by rw [List.length_drop]; omega)]
  rw [List.drop_succ_cons, List.drop_zero, List.take_of_length_le (by simp only [List.length_append, List.length_take, List.length_replicate]; omega)]
  by_cases c : x.length ≤ 15
  ·rw [List.drop_eq_nil_of_le c, List.take_of_length_le c, List.nil_append, List.append_assoc, List.replicate_append_replicate]
   congr 2
   simp only [List.length_nil]; omega
  ·have : (x.take 15).length = 15 := by rw [List.length_take]; omega
   rw [this, Nat.sub_self, List.replicate_zero, List.append_nil, ← List.append_assoc, List.take_append_drop, List.length_drop]
   congr 2
   omega
theorem Kzu (n : Nat) : Jnk (List.replicate n 0) = false := by
 unfold Jnk
 rw [List.any_eq_false]
 intro x hx
 rw [List.eq_of_mem_replicate hx]; decide
theorem Qi9 {x : Bys} (h : Jnk x = false) : x = List.replicate x.length 0 := by
 refine List.eq_replicate_of_mem fun y hy => ?_
 have := List.any_eq_false.1 h y hy
 have : y.toNat = 0 := by simpa using this
 exact UInt8.toNat_inj.1 this
theorem Qdy {p : Jbw} (hp : p.length = 16) {ps : List Jbw} (h16 : J1o ps = true) (hd : ∀ q, q ∈ ps → Jdp q = true) {num : Nat} (hn : num < 4294967296) :
  Jzi p num ps.length (Jf1 ps) = true ↔ fld p 8 4 ≤ 65536 ∧ fld p 8 4 ≤ 15 * ps.length ∧ p = K6z ((Jf1 ps).take (fld p 8 4)) num ∧ fld p 5 3 = ps.length ∧ ps = Jqa ((Jf1 ps).take (fld p 8 4)) := by
 have hl := J2o h16
 unfold Jzi
 simp only [Bool.and_eq_true, decide_eq_true_eq, Bool.not_eq_true']
 constructor
 ·rintro ⟨⟨h1, h2, h3, h4, h5⟩, h6, h7⟩
  have hle : fld p 8 4 ≤ 15 * ps.length := by unfold Jco at h5; omega
  have htl : ((Jf1 ps).take (fld p 8 4)).length = fld p 8 4 := by rw [List.length_take]; omega
  refine ⟨h4, hle, (Kiy hp hn (by omega)).2 ⟨h1, by omega, by rw [htl, h5, h3], htl.symm, h7⟩, h3, ?_⟩
  have hz := Qi9 h6
  have e : Jf1 ps = (Jf1 ps).take (fld p 8 4) ++ List.replicate ((Jf1 ps).drop (fld p 8 4)).length 0 := by
   rw [← hz, List.take_append_drop]
  have hr := Qdx ps h16 hd
  rw [e, Kiz] at hr
  unfold Jqa
  rw [htl, h5]
  exact hr.symm
 ·rintro ⟨h4, hle, hc, h3, hps⟩
  have htl : ((Jf1 ps).take (fld p 8 4)).length = fld p 8 4 := by rw [List.length_take]; omega
  obtain ⟨g1, g2, g3, g4, g5⟩ := (Kiy hp hn (b := (Jf1 ps).take (fld p 8 4)) (by omega)).1 hc
  have hk : Jco (fld p 8 4) = ps.length := by
   have := congrArg List.length hps
   rw [J4t, htl] at this; exact this.symm
  refine ⟨⟨g1, by omega, h3, h4, hk⟩, ?_, g5⟩
  have e : Jf1 ps = (Jf1 ps).take (fld p 8 4) ++ List.replicate (15 * ps.length - fld p 8 4) 0 := by
   have := congrArg Jf1 hps
   unfold Jqa at this
   rw [Ki0 _ _ (by rw [htl]; unfold Jco; omega), htl, hk] at this
   exact this
  have : (Jf1 ps).drop (fld p 8 4) = List.replicate (15 * ps.length - fld p 8 4) 0 := by
   have := congrArg (List.drop (fld p 8 4)) e
   rwa [List.drop_left' htl] at this
  rw [this]
  exact Kzu _
theorem Qkx : ∀ (l : List Jbw) (q : Jbw), q ∈ l.takeWhile Jdp → Jdp q = true
 | [], _, h => by cases h
 | p :: l, q, h => by
  rw [List.takeWhile_cons] at h
  split at h
  ·rename_i hp
   rcases List.mem_cons.1 h with rfl | h
   ·exact hp
   ·exact Qkx l q h
  ·cases h
end Go.AI
