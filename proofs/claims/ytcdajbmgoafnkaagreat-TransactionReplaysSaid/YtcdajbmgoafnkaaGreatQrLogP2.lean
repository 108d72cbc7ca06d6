/- Texts of the proof, joined: LogP2. Names of our own are shortened by program; the long ones stand in wip/. -/
import Derived.Test.YtcdajbmgoafnkaaGreatQrLogP
namespace Go.AI
open Go
theorem Qdr : ∀ k n, (be k n).length = k
 | 0, _ => rfl
 | k + 1, n => by simp [be, Qdr k n]
theorem Kzm : ∀ (l : Bys) (a : Nat), l.foldl (fun n b => 256 * n + b.toNat) a = a * 256 ^ l.length + beV l
 | [], a => by simp [beV]
 | x :: l, a => by
  show l.foldl _ (256 * a + x.toNat) = _
  rw [Kzm l, show beV (x :: l) = l.foldl (fun n b => 256 * n + b.toNat) (256 * 0 + x.toNat) from rfl, Kzm l (256 * 0 + x.toNat), List.length_cons, Nat.pow_succ, Nat.add_mul, Nat.add_mul, Nat.mul_zero, Nat.zero_mul, Nat.zero_add, Nat.mul_comm 256 a, Nat.mul_assoc, Nat.mul_comm 256, Nat.add_assoc]
theorem Km8 (x : UInt8) (l : Bys) : beV (x :: l) = x.toNat * 256 ^ l.length + beV l := by
 show l.foldl _ (256 * 0 + x.toNat) = _
 rw [Kzm]; simp
theorem Qds : ∀ l : Bys, beV l < 256 ^ l.length
 | [] => by simp [beV]
 | x :: l => by
  rw [Km8, List.length_cons, Nat.pow_succ]
  have h := Qds l
  have hx := x.toNat_lt
  calc x.toNat * 256 ^ l.length + beV l < x.toNat * 256 ^ l.length + 256 ^ l.length := by omega
   _ = (x.toNat + 1) * 256 ^ l.length := by rw [Nat.add_mul, Nat.one_mul]
   _ ≤ 256 * 256 ^ l.length := Nat.mul_le_mul_right _ (by omega)
   _ = 256 ^ l.length * 256 := Nat.mul_comm _ _
theorem Ksa : ∀ k n, beV (be k n) = n % 256 ^ k
 | 0, n => by simp [be, beV, Nat.mod_one]
 | k + 1, n => by
  rw [be, Km8, Qdr, Ksa k n]
  have e : (UInt8.ofNat (n / 256 ^ k)).toNat = n / 256 ^ k % 256 := by simp
  rw [e, Nat.pow_succ, Nat.mod_mul]
  rw [Nat.mul_comm, Nat.add_comm]
theorem Qkw : ∀ l : Bys, be l.length (beV l) = l
 | [] => rfl
 | x :: l => by
  have h := Qds l
  have hp : 0 < 256 ^ l.length := by omega
  rw [List.length_cons, be, Km8]
  have e1 : (x.toNat * 256 ^ l.length + beV l) / 256 ^ l.length = x.toNat := by
   rw [Nat.add_comm, Nat.add_mul_div_right _ _ hp, Nat.div_eq_of_lt h, Nat.zero_add]
  rw [e1]
  have e2 : ∀ (k a b : Nat), be k (a * 256 ^ k + b) = be k b := by
   intro k
   induction k with
   | zero => intro a b; rfl
   | succ k ih =>
    intro a b
    have hk : 0 < 256 ^ k := Nat.pow_pos (by omega)
    rw [be, be, Nat.pow_succ, ← Nat.mul_assoc, Nat.mul_right_comm, ih (a * 256) b]
    congr 1
    rw [Nat.add_comm, Nat.add_mul_div_right _ _ hk]
    apply UInt8.toNat_inj.1
    simp
  rw [e2, Qkw l]
  simp
theorem Kbk {X : Type} (F : Nat) (fail : X) (ex0 : Int → Bys → Int → Int → X) (l : Bys) (hl : l.length ≤ 7) : ∀ (j m i n : Nat), i + j = l.length → j ≤ m → n < 256 ^ i →
  Jm1 F fail ex0 (m + 1) (n : Int) l (l.length : Nat) i = ex0 (((l.drop i).foldl (fun n b => 256 * n + b.toNat) n : Nat) : Int) l (l.length : Nat) (l.length : Nat)
 | 0, m, i, n, hi, _, _ => by
  obtain rfl : i = l.length := by omega
  rw [Jm1, J2b]
  rw [Jab (ff (by omega)), List.drop_length]; rfl
 | j + 1, 0, i, _, _, hm, _ => absurd hm (by omega)
 | j + 1, m + 1, i, n, hi, hm, hn => by
  have hx : (l.getD i 0).toNat < 256 := (l.getD i 0).toNat_lt
  have hp : 256 ^ i ≤ 256 ^ 6 := Nat.pow_le_pow_right (by omega) (by omega)
  have hp6 : 256 ^ 6 = 281474976710656 := rfl
  rw [hp6] at hp
  have ih := Kbk F fail ex0 l hl j m (i + 1) (256 * n + (l.getD i 0).toNat) (by omega) (by omega) (by rw [Nat.pow_succ]; omega)
  have e : orI (Qln (n : Int) 8) (Ke2 (l.getD i 0)) = ((256 * n + (l.getD i 0).toNat : Nat) : Int) := by
   have e1 : Qln (n : Int) 8 = ((256 * n : Nat) : Int) := by
    rw [Qbq (by omega) (by omega)]
    ·show (n : Int) * 2 ^ 8 = _; omega
    ·show _ ≤ (n : Int) * 2 ^ 8; omega
    ·show (n : Int) * 2 ^ 8 < _; omega
   rw [e1, Jt9, Qj9 (by omega) (by omega)]
   congr 1
   exact (Nat.two_pow_add_eq_or_of_lt (i := 8) hx n).symm
  rw [Jm1, J2b]
  rw [Int.toNat_natCast, Jaa (tt (by omega)), Jaa (tt2 (by omega) (by omega)), e, Jai (by omega) (by omega), J2d, ih, Jdj (0 : UInt8) (show i < l.length by omega)]; rfl
theorem Ksb (l : Bys) (h : Jo0 l = true) : ∃ F, ∀ {X : Type} (fail : X) (ret : Int → X), Qcd F l fail ret = ret (Jck l) := ⟨l.length + 1, fun fail ret => by
 simp only [Jo0, decide_eq_true_eq] at h
 unfold Qcd
 exact Kbk (l.length + 1) fail (fun n _ _ _ => ret n) l h l.length l.length 0 0 (by omega) (by omega) (by simp)⟩
theorem Qi7 (p : Jbw) (a i : Nat) (h : a + i < p.length) : (p.drop a).take (i + 1) = (p.drop a).take i ++ [p.getD (a + i) 0] := by
 rw [Jd9 _ i 0 (by rw [List.length_drop]; omega)]
 simp [List.getD]
theorem Ksc {X : Type} (F : Nat) (fail : X) (ex0 : Int → Int → Int → Int → Jbw → X) (p : Jbw) (a k : Nat) (hp : p.length = 16) (ha : a + k ≤ 16) (hk : k ≤ 7) : ∀ (j m i : Nat), i + j = k → j ≤ m →
  Jxe F fail ex0 (m + 1) (a : Int) (k : Int) ((fld p a i : Nat) : Int) i p = ex0 (a : Int) (k : Int) ((fld p a k : Nat) : Int) (k : Int) p
 | 0, m, i, hi, _ => by
  obtain rfl : i = k := by omega
  rw [Jxe, Kmg]
  rw [Jab (ff (by omega))]
 | j + 1, 0, i, _, hm => absurd hm (by omega)
 | j + 1, m + 1, i, hi, hm => by
  have ih := Ksc F fail ex0 p a k hp ha hk j m (i + 1) (by omega) (by omega)
  have hx : (p.getD (a + i) 0).toNat < 256 := (p.getD (a + i) 0).toNat_lt
  have hl := Qds ((p.drop a).take i)
  have hle : ((p.drop a).take i).length = i := by rw [List.length_take, List.length_drop]; omega
  rw [hle] at hl
  have hp7 : 256 ^ i ≤ 256 ^ 6 := Nat.pow_le_pow_right (by omega) (by omega)
  have hp6 : 256 ^ 6 = 281474976710656 := rfl
  rw [hp6] at hp7
  have e : fld p a (i + 1) = 256 * fld p a i + (p.getD (a + i) 0).toNat := by
   unfold fld
   rw [Qi7 p a i (by omega)]
   unfold beV
   rw [List.foldl_append]; rfl
  have hf : fld p a i < 281474976710656 := Nat.lt_of_lt_of_le hl hp7
  rw [Jxe, Kmg]
  rw [Jaa (tt (by omega)), Jai (a := (a : Int)) (by omega) (by omega), show ((a : Int) + (i : Int)).toNat = a + i by omega, Jaa (tt2 (by omega) (by omega)), Jff (by omega) (by omega), Jt9, Jai (a := 256 * _) (by omega) (by omega), Jai (a := (i : Int)) (by omega) (by omega), J2d]
  rw [show (256 * ((fld p a i : Nat) : Int) + ((p.getD (a + i) 0).toNat : Int)) = ((fld p a (i + 1) : Nat) : Int) by rw [e]; omega]
  exact ih
theorem K7q (p : Jbw) (a n : Int) (h : Ka1 p a n = true) : ∃ F, ∀ {X : Type} (fail : X) (ret : Int → X), qGet F p a n fail ret = ret (J1l p a n) := ⟨n.toNat + 1, fun fail ret => by
 simp only [Ka1, decide_eq_true_eq] at h
 obtain ⟨a', rfl⟩ := Int.eq_ofNat_of_zero_le h.2.1
 obtain ⟨n', rfl⟩ := Int.eq_ofNat_of_zero_le h.2.2.1
 unfold qGet J1l
 exact Ksc (n' + 1) fail (fun _ _ n _ _ => ret n) p a' n' h.1 (by omega) (by omega) n' n' 0 (by omega) (by omega)⟩
theorem Km9 {p r : Jbw} {m : Nat} (h : m < p.length) (y : UInt8) : (p.take (m + 1) ++ r).set m y = p.take m ++ (y :: r) := by
 rw [Jd9 p m 0 h, List.append_assoc, List.set_append_right _ _ (by rw [List.length_take]; omega)]
 rw [List.length_take, show m - min m p.length = 0 by omega]; rfl
theorem Kna (v i : Nat) (hi : i ≤ 7) : Kfc (Kqz (v : Int) (8 * (i : Int))) = UInt8.ofNat (v / 256 ^ i) := by
 rw [Klf (by omega) (by omega), Kau]
 have e : (2 : Int) ^ (8 * (i : Int)).toNat = ((256 ^ i : Nat) : Int) := by
  rw [show (8 * (i : Int)).toNat = 8 * i by omega, Int.pow_mul]
  show (256 : Int) ^ i = _
  rw [Int.natCast_pow]; rfl
 rw [e, ← Int.natCast_ediv]
 have : ((((v / 256 ^ i : Nat) : Int) % 256).toNat) = v / 256 ^ i % 256 := by omega
 rw [this]
 apply UInt8.toNat_inj.1
 simp
theorem Qdt {X : Type} (F : Nat) (fail : X) (ex0 : Nat → Nat → Int → Int → Int → Bys → Jbw → Jbw → X) (b : Bys) (p s4 : Jbw) (a n v : Nat) (hp : p.length = 16) (ha : a + n ≤ 16) (hn : n ≤ 7) (_ : v ≤ 1000000000000) (hF : n < F) :
  Jse F fail ex0 F a n (v : Int) (n : Int) 0 b p s4 = ex0 a n (v : Int) (n : Int) (n : Int) b (Kyb p a n v) s4 := by
 have key : ∀ (j m i : Nat), i + j = n → j ≤ m → Jse F fail ex0 (m + 1) a n (v : Int) (n : Int) i b (p.take (a + n - i) ++ (be i v ++ p.drop (a + n))) s4 = ex0 a n (v : Int) (n : Int) (n : Int) b (Kyb p a n v) s4 := by
  intro j
  induction j with
  | zero =>
   intro m i hi _
   obtain rfl : i = n := by omega
   rw [Jse, Kmc]
   rw [Jab (ff (by omega)), show a + i - i = a by omega]; rfl
  | succ j ih =>
   intro m i hi hm
   obtain ⟨m', rfl⟩ : ∃ m', m = m' + 1 := ⟨m - 1, by omega⟩
   have ih := ih m' (i + 1) (by omega) (by omega)
   rw [Jse, Kmc]
   rw [Jaa (tt (by omega)), Jff (by omega) (by omega), Jaa (tt (by omega)), Jca (a := (n : Int)) (by omega) (by omega), Jca (a := (n : Int) - 1) (by omega) (by omega), Jaa (tt2 (by omega) (by omega)), Jai (by omega) (by omega), J2d, Kna v i (by omega), show a + ((n : Int) - 1 - (i : Int)).toNat = a + n - (i + 1) by omega]
   rw [show a + n - i = (a + n - (i + 1)) + 1 by omega, Km9 (by omega)]
   exact ih
 obtain ⟨F', rfl⟩ : ∃ F', F = F' + 1 := ⟨F - 1, by omega⟩
 have h := key n F' 0 (by omega) (by omega)
 have e0 : p.take (a + n - 0) ++ (be 0 v ++ p.drop (a + n)) = p := by simp [be]
 rw [e0] at h
 exact h
theorem Ksd {X : Type} (F : Nat) (fail : X) (ex0 : Nat → Nat → Int → Int → Int → Bys → Nat → Nat → Jbw → Jbw → X) (b : Bys) (p s4 : Jbw) (s10_i : Nat) (s10_n : Nat) (a n v : Nat) (hp : p.length = 16) (ha : a + n ≤ 16) (hn : n ≤ 7) (_ : v ≤ 1000000000000) (hF : n < F) :
  Jpe F fail ex0 F a n (v : Int) (n : Int) 0 b s10_i s10_n p s4 = ex0 a n (v : Int) (n : Int) (n : Int) b s10_i s10_n (Kyb p a n v) s4 := by
 have key : ∀ (j m i : Nat), i + j = n → j ≤ m → Jpe F fail ex0 (m + 1) a n (v : Int) (n : Int) i b s10_i s10_n (p.take (a + n - i) ++ (be i v ++ p.drop (a + n))) s4 = ex0 a n (v : Int) (n : Int) (n : Int) b s10_i s10_n (Kyb p a n v) s4 := by
  intro j
  induction j with
  | zero =>
   intro m i hi _
   obtain rfl : i = n := by omega
   rw [Jpe, Kmd]
   rw [Jab (ff (by omega)), show a + i - i = a by omega]; rfl
  | succ j ih =>
   intro m i hi hm
   obtain ⟨m', rfl⟩ : ∃ m', m = m' + 1 := ⟨m - 1, by omega⟩
   have ih := ih m' (i + 1) (by omega) (by omega)
   rw [Jpe, Kmd]
   rw [Jaa (tt (by omega)), Jff (by omega) (by omega), Jaa (tt (by omega)), Jca (a := (n : Int)) (by omega) (by omega), Jca (a := (n : Int) - 1) (by omega) (by omega), Jaa (tt2 (by omega) (by omega)), Jai (by omega) (by omega), J2d, Kna v i (by omega), show a + ((n : Int) - 1 - (i : Int)).toNat = a + n - (i + 1) by omega]
   rw [show a + n - i = (a + n - (i + 1)) + 1 by omega, Km9 (by omega)]
   exact ih
 obtain ⟨F', rfl⟩ : ∃ F', F = F' + 1 := ⟨F - 1, by omega⟩
 have h := key n F' 0 (by omega) (by omega)
 have e0 : p.take (a + n - 0) ++ (be 0 v ++ p.drop (a + n)) = p := by simp [be]
 rw [e0] at h
 exact h
theorem Qdu {X : Type} (F : Nat) (fail : X) (ex0 : Nat → Nat → Int → Int → Int → Bys → Nat → Nat → Nat → Nat → Jbw → Jbw → X) (b : Bys) (p s4 : Jbw) (s10_i : Nat) (s10_n : Nat) (s19_i : Nat) (s19_n : Nat) (a n v : Nat) (hp : p.length = 16) (ha : a + n ≤ 16) (hn : n ≤ 7) (_ : v ≤ 1000000000000) (hF : n < F) :
  Jsf F fail ex0 F a n (v : Int) (n : Int) 0 b s10_i s10_n s19_i s19_n p s4 = ex0 a n (v : Int) (n : Int) (n : Int) b s10_i s10_n s19_i s19_n (Kyb p a n v) s4 := by
 have key : ∀ (j m i : Nat), i + j = n → j ≤ m → Jsf F fail ex0 (m + 1) a n (v : Int) (n : Int) i b s10_i s10_n s19_i s19_n (p.take (a + n - i) ++ (be i v ++ p.drop (a + n))) s4 = ex0 a n (v : Int) (n : Int) (n : Int) b s10_i s10_n s19_i s19_n (Kyb p a n v) s4 := by
  intro j
  induction j with
  | zero =>
   intro m i hi _
   obtain rfl : i = n := by omega
   rw [Jsf, Kme]
   rw [Jab (ff (by omega)), show a + i - i = a by omega]; rfl
  | succ j ih =>
   intro m i hi hm
   obtain ⟨m', rfl⟩ : ∃ m', m = m' + 1 := ⟨m - 1, by omega⟩
   have ih := ih m' (i + 1) (by omega) (by omega)
   rw [Jsf, Kme]
   rw [Jaa (tt (by omega)), Jff (by omega) (by omega), Jaa (tt (by omega)), Jca (a := (n : Int)) (by omega) (by omega), Jca (a := (n : Int) - 1) (by omega) (by omega), Jaa (tt2 (by omega) (by omega)), Jai (by omega) (by omega), J2d, Kna v i (by omega), show a + ((n : Int) - 1 - (i : Int)).toNat = a + n - (i + 1) by omega]
   rw [show a + n - i = (a + n - (i + 1)) + 1 by omega, Km9 (by omega)]
   exact ih
 obtain ⟨F', rfl⟩ : ∃ F', F = F' + 1 := ⟨F - 1, by omega⟩
 have h := key n F' 0 (by omega) (by omega)
 have e0 : p.take (a + n - 0) ++ (be 0 v ++ p.drop (a + n)) = p := by simp [be]
 rw [e0] at h
 exact h
theorem Jxr {p : Jbw} {a n v : Nat} (hp : p.length = 16) (h : a + n ≤ 16) : (Kyb p a n v).length = 16 := by
 unfold Kyb
 rw [List.length_append, List.length_append, Qdr, List.length_take, List.length_drop]; omega
theorem K4y (b : Bys) (c : Nat) : Kyb (Kyb (Kyb (Kyb [2, 0, 0, 0, 0, 0, 0, 0, 0, 0, 0, 0, 0, 0, 0, 0] 1 4 c) 5 3 (Jco b.length)) 8 4 b.length) 12 4 (K9r b) = K6z b c := by
 unfold Kyb K6z
 simp [be]
theorem Kse (n : Int) (h : Jjs n = true) : ∃ F, ∀ {X : Type} (fail : X) (ret : Int → X), Qca F n fail ret = ret (Jh4 n) := ⟨0, fun fail ret => by
 simp only [Jjs, decide_eq_true_eq] at h
 unfold Qca Jh4 Jco
 rw [Jai (by omega) (by omega), Jca (by omega) (by omega), Jrp (by omega) (by omega) (by omega)]
 congr 1
 omega⟩
theorem J7n (n : Int) (h : Jgu n = true) : ∃ F, ∀ {X : Type} (fail : X) (ret : Int → X), J4k F n fail ret = ret (Jc8 n) := ⟨0, fun fail ret => by
 simp only [Jgu, Jjs, decide_eq_true_eq] at h
 unfold J4k Jc8 Jh4 Jco
 rw [Jai (by omega) (by omega), Jrp (by omega) (by omega) (by omega)]
 congr 1
 omega⟩
theorem K7r (b : Bys) (c : Int) (h : J1j b c = true) : ∃ F, ∀ {X : Type} (fail : X) (ret : Jbw → X), lEnd F b c fail ret = ret (J1k b c) := ⟨5, fun fail ret => by
 simp only [J1j, decide_eq_true_eq] at h
 obtain ⟨c', rfl⟩ := Int.eq_ofNat_of_zero_le h.2.1
 have hn : Jjs (b.length : Int) = true := tt (by omega)
 have hcs : Kih b = true := tt h.1
 have hcl := Km5 b
 have hnb : Jco b.length ≤ 1000000000 := by unfold Jco; omega
 have l0 : ([2, 0, 0, 0, 0, 0, 0, 0, 0, 0, 0, 0, 0, 0, 0, 0] : Jbw).length = 16 := rfl
 have l1 := Jxr (a := 1) (n := 4) (v := c') l0 (by omega)
 have l2 := Jxr (a := 5) (n := 3) (v := Jco b.length) l1 (by omega)
 have l3 := Jxr (a := 8) (n := 4) (v := b.length) l2 (by omega)
 unfold lEnd J1k
 refine (Qdt 5 fail _ b _ z16 1 4 c' l0 (by omega) (by omega) (by omega) (by omega)).trans ?_
 refine (Jaa hn _ _).trans ?_
 unfold Jh4
 rw [Int.toNat_natCast]
 refine (Ksd 5 fail _ b _ z16 5 3 5 3 (Jco b.length) l1 (by omega) (by omega) (by omega) (by omega)).trans ?_
 refine (Ksd 5 fail _ b _ z16 5 3 8 4 b.length l2 (by omega) (by omega) (by omega) (by omega)).trans ?_
 refine (Jaa hcs _ _).trans ?_
 rw [Km7]
 refine (Qdu 5 fail _ b _ z16 5 3 12 4 12 4 (K9r b) l3 (by omega) (by omega) (by omega) (by omega)).trans ?_
 rw [K4y, Int.toNat_natCast]⟩
theorem Qpg (q : Nat) (h : q ≤ 1000000000000) : Jzd (q : Int) 256 = ((q / 256 : Nat) : Int) := by
 rw [Jrp (by omega) (by omega) (by omega)]; omega
theorem Qph (q : Nat) : Kfc (Jcg (q : Int) 256) = UInt8.ofNat q := by
 rw [Jj6 (by omega), Kau]
 have : ((q : Int) % 256 % 256).toNat = q % 256 := by omega
 rw [this]
 apply UInt8.toNat_inj.1
 simp
theorem Ksf {X : Type} (F : Nat) (fail : X) (ex0 : Int → Int → Int → Jbw → Jbw → X) (s8 p : Jbw) (a n v : Nat) (hp : p.length = 16) (ha : a + n ≤ 16) (hv : v ≤ 1000000000000) : ∀ (j m i : Nat), i + j = n → j ≤ m →
  ∃ w : Int, Jxd F fail ex0 (m + 1) (a : Int) ((v / 256 ^ i : Nat) : Int) ((n : Int) - 1 - (i : Int)) (p.take (a + n - i) ++ (be i v ++ p.drop (a + n))) s8 = ex0 (a : Int) w (-1) (Kyb p a n v) s8
 | 0, m, i, hi, _ => by
  obtain rfl : i = n := by omega
  refine ⟨((v / 256 ^ i : Nat) : Int), ?_⟩
  rw [Jxd, Kmf]
  rw [Jab (ff (by omega)), show (i : Int) - 1 - (i : Int) = -1 by omega, show a + i - i = a by omega]; rfl
 | j + 1, 0, i, _, hm => absurd hm (by omega)
 | j + 1, m + 1, i, hi, hm => by
  obtain ⟨w, ih⟩ := Ksf F fail ex0 s8 p a n v hp ha hv j m (i + 1) (by omega) (by omega)
  refine ⟨w, ?_⟩
  have hd : v / 256 ^ i ≤ v := Nat.div_le_self _ _
  have e1 : Jzd ((v / 256 ^ i : Nat) : Int) 256 = ((v / 256 ^ (i + 1) : Nat) : Int) := by
   rw [Qpg _ (Nat.le_trans hd hv), Nat.pow_succ, ← Nat.div_div_eq_div_mul]
  have e2 : Kfc (Jcg ((v / 256 ^ i : Nat) : Int) 256) = UInt8.ofNat (v / 256 ^ i) := Qph _
  rw [Jxd, Kmf]
  rw [Jaa (tt (by omega)), Jai (by omega) (by omega), Jaa (tt2 (by omega) (by omega)), e1, e2, Jca (by omega) (by omega), show ((a : Int) + ((n : Int) - 1 - (i : Int))).toNat = a + n - (i + 1) by omega, show (n : Int) - 1 - (i : Int) - 1 = (n : Int) - 1 - ((i + 1 : Nat) : Int) by omega]
  rw [show a + n - i = (a + n - (i + 1)) + 1 by omega, Km9 (by omega)]
  exact ih
theorem K7s (p : Jbw) (a n v : Int) (h : Jue p a n v = true) : ∃ F, ∀ {X : Type} (fail : X) (ret : Jbw → X), qPut F p a n v fail ret = ret (Jo1 p a n v) := ⟨n.toNat + 1, fun fail ret => by
 simp only [Jue, decide_eq_true_eq] at h
 obtain ⟨a', rfl⟩ := Int.eq_ofNat_of_zero_le h.2.1
 obtain ⟨n', rfl⟩ := Int.eq_ofNat_of_zero_le h.2.2.1
 obtain ⟨v', rfl⟩ := Int.eq_ofNat_of_zero_le h.2.2.2.2.1
 unfold qPut Jo1
 obtain ⟨w, hw⟩ := Ksf (n' + 1) fail (fun _ _ _ p _ => ret p) z16 p a' n' v' h.1 (by omega) (by omega) n' n' 0 (by omega) (by omega)
 rw [Jca (by omega) (by omega)]
 have e0 : p.take (a' + n' - 0) ++ (be 0 v' ++ p.drop (a' + n')) = p := by simp [be]
 rw [e0, Nat.pow_zero, Nat.div_one, show (n' : Int) - 1 - ((0 : Nat) : Int) = (n' : Int) - 1 by omega] at hw
 exact hw⟩
theorem Knb (b : Bys) (c : Int) (h : Juf b c = true) : ∃ F, ∀ {X : Type} (fail : X) (ret : Jbw → X), Kyr F b c fail ret = ret (Jug b c) := ⟨0, fun fail ret => by
 simp only [Juf, J1j, decide_eq_true_eq] at h
 obtain ⟨c', rfl⟩ := Int.eq_ofNat_of_zero_le h.2.1
 have hn : Jgu (b.length : Int) = true := tt (by omega)
 have hcs : K36 b = true := tt h.1
 have hcl := Km5 b
 have hnb : Jco b.length ≤ 1000000000 := by unfold Jco; omega
 have l0 : ([2, 0, 0, 0, 0, 0, 0, 0, 0, 0, 0, 0, 0, 0, 0, 0] : Jbw).length = 16 := rfl
 have l1 := Jxr (a := 1) (n := 4) (v := c') l0 (by omega)
 have l2 := Jxr (a := 5) (n := 3) (v := Jco b.length) l1 (by omega)
 have l3 := Jxr (a := 8) (n := 4) (v := b.length) l2 (by omega)
 unfold Kyr Jug Jc8 Jh4
 unfold Jo1
 simp only [Int.toNat_natCast, show (1 : Int).toNat = 1 from rfl, show (4 : Int).toNat = 4 from rfl, show (5 : Int).toNat = 5 from rfl, show (3 : Int).toNat = 3 from rfl, show (8 : Int).toNat = 8 from rfl, show (12 : Int).toNat = 12 from rfl]
 have hk : Qbp (Kq9 b) = ((K9r b : Nat) : Int) := Km7 b
 rw [hk]
 simp only [Int.toNat_natCast]
 rw [Jaa (c := Jue _ 1 4 _) (tt ⟨l0, by omega, by omega, by omega, by omega, by omega⟩), Jaa hn, Jaa (c := Jue _ 5 3 _) (tt ⟨l1, by omega, by omega, by omega, by omega, by omega⟩), Jaa (c := Jue _ 8 4 _) (tt ⟨l2, by omega, by omega, by omega, by omega, by omega⟩), Jaa hcs, Jaa (c := Jue _ 12 4 _) (tt ⟨l3, by omega, by omega, by omega, by omega, by omega⟩), K4y]⟩
end Go.AI
