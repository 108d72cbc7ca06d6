/- Texts of the proof, joined: LogP2. -/
import Derived.Test.YtnmidfcefljafaaGreatQtLogP
namespace Go.AI
open Go
theorem be_len : ∀ k n, (be k n).length = k
 | 0, _ => rfl
 | k + 1, n => by simp [be, be_len k n]
theorem beV_acc : ∀ (l : Bys) (a : Nat), l.foldl (fun n b => 256 * n + b.toNat) a = a * 256 ^ l.length + beV l
 | [], a => by simp [beV]
 | x :: l, a => by
  show l.foldl _ (256 * a + x.toNat) = _
  rw [beV_acc l, show beV (x :: l) = l.foldl (fun n b => 256 * n + b.toNat) (256 * 0 + x.toNat) from rfl, beV_acc l (256 * 0 + x.toNat), List.length_cons, Nat.pow_succ, Nat.add_mul, Nat.add_mul, Nat.mul_zero, Nat.zero_mul, Nat.zero_add, Nat.mul_comm 256 a, Nat.mul_assoc, Nat.mul_comm 256, Nat.add_assoc]
theorem beV_cons (x : UInt8) (l : Bys) : beV (x :: l) = x.toNat * 256 ^ l.length + beV l := by
 show l.foldl _ (256 * 0 + x.toNat) = _
 rw [beV_acc]; simp
theorem beV_lt : ∀ l : Bys, beV l < 256 ^ l.length
 | [] => by simp [beV]
 | x :: l => by
  rw [beV_cons, List.length_cons, Nat.pow_succ]
  have h := beV_lt l
  have hx := x.toNat_lt
  calc x.toNat * 256 ^ l.length + beV l < x.toNat * 256 ^ l.length + 256 ^ l.length := by omega
   _ = (x.toNat + 1) * 256 ^ l.length := by rw [Nat.add_mul, Nat.one_mul]
   _ ≤ 256 * 256 ^ l.length := Nat.mul_le_mul_right _ (by omega)
   _ = 256 ^ l.length * 256 := Nat.mul_comm _ _
theorem beV_be : ∀ k n, beV (be k n) = n % 256 ^ k
 | 0, n => by simp [be, beV, Nat.mod_one]
 | k + 1, n => by
  rw [be, beV_cons, be_len, beV_be k n]
  have e : (UInt8.ofNat (n / 256 ^ k)).toNat = n / 256 ^ k % 256 := by simp
  rw [e, Nat.pow_succ, Nat.mod_mul]
  rw [Nat.mul_comm, Nat.add_comm]
theorem be_beV : ∀ l : Bys, be l.length (beV l) = l
 | [] => rfl
 | x :: l => by
  have h := beV_lt l
  have hp : 0 < 256 ^ l.length := by omega
  rw [List.length_cons, be, beV_cons]
  have e1 : (x.toNat * 256 ^ l.length + beV l) / 256 ^ l.length = x.toNat := by
   rw [Nat.add_comm, Nat.add_mul_div_right _ _ hp, Nat.div_eq_of_lt h, Nat.zero_add]
  rw [e1]
  have e2 : ∀ (k a b : Nat), be k (a * 256 ^ k + b) = be k b := by
   intro k
   induction k with
   | zero => intro a b; rfl
   | succ k ih =>
    intro a b
    have hk : 0 < 256 ^ k := Nat.pow_pos (by omega)
    rw [be, be, Nat.pow_succ, ← Nat.mul_assoc, Nat.mul_right_comm, ih (a * 256) b]
    congr 1
    rw [Nat.add_comm, Nat.add_mul_div_right _ _ hk]
    apply UInt8.toNat_inj.1
    simp
  rw [e2, be_beV l]
  simp
theorem lValue_loop {X : Type} (F : Nat) (fail : X) (ex0 : Int → Bys → Int → Int → X) (l : Bys) (hl : l.length ≤ 7) : ∀ (j m i n : Nat), i + j = l.length → j ≤ m → n < 256 ^ i →
  lValue_l1F F fail ex0 (m + 1) (n : Int) l (l.length : Nat) i = ex0 (((l.drop i).foldl (fun n b => 256 * n + b.toNat) n : Nat) : Int) l (l.length : Nat) (l.length : Nat)
 | 0, m, i, n, hi, _, _ => by
  obtain rfl : i = l.length := by omega
  rw [lValue_l1F, lValue_l1]
  rw [bif_false (ff (by omega)), List.drop_length]; rfl
 | j + 1, 0, i, _, _, hm, _ => absurd hm (by omega)
 | j + 1, m + 1, i, n, hi, hm, hn => by
  have hx : (l.getD i 0).toNat < 256 := (l.getD i 0).toNat_lt
  have hp : 256 ^ i ≤ 256 ^ 6 := Nat.pow_le_pow_right (by omega) (by omega)
  have hp6 : 256 ^ 6 = 281474976710656 := rfl
  rw [hp6] at hp
  have ih := lValue_loop F fail ex0 l hl j m (i + 1) (256 * n + (l.getD i 0).toNat) (by omega) (by omega) (by rw [Nat.pow_succ]; omega)
  have e : orI (shlI (n : Int) 8) (cvBI (l.getD i 0)) = ((256 * n + (l.getD i 0).toNat : Nat) : Int) := by
   have e1 : shlI (n : Int) 8 = ((256 * n : Nat) : Int) := by
    rw [shlI_eq (by omega) (by omega)]
    ·show (n : Int) * 2 ^ 8 = _; omega
    ·show _ ≤ (n : Int) * 2 ^ 8; omega
    ·show (n : Int) * 2 ^ 8 < _; omega
   rw [e1, cvBI_eq, orI_eq (by omega) (by omega)]
   congr 1
   exact (Nat.two_pow_add_eq_or_of_lt (i := 8) hx n).symm
  rw [lValue_l1F, lValue_l1]
  rw [Int.toNat_natCast, bif_true (tt (by omega)), bif_true (tt2 (by omega) (by omega)), e, addI_eq (by omega) (by omega), nat1, ih, drop_cons (0 : UInt8) (show i < l.length by omega)]; rfl
theorem lValue_plain (l : Bys) (h : lValue_P l = true) : ∃ F, ∀ {X : Type} (fail : X) (ret : Int → X), lValue F l fail ret = ret (lValue_r l) := ⟨l.length + 1, fun fail ret => by
 simp only [lValue_P, decide_eq_true_eq] at h
 unfold lValue
 exact lValue_loop (l.length + 1) fail (fun n _ _ _ => ret n) l h l.length l.length 0 0 (by omega) (by omega) (by simp)⟩
theorem set_mid {p r : Page} {m : Nat} (h : m < p.length) (y : UInt8) : (p.take (m + 1) ++ r).set m y = p.take m ++ (y :: r) := by
 rw [take_snoc p m 0 h, List.append_assoc, List.set_append_right _ _ (by rw [List.length_take]; omega)]
 rw [List.length_take, show m - min m p.length = 0 by omega]; rfl
theorem byte_div (v i : Nat) (hi : i ≤ 7) : cvIB (shrI (v : Int) (8 * (i : Int))) = UInt8.ofNat (v / 256 ^ i) := by
 rw [shrI_eq (by omega) (by omega), cvIB_eq]
 have e : (2 : Int) ^ (8 * (i : Int)).toNat = ((256 ^ i : Nat) : Int) := by
  rw [show (8 * (i : Int)).toNat = 8 * i by omega, Int.pow_mul]
  show (256 : Int) ^ i = _
  rw [Int.natCast_pow]; rfl
 rw [e, ← Int.natCast_ediv]
 have : ((((v / 256 ^ i : Nat) : Int) % 256).toNat) = v / 256 ^ i % 256 := by omega
 rw [this]
 apply UInt8.toNat_inj.1
 simp
theorem lEnd_num1 {X : Type} (F : Nat) (fail : X) (ex0 : Nat → Nat → Int → Int → Int → Bys → Page → Page → X) (b : Bys) (p s4 : Page) (a n v : Nat) (hp : p.length = 16) (ha : a + n ≤ 16) (hn : n ≤ 7) (_ : v ≤ 1000000000000) (hF : n < F) :
  lEnd_l1F F fail ex0 F a n (v : Int) (n : Int) 0 b p s4 = ex0 a n (v : Int) (n : Int) (n : Int) b (putP p a n v) s4 := by
 have key : ∀ (j m i : Nat), i + j = n → j ≤ m → lEnd_l1F F fail ex0 (m + 1) a n (v : Int) (n : Int) i b (p.take (a + n - i) ++ (be i v ++ p.drop (a + n))) s4 = ex0 a n (v : Int) (n : Int) (n : Int) b (putP p a n v) s4 := by
  intro j
  induction j with
  | zero =>
   intro m i hi _
   obtain rfl : i = n := by omega
   rw [lEnd_l1F, lEnd_l1]
   rw [bif_false (ff (by omega)), show a + i - i = a by omega]; rfl
  | succ j ih =>
   intro m i hi hm
   obtain ⟨m', rfl⟩ : ∃ m', m = m' + 1 := ⟨m - 1, by omega⟩
   have ih := ih m' (i + 1) (by omega) (by omega)
   rw [lEnd_l1F, lEnd_l1]
   rw [bif_true (tt (by omega)), mulI_eq (by omega) (by omega), bif_true (tt (by omega)), subI_eq (a := (n : Int)) (by omega) (by omega), subI_eq (a := (n : Int) - 1) (by omega) (by omega), bif_true (tt2 (by omega) (by omega)), addI_eq (by omega) (by omega), nat1, byte_div v i (by omega), show a + ((n : Int) - 1 - (i : Int)).toNat = a + n - (i + 1) by omega]
   rw [show a + n - i = (a + n - (i + 1)) + 1 by omega, set_mid (by omega)]
   exact ih
 obtain ⟨F', rfl⟩ : ∃ F', F = F' + 1 := ⟨F - 1, by omega⟩
 have h := key n F' 0 (by omega) (by omega)
 have e0 : p.take (a + n - 0) ++ (be 0 v ++ p.drop (a + n)) = p := by simp [be]
 rw [e0] at h
 exact h
theorem lEnd_num2 {X : Type} (F : Nat) (fail : X) (ex0 : Nat → Nat → Int → Int → Int → Bys → Nat → Nat → Page → Page → X) (b : Bys) (p s4 : Page) (s10_i : Nat) (s10_n : Nat) (a n v : Nat) (hp : p.length = 16) (ha : a + n ≤ 16) (hn : n ≤ 7) (_ : v ≤ 1000000000000) (hF : n < F) :
  lEnd_l2F F fail ex0 F a n (v : Int) (n : Int) 0 b s10_i s10_n p s4 = ex0 a n (v : Int) (n : Int) (n : Int) b s10_i s10_n (putP p a n v) s4 := by
 have key : ∀ (j m i : Nat), i + j = n → j ≤ m → lEnd_l2F F fail ex0 (m + 1) a n (v : Int) (n : Int) i b s10_i s10_n (p.take (a + n - i) ++ (be i v ++ p.drop (a + n))) s4 = ex0 a n (v : Int) (n : Int) (n : Int) b s10_i s10_n (putP p a n v) s4 := by
  intro j
  induction j with
  | zero =>
   intro m i hi _
   obtain rfl : i = n := by omega
   rw [lEnd_l2F, lEnd_l2]
   rw [bif_false (ff (by omega)), show a + i - i = a by omega]; rfl
  | succ j ih =>
   intro m i hi hm
   obtain ⟨m', rfl⟩ : ∃ m', m = m' + 1 := ⟨m - 1, by omega⟩
   have ih := ih m' (i + 1) (by omega) (by omega)
   rw [lEnd_l2F, lEnd_l2]
   rw [bif_true (tt (by omega)), mulI_eq (by omega) (by omega), bif_true (tt (by omega)), subI_eq (a := (n : Int)) (by omega) (by omega), subI_eq (a := (n : Int) - 1) (by omega) (by omega), bif_true (tt2 (by omega) (by omega)), addI_eq (by omega) (by omega), nat1, byte_div v i (by omega), show a + ((n : Int) - 1 - (i : Int)).toNat = a + n - (i + 1) by omega]
   rw [show a + n - i = (a + n - (i + 1)) + 1 by omega, set_mid (by omega)]
   exact ih
 obtain ⟨F', rfl⟩ : ∃ F', F = F' + 1 := ⟨F - 1, by omega⟩
 have h := key n F' 0 (by omega) (by omega)
 have e0 : p.take (a + n - 0) ++ (be 0 v ++ p.drop (a + n)) = p := by simp [be]
 rw [e0] at h
 exact h
theorem lEnd_num3 {X : Type} (F : Nat) (fail : X) (ex0 : Nat → Nat → Int → Int → Int → Bys → Nat → Nat → Nat → Nat → Page → Page → X) (b : Bys) (p s4 : Page) (s10_i : Nat) (s10_n : Nat) (s19_i : Nat) (s19_n : Nat) (a n v : Nat) (hp : p.length = 16) (ha : a + n ≤ 16) (hn : n ≤ 7) (_ : v ≤ 1000000000000) (hF : n < F) :
  lEnd_l3F F fail ex0 F a n (v : Int) (n : Int) 0 b s10_i s10_n s19_i s19_n p s4 = ex0 a n (v : Int) (n : Int) (n : Int) b s10_i s10_n s19_i s19_n (putP p a n v) s4 := by
 have key : ∀ (j m i : Nat), i + j = n → j ≤ m → lEnd_l3F F fail ex0 (m + 1) a n (v : Int) (n : Int) i b s10_i s10_n s19_i s19_n (p.take (a + n - i) ++ (be i v ++ p.drop (a + n))) s4 = ex0 a n (v : Int) (n : Int) (n : Int) b s10_i s10_n s19_i s19_n (putP p a n v) s4 := by
  intro j
  induction j with
  | zero =>
   intro m i hi _
   obtain rfl : i = n := by omega
   rw [lEnd_l3F, lEnd_l3]
   rw [bif_false (ff (by omega)), show a + i - i = a by omega]; rfl
  | succ j ih =>
   intro m i hi hm
   obtain ⟨m', rfl⟩ : ∃ m', m = m' + 1 := ⟨m - 1, by omega⟩
   have ih := ih m' (i + 1) (by omega) (by omega)
   rw [lEnd_l3F, lEnd_l3]
   rw [bif_true (tt (by omega)), mulI_eq (by omega) (by omega), bif_true (tt (by omega)), subI_eq (a := (n : Int)) (by omega) (by omega), subI_eq (a := (n : Int) - 1) (by omega) (by omega), bif_true (tt2 (by omega) (by omega)), addI_eq (by omega) (by omega), nat1, byte_div v i (by omega), show a + ((n : Int) - 1 - (i : Int)).toNat = a + n - (i + 1) by omega]
   rw [show a + n - i = (a + n - (i + 1)) + 1 by omega, set_mid (by omega)]
   exact ih
 obtain ⟨F', rfl⟩ : ∃ F', F = F' + 1 := ⟨F - 1, by omega⟩
 have h := key n F' 0 (by omega) (by omega)
 have e0 : p.take (a + n - 0) ++ (be 0 v ++ p.drop (a + n)) = p := by simp [be]
 rw [e0] at h
 exact h
theorem putP_len {p : Page} {a n v : Nat} (hp : p.length = 16) (h : a + n ≤ 16) : (putP p a n v).length = 16 := by
 unfold putP
 rw [List.length_append, List.length_append, be_len, List.length_take, List.length_drop]; omega
theorem com_puts (b : Bys) (c : Nat) : putP (putP (putP (putP [2, 0, 0, 0, 0, 0, 0, 0, 0, 0, 0, 0, 0, 0, 0, 0] 1 4 c) 5 3 (needN b.length)) 8 4 b.length) 12 4 (crcN b) = comP b c := by
 unfold putP comP
 simp [be]
theorem needed_plain (n : Int) (h : needed_P n = true) : ∃ F, ∀ {X : Type} (fail : X) (ret : Int → X), needed F n fail ret = ret (needed_r n) := ⟨0, fun fail ret => by
 simp only [needed_P, decide_eq_true_eq] at h
 unfold needed needed_r needN
 rw [addI_eq (by omega) (by omega), subI_eq (by omega) (by omega), quoI_eq (by omega) (by omega) (by omega)]
 congr 1
 omega⟩
theorem lEnd_plain (b : Bys) (c : Int) (h : lEnd_P b c = true) : ∃ F, ∀ {X : Type} (fail : X) (ret : Page → X), lEnd F b c fail ret = ret (lEnd_r b c) := ⟨5, fun fail ret => by
 simp only [lEnd_P, decide_eq_true_eq] at h
 obtain ⟨c', rfl⟩ := Int.eq_ofNat_of_zero_le h.2.1
 have hn : needed_P (b.length : Int) = true := tt (by omega)
 have hcs : cSum_P b = true := tt h.1
 have hcl := crcN_lt b
 have hnb : needN b.length ≤ 1000000000 := by unfold needN; omega
 have l0 : ([2, 0, 0, 0, 0, 0, 0, 0, 0, 0, 0, 0, 0, 0, 0, 0] : Page).length = 16 := rfl
 have l1 := putP_len (a := 1) (n := 4) (v := c') l0 (by omega)
 have l2 := putP_len (a := 5) (n := 3) (v := needN b.length) l1 (by omega)
 have l3 := putP_len (a := 8) (n := 4) (v := b.length) l2 (by omega)
 unfold lEnd lEnd_r
 refine (lEnd_num1 5 fail _ b _ z16 1 4 c' l0 (by omega) (by omega) (by omega) (by omega)).trans ?_
 refine (bif_true hn _ _).trans ?_
 unfold needed_r
 rw [Int.toNat_natCast]
 refine (lEnd_num2 5 fail _ b _ z16 5 3 5 3 (needN b.length) l1 (by omega) (by omega) (by omega) (by omega)).trans ?_
 refine (lEnd_num2 5 fail _ b _ z16 5 3 8 4 b.length l2 (by omega) (by omega) (by omega) (by omega)).trans ?_
 refine (bif_true hcs _ _).trans ?_
 rw [cSum_nat]
 refine (lEnd_num3 5 fail _ b _ z16 5 3 12 4 12 4 (crcN b) l3 (by omega) (by omega) (by omega) (by omega)).trans ?_
 rw [com_puts, Int.toNat_natCast]⟩
end Go.AI
