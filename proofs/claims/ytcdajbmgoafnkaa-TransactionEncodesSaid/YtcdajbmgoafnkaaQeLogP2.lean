/- Texts of the proof, joined: LogP2. -/
import Derived.Test.YtcdajbmgoafnkaaQeLogP
namespace Go.AI
open Go
theorem be_len : ∀ k n, (be k n).length = k
 | 0, _ => rfl
 | k + 1, n => by simp [be, be_len k n]
theorem set_mid {p r : Page} {m : Nat} (h : m < p.length) (y : UInt8) : (p.take (m + 1) ++ r).set m y = p.take m ++ (y :: r) := by
 rw [take_snoc p m 0 h, List.append_assoc, List.set_append_right _ _ (by rw [List.length_take]; omega)]
 rw [List.length_take, show m - min m p.length = 0 by omega]; rfl
theorem byte_div (v i : Nat) (hi : i ≤ 7) : cvIB (shrI (v : Int) (8 * (i : Int))) = UInt8.ofNat (v / 256 ^ i) := by
 rw [shrI_eq (by omega) (by omega), cvIB_eq]
 have e : (2 : Int) ^ (8 * (i : Int)).toNat = ((256 ^ i : Nat) : Int) := by
  rw [show (8 * (i : Int)).toNat = 8 * i by omega, Int.pow_mul]
  show (256 : Int) ^ i = _
  rw [Int.natCast_pow]; rfl
 rw [e, ← Int.natCast_ediv]
 have : ((((v / 256 ^ i : Nat) : Int) % 256).toNat) = v / 256 ^ i % 256 := by omega
 rw [this]
 apply UInt8.toNat_inj.1
 simp
theorem lEnd_num1 {X : Type} (F : Nat) (fail : X) (ex0 : Nat → Nat → Int → Int → Int → Bys → Page → Page → X) (b : Bys) (p s4 : Page) (a n v : Nat) (hp : p.length = 16) (ha : a + n ≤ 16) (hn : n ≤ 7) (_ : v ≤ 1000000000000) (hF : n < F) :
  lEnd_l1F F fail ex0 F a n (v : Int) (n : Int) 0 b p s4 = ex0 a n (v : Int) (n : Int) (n : Int) b (putP p a n v) s4 := by
 have key : ∀ (j m i : Nat), i + j = n → j ≤ m → lEnd_l1F F fail ex0 (m + 1) a n (v : Int) (n : Int) i b (p.take (a + n - i) ++ (be i v ++ p.drop (a + n))) s4 = ex0 a n (v : Int) (n : Int) (n : Int) b (putP p a n v) s4 := by
  intro j
  induction j with
  | zero =>
   intro m i hi _
   obtain rfl : i = n := by omega
   rw [lEnd_l1F, lEnd_l1]
   rw [bif_false (ff (by omega)), show a + i - i = a by omega]; rfl
  | succ j ih =>
   intro m i hi hm
   obtain ⟨m', rfl⟩ : ∃ m', m = m' + 1 := ⟨m - 1, by omega⟩
   have ih := ih m' (i + 1) (by omega) (by omega)
   rw [lEnd_l1F, lEnd_l1]
   rw [bif_true (tt (by omega)), mulI_eq (by omega) (by omega), bif_true (tt (by omega)), subI_eq (a := (n : Int)) (by omega) (by omega), subI_eq (a := (n : Int) - 1) (by omega) (by omega), bif_true (tt2 (by omega) (by omega)), addI_eq (by omega) (by omega), nat1, byte_div v i (by omega), show a + ((n : Int) - 1 - (i : Int)).toNat = a + n - (i + 1) by omega]
   rw [show a + n - i = (a + n - (i + 1)) + 1 by omega, set_mid (by omega)]
   exact ih
 obtain ⟨F', rfl⟩ : ∃ F', F = F' + 1 := ⟨F - 1, by omega⟩
 have h := key n F' 0 (by omega) (by omega)
 have e0 : p.take (a + n - 0) ++ (be 0 v ++ p.drop (a + n)) = p := by simp [be]
 rw [e0] at h
 exact h
theorem lEnd_num2 {X : Type} (F : Nat) (fail : X) (ex0 : Nat → Nat → Int → Int → Int → Bys → Nat → Nat → Page → Page → X) (b : Bys) (p s4 : Page) (s10_i : Nat) (s10_n : Nat) (a n v : Nat) (hp : p.length = 16) (ha : a + n ≤ 16) (hn : n ≤ 7) (_ : v ≤ 1000000000000) (hF : n < F) :
  lEnd_l2F F fail ex0 F a n (v : Int) (n : Int) 0 b s10_i s10_n p s4 = ex0 a n (v : Int) (n : Int) (n : Int) b s10_i s10_n (putP p a n v) s4 := by
 have key : ∀ (j m i : Nat), i + j = n → j ≤ m → lEnd_l2F F fail ex0 (m + 1) a n (v : Int) (n : Int) i b s10_i s10_n (p.take (a + n - i) ++ (be i v ++ p.drop (a + n))) s4 = ex0 a n (v : Int) (n : Int) (n : Int) b s10_i s10_n (putP p a n v) s4 := by
  intro j
  induction j with
  | zero =>
   intro m i hi _
   obtain rfl : i = n := by omega
   rw [lEnd_l2F, lEnd_l2]
   rw [bif_false (ff (by omega)), show a + i - i = a by omega]; rfl
  | succ j ih =>
   intro m i hi hm
   obtain ⟨m', rfl⟩ : ∃ m', m = m' + 1 := ⟨m - 1, by omega⟩
   have ih := ih m' (i + 1) (by omega) (by omega)
   rw [lEnd_l2F, lEnd_l2]
   rw [bif_true (tt (by omega)), mulI_eq (by omega) (by omega), bif_true (tt (by omega)), subI_eq (a := (n : Int)) (by omega) (by omega), subI_eq (a := (n : Int) - 1) (by omega) (by omega), bif_true (tt2 (by omega) (by omega)), addI_eq (by omega) (by omega), nat1, byte_div v i (by omega), show a + ((n : Int) - 1 - (i : Int)).toNat = a + n - (i + 1) by omega]
   rw [show a + n - i = (a + n - (i + 1)) + 1 by omega, set_mid (by omega)]
   exact ih
 obtain ⟨F', rfl⟩ : ∃ F', F = F' + 1 := ⟨F - 1, by omega⟩
 have h := key n F' 0 (by omega) (by omega)
 have e0 : p.take (a + n - 0) ++ (be 0 v ++ p.drop (a + n)) = p := by simp [be]
 rw [e0] at h
 exact h
theorem lEnd_num3 {X : Type} (F : Nat) (fail : X) (ex0 : Nat → Nat → Int → Int → Int → Bys → Nat → Nat → Nat → Nat → Page → Page → X) (b : Bys) (p s4 : Page) (s10_i : Nat) (s10_n : Nat) (s19_i : Nat) (s19_n : Nat) (a n v : Nat) (hp : p.length = 16) (ha : a + n ≤ 16) (hn : n ≤ 7) (_ : v ≤ 1000000000000) (hF : n < F) :
  lEnd_l3F F fail ex0 F a n (v : Int) (n : Int) 0 b s10_i s10_n s19_i s19_n p s4 = ex0 a n (v : Int) (n : Int) (n : Int) b s10_i s10_n s19_i s19_n (putP p a n v) s4 := by
 have key : ∀ (j m i : Nat), i + j = n → j ≤ m → lEnd_l3F F fail ex0 (m + 1) a n (v : Int) (n : Int) i b s10_i s10_n s19_i s19_n (p.take (a + n - i) ++ (be i v ++ p.drop (a + n))) s4 = ex0 a n (v : Int) (n : Int) (n : Int) b s10_i s10_n s19_i s19_n (putP p a n v) s4 := by
  intro j
  induction j with
  | zero =>
   intro m i hi _
   obtain rfl : i = n := by omega
   rw [lEnd_l3F, lEnd_l3]
   rw [bif_false (ff (by omega)), show a + i - i = a by omega]; rfl
  | succ j ih =>
   intro m i hi hm
   obtain ⟨m', rfl⟩ : ∃ m', m = m' + 1 := ⟨m - 1, by omega⟩
   have ih := ih m' (i + 1) (by omega) (by omega)
   rw [lEnd_l3F, lEnd_l3]
   rw [bif_true (tt (by omega)), mulI_eq (by omega) (by omega), bif_true (tt (by omega)), subI_eq (a := (n : Int)) (by omega) (by omega), subI_eq (a := (n : Int) - 1) (by omega) (by omega), bif_true (tt2 (by omega) (by omega)), addI_eq (by omega) (by omega), nat1, byte_div v i (by omega), show a + ((n : Int) - 1 - (i : Int)).toNat = a + n - (i + 1) by omega]
   rw [show a + n - i = (a + n - (i + 1)) + 1 by omega, set_mid (by omega)]
   exact ih
 obtain ⟨F', rfl⟩ : ∃ F', F = F' + 1 := ⟨F - 1, by omega⟩
 have h := key n F' 0 (by omega) (by omega)
 have e0 : p.take (a + n - 0) ++ (be 0 v ++ p.drop (a + n)) = p := by simp [be]
 rw [e0] at h
 exact h
theorem putP_len {p : Page} {a n v : Nat} (hp : p.length = 16) (h : a + n ≤ 16) : (putP p a n v).length = 16 := by
 unfold putP
 rw [List.length_append, List.length_append, be_len, List.length_take, List.length_drop]; omega
theorem com_puts (b : Bys) (c : Nat) : putP (putP (putP (putP [2, 0, 0, 0, 0, 0, 0, 0, 0, 0, 0, 0, 0, 0, 0, 0] 1 4 c) 5 3 (needN b.length)) 8 4 b.length) 12 4 (crcN b) = comP b c := by
 unfold putP comP
 simp [be]
theorem needed_plain (n : Int) (h : needed_P n = true) : ∃ F, ∀ {X : Type} (fail : X) (ret : Int → X), needed F n fail ret = ret (needed_r n) := ⟨0, fun fail ret => by
 simp only [needed_P, decide_eq_true_eq] at h
 unfold needed needed_r needN
 rw [addI_eq (by omega) (by omega), subI_eq (by omega) (by omega), quoI_eq (by omega) (by omega) (by omega)]
 congr 1
 omega⟩
theorem lEnd_plain (b : Bys) (c : Int) (h : lEnd_P b c = true) : ∃ F, ∀ {X : Type} (fail : X) (ret : Page → X), lEnd F b c fail ret = ret (lEnd_r b c) := ⟨5, fun fail ret => by
 simp only [lEnd_P, decide_eq_true_eq] at h
 obtain ⟨c', rfl⟩ := Int.eq_ofNat_of_zero_le h.2.1
 have hn : needed_P (b.length : Int) = true := tt (by omega)
 have hcs : cSum_P b = true := tt h.1
 have hcl := crcN_lt b
 have hnb : needN b.length ≤ 1000000000 := by unfold needN; omega
 have l0 : ([2, 0, 0, 0, 0, 0, 0, 0, 0, 0, 0, 0, 0, 0, 0, 0] : Page).length = 16 := rfl
 have l1 := putP_len (a := 1) (n := 4) (v := c') l0 (by omega)
 have l2 := putP_len (a := 5) (n := 3) (v := needN b.length) l1 (by omega)
 have l3 := putP_len (a := 8) (n := 4) (v := b.length) l2 (by omega)
 unfold lEnd lEnd_r
 refine (lEnd_num1 5 fail _ b _ z16 1 4 c' l0 (by omega) (by omega) (by omega) (by omega)).trans ?_
 refine (bif_true hn _ _).trans ?_
 unfold needed_r
 rw [Int.toNat_natCast]
 refine (lEnd_num2 5 fail _ b _ z16 5 3 5 3 (needN b.length) l1 (by omega) (by omega) (by omega) (by omega)).trans ?_
 refine (lEnd_num2 5 fail _ b _ z16 5 3 8 4 b.length l2 (by omega) (by omega) (by omega) (by omega)).trans ?_
 refine (bif_true hcs _ _).trans ?_
 rw [cSum_nat]
 refine (lEnd_num3 5 fail _ b _ z16 5 3 12 4 12 4 (crcN b) l3 (by omega) (by omega) (by omega) (by omega)).trans ?_
 rw [com_puts, Int.toNat_natCast]⟩
end Go.AI
