/- SHA-256's rounds: the reckoned form is the plain one. -/
import Derived.Test.YtlilfooddecabaaDigestS
import Derived.Test.YtlilfooddecabaaWord
namespace Go.AI
open Go

theorem ror_nat (x : UInt32) (m : Int) (n : Nat) (hm : m = n) (h : n ≤ 32) : (ror x m).toNat = rorN x.toNat n := by
  subst hm
  unfold ror rorN
  rw [show subI 32 (n : Int) = ((32 - n : Nat) : Int) by rw [subI_eq (by omega) (by omega)]; omega]
  rw [orW_eq, UInt32.toNat_or, shrW_nat x n h, shlW_nat x (32 - n) (by omega), Nat.shiftRight_eq_div_pow, Nat.shiftLeft_eq]
theorem shr_nat (x : UInt32) (m : Int) (n : Nat) (hm : m = n) (h : n ≤ 32) : (shrW x m).toNat = x.toNat >>> n := by
  subst hm
  rw [shrW_nat x n h, Nat.shiftRight_eq_div_pow]
theorem bs0_nat (a : UInt32) : (bs0 a).toNat = bs0N a.toNat := by
  unfold bs0 bs0N
  rw [xorW_eq, xorW_eq, UInt32.toNat_xor, UInt32.toNat_xor, ror_nat a 2 2 rfl (by omega), ror_nat a 13 13 rfl (by omega), ror_nat a 22 22 rfl (by omega)]
theorem bs1_nat (a : UInt32) : (bs1 a).toNat = bs1N a.toNat := by
  unfold bs1 bs1N
  rw [xorW_eq, xorW_eq, UInt32.toNat_xor, UInt32.toNat_xor, ror_nat a 6 6 rfl (by omega), ror_nat a 11 11 rfl (by omega), ror_nat a 25 25 rfl (by omega)]
theorem ss0_nat (a : UInt32) : (ss0 a).toNat = ss0N a.toNat := by
  unfold ss0 ss0N
  rw [xorW_eq, xorW_eq, UInt32.toNat_xor, UInt32.toNat_xor, ror_nat a 7 7 rfl (by omega), ror_nat a 18 18 rfl (by omega), shr_nat a 3 3 rfl (by omega)]
theorem ss1_nat (a : UInt32) : (ss1 a).toNat = ss1N a.toNat := by
  unfold ss1 ss1N
  rw [xorW_eq, xorW_eq, UInt32.toNat_xor, UInt32.toNat_xor, ror_nat a 17 17 rfl (by omega), ror_nat a 19 19 rfl (by omega), shr_nat a 10 10 rfl (by omega)]
theorem not_nat (a : UInt32) : (~~~ a).toNat = 4294967295 - a.toNat := by
  rw [← UInt32.toNat_toBitVec, UInt32.toBitVec_not, BitVec.toNat_not]
  show 2 ^ 32 - 1 - a.toNat = _
  omega
theorem chW_nat (e f g : UInt32) : (chW e f g).toNat = chN e.toNat f.toNat g.toNat := by
  unfold chW chN
  rw [xorW_eq, andW_eq, andW_eq, notW_eq, UInt32.toNat_xor, UInt32.toNat_and, UInt32.toNat_and, not_nat]
theorem maW_nat (a b c : UInt32) : (maW a b c).toNat = maN a.toNat b.toNat c.toNat := by
  unfold maW maN
  rw [xorW_eq, xorW_eq, andW_eq, andW_eq, andW_eq, UInt32.toNat_xor, UInt32.toNat_xor, UInt32.toNat_and, UInt32.toNat_and, UInt32.toNat_and]
theorem addW_nat (a b : UInt32) : (addW a b).toNat = (a.toNat + b.toNat) % 4294967296 := by
  rw [addW_eq, UInt32.toNat_add]
theorem or_byte (a : Nat) (b : UInt8) : (a * 256 ||| b.toNat) = a * 256 + b.toNat := by
  have hb := b.toNat_lt
  have h := Nat.two_pow_add_eq_or_of_lt (i := 8) (b := b.toNat) (by omega) a
  rw [show a * 256 = 2 ^ 8 * a by omega, ← h]
theorem wstep (a : UInt32) (b : UInt8) (h : a.toNat < 16777216) : (orW (shlW a 8) (cvBW b)).toNat = a.toNat * 256 + b.toNat := by
  have h8 := shlW_nat a 8 (by omega)
  rw [show ((8 : Nat) : Int) = 8 from rfl] at h8
  rw [orW_eq, UInt32.toNat_or, h8, cvBW_nat, Nat.mod_eq_of_lt (by omega), show (2 : Nat) ^ 8 = 256 from rfl, or_byte]
theorem getD_lt {α : Type} {l : List α} {i : Nat} {d : α} (h : i < l.length) : l.getD i d = l[i] := by
  simp [List.getD_eq_getElem?_getD, h]
theorem getD_map0 {α β : Type} (f : α → β) (l : List α) (i : Nat) (d : α) (e : β) (h : f d = e) : (l.map f).getD i e = f (l.getD i d) := by
  simp only [List.getD_eq_getElem?_getD, List.getElem?_map]
  cases l[i]? <;> simp [h]
theorem wdAt_nat (b : List UInt8) (t : Nat) : (wdAt b t).toNat = wdN (b.map UInt8.toNat) t := by
  unfold wdAt wdN
  have h0 := (b.getD (4 * t) 0).toNat_lt
  have h1 := (b.getD (4 * t + 1) 0).toNat_lt
  have h2 := (b.getD (4 * t + 2) 0).toNat_lt
  have h3 := (b.getD (4 * t + 3) 0).toNat_lt
  rw [getD_map0 UInt8.toNat b _ 0 0 rfl, getD_map0 UInt8.toNat b _ 0 0 rfl, getD_map0 UInt8.toNat b _ 0 0 rfl, getD_map0 UInt8.toNat b _ 0 0 rfl]
  have e0 := wstep 0 (b.getD (4 * t) 0) (by rw [UInt32.toNat_zero]; omega)
  rw [UInt32.toNat_zero] at e0
  have e1 := wstep _ (b.getD (4 * t + 1) 0) (show (orW (shlW 0 8) (cvBW (b.getD (4 * t) 0))).toNat < 16777216 by omega)
  have e2 := wstep _ (b.getD (4 * t + 2) 0) (show (orW (shlW (orW (shlW 0 8) (cvBW (b.getD (4 * t) 0))) 8) (cvBW (b.getD (4 * t + 1) 0))).toNat < 16777216 by omega)
  have e3 := wstep _ (b.getD (4 * t + 3) 0) (show (orW (shlW (orW (shlW (orW (shlW 0 8) (cvBW (b.getD (4 * t) 0))) 8) (cvBW (b.getD (4 * t + 1) 0))) 8) (cvBW (b.getD (4 * t + 2) 0))).toNat < 16777216 by omega)
  rw [e3, e2, e1, e0]
  generalize (b.getD (4 * t) 0).toNat = x0, (b.getD (4 * t + 1) 0).toNat = x1, (b.getD (4 * t + 2) 0).toNat = x2, (b.getD (4 * t + 3) 0).toNat = x3
  omega
theorem nextW_nat (w : List UInt32) : (nextW w).map UInt32.toNat = nextN (w.map UInt32.toNat) := by
  unfold nextW nextN
  rw [List.map_append, List.map_tail, List.map_cons, List.map_nil, addW_nat, addW_nat, addW_nat, ss0_nat, ss1_nat, getD_map0 UInt32.toNat w 0 0 0 rfl, getD_map0 UInt32.toNat w 1 0 0 rfl, getD_map0 UInt32.toNat w 9 0 0 rfl, getD_map0 UInt32.toNat w 14 0 0 rfl]
  congr 2
  omega
theorem kW_nat : kW.map UInt32.toNat = kN := by decide
theorem kN_len : kN.length = 64 := by decide
theorem kW_len : kW.length = 64 := by decide
theorem n8_len {l : List UInt32} (h : l.length = 8) : n8 l = l := by
  match l, h with
  | [a, b, c, d, e, f, g, i], _ => rfl
theorem rds_form (b : List UInt8) (s : List UInt32) (t : Nat) : n8 (rds b s t) = rds b s t := by
  cases t with
  | zero => rfl
  | succ t => rfl
theorem rdsN_eq (b : List UInt8) (s : List UInt32) : ∀ (j t : Nat), t + j = 64 → rdsN (kN.drop t) ((win b t).map UInt32.toNat) ((rds b s t).getD 0 0).toNat ((rds b s t).getD 1 0).toNat ((rds b s t).getD 2 0).toNat ((rds b s t).getD 3 0).toNat ((rds b s t).getD 4 0).toNat ((rds b s t).getD 5 0).toNat ((rds b s t).getD 6 0).toNat ((rds b s t).getD 7 0).toNat = (rds b s 64).map UInt32.toNat
  | 0, t, h => by
    have e : t = 64 := by omega
    subst e
    have hf := rds_form b s 64
    rw [List.drop_eq_nil_of_le (by rw [kN_len]; omega)]
    generalize rds b s 64 = x at *
    conv => rhs; rw [← hf]
    rfl
  | j + 1, t, h => by
    have hk : kN.drop t = (kW.getD t 0).toNat :: kN.drop (t + 1) := by
      rw [List.drop_eq_getElem_cons (by rw [kN_len]; omega)]
      congr 1
      have := getD_map0 UInt32.toNat kW t 0 0 rfl
      rw [kW_nat] at this
      rw [← this, getD_lt (by rw [kN_len]; omega)]
    have ih := rdsN_eq b s j (t + 1) (by omega)
    rw [hk, ← ih]
    simp only [rdsN]
    rw [show win b (t + 1) = nextW (win b t) from rfl, nextW_nat]
    have ew : ((win b t).map UInt32.toNat).getD 0 0 = (wd b t).toNat := getD_map0 UInt32.toNat _ 0 0 0 rfl
    have g0 : (rds b s (t + 1)).getD 0 0 = addW (addW (addW (addW (addW ((rds b s t).getD 7 0) (bs1 ((rds b s t).getD 4 0))) (chW ((rds b s t).getD 4 0) ((rds b s t).getD 5 0) ((rds b s t).getD 6 0))) (kW.getD t 0)) (wd b t)) (addW (bs0 ((rds b s t).getD 0 0)) (maW ((rds b s t).getD 0 0) ((rds b s t).getD 1 0) ((rds b s t).getD 2 0))) := rfl
    have g4 : (rds b s (t + 1)).getD 4 0 = addW ((rds b s t).getD 3 0) (addW (addW (addW (addW ((rds b s t).getD 7 0) (bs1 ((rds b s t).getD 4 0))) (chW ((rds b s t).getD 4 0) ((rds b s t).getD 5 0) ((rds b s t).getD 6 0))) (kW.getD t 0)) (wd b t)) := rfl
    rw [g0, g4, show (rds b s (t + 1)).getD 1 0 = (rds b s t).getD 0 0 from rfl, show (rds b s (t + 1)).getD 2 0 = (rds b s t).getD 1 0 from rfl, show (rds b s (t + 1)).getD 3 0 = (rds b s t).getD 2 0 from rfl, show (rds b s (t + 1)).getD 5 0 = (rds b s t).getD 4 0 from rfl, show (rds b s (t + 1)).getD 6 0 = (rds b s t).getD 5 0 from rfl, show (rds b s (t + 1)).getD 7 0 = (rds b s t).getD 6 0 from rfl]
    simp only [addW_nat, bs0_nat, bs1_nat, chW_nat, maW_nat, ew]
    congr 1 <;> omega
theorem absS_eq (s : List UInt32) (b : List UInt8) : absS s b = absW s b := by
  unfold absS absW add8
  have h := rdsN_eq b s 64 0 rfl
  have hw : (win b 0).map UInt32.toNat = (List.range 16).map (wdN (b.map UInt8.toNat)) := by
    show ((List.range 16).map (wdAt b)).map UInt32.toNat = _
    rw [List.map_map]
    congr 1
    funext t
    exact wdAt_nat b t
  rw [hw, show kN.drop 0 = kN from rfl] at h
  have e : ∀ i, (s.map UInt32.toNat).getD i 0 = (s.getD i 0).toNat := fun i => getD_map0 UInt32.toNat s i 0 0 rfl
  simp only [e]
  rw [show (rds b s 0).getD 0 0 = s.getD 0 0 from rfl, show (rds b s 0).getD 1 0 = s.getD 1 0 from rfl, show (rds b s 0).getD 2 0 = s.getD 2 0 from rfl, show (rds b s 0).getD 3 0 = s.getD 3 0 from rfl, show (rds b s 0).getD 4 0 = s.getD 4 0 from rfl, show (rds b s 0).getD 5 0 = s.getD 5 0 from rfl, show (rds b s 0).getD 6 0 = s.getD 6 0 from rfl, show (rds b s 0).getD 7 0 = s.getD 7 0 from rfl] at h
  rw [h]
  have f : ∀ i, ((rds b s 64).map UInt32.toNat).getD i 0 = ((rds b s 64).getD i 0).toNat := fun i => getD_map0 UInt32.toNat _ i 0 0 rfl
  have g : ∀ x y : UInt32, UInt32.ofNat (x.toNat + y.toNat) = addW x y := fun x y => by
    apply UInt32.toNat_inj.1
    rw [addW_nat, UInt32.toNat_ofNat']
  simp only [f, g]
theorem absS_len (s : List UInt32) (b : List UInt8) : (absS s b).length = 8 := rfl

theorem win_len (b : List UInt8) : ∀ t, (win b t).length = 16
  | 0 => by show ((List.range 16).map (wdAt b)).length = 16; simp
  | t + 1 => by
    have := win_len b t
    show ((win b t).tail ++ [_]).length = 16
    simp [this]
theorem win_get (b : List UInt8) : ∀ (j t : Nat), j < 16 → (win b t).getD j 0 = wd b (t + j)
  | 0, t, _ => rfl
  | j + 1, t, h => by
    have hl := win_len b t
    have e : (win b (t + 1)).getD j 0 = (win b t).getD (j + 1) 0 := by
      show ((win b t).tail ++ [_]).getD j 0 = _
      have hlt : j < (win b t).tail.length := by simp [hl]; omega
      simp only [List.getD_eq_getElem?_getD]
      rw [List.getElem?_append_left hlt, List.getElem?_tail]
    rw [← e, win_get b j (t + 1) (by omega)]
    congr 1
    omega
theorem wd_low (b : List UInt8) (t : Nat) (h : t < 16) : wd b t = wdAt b t := by
  have := win_get b t 0 h
  rw [Nat.zero_add] at this
  rw [← this]
  show ((List.range 16).map (wdAt b)).getD t 0 = _
  rw [getD_lt (by simp; omega)]
  simp
theorem wd_next (b : List UInt8) (t : Nat) : wd b (t + 16) = addW (addW (addW (wd b t) (ss0 (wd b (t + 1)))) (wd b (t + 9))) (ss1 (wd b (t + 14))) := by
  have h := win_get b 15 (t + 1) (by omega)
  rw [show t + 1 + 15 = t + 16 by omega] at h
  rw [← h]
  show ((win b t).tail ++ [_]).getD 15 0 = _
  have hl : (win b t).tail.length = 15 := by simp [win_len b t]
  rw [List.getD_eq_getElem?_getD, List.getElem?_append_right (by omega), hl]
  simp only [Nat.sub_self, List.getElem?_cons_zero, Option.getD_some]
  rw [win_get b 0 t (by omega), win_get b 1 t (by omega), win_get b 9 t (by omega), win_get b 14 t (by omega), Nat.add_zero]
theorem getD_take {α : Type} (l : List α) (n i : Nat) (d : α) (h : i < n) : (l.take n).getD i d = l.getD i d := by
  simp only [List.getD_eq_getElem?_getD]
  rw [List.getElem?_take_of_lt h]
theorem wdAt_take (b : List UInt8) (t : Nat) (h : t < 16) : wdAt (b.take 64) t = wdAt b t := by
  unfold wdAt
  rw [getD_take b 64 (4 * t) 0 (by omega), getD_take b 64 (4 * t + 1) 0 (by omega), getD_take b 64 (4 * t + 2) 0 (by omega), getD_take b 64 (4 * t + 3) 0 (by omega)]
theorem win_take (b : List UInt8) : ∀ t, win (b.take 64) t = win b t
  | 0 => by
    apply List.map_congr_left
    intro t ht
    exact wdAt_take b t (List.mem_range.1 ht)
  | t + 1 => by
    show nextW (win (b.take 64) t) = nextW (win b t)
    rw [win_take b t]
theorem rds_take (b : List UInt8) (s : List UInt32) : ∀ t, rds (b.take 64) s t = rds b s t
  | 0 => rfl
  | t + 1 => by
    show rnd _ (wd (b.take 64) t) (rds (b.take 64) s t) = rnd _ (wd b t) (rds b s t)
    rw [rds_take b s t, show wd (b.take 64) t = wd b t by unfold wd; rw [win_take]]
theorem absS_take (s : List UInt32) (b : List UInt8) : absS s (b.take 64) = absW s b := by
  rw [absS_eq]; unfold absW; rw [rds_take]

theorem ch_alt (e f g : UInt32) : xorW g (andW e (xorW f g)) = chW e f g := by
  unfold chW
  simp only [xorW_eq, andW_eq, notW_eq]
  apply u32_bits
  intro i hi
  simp only [UInt32.toNat_xor, UInt32.toNat_and, Nat.testBit_xor, Nat.testBit_and, not_bit e i hi]
  cases e.toNat.testBit i <;> cases f.toNat.testBit i <;> cases g.toNat.testBit i <;> rfl
theorem ma_alt (a b c : UInt32) : orW (andW a b) (andW c (orW a b)) = maW a b c := by
  unfold maW
  simp only [xorW_eq, andW_eq, orW_eq]
  apply u32_bits
  intro i hi
  simp only [UInt32.toNat_xor, UInt32.toNat_and, UInt32.toNat_or, Nat.testBit_xor, Nat.testBit_and, Nat.testBit_or]
  cases a.toNat.testBit i <;> cases b.toNat.testBit i <;> cases c.toNat.testBit i <;> rfl
end Go.AI
