/- Texts of the proof, joined: LogT2. -/
import Derived.Test.YtnmidfcefljafaaGreatQtLogU
namespace Go.AI
open Go
def unsh (t : Nat) : Nat := if t < 2147483648 then 2 * t else 2 * (t ^^^ 3988292384) + 1
theorem xcan (a c : Nat) : (a ^^^ c) ^^^ c = a := by rw [Nat.xor_assoc, Nat.xor_self, Nat.xor_zero]
theorem xinj {a b c : Nat} (h : a ^^^ c = b ^^^ c) : a = b := by rw [← xcan a c, h, xcan]
theorem unsh_sh1 {r : Nat} (h : r < 4294967296) : unsh (sh1 r) = r := by
 unfold sh1
 by_cases c : r % 2 = 1
 ·rw [if_pos c]
  have h1 : ¬ ((r / 2) ^^^ 3988292384 < 2147483648) := fun h2 => by
   have h3 := Nat.testBit_lt_two_pow (i := 31) h2
   have h4 : (r / 2).testBit 31 = false := Nat.testBit_lt_two_pow (by omega)
   rw [Nat.testBit_xor, h4, show Nat.testBit 3988292384 31 = true by decide] at h3
   cases h3
  unfold unsh
  rw [if_neg h1, xcan]; omega
 ·rw [if_neg c]; unfold unsh; rw [if_pos (by omega)]; omega
theorem sh1_inj {a b : Nat} (ha : a < 4294967296) (hb : b < 4294967296) (h : sh1 a = sh1 b) : a = b := by rw [← unsh_sh1 ha, h, unsh_sh1 hb]
theorem sh8_inj {a b : Nat} (ha : a < 4294967296) (hb : b < 4294967296) (h : sh8 a = sh8 b) : a = b :=
 have a1 := sh1_lt ha
 have b1 := sh1_lt hb
 have a2 := sh1_lt a1
 have b2 := sh1_lt b1
 have a3 := sh1_lt a2
 have b3 := sh1_lt b2
 have a4 := sh1_lt a3
 have b4 := sh1_lt b3
 have a5 := sh1_lt a4
 have b5 := sh1_lt b4
 have a6 := sh1_lt a5
 have b6 := sh1_lt b5
 have a7 := sh1_lt a6
 have b7 := sh1_lt b6
 sh1_inj ha hb (sh1_inj a1 b1 (sh1_inj a2 b2 (sh1_inj a3 b3 (sh1_inj a4 b4 (sh1_inj a5 b5 (sh1_inj a6 b6 (sh1_inj a7 b7 h)))))))
theorem reg_arg {r : Nat} (h : r < 4294967296) (b : UInt8) : r ^^^ b.toNat < 4294967296 := Nat.xor_lt_two_pow (n := 32) h (by have := b.toNat_lt; omega)
theorem regN_injL {r q : Nat} (hr : r < 4294967296) (hq : q < 4294967296) {b : UInt8} (h : regN r b = regN q b) : r = q := xinj (sh8_inj (reg_arg hr b) (reg_arg hq b) h)
theorem regN_injR {r : Nat} (hr : r < 4294967296) {b c : UInt8} (h : regN r b = regN r c) : b = c := by
 have := sh8_inj (reg_arg hr b) (reg_arg hr c) h
 rw [Nat.xor_comm r, Nat.xor_comm r] at this
 exact UInt8.toNat_inj.1 (xinj this)
theorem crcG_inj : ∀ (v : Bys) {r q : Nat}, r < 4294967296 → q < 4294967296 → crcG r v = crcG q v → r = q
 | [], _, _, _, _, h => h
 | x :: v, _, _, hr, hq, h => regN_injL hr hq (crcG_inj v (regN_lt hr x) (regN_lt hq x) h)
theorem crcG_set : ∀ (b : Bys) (i : Nat) (y : UInt8) {r : Nat}, r < 4294967296 → i < b.length → crcG r (b.set i y) = crcG r b → y = b.getD i 0
 | [], _, _, _, _, h, _ => absurd h (by simp)
 | x :: b, 0, y, r, hr, _, h => regN_injR hr (crcG_inj b (regN_lt hr y) (regN_lt hr x) h)
 | x :: b, i + 1, y, r, hr, hi, h => crcG_set b i y (regN_lt hr x) (by rw [List.length_cons] at hi; omega) h
theorem crcN_set {b : Bys} {i : Nat} {y : UInt8} (hi : i < b.length) (h : crcN (b.set i y) = crcN b) : y = b.getD i 0 := crcG_set b i y (by omega) hi (xinj h)
theorem payOf_set : ∀ (ps : List Page) (j i : Nat) (y : UInt8), pg16 ps = true → j < ps.length → i < 15 → payOf (ps.set j ((ps.getD j z16).set (1 + i) y)) = (payOf ps).set (15 * j + i) y
 | [], _, _, _, _, h, _ => absurd h (by simp)
 | p :: ps, 0, i, y, h, _, hi => by
  have h' := pg16_cons.1 h
  have hl : p.length = 16 := h'.1
  match p, hl with
  | x :: t, hl =>
   have ht : t.length = 15 := by rw [List.length_cons] at hl; omega
   show payOf ((x :: t).set (1 + i) y :: ps) = _
   rw [payOf_cons, payOf_cons, Nat.add_comm 1 i, List.set_cons_succ, List.drop_succ_cons, List.drop_zero, List.drop_succ_cons, List.drop_zero, List.take_of_length_le (by rw [List.length_set]; omega), List.take_of_length_le (by omega), List.set_append_left _ _ (by omega), Nat.mul_zero, Nat.zero_add]
 | p :: ps, j + 1, i, y, h, hj, hi => by
  have h' := pg16_cons.1 h
  have hl : ((p.drop 1).take 15).length = 15 := by rw [List.length_take, List.length_drop]; omega
  have ih := payOf_set ps j i y h'.2 (by rw [List.length_cons] at hj; omega) hi
  show payOf (p :: ps.set j ((ps.getD j z16).set (1 + i) y)) = _
  rw [payOf_cons, payOf_cons, ih, List.set_append_right _ _ (by omega), hl, show 15 * (j + 1) + i - 15 = 15 * j + i by omega]
theorem getD_setE {α : Type} {l : List α} {i : Nat} (h : i < l.length) (v z : α) : (l.set i v).getD i z = v := by
 rw [getD_lt (by rw [List.length_set]; exact h), List.getElem_set, if_pos rfl]
theorem getD_setN {α : Type} {l : List α} {i j : Nat} (h : i ≠ j) (v z : α) : (l.set i v).getD j z = l.getD j z := by
 simp only [List.getD, List.getElem?_set_ne h]
theorem page_at {b : Bys} {j : Nat} (h : j < (dataPs b).length) : isDat ((dataPs b).getD j z16) = true ∧ ((dataPs b).getD j z16).length = 16 := by
 rw [getD_lt h]
 exact datN_dat _ _ _ (List.getElem_mem h)
theorem dat_spoil {b : Bys} (hb : b.length ≤ 65536) {c : Nat} (hc : c < 4294967296) (rest : List Page) {j i : Nat} (hj : j < (dataPs b).length) (hi : i < 15) {y : UInt8} (hy : y ≠ ((dataPs b).getD j z16).getD (1 + i) 0) :
  readP ((dataPs b).set j (((dataPs b).getD j z16).set (1 + i) y) ++ comP b c :: rest) c = none := by
 have hp := page_at hj
 have h16 := data_16 b
 have hpay := payOf_set (dataPs b) j i y h16 hj hi
 have hget := payOf_get (dataPs b) (15 * j + i) h16 (by omega)
 rw [show (15 * j + i) / 15 = j by omega, show (15 * j + i) % 15 = i by omega] at hget
 have hlen := payOf_len h16
 have hn : b.length ≤ 15 * needN b.length := by unfold needN; omega
 have hb0 : payOf (dataPs b) = b ++ List.replicate (15 * needN b.length - b.length) 0 := by unfold dataPs; exact payOf_datN _ _ hn
 have hmem : ∀ p, p ∈ (dataPs b).set j (((dataPs b).getD j z16).set (1 + i) y) → isDat p = true ∧ p.length = 16 := fun p hm => by
  rcases List.mem_or_eq_of_mem_set hm with hm | rfl
  ·exact datN_dat _ _ p hm
  ·refine ⟨?_, by rw [List.length_set]; exact hp.2⟩
   have h := hp.1
   unfold isDat at h ⊢
   rw [getD_setN (by omega)]; exact h
 generalize hps : (dataPs b).set j (((dataPs b).getD j z16).set (1 + i) y) = ps at hmem hpay ⊢
 have hpsl : ps.length = (dataPs b).length := by rw [← hps, List.length_set]
 obtain ⟨h1, h2⟩ := tw_app (fun p hm => (hmem p hm).1) (com_nodat b c) (r := rest)
 have hk : okCom (comP b c) (c : Int) ps.length (payOf ps) = false := by
  cases hk : okCom (comP b c) (c : Int) ps.length (payOf ps) with
  | false => rfl
  | true =>
   exfalso
   obtain ⟨f1, f2, f3, f4⟩ := fld_com b c
   have f3' : fld (comP b c) 8 4 = b.length := by rw [f3]; omega
   rw [okCom_iff (com_16 b c) (List.all_eq_true.2 fun p hm => tt (hmem p hm).2) (fun p hm => (hmem p hm).1) hc, f3'] at hk
   obtain ⟨_, _, k1, _, k2⟩ := hk
   have hb' : (payOf ps).take b.length = b.set (15 * j + i) y := by
    rw [hpay, List.take_set, hb0, List.take_left' rfl]
   rw [hb'] at k1 k2
   have hcrc := (fld_com b c).2.2.2
   rw [k1, (fld_com _ c).2.2.2] at hcrc
   by_cases hk : 15 * j + i < b.length
   ·have e := crcN_set hk hcrc
    apply hy
    rw [← hget, hb0, e]
    simp only [List.getD, List.getElem?_append_left hk]
   ·rw [List.set_eq_of_length_le (by omega)] at k2
    rw [k2] at hpay
    apply hy
    rw [← hget, hpay, getD_setE (by rw [hlen]; omega)]
 unfold readP
 rw [h2, h1]
 simp only [hk, Bool.false_eq_true, if_false]
theorem com_spoil {b : Bys} (hb : b.length ≤ 65536) {c : Nat} (hc : c + 1 < 4294967296) {rest : List Page} (hr : noCom rest = true ∨ ∃ b2 r, rest = blk b2 (c + 1) ++ r) {a : Nat} (ha : a < 16) {y : UInt8} (hy : y ≠ (comP b c).getD a 0) (h1 : ¬ (8 ≤ a ∧ a < 12)) :
  readP (dataPs b ++ (comP b c).set a y :: rest) c = none := by
 have hd : ∀ p, p ∈ dataPs b → isDat p = true := fun p hp => (datN_dat _ _ p hp).1
 have hl16 := com_16 b c
 have hn : b.length ≤ 15 * needN b.length := by unfold needN; omega
 have fin : ∀ {ps : List Page} {p : Page} {r : List Page}, (∀ q, q ∈ ps → isDat q = true) → isDat p = false → okCom p (c : Int) ps.length (payOf ps) = false → readP (ps ++ p :: r) c = none := fun {ps p r} k1 k2 k3 => by
  obtain ⟨e1, e2⟩ := tw_app k1 k2 (r := r)
  unfold readP
  rw [e2, e1]
  simp only [k3, Bool.false_eq_true, if_false]
 have two : ∀ {p : Page} {k : Nat} {pay : Bys}, (p.getD 0 0).toNat ≠ 2 → okCom p (c : Int) k pay = false := fun {p k pay} h => by
  unfold okCom
  rw [ff (fun k => h k.1), Bool.false_and]
 by_cases c0 : a = 0
 ·subst c0
  have hg : (((comP b c).set 0 y).getD 0 0) = y := getD_setE (by omega) _ _
  have hy2 : y.toNat ≠ 2 := fun e => hy (UInt8.toNat_inj.1 e)
  by_cases c1 : y.toNat = 1
  ·have hp : isDat ((comP b c).set 0 y) = true := isDat_iff.2 (by rw [hg]; exact c1)
   rcases hr with hr | ⟨b2, r, rfl⟩
   ·refine noCom_read (List.all_eq_true.2 fun p hm => ?_) _
    refine tt ?_
    rcases List.mem_append.1 hm with hm | hm
    ·have := isDat_iff.1 (hd p hm); omega
    ·rcases List.mem_cons.1 hm with rfl | hm
     ·rw [hg]; exact hy2
     ·exact of_decide_eq_true (List.all_eq_true.1 hr p hm)
   ·have e : dataPs b ++ (comP b c).set 0 y :: (blk b2 (c + 1) ++ r) = (dataPs b ++ (comP b c).set 0 y :: dataPs b2) ++ comP b2 (c + 1) :: r := by
     unfold blk; rw [List.append_assoc, List.append_assoc, List.cons_append]; rfl
    rw [e]
    refine fin (fun q hq => ?_) (com_nodat _ _) ?_
    ·rcases List.mem_append.1 hq with hq | hq
     ·exact hd q hq
     ·rcases List.mem_cons.1 hq with rfl | hq
      ·exact hp
      ·exact (datN_dat _ _ q hq).1
    ·unfold okCom
     rw [ff (fun k => by
      have := k.2.1
      rw [(fld_com b2 (c + 1)).1] at this
      omega), Bool.false_and]
  ·exact fin hd (by cases h : isDat ((comP b c).set 0 y) with | false => rfl | true => exact absurd (isDat_iff.1 h) (by rw [hg]; exact c1)) (two (by rw [hg]; exact hy2))
 ·have hg : ((comP b c).set a y).getD 0 0 = 2 := by rw [getD_setN c0]; rfl
  refine fin hd (by unfold isDat; rw [hg]; rfl) ?_
  cases hk : okCom ((comP b c).set a y) (c : Int) (dataPs b).length (payOf (dataPs b)) with
  | false => rfl
  | true =>
   exfalso
   have f3' : fld ((comP b c).set a y) 8 4 = b.length := by
    have e : (((comP b c).set a y).drop 8).take 4 = ((comP b c).drop 8).take 4 := by
     rw [List.drop_set]
     split
     ·rfl
     ·rw [List.take_set, List.set_eq_of_length_le (by rw [List.length_take, List.length_drop]; omega)]
    have e2 : fld ((comP b c).set a y) 8 4 = fld (comP b c) 8 4 := congrArg beV e
    rw [e2, (fld_com b c).2.2.1]; omega
   rw [okCom_iff (by rw [List.length_set]; exact hl16) (data_16 b) hd (by omega), f3'] at hk
   have k1 := hk.2.2.1
   have hpay : (payOf (dataPs b)).take b.length = b := by
    unfold dataPs
    rw [payOf_datN _ _ hn, List.take_left' rfl]
   rw [hpay] at k1
   apply hy
   rw [← k1, getD_setE (by omega)]
theorem blk_spoil {b : Bys} (hb : b.length ≤ 65536) {c : Nat} (hc : c + 1 < 4294967296) {rest : List Page} (hr : noCom rest = true ∨ ∃ b2 r, rest = blk b2 (c + 1) ++ r) {q a : Nat} (hq : q < (blk b c).length) (ha : a < 16) {y : UInt8} (hy : y ≠ ((blk b c).getD q z16).getD a 0)
  (h1 : ¬ ((((blk b c).getD q z16).getD 0 0).toNat = 2 ∧ 8 ≤ a ∧ a < 12)) (h2 : ¬ ((((blk b c).getD q z16).getD 0 0).toNat = 1 ∧ a = 0)) :
  readP ((blk b c).set q (((blk b c).getD q z16).set a y) ++ rest) c = none := by
 have hl := blk_len b c
 have hdl := dataPs_len b
 by_cases hd : q < (dataPs b).length
 ·have ep : (blk b c).getD q z16 = (dataPs b).getD q z16 := by unfold blk; simp only [List.getD, List.getElem?_append_left hd]
  rw [ep] at hy h1 h2 ⊢
  have ha0 : a ≠ 0 := fun e => h2 ⟨isDat_iff.1 (page_at hd).1, e⟩
  obtain ⟨i, rfl⟩ : ∃ i, a = 1 + i := ⟨a - 1, by omega⟩
  have e : (blk b c).set q (((dataPs b).getD q z16).set (1 + i) y) ++ rest = (dataPs b).set q (((dataPs b).getD q z16).set (1 + i) y) ++ comP b c :: rest := by
   unfold blk; rw [List.set_append_left _ _ hd, List.append_assoc]; rfl
  rw [e]
  exact dat_spoil hb (by omega) rest hd (by omega) hy
 ·obtain rfl : q = (dataPs b).length := by omega
  have ep : (blk b c).getD (dataPs b).length z16 = comP b c := by
   unfold blk; simp only [List.getD, List.getElem?_append_right (Nat.le_refl _), Nat.sub_self]; rfl
  rw [ep] at hy h1 h2 ⊢
  have e : (blk b c).set (dataPs b).length ((comP b c).set a y) ++ rest = dataPs b ++ (comP b c).set a y :: rest := by
   unfold blk; rw [List.set_append_right _ _ (Nat.le_refl _), Nat.sub_self, List.append_assoc]; rfl
  rw [e]
  exact com_spoil hb hc hr ha hy (fun k => h1 ⟨rfl, k⟩)
theorem rem16 (a : UInt8) : cvBI (remB a 16) = ((a.toNat % 16 : Nat) : Int) := by
 rw [cvBI_eq]
 have e : remB a 16 = UInt8.ofNat ((a.toNat : Int).tmod (((16 : UInt8).toNat : Nat) : Int)).toNat := rfl
 have e2 : (a.toNat : Int).tmod (((16 : UInt8).toNat : Nat) : Int) = ((a.toNat % 16 : Nat) : Int) := by rw [Int.tmod_eq_emod_of_nonneg (by omega), show (16 : UInt8).toNat = 16 from rfl]; omega
 rw [e, e2, Int.toNat_natCast, UInt8.toNat_ofNat']; omega
theorem xor_ne (x : UInt8) {y : UInt8} (h : y.toNat ≠ 0) : xorB x y ≠ x := fun e => by
 rw [xorB_eq] at e
 have e2 := congrArg UInt8.toNat e
 rw [UInt8.toNat_xor, Nat.xor_comm] at e2
 have e3 : y.toNat ^^^ x.toNat = 0 ^^^ x.toNat := by rw [e2, Nat.zero_xor]
 exact h (xinj e3)
end Go.AI
