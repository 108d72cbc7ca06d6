/- Texts of the proof, joined: DigestB. Names of our own are shortened by program; the long ones stand in wip/. -/
import Derived.Test.YtcdajbmgoafnkaaGreatQrS
import Derived.Test.YtcdajbmgoafnkaaGreatQrWord
namespace Go.AI
open Go
theorem Jpr (x : UInt32) (m : Int) (n : Nat) (hm : m = n) (h : n ≤ 32) : (ror x m).toNat = K9m x.toNat n := by
 subst hm
 unfold ror K9m
 rw [show Jby 32 (n : Int) = ((32 - n : Nat) : Int) by rw [Jca (by omega) (by omega)]; omega]
 rw [Krk, UInt32.toNat_or, Jph x n h, Jsi x (32 - n) (by omega), Nat.shiftRight_eq_div_pow, Nat.shiftLeft_eq]
theorem Qcl (x : UInt32) (m : Int) (n : Nat) (hm : m = n) (h : n ≤ 32) : (Jpy x m).toNat = x.toNat >>> n := by
 subst hm
 rw [Jph x n h, Nat.shiftRight_eq_div_pow]
theorem Qml (a : UInt32) : (bs0 a).toNat = bs0N a.toNat := by
 unfold bs0 bs0N
 rw [Jhx, Jhx, UInt32.toNat_xor, UInt32.toNat_xor, Jpr a 2 2 rfl (by omega), Jpr a 13 13 rfl (by omega), Jpr a 22 22 rfl (by omega)]
theorem Qmm (a : UInt32) : (bs1 a).toNat = bs1N a.toNat := by
 unfold bs1 bs1N
 rw [Jhx, Jhx, UInt32.toNat_xor, UInt32.toNat_xor, Jpr a 6 6 rfl (by omega), Jpr a 11 11 rfl (by omega), Jpr a 25 25 rfl (by omega)]
theorem Qmn (a : UInt32) : (ss0 a).toNat = ss0N a.toNat := by
 unfold ss0 ss0N
 rw [Jhx, Jhx, UInt32.toNat_xor, UInt32.toNat_xor, Jpr a 7 7 rfl (by omega), Jpr a 18 18 rfl (by omega), Qcl a 3 3 rfl (by omega)]
theorem Qmo (a : UInt32) : (ss1 a).toNat = ss1N a.toNat := by
 unfold ss1 ss1N
 rw [Jhx, Jhx, UInt32.toNat_xor, UInt32.toNat_xor, Jpr a 17 17 rfl (by omega), Jpr a 19 19 rfl (by omega), Qcl a 10 10 rfl (by omega)]
theorem Qmp (a : UInt32) : (~~~ a).toNat = 4294967295 - a.toNat := by
 rw [← UInt32.toNat_toBitVec, UInt32.toBitVec_not, BitVec.toNat_not]
 show 2 ^ 32 - 1 - a.toNat = _
 omega
theorem Qmq (e f g : UInt32) : (chW e f g).toNat = chN e.toNat f.toNat g.toNat := by
 unfold chW chN
 rw [Jhx, Jup, Jup, Ky6, UInt32.toNat_xor, UInt32.toNat_and, UInt32.toNat_and, Qmp]
theorem Qmr (a b c : UInt32) : (maW a b c).toNat = maN a.toNat b.toNat c.toNat := by
 unfold maW maN
 rw [Jhx, Jhx, Jup, Jup, Jup, UInt32.toNat_xor, UInt32.toNat_xor, UInt32.toNat_and, UInt32.toNat_and, UInt32.toNat_and]
theorem Jsj (a b : UInt32) : (Jbp a b).toNat = (a.toNat + b.toNat) % 4294967296 := by
 rw [Ky5, UInt32.toNat_add]
theorem Qii (a : Nat) (b : UInt8) : (a * 256 ||| b.toNat) = a * 256 + b.toNat := by
 have hb := b.toNat_lt
 have h := Nat.two_pow_add_eq_or_of_lt (i := 8) (b := b.toNat) (by omega) a
 rw [show a * 256 = 2 ^ 8 * a by omega, ← h]
theorem Qij (a : UInt32) (b : UInt8) (h : a.toNat < 16777216) : (orW (Jze a 8) (Jow b)).toNat = a.toNat * 256 + b.toNat := by
 have h8 := Jsi a 8 (by omega)
 rw [show ((8 : Nat) : Int) = 8 from rfl] at h8
 rw [Krk, UInt32.toNat_or, h8, J9d, Nat.mod_eq_of_lt (by omega), show (2 : Nat) ^ 8 = 256 from rfl, Qii]
theorem Jpi {α : Type} {l : List α} {i : Nat} {d : α} (h : i < l.length) : l.getD i d = l[i] := by
 simp [List.getD_eq_getElem?_getD, h]
theorem Jgc {α β : Type} (f : α → β) (l : List α) (i : Nat) (d : α) (e : β) (h : f d = e) : (l.map f).getD i e = f (l.getD i d) := by
 simp only [List.getD_eq_getElem?_getD, List.getElem?_map]
 cases l[i]? <;> simp [h]
theorem Qik (b : List UInt8) (t : Nat) : (K3x b t).toNat = wdN (b.map UInt8.toNat) t := by
 unfold K3x wdN
 have h0 := (b.getD (4 * t) 0).toNat_lt
 have h1 := (b.getD (4 * t + 1) 0).toNat_lt
 have h2 := (b.getD (4 * t + 2) 0).toNat_lt
 have h3 := (b.getD (4 * t + 3) 0).toNat_lt
 rw [Jgc UInt8.toNat b _ 0 0 rfl, Jgc UInt8.toNat b _ 0 0 rfl, Jgc UInt8.toNat b _ 0 0 rfl, Jgc UInt8.toNat b _ 0 0 rfl]
 have e0 := Qij 0 (b.getD (4 * t) 0) (by rw [UInt32.toNat_zero]; omega)
 rw [UInt32.toNat_zero] at e0
 have e1 := Qij _ (b.getD (4 * t + 1) 0) (show (orW (Jze 0 8) (Jow (b.getD (4 * t) 0))).toNat < 16777216 by omega)
 have e2 := Qij _ (b.getD (4 * t + 2) 0) (show (orW (Jze (orW (Jze 0 8) (Jow (b.getD (4 * t) 0))) 8) (Jow (b.getD (4 * t + 1) 0))).toNat < 16777216 by omega)
 have e3 := Qij _ (b.getD (4 * t + 3) 0) (show (orW (Jze (orW (Jze (orW (Jze 0 8) (Jow (b.getD (4 * t) 0))) 8) (Jow (b.getD (4 * t + 1) 0))) 8) (Jow (b.getD (4 * t + 2) 0))).toNat < 16777216 by omega)
 rw [e3, e2, e1, e0]
 generalize (b.getD (4 * t) 0).toNat = x0, (b.getD (4 * t + 1) 0).toNat = x1, (b.getD (4 * t + 2) 0).toNat = x2, (b.getD (4 * t + 3) 0).toNat = x3
 omega
theorem Qcm (w : List UInt32) : (K6w w).map UInt32.toNat = Qlr (w.map UInt32.toNat) := by
 unfold K6w Qlr
 rw [List.map_append, List.map_tail, List.map_cons, List.map_nil, Jsj, Jsj, Jsj, Qmn, Qmo, Jgc UInt32.toNat w 0 0 0 rfl, Jgc UInt32.toNat w 1 0 0 rfl, Jgc UInt32.toNat w 9 0 0 rfl, Jgc UInt32.toNat w 14 0 0 rfl]
 congr 2
 omega
theorem Qow : kW.map UInt32.toNat = kN := by decide
theorem Qcn : kN.length = 64 := by decide
theorem Qox {l : List UInt32} (h : l.length = 8) : n8 l = l := by
 match l, h with
 | [a, b, c, d, e, f, g, i], _ => rfl
theorem K4e (b : List UInt8) (s : List UInt32) (t : Nat) : n8 (rds b s t) = rds b s t := by
 cases t with
 | zero => rfl
 | succ t => rfl
theorem Qco (b : List UInt8) (s : List UInt32) : ∀ (j t : Nat), t + j = 64 → rdsN (kN.drop t) ((win b t).map UInt32.toNat) ((rds b s t).getD 0 0).toNat ((rds b s t).getD 1 0).toNat ((rds b s t).getD 2 0).toNat ((rds b s t).getD 3 0).toNat ((rds b s t).getD 4 0).toNat ((rds b s t).getD 5 0).toNat ((rds b s t).getD 6 0).toNat ((rds b s t).getD 7 0).toNat = (rds b s 64).map UInt32.toNat
 | 0, t, h => by
  have e : t = 64 := by omega
  subst e
  have hf := K4e b s 64
  rw [List.drop_eq_nil_of_le (by rw [Qcn]; omega)]
  generalize rds b s 64 = x at *
  conv => rhs; rw [← hf]
  rfl
 | j + 1, t, h => by
  have hk : kN.drop t = (kW.getD t 0).toNat :: kN.drop (t + 1) := by
   rw [List.drop_eq_getElem_cons (by rw [Qcn]; omega)]
   congr 1
   have := Jgc UInt32.toNat kW t 0 0 rfl
   rw [Qow] at this
   rw [← this, Jpi (by rw [Qcn]; omega)]
  have ih := Qco b s j (t + 1) (by omega)
  rw [hk, ← ih]
  simp only [rdsN]
  rw [show win b (t + 1) = K6w (win b t) from rfl, Qcm]
  have ew : ((win b t).map UInt32.toNat).getD 0 0 = (wd b t).toNat := Jgc UInt32.toNat _ 0 0 0 rfl
  have g0 : (rds b s (t + 1)).getD 0 0 = Jbp (Jbp (Jbp (Jbp (Jbp ((rds b s t).getD 7 0) (bs1 ((rds b s t).getD 4 0))) (chW ((rds b s t).getD 4 0) ((rds b s t).getD 5 0) ((rds b s t).getD 6 0))) (kW.getD t 0)) (wd b t)) (Jbp (bs0 ((rds b s t).getD 0 0)) (maW ((rds b s t).getD 0 0) ((rds b s t).getD 1 0) ((rds b s t).getD 2 0))) := rfl
  have g4 : (rds b s (t + 1)).getD 4 0 = Jbp ((rds b s t).getD 3 0) (Jbp (Jbp (Jbp (Jbp ((rds b s t).getD 7 0) (bs1 ((rds b s t).getD 4 0))) (chW ((rds b s t).getD 4 0) ((rds b s t).getD 5 0) ((rds b s t).getD 6 0))) (kW.getD t 0)) (wd b t)) := rfl
  rw [g0, g4, show (rds b s (t + 1)).getD 1 0 = (rds b s t).getD 0 0 from rfl, show (rds b s (t + 1)).getD 2 0 = (rds b s t).getD 1 0 from rfl, show (rds b s (t + 1)).getD 3 0 = (rds b s t).getD 2 0 from rfl, show (rds b s (t + 1)).getD 5 0 = (rds b s t).getD 4 0 from rfl, show (rds b s (t + 1)).getD 6 0 = (rds b s t).getD 5 0 from rfl, show (rds b s (t + 1)).getD 7 0 = (rds b s t).getD 6 0 from rfl]
  simp only [Jsj, Qml, Qmm, Qmq, Qmr, ew]
  congr 1 <;> omega
theorem Qms (s : List UInt32) (b : List UInt8) : Qbs s b = Qlq s b := by
 unfold Qbs Qlq add8
 have h := Qco b s 64 0 rfl
 have hw : (win b 0).map UInt32.toNat = (List.range 16).map (wdN (b.map UInt8.toNat)) := by
  show ((List.range 16).map (K3x b)).map UInt32.toNat = _
  rw [List.map_map]
  congr 1
  funext t
  exact Qik b t
 rw [hw, show kN.drop 0 = kN from rfl] at h
 have e : ∀ i, (s.map UInt32.toNat).getD i 0 = (s.getD i 0).toNat := fun i => Jgc UInt32.toNat s i 0 0 rfl
 simp only [e]
 rw [show (rds b s 0).getD 0 0 = s.getD 0 0 from rfl, show (rds b s 0).getD 1 0 = s.getD 1 0 from rfl, show (rds b s 0).getD 2 0 = s.getD 2 0 from rfl, show (rds b s 0).getD 3 0 = s.getD 3 0 from rfl, show (rds b s 0).getD 4 0 = s.getD 4 0 from rfl, show (rds b s 0).getD 5 0 = s.getD 5 0 from rfl, show (rds b s 0).getD 6 0 = s.getD 6 0 from rfl, show (rds b s 0).getD 7 0 = s.getD 7 0 from rfl] at h
 rw [h]
 have f : ∀ i, ((rds b s 64).map UInt32.toNat).getD i 0 = ((rds b s 64).getD i 0).toNat := fun i => Jgc UInt32.toNat _ i 0 0 rfl
 have g : ∀ x y : UInt32, UInt32.ofNat (x.toNat + y.toNat) = Jbp x y := fun x y => by
  apply UInt32.toNat_inj.1
  rw [Jsj, UInt32.toNat_ofNat']
 simp only [f, g]
theorem Qil (s : List UInt32) (b : List UInt8) : (Qbs s b).length = 8 := rfl
theorem Ky7 (b : List UInt8) : ∀ t, (win b t).length = 16
 | 0 => by show ((List.range 16).map (K3x b)).length = 16; simp
 | t + 1 => by
  have := Ky7 b t
  show ((win b t).tail ++ [_]).length = 16
  simp [this]
theorem Jzr (b : List UInt8) : ∀ (j t : Nat), j < 16 → (win b t).getD j 0 = wd b (t + j)
 | 0, t, _ => rfl
 | j + 1, t, h => by
  have hl := Ky7 b t
  have e : (win b (t + 1)).getD j 0 = (win b t).getD (j + 1) 0 := by
   show ((win b t).tail ++ [_]).getD j 0 = _
   have hlt : j < (win b t).tail.length := by simp [hl]; omega
   simp only [List.getD_eq_getElem?_getD]
   rw [List.getElem?_append_left hlt, List.getElem?_tail]
  rw [← e, Jzr b j (t + 1) (by omega)]
  congr 1
  omega
theorem Qkj (b : List UInt8) (t : Nat) (h : t < 16) : wd b t = K3x b t := by
 have := Jzr b t 0 h
 rw [Nat.zero_add] at this
 rw [← this]
 show ((List.range 16).map (K3x b)).getD t 0 = _
 rw [Jpi (by simp; omega)]
 simp
theorem Qcp (b : List UInt8) (t : Nat) : wd b (t + 16) = Jbp (Jbp (Jbp (wd b t) (ss0 (wd b (t + 1)))) (wd b (t + 9))) (ss1 (wd b (t + 14))) := by
 have h := Jzr b 15 (t + 1) (by omega)
 rw [show t + 1 + 15 = t + 16 by omega] at h
 rw [← h]
 show ((win b t).tail ++ [_]).getD 15 0 = _
 have hl : (win b t).tail.length = 15 := by simp [Ky7 b t]
 rw [List.getD_eq_getElem?_getD, List.getElem?_append_right (by omega), hl]
 simp only [Nat.sub_self, List.getElem?_cons_zero, Option.getD_some]
 rw [Jzr b 0 t (by omega), Jzr b 1 t (by omega), Jzr b 9 t (by omega), Jzr b 14 t (by omega), Nat.add_zero]
theorem Juq {α : Type} (l : List α) (n i : Nat) (d : α) (h : i < n) : (l.take n).getD i d = l.getD i d := by
 simp only [List.getD_eq_getElem?_getD]
 rw [List.getElem?_take_of_lt h]
theorem Qcq (b : List UInt8) (t : Nat) (h : t < 16) : K3x (b.take 64) t = K3x b t := by
 unfold K3x
 rw [Juq b 64 (4 * t) 0 (by omega), Juq b 64 (4 * t + 1) 0 (by omega), Juq b 64 (4 * t + 2) 0 (by omega), Juq b 64 (4 * t + 3) 0 (by omega)]
theorem K4f (b : List UInt8) : ∀ t, win (b.take 64) t = win b t
 | 0 => by
  apply List.map_congr_left
  intro t ht
  exact Qcq b t (List.mem_range.1 ht)
 | t + 1 => by
  show K6w (win (b.take 64) t) = K6w (win b t)
  rw [K4f b t]
theorem K4g (b : List UInt8) (s : List UInt32) : ∀ t, rds (b.take 64) s t = rds b s t
 | 0 => rfl
 | t + 1 => by
  show rnd _ (wd (b.take 64) t) (rds (b.take 64) s t) = rnd _ (wd b t) (rds b s t)
  rw [K4g b s t, show wd (b.take 64) t = wd b t by unfold wd; rw [K4f]]
theorem Krl (s : List UInt32) (b : List UInt8) : Qbs s (b.take 64) = Qlq s b := by
 rw [Qms]; unfold Qlq; rw [K4g]
theorem Qoy (e f g : UInt32) : Jgq g (J0h e (Jgq f g)) = chW e f g := by
 unfold chW
 simp only [Jhx, Jup, Ky6]
 apply K4d
 intro i hi
 simp only [UInt32.toNat_xor, UInt32.toNat_and, Nat.testBit_xor, Nat.testBit_and, Qck e i hi]
 cases e.toNat.testBit i <;> cases f.toNat.testBit i <;> cases g.toNat.testBit i <;> rfl
theorem Qoz (a b c : UInt32) : orW (J0h a b) (J0h c (orW a b)) = maW a b c := by
 unfold maW
 simp only [Jhx, Jup, Krk]
 apply K4d
 intro i hi
 simp only [UInt32.toNat_xor, UInt32.toNat_and, UInt32.toNat_or, Nat.testBit_xor, Nat.testBit_and, Nat.testBit_or]
 cases a.toNat.testBit i <;> cases b.toNat.testBit i <;> cases c.toNat.testBit i <;> rfl
end Go.AI
