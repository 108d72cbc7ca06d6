/- Texts of the proof, joined: DigestB. Names of our own are shortened by program; the long ones stand in wip/. -/
import Derived.Test.YtnmidfcefljafaaGreatQsS
import Derived.Test.YtnmidfcefljafaaGreatQsWord
namespace Go.AI
open Go
theorem Jl9 (x : UInt32) (m : Int) (n : Nat) (hm : m = n) (h : n ≤ 32) : (ror x m).toNat = Kt0 x.toNat n := by
 subst hm
 unfold ror Kt0
 rw [show Jdj 32 (n : Int) = ((32 - n : Nat) : Int) by rw [Jde (by omega) (by omega)]; omega]
 rw [Kfx, UInt32.toNat_or, Jwd x n h, Jog x (32 - n) (by omega), Nat.shiftRight_eq_div_pow, Nat.shiftLeft_eq]
theorem Kwy (x : UInt32) (m : Int) (n : Nat) (hm : m = n) (h : n ≤ 32) : (Jrn x m).toNat = x.toNat >>> n := by
 subst hm
 rw [Jwd x n h, Nat.shiftRight_eq_div_pow]
theorem K50 (a : UInt32) : (bs0 a).toNat = bs0N a.toNat := by
 unfold bs0 bs0N
 rw [Jgk, Jgk, UInt32.toNat_xor, UInt32.toNat_xor, Jl9 a 2 2 rfl (by omega), Jl9 a 13 13 rfl (by omega), Jl9 a 22 22 rfl (by omega)]
theorem K51 (a : UInt32) : (bs1 a).toNat = bs1N a.toNat := by
 unfold bs1 bs1N
 rw [Jgk, Jgk, UInt32.toNat_xor, UInt32.toNat_xor, Jl9 a 6 6 rfl (by omega), Jl9 a 11 11 rfl (by omega), Jl9 a 25 25 rfl (by omega)]
theorem K52 (a : UInt32) : (ss0 a).toNat = ss0N a.toNat := by
 unfold ss0 ss0N
 rw [Jgk, Jgk, UInt32.toNat_xor, UInt32.toNat_xor, Jl9 a 7 7 rfl (by omega), Jl9 a 18 18 rfl (by omega), Kwy a 3 3 rfl (by omega)]
theorem K53 (a : UInt32) : (ss1 a).toNat = ss1N a.toNat := by
 unfold ss1 ss1N
 rw [Jgk, Jgk, UInt32.toNat_xor, UInt32.toNat_xor, Jl9 a 17 17 rfl (by omega), Jl9 a 19 19 rfl (by omega), Kwy a 10 10 rfl (by omega)]
theorem K54 (a : UInt32) : (~~~ a).toNat = 4294967295 - a.toNat := by
 rw [← UInt32.toNat_toBitVec, UInt32.toBitVec_not, BitVec.toNat_not]
 show 2 ^ 32 - 1 - a.toNat = _
 omega
theorem K55 (e f g : UInt32) : (chW e f g).toNat = chN e.toNat f.toNat g.toNat := by
 unfold chW chN
 rw [Jgk, Jqc, Jqc, Klj, UInt32.toNat_xor, UInt32.toNat_and, UInt32.toNat_and, K54]
theorem K56 (a b c : UInt32) : (maW a b c).toNat = maN a.toNat b.toNat c.toNat := by
 unfold maW maN
 rw [Jgk, Jgk, Jqc, Jqc, Jqc, UInt32.toNat_xor, UInt32.toNat_xor, UInt32.toNat_and, UInt32.toNat_and, UInt32.toNat_and]
theorem Jwe (a b : UInt32) : (Jcv a b).toNat = (a.toNat + b.toNat) % 4294967296 := by
 rw [Kww, UInt32.toNat_add]
theorem K1z (a : Nat) (b : UInt8) : (a * 256 ||| b.toNat) = a * 256 + b.toNat := by
 have hb := b.toNat_lt
 have h := Nat.two_pow_add_eq_or_of_lt (i := 8) (b := b.toNat) (by omega) a
 rw [show a * 256 = 2 ^ 8 * a by omega, ← h]
theorem K10 (a : UInt32) (b : UInt8) (h : a.toNat < 16777216) : (orW (Jxf a 8) (Jxg b)).toNat = a.toNat * 256 + b.toNat := by
 have h8 := Jog a 8 (by omega)
 rw [show ((8 : Nat) : Int) = 8 from rfl] at h8
 rw [Kfx, UInt32.toNat_or, h8, Kpx, Nat.mod_eq_of_lt (by omega), show (2 : Nat) ^ 8 = 256 from rfl, K1z]
theorem Jjt {α : Type} {l : List α} {i : Nat} {d : α} (h : i < l.length) : l.getD i d = l[i] := by
 simp [List.getD_eq_getElem?_getD, h]
theorem Je1 {α β : Type} (f : α → β) (l : List α) (i : Nat) (d : α) (e : β) (h : f d = e) : (l.map f).getD i e = f (l.getD i d) := by
 simp only [List.getD_eq_getElem?_getD, List.getElem?_map]
 cases l[i]? <;> simp [h]
theorem K11 (b : List UInt8) (t : Nat) : (Kry b t).toNat = wdN (b.map UInt8.toNat) t := by
 unfold Kry wdN
 have h0 := (b.getD (4 * t) 0).toNat_lt
 have h1 := (b.getD (4 * t + 1) 0).toNat_lt
 have h2 := (b.getD (4 * t + 2) 0).toNat_lt
 have h3 := (b.getD (4 * t + 3) 0).toNat_lt
 rw [Je1 UInt8.toNat b _ 0 0 rfl, Je1 UInt8.toNat b _ 0 0 rfl, Je1 UInt8.toNat b _ 0 0 rfl, Je1 UInt8.toNat b _ 0 0 rfl]
 have e0 := K10 0 (b.getD (4 * t) 0) (by rw [UInt32.toNat_zero]; omega)
 rw [UInt32.toNat_zero] at e0
 have e1 := K10 _ (b.getD (4 * t + 1) 0) (show (orW (Jxf 0 8) (Jxg (b.getD (4 * t) 0))).toNat < 16777216 by omega)
 have e2 := K10 _ (b.getD (4 * t + 2) 0) (show (orW (Jxf (orW (Jxf 0 8) (Jxg (b.getD (4 * t) 0))) 8) (Jxg (b.getD (4 * t + 1) 0))).toNat < 16777216 by omega)
 have e3 := K10 _ (b.getD (4 * t + 3) 0) (show (orW (Jxf (orW (Jxf (orW (Jxf 0 8) (Jxg (b.getD (4 * t) 0))) 8) (Jxg (b.getD (4 * t + 1) 0))) 8) (Jxg (b.getD (4 * t + 2) 0))).toNat < 16777216 by omega)
 rw [e3, e2, e1, e0]
 generalize (b.getD (4 * t) 0).toNat = x0, (b.getD (4 * t + 1) 0).toNat = x1, (b.getD (4 * t + 2) 0).toNat = x2, (b.getD (4 * t + 3) 0).toNat = x3
 omega
theorem Kwz (w : List UInt32) : (Krz w).map UInt32.toNat = K5h (w.map UInt32.toNat) := by
 unfold Krz K5h
 rw [List.map_append, List.map_tail, List.map_cons, List.map_nil, Jwe, Jwe, Jwe, K52, K53, Je1 UInt32.toNat w 0 0 0 rfl, Je1 UInt32.toNat w 1 0 0 rfl, Je1 UInt32.toNat w 9 0 0 rfl, Je1 UInt32.toNat w 14 0 0 rfl]
 congr 2
 omega
theorem K8m : kW.map UInt32.toNat = kN := by decide
theorem Kw0 : kN.length = 64 := by decide
theorem K8n {l : List UInt32} (h : l.length = 8) : n8 l = l := by
 match l, h with
 | [a, b, c, d, e, f, g, i], _ => rfl
theorem Kpz (b : List UInt8) (s : List UInt32) (t : Nat) : n8 (rds b s t) = rds b s t := by
 cases t with
 | zero => rfl
 | succ t => rfl
theorem Kw1 (b : List UInt8) (s : List UInt32) : ∀ (j t : Nat), t + j = 64 → rdsN (kN.drop t) ((win b t).map UInt32.toNat) ((rds b s t).getD 0 0).toNat ((rds b s t).getD 1 0).toNat ((rds b s t).getD 2 0).toNat ((rds b s t).getD 3 0).toNat ((rds b s t).getD 4 0).toNat ((rds b s t).getD 5 0).toNat ((rds b s t).getD 6 0).toNat ((rds b s t).getD 7 0).toNat = (rds b s 64).map UInt32.toNat
 | 0, t, h => by
  have e : t = 64 := by omega
  subst e
  have hf := Kpz b s 64
  rw [List.drop_eq_nil_of_le (by rw [Kw0]; omega)]
  generalize rds b s 64 = x at *
  conv => rhs; rw [← hf]
  rfl
 | j + 1, t, h => by
  have hk : kN.drop t = (kW.getD t 0).toNat :: kN.drop (t + 1) := by
   rw [List.drop_eq_getElem_cons (by rw [Kw0]; omega)]
   congr 1
   have := Je1 UInt32.toNat kW t 0 0 rfl
   rw [K8m] at this
   rw [← this, Jjt (by rw [Kw0]; omega)]
  have ih := Kw1 b s j (t + 1) (by omega)
  rw [hk, ← ih]
  simp only [rdsN]
  rw [show win b (t + 1) = Krz (win b t) from rfl, Kwz]
  have ew : ((win b t).map UInt32.toNat).getD 0 0 = (wd b t).toNat := Je1 UInt32.toNat _ 0 0 0 rfl
  have g0 : (rds b s (t + 1)).getD 0 0 = Jcv (Jcv (Jcv (Jcv (Jcv ((rds b s t).getD 7 0) (bs1 ((rds b s t).getD 4 0))) (chW ((rds b s t).getD 4 0) ((rds b s t).getD 5 0) ((rds b s t).getD 6 0))) (kW.getD t 0)) (wd b t)) (Jcv (bs0 ((rds b s t).getD 0 0)) (maW ((rds b s t).getD 0 0) ((rds b s t).getD 1 0) ((rds b s t).getD 2 0))) := rfl
  have g4 : (rds b s (t + 1)).getD 4 0 = Jcv ((rds b s t).getD 3 0) (Jcv (Jcv (Jcv (Jcv ((rds b s t).getD 7 0) (bs1 ((rds b s t).getD 4 0))) (chW ((rds b s t).getD 4 0) ((rds b s t).getD 5 0) ((rds b s t).getD 6 0))) (kW.getD t 0)) (wd b t)) := rfl
  rw [g0, g4, show (rds b s (t + 1)).getD 1 0 = (rds b s t).getD 0 0 from rfl, show (rds b s (t + 1)).getD 2 0 = (rds b s t).getD 1 0 from rfl, show (rds b s (t + 1)).getD 3 0 = (rds b s t).getD 2 0 from rfl, show (rds b s (t + 1)).getD 5 0 = (rds b s t).getD 4 0 from rfl, show (rds b s (t + 1)).getD 6 0 = (rds b s t).getD 5 0 from rfl, show (rds b s (t + 1)).getD 7 0 = (rds b s t).getD 6 0 from rfl]
  simp only [Jwe, K50, K51, K55, K56, ew]
  congr 1 <;> omega
theorem K57 (s : List UInt32) (b : List UInt8) : K3p s b = K79 s b := by
 unfold K3p K79 add8
 have h := Kw1 b s 64 0 rfl
 have hw : (win b 0).map UInt32.toNat = (List.range 16).map (wdN (b.map UInt8.toNat)) := by
  show ((List.range 16).map (Kry b)).map UInt32.toNat = _
  rw [List.map_map]
  congr 1
  funext t
  exact K11 b t
 rw [hw, show kN.drop 0 = kN from rfl] at h
 have e : ∀ i, (s.map UInt32.toNat).getD i 0 = (s.getD i 0).toNat := fun i => Je1 UInt32.toNat s i 0 0 rfl
 simp only [e]
 rw [show (rds b s 0).getD 0 0 = s.getD 0 0 from rfl, show (rds b s 0).getD 1 0 = s.getD 1 0 from rfl, show (rds b s 0).getD 2 0 = s.getD 2 0 from rfl, show (rds b s 0).getD 3 0 = s.getD 3 0 from rfl, show (rds b s 0).getD 4 0 = s.getD 4 0 from rfl, show (rds b s 0).getD 5 0 = s.getD 5 0 from rfl, show (rds b s 0).getD 6 0 = s.getD 6 0 from rfl, show (rds b s 0).getD 7 0 = s.getD 7 0 from rfl] at h
 rw [h]
 have f : ∀ i, ((rds b s 64).map UInt32.toNat).getD i 0 = ((rds b s 64).getD i 0).toNat := fun i => Je1 UInt32.toNat _ i 0 0 rfl
 have g : ∀ x y : UInt32, UInt32.ofNat (x.toNat + y.toNat) = Jcv x y := fun x y => by
  apply UInt32.toNat_inj.1
  rw [Jwe, UInt32.toNat_ofNat']
 simp only [f, g]
theorem K12 (s : List UInt32) (b : List UInt8) : (K3p s b).length = 8 := rfl
theorem Kll (b : List UInt8) : ∀ t, (win b t).length = 16
 | 0 => by show ((List.range 16).map (Kry b)).length = 16; simp
 | t + 1 => by
  have := Kll b t
  show ((win b t).tail ++ [_]).length = 16
  simp [this]
theorem Jt7 (b : List UInt8) : ∀ (j t : Nat), j < 16 → (win b t).getD j 0 = wd b (t + j)
 | 0, t, _ => rfl
 | j + 1, t, h => by
  have hl := Kll b t
  have e : (win b (t + 1)).getD j 0 = (win b t).getD (j + 1) 0 := by
   show ((win b t).tail ++ [_]).getD j 0 = _
   have hlt : j < (win b t).tail.length := by simp [hl]; omega
   simp only [List.getD_eq_getElem?_getD]
   rw [List.getElem?_append_left hlt, List.getElem?_tail]
  rw [← e, Jt7 b j (t + 1) (by omega)]
  congr 1
  omega
theorem K8o (b : List UInt8) (t : Nat) (h : t < 16) : wd b t = Kry b t := by
 have := Jt7 b t 0 h
 rw [Nat.zero_add] at this
 rw [← this]
 show ((List.range 16).map (Kry b)).getD t 0 = _
 rw [Jjt (by simp; omega)]
 simp
theorem K58 (b : List UInt8) (t : Nat) : wd b (t + 16) = Jcv (Jcv (Jcv (wd b t) (ss0 (wd b (t + 1)))) (wd b (t + 9))) (ss1 (wd b (t + 14))) := by
 have h := Jt7 b 15 (t + 1) (by omega)
 rw [show t + 1 + 15 = t + 16 by omega] at h
 rw [← h]
 show ((win b t).tail ++ [_]).getD 15 0 = _
 have hl : (win b t).tail.length = 15 := by simp [Kll b t]
 rw [List.getD_eq_getElem?_getD, List.getElem?_append_right (by omega), hl]
 simp only [Nat.sub_self, List.getElem?_cons_zero, Option.getD_some]
 rw [Jt7 b 0 t (by omega), Jt7 b 1 t (by omega), Jt7 b 9 t (by omega), Jt7 b 14 t (by omega), Nat.add_zero]
theorem Jqd {α : Type} (l : List α) (n i : Nat) (d : α) (h : i < n) : (l.take n).getD i d = l.getD i d := by
 simp only [List.getD_eq_getElem?_getD]
 rw [List.getElem?_take_of_lt h]
theorem Kw2 (b : List UInt8) (t : Nat) (h : t < 16) : Kry (b.take 64) t = Kry b t := by
 unfold Kry
 rw [Jqd b 64 (4 * t) 0 (by omega), Jqd b 64 (4 * t + 1) 0 (by omega), Jqd b 64 (4 * t + 2) 0 (by omega), Jqd b 64 (4 * t + 3) 0 (by omega)]
theorem Kp0 (b : List UInt8) : ∀ t, win (b.take 64) t = win b t
 | 0 => by
  apply List.map_congr_left
  intro t ht
  exact Kw2 b t (List.mem_range.1 ht)
 | t + 1 => by
  show Krz (win (b.take 64) t) = Krz (win b t)
  rw [Kp0 b t]
theorem Kp1 (b : List UInt8) (s : List UInt32) : ∀ t, rds (b.take 64) s t = rds b s t
 | 0 => rfl
 | t + 1 => by
  show rnd _ (wd (b.take 64) t) (rds (b.take 64) s t) = rnd _ (wd b t) (rds b s t)
  rw [Kp1 b s t, show wd (b.take 64) t = wd b t by unfold wd; rw [Kp0]]
theorem Kw3 (s : List UInt32) (b : List UInt8) : K3p s (b.take 64) = K79 s b := by
 rw [K57]; unfold K79; rw [Kp1]
theorem K8p (e f g : UInt32) : Jl5 g (J2q e (Jl5 f g)) = chW e f g := by
 unfold chW
 simp only [Jgk, Jqc, Klj]
 apply Kpy
 intro i hi
 simp only [UInt32.toNat_xor, UInt32.toNat_and, Nat.testBit_xor, Nat.testBit_and, Kwx e i hi]
 cases e.toNat.testBit i <;> cases f.toNat.testBit i <;> cases g.toNat.testBit i <;> rfl
theorem K8q (a b c : UInt32) : orW (J2q a b) (J2q c (orW a b)) = maW a b c := by
 unfold maW
 simp only [Jgk, Jqc, Kfx]
 apply Kpy
 intro i hi
 simp only [UInt32.toNat_xor, UInt32.toNat_and, UInt32.toNat_or, Nat.testBit_xor, Nat.testBit_and, Nat.testBit_or]
 cases a.toNat.testBit i <;> cases b.toNat.testBit i <;> cases c.toNat.testBit i <;> rfl
end Go.AI
