/- Texts of the proof, joined: DigestB. Names of our own are shortened by program; the long ones stand in wip/. -/
import Derived.Test.YtcdajbmgoafnkaaGreatQvS
import Derived.Test.YtcdajbmgoafnkaaGreatQvWord
namespace Go.AI
open Go
theorem Jmo (x : UInt32) (m : Int) (n : Nat) (hm : m = n) (h : n ≤ 32) : (ror x m).toNat = Kuy x.toNat n := by
 subst hm
 unfold ror Kuy
 rw [show Jb3 32 (n : Int) = ((32 - n : Nat) : Int) by rw [Jdo (by omega) (by omega)]; omega]
 rw [Kgm, UInt32.toNat_or, Jww x n h, Jo0 x (32 - n) (by omega), Nat.shiftRight_eq_div_pow, Nat.shiftLeft_eq]
theorem Kx0 (x : UInt32) (m : Int) (n : Nat) (hm : m = n) (h : n ≤ 32) : (Jr7 x m).toNat = x.toNat >>> n := by
 subst hm
 rw [Jww x n h, Nat.shiftRight_eq_div_pow]
theorem K7g (a : UInt32) : (bs0 a).toNat = bs0N a.toNat := by
 unfold bs0 bs0N
 rw [Jgw, Jgw, UInt32.toNat_xor, UInt32.toNat_xor, Jmo a 2 2 rfl (by omega), Jmo a 13 13 rfl (by omega), Jmo a 22 22 rfl (by omega)]
theorem K7h (a : UInt32) : (bs1 a).toNat = bs1N a.toNat := by
 unfold bs1 bs1N
 rw [Jgw, Jgw, UInt32.toNat_xor, UInt32.toNat_xor, Jmo a 6 6 rfl (by omega), Jmo a 11 11 rfl (by omega), Jmo a 25 25 rfl (by omega)]
theorem K7i (a : UInt32) : (ss0 a).toNat = ss0N a.toNat := by
 unfold ss0 ss0N
 rw [Jgw, Jgw, UInt32.toNat_xor, UInt32.toNat_xor, Jmo a 7 7 rfl (by omega), Jmo a 18 18 rfl (by omega), Kx0 a 3 3 rfl (by omega)]
theorem K7j (a : UInt32) : (ss1 a).toNat = ss1N a.toNat := by
 unfold ss1 ss1N
 rw [Jgw, Jgw, UInt32.toNat_xor, UInt32.toNat_xor, Jmo a 17 17 rfl (by omega), Jmo a 19 19 rfl (by omega), Kx0 a 10 10 rfl (by omega)]
theorem K7k (a : UInt32) : (~~~ a).toNat = 4294967295 - a.toNat := by
 rw [← UInt32.toNat_toBitVec, UInt32.toBitVec_not, BitVec.toNat_not]
 show 2 ^ 32 - 1 - a.toNat = _
 omega
theorem K7l (e f g : UInt32) : (chW e f g).toNat = chN e.toNat f.toNat g.toNat := by
 unfold chW chN
 rw [Jgw, Jqz, Jqz, Kl6, UInt32.toNat_xor, UInt32.toNat_and, UInt32.toNat_and, K7k]
theorem K7m (a b c : UInt32) : (maW a b c).toNat = maN a.toNat b.toNat c.toNat := by
 unfold maW maN
 rw [Jgw, Jgw, Jqz, Jqz, Jqz, UInt32.toNat_xor, UInt32.toNat_xor, UInt32.toNat_and, UInt32.toNat_and, UInt32.toNat_and]
theorem Jwx (a b : UInt32) : (Jdb a b).toNat = (a.toNat + b.toNat) % 4294967296 := by
 rw [Kxy, UInt32.toNat_add]
theorem K3d (a : Nat) (b : UInt8) : (a * 256 ||| b.toNat) = a * 256 + b.toNat := by
 have hb := b.toNat_lt
 have h := Nat.two_pow_add_eq_or_of_lt (i := 8) (b := b.toNat) (by omega) a
 rw [show a * 256 = 2 ^ 8 * a by omega, ← h]
theorem K3e (a : UInt32) (b : UInt8) (h : a.toNat < 16777216) : (orW (Jxz a 8) (Jx0 b)).toNat = a.toNat * 256 + b.toNat := by
 have h8 := Jo0 a 8 (by omega)
 rw [show ((8 : Nat) : Int) = 8 from rfl] at h8
 rw [Kgm, UInt32.toNat_or, h8, Kqq, Nat.mod_eq_of_lt (by omega), show (2 : Nat) ^ 8 = 256 from rfl, K3d]
theorem Jkb {α : Type} {l : List α} {i : Nat} {d : α} (h : i < l.length) : l.getD i d = l[i] := by
 simp [List.getD_eq_getElem?_getD, h]
theorem Jff {α β : Type} (f : α → β) (l : List α) (i : Nat) (d : α) (e : β) (h : f d = e) : (l.map f).getD i e = f (l.getD i d) := by
 simp only [List.getD_eq_getElem?_getD, List.getElem?_map]
 cases l[i]? <;> simp [h]
theorem K3f (b : List UInt8) (t : Nat) : (Ksv b t).toNat = wdN (b.map UInt8.toNat) t := by
 unfold Ksv wdN
 have h0 := (b.getD (4 * t) 0).toNat_lt
 have h1 := (b.getD (4 * t + 1) 0).toNat_lt
 have h2 := (b.getD (4 * t + 2) 0).toNat_lt
 have h3 := (b.getD (4 * t + 3) 0).toNat_lt
 rw [Jff UInt8.toNat b _ 0 0 rfl, Jff UInt8.toNat b _ 0 0 rfl, Jff UInt8.toNat b _ 0 0 rfl, Jff UInt8.toNat b _ 0 0 rfl]
 have e0 := K3e 0 (b.getD (4 * t) 0) (by rw [UInt32.toNat_zero]; omega)
 rw [UInt32.toNat_zero] at e0
 have e1 := K3e _ (b.getD (4 * t + 1) 0) (show (orW (Jxz 0 8) (Jx0 (b.getD (4 * t) 0))).toNat < 16777216 by omega)
 have e2 := K3e _ (b.getD (4 * t + 2) 0) (show (orW (Jxz (orW (Jxz 0 8) (Jx0 (b.getD (4 * t) 0))) 8) (Jx0 (b.getD (4 * t + 1) 0))).toNat < 16777216 by omega)
 have e3 := K3e _ (b.getD (4 * t + 3) 0) (show (orW (Jxz (orW (Jxz (orW (Jxz 0 8) (Jx0 (b.getD (4 * t) 0))) 8) (Jx0 (b.getD (4 * t + 1) 0))) 8) (Jx0 (b.getD (4 * t + 2) 0))).toNat < 16777216 by omega)
 rw [e3, e2, e1, e0]
 generalize (b.getD (4 * t) 0).toNat = x0, (b.getD (4 * t + 1) 0).toNat = x1, (b.getD (4 * t + 2) 0).toNat = x2, (b.getD (4 * t + 3) 0).toNat = x3
 omega
theorem Kx1 (w : List UInt32) : (Ksw w).map UInt32.toNat = K6y (w.map UInt32.toNat) := by
 unfold Ksw K6y
 rw [List.map_append, List.map_tail, List.map_cons, List.map_nil, Jwx, Jwx, Jwx, K7i, K7j, Jff UInt32.toNat w 0 0 0 rfl, Jff UInt32.toNat w 1 0 0 rfl, Jff UInt32.toNat w 9 0 0 rfl, Jff UInt32.toNat w 14 0 0 rfl]
 congr 2
 omega
theorem K9z : kW.map UInt32.toNat = kN := by decide
theorem Kx2 : kN.length = 64 := by decide
theorem K90 {l : List UInt32} (h : l.length = 8) : n8 l = l := by
 match l, h with
 | [a, b, c, d, e, f, g, i], _ => rfl
theorem Kqs (b : List UInt8) (s : List UInt32) (t : Nat) : n8 (rds b s t) = rds b s t := by
 cases t with
 | zero => rfl
 | succ t => rfl
theorem Kx3 (b : List UInt8) (s : List UInt32) : ∀ (j t : Nat), t + j = 64 → rdsN (kN.drop t) ((win b t).map UInt32.toNat) ((rds b s t).getD 0 0).toNat ((rds b s t).getD 1 0).toNat ((rds b s t).getD 2 0).toNat ((rds b s t).getD 3 0).toNat ((rds b s t).getD 4 0).toNat ((rds b s t).getD 5 0).toNat ((rds b s t).getD 6 0).toNat ((rds b s t).getD 7 0).toNat = (rds b s 64).map UInt32.toNat
 | 0, t, h => by
  have e : t = 64 := by omega
  subst e
  have hf := Kqs b s 64
  rw [List.drop_eq_nil_of_le (by rw [Kx2]; omega)]
  generalize rds b s 64 = x at *
  conv => rhs; rw [← hf]
  rfl
 | j + 1, t, h => by
  have hk : kN.drop t = (kW.getD t 0).toNat :: kN.drop (t + 1) := by
   rw [List.drop_eq_getElem_cons (by rw [Kx2]; omega)]
   congr 1
   have := Jff UInt32.toNat kW t 0 0 rfl
   rw [K9z] at this
   rw [← this, Jkb (by rw [Kx2]; omega)]
  have ih := Kx3 b s j (t + 1) (by omega)
  rw [hk, ← ih]
  simp only [rdsN]
  rw [show win b (t + 1) = Ksw (win b t) from rfl, Kx1]
  have ew : ((win b t).map UInt32.toNat).getD 0 0 = (wd b t).toNat := Jff UInt32.toNat _ 0 0 0 rfl
  have g0 : (rds b s (t + 1)).getD 0 0 = Jdb (Jdb (Jdb (Jdb (Jdb ((rds b s t).getD 7 0) (bs1 ((rds b s t).getD 4 0))) (chW ((rds b s t).getD 4 0) ((rds b s t).getD 5 0) ((rds b s t).getD 6 0))) (kW.getD t 0)) (wd b t)) (Jdb (bs0 ((rds b s t).getD 0 0)) (maW ((rds b s t).getD 0 0) ((rds b s t).getD 1 0) ((rds b s t).getD 2 0))) := rfl
  have g4 : (rds b s (t + 1)).getD 4 0 = Jdb ((rds b s t).getD 3 0) (Jdb (Jdb (Jdb (Jdb ((rds b s t).getD 7 0) (bs1 ((rds b s t).getD 4 0))) (chW ((rds b s t).getD 4 0) ((rds b s t).getD 5 0) ((rds b s t).getD 6 0))) (kW.getD t 0)) (wd b t)) := rfl
  rw [g0, g4, show (rds b s (t + 1)).getD 1 0 = (rds b s t).getD 0 0 from rfl, show (rds b s (t + 1)).getD 2 0 = (rds b s t).getD 1 0 from rfl, show (rds b s (t + 1)).getD 3 0 = (rds b s t).getD 2 0 from rfl, show (rds b s (t + 1)).getD 5 0 = (rds b s t).getD 4 0 from rfl, show (rds b s (t + 1)).getD 6 0 = (rds b s t).getD 5 0 from rfl, show (rds b s (t + 1)).getD 7 0 = (rds b s t).getD 6 0 from rfl]
  simp only [Jwx, K7g, K7h, K7l, K7m, ew]
  congr 1 <;> omega
theorem K7n (s : List UInt32) (b : List UInt8) : K44 s b = K9m s b := by
 unfold K44 K9m add8
 have h := Kx3 b s 64 0 rfl
 have hw : (win b 0).map UInt32.toNat = (List.range 16).map (wdN (b.map UInt8.toNat)) := by
  show ((List.range 16).map (Ksv b)).map UInt32.toNat = _
  rw [List.map_map]
  congr 1
  funext t
  exact K3f b t
 rw [hw, show kN.drop 0 = kN from rfl] at h
 have e : ∀ i, (s.map UInt32.toNat).getD i 0 = (s.getD i 0).toNat := fun i => Jff UInt32.toNat s i 0 0 rfl
 simp only [e]
 rw [show (rds b s 0).getD 0 0 = s.getD 0 0 from rfl, show (rds b s 0).getD 1 0 = s.getD 1 0 from rfl, show (rds b s 0).getD 2 0 = s.getD 2 0 from rfl, show (rds b s 0).getD 3 0 = s.getD 3 0 from rfl, show (rds b s 0).getD 4 0 = s.getD 4 0 from rfl, show (rds b s 0).getD 5 0 = s.getD 5 0 from rfl, show (rds b s 0).getD 6 0 = s.getD 6 0 from rfl, show (rds b s 0).getD 7 0 = s.getD 7 0 from rfl] at h
 rw [h]
 have f : ∀ i, ((rds b s 64).map UInt32.toNat).getD i 0 = ((rds b s 64).getD i 0).toNat := fun i => Jff UInt32.toNat _ i 0 0 rfl
 have g : ∀ x y : UInt32, UInt32.ofNat (x.toNat + y.toNat) = Jdb x y := fun x y => by
  apply UInt32.toNat_inj.1
  rw [Jwx, UInt32.toNat_ofNat']
 simp only [f, g]
theorem K3g (s : List UInt32) (b : List UInt8) : (K44 s b).length = 8 := rfl
theorem Kl8 (b : List UInt8) : ∀ t, (win b t).length = 16
 | 0 => by show ((List.range 16).map (Ksv b)).length = 16; simp
 | t + 1 => by
  have := Kl8 b t
  show ((win b t).tail ++ [_]).length = 16
  simp [this]
theorem Juy (b : List UInt8) : ∀ (j t : Nat), j < 16 → (win b t).getD j 0 = wd b (t + j)
 | 0, t, _ => rfl
 | j + 1, t, h => by
  have hl := Kl8 b t
  have e : (win b (t + 1)).getD j 0 = (win b t).getD (j + 1) 0 := by
   show ((win b t).tail ++ [_]).getD j 0 = _
   have hlt : j < (win b t).tail.length := by simp [hl]; omega
   simp only [List.getD_eq_getElem?_getD]
   rw [List.getElem?_append_left hlt, List.getElem?_tail]
  rw [← e, Juy b j (t + 1) (by omega)]
  congr 1
  omega
theorem K91 (b : List UInt8) (t : Nat) (h : t < 16) : wd b t = Ksv b t := by
 have := Juy b t 0 h
 rw [Nat.zero_add] at this
 rw [← this]
 show ((List.range 16).map (Ksv b)).getD t 0 = _
 rw [Jkb (by simp; omega)]
 simp
theorem K7o (b : List UInt8) (t : Nat) : wd b (t + 16) = Jdb (Jdb (Jdb (wd b t) (ss0 (wd b (t + 1)))) (wd b (t + 9))) (ss1 (wd b (t + 14))) := by
 have h := Juy b 15 (t + 1) (by omega)
 rw [show t + 1 + 15 = t + 16 by omega] at h
 rw [← h]
 show ((win b t).tail ++ [_]).getD 15 0 = _
 have hl : (win b t).tail.length = 15 := by simp [Kl8 b t]
 rw [List.getD_eq_getElem?_getD, List.getElem?_append_right (by omega), hl]
 simp only [Nat.sub_self, List.getElem?_cons_zero, Option.getD_some]
 rw [Juy b 0 t (by omega), Juy b 1 t (by omega), Juy b 9 t (by omega), Juy b 14 t (by omega), Nat.add_zero]
theorem Jq0 {α : Type} (l : List α) (n i : Nat) (d : α) (h : i < n) : (l.take n).getD i d = l.getD i d := by
 simp only [List.getD_eq_getElem?_getD]
 rw [List.getElem?_take_of_lt h]
theorem Kx4 (b : List UInt8) (t : Nat) (h : t < 16) : Ksv (b.take 64) t = Ksv b t := by
 unfold Ksv
 rw [Jq0 b 64 (4 * t) 0 (by omega), Jq0 b 64 (4 * t + 1) 0 (by omega), Jq0 b 64 (4 * t + 2) 0 (by omega), Jq0 b 64 (4 * t + 3) 0 (by omega)]
theorem Kqt (b : List UInt8) : ∀ t, win (b.take 64) t = win b t
 | 0 => by
  apply List.map_congr_left
  intro t ht
  exact Kx4 b t (List.mem_range.1 ht)
 | t + 1 => by
  show Ksw (win (b.take 64) t) = Ksw (win b t)
  rw [Kqt b t]
theorem Kqu (b : List UInt8) (s : List UInt32) : ∀ t, rds (b.take 64) s t = rds b s t
 | 0 => rfl
 | t + 1 => by
  show rnd _ (wd (b.take 64) t) (rds (b.take 64) s t) = rnd _ (wd b t) (rds b s t)
  rw [Kqu b s t, show wd (b.take 64) t = wd b t by unfold wd; rw [Kqt]]
theorem Kx5 (s : List UInt32) (b : List UInt8) : K44 s (b.take 64) = K9m s b := by
 rw [K7n]; unfold K9m; rw [Kqu]
theorem K92 (e f g : UInt32) : Jmm g (J3d e (Jmm f g)) = chW e f g := by
 unfold chW
 simp only [Jgw, Jqz, Kl6]
 apply Kqr
 intro i hi
 simp only [UInt32.toNat_xor, UInt32.toNat_and, Nat.testBit_xor, Nat.testBit_and, Kxz e i hi]
 cases e.toNat.testBit i <;> cases f.toNat.testBit i <;> cases g.toNat.testBit i <;> rfl
theorem K93 (a b c : UInt32) : orW (J3d a b) (J3d c (orW a b)) = maW a b c := by
 unfold maW
 simp only [Jgw, Jqz, Kgm]
 apply Kqr
 intro i hi
 simp only [UInt32.toNat_xor, UInt32.toNat_and, UInt32.toNat_or, Nat.testBit_xor, Nat.testBit_and, Nat.testBit_or]
 cases a.toNat.testBit i <;> cases b.toNat.testBit i <;> cases c.toNat.testBit i <;> rfl
end Go.AI
