/- Texts of the proof, joined: LogP3. Names of our own are shortened by program; the long ones stand in wip/. -/
import Derived.Test.YtnmidfcefljafaaGreatQsLogP2
namespace Go.AI
open Go
theorem Kgj (n : Int) (_ : J1b n = true) : ∃ F, ∀ {X : Type} (fail : X) (ret : Int → X), Kwk F n fail ret = ret (Jim n) := ⟨0, fun fail ret => by
 unfold Kwk Jim K3t
 by_cases c1 : n < 0
 ·rw [Jaa (tt c1), if_neg (by omega)]
 by_cases c2 : n > 65536
 ·rw [Jab (ff c1), Jaa (tt c2), if_neg (by omega)]
 ·have hp : Jjk n = true := tt (by omega)
  rw [Jab (ff c1), Jab (ff c2), hp, cond_true, if_pos (by omega)]
  unfold Jjl Jas
  rw [Jar (by omega) (by omega)]; congr 1⟩
theorem Jyf (l : Jf5) : ((l.2.2.1 < 2 ∨ l.2.2.1 > 8192 ∨ l.1 < 1 ∨ l.1 > l.2.2.1) ∧ J5w l = 2) ∨ (¬ (l.2.2.1 < 2 ∨ l.2.2.1 > 8192 ∨ l.1 < 1 ∨ l.1 > l.2.2.1) ∧ (l.2.1 < 0 ∨ l.2.1 ≥ l.1) ∧ J5w l = 3) ∨ (¬ (l.2.2.1 < 2 ∨ l.2.2.1 > 8192 ∨ l.1 < 1 ∨ l.1 > l.2.2.1) ∧ ¬ (l.2.1 < 0 ∨ l.2.1 ≥ l.1) ∧ J5w l = 0) := by
 unfold J5w
 by_cases c1 : l.2.2.1 < 2 ∨ l.2.2.1 > 8192 ∨ l.1 < 1 ∨ l.1 > l.2.2.1
 ·exact .inl ⟨c1, if_pos c1⟩
 by_cases c2 : l.2.1 < 0 ∨ l.2.1 ≥ l.1
 ·exact .inr (.inl ⟨c1, c2, by rw [if_neg c1, if_pos c2]⟩)
 ·exact .inr (.inr ⟨c1, c2, by rw [if_neg c1, if_neg c2]⟩)
theorem Kgk (l : Jf5) : ∃ F, ∀ {X : Type} (fail : X) (ret : Int → X), Kwl F l fail ret = ret (Jjm l) := ⟨0, fun fail ret => by
 unfold Kwl Jjm
 rcases Jyf l with ⟨c, e⟩ | ⟨c, c2, e⟩ | ⟨c, c2, e⟩ <;> rw [e]
 ·by_cases c1 : l.2.2.1 < 2
  ·rw [Jaa (tt c1)]
  by_cases c2 : l.2.2.1 > 8192
  ·rw [Jab (ff c1), Jaa (tt c2), Jaa (tt c2)]
  by_cases c3 : l.1 < 1
  ·rw [Jab (ff c1), Jab (ff c2), Jaa (tt c3)]
  ·rw [Jab (ff c1), Jab (ff c2), Jab (ff c3), Jaa (tt (by omega))]
 all_goals rw [Jab (ff (by omega)), Jab (ff (by omega)), Jab (ff (by omega)), Jab (ff (by omega))]
 ·by_cases c3 : l.2.1 < 0
  ·rw [Jaa (tt c3)]
  ·rw [Jab (ff c3), Jaa (tt (by omega))]
 ·rw [Jab (ff (by omega)), Jab (ff (by omega))]⟩
theorem Kl0 (_ : J2x = true) : ∃ F, ∀ {X : Type} (fail : X) (ret : Ja4 → X), K8g F fail ret = ret Jx1 := ⟨1, fun _ _ => rfl⟩
theorem Kgl (a : Int) (ps : List Ja4) (_ : Jjn a ps = true) : ∃ F, ∀ {X : Type} (fail : X) (ret : DOp → X), K3x F a ps fail ret = ret (Jjo a ps) := ⟨0, fun _ _ => rfl⟩
theorem Kl1 (_ : Jnx = true) : ∃ F, ∀ {X : Type} (fail : X) (ret : DOp → X), K8h F fail ret = ret Jny := ⟨0, fun _ _ => rfl⟩
theorem Kbw (n : Int) (_ : J2z n = true) : ∃ F, ∀ {X : Type} (fail : X) (ret : Jf5 → List DOp → Int → X), Kk5 F n fail ret = ret (Jib n) (Jeh n) (Jmm n) := ⟨0, fun fail ret => by
 unfold Kk5 Jib Jeh Jmm fmtL K0g fmtE
 by_cases c1 : n < 2
 ·rw [Jaa (tt c1), if_neg (by omega), if_neg (by omega), if_neg (by omega)]; rfl
 by_cases c2 : n > 8192
 ·rw [Jab (ff c1), Jaa (tt c2), if_neg (by omega), if_neg (by omega), if_neg (by omega)]; rfl
 ·rw [Jab (ff c1), Jab (ff c2), Jaa (by rw [Bool.and_true]; exact tt2 (by omega) (by unfold big; omega)), if_pos (by omega), if_pos (by omega), if_pos (by omega)]; rfl⟩
theorem Kbx : ∀ k b, (Kdw k b).length = k
 | 0, _ => rfl
 | k + 1, b => by simp [Kdw, Kbx k]
theorem Jcb (b : Bys) : (Jcs b).length = Jas b.length := Kbx _ _
def K80 (b : Bys) : Ja4 := 1 :: (b.take 15 ++ List.replicate (15 - (b.take 15).length) 0)
theorem Kgm : ∀ (k : Nat) (b : Bys), Kdw (k + 1) b = Kdw k b ++ [K80 (b.drop (15 * k))]
 | 0, b => rfl
 | k + 1, b => by
  show K80 b :: Kdw (k + 1) (b.drop 15) = (K80 b :: Kdw k (b.drop 15)) ++ _
  rw [Kgm k, List.drop_drop, show 15 + 15 * k = 15 * (k + 1) by omega]; rfl
theorem K2j (b : Bys) : (K80 b).length = 16 := by
 simp only [K80, List.length_cons, List.length_append, List.length_replicate, List.length_take]; omega
theorem Ksk (x : Bys) (h : x.length ≤ 15) : ([1] : Ja4) ++ x.take (min x.length 15) ++ ([1, 0, 0, 0, 0, 0, 0, 0, 0, 0, 0, 0, 0, 0, 0, 0] : Ja4).drop (1 + min x.length 15) = 1 :: (x ++ List.replicate (15 - x.length) 0) := by
 have e : min x.length 15 = x.length := by omega
 rw [e, List.take_length]
 have e2 : ([1, 0, 0, 0, 0, 0, 0, 0, 0, 0, 0, 0, 0, 0, 0, 0] : Ja4) = 1 :: List.replicate 15 0 := rfl
 rw [e2, Nat.add_comm, List.drop_succ_cons, List.drop_replicate]; rfl
theorem Jzl {X : Type} (F : Nat) (fail : X) (ex0 : Int → Bys → Int → Int → List Ja4 → Bys → Int → Jf5 → Jf5 → X) (b : Bys) (s6 n : Int) (l s4 : Jf5) (hb : b.length ≤ 65536) : ∀ (j m k : Nat), k + j = Jas b.length → j ≤ m →
  ∃ w : Int, Jif F fail ex0 (m + 1) ((15 * k : Nat) : Int) b s6 n (Kdw k b) b 15 l s4 = ex0 w b s6 n (Jcs b) b 15 l s4
 | 0, m, k, hk, _ => by
  obtain rfl : k = Jas b.length := by omega
  refine ⟨((15 * Jas b.length : Nat) : Int), ?_⟩
  rw [Jif, Jr4]
  rw [Jab (ff (by unfold Jas; omega))]; rfl
 | j + 1, 0, k, _, hm => absurd hm (by omega)
 | j + 1, m + 1, k, hk, hm => by
  obtain ⟨w, ih⟩ := Jzl F fail ex0 b s6 n l s4 hb j m (k + 1) (by omega) (by omega)
  refine ⟨w, ?_⟩
  have hlt : 15 * k < b.length := by unfold Jas at hk; omega
  have hnb : Jas b.length ≤ 5000 := by unfold Jas; omega
  have hmin : J97 15 ((b.drop (15 * k)).length : Int) = ((min 15 (b.length - 15 * k) : Nat) : Int) := by rw [Kv2, List.length_drop]; omega
  rw [Jif, Jr4]
  rw [Int.toNat_natCast, hmin, Jar (b := ((min 15 (b.length - 15 * k) : Nat) : Int)) (by omega) (by omega)]
  rw [show (((15 * k : Nat) : Int) + ((min 15 (b.length - 15 * k) : Nat) : Int)) = ((15 * k + min 15 (b.length - 15 * k) : Nat) : Int) by omega, Int.toNat_natCast]
  have hx : (b.take (15 * k + min 15 (b.length - 15 * k))).drop (15 * k) = (b.drop (15 * k)).take 15 := by
   rw [List.drop_take, show 15 * k + min 15 (b.length - 15 * k) - 15 * k = min 15 (b.length - 15 * k) by omega]
   by_cases c : 15 ≤ b.length - 15 * k
   ·rw [show min 15 (b.length - 15 * k) = 15 by omega]
   ·rw [List.take_of_length_le (by rw [List.length_drop]; omega), List.take_of_length_le (by rw [List.length_drop]; omega)]
  rw [hx, Ksk _ (by rw [List.length_take]; omega)]
  rw [Jaa (tt (by omega)), Jaa (tt2 (by omega) (by omega)), Jaa (by rw [tt2 (show (0 : Int) ≤ ((15 * k : Nat) : Int) by omega) (by omega), tt (by omega), Jl7 rfl]; rfl), Jaa (Jds (by rw [List.length_append, Kbx, List.length_singleton]; omega)), Jar (by omega) (by omega), show (((15 * k : Nat) : Int) + 15) = ((15 * (k + 1) : Nat) : Int) by omega]
  rw [Kgm] at ih
  exact ih
theorem Kby (l : Jf5) (b : Bys) (_ : Jvw l b = true) : ∃ F, ∀ {X : Type} (fail : X) (ret : Jf5 → List DOp → Int → X), Kk6 F l b fail ret = ret (Jmn l b) (Jmo l b) (Jmp l b) := ⟨Jas b.length + 1, fun fail ret => by
 unfold Kk6 Jmn Jmo Jmp K5k K0h Jjm
 rcases Jyf l with ⟨c, e⟩ | ⟨c, c2, e⟩ | ⟨c, c2, e⟩
 ·have he : appE l b = 2 := by unfold appE; rw [if_neg (by omega)]; exact e
  rw [he, e]; rfl
 ·have he : appE l b = 3 := by unfold appE; rw [if_neg (by omega)]; exact e
  rw [he, e]; rfl
 rw [e, Jab (c := (0 : Int) != 0) rfl, Jaa (c := J1b _) rfl]
 have he0 : appE l b = if b.length > 65536 then 5 else if l.2.2.1 - l.1 < Jas b.length + 1 then 11 else 0 := if_pos e
 by_cases c3 : b.length > 65536
 ·have he : appE l b = 5 := he0.trans (if_pos c3)
  rw [Jaa (tt (by omega)), he]; rfl
 rw [Jab (ff (by omega))]
 have hp : Jim (b.length : Int) = ((Jas b.length + 1 : Nat) : Int) := if_pos (by omega)
 have hnb : Jas b.length ≤ 5000 := by unfold Jas; omega
 rw [hp, Jde (by omega) (by omega)]
 by_cases c4 : l.2.2.1 - l.1 < Jas b.length + 1
 ·have he : appE l b = 11 := he0.trans ((if_neg c3).trans (if_pos c4))
  rw [Jaa (tt (by omega)), he]; rfl
 have he : appE l b = 0 := he0.trans ((if_neg c3).trans (if_neg c4))
 have hE : J2y b (l.2.1 + 1) = true := tt (by omega)
 have ha1 : Jat l.2.1 1 = l.2.1 + 1 := Jar (by omega) (by omega)
 have ha2 : Jat l.1 ((Jas b.length + 1 : Nat) : Int) = l.1 + Jas b.length + 1 := by rw [Jar (by omega) (by omega)]; omega
 have ha3 : Jdj (l.1 + Jas b.length + 1) 1 = l.1 + Jas b.length := by rw [Jde (by omega) (by omega)]; omega
 rw [Jab (ff (by omega)), he, if_pos rfl, if_pos rfl]
 unfold Juu K1q
 by_cases c5 : b = []
 ·subst c5
  rw [Jab (ff (by unfold Jas; simp)), ha1, ha2, ha3, hE, if_pos rfl]; rfl
 ·have hpos : 0 < b.length := List.length_pos_iff.2 c5
  rw [Jaa (tt (by unfold Jas; omega)), if_neg c5]
  obtain ⟨w, hw⟩ := Jzl (Jas b.length + 1) fail (fun _ p _ n parts _ _ l1 _ =>
    bif (Jjn l1.1 parts) then
    bif (Jnx) then
    bif (J2y p (Jat l1.2.1 (1 : Int))) then
    bif (Jjn (Jdj (Jat l1.1 n) (1 : Int)) ([(Jvv p (Jat l1.2.1 (1 : Int)))] : List (List UInt8))) then
    bif (Jnx) then
    ret ((Jat l1.1 n), ((Jat l1.2.1 (1 : Int)), (l1.2.2.1, ()))) ([(Jjo l1.1 parts), (Jny), (Jjo (Jdj (Jat l1.1 n) (1 : Int)) ([(Jvv p (Jat l1.2.1 (1 : Int)))] : List (List UInt8))), (Jny)] : List (Int × (Int × ((List (List UInt8)) × Unit)))) (0 : Int)
    else fail
    else fail
    else fail
    else fail
    else fail) b 0 ((Jas b.length + 1 : Nat) : Int) l Kr0 (by omega) (Jas b.length) (Jas b.length) 0 (by omega) (by omega)
  refine hw.trans ?_
  simp only [ha1, ha2, ha3]
  rw [hE]; rfl⟩
end Go.AI
