/- Texts of the proof, joined: LogP3. Names of our own are shortened by program; the long ones stand in wip/. -/
import Derived.Test.YtnmidfcefljafaaGreatQpLogP2
namespace Go.AI
open Go
theorem Kho (n : Int) (_ : J13 n = true) : ∃ F, ∀ {X : Type} (fail : X) (ret : Int → X), Kyg F n fail ret = ret (Jiq n) := ⟨0, fun fail ret => by
 unfold Kyg Jiq K5s
 by_cases c1 : n < 0
 ·rw [Jaa (tt c1), if_neg (by omega)]
 by_cases c2 : n > 65536
 ·rw [Jab (ff c1), Jaa (tt c2), if_neg (by omega)]
 ·have hp : Jjt n = true := tt (by omega)
  rw [Jab (ff c1), Jab (ff c2), hp, cond_true, if_pos (by omega)]
  unfold Jju Jau
  rw [Jao (by omega) (by omega)]; congr 1⟩
theorem Jyt (l : Jf9) : ((l.2.2.1 < 2 ∨ l.2.2.1 > 8192 ∨ l.1 < 1 ∨ l.1 > l.2.2.1) ∧ J86 l = 2) ∨ (¬ (l.2.2.1 < 2 ∨ l.2.2.1 > 8192 ∨ l.1 < 1 ∨ l.1 > l.2.2.1) ∧ (l.2.1 < 0 ∨ l.2.1 ≥ l.1) ∧ J86 l = 3) ∨ (¬ (l.2.2.1 < 2 ∨ l.2.2.1 > 8192 ∨ l.1 < 1 ∨ l.1 > l.2.2.1) ∧ ¬ (l.2.1 < 0 ∨ l.2.1 ≥ l.1) ∧ J86 l = 0) := by
 unfold J86
 by_cases c1 : l.2.2.1 < 2 ∨ l.2.2.1 > 8192 ∨ l.1 < 1 ∨ l.1 > l.2.2.1
 ·exact .inl ⟨c1, if_pos c1⟩
 by_cases c2 : l.2.1 < 0 ∨ l.2.1 ≥ l.1
 ·exact .inr (.inl ⟨c1, c2, by rw [if_neg c1, if_pos c2]⟩)
 ·exact .inr (.inr ⟨c1, c2, by rw [if_neg c1, if_neg c2]⟩)
theorem Khp (l : Jf9) : ∃ F, ∀ {X : Type} (fail : X) (ret : Int → X), Kyh F l fail ret = ret (Jjv l) := ⟨0, fun fail ret => by
 unfold Kyh Jjv
 rcases Jyt l with ⟨c, e⟩ | ⟨c, c2, e⟩ | ⟨c, c2, e⟩ <;> rw [e]
 ·by_cases c1 : l.2.2.1 < 2
  ·rw [Jaa (tt c1)]
  by_cases c2 : l.2.2.1 > 8192
  ·rw [Jab (ff c1), Jaa (tt c2), Jaa (tt c2)]
  by_cases c3 : l.1 < 1
  ·rw [Jab (ff c1), Jab (ff c2), Jaa (tt c3)]
  ·rw [Jab (ff c1), Jab (ff c2), Jab (ff c3), Jaa (tt (by omega))]
 all_goals rw [Jab (ff (by omega)), Jab (ff (by omega)), Jab (ff (by omega)), Jab (ff (by omega))]
 ·by_cases c3 : l.2.1 < 0
  ·rw [Jaa (tt c3)]
  ·rw [Jab (ff c3), Jaa (tt (by omega))]
 ·rw [Jab (ff (by omega)), Jab (ff (by omega))]⟩
theorem Knc (_ : J3v = true) : ∃ F, ∀ {X : Type} (fail : X) (ret : Ja4 → X), Qae F fail ret = ret Jyh := ⟨1, fun _ _ => rfl⟩
theorem Khq (a : Int) (ps : List Ja4) (_ : Jjw a ps = true) : ∃ F, ∀ {X : Type} (fail : X) (ret : DOp → X), K5u F a ps fail ret = ret (Jjx a ps) := ⟨0, fun _ _ => rfl⟩
theorem Knd (_ : Job = true) : ∃ F, ∀ {X : Type} (fail : X) (ret : DOp → X), Qaf F fail ret = ret Joc := ⟨0, fun _ _ => rfl⟩
theorem Kc6 (n : Int) (_ : J3x n = true) : ∃ F, ∀ {X : Type} (fail : X) (ret : Jf9 → List DOp → Int → X), Kmf F n fail ret = ret (Jie n) (Jek n) (Jmw n) := ⟨0, fun fail ret => by
 unfold Kmf Jie Jek Jmw fmtL K2j fmtE
 by_cases c1 : n < 2
 ·rw [Jaa (tt c1), if_neg (by omega), if_neg (by omega), if_neg (by omega)]; rfl
 by_cases c2 : n > 8192
 ·rw [Jab (ff c1), Jaa (tt c2), if_neg (by omega), if_neg (by omega), if_neg (by omega)]; rfl
 ·rw [Jab (ff c1), Jab (ff c2), Jaa (by rw [Bool.and_true]; exact tt2 (by omega) (by unfold big; omega)), if_pos (by omega), if_pos (by omega), if_pos (by omega)]; rfl⟩
theorem Kc7 : ∀ k b, (Ke3 k b).length = k
 | 0, _ => rfl
 | k + 1, b => by simp [Ke3, Kc7 k]
theorem Jcc (b : Bys) : (Jcw b).length = Jau b.length := Kc7 _ _
def Qay (b : Bys) : Ja4 := 1 :: (b.take 15 ++ List.replicate (15 - (b.take 15).length) 0)
theorem Khr : ∀ (k : Nat) (b : Bys), Ke3 (k + 1) b = Ke3 k b ++ [Qay (b.drop (15 * k))]
 | 0, b => rfl
 | k + 1, b => by
  show Qay b :: Ke3 (k + 1) (b.drop 15) = (Qay b :: Ke3 k (b.drop 15)) ++ _
  rw [Khr k, List.drop_drop, show 15 + 15 * k = 15 * (k + 1) by omega]; rfl
theorem K4k (b : Bys) : (Qay b).length = 16 := by
 simp only [Qay, List.length_cons, List.length_append, List.length_replicate, List.length_take]; omega
theorem Kug (x : Bys) (h : x.length ≤ 15) : ([1] : Ja4) ++ x.take (min x.length 15) ++ ([1, 0, 0, 0, 0, 0, 0, 0, 0, 0, 0, 0, 0, 0, 0, 0] : Ja4).drop (1 + min x.length 15) = 1 :: (x ++ List.replicate (15 - x.length) 0) := by
 have e : min x.length 15 = x.length := by omega
 rw [e, List.take_length]
 have e2 : ([1, 0, 0, 0, 0, 0, 0, 0, 0, 0, 0, 0, 0, 0, 0, 0] : Ja4) = 1 :: List.replicate 15 0 := rfl
 rw [e2, Nat.add_comm, List.drop_succ_cons, List.drop_replicate]; rfl
theorem Jz8 {X : Type} (F : Nat) (fail : X) (ex0 : Int → Bys → Int → Int → List Ja4 → Bys → Int → Jf9 → Jf9 → X) (b : Bys) (s6 n : Int) (l s4 : Jf9) (hb : b.length ≤ 65536) : ∀ (j m k : Nat), k + j = Jau b.length → j ≤ m →
  ∃ w : Int, Jih F fail ex0 (m + 1) ((15 * k : Nat) : Int) b s6 n (Ke3 k b) b 15 l s4 = ex0 w b s6 n (Jcw b) b 15 l s4
 | 0, m, k, hk, _ => by
  obtain rfl : k = Jau b.length := by omega
  refine ⟨((15 * Jau b.length : Nat) : Int), ?_⟩
  rw [Jih, Jsi]
  rw [Jab (ff (by unfold Jau; omega))]; rfl
 | j + 1, 0, k, _, hm => absurd hm (by omega)
 | j + 1, m + 1, k, hk, hm => by
  obtain ⟨w, ih⟩ := Jz8 F fail ex0 b s6 n l s4 hb j m (k + 1) (by omega) (by omega)
  refine ⟨w, ?_⟩
  have hlt : 15 * k < b.length := by unfold Jau at hk; omega
  have hnb : Jau b.length ≤ 5000 := by unfold Jau; omega
  have hmin : Kbi 15 ((b.drop (15 * k)).length : Int) = ((min 15 (b.length - 15 * k) : Nat) : Int) := by rw [Kxx, List.length_drop]; omega
  rw [Jih, Jsi]
  rw [Int.toNat_natCast, hmin, Jao (b := ((min 15 (b.length - 15 * k) : Nat) : Int)) (by omega) (by omega)]
  rw [show (((15 * k : Nat) : Int) + ((min 15 (b.length - 15 * k) : Nat) : Int)) = ((15 * k + min 15 (b.length - 15 * k) : Nat) : Int) by omega, Int.toNat_natCast]
  have hx : (b.take (15 * k + min 15 (b.length - 15 * k))).drop (15 * k) = (b.drop (15 * k)).take 15 := by
   rw [List.drop_take, show 15 * k + min 15 (b.length - 15 * k) - 15 * k = min 15 (b.length - 15 * k) by omega]
   by_cases c : 15 ≤ b.length - 15 * k
   ·rw [show min 15 (b.length - 15 * k) = 15 by omega]
   ·rw [List.take_of_length_le (by rw [List.length_drop]; omega), List.take_of_length_le (by rw [List.length_drop]; omega)]
  rw [hx, Kug _ (by rw [List.length_take]; omega)]
  rw [Jaa (tt (by omega)), Jaa (tt2 (by omega) (by omega)), Jaa (by rw [tt2 (show (0 : Int) ≤ ((15 * k : Nat) : Int) by omega) (by omega), tt (by omega), Jmg rfl]; rfl), Jaa (Jea (by rw [List.length_append, Kc7, List.length_singleton]; omega)), Jao (by omega) (by omega), show (((15 * k : Nat) : Int) + 15) = ((15 * (k + 1) : Nat) : Int) by omega]
  rw [Khr] at ih
  exact ih
theorem Kc8 (l : Jf9) (b : Bys) (_ : Jwb l b = true) : ∃ F, ∀ {X : Type} (fail : X) (ret : Jf9 → List DOp → Int → X), Kmg F l b fail ret = ret (Jmx l b) (Jmy l b) (Jmz l b) := ⟨Jau b.length + 1, fun fail ret => by
 unfold Kmg Jmx Jmy Jmz K7i K2k Jjv
 rcases Jyt l with ⟨c, e⟩ | ⟨c, c2, e⟩ | ⟨c, c2, e⟩
 ·have he : appE l b = 2 := by unfold appE; rw [if_neg (by omega)]; exact e
  rw [he, e]; rfl
 ·have he : appE l b = 3 := by unfold appE; rw [if_neg (by omega)]; exact e
  rw [he, e]; rfl
 rw [e, Jab (c := (0 : Int) != 0) rfl, Jaa (c := J13 _) rfl]
 have he0 : appE l b = if b.length > 65536 then 5 else if l.2.2.1 - l.1 < Jau b.length + 1 then 11 else 0 := if_pos e
 by_cases c3 : b.length > 65536
 ·have he : appE l b = 5 := he0.trans (if_pos c3)
  rw [Jaa (tt (by omega)), he]; rfl
 rw [Jab (ff (by omega))]
 have hp : Jiq (b.length : Int) = ((Jau b.length + 1 : Nat) : Int) := if_pos (by omega)
 have hnb : Jau b.length ≤ 5000 := by unfold Jau; omega
 rw [hp, Jdk (by omega) (by omega)]
 by_cases c4 : l.2.2.1 - l.1 < Jau b.length + 1
 ·have he : appE l b = 11 := he0.trans ((if_neg c3).trans (if_pos c4))
  rw [Jaa (tt (by omega)), he]; rfl
 have he : appE l b = 0 := he0.trans ((if_neg c3).trans (if_neg c4))
 have hE : J3w b (l.2.1 + 1) = true := tt (by omega)
 have ha1 : Jar l.2.1 1 = l.2.1 + 1 := Jao (by omega) (by omega)
 have ha2 : Jar l.1 ((Jau b.length + 1 : Nat) : Int) = l.1 + Jau b.length + 1 := by rw [Jao (by omega) (by omega)]; omega
 have ha3 : Jdo (l.1 + Jau b.length + 1) 1 = l.1 + Jau b.length := by rw [Jdk (by omega) (by omega)]; omega
 rw [Jab (ff (by omega)), he, if_pos rfl, if_pos rfl]
 unfold Ju9 K3r
 by_cases c5 : b = []
 ·subst c5
  rw [Jab (ff (by unfold Jau; simp)), ha1, ha2, ha3, hE, if_pos rfl]; rfl
 ·have hpos : 0 < b.length := List.length_pos_iff.2 c5
  rw [Jaa (tt (by unfold Jau; omega)), if_neg c5]
  obtain ⟨w, hw⟩ := Jz8 (Jau b.length + 1) fail (fun _ p _ n parts _ _ l1 _ =>
    bif (Jjw l1.1 parts) then
    bif (Job) then
    bif (J3w p (Jar l1.2.1 (1 : Int))) then
    bif (Jjw (Jdo (Jar l1.1 n) (1 : Int)) ([(Jwa p (Jar l1.2.1 (1 : Int)))] : List (List UInt8))) then
    bif (Job) then
    ret ((Jar l1.1 n), ((Jar l1.2.1 (1 : Int)), (l1.2.2.1, ()))) ([(Jjx l1.1 parts), (Joc), (Jjx (Jdo (Jar l1.1 n) (1 : Int)) ([(Jwa p (Jar l1.2.1 (1 : Int)))] : List (List UInt8))), (Joc)] : List (Int × (Int × ((List (List UInt8)) × Unit)))) (0 : Int)
    else fail
    else fail
    else fail
    else fail
    else fail) b 0 ((Jau b.length + 1 : Nat) : Int) l Ktv (by omega) (Jau b.length) (Jau b.length) 0 (by omega) (by omega)
  refine hw.trans ?_
  simp only [ha1, ha2, ha3]
  rw [hE]; rfl⟩
end Go.AI
