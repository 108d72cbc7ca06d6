/- Texts of the proof, joined: LogP3. Names of our own are shortened by program; the long ones stand in wip/. -/
import Derived.Test.YtcdajbmgoafnkaaGreatQwLogP2
namespace Go.AI
open Go
theorem Kl7 (n : Int) (_ : J4u n = true) : ∃ F, ∀ {X : Type} (fail : X) (ret : Int → X), K4w F n fail ret = ret (Jji n) := ⟨0, fun fail ret => by
 unfold K4w Jji Qda
 by_cases c1 : n < 0
 ·rw [Jaa (tt c1), if_neg (by omega)]
 by_cases c2 : n > 65536
 ·rw [Jab (ff c1), Jaa (tt c2), if_neg (by omega)]
 ·have hp : Jkp n = true := tt (by omega)
  rw [Jab (ff c1), Jab (ff c2), hp, cond_true, if_pos (by omega)]
  unfold Jkq Jar
  rw [Jak (by omega) (by omega)]; congr 1⟩
theorem J1a (l : Jf6) : ((l.2.2.1 < 2 ∨ l.2.2.1 > 8192 ∨ l.1 < 1 ∨ l.1 > l.2.2.1) ∧ J96 l = 2) ∨ (¬ (l.2.2.1 < 2 ∨ l.2.2.1 > 8192 ∨ l.1 < 1 ∨ l.1 > l.2.2.1) ∧ (l.2.1 < 0 ∨ l.2.1 ≥ l.1) ∧ J96 l = 3) ∨ (¬ (l.2.2.1 < 2 ∨ l.2.2.1 > 8192 ∨ l.1 < 1 ∨ l.1 > l.2.2.1) ∧ ¬ (l.2.1 < 0 ∨ l.2.1 ≥ l.1) ∧ J96 l = 0) := by
 unfold J96
 by_cases c1 : l.2.2.1 < 2 ∨ l.2.2.1 > 8192 ∨ l.1 < 1 ∨ l.1 > l.2.2.1
 ·exact .inl ⟨c1, if_pos c1⟩
 by_cases c2 : l.2.1 < 0 ∨ l.2.1 ≥ l.1
 ·exact .inr (.inl ⟨c1, c2, by rw [if_neg c1, if_pos c2]⟩)
 ·exact .inr (.inr ⟨c1, c2, by rw [if_neg c1, if_neg c2]⟩)
theorem Kl8 (l : Jf6) : ∃ F, ∀ {X : Type} (fail : X) (ret : Int → X), K4x F l fail ret = ret (Jkr l) := ⟨0, fun fail ret => by
 unfold K4x Jkr
 rcases J1a l with ⟨c, e⟩ | ⟨c, c2, e⟩ | ⟨c, c2, e⟩ <;> rw [e]
 ·by_cases c1 : l.2.2.1 < 2
  ·rw [Jaa (tt c1)]
  by_cases c2 : l.2.2.1 > 8192
  ·rw [Jab (ff c1), Jaa (tt c2), Jaa (tt c2)]
  by_cases c3 : l.1 < 1
  ·rw [Jab (ff c1), Jab (ff c2), Jaa (tt c3)]
  ·rw [Jab (ff c1), Jab (ff c2), Jab (ff c3), Jaa (tt (by omega))]
 all_goals rw [Jab (ff (by omega)), Jab (ff (by omega)), Jab (ff (by omega)), Jab (ff (by omega))]
 ·by_cases c3 : l.2.1 < 0
  ·rw [Jaa (tt c3)]
  ·rw [Jab (ff c3), Jaa (tt (by omega))]
 ·rw [Jab (ff (by omega)), Jab (ff (by omega))]⟩
theorem Ksr (_ : J6p = true) : ∃ F, ∀ {X : Type} (fail : X) (ret : Ja7 → X), Qh3 F fail ret = ret J0w := ⟨1, fun _ _ => rfl⟩
theorem Kl9 (a : Int) (ps : List Ja7) (_ : Jks a ps = true) : ∃ F, ∀ {X : Type} (fail : X) (ret : DOp → X), Qde F a ps fail ret = ret (Jkt a ps) := ⟨0, fun _ _ => rfl⟩
theorem Kss (_ : Jpp = true) : ∃ F, ∀ {X : Type} (fail : X) (ret : DOp → X), Qh4 F fail ret = ret Jpq := ⟨0, fun _ _ => rfl⟩
theorem Khb (n : Int) (_ : J6r n = true) : ∃ F, ∀ {X : Type} (fail : X) (ret : Jf6 → List DOp → Int → X), Kru F n fail ret = ret (Ji0 n) (Jeh n) (Joe n) := ⟨0, fun fail ret => by
 unfold Kru Ji0 Jeh Joe fmtL K9p fmtE
 by_cases c1 : n < 2
 ·rw [Jaa (tt c1), if_neg (by omega), if_neg (by omega), if_neg (by omega)]; rfl
 by_cases c2 : n > 8192
 ·rw [Jab (ff c1), Jaa (tt c2), if_neg (by omega), if_neg (by omega), if_neg (by omega)]; rfl
 ·rw [Jab (ff c1), Jab (ff c2), Jaa (by rw [Bool.and_true]; exact tt2 (by omega) (by unfold big; omega)), if_pos (by omega), if_pos (by omega), if_pos (by omega)]; rfl⟩
theorem Khc : ∀ k b, (Kjj k b).length = k
 | 0, _ => rfl
 | k + 1, b => by simp [Kjj, Khc k]
theorem Jb7 (b : Bys) : (Jcn b).length = Jar b.length := Khc _ _
def Qir (b : Bys) : Ja7 := 1 :: (b.take 15 ++ List.replicate (15 - (b.take 15).length) 0)
theorem Kma : ∀ (k : Nat) (b : Bys), Kjj (k + 1) b = Kjj k b ++ [Qir (b.drop (15 * k))]
 | 0, b => rfl
 | k + 1, b => by
  show Qir b :: Kjj (k + 1) (b.drop 15) = (Qir b :: Kjj k (b.drop 15)) ++ _
  rw [Kma k, List.drop_drop, show 15 + 15 * k = 15 * (k + 1) by omega]; rfl
theorem Qbv (b : Bys) : (Qir b).length = 16 := by
 simp only [Qir, List.length_cons, List.length_append, List.length_replicate, List.length_take]; omega
theorem K0f (x : Bys) (h : x.length ≤ 15) : ([1] : Ja7) ++ x.take (min x.length 15) ++ ([1, 0, 0, 0, 0, 0, 0, 0, 0, 0, 0, 0, 0, 0, 0, 0] : Ja7).drop (1 + min x.length 15) = 1 :: (x ++ List.replicate (15 - x.length) 0) := by
 have e : min x.length 15 = x.length := by omega
 rw [e, List.take_length]
 have e2 : ([1, 0, 0, 0, 0, 0, 0, 0, 0, 0, 0, 0, 0, 0, 0, 0] : Ja7) = 1 :: List.replicate 15 0 := rfl
 rw [e2, Nat.add_comm, List.drop_succ_cons, List.drop_replicate]; rfl
theorem J2u {X : Type} (F : Nat) (fail : X) (ex0 : Int → Bys → Int → Int → List Ja7 → Bys → Int → Jf6 → Jf6 → X) (b : Bys) (s6 n : Int) (l s4 : Jf6) (hb : b.length ≤ 65536) : ∀ (j m k : Nat), k + j = Jar b.length → j ≤ m →
  ∃ w : Int, Jja F fail ex0 (m + 1) ((15 * k : Nat) : Int) b s6 n (Kjj k b) b 15 l s4 = ex0 w b s6 n (Jcn b) b 15 l s4
 | 0, m, k, hk, _ => by
  obtain rfl : k = Jar b.length := by omega
  refine ⟨((15 * Jar b.length : Nat) : Int), ?_⟩
  rw [Jja, Jug]
  rw [Jab (ff (by unfold Jar; omega))]; rfl
 | j + 1, 0, k, _, hm => absurd hm (by omega)
 | j + 1, m + 1, k, hk, hm => by
  obtain ⟨w, ih⟩ := J2u F fail ex0 b s6 n l s4 hb j m (k + 1) (by omega) (by omega)
  refine ⟨w, ?_⟩
  have hlt : 15 * k < b.length := by unfold Jar at hk; omega
  have hnb : Jar b.length ≤ 5000 := by unfold Jar; omega
  have hmin : Kfe 15 ((b.drop (15 * k)).length : Int) = ((min 15 (b.length - 15 * k) : Nat) : Int) := by rw [K37, List.length_drop]; omega
  rw [Jja, Jug]
  rw [Int.toNat_natCast, hmin, Jak (b := ((min 15 (b.length - 15 * k) : Nat) : Int)) (by omega) (by omega)]
  rw [show (((15 * k : Nat) : Int) + ((min 15 (b.length - 15 * k) : Nat) : Int)) = ((15 * k + min 15 (b.length - 15 * k) : Nat) : Int) by omega, Int.toNat_natCast]
  have hx : (b.take (15 * k + min 15 (b.length - 15 * k))).drop (15 * k) = (b.drop (15 * k)).take 15 := by
   rw [List.drop_take, show 15 * k + min 15 (b.length - 15 * k) - 15 * k = min 15 (b.length - 15 * k) by omega]
   by_cases c : 15 ≤ b.length - 15 * k
   ·rw [show min 15 (b.length - 15 * k) = 15 by omega]
   ·rw [List.take_of_length_le (by rw [List.length_drop]; omega), List.take_of_length_le (by rw [List.length_drop]; omega)]
  rw [hx, K0f _ (by rw [List.length_take]; omega)]
  rw [Jaa (tt (by omega)), Jaa (tt2 (by omega) (by omega)), Jaa (by rw [tt2 (show (0 : Int) ≤ ((15 * k : Nat) : Int) by omega) (by omega), tt (by omega), Jnv rfl]; rfl), Jaa (Jcg (by rw [List.length_append, Khc, List.length_singleton]; omega)), Jak (by omega) (by omega), show (((15 * k : Nat) : Int) + 15) = ((15 * (k + 1) : Nat) : Int) by omega]
  rw [Kma] at ih
  exact ih
theorem Khd (l : Jf6) (b : Bys) (_ : Jyh l b = true) : ∃ F, ∀ {X : Type} (fail : X) (ret : Jf6 → List DOp → Int → X), Krv F l b fail ret = ret (Jof l b) (Jog l b) (Joh l b) := ⟨Jar b.length + 1, fun fail ret => by
 unfold Krv Jof Jog Joh Qdb K4e Jkr
 rcases J1a l with ⟨c, e⟩ | ⟨c, c2, e⟩ | ⟨c, c2, e⟩
 ·have he : appE l b = 2 := by unfold appE; rw [if_neg (by omega)]; exact e
  rw [he, e]; rfl
 ·have he : appE l b = 3 := by unfold appE; rw [if_neg (by omega)]; exact e
  rw [he, e]; rfl
 rw [e, Jab (c := (0 : Int) != 0) rfl, Jaa (c := J4u _) rfl]
 have he0 : appE l b = if b.length > 65536 then 5 else if l.2.2.1 - l.1 < Jar b.length + 1 then 11 else 0 := if_pos e
 by_cases c3 : b.length > 65536
 ·have he : appE l b = 5 := he0.trans (if_pos c3)
  rw [Jaa (tt (by omega)), he]; rfl
 rw [Jab (ff (by omega))]
 have hp : Jji (b.length : Int) = ((Jar b.length + 1 : Nat) : Int) := if_pos (by omega)
 have hnb : Jar b.length ≤ 5000 := by unfold Jar; omega
 rw [hp, Jcf (by omega) (by omega)]
 by_cases c4 : l.2.2.1 - l.1 < Jar b.length + 1
 ·have he : appE l b = 11 := he0.trans ((if_neg c3).trans (if_pos c4))
  rw [Jaa (tt (by omega)), he]; rfl
 have he : appE l b = 0 := he0.trans ((if_neg c3).trans (if_neg c4))
 have hE : J6q b (l.2.1 + 1) = true := tt (by omega)
 have ha1 : Jag l.2.1 1 = l.2.1 + 1 := Jak (by omega) (by omega)
 have ha2 : Jag l.1 ((Jar b.length + 1 : Nat) : Int) = l.1 + Jar b.length + 1 := by rw [Jak (by omega) (by omega)]; omega
 have ha3 : Jby (l.1 + Jar b.length + 1) 1 = l.1 + Jar b.length := by rw [Jcf (by omega) (by omega)]; omega
 rw [Jab (ff (by omega)), he, if_pos rfl, if_pos rfl]
 unfold Jxf K4f
 by_cases c5 : b = []
 ·subst c5
  rw [Jab (ff (by unfold Jar; simp)), ha1, ha2, ha3, hE, if_pos rfl]; rfl
 ·have hpos : 0 < b.length := List.length_pos_iff.2 c5
  rw [Jaa (tt (by unfold Jar; omega)), if_neg c5]
  obtain ⟨w, hw⟩ := J2u (Jar b.length + 1) fail (fun _ p _ n parts _ _ l1 _ =>
    bif (Jks l1.1 parts) then
    bif (Jpp) then
    bif (J6q p (Jag l1.2.1 (1 : Int))) then
    bif (Jks (Jby (Jag l1.1 n) (1 : Int)) ([(Jyg p (Jag l1.2.1 (1 : Int)))] : List (List UInt8))) then
    bif (Jpp) then
    ret ((Jag l1.1 n), ((Jag l1.2.1 (1 : Int)), (l1.2.2.1, ()))) ([(Jkt l1.1 parts), (Jpq), (Jkt (Jby (Jag l1.1 n) (1 : Int)) ([(Jyg p (Jag l1.2.1 (1 : Int)))] : List (List UInt8))), (Jpq)] : List (Int × (Int × ((List (List UInt8)) × Unit)))) (0 : Int)
    else fail
    else fail
    else fail
    else fail
    else fail) b 0 ((Jar b.length + 1 : Nat) : Int) l Kqa (by omega) (Jar b.length) (Jar b.length) 0 (by omega) (by omega)
  refine hw.trans ?_
  simp only [ha1, ha2, ha3]
  rw [hE]; rfl⟩
end Go.AI
