/- Texts of the proof, joined: LogP3. Names of our own are shortened by program; the long ones stand in wip/. -/
import Derived.Test.YtcdajbmgoafnkaaGreatQvLogP2
namespace Go.AI
open Go
theorem Kg8 (n : Int) (_ : J1w n = true) : ∃ F, ∀ {X : Type} (fail : X) (ret : Int → X), Kxm F n fail ret = ret (Jix n) := ⟨0, fun fail ret => by
 unfold Kxm Jix K48
 by_cases c1 : n < 0
 ·rw [Jaa (tt c1), if_neg (by omega)]
 by_cases c2 : n > 65536
 ·rw [Jab (ff c1), Jaa (tt c2), if_neg (by omega)]
 ·have hp : Jj1 n = true := tt (by omega)
  rw [Jab (ff c1), Jab (ff c2), hp, cond_true, if_pos (by omega)]
  unfold Jj2 Jaq
  rw [Jam (by omega) (by omega)]; congr 1⟩
theorem Jyy (l : Jfp) : ((l.2.2.1 < 2 ∨ l.2.2.1 > 8192 ∨ l.1 < 1 ∨ l.1 > l.2.2.1) ∧ J6g l = 2) ∨ (¬ (l.2.2.1 < 2 ∨ l.2.2.1 > 8192 ∨ l.1 < 1 ∨ l.1 > l.2.2.1) ∧ (l.2.1 < 0 ∨ l.2.1 ≥ l.1) ∧ J6g l = 3) ∨ (¬ (l.2.2.1 < 2 ∨ l.2.2.1 > 8192 ∨ l.1 < 1 ∨ l.1 > l.2.2.1) ∧ ¬ (l.2.1 < 0 ∨ l.2.1 ≥ l.1) ∧ J6g l = 0) := by
 unfold J6g
 by_cases c1 : l.2.2.1 < 2 ∨ l.2.2.1 > 8192 ∨ l.1 < 1 ∨ l.1 > l.2.2.1
 ·exact .inl ⟨c1, if_pos c1⟩
 by_cases c2 : l.2.1 < 0 ∨ l.2.1 ≥ l.1
 ·exact .inr (.inl ⟨c1, c2, by rw [if_neg c1, if_pos c2]⟩)
 ·exact .inr (.inr ⟨c1, c2, by rw [if_neg c1, if_neg c2]⟩)
theorem Kg9 (l : Jfp) : ∃ F, ∀ {X : Type} (fail : X) (ret : Int → X), Kxn F l fail ret = ret (Jj3 l) := ⟨0, fun fail ret => by
 unfold Kxn Jj3
 rcases Jyy l with ⟨c, e⟩ | ⟨c, c2, e⟩ | ⟨c, c2, e⟩ <;> rw [e]
 ·by_cases c1 : l.2.2.1 < 2
  ·rw [Jaa (tt c1)]
  by_cases c2 : l.2.2.1 > 8192
  ·rw [Jab (ff c1), Jaa (tt c2), Jaa (tt c2)]
  by_cases c3 : l.1 < 1
  ·rw [Jab (ff c1), Jab (ff c2), Jaa (tt c3)]
  ·rw [Jab (ff c1), Jab (ff c2), Jab (ff c3), Jaa (tt (by omega))]
 all_goals rw [Jab (ff (by omega)), Jab (ff (by omega)), Jab (ff (by omega)), Jab (ff (by omega))]
 ·by_cases c3 : l.2.1 < 0
  ·rw [Jaa (tt c3)]
  ·rw [Jab (ff c3), Jaa (tt (by omega))]
 ·rw [Jab (ff (by omega)), Jab (ff (by omega))]⟩
theorem Kmn (_ : J3l = true) : ∃ F, ∀ {X : Type} (fail : X) (ret : Jbe → X), K9t F fail ret = ret Jym := ⟨1, fun _ _ => rfl⟩
theorem Kha (a : Int) (ps : List Jbe) (_ : Jj4 a ps = true) : ∃ F, ∀ {X : Type} (fail : X) (ret : DOp → X), K5f F a ps fail ret = ret (Jj5 a ps) := ⟨0, fun _ _ => rfl⟩
theorem Kmo (_ : Jog = true) : ∃ F, ∀ {X : Type} (fail : X) (ret : DOp → X), K9u F fail ret = ret Joh := ⟨0, fun _ _ => rfl⟩
theorem Kcr (n : Int) (_ : J3n n = true) : ∃ F, ∀ {X : Type} (fail : X) (ret : Jfp → List DOp → Int → X), Kls F n fail ret = ret (Jil n) (Jew n) (Jm2 n) := ⟨0, fun fail ret => by
 unfold Kls Jil Jew Jm2 fmtL K1x fmtE
 by_cases c1 : n < 2
 ·rw [Jaa (tt c1), if_neg (by omega), if_neg (by omega), if_neg (by omega)]; rfl
 by_cases c2 : n > 8192
 ·rw [Jab (ff c1), Jaa (tt c2), if_neg (by omega), if_neg (by omega), if_neg (by omega)]; rfl
 ·rw [Jab (ff c1), Jab (ff c2), Jaa (by rw [Bool.and_true]; exact tt2 (by omega) (by unfold big; omega)), if_pos (by omega), if_pos (by omega), if_pos (by omega)]; rfl⟩
theorem Kcs : ∀ k b, (Keo k b).length = k
 | 0, _ => rfl
 | k + 1, b => by simp [Keo, Kcs k]
theorem Jcl (b : Bys) : (Jc0 b).length = Jaq b.length := Kcs _ _
def Qad (b : Bys) : Jbe := 1 :: (b.take 15 ++ List.replicate (15 - (b.take 15).length) 0)
theorem Khb : ∀ (k : Nat) (b : Bys), Keo (k + 1) b = Keo k b ++ [Qad (b.drop (15 * k))]
 | 0, b => rfl
 | k + 1, b => by
  show Qad b :: Keo (k + 1) (b.drop 15) = (Qad b :: Keo k (b.drop 15)) ++ _
  rw [Khb k, List.drop_drop, show 15 + 15 * k = 15 * (k + 1) by omega]; rfl
theorem K3x (b : Bys) : (Qad b).length = 16 := by
 simp only [Qad, List.length_cons, List.length_append, List.length_replicate, List.length_take]; omega
theorem Kth (x : Bys) (h : x.length ≤ 15) : ([1] : Jbe) ++ x.take (min x.length 15) ++ ([1, 0, 0, 0, 0, 0, 0, 0, 0, 0, 0, 0, 0, 0, 0, 0] : Jbe).drop (1 + min x.length 15) = 1 :: (x ++ List.replicate (15 - x.length) 0) := by
 have e : min x.length 15 = x.length := by omega
 rw [e, List.take_length]
 have e2 : ([1, 0, 0, 0, 0, 0, 0, 0, 0, 0, 0, 0, 0, 0, 0, 0] : Jbe) = 1 :: List.replicate 15 0 := rfl
 rw [e2, Nat.add_comm, List.drop_succ_cons, List.drop_replicate]; rfl
theorem Jz7 {X : Type} (F : Nat) (fail : X) (ex0 : Int → Bys → Int → Int → List Jbe → Bys → Int → Jfp → Jfp → X) (b : Bys) (s6 n : Int) (l s4 : Jfp) (hb : b.length ≤ 65536) : ∀ (j m k : Nat), k + j = Jaq b.length → j ≤ m →
  ∃ w : Int, Jiq F fail ex0 (m + 1) ((15 * k : Nat) : Int) b s6 n (Keo k b) b 15 l s4 = ex0 w b s6 n (Jc0 b) b 15 l s4
 | 0, m, k, hk, _ => by
  obtain rfl : k = Jaq b.length := by omega
  refine ⟨((15 * Jaq b.length : Nat) : Int), ?_⟩
  rw [Jiq, Jsn]
  rw [Jab (ff (by unfold Jaq; omega))]; rfl
 | j + 1, 0, k, _, hm => absurd hm (by omega)
 | j + 1, m + 1, k, hk, hm => by
  obtain ⟨w, ih⟩ := Jz7 F fail ex0 b s6 n l s4 hb j m (k + 1) (by omega) (by omega)
  refine ⟨w, ?_⟩
  have hlt : 15 * k < b.length := by unfold Jaq at hk; omega
  have hnb : Jaq b.length ≤ 5000 := by unfold Jaq; omega
  have hmin : Ka2 15 ((b.drop (15 * k)).length : Int) = ((min 15 (b.length - 15 * k) : Nat) : Int) := by rw [Kw1, List.length_drop]; omega
  rw [Jiq, Jsn]
  rw [Int.toNat_natCast, hmin, Jam (b := ((min 15 (b.length - 15 * k) : Nat) : Int)) (by omega) (by omega)]
  rw [show (((15 * k : Nat) : Int) + ((min 15 (b.length - 15 * k) : Nat) : Int)) = ((15 * k + min 15 (b.length - 15 * k) : Nat) : Int) by omega, Int.toNat_natCast]
  have hx : (b.take (15 * k + min 15 (b.length - 15 * k))).drop (15 * k) = (b.drop (15 * k)).take 15 := by
   rw [List.drop_take, show 15 * k + min 15 (b.length - 15 * k) - 15 * k = min 15 (b.length - 15 * k) by omega]
   by_cases c : 15 ≤ b.length - 15 * k
   ·rw [show min 15 (b.length - 15 * k) = 15 by omega]
   ·rw [List.take_of_length_le (by rw [List.length_drop]; omega), List.take_of_length_le (by rw [List.length_drop]; omega)]
  rw [hx, Kth _ (by rw [List.length_take]; omega)]
  rw [Jaa (tt (by omega)), Jaa (tt2 (by omega) (by omega)), Jaa (by rw [tt2 (show (0 : Int) ≤ ((15 * k : Nat) : Int) by omega) (by omega), tt (by omega), Jju rfl]; rfl), Jaa (Jem (by rw [List.length_append, Kcs, List.length_singleton]; omega)), Jam (by omega) (by omega), show (((15 * k : Nat) : Int) + 15) = ((15 * (k + 1) : Nat) : Int) by omega]
  rw [Khb] at ih
  exact ih
theorem Kct (l : Jfp) (b : Bys) (_ : Jwj l b = true) : ∃ F, ∀ {X : Type} (fail : X) (ret : Jfp → List DOp → Int → X), Klt F l b fail ret = ret (Jm3 l b) (Jm4 l b) (Jm5 l b) := ⟨Jaq b.length + 1, fun fail ret => by
 unfold Klt Jm3 Jm4 Jm5 K49 Ku0 Jj3
 rcases Jyy l with ⟨c, e⟩ | ⟨c, c2, e⟩ | ⟨c, c2, e⟩
 ·have he : appE l b = 2 := by unfold appE; rw [if_neg (by omega)]; exact e
  rw [he, e]; rfl
 ·have he : appE l b = 3 := by unfold appE; rw [if_neg (by omega)]; exact e
  rw [he, e]; rfl
 rw [e, Jab (c := (0 : Int) != 0) rfl, Jaa (c := J1w _) rfl]
 have he0 : appE l b = if b.length > 65536 then 5 else if l.2.2.1 - l.1 < Jaq b.length + 1 then 11 else 0 := if_pos e
 by_cases c3 : b.length > 65536
 ·have he : appE l b = 5 := he0.trans (if_pos c3)
  rw [Jaa (tt (by omega)), he]; rfl
 rw [Jab (ff (by omega))]
 have hp : Jix (b.length : Int) = ((Jaq b.length + 1 : Nat) : Int) := if_pos (by omega)
 have hnb : Jaq b.length ≤ 5000 := by unfold Jaq; omega
 rw [hp, Jdo (by omega) (by omega)]
 by_cases c4 : l.2.2.1 - l.1 < Jaq b.length + 1
 ·have he : appE l b = 11 := he0.trans ((if_neg c3).trans (if_pos c4))
  rw [Jaa (tt (by omega)), he]; rfl
 have he : appE l b = 0 := he0.trans ((if_neg c3).trans (if_neg c4))
 have hE : J3m b (l.2.1 + 1) = true := tt (by omega)
 have ha1 : Jay l.2.1 1 = l.2.1 + 1 := Jam (by omega) (by omega)
 have ha2 : Jay l.1 ((Jaq b.length + 1 : Nat) : Int) = l.1 + Jaq b.length + 1 := by rw [Jam (by omega) (by omega)]; omega
 have ha3 : Jb3 (l.1 + Jaq b.length + 1) 1 = l.1 + Jaq b.length := by rw [Jdo (by omega) (by omega)]; omega
 rw [Jab (ff (by omega)), he, if_pos rfl, if_pos rfl]
 unfold Juo Kw9
 by_cases c5 : b = []
 ·subst c5
  rw [Jab (ff (by unfold Jaq; simp)), ha1, ha2, ha3, hE, if_pos rfl]; rfl
 ·have hpos : 0 < b.length := List.length_pos_iff.2 c5
  rw [Jaa (tt (by unfold Jaq; omega)), if_neg c5]
  obtain ⟨w, hw⟩ := Jz7 (Jaq b.length + 1) fail (fun _ p _ n parts _ _ l1 _ =>
    bif (Jj4 l1.1 parts) then
    bif (Jog) then
    bif (J3m p (Jay l1.2.1 (1 : Int))) then
    bif (Jj4 (Jb3 (Jay l1.1 n) (1 : Int)) ([(Jwi p (Jay l1.2.1 (1 : Int)))] : List (List UInt8))) then
    bif (Jog) then
    ret ((Jay l1.1 n), ((Jay l1.2.1 (1 : Int)), (l1.2.2.1, ()))) ([(Jj5 l1.1 parts), (Joh), (Jj5 (Jb3 (Jay l1.1 n) (1 : Int)) ([(Jwi p (Jay l1.2.1 (1 : Int)))] : List (List UInt8))), (Joh)] : List (Int × (Int × ((List (List UInt8)) × Unit)))) (0 : Int)
    else fail
    else fail
    else fail
    else fail
    else fail) b 0 ((Jaq b.length + 1 : Nat) : Int) l Kqa (by omega) (Jaq b.length) (Jaq b.length) 0 (by omega) (by omega)
  refine hw.trans ?_
  simp only [ha1, ha2, ha3]
  rw [hE]; rfl⟩
end Go.AI
