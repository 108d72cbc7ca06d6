/- Texts of the proof, joined: LogP3. Names of our own are shortened by program; the long ones stand in wip/. -/
import Derived.Test.YtcdajbmgoafnkaaGreatQrLogP2
namespace Go.AI
open Go
theorem Ksg (n : Int) (_ : J8y n = true) : ∃ F, ∀ {X : Type} (fail : X) (ret : Int → X), Qcb F n fail ret = ret (Jkv n) := ⟨0, fun fail ret => by
 unfold Qcb Jkv Qkd
 by_cases c1 : n < 0
 ·rw [Jaa (tt c1), if_neg (by omega)]
 by_cases c2 : n > 65536
 ·rw [Jab (ff c1), Jaa (tt c2), if_neg (by omega)]
 ·have hp : Jjs n = true := tt (by omega)
  rw [Jab (ff c1), Jab (ff c2), hp, cond_true, if_pos (by omega)]
  unfold Jh4 Jco
  rw [Jai (by omega) (by omega)]; congr 1⟩
theorem J4s (l : Jic) : ((l.2.2.1 < 2 ∨ l.2.2.1 > 8192 ∨ l.1 < 1 ∨ l.1 > l.2.2.1) ∧ Kij l = 2) ∨ (¬ (l.2.2.1 < 2 ∨ l.2.2.1 > 8192 ∨ l.1 < 1 ∨ l.1 > l.2.2.1) ∧ (l.2.1 < 0 ∨ l.2.1 ≥ l.1) ∧ Kij l = 3) ∨ (¬ (l.2.2.1 < 2 ∨ l.2.2.1 > 8192 ∨ l.1 < 1 ∨ l.1 > l.2.2.1) ∧ ¬ (l.2.1 < 0 ∨ l.2.1 ≥ l.1) ∧ Kij l = 0) := by
 unfold Kij
 by_cases c1 : l.2.2.1 < 2 ∨ l.2.2.1 > 8192 ∨ l.1 < 1 ∨ l.1 > l.2.2.1
 ·exact .inl ⟨c1, if_pos c1⟩
 by_cases c2 : l.2.1 < 0 ∨ l.2.1 ≥ l.1
 ·exact .inr (.inl ⟨c1, c2, by rw [if_neg c1, if_pos c2]⟩)
 ·exact .inr (.inr ⟨c1, c2, by rw [if_neg c1, if_neg c2]⟩)
theorem Ksh (l : Jic) : ∃ F, ∀ {X : Type} (fail : X) (ret : Int → X), Qcc F l fail ret = ret (Jl7 l) := ⟨0, fun fail ret => by
 unfold Qcc Jl7
 rcases J4s l with ⟨c, e⟩ | ⟨c, c2, e⟩ | ⟨c, c2, e⟩ <;> rw [e]
 ·by_cases c1 : l.2.2.1 < 2
  ·rw [Jaa (tt c1)]
  by_cases c2 : l.2.2.1 > 8192
  ·rw [Jab (ff c1), Jaa (tt c2), Jaa (tt c2)]
  by_cases c3 : l.1 < 1
  ·rw [Jab (ff c1), Jab (ff c2), Jaa (tt c3)]
  ·rw [Jab (ff c1), Jab (ff c2), Jab (ff c3), Jaa (tt (by omega))]
 all_goals rw [Jab (ff (by omega)), Jab (ff (by omega)), Jab (ff (by omega)), Jab (ff (by omega))]
 ·by_cases c3 : l.2.1 < 0
  ·rw [Jaa (tt c3)]
  ·rw [Jab (ff c3), Jaa (tt (by omega))]
 ·rw [Jab (ff (by omega)), Jab (ff (by omega))]⟩
theorem Kzn (_ : Kls = true) : ∃ F, ∀ {X : Type} (fail : X) (ret : Jbw → X), Qou F fail ret = ret Klt := ⟨1, fun _ _ => rfl⟩
theorem Knc (_ : J1h = true) : ∃ F, ∀ {X : Type} (fail : X) (ret : Jbw → X), Qce F fail ret = ret J1i := ⟨16, fun _ _ => by kernel_rfl⟩
theorem Ksi (a : Int) (ps : List Jbw) (_ : Jrw a ps = true) : ∃ F, ∀ {X : Type} (fail : X) (ret : DOp → X), Qkh F a ps fail ret = ret (Jrx a ps) := ⟨0, fun _ _ => rfl⟩
theorem Kzo (_ : Jzg = true) : ∃ F, ∀ {X : Type} (fail : X) (ret : DOp → X), Qov F fail ret = ret Jzh := ⟨0, fun _ _ => rfl⟩
theorem Jsl : ∀ k b, (J1m k b).length = k
 | 0, _ => rfl
 | k + 1, b => by simp [J1m, Jsl k]
theorem J4t (b : Bys) : (Jqa b).length = Jco b.length := Jsl _ _
def Ksj (b : Bys) : Jbw := 1 :: (b.take 15 ++ List.replicate (15 - (b.take 15).length) 0)
theorem Knd : ∀ (k : Nat) (b : Bys) (q : Nat), q < k → (J1m k b).getD q z16 = Ksj (b.drop (15 * q))
 | 0, _, _, h => absurd h (by omega)
 | k + 1, b, 0, _ => rfl
 | k + 1, b, q + 1, h => by
  show (J1m k (b.drop 15)).getD q z16 = _
  rw [Knd k _ q (by omega), List.drop_drop, show 15 + 15 * q = 15 * (q + 1) by omega]
theorem Ksk : ∀ (k : Nat) (b : Bys), J1m (k + 1) b = J1m k b ++ [Ksj (b.drop (15 * k))]
 | 0, b => rfl
 | k + 1, b => by
  show Ksj b :: J1m (k + 1) (b.drop 15) = (Ksj b :: J1m k (b.drop 15)) ++ _
  rw [Ksk k, List.drop_drop, show 15 + 15 * k = 15 * (k + 1) by omega]; rfl
theorem K7t (x : Bys) (h : x.length ≤ 15) : ([1] : Jbw) ++ x.take (min x.length 15) ++ ([1, 0, 0, 0, 0, 0, 0, 0, 0, 0, 0, 0, 0, 0, 0, 0] : Jbw).drop (1 + min x.length 15) = 1 :: (x ++ List.replicate (15 - x.length) 0) := by
 have e : min x.length 15 = x.length := by omega
 rw [e, List.take_length]
 have e2 : ([1, 0, 0, 0, 0, 0, 0, 0, 0, 0, 0, 0, 0, 0, 0, 0] : Jbw) = 1 :: List.replicate 15 0 := rfl
 rw [e2, Nat.add_comm, List.drop_succ_cons, List.drop_replicate]; rfl
theorem J6j {X : Type} (F : Nat) (fail : X) (ex0 : Int → Bys → Int → Int → List Jbw → Bys → Int → Jic → Jic → X) (b : Bys) (s6 n : Int) (l s4 : Jic) (hb : b.length ≤ 65536) : ∀ (j m k : Nat), k + j = Jco b.length → j ≤ m →
  ∃ w : Int, Jki F fail ex0 (m + 1) ((15 * k : Nat) : Int) b s6 n (J1m k b) b 15 l s4 = ex0 w b s6 n (Jqa b) b 15 l s4
 | 0, m, k, hk, _ => by
  obtain rfl : k = Jco b.length := by omega
  refine ⟨((15 * Jco b.length : Nat) : Int), ?_⟩
  rw [Jki, Jxc]
  rw [Jab (ff (by unfold Jco; omega))]; rfl
 | j + 1, 0, k, _, hm => absurd hm (by omega)
 | j + 1, m + 1, k, hk, hm => by
  obtain ⟨w, ih⟩ := J6j F fail ex0 b s6 n l s4 hb j m (k + 1) (by omega) (by omega)
  refine ⟨w, ?_⟩
  have hlt : 15 * k < b.length := by unfold Jco at hk; omega
  have hnb : Jco b.length ≤ 5000 := by unfold Jco; omega
  have hmin : Kle 15 ((b.drop (15 * k)).length : Int) = ((min 15 (b.length - 15 * k) : Nat) : Int) := by rw [Qbr, List.length_drop]; omega
  rw [Jki, Jxc]
  rw [Int.toNat_natCast, hmin, Jai (b := ((min 15 (b.length - 15 * k) : Nat) : Int)) (by omega) (by omega)]
  rw [show (((15 * k : Nat) : Int) + ((min 15 (b.length - 15 * k) : Nat) : Int)) = ((15 * k + min 15 (b.length - 15 * k) : Nat) : Int) by omega, Int.toNat_natCast]
  have hx : (b.take (15 * k + min 15 (b.length - 15 * k))).drop (15 * k) = (b.drop (15 * k)).take 15 := by
   rw [List.drop_take, show 15 * k + min 15 (b.length - 15 * k) - 15 * k = min 15 (b.length - 15 * k) by omega]
   by_cases c : 15 ≤ b.length - 15 * k
   ·rw [show min 15 (b.length - 15 * k) = 15 by omega]
   ·rw [List.take_of_length_le (by rw [List.length_drop]; omega), List.take_of_length_le (by rw [List.length_drop]; omega)]
  rw [hx, K7t _ (by rw [List.length_take]; omega)]
  rw [Jaa (tt (by omega)), Jaa (tt2 (by omega) (by omega)), Jaa (by rw [tt2 (show (0 : Int) ≤ ((15 * k : Nat) : Int) by omega) (by omega), tt (by omega), Jk8 rfl]; rfl), Jaa (Jch (by rw [List.length_append, Jsl, List.length_singleton]; omega)), Jai (by omega) (by omega), show (((15 * k : Nat) : Int) + 15) = ((15 * (k + 1) : Nat) : Int) by omega]
  rw [Ksk] at ih
  exact ih
theorem Kne (l : Jic) (b : Bys) (_ : J1n l b = true) : ∃ F, ∀ {X : Type} (fail : X) (ret : Jic → List DOp → Int → X), Kyq F l b fail ret = ret (Jqb l b) (Jqc l b) (Jqd l b) := ⟨Jco b.length + 1, fun fail ret => by
 unfold Kyq Jqb Jqc Jqd Qos Qn0 Jl7
 rcases J4s l with ⟨c, e⟩ | ⟨c, c2, e⟩ | ⟨c, c2, e⟩
 ·have he : Kw5 l b = 2 := by unfold Kw5; rw [if_neg (by omega)]; exact e
  rw [he, e]; rfl
 ·have he : Kw5 l b = 3 := by unfold Kw5; rw [if_neg (by omega)]; exact e
  rw [he, e]; rfl
 rw [e, Jab (c := (0 : Int) != 0) rfl, Jaa (c := J8y _) rfl]
 have he0 : Kw5 l b = if b.length > 65536 then 5 else if l.2.2.1 - l.1 < Jco b.length + 1 then 11 else 0 := if_pos e
 by_cases c3 : b.length > 65536
 ·have he : Kw5 l b = 5 := he0.trans (if_pos c3)
  rw [Jaa (tt (by omega)), he]; rfl
 rw [Jab (ff (by omega))]
 have hp : Jkv (b.length : Int) = ((Jco b.length + 1 : Nat) : Int) := if_pos (by omega)
 have hnb : Jco b.length ≤ 5000 := by unfold Jco; omega
 rw [hp, Jca (by omega) (by omega)]
 by_cases c4 : l.2.2.1 - l.1 < Jco b.length + 1
 ·have he : Kw5 l b = 11 := he0.trans ((if_neg c3).trans (if_pos c4))
  rw [Jaa (tt (by omega)), he]; rfl
 have he : Kw5 l b = 0 := he0.trans ((if_neg c3).trans (if_neg c4))
 have hE : J1j b (l.2.1 + 1) = true := tt (by omega)
 have ha1 : Jag l.2.1 1 = l.2.1 + 1 := Jai (by omega) (by omega)
 have ha2 : Jag l.1 ((Jco b.length + 1 : Nat) : Int) = l.1 + Jco b.length + 1 := by rw [Jai (by omega) (by omega)]; omega
 have ha3 : Jby (l.1 + Jco b.length + 1) 1 = l.1 + Jco b.length := by rw [Jca (by omega) (by omega)]; omega
 rw [Jab (ff (by omega)), he, if_pos rfl, if_pos rfl]
 unfold appK Qlw
 by_cases c5 : b = []
 ·subst c5
  rw [Jab (ff (by unfold Jco; simp)), ha1, ha2, ha3, hE, if_pos rfl]; rfl
 ·have hpos : 0 < b.length := List.length_pos_iff.2 c5
  rw [Jaa (tt (by unfold Jco; omega)), if_neg c5]
  obtain ⟨w, hw⟩ := J6j (Jco b.length + 1) fail (fun _ p _ n parts _ _ l1 _ =>
    bif (Jrw l1.1 parts) then
    bif (Jzg) then
    bif (J1j p (Jag l1.2.1 (1 : Int))) then
    bif (Jrw (Jby (Jag l1.1 n) (1 : Int)) ([(J1k p (Jag l1.2.1 (1 : Int)))] : List (List UInt8))) then
    bif (Jzg) then
    ret ((Jag l1.1 n), ((Jag l1.2.1 (1 : Int)), (l1.2.2.1, ()))) ([(Jrx l1.1 parts), (Jzh), (Jrx (Jby (Jag l1.1 n) (1 : Int)) ([(J1k p (Jag l1.2.1 (1 : Int)))] : List (List UInt8))), (Jzh)] : List (Int × (Int × ((List (List UInt8)) × Unit)))) (0 : Int)
    else fail
    else fail
    else fail
    else fail
    else fail) b 0 ((Jco b.length + 1 : Nat) : Int) l K9q (by omega) (Jco b.length) (Jco b.length) 0 (by omega) (by omega)
  refine hw.trans ?_
  simp only [ha1, ha2, ha3]
  rw [hE]; rfl⟩
end Go.AI
