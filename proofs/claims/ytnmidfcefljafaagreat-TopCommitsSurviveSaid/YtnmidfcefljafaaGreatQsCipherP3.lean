/- Texts of the proof, joined: CipherP3. Names of our own are shortened by program; the long ones stand in wip/. -/
import Derived.Test.YtnmidfcefljafaaGreatQsCipherP2
namespace Go.AI
open Go
def Klr (n k : Nat) : List UInt8 := (List.range k).map fun i => UInt8.ofNat (n / 2 ^ (8 * i) % 256)
theorem J28 (n k : Nat) : (Klr n k).length = k := by simp [Klr]
theorem J78 (n k : Nat) : Klr n (k + 1) = Klr n k ++ [UInt8.ofNat (n / 2 ^ (8 * k) % 256)] := by
 unfold Klr; rw [List.range_succ, List.map_append]; rfl
theorem Kxk (a b : List UInt8) (i : Nat) (ha : i < a.length) (hb : i < b.length) : (K5i a b).getD i 0 = J5k (a.getD i 0) (b.getD i 0) := by
 unfold K5i
 rw [Jjt (by rw [List.length_zipWith]; omega), Jjt ha, Jjt hb, List.getElem_zipWith]
theorem Kls (key : List UInt8) (nonce : Int) : ∀ (n c : Nat) (b : List UInt8), b.length ≤ 64 * n → (K7h key nonce n c b).length = b.length ∧ ∀ p, p < b.length → (K7h key nonce n c b).getD p 0 = J5k (b.getD p 0) ((K0e key nonce ((c + p / 64 : Nat) : Int)).getD (p % 64) 0)
  | 0, c, b, h => ⟨by have : b.length = 0 := by omega
                      rw [this]; rfl, fun p hp => absurd hp (by omega)⟩
  | n + 1, c, b, h => by
    have hk := Kqc key nonce c
    obtain ⟨l, g⟩ := Kls key nonce n (c + 1) (b.drop 64) (by rw [List.length_drop]; omega)
    have lx : (K5i (b.take 64) (K0e key nonce c)).length = min 64 b.length := by
      unfold K5i; rw [List.length_zipWith, List.length_take, hk]; omega
    refine ⟨?_, fun p hp => ?_⟩
    · show (K5i _ _ ++ K7h key nonce n (c + 1) (b.drop 64)).length = _
      rw [List.length_append, lx, l, List.length_drop]; omega
    · show (K5i (b.take 64) (K0e key nonce c) ++ K7h key nonce n (c + 1) (b.drop 64)).getD p 0 = _
      rw [List.getD_eq_getElem?_getD]
      by_cases hp64 : p < 64
      · rw [List.getElem?_append_left (by omega), ← List.getD_eq_getElem?_getD, Kxk _ _ _ (by rw [List.length_take]; omega) (by omega), Jqd _ _ _ _ hp64, show c + p / 64 = c by omega, Nat.mod_eq_of_lt hp64]
      · rw [List.getElem?_append_right (by omega), ← List.getD_eq_getElem?_getD, lx, show p - min 64 b.length = p - 64 by omega, g (p - 64) (by rw [List.length_drop]; omega)]
        rw [show c + 1 + (p - 64) / 64 = c + p / 64 by omega, show (p - 64) % 64 = p % 64 by omega]
        congr 1
        simp only [List.getD_eq_getElem?_getD, List.getElem?_drop]
        rw [show 64 + (p - 64) = p by omega]
theorem Jlz (key : List UInt8) (nonce : Int) (b : List UInt8) : (Jz6 key nonce b).length = b.length := (Kls key nonce _ 1 b (by omega)).1
theorem Kbo (key : List UInt8) (nonce : Int) (b : List UInt8) (p : Nat) (h : p < b.length) : (Jz6 key nonce b).getD p 0 = J5k (b.getD p 0) ((K0e key nonce ((1 + p / 64 : Nat) : Int)).getD (p % 64) 0) := (Kls key nonce _ 1 b (by omega)).2 p h
def ovr (s b : List UInt8) (p : Nat) : List UInt8 := s.take p ++ b.drop p
theorem K6i {s b : List UInt8} (h : s.length = b.length) (p : Nat) : (ovr s b p).length = b.length := by
 unfold ovr; rw [List.length_append, List.length_take, List.length_drop]; omega
theorem K6j {s b : List UInt8} (h : s.length = b.length) (p : Nat) (hp : p < b.length) : (ovr s b p).getD p 0 = b.getD p 0 := by
 unfold ovr
 simp only [List.getD_eq_getElem?_getD]
 rw [List.getElem?_append_right (by rw [List.length_take]; omega), List.length_take, show p - min p s.length = 0 by omega, List.getElem?_drop, Nat.add_zero]
theorem K6k {s b : List UInt8} (h : s.length = b.length) (p : Nat) (hp : p < b.length) : (ovr s b p).set p (s.getD p 0) = ovr s b (p + 1) := by
 unfold ovr
 rw [List.set_append_right _ _ (by rw [List.length_take]; omega), List.length_take, show p - min p s.length = 0 by omega, Jhm s p 0 (by omega), List.append_assoc]
 congr 1
 rw [List.drop_eq_getElem_cons hp]
 rfl
theorem Kbp {s b : List UInt8} (h : s.length = b.length) (p : Nat) (hp : b.length ≤ p) : ovr s b p = s := by
 unfold ovr
 rw [List.take_of_length_le (by omega), List.drop_eq_nil_of_le hp, List.append_nil]
theorem K6l {s b : List UInt8} (h : s.length = b.length) (p : Nat) : ovr s b (min p b.length) = ovr s b p := by
 by_cases hp : p ≤ b.length
 ·rw [Nat.min_eq_left hp]
 ·rw [Nat.min_eq_right (by omega), Kbp h _ (Nat.le_refl _), Kbp h _ (by omega)]
theorem K8w {X : Type} (F : Nat) (fail : X) (ex : Nat → Nat → Int → Int → Int → List UInt8 → Int → Int → List UInt8 → List UInt8 → List UInt8 → Int → Int → X) (key : List UInt8) (nonce : Int) (b : List UInt8) (b' : List UInt8) (i n : Nat) (q s7 c s2 : Int) (hn : n ≤ 64) (hi : i % 64 = 0) (hb : i + n ≤ b.length) : ∀ (j m k : Nat), k + j = n → j ≤ m →
  Jie F fail ex (m + 1) i n (n : Nat) k q b' s7 c (ovr (Jz6 key nonce b) b (i + k)) (K0e key nonce ((1 + i / 64 : Nat) : Int)) key nonce s2 = ex i n (n : Nat) (n : Nat) q b' s7 c (ovr (Jz6 key nonce b) b (i + n)) (K0e key nonce ((1 + i / 64 : Nat) : Int)) key nonce s2
 | 0, m, k, hk, _ => by
  have e : k = n := by omega
  subst e
  rw [Jie, Jr2]
  rw [Jab (ff (by omega))]
 | j + 1, 0, k, _, hm => absurd hm (by omega)
 | j + 1, m + 1, k, hk, hm => by
  have ih := K8w F fail ex key nonce b b' i n q s7 c s2 hn hi hb j m (k + 1) (by omega) (by omega)
  have hl := Jlz key nonce b
  have hg := Kbo key nonce b (i + k) (by omega)
  rw [show 1 + (i + k) / 64 = 1 + i / 64 by omega, show (i + k) % 64 = k by omega] at hg
  rw [Jie, Jr2, Int.toNat_natCast, K6j hl (i + k) (by omega), ← hg, K6k hl (i + k) (by omega), Kqc]
  rw [Jaa (tt (by omega)), Jaa (tt2 (by omega) (by omega)), Jaa (tt2 (by omega) (by omega)), Jaa (tt2 (by omega) (by omega)), Jar (by omega) (by omega)]
  exact ih
theorem K8x {X : Type} (fail : X) (ex : Int → List UInt8 → Int → List UInt8 → Int → Int → List UInt8 → Int → X) (key : List UInt8) (nonce : Int) (hr : inR nonce = true) (b b' : List UInt8) (s7 : Int) (hb : b.length ≤ 65536) : ∀ (j m k : Nat), b.length ≤ 64 * (k + j) → j ≤ m →
  ∃ i c, Jgi 2000 fail ex (m + 1) (64 * k : Nat) b' s7 key nonce (1 + k : Nat) (ovr (Jz6 key nonce b) b (64 * k)) 64 = ex i b' s7 key nonce c (Jz6 key nonce b) 64
 | 0, m, k, hk, _ => by
  have hl := Jlz key nonce b
  refine ⟨((64 * k : Nat) : Int), ((1 + k : Nat) : Int), ?_⟩
  rw [Jgi, Jmt]
  rw [Kbp hl _ (by omega), hl, Jab (ff (by omega))]
 | j + 1, 0, k, _, hm => absurd hm (by omega)
 | j + 1, m + 1, k, hk, hm => by
  have hl := Jlz key nonce b
  have ho := K6i hl (64 * k)
  by_cases hlt : 64 * k < b.length
  ·obtain ⟨i, c, ih⟩ := K8x fail ex key nonce hr b b' s7 hb j m (k + 1) (by omega) (by omega)
   refine ⟨i, c, ?_⟩
   have emin : J97 64 ((b.length - 64 * k : Nat) : Int) = ((min 64 (b.length - 64 * k) : Nat) : Int) := by rw [Kv2]; omega
   have eadd : Jat ((64 * k : Nat) : Int) ((min 64 (b.length - 64 * k) : Nat) : Int) = ((64 * k + min 64 (b.length - 64 * k) : Nat) : Int) := by rw [Jar (by omega) (by omega)]; omega
   rw [Jgi, Jmt, ho]
   simp only [Int.toNat_natCast, emin, eadd]
   rw [Jaa (tt (by omega)), Jaa (tt2 (by omega) (by omega)), Jaa (by rw [tt3 (by omega) (by omega) (by omega)]; exact Jl7 rfl), Jaa (c := Kph key nonce _) hr]
   rw [show 64 * k + min 64 (b.length - 64 * k) - 64 * k = min 64 (b.length - 64 * k) by omega]
   have hc : Kpi key nonce ((1 + k : Nat) : Int) = K0e key nonce ((1 + 64 * k / 64 : Nat) : Int) := by rw [show 64 * k / 64 = k by omega]; rfl
   rw [hc]
   refine (K8w 2000 fail _ key nonce b b' (64 * k) (min 64 (b.length - 64 * k)) _ s7 _ 64 (by omega) (by omega) (by omega) (min 64 (b.length - 64 * k)) 1999 0 (by omega) (by omega)).trans ?_
   rw [show 64 * k + min 64 (b.length - 64 * k) = min (64 * (k + 1)) b.length by omega, K6l hl, show Jat ((64 * k : Nat) : Int) 64 = ((64 * (k + 1) : Nat) : Int) by rw [Jar (by omega) (by omega)]; omega, show Jat ((1 + k : Nat) : Int) 1 = ((1 + (k + 1) : Nat) : Int) by rw [Jar (by omega) (by omega)]; omega]
   exact ih
  ·refine ⟨((64 * k : Nat) : Int), ((1 + k : Nat) : Int), ?_⟩
   rw [Jgi, Jmt]
   rw [Kbp hl _ (by omega), hl, Jab (ff (by omega))]
theorem Ksd (nonce : Int) (b : List UInt8) : ((b.length : Int) > 65536 ∧ K0f nonce b = 5) ∨ (¬ (b.length : Int) > 65536 ∧ inR nonce = false ∧ K0f nonce b = 2) ∨ (¬ (b.length : Int) > 65536 ∧ inR nonce = true ∧ K0f nonce b = 0) := by
 unfold K0f
 by_cases h : (b.length : Int) > 65536
 ·exact .inl ⟨h, if_pos h⟩
 ·rw [if_neg h]
  cases inR nonce with
  | false => exact .inr (.inl ⟨h, rfl, rfl⟩)
  | true => exact .inr (.inr ⟨h, rfl, rfl⟩)
theorem Kbq (key : List UInt8) (nonce : Int) (b : List UInt8) (_ : Jkr key nonce b = true) : ∃ F, ∀ {X : Type} (fail : X) (ret : List UInt8 → Int → X), Kk3 F key nonce b fail ret = ret (Jia key nonce b) (Jfz key nonce b) := ⟨2000, fun fail ret => by
 unfold Kk3 Jia Jfz Jnu strV
 rcases Ksd nonce b with ⟨h, e⟩ | ⟨h, h1, e⟩ | ⟨h, h1, e⟩ <;> rw [e]
 ·rw [Jaa (tt h), if_neg (by omega)]
 ·rw [Jab (ff h), h1, Jaa (c := !false) rfl, if_neg (by omega)]
 ·rw [Jab (ff h), h1, Jab (c := !true) rfl, if_pos rfl, Jaa (c := Jbh b) (tt (by omega))]
  obtain ⟨i, c, hx⟩ := K8x fail (fun (_ : Int) (_ : List UInt8) (_ : Int) (_ : List UInt8) (_ : Int) (_ : Int) (out : List UInt8) (_ : Int) => ret out (0 : Int)) key nonce h1 b b 0 (by omega) 1024 1999 0 (by omega) (by omega)
  exact hx⟩
end Go.AI
