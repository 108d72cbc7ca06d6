/- Texts of the proof, joined: TransP. Names of our own are shortened by program; the long ones stand in wip/. -/
import Derived.Test.YtcdajbmgoafnkaaGreatQwG
import Derived.Test.YtcdajbmgoafnkaaGreatQwTransT
import Derived.Test.YtcdajbmgoafnkaaGreatQwWireP2
import Derived.Test.YtcdajbmgoafnkaaGreatQwDiskP
namespace Go.AI
open Go
theorem Jbg {X : Type} {c : Bool} {a b x : X} (h1 : c = true) (h2 : a = x) : (bif c then a else b) = x := (Jaa h1 _ _).trans h2
theorem Jdg {X : Type} {c : Bool} {a b x : X} (h1 : c = false) (h2 : b = x) : (bif c then a else b) = x := (Jab h1 _ _).trans h2
abbrev rc0 : Rec := ((0 : Int), (([] : List UInt8), ()))
theorem K0j {r : Rec} : Jju r = 0 ↔ (1 ≤ r.1 ∧ r.1 ≤ 4) ∧ r.2.1.length ≤ 65536 := by
 unfold Jju
 by_cases c : 1 ≤ r.1 ∧ r.1 ≤ 4
 ·rw [if_pos c]
  by_cases c2 : r.2.1.length > 65536
  ·rw [if_pos c2]; exact ⟨(fun h => nomatch h), fun h => by omega⟩
  ·rw [if_neg c2]; exact ⟨fun _ => ⟨c, by omega⟩, fun _ => rfl⟩
 ·rw [if_neg c]; exact ⟨(fun h => nomatch h), fun h => absurd h.1 c⟩
theorem K6p (r : Rec) (l : List Rec) : Kw2 (r :: l) = if Jju r = 0 then Kw2 l else Jju r := by rw [Kw2]
theorem Kx0 {X : Type} (F : Nat) (fail : X) (ex0 ex1 : Int → List Rec → Int → Int → X) (K : Int → X) (l : List Rec) (hl : l.length ≤ 1024) (h0 : ∀ e a i, ex0 e l a i = K e) (h1 : ∀ e a i, ex1 e l a i = K 0) : ∀ (j m i : Nat) (s2 : Int), i + j = l.length → j ≤ m →
  Jlq F fail ex0 ex1 (m + 1) s2 l (l.length : Nat) i = K (Kw2 (l.drop i))
 | 0, m, i, s2, hi, _ => by
  rw [Jlq, Jyz, Jab (ff (by omega)), h1, List.drop_eq_nil_of_le (by omega)]; rfl
 | j + 1, 0, i, _, _, hm => absurd hm (by omega)
 | j + 1, m + 1, i, s2, hi, hm => by
  have ih := Kx0 F fail ex0 ex1 K l hl h0 h1 j m (i + 1) s2 (by omega) (by omega)
  rw [Jlq, Jyz, Int.toNat_natCast, Jaa (tt (by omega)), Jaa (tt2 (by omega) (by omega)), Jcu rc0 (show i < l.length by omega), K6p, Jak (by omega) (by omega), J0e]
  show _ = K (if Jju (l.getD i rc0) = 0 then _ else _)
  change (bif decide ((l.getD i rc0).1 ≥ 1) then _ else _) = _
  generalize l.getD i rc0 = r
  by_cases c1 : r.1 ≥ 1
  ·rw [Jaa (tt c1)]
   by_cases c2 : r.1 ≤ 4
   ·rw [tt c2, Jab (c := !true) rfl]
    by_cases c3 : (r.2.1.length : Int) > 65536
    ·rw [Jaa (tt c3), h0]
     have : Jju r = 5 := by unfold Jju; rw [if_pos ⟨c1, c2⟩, if_pos (by omega)]
     rw [this]; rfl
    ·rw [Jab (ff c3), if_pos (K0j.2 ⟨⟨c1, c2⟩, by omega⟩)]
     exact ih
   ·rw [ff c2, Jaa (c := !false) rfl, h0]
    have : Jju r = 1 := by unfold Jju; rw [if_neg (fun h => c2 h.2)]
    rw [this]; rfl
  ·rw [Jab (ff c1), h0]
   have : Jju r = 1 := by unfold Jju; rw [if_neg (fun h => c1 h.1)]
   rw [this]; rfl
theorem Kmf (l : List Rec) (_ : Jne l = true) : ∃ F, ∀ {X : Type} (fail : X) (ret : Int → X), K4z F l fail ret = ret (Jjj l) := ⟨l.length + 1, fun fail ret => by
 unfold K4z Jjj Kct
 by_cases c : l.length > 1024
 ·rw [Jaa (tt (by omega)), if_pos c]
 ·rw [Jab (ff (by omega)), if_neg c]
  refine (Kx0 (l.length + 1) fail _ _ ret l (by omega) (fun _ _ _ => rfl) (fun _ _ _ => rfl) l.length l.length 0 0 (by omega) (by omega)).trans ?_
  rw [List.drop_zero]⟩
theorem Qb1 {l : List Rec} (h : Kct l = 0) : l.length ≤ 1024 ∧ Kw2 l = 0 := by
 unfold Kct at h
 by_cases c : l.length > 1024
 ·rw [if_pos c] at h; cases h
 ·rw [if_neg c] at h; exact ⟨by omega, h⟩
theorem K6q {r : Rec} (h : (1 ≤ r.1 ∧ r.1 ≤ 4) ∧ r.2.1.length ≤ 65536) : (Jka r).length ≤ 65552 := by
 have h1 := Jfp (Jfk r.1)
 have h2 := Jfp (Jfk r.2.1.length)
 unfold Jka
 rw [List.length_append, List.length_append]; omega
theorem Kmg : ∀ {l : List Rec}, (∀ r, r ∈ l → (1 ≤ r.1 ∧ r.1 ≤ 4) ∧ r.2.1.length ≤ 65536) → (l.flatMap Jka).length ≤ 65552 * l.length
 | [], _ => Nat.zero_le _
 | r :: l, h => by
  have h1 := K6q (h r List.mem_cons_self)
  have h2 := Kmg (l := l) fun x hx => h x (List.mem_cons_of_mem _ hx)
  rw [List.flatMap_cons, List.length_append, List.length_cons]; omega
theorem K0k (l : List Rec) (i : Nat) (h : i < l.length) : (l.take (i + 1)).flatMap Jka = (l.take i).flatMap Jka ++ Jka (l.getD i rc0) := by
 rw [Jdx l i rc0 h, List.flatMap_append]; simp
def Jse (l : List Rec) (i : Nat) : List UInt8 := J3m (Jfk l.length) ++ (l.take i).flatMap Jka
theorem K0l (l : List Rec) : Jse l 0 = J3m (Jfk l.length) := by unfold Jse; simp
theorem K6r (l : List Rec) : Jse l l.length = Jr2 l := by unfold Jse Jr2; rw [List.take_length]
theorem K0m (l : List Rec) (i : Nat) (h : i < l.length) : Jse l (i + 1) = Jse l i ++ Jka (l.getD i rc0) := by unfold Jse; rw [K0k l i h, List.append_assoc]
theorem K6s {l : List Rec} (hl : l.length ≤ 1024) (h : Kw2 l = 0) (i : Nat) : (Jse l i).length ≤ 68000000 := by
 have h1 := Jfp (Jfk l.length)
 have h2 := Kmg (l := l.take i) fun r hr => J46 h r (List.mem_of_mem_take hr)
 have h3 : (l.take i).length ≤ l.length := by rw [List.length_take]; omega
 unfold Jse
 rw [List.length_append]; omega
theorem K6t (b : List UInt8) (r : Rec) : b ++ J3m (Jfk r.1) ++ J3m (Jfk r.2.1.length) ++ r.2.1 = b ++ Jka r := by
 unfold Jka; rw [List.append_assoc, List.append_assoc]
theorem Qgl {l : List Rec} (h : Kw2 l = 0) {i : Nat} (hi : i < l.length) : (1 ≤ (l.getD i rc0).1 ∧ (l.getD i rc0).1 ≤ 4) ∧ (l.getD i rc0).2.1.length ≤ 65536 := by
 rw [Jd8 hi]; exact J46 h _ (List.getElem_mem _)
theorem Khg (b : List UInt8) (x : Int) (h : Jps b 51 x = true) : ∃ F, ∀ {X : Type} (fail : X) (ret : List UInt8 → X), Krw F b x fail ret = ret (Jkb b 51 x) := ⟨0, fun fail ret => by
 unfold Krw
 rw [Jaa (c := Jf9 b x) h]; rfl⟩
theorem Khh (b : List UInt8) (x : List UInt8) (h : Jwk b 53 x = true) : ∃ F, ∀ {X : Type} (fail : X) (ret : List UInt8 → X), Krx F b x fail ret = ret (Jr3 b 53 x) := ⟨0, fun fail ret => by
 unfold Krx
 rw [Jaa (c := Jeg b x) h]; rfl⟩
theorem Kx1 {X : Type} (F : Nat) (fail : X) (ex0 : List Rec → Int → Int → List UInt8 → X) (K : List UInt8 → X) (l : List Rec) (hl : l.length ≤ 1024) (hg : Kw2 l = 0) (h0 : ∀ a i b, ex0 l a i b = K b) : ∀ (j m i : Nat), i + j = l.length → j ≤ m →
  Jfo F fail ex0 (m + 1) l (l.length : Nat) i (Jse l i) = K (Jr2 l)
 | 0, m, i, hi, _ => by
  rw [Jfo, Juh, Jab (ff (by omega)), h0, show i = l.length by omega, K6r]
 | j + 1, 0, i, _, hm => absurd hm (by omega)
 | j + 1, m + 1, i, hi, hm => by
  have ih := Kx1 F fail ex0 K l hl hg h0 j m (i + 1) (by omega) (by omega)
  have hr := Qgl hg (show i < l.length by omega)
  have hb := K6s hl hg i
  have hs := K0m l i (by omega)
  rw [Jfo, Juh, Int.toNat_natCast, Jak (by omega) (by omega), J0e]
  change (bif _ then bif _ then bif Jps (Jse l i) _ (l.getD i rc0).1 then bif Jwk (Jkb (Jse l i) _ (l.getD i rc0).1) _ (l.getD i rc0).2.1 then Jfo F fail ex0 (m + 1) l _ _ (Jr3 (Jkb (Jse l i) _ (l.getD i rc0).1) _ (l.getD i rc0).2.1) else _ else _ else _ else _) = _
  generalize l.getD i rc0 = r at hr hs
  have e : ∀ a b, Jr3 (Jkb (Jse l i) a r.1) b r.2.1 = Jse l (i + 1) := fun _ _ => (K6t _ _).trans hs.symm
  have h1 := Jfp (Jfk r.1)
  refine Jbg (tt (by omega)) (Jbg (tt2 (by omega) (by omega)) (Jbg (tt (by omega)) (Jbg (tt ?_) ?_)))
  ·show (Jse l i ++ J3m (Jfk r.1)).length + r.2.1.length ≤ _
   rw [List.length_append]; omega
  ·rw [e]; exact ih
theorem K6u {l : List Rec} (h : Kcu l = 0) : Qh2 l = Jr2 l := if_pos h
theorem Khi (l : List Rec) (_ : Jr4 l = true) : ∃ F, ∀ {X : Type} (fail : X) (ret : List UInt8 → Int → X), Kry F l fail ret = ret (Jcm l) (Ji2 l) := ⟨l.length + 1, fun fail ret => by
 unfold Kry Jcm Ji2 Qh2
 rw [Jaa (c := Jne l) rfl, show Jjj l = Kct l from rfl]
 by_cases c : Kct l = 0
 ·obtain ⟨hl, hg⟩ := Qb1 c
  rw [Jab (Jgh c), Jaa (c := Jps _ _ _) (tt ⟨by simp, by omega, by omega⟩)]
  have e0 : ∀ a, Jkb ([] : List UInt8) a ((l.length : Nat) : Int) = Jse l 0 := fun _ => by rw [K0l]; rfl
  rw [e0]
  refine (Kx1 (l.length + 1) fail _ (fun b => bif decide ((b.length : Int) > 65536) then ret [] 5 else ret b 0) l hl hg (fun _ _ _ => rfl) l.length l.length 0 (by omega) (by omega)).trans ?_
  unfold Kcu
  rw [if_pos c]
  by_cases c2 : (Jr2 l).length > 65536
  ·rw [Jaa (tt (by omega)), if_pos c2, if_neg (by decide)]
  ·rw [Jab (ff (by omega)), if_neg c2, if_pos rfl]
 ·have : Kcu l = Kct l := if_neg c
  rw [Jaa (Jj8 c), this, if_neg c]⟩
theorem Khj {b : List UInt8} : (Jay b).2.1.length ≤ b.length := by
 have h := Jy4 b
 unfold Jay
 simp only
 split
 ·simp
 ·split
  ·simp
  ·rw [List.length_drop]; omega
theorem Kx2 {X : Type} (F : Nat) (fail : X) (ex0 ex1 : Int → Int → Int → List UInt8 → List Rec → X) (K : List Rec → Int → X) (n : Nat) (hn : n ≤ 1024) (h0 : ∀ e i b out, ex0 e n i b out = K [] e) (h1 : ∀ e i b out, ex1 e n i b out = if b.length = 0 then K out 0 else K [] 3) : ∀ (j m i : Nat) (s3 : Int) (b : List UInt8) (out : List Rec), i + j = n → j ≤ m → b.length ≤ 65536 → out.length ≤ i →
  Jex F fail ex0 ex1 (m + 1) s3 n i b out = K (Krg j b out).1 (Krg j b out).2
 | 0, m, i, s3, b, out, hi, _, _, _ => by
  rw [Jex, Jui, Jab (ff (by omega)), h1, Krg]
  by_cases c : b.length = 0
  ·rw [if_pos c, if_pos c]
  ·rw [if_neg c, if_neg c]
 | j + 1, 0, i, _, _, _, _, hm, _, _ => absurd hm (by omega)
 | j + 1, m + 1, i, s3, b, out, hi, hm, hb, ho => by
  have ih := fun s3 b out => Kx2 F fail ex0 ex1 K n hn h0 h1 j m (i + 1) s3 b out (by omega) (by omega)
  have hN := Jmb b
  rw [Jex, Jui, Jak (by omega) (by omega), J0e, Jaa (tt (by omega)), Jaa (c := Jef b) (tt (by omega)), Krg]
  rw [show Jbb b = (Jbc b).2.2 from rfl, show Jam b = (Jbc b).2.1 from rfl, show Jao b = (Jbc b).1 from rfl]
  by_cases c1 : (Jbc b).2.2 = 0
  ·rw [Jaa (Jnv c1), Jab (Jgh c1), if_neg (by omega)]
   by_cases c2 : (Jbc b).1 ≥ 1
   ·by_cases c3 : (Jbc b).1 ≤ 4
    ·have hB := Khj (b := (Jbc b).2.1)
     rw [Jaa (tt c2), tt c3, Jab (c := !true) rfl, Jaa (c := Jfl _) (tt (by omega)), if_pos ⟨c2, c3⟩]
     rw [show Jci (Jbc b).2.1 = (Jay (Jbc b).2.1).2.2 from rfl, show Jd1 (Jbc b).2.1 = (Jay (Jbc b).2.1).2.1 from rfl, show Jd0 (Jbc b).2.1 = (Jay (Jbc b).2.1).1 from rfl]
     by_cases c4 : (Jay (Jbc b).2.1).2.2 = 0
     ·have hlen : (out ++ [((Jbc b).1, ((Jay (Jbc b).2.1).1, ()))]).length = out.length + 1 := by rw [List.length_append, List.length_singleton]
      rw [Jaa (Jnv c4), Jab (Jgh c4), if_neg (by omega), Jaa (Jcg (by omega))]
      exact ih _ _ _ (by omega) (by omega)
     ·rw [Jab (Jkj c4), Jaa (Jj8 c4), if_pos c4, h0]
    ·rw [Jaa (tt c2), ff c3, Jaa (c := !false) rfl, if_neg (fun h => c3 h.2), h0]
   ·rw [Jab (ff c2), if_neg (fun h => c2 h.1), h0]
  ·rw [Jab (Jkj c1), Jaa (Jj8 c1), if_pos c1, h0]
theorem Qgm {X : Type} (b : List UInt8) (out : List Rec) (K : List Rec → Int → X) : (bif decide ((b.length : Int) > 0) then K [] 3 else K out 0) = if b.length = 0 then K out 0 else K [] 3 := by
 by_cases c : b.length = 0
 ·rw [Jab (ff (by omega)), if_pos c]
 ·rw [Jaa (tt (by omega)), if_neg c]
theorem Khk (b : List UInt8) (_ : Jjv b = true) : ∃ F, ∀ {X : Type} (fail : X) (ret : List Rec → Int → X), Krz F b fail ret = ret (Jei b) (Jej b) := ⟨1025, fun fail ret => by
 unfold Krz Jei Jej Kah
 by_cases c : b.length > 65536
 ·rw [Jaa (tt (by omega)), if_pos c]
 have hN := Jmb b
 rw [Jab (ff (by omega)), if_neg c, Jaa (c := Jef b) (tt (by omega))]
 rw [show Jbb b = (Jbc b).2.2 from rfl, show Jam b = (Jbc b).2.1 from rfl, show Jao b = (Jbc b).1 from rfl]
 by_cases c1 : (Jbc b).2.2 = 0
 ·rw [Jaa (Jnv c1), Jab (Jgh c1), if_neg (by omega)]
  by_cases c2 : (Jbc b).1 > 1024
  ·rw [Jaa (tt c2), if_pos c2]
  ·rw [Jab (ff c2), if_neg c2]
   have hn : (Jbc b).1 = (((Jbc b).1.toNat : Nat) : Int) := by omega
   rw [hn]
   refine (Kx2 1025 fail _ _ ret _ (by omega) (fun _ _ _ _ => rfl) (fun _ _ b out => Qgm b out ret) (Jbc b).1.toNat 1024 0 0 _ _ (by omega) (by omega) (by omega) (by simp)).trans ?_
   rw [Int.toNat_natCast]
 ·rw [Jab (Jkj c1), Jaa (Jj8 c1), if_pos c1]⟩
theorem Kx3 {X : Type} (F : Nat) (fail : X) (ex0 ex1 : List Rec → Bool → Int → X) (K : Bool → X) (l : List Rec) (h0 : ∀ i, ex0 l false i = K false) (h1 : ∀ e i, ex1 l e i = K (decide ((l.length : Int) ≤ 60))) : ∀ (j m i : Nat) (s2 : Bool), i + j = 60 → j ≤ m →
  Juj F fail ex0 ex1 (m + 1) l s2 i = K (((l.drop i).take j).all (fun r => decide (r.2.1.length ≤ 300)) && decide (l.length ≤ 60))
 | 0, m, i, s2, hi, _ => by
  have e : decide ((l.length : Int) ≤ 60) = decide (l.length ≤ 60) := decide_eq_decide.2 (by omega)
  rw [Juj, Kgb, List.take_zero, List.all_nil, Bool.true_and, ← e]
  by_cases c : (i : Int) < (l.length : Int)
  ·rw [Jaa (tt c), Jab (ff (by omega)), h1]
  ·rw [Jab (ff c), h1]
 | j + 1, 0, i, _, _, hm => absurd hm (by omega)
 | j + 1, m + 1, i, s2, hi, hm => by
  have ih := Kx3 F fail ex0 ex1 K l h0 h1 j m (i + 1) s2 (by omega) (by omega)
  have e : decide ((l.length : Int) ≤ 60) = decide (l.length ≤ 60) := decide_eq_decide.2 (by omega)
  rw [Juj, Kgb, Int.toNat_natCast, Jak (by omega) (by omega), J0e]
  by_cases c : i < l.length
  ·rw [Jaa (tt (by omega)), Jaa (tt (by omega)), Jaa (tt2 (by omega) (by omega)), Jcu rc0 c, List.take_succ_cons, List.all_cons]
   change (bif decide (((l.getD i rc0).2.1.length : Int) > 300) then _ else _) = _
   generalize l.getD i rc0 = r
   by_cases c2 : (r.2.1.length : Int) > 300
   ·rw [Jaa (tt c2), h0, ff (show ¬ r.2.1.length ≤ 300 by omega), Bool.false_and, Bool.false_and]
   ·rw [Jab (ff c2), tt (show r.2.1.length ≤ 300 by omega), Bool.true_and]
    exact ih
  ·rw [Jab (ff (by omega)), h1, List.drop_eq_nil_of_le (by omega), e]; rfl
theorem K0n (l : List Rec) (_ : Kw3 l = true) : ∃ F, ∀ {X : Type} (fail : X) (ret : Bool → X), uFew F l fail ret = ret (Kcv l) := ⟨61, fun fail ret => by
 unfold uFew Kcv
 refine (Kx3 61 fail _ _ ret l (fun _ => rfl) (fun _ _ => rfl) 60 60 0 false (by omega) (by omega)).trans ?_
 unfold Qdc
 rw [List.drop_zero]
 by_cases c : l.length ≤ 60
 ·rw [List.take_of_length_le c]
 ·rw [ff c, Bool.and_false, Bool.and_false]⟩
theorem Qit {a b : Rec} : a = b ↔ a.1 = b.1 ∧ a.2.1 = b.2.1 := ⟨fun h => by rw [h]; exact ⟨rfl, rfl⟩, fun h => by
 obtain ⟨a1, a2, a3⟩ := a
 obtain ⟨b1, b2, b3⟩ := b
 obtain ⟨h1, h2⟩ := h
 cases h1; cases h2; rfl⟩
theorem Kmh {X : Type} (F : Nat) (fail : X) (ex0 ex1 : List Rec → List Rec → Bool → Int → X) (K : Bool → X) (a b : List Rec) (hab : a.length = b.length) (ha : a.length ≤ 1000000000000) (h0 : ∀ i, ex0 a b false i = K false) (h1 : ∀ e i, ex1 a b e i = K true) : ∀ (j m i : Nat) (s4 : Bool), i + j = a.length → j ≤ m →
  Jot F fail ex0 ex1 (m + 1) a b s4 i = K (decide (a.drop i = b.drop i))
 | 0, m, i, s4, hi, _ => by
  rw [Jot, J41, Jab (ff (by omega)), h1, List.drop_eq_nil_of_le (by omega), List.drop_eq_nil_of_le (by omega)]; rfl
 | j + 1, 0, i, _, _, hm => absurd hm (by omega)
 | j + 1, m + 1, i, s4, hi, hm => by
  have ih := Kmh F fail ex0 ex1 K a b hab ha h0 h1 j m (i + 1) s4 (by omega) (by omega)
  have ba : (decide ((0 : Int) ≤ (i : Int)) && decide ((i : Int) < ((a.length : Nat) : Int))) = true := tt2 (by omega) (by omega)
  have bb : (decide ((0 : Int) ≤ (i : Int)) && decide ((i : Int) < ((b.length : Nat) : Int))) = true := tt2 (by omega) (by omega)
  rw [Jot, J41, Int.toNat_natCast, Jak (by omega) (by omega), J0e, Jcu rc0 (show i < a.length by omega), Jcu rc0 (show i < b.length by omega)]
  refine Jbg (tt (by omega)) (Jbg ba (Jbg bb ?_))
  change (bif (a.getD i rc0).1 != (b.getD i rc0).1 then _ else bif _ then bif _ then bif !((a.getD i rc0).2.1 == (b.getD i rc0).2.1) then _ else _ else _ else _) = _
  generalize a.getD i rc0 = x
  generalize b.getD i rc0 = y
  by_cases c1 : x.1 = y.1
  ·rw [Jab (Jgh c1)]
   refine Jbg ba (Jbg bb ?_)
   by_cases c2 : x.2.1 = y.2.1
   ·have e : x = y := Qit.2 ⟨c1, c2⟩
    rw [show (x.2.1 == y.2.1) = true by simpa using c2, Jab (c := !true) rfl, ih]
    congr 1
    exact decide_eq_decide.2 ⟨fun h => by rw [e, h], fun h => (List.cons.inj h).2⟩
   ·rw [show (x.2.1 == y.2.1) = false by simpa using c2, Jaa (c := !false) rfl, h0, ff (fun h => c2 (by rw [(List.cons.inj h).1]))]
  ·rw [Jaa (Jj8 c1), h0, ff (fun h => c1 (by rw [(List.cons.inj h).1]))]
theorem Ks0 (a b : List Rec) (h : Kfq a b = true) : ∃ F, ∀ {X : Type} (fail : X) (ret : Bool → X), Qfj F a b fail ret = ret (J6s a b) := ⟨a.length + 1, fun fail ret => by
 simp only [Kfq, K9q, Bool.and_eq_true, decide_eq_true_eq] at h
 unfold Qfj J6s
 by_cases c : a.length = b.length
 ·rw [Jab (Jgh (by omega))]
  refine (Kmh (a.length + 1) fail _ _ ret a b c h.1 (fun _ => rfl) (fun _ _ => rfl) a.length a.length 0 false (by omega) (by omega)).trans ?_
  rw [List.drop_zero, List.drop_zero]
 ·rw [Jaa (Jj8 (by omega)), ff (fun h => c (by rw [h]))]⟩
theorem Kc9 {X : Type} (F : Nat) (fail : X) (ex0 ex1 : List (List Rec) → List (List Rec) → Bool → Int → X) (K : Bool → X) (a b : List (List Rec)) (hab : a.length = b.length) (ha : K18 a = true) (hb : K18 b = true) (h0 : ∀ i, ex0 a b false i = K false) (h1 : ∀ e i, ex1 a b e i = K true) : ∀ (j m i : Nat) (s4 : Bool), i + j = a.length → j ≤ m →
  Jhy F fail ex0 ex1 (m + 1) a b s4 i = K (decide (a.drop i = b.drop i))
 | 0, m, i, s4, hi, _ => by
  rw [Jhy, Jp8, Jab (ff (by omega)), h1, List.drop_eq_nil_of_le (by omega), List.drop_eq_nil_of_le (by omega)]; rfl
 | j + 1, 0, i, _, _, hm => absurd hm (by omega)
 | j + 1, m + 1, i, s4, hi, hm => by
  have ih := Kc9 F fail ex0 ex1 K a b hab ha hb h0 h1 j m (i + 1) s4 (by omega) (by omega)
  simp only [K18, Bool.and_eq_true, decide_eq_true_eq] at ha hb
  have ba : (decide ((0 : Int) ≤ (i : Int)) && decide ((i : Int) < ((a.length : Nat) : Int))) = true := tt2 (by omega) (by omega)
  have bb : (decide ((0 : Int) ≤ (i : Int)) && decide ((i : Int) < ((b.length : Nat) : Int))) = true := tt2 (by omega) (by omega)
  have pa : K9q (a.getD i []) = true := by rw [Jd8 (show i < a.length by omega)]; exact List.all_eq_true.1 ha.2 _ (List.getElem_mem _)
  have pb : K9q (b.getD i []) = true := by rw [Jd8 (show i < b.length by omega)]; exact List.all_eq_true.1 hb.2 _ (List.getElem_mem _)
  rw [Jhy, Jp8, Int.toNat_natCast, Jak (by omega) (by omega), J0e, Jcu ([] : List Rec) (show i < a.length by omega), Jcu ([] : List Rec) (show i < b.length by omega)]
  refine Jbg (tt (by omega)) (Jbg ba (Jbg bb ?_))
  generalize a.getD i [] = x at pa
  generalize b.getD i [] = y at pb
  refine Jbg (show (K9q x && K9q y) = true by rw [pa, pb]; rfl) ?_
  rw [show J6s x y = decide (x = y) from rfl]
  by_cases c : x = y
  ·rw [tt c, Jab (c := !true) rfl, ih]
   congr 1
   exact decide_eq_decide.2 ⟨fun h => by rw [c, h], fun h => (List.cons.inj h).2⟩
  ·rw [ff c, Jaa (c := !false) rfl, h0, ff (fun h => c (List.cons.inj h).1)]
theorem Kam (a b : List (List Rec)) (h : Jld a b = true) : ∃ F, ∀ {X : Type} (fail : X) (ret : Bool → X), Kgc F a b fail ret = ret (Jle a b) := ⟨a.length + 1, fun fail ret => by
 rw [Jld, Bool.and_eq_true] at h
 unfold Kgc Jle
 by_cases c : a.length = b.length
 ·rw [Jab (Jgh (by omega))]
  refine (Kc9 (a.length + 1) fail _ _ ret a b c h.1 h.2 (fun _ => rfl) (fun _ _ => rfl) a.length a.length 0 false (by omega) (by omega)).trans ?_
  rw [List.drop_zero, List.drop_zero]
 ·rw [Jaa (Jj8 (by omega)), ff (fun h => c (by rw [h]))]⟩
end Go.AI
