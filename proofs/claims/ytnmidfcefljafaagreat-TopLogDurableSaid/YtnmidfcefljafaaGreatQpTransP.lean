/- Texts of the proof, joined: TransP. Names of our own are shortened by program; the long ones stand in wip/. -/
import Derived.Test.YtnmidfcefljafaaGreatQpG
import Derived.Test.YtnmidfcefljafaaGreatQpTransT
import Derived.Test.YtnmidfcefljafaaGreatQpWireP2
import Derived.Test.YtnmidfcefljafaaGreatQpDiskP
namespace Go.AI
open Go
theorem Jbv {X : Type} {c : Bool} {a b x : X} (h1 : c = true) (h2 : a = x) : (bif c then a else b) = x := (Jaa h1 _ _).trans h2
theorem Jmj {X : Type} {c : Bool} {a b x : X} (h1 : c = false) (h2 : b = x) : (bif c then a else b) = x := (Jab h1 _ _).trans h2
abbrev rc0 : Rec := ((0 : Int), (([] : List UInt8), ()))
theorem J9k {r : Rec} : Jhr r = 0 ↔ (1 ≤ r.1 ∧ r.1 ≤ 4) ∧ r.2.1.length ≤ 65536 := by
 unfold Jhr
 by_cases c : 1 ≤ r.1 ∧ r.1 ≤ 4
 ·rw [if_pos c]
  by_cases c2 : r.2.1.length > 65536
  ·rw [if_pos c2]; exact ⟨(fun h => nomatch h), fun h => by omega⟩
  ·rw [if_neg c2]; exact ⟨fun _ => ⟨c, by omega⟩, fun _ => rfl⟩
 ·rw [if_neg c]; exact ⟨(fun h => nomatch h), fun h => absurd h.1 c⟩
theorem Khw (r : Rec) (l : List Rec) : Ktz (r :: l) = if Jhr r = 0 then Ktz l else Jhr r := by rw [Ktz]
theorem Kr6 {X : Type} (F : Nat) (fail : X) (ex0 ex1 : Int → List Rec → Int → Int → X) (K : Int → X) (l : List Rec) (hl : l.length ≤ 1024) (h0 : ∀ e a i, ex0 e l a i = K e) (h1 : ∀ e a i, ex1 e l a i = K 0) : ∀ (j m i : Nat) (s2 : Int), i + j = l.length → j ≤ m →
  Jkk F fail ex0 ex1 (m + 1) s2 l (l.length : Nat) i = K (Ktz (l.drop i))
 | 0, m, i, s2, hi, _ => by
  rw [Jkk, Jwo, Jab (ff (by omega)), h1, List.drop_eq_nil_of_le (by omega)]; rfl
 | j + 1, 0, i, _, _, hm => absurd hm (by omega)
 | j + 1, m + 1, i, s2, hi, hm => by
  have ih := Kr6 F fail ex0 ex1 K l hl h0 h1 j m (i + 1) s2 (by omega) (by omega)
  rw [Jkk, Jwo, Int.toNat_natCast, Jaa (tt (by omega)), Jaa (tt2 (by omega) (by omega)), Jcx rc0 (show i < l.length by omega), Khw, Jao (by omega) (by omega), Jte]
  show _ = K (if Jhr (l.getD i rc0) = 0 then _ else _)
  change (bif decide ((l.getD i rc0).1 ≥ 1) then _ else _) = _
  generalize l.getD i rc0 = r
  by_cases c1 : r.1 ≥ 1
  ·rw [Jaa (tt c1)]
   by_cases c2 : r.1 ≤ 4
   ·rw [tt c2, Jab (c := !true) rfl]
    by_cases c3 : (r.2.1.length : Int) > 65536
    ·rw [Jaa (tt c3), h0]
     have : Jhr r = 5 := by unfold Jhr; rw [if_pos ⟨c1, c2⟩, if_pos (by omega)]
     rw [this]; rfl
    ·rw [Jab (ff c3), if_pos (J9k.2 ⟨⟨c1, c2⟩, by omega⟩)]
     exact ih
   ·rw [ff c2, Jaa (c := !false) rfl, h0]
    have : Jhr r = 1 := by unfold Jhr; rw [if_neg (fun h => c2 h.2)]
    rw [this]; rfl
  ·rw [Jab (ff c1), h0]
   have : Jhr r = 1 := by unfold Jhr; rw [if_neg (fun h => c1 h.1)]
   rw [this]; rfl
theorem Khx (l : List Rec) (_ : Jr8 l = true) : ∃ F, ∀ {X : Type} (fail : X) (ret : Int → X), Kyj F l fail ret = ret (Jl5 l) := ⟨l.length + 1, fun fail ret => by
 unfold Kyj Jl5 Ke4
 by_cases c : l.length > 1024
 ·rw [Jaa (tt (by omega)), if_pos c]
 ·rw [Jab (ff (by omega)), if_neg c]
  refine (Kr6 (l.length + 1) fail _ _ ret l (by omega) (fun _ _ _ => rfl) (fun _ _ _ => rfl) l.length l.length 0 0 (by omega) (by omega)).trans ?_
  rw [List.drop_zero]⟩
theorem Knl (n : Int) : ∃ F, ∀ {X : Type} (fail : X) (ret : Int → X), K7t F n fail ret = ret (Jqm n) := ⟨0, fun fail ret => by
 unfold K7t Jqm
 by_cases c1 : n < 1
 ·rw [Jaa (tt c1), if_neg (by omega)]
 by_cases c2 : n > 4
 ·rw [Jab (ff c1), Jaa (tt c2), if_neg (by omega)]
 ·rw [Jab (ff c1), Jab (ff c2), if_pos (by omega)]⟩
theorem Khy {X : Type} (F : Nat) (fail : X) (ex0 ex1 : List Rec → Int → Int → X) (K : Int → X) (l : List Rec) (hl : l.length ≤ 1024) (h0 : ∀ e i, ex0 l e i = K e) (h1 : ∀ e i, ex1 l e i = K 0) : ∀ (j m i : Nat) (s2 : Int), i + j = l.length → j ≤ m →
  Jkl F fail ex0 ex1 (m + 1) l s2 i = K (Ktz (l.drop i))
 | 0, m, i, s2, hi, _ => by
  rw [Jkl, Jwp, Jab (ff (by omega)), h1, List.drop_eq_nil_of_le (by omega)]; rfl
 | j + 1, 0, i, _, _, hm => absurd hm (by omega)
 | j + 1, m + 1, i, s2, hi, hm => by
  have ih := Khy F fail ex0 ex1 K l hl h0 h1 j m (i + 1) s2 (by omega) (by omega)
  rw [Jkl, Jwp, Int.toNat_natCast, Jaa (tt (by omega)), Jaa (tt2 (by omega) (by omega)), Jcx rc0 (show i < l.length by omega), Khw, Jao (by omega) (by omega), Jte]
  change (bif Jqm (l.getD i rc0).1 != 0 then _ else _) = _
  generalize l.getD i rc0 = r
  by_cases c1 : 1 ≤ r.1 ∧ r.1 ≤ 4
  ·have e : Jqm r.1 = 0 := if_pos c1
   rw [Jab (Jgi e), Jaa (tt2 (by omega) (by omega))]
   by_cases c3 : (r.2.1.length : Int) > 65536
   ·rw [Jaa (tt c3), h0]
    have : Jhr r = 5 := by unfold Jhr; rw [if_pos c1, if_pos (by omega)]
    rw [this]; rfl
   ·rw [Jab (ff c3), if_pos (J9k.2 ⟨c1, by omega⟩)]
    exact ih
  ·have e : Jqm r.1 = 1 := if_neg c1
   rw [e, Jaa (c := (1 : Int) != 0) rfl, h0]
   have : Jhr r = 1 := by unfold Jhr; rw [if_neg c1]
   rw [this]; rfl
theorem Khz (l : List Rec) (_ : J14 l = true) : ∃ F, ∀ {X : Type} (fail : X) (ret : Int → X), Kyk F l fail ret = ret (Joe l) := ⟨l.length + 1, fun fail ret => by
 unfold Kyk Joe Ke4
 by_cases c : l.length > 1024
 ·rw [Jaa (tt (by omega)), if_pos c]
 ·rw [Jab (ff (by omega)), if_neg c]
  refine (Khy (l.length + 1) fail _ _ ret l (by omega) (fun _ _ => rfl) (fun _ _ => rfl) l.length l.length 0 0 (by omega) (by omega)).trans ?_
  rw [List.drop_zero]⟩
theorem Kr7 {l : List Rec} (h : Ke4 l = 0) : l.length ≤ 1024 ∧ Ktz l = 0 := by
 unfold Ke4 at h
 by_cases c : l.length > 1024
 ·rw [if_pos c] at h; cases h
 ·rw [if_neg c] at h; exact ⟨by omega, h⟩
theorem Kzz {r : Rec} (h : (1 ≤ r.1 ∧ r.1 ≤ 4) ∧ r.2.1.length ≤ 65536) : (Jmh r).length ≤ 65552 := by
 have h1 := Jfm (Jfy r.1)
 have h2 := Jfm (Jfy r.2.1.length)
 unfold Jmh
 rw [List.length_append, List.length_append]; omega
theorem Kh0 : ∀ {l : List Rec}, (∀ r, r ∈ l → (1 ≤ r.1 ∧ r.1 ≤ 4) ∧ r.2.1.length ≤ 65536) → (l.flatMap Jmh).length ≤ 65552 * l.length
 | [], _ => Nat.zero_le _
 | r :: l, h => by
  have h1 := Kzz (h r List.mem_cons_self)
  have h2 := Kh0 (l := l) fun x hx => h x (List.mem_cons_of_mem _ hx)
  rw [List.flatMap_cons, List.length_append, List.length_cons]; omega
theorem Kuk (l : List Rec) (i : Nat) (h : i < l.length) : (l.take (i + 1)).flatMap Jmh = (l.take i).flatMap Jmh ++ Jmh (l.getD i rc0) := by
 rw [Jhm l i rc0 h, List.flatMap_append]; simp
def Jqt (l : List Rec) (i : Nat) : List UInt8 := J6z (Jfy l.length) ++ (l.take i).flatMap Jmh
theorem Kul (l : List Rec) : Jqt l 0 = J6z (Jfy l.length) := by unfold Jqt; simp
theorem Kz0 (l : List Rec) : Jqt l l.length = Jyk l := by unfold Jqt Jyk; rw [List.take_length]
theorem Kum (l : List Rec) (i : Nat) (h : i < l.length) : Jqt l (i + 1) = Jqt l i ++ Jmh (l.getD i rc0) := by unfold Jqt; rw [Kuk l i h, List.append_assoc]
theorem Kz1 {l : List Rec} (hl : l.length ≤ 1024) (h : Ktz l = 0) (i : Nat) : (Jqt l i).length ≤ 68000000 := by
 have h1 := Jfm (Jfy l.length)
 have h2 := Kh0 (l := l.take i) fun r hr => J2f h r (List.mem_of_mem_take hr)
 have h3 : (l.take i).length ≤ l.length := by rw [List.length_take]; omega
 unfold Jqt
 rw [List.length_append]; omega
theorem Kz2 (b : List UInt8) (r : Rec) : b ++ J6z (Jfy r.1) ++ J6z (Jfy r.2.1.length) ++ r.2.1 = b ++ Jmh r := by
 unfold Jmh; rw [List.append_assoc, List.append_assoc]
theorem K8q {l : List Rec} (h : Ktz l = 0) {i : Nat} (hi : i < l.length) : (1 ≤ (l.getD i rc0).1 ∧ (l.getD i rc0).1 ≤ 4) ∧ (l.getD i rc0).2.1.length ≤ 65536 := by
 rw [Jdx hi]; exact J2f h _ (List.getElem_mem _)
theorem Kda (b : List UInt8) (x : Int) (h : Jof b 94 x = true) : ∃ F, ∀ {X : Type} (fail : X) (ret : List UInt8 → X), Kmh F b x fail ret = ret (Jjc b 94 x) := ⟨0, fun fail ret => by
 unfold Kmh
 rw [Jaa (c := Jfz b x) h]; rfl⟩
theorem Kdb (b : List UInt8) (x : List UInt8) (h : Jug b 96 x = true) : ∃ F, ∀ {X : Type} (fail : X) (ret : List UInt8 → X), Kmi F b x fail ret = ret (Jqn b 96 x) := ⟨0, fun fail ret => by
 unfold Kmi
 rw [Jaa (c := Jej b x) h]; rfl⟩
theorem Kr8 {X : Type} (F : Nat) (fail : X) (ex0 : List Rec → Int → Int → List UInt8 → X) (K : List UInt8 → X) (l : List Rec) (hl : l.length ≤ 1024) (hg : Ktz l = 0) (h0 : ∀ a i b, ex0 l a i b = K b) : ∀ (j m i : Nat), i + j = l.length → j ≤ m →
  Jfl F fail ex0 (m + 1) l (l.length : Nat) i (Jqt l i) = K (Jyk l)
 | 0, m, i, hi, _ => by
  rw [Jfl, Jsj, Jab (ff (by omega)), h0, show i = l.length by omega, Kz0]
 | j + 1, 0, i, _, hm => absurd hm (by omega)
 | j + 1, m + 1, i, hi, hm => by
  have ih := Kr8 F fail ex0 K l hl hg h0 j m (i + 1) (by omega) (by omega)
  have hr := K8q hg (show i < l.length by omega)
  have hb := Kz1 hl hg i
  have hs := Kum l i (by omega)
  rw [Jfl, Jsj, Int.toNat_natCast, Jao (by omega) (by omega), Jte]
  change (bif _ then bif _ then bif Jof (Jqt l i) _ (l.getD i rc0).1 then bif Jug (Jjc (Jqt l i) _ (l.getD i rc0).1) _ (l.getD i rc0).2.1 then Jfl F fail ex0 (m + 1) l _ _ (Jqn (Jjc (Jqt l i) _ (l.getD i rc0).1) _ (l.getD i rc0).2.1) else _ else _ else _ else _) = _
  generalize l.getD i rc0 = r at hr hs
  have e : ∀ a b, Jqn (Jjc (Jqt l i) a r.1) b r.2.1 = Jqt l (i + 1) := fun _ _ => (Kz2 _ _).trans hs.symm
  have h1 := Jfm (Jfy r.1)
  refine Jbv (tt (by omega)) (Jbv (tt2 (by omega) (by omega)) (Jbv (tt (by omega)) (Jbv (tt ?_) ?_)))
  ·show (Jqt l i ++ J6z (Jfy r.1)).length + r.2.1.length ≤ _
   rw [List.length_append]; omega
  ·rw [e]; exact ih
theorem K8r {l : List Rec} (h : Ke5 l = 0) : encV l = Jyk l := if_pos h
theorem Kdc (l : List Rec) (_ : Jwd l = true) : ∃ F, ∀ {X : Type} (fail : X) (ret : List UInt8 → Int → X), Kmj F l fail ret = ret (Jc1 l) (Jkb l) := ⟨l.length + 1, fun fail ret => by
 unfold Kmj Jc1 Jkb encV
 rw [Jaa (c := Jr8 l) rfl, show Jl5 l = Ke4 l from rfl]
 by_cases c : Ke4 l = 0
 ·obtain ⟨hl, hg⟩ := Kr7 c
  rw [Jab (Jgi c), Jaa (c := Jof _ _ _) (tt ⟨by simp, by omega, by omega⟩)]
  have e0 : ∀ a, Jjc ([] : List UInt8) a ((l.length : Nat) : Int) = Jqt l 0 := fun _ => by rw [Kul]; rfl
  rw [e0]
  refine (Kr8 (l.length + 1) fail _ (fun b => bif decide ((b.length : Int) > 65536) then ret [] 5 else ret b 0) l hl hg (fun _ _ _ => rfl) l.length l.length 0 (by omega) (by omega)).trans ?_
  unfold Ke5
  rw [if_pos c]
  by_cases c2 : (Jyk l).length > 65536
  ·rw [Jaa (tt (by omega)), if_pos c2, if_neg (by decide)]
  ·rw [Jab (ff (by omega)), if_neg c2, if_pos rfl]
 ·have : Ke5 l = Ke4 l := if_neg c
  rw [Jaa (Jh9 c), this, if_neg c]⟩
theorem Kdd {b : List UInt8} : (Jbm b).2.1.length ≤ b.length := by
 have h := Kct b
 unfold Jbm
 simp only
 split
 ·simp
 ·split
  ·simp
  ·rw [List.length_drop]; omega
theorem Kr9 {X : Type} (F : Nat) (fail : X) (ex0 ex1 : Int → Int → Int → List UInt8 → List Rec → X) (K : List Rec → Int → X) (n : Nat) (hn : n ≤ 1024) (h0 : ∀ e i b out, ex0 e n i b out = K [] e) (h1 : ∀ e i b out, ex1 e n i b out = if b.length = 0 then K out 0 else K [] 3) : ∀ (j m i : Nat) (s3 : Int) (b : List UInt8) (out : List Rec), i + j = n → j ≤ m → b.length ≤ 65536 → out.length ≤ i →
  Jev F fail ex0 ex1 (m + 1) s3 n i b out = K (Kx4 j b out).1 (Kx4 j b out).2
 | 0, m, i, s3, b, out, hi, _, _, _ => by
  rw [Jev, Jsk, Jab (ff (by omega)), h1, Kx4]
  by_cases c : b.length = 0
  ·rw [if_pos c, if_pos c]
  ·rw [if_neg c, if_neg c]
 | j + 1, 0, i, _, _, _, _, hm, _, _ => absurd hm (by omega)
 | j + 1, m + 1, i, s3, b, out, hi, hm, hb, ho => by
  have ih := fun s3 b out => Kr9 F fail ex0 ex1 K n hn h0 h1 j m (i + 1) s3 b out (by omega) (by omega)
  have hN := Jox b
  rw [Jev, Jsk, Jao (by omega) (by omega), Jte, Jaa (tt (by omega)), Jaa (c := Jei b) (tt (by omega)), Kx4]
  rw [show Ja9 b = (Jbt b).2.2 from rfl, show Jam b = (Jbt b).2.1 from rfl, show Jap b = (Jbt b).1 from rfl]
  by_cases c1 : (Jbt b).2.2 = 0
  ·rw [Jaa (Jmg c1), Jab (Jgi c1), if_neg (by omega)]
   by_cases c2 : (Jbt b).1 ≥ 1
   ·by_cases c3 : (Jbt b).1 ≤ 4
    ·have hB := Kdd (b := (Jbt b).2.1)
     rw [Jaa (tt c2), tt c3, Jab (c := !true) rfl, Jaa (c := Jfj _) (tt (by omega)), if_pos ⟨c2, c3⟩]
     rw [show Jcj (Jbt b).2.1 = (Jbm (Jbt b).2.1).2.2 from rfl, show Jd4 (Jbt b).2.1 = (Jbm (Jbt b).2.1).2.1 from rfl, show Jd3 (Jbt b).2.1 = (Jbm (Jbt b).2.1).1 from rfl]
     by_cases c4 : (Jbm (Jbt b).2.1).2.2 = 0
     ·have hlen : (out ++ [((Jbt b).1, ((Jbm (Jbt b).2.1).1, ()))]).length = out.length + 1 := by rw [List.length_append, List.length_singleton]
      rw [Jaa (Jmg c4), Jab (Jgi c4), if_neg (by omega), Jaa (Jea (by omega))]
      exact ih _ _ _ (by omega) (by omega)
     ·rw [Jab (Jmt c4), Jaa (Jh9 c4), if_pos c4, h0]
    ·rw [Jaa (tt c2), ff c3, Jaa (c := !false) rfl, if_neg (fun h => c3 h.2), h0]
   ·rw [Jab (ff c2), if_neg (fun h => c2 h.1), h0]
  ·rw [Jab (Jmt c1), Jaa (Jh9 c1), if_pos c1, h0]
theorem K8s {X : Type} (b : List UInt8) (out : List Rec) (K : List Rec → Int → X) : (bif decide ((b.length : Int) > 0) then K [] 3 else K out 0) = if b.length = 0 then K out 0 else K [] 3 := by
 by_cases c : b.length = 0
 ·rw [Jab (ff (by omega)), if_pos c]
 ·rw [Jaa (tt (by omega)), if_neg c]
theorem Kde (b : List UInt8) (_ : Ji0 b = true) : ∃ F, ∀ {X : Type} (fail : X) (ret : List Rec → Int → X), Kmk F b fail ret = ret (Jel b) (Jem b) := ⟨1025, fun fail ret => by
 unfold Kmk Jel Jem Kgq
 by_cases c : b.length > 65536
 ·rw [Jaa (tt (by omega)), if_pos c]
 have hN := Jox b
 rw [Jab (ff (by omega)), if_neg c, Jaa (c := Jei b) (tt (by omega))]
 rw [show Ja9 b = (Jbt b).2.2 from rfl, show Jam b = (Jbt b).2.1 from rfl, show Jap b = (Jbt b).1 from rfl]
 by_cases c1 : (Jbt b).2.2 = 0
 ·rw [Jaa (Jmg c1), Jab (Jgi c1), if_neg (by omega)]
  by_cases c2 : (Jbt b).1 > 1024
  ·rw [Jaa (tt c2), if_pos c2]
  ·rw [Jab (ff c2), if_neg c2]
   have hn : (Jbt b).1 = (((Jbt b).1.toNat : Nat) : Int) := by omega
   rw [hn]
   refine (Kr9 1025 fail _ _ ret _ (by omega) (fun _ _ _ _ => rfl) (fun _ _ b out => K8s b out ret) (Jbt b).1.toNat 1024 0 0 _ _ (by omega) (by omega) (by omega) (by simp)).trans ?_
   rw [Int.toNat_natCast]
 ·rw [Jab (Jmt c1), Jaa (Jh9 c1), if_pos c1]⟩
theorem Ksa {X : Type} (F : Nat) (fail : X) (ex0 ex1 : List Rec → Bool → Int → X) (K : Bool → X) (l : List Rec) (h0 : ∀ i, ex0 l false i = K false) (h1 : ∀ e i, ex1 l e i = K (decide ((l.length : Int) ≤ 60))) : ∀ (j m i : Nat) (s2 : Bool), i + j = 60 → j ≤ m →
  Jsl F fail ex0 ex1 (m + 1) l s2 i = K (((l.drop i).take j).all (fun r => decide (r.2.1.length ≤ 300)) && decide (l.length ≤ 60))
 | 0, m, i, s2, hi, _ => by
  have e : decide ((l.length : Int) ≤ 60) = decide (l.length ≤ 60) := decide_eq_decide.2 (by omega)
  rw [Jsl, Kcd, List.take_zero, List.all_nil, Bool.true_and, ← e]
  by_cases c : (i : Int) < (l.length : Int)
  ·rw [Jaa (tt c), Jab (ff (by omega)), h1]
  ·rw [Jab (ff c), h1]
 | j + 1, 0, i, _, _, hm => absurd hm (by omega)
 | j + 1, m + 1, i, s2, hi, hm => by
  have ih := Ksa F fail ex0 ex1 K l h0 h1 j m (i + 1) s2 (by omega) (by omega)
  have e : decide ((l.length : Int) ≤ 60) = decide (l.length ≤ 60) := decide_eq_decide.2 (by omega)
  rw [Jsl, Kcd, Int.toNat_natCast, Jao (by omega) (by omega), Jte]
  by_cases c : i < l.length
  ·rw [Jaa (tt (by omega)), Jaa (tt (by omega)), Jaa (tt2 (by omega) (by omega)), Jcx rc0 c, List.take_succ_cons, List.all_cons]
   change (bif decide (((l.getD i rc0).2.1.length : Int) > 300) then _ else _) = _
   generalize l.getD i rc0 = r
   by_cases c2 : (r.2.1.length : Int) > 300
   ·rw [Jaa (tt c2), h0, ff (show ¬ r.2.1.length ≤ 300 by omega), Bool.false_and, Bool.false_and]
   ·rw [Jab (ff c2), tt (show r.2.1.length ≤ 300 by omega), Bool.true_and]
    exact ih
  ·rw [Jab (ff (by omega)), h1, List.drop_eq_nil_of_le (by omega), e]; rfl
theorem Kun (l : List Rec) (_ : Kq9 l = true) : ∃ F, ∀ {X : Type} (fail : X) (ret : Bool → X), uFew F l fail ret = ret (J3y l) := ⟨61, fun fail ret => by
 unfold uFew J3y
 refine (Ksa 61 fail _ _ ret l (fun _ => rfl) (fun _ _ => rfl) 60 60 0 false (by omega) (by omega)).trans ?_
 unfold K9i
 rw [List.drop_zero]
 by_cases c : l.length ≤ 60
 ·rw [List.take_of_length_le c]
 ·rw [ff c, Bool.and_false, Bool.and_false]⟩
theorem Qa0 {a b : Rec} : a = b ↔ a.1 = b.1 ∧ a.2.1 = b.2.1 := ⟨fun h => by rw [h]; exact ⟨rfl, rfl⟩, fun h => by
 obtain ⟨a1, a2, a3⟩ := a
 obtain ⟨b1, b2, b3⟩ := b
 obtain ⟨h1, h2⟩ := h
 cases h1; cases h2; rfl⟩
theorem Kh1 {X : Type} (F : Nat) (fail : X) (ex0 ex1 : List Rec → List Rec → Bool → Int → X) (K : Bool → X) (a b : List Rec) (hab : a.length = b.length) (ha : a.length ≤ 1000000000000) (h0 : ∀ i, ex0 a b false i = K false) (h1 : ∀ e i, ex1 a b e i = K true) : ∀ (j m i : Nat) (s4 : Bool), i + j = a.length → j ≤ m →
  Jnb F fail ex0 ex1 (m + 1) a b s4 i = K (decide (a.drop i = b.drop i))
 | 0, m, i, s4, hi, _ => by
  rw [Jnb, J2a, Jab (ff (by omega)), h1, List.drop_eq_nil_of_le (by omega), List.drop_eq_nil_of_le (by omega)]; rfl
 | j + 1, 0, i, _, _, hm => absurd hm (by omega)
 | j + 1, m + 1, i, s4, hi, hm => by
  have ih := Kh1 F fail ex0 ex1 K a b hab ha h0 h1 j m (i + 1) s4 (by omega) (by omega)
  have ba : (decide ((0 : Int) ≤ (i : Int)) && decide ((i : Int) < ((a.length : Nat) : Int))) = true := tt2 (by omega) (by omega)
  have bb : (decide ((0 : Int) ≤ (i : Int)) && decide ((i : Int) < ((b.length : Nat) : Int))) = true := tt2 (by omega) (by omega)
  rw [Jnb, J2a, Int.toNat_natCast, Jao (by omega) (by omega), Jte, Jcx rc0 (show i < a.length by omega), Jcx rc0 (show i < b.length by omega)]
  refine Jbv (tt (by omega)) (Jbv ba (Jbv bb ?_))
  change (bif (a.getD i rc0).1 != (b.getD i rc0).1 then _ else bif _ then bif _ then bif !((a.getD i rc0).2.1 == (b.getD i rc0).2.1) then _ else _ else _ else _) = _
  generalize a.getD i rc0 = x
  generalize b.getD i rc0 = y
  by_cases c1 : x.1 = y.1
  ·rw [Jab (Jgi c1)]
   refine Jbv ba (Jbv bb ?_)
   by_cases c2 : x.2.1 = y.2.1
   ·have e : x = y := Qa0.2 ⟨c1, c2⟩
    rw [show (x.2.1 == y.2.1) = true by simpa using c2, Jab (c := !true) rfl, ih]
    congr 1
    exact decide_eq_decide.2 ⟨fun h => by rw [e, h], fun h => (List.cons.inj h).2⟩
   ·rw [show (x.2.1 == y.2.1) = false by simpa using c2, Jaa (c := !false) rfl, h0, ff (fun h => c2 (by rw [(List.cons.inj h).1]))]
  ·rw [Jaa (Jh9 c1), h0, ff (fun h => c1 (by rw [(List.cons.inj h).1]))]
theorem Knm (a b : List Rec) (h : Kbu a b = true) : ∃ F, ∀ {X : Type} (fail : X) (ret : Bool → X), K7u F a b fail ret = ret (J3z a b) := ⟨a.length + 1, fun fail ret => by
 simp only [Kbu, Kl6, Bool.and_eq_true, decide_eq_true_eq] at h
 unfold K7u J3z
 by_cases c : a.length = b.length
 ·rw [Jab (Jgi (by omega))]
  refine (Kh1 (a.length + 1) fail _ _ ret a b c h.1 (fun _ => rfl) (fun _ _ => rfl) a.length a.length 0 false (by omega) (by omega)).trans ?_
  rw [List.drop_zero, List.drop_zero]
 ·rw [Jaa (Jh9 (by omega)), ff (fun h => c (by rw [h]))]⟩
theorem J9l {X : Type} (F : Nat) (fail : X) (ex0 ex1 : List (List Rec) → List (List Rec) → Bool → Int → X) (K : Bool → X) (a b : List (List Rec)) (hab : a.length = b.length) (ha : Jva a = true) (hb : Jva b = true) (h0 : ∀ i, ex0 a b false i = K false) (h1 : ∀ e i, ex1 a b e i = K true) : ∀ (j m i : Nat) (s4 : Bool), i + j = a.length → j ≤ m →
  Jhc F fail ex0 ex1 (m + 1) a b s4 i = K (decide (a.drop i = b.drop i))
 | 0, m, i, s4, hi, _ => by
  rw [Jhc, Jos, Jab (ff (by omega)), h1, List.drop_eq_nil_of_le (by omega), List.drop_eq_nil_of_le (by omega)]; rfl
 | j + 1, 0, i, _, _, hm => absurd hm (by omega)
 | j + 1, m + 1, i, s4, hi, hm => by
  have ih := J9l F fail ex0 ex1 K a b hab ha hb h0 h1 j m (i + 1) s4 (by omega) (by omega)
  simp only [Jva, Bool.and_eq_true, decide_eq_true_eq] at ha hb
  have ba : (decide ((0 : Int) ≤ (i : Int)) && decide ((i : Int) < ((a.length : Nat) : Int))) = true := tt2 (by omega) (by omega)
  have bb : (decide ((0 : Int) ≤ (i : Int)) && decide ((i : Int) < ((b.length : Nat) : Int))) = true := tt2 (by omega) (by omega)
  have pa : Kl6 (a.getD i []) = true := by rw [Jdx (show i < a.length by omega)]; exact List.all_eq_true.1 ha.2 _ (List.getElem_mem _)
  have pb : Kl6 (b.getD i []) = true := by rw [Jdx (show i < b.length by omega)]; exact List.all_eq_true.1 hb.2 _ (List.getElem_mem _)
  rw [Jhc, Jos, Int.toNat_natCast, Jao (by omega) (by omega), Jte, Jcx ([] : List Rec) (show i < a.length by omega), Jcx ([] : List Rec) (show i < b.length by omega)]
  refine Jbv (tt (by omega)) (Jbv ba (Jbv bb ?_))
  generalize a.getD i [] = x at pa
  generalize b.getD i [] = y at pb
  refine Jbv (show (Kl6 x && Kl6 y) = true by rw [pa, pb]; rfl) ?_
  rw [show J3z x y = decide (x = y) from rfl]
  by_cases c : x = y
  ·rw [tt c, Jab (c := !true) rfl, ih]
   congr 1
   exact decide_eq_decide.2 ⟨fun h => by rw [c, h], fun h => (List.cons.inj h).2⟩
  ·rw [ff c, Jaa (c := !false) rfl, h0, ff (fun h => c (List.cons.inj h).1)]
theorem J7a (a b : List (List Rec)) (h : Je8 a b = true) : ∃ F, ∀ {X : Type} (fail : X) (ret : Bool → X), Kce F a b fail ret = ret (Je9 a b) := ⟨a.length + 1, fun fail ret => by
 rw [Je8, Bool.and_eq_true] at h
 unfold Kce Je9
 by_cases c : a.length = b.length
 ·rw [Jab (Jgi (by omega))]
  refine (J9l (a.length + 1) fail _ _ ret a b c h.1 h.2 (fun _ => rfl) (fun _ _ => rfl) a.length a.length 0 false (by omega) (by omega)).trans ?_
  rw [List.drop_zero, List.drop_zero]
 ·rw [Jaa (Jh9 (by omega)), ff (fun h => c (by rw [h]))]⟩
end Go.AI
