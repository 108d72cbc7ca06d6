/- Texts of the proof, joined: TransP. Names of our own are shortened by program; the long ones stand in wip/. -/
import Derived.Test.YtcdajbmgoafnkaaGreatQrG
import Derived.Test.YtcdajbmgoafnkaaGreatQrTransT
import Derived.Test.YtcdajbmgoafnkaaGreatQrWireP2
import Derived.Test.YtcdajbmgoafnkaaGreatQrDiskP
namespace Go.AI
open Go
theorem Jcp {X : Type} {c : Bool} {a b x : X} (h1 : c = true) (h2 : a = x) : (bif c then a else b) = x := (Jaa h1 _ _).trans h2
theorem Juu {X : Type} {c : Bool} {a b x : X} (h1 : c = false) (h2 : b = x) : (bif c then a else b) = x := (Jab h1 _ _).trans h2
abbrev rc0 : Rec := ((0 : Int), (([] : List UInt8), ()))
theorem K7w {r : Rec} : Jnm r = 0 ↔ (1 ≤ r.1 ∧ r.1 ≤ 4) ∧ r.2.1.length ≤ 65536 := by
 unfold Jnm
 by_cases c : 1 ≤ r.1 ∧ r.1 ≤ 4
 ·rw [if_pos c]
  by_cases c2 : r.2.1.length > 65536
  ·rw [if_pos c2]; exact ⟨(fun h => nomatch h), fun h => by omega⟩
  ·rw [if_neg c2]; exact ⟨fun _ => ⟨c, by omega⟩, fun _ => rfl⟩
 ·rw [if_neg c]; exact ⟨(fun h => nomatch h), fun h => absurd h.1 c⟩
theorem Qd2 (r : Rec) (l : List Rec) : K9s (r :: l) = if Jnm r = 0 then K9s l else Jnm r := by rw [K9s]
theorem K43 {X : Type} (F : Nat) (fail : X) (ex0 ex1 : Int → List Rec → Int → Int → X) (K : Int → X) (l : List Rec) (hl : l.length ≤ 1024) (h0 : ∀ e a i, ex0 e l a i = K e) (h1 : ∀ e a i, ex1 e l a i = K 0) : ∀ (j m i : Nat) (s2 : Int), i + j = l.length → j ≤ m →
  Jm2 F fail ex0 ex1 (m + 1) s2 l (l.length : Nat) i = K (K9s (l.drop i))
 | 0, m, i, s2, hi, _ => by
  rw [Jm2, J2c, Jab (ff (by omega)), h1, List.drop_eq_nil_of_le (by omega)]; rfl
 | j + 1, 0, i, _, _, hm => absurd hm (by omega)
 | j + 1, m + 1, i, s2, hi, hm => by
  have ih := K43 F fail ex0 ex1 K l hl h0 h1 j m (i + 1) s2 (by omega) (by omega)
  rw [Jm2, J2c, Int.toNat_natCast, Jaa (tt (by omega)), Jaa (tt2 (by omega) (by omega)), Jdj rc0 (show i < l.length by omega), Qd2, Jai (by omega) (by omega), J2d]
  show _ = K (if Jnm (l.getD i rc0) = 0 then _ else _)
  change (bif decide ((l.getD i rc0).1 ≥ 1) then _ else _) = _
  generalize l.getD i rc0 = r
  by_cases c1 : r.1 ≥ 1
  ·rw [Jaa (tt c1)]
   by_cases c2 : r.1 ≤ 4
   ·rw [tt c2, Jab (c := !true) rfl]
    by_cases c3 : (r.2.1.length : Int) > 65536
    ·rw [Jaa (tt c3), h0]
     have : Jnm r = 5 := by unfold Jnm; rw [if_pos ⟨c1, c2⟩, if_pos (by omega)]
     rw [this]; rfl
    ·rw [Jab (ff c3), if_pos (K7w.2 ⟨⟨c1, c2⟩, by omega⟩)]
     exact ih
   ·rw [ff c2, Jaa (c := !false) rfl, h0]
    have : Jnm r = 1 := by unfold Jnm; rw [if_neg (fun h => c2 h.2)]
    rw [this]; rfl
  ·rw [Jab (ff c1), h0]
   have : Jnm r = 1 := by unfold Jnm; rw [if_neg (fun h => c1 h.1)]
   rw [this]; rfl
theorem Ksp (l : List Rec) (_ : Jwo l = true) : ∃ F, ∀ {X : Type} (fail : X) (ret : Int → X), Qcf F l fail ret = ret (Jo4 l) := ⟨l.length + 1, fun fail ret => by
 unfold Qcf Jo4 Qif
 by_cases c : l.length > 1024
 ·rw [Jaa (tt (by omega)), if_pos c]
 ·rw [Jab (ff (by omega)), if_neg c]
  refine (K43 (l.length + 1) fail _ _ ret l (by omega) (fun _ _ _ => rfl) (fun _ _ _ => rfl) l.length l.length 0 0 (by omega) (by omega)).trans ?_
  rw [List.drop_zero]⟩
theorem Kzy (n : Int) : ∃ F, ∀ {X : Type} (fail : X) (ret : Int → X), Qmi F n fail ret = ret (Jpq n) := ⟨0, fun fail ret => by
 unfold Qmi Jpq
 by_cases c1 : n < 1
 ·rw [Jaa (tt c1), if_neg (by omega)]
 by_cases c2 : n > 4
 ·rw [Jab (ff c1), Jaa (tt c2), if_neg (by omega)]
 ·rw [Jab (ff c1), Jab (ff c2), if_pos (by omega)]⟩
theorem Qjb {l : List Rec} (h : Qif l = 0) : l.length ≤ 1024 ∧ K9s l = 0 := by
 unfold Qif at h
 by_cases c : l.length > 1024
 ·rw [if_pos c] at h; cases h
 ·rw [if_neg c] at h; exact ⟨by omega, h⟩
theorem Qd3 {r : Rec} (h : (1 ≤ r.1 ∧ r.1 ≤ 4) ∧ r.2.1.length ≤ 65536) : (Ka4 r).length ≤ 65552 := by
 have h1 := Jnp (Jfn r.1)
 have h2 := Jnp (Jfn r.2.1.length)
 unfold Ka4
 rw [List.length_append, List.length_append]; omega
theorem Ksq : ∀ {l : List Rec}, (∀ r, r ∈ l → (1 ≤ r.1 ∧ r.1 ≤ 4) ∧ r.2.1.length ≤ 65536) → (l.flatMap Ka4).length ≤ 65552 * l.length
 | [], _ => Nat.zero_le _
 | r :: l, h => by
  have h1 := Qd3 (h r List.mem_cons_self)
  have h2 := Ksq (l := l) fun x hx => h x (List.mem_cons_of_mem _ hx)
  rw [List.flatMap_cons, List.length_append, List.length_cons]; omega
theorem K7x (l : List Rec) (i : Nat) (h : i < l.length) : (l.take (i + 1)).flatMap Ka4 = (l.take i).flatMap Ka4 ++ Ka4 (l.getD i rc0) := by
 rw [Jd9 l i rc0 h, List.flatMap_append]; simp
def Juv (l : List Rec) (i : Nat) : List UInt8 := Kx9 (Jfn l.length) ++ (l.take i).flatMap Ka4
theorem K7y (l : List Rec) : Juv l 0 = Kx9 (Jfn l.length) := by unfold Juv; simp
theorem Qd4 (l : List Rec) : Juv l l.length = Kik l := by unfold Juv Kik; rw [List.take_length]
theorem K7z (l : List Rec) (i : Nat) (h : i < l.length) : Juv l (i + 1) = Juv l i ++ Ka4 (l.getD i rc0) := by unfold Juv; rw [K7x l i h, List.append_assoc]
theorem Qd5 {l : List Rec} (hl : l.length ≤ 1024) (h : K9s l = 0) (i : Nat) : (Juv l i).length ≤ 68000000 := by
 have h1 := Jnp (Jfn l.length)
 have h2 := Ksq (l := l.take i) fun r hr => Knf h r (List.mem_of_mem_take hr)
 have h3 : (l.take i).length ≤ l.length := by rw [List.length_take]; omega
 unfold Juv
 rw [List.length_append]; omega
theorem Qd6 (b : List UInt8) (r : Rec) : b ++ Kx9 (Jfn r.1) ++ Kx9 (Jfn r.2.1.length) ++ r.2.1 = b ++ Ka4 r := by
 unfold Ka4; rw [List.append_assoc, List.append_assoc]
theorem Qni {l : List Rec} (h : K9s l = 0) {i : Nat} (hi : i < l.length) : (1 ≤ (l.getD i rc0).1 ∧ (l.getD i rc0).1 ≤ 4) ∧ (l.getD i rc0).2.1.length ≤ 65536 := by
 rw [Jsh hi]; exact Knf h _ (List.getElem_mem _)
theorem Kng (b : List UInt8) (x : Int) (h : Jr1 b 51 x = true) : ∃ F, ∀ {X : Type} (fail : X) (ret : List UInt8 → X), Kys F b x fail ret = ret (Jlt b 51 x) := ⟨0, fun fail ret => by
 unfold Kys
 rw [Jaa (c := Jhm b x) h]; rfl⟩
theorem Knh (b : List UInt8) (x : List UInt8) (h : Jzk b 53 x = true) : ∃ F, ∀ {X : Type} (fail : X) (ret : List UInt8 → X), Kyt F b x fail ret = ret (Jui b 53 x) := ⟨0, fun fail ret => by
 unfold Kyt
 rw [Jaa (c := Jfi b x) h]; rfl⟩
theorem K44 {X : Type} (F : Nat) (fail : X) (ex0 : List Rec → Int → Int → List UInt8 → X) (K : List UInt8 → X) (l : List Rec) (hl : l.length ≤ 1024) (hg : K9s l = 0) (h0 : ∀ a i b, ex0 l a i b = K b) : ∀ (j m i : Nat), i + j = l.length → j ≤ m →
  Jg0 F fail ex0 (m + 1) l (l.length : Nat) i (Juv l i) = K (Kik l)
 | 0, m, i, hi, _ => by
  rw [Jg0, Jxf, Jab (ff (by omega)), h0, show i = l.length by omega, Qd4]
 | j + 1, 0, i, _, hm => absurd hm (by omega)
 | j + 1, m + 1, i, hi, hm => by
  have ih := K44 F fail ex0 K l hl hg h0 j m (i + 1) (by omega) (by omega)
  have hr := Qni hg (show i < l.length by omega)
  have hb := Qd5 hl hg i
  have hs := K7z l i (by omega)
  rw [Jg0, Jxf, Int.toNat_natCast, Jai (by omega) (by omega), J2d]
  change (bif _ then bif _ then bif Jr1 (Juv l i) _ (l.getD i rc0).1 then bif Jzk (Jlt (Juv l i) _ (l.getD i rc0).1) _ (l.getD i rc0).2.1 then Jg0 F fail ex0 (m + 1) l _ _ (Jui (Jlt (Juv l i) _ (l.getD i rc0).1) _ (l.getD i rc0).2.1) else _ else _ else _ else _) = _
  generalize l.getD i rc0 = r at hr hs
  have e : ∀ a b, Jui (Jlt (Juv l i) a r.1) b r.2.1 = Juv l (i + 1) := fun _ _ => (Qd6 _ _).trans hs.symm
  have h1 := Jnp (Jfn r.1)
  refine Jcp (tt (by omega)) (Jcp (tt2 (by omega) (by omega)) (Jcp (tt (by omega)) (Jcp (tt ?_) ?_)))
  ·show (Juv l i ++ Kx9 (Jfn r.1)).length + r.2.1.length ≤ _
   rw [List.length_append]; omega
  ·rw [e]; exact ih
theorem Qd7 {l : List Rec} (h : Kyc l = 0) : Qot l = Kik l := if_pos h
theorem Kni (l : List Rec) (_ : Juj l = true) : ∃ F, ∀ {X : Type} (fail : X) (ret : List UInt8 → Int → X), Kyu F l fail ret = ret (Jc7 l) (Jka l) := ⟨l.length + 1, fun fail ret => by
 unfold Kyu Jc7 Jka Qot
 rw [Jaa (c := Jwo l) rfl, show Jo4 l = Qif l from rfl]
 by_cases c : Qif l = 0
 ·obtain ⟨hl, hg⟩ := Qjb c
  rw [Jab (Jgm c), Jaa (c := Jr1 _ _ _) (tt ⟨by simp, by omega, by omega⟩)]
  have e0 : ∀ a, Jlt ([] : List UInt8) a ((l.length : Nat) : Int) = Juv l 0 := fun _ => by rw [K7y]; rfl
  rw [e0]
  refine (K44 (l.length + 1) fail _ (fun b => bif decide ((b.length : Int) > 65536) then ret [] 5 else ret b 0) l hl hg (fun _ _ _ => rfl) l.length l.length 0 (by omega) (by omega)).trans ?_
  unfold Kyc
  rw [if_pos c]
  by_cases c2 : (Kik l).length > 65536
  ·rw [Jaa (tt (by omega)), if_pos c2, if_neg (by decide)]
  ·rw [Jab (ff (by omega)), if_neg c2, if_pos rfl]
 ·have : Kyc l = Qif l := if_neg c
  rw [Jaa (Jhl c), this, if_neg c]⟩
theorem J2p {b : List UInt8} : (Jbe b).2.1.length ≤ b.length := by
 have h := J2j b
 unfold Jbe
 simp only
 split
 ·simp
 ·split
  ·simp
  ·rw [List.length_drop]; omega
theorem K45 {X : Type} (F : Nat) (fail : X) (ex0 ex1 : Int → Int → Int → List UInt8 → List Rec → X) (K : List Rec → Int → X) (n : Nat) (hn : n ≤ 1024) (h0 : ∀ e i b out, ex0 e n i b out = K [] e) (h1 : ∀ e i b out, ex1 e n i b out = if b.length = 0 then K out 0 else K [] 3) : ∀ (j m i : Nat) (s3 : Int) (b : List UInt8) (out : List Rec), i + j = n → j ≤ m → b.length ≤ 65536 → out.length ≤ i →
  Jf4 F fail ex0 ex1 (m + 1) s3 n i b out = K (K62 j b out).1 (K62 j b out).2
 | 0, m, i, s3, b, out, hi, _, _, _ => by
  rw [Jf4, Jxg, Jab (ff (by omega)), h1, K62]
  by_cases c : b.length = 0
  ·rw [if_pos c, if_pos c]
  ·rw [if_neg c, if_neg c]
 | j + 1, 0, i, _, _, _, _, hm, _, _ => absurd hm (by omega)
 | j + 1, m + 1, i, s3, b, out, hi, hm, hb, ho => by
  have ih := fun s3 b out => K45 F fail ex0 ex1 K n hn h0 h1 j m (i + 1) s3 b out (by omega) (by omega)
  have hN := Jkj b
  rw [Jf4, Jxg, Jai (by omega) (by omega), J2d, Jaa (tt (by omega)), Jaa (c := Jfh b) (tt (by omega)), K62]
  rw [show Jbk b = (Ja9 b).2.2 from rfl, show Jaq b = (Ja9 b).2.1 from rfl, show Jas b = (Ja9 b).1 from rfl]
  by_cases c1 : (Ja9 b).2.2 = 0
  ·rw [Jaa (Jk8 c1), Jab (Jgm c1), if_neg (by omega)]
   by_cases c2 : (Ja9 b).1 ≥ 1
   ·by_cases c3 : (Ja9 b).1 ≤ 4
    ·have hB := J2p (b := (Ja9 b).2.1)
     rw [Jaa (tt c2), tt c3, Jab (c := !true) rfl, Jaa (c := Jgt _) (tt (by omega)), if_pos ⟨c2, c3⟩]
     rw [show Jc3 (Ja9 b).2.1 = (Jbe (Ja9 b).2.1).2.2 from rfl, show Jeu (Ja9 b).2.1 = (Jbe (Ja9 b).2.1).2.1 from rfl, show Jet (Ja9 b).2.1 = (Jbe (Ja9 b).2.1).1 from rfl]
     by_cases c4 : (Jbe (Ja9 b).2.1).2.2 = 0
     ·have hlen : (out ++ [((Ja9 b).1, ((Jbe (Ja9 b).2.1).1, ()))]).length = out.length + 1 := by rw [List.length_append, List.length_singleton]
      rw [Jaa (Jk8 c4), Jab (Jgm c4), if_neg (by omega), Jaa (Jch (by omega))]
      exact ih _ _ _ (by omega) (by omega)
     ·rw [Jab (Jl3 c4), Jaa (Jhl c4), if_pos c4, h0]
    ·rw [Jaa (tt c2), ff c3, Jaa (c := !false) rfl, if_neg (fun h => c3 h.2), h0]
   ·rw [Jab (ff c2), if_neg (fun h => c2 h.1), h0]
  ·rw [Jab (Jl3 c1), Jaa (Jhl c1), if_pos c1, h0]
theorem Qd8 {X : Type} (b : List UInt8) (out : List Rec) (K : List Rec → Int → X) : (bif decide ((b.length : Int) > 0) then K [] 3 else K out 0) = if b.length = 0 then K out 0 else K [] 3 := by
 by_cases c : b.length = 0
 ·rw [Jab (ff (by omega)), if_pos c]
 ·rw [Jaa (tt (by omega)), if_neg c]
theorem Knj (b : List UInt8) (_ : Jle b = true) : ∃ F, ∀ {X : Type} (fail : X) (ret : List Rec → Int → X), Kyv F b fail ret = ret (Jfj b) (Jfk b) := ⟨1025, fun fail ret => by
 unfold Kyv Jfj Jfk J80
 by_cases c : b.length > 65536
 ·rw [Jaa (tt (by omega)), if_pos c]
 have hN := Jkj b
 rw [Jab (ff (by omega)), if_neg c, Jaa (c := Jfh b) (tt (by omega))]
 rw [show Jbk b = (Ja9 b).2.2 from rfl, show Jaq b = (Ja9 b).2.1 from rfl, show Jas b = (Ja9 b).1 from rfl]
 by_cases c1 : (Ja9 b).2.2 = 0
 ·rw [Jaa (Jk8 c1), Jab (Jgm c1), if_neg (by omega)]
  by_cases c2 : (Ja9 b).1 > 1024
  ·rw [Jaa (tt c2), if_pos c2]
  ·rw [Jab (ff c2), if_neg c2]
   have hn : (Ja9 b).1 = (((Ja9 b).1.toNat : Nat) : Int) := by omega
   rw [hn]
   refine (K45 1025 fail _ _ ret _ (by omega) (fun _ _ _ _ => rfl) (fun _ _ b out => Qd8 b out ret) (Ja9 b).1.toNat 1024 0 0 _ _ (by omega) (by omega) (by omega) (by simp)).trans ?_
   rw [Int.toNat_natCast]
 ·rw [Jab (Jl3 c1), Jaa (Jhl c1), if_pos c1]⟩
theorem Ksr {X : Type} (F : Nat) (fail : X) (ex0 ex1 : Int → Int → Int → List UInt8 → List Rec → X) (K : List Rec → Int → X) (n : Nat) (hn : n ≤ 1024) (h0 : ∀ e i b out, ex0 e n i b out = K [] e) (h1 : ∀ e i b out, ex1 e n i b out = if b.length = 0 then K out 0 else K [] 3) : ∀ (j m i : Nat) (s3 : Int) (b : List UInt8) (out : List Rec), i + j = n → j ≤ m → b.length ≤ 65536 → out.length ≤ i →
  Jie F fail ex0 ex1 (m + 1) s3 n i b out = K (K62 j b out).1 (K62 j b out).2
 | 0, m, i, s3, b, out, hi, _, _, _ => by
  rw [Jie, Jxh, Jab (ff (by omega)), h1, K62]
  by_cases c : b.length = 0
  ·rw [if_pos c, if_pos c]
  ·rw [if_neg c, if_neg c]
 | j + 1, 0, i, _, _, _, _, hm, _, _ => absurd hm (by omega)
 | j + 1, m + 1, i, s3, b, out, hi, hm, hb, ho => by
  have ih := fun s3 b out => Ksr F fail ex0 ex1 K n hn h0 h1 j m (i + 1) s3 b out (by omega) (by omega)
  have hN := Jkj b
  rw [Jie, Jxh, Jai (by omega) (by omega), J2d, Jaa (tt (by omega)), Jaa (c := Jec b) (tt (by omega)), K62]
  rw [show Jbz b = (Ja9 b).2.2 from rfl, show Jay b = (Ja9 b).2.1 from rfl, show Ja7 b = (Ja9 b).1 from rfl]
  by_cases c1 : (Ja9 b).2.2 = 0
  ·rw [Jaa (Jk8 c1), if_neg (by omega)]
   by_cases c2 : 1 ≤ (Ja9 b).1 ∧ (Ja9 b).1 ≤ 4
   ·have e : Jpq (Ja9 b).1 = 0 := if_pos c2
    have hB := J2p (b := (Ja9 b).2.1)
    rw [Jaa (Jk8 e), Jaa (c := Jes _) (tt (by omega)), if_pos c2]
    rw [show Jcz (Ja9 b).2.1 = (Jbe (Ja9 b).2.1).2.2 from rfl, show Jcy (Ja9 b).2.1 = (Jbe (Ja9 b).2.1).2.1 from rfl, show Jcx (Ja9 b).2.1 = (Jbe (Ja9 b).2.1).1 from rfl]
    by_cases c4 : (Jbe (Ja9 b).2.1).2.2 = 0
    ·have hlen : (out ++ [((Ja9 b).1, ((Jbe (Ja9 b).2.1).1, ()))]).length = out.length + 1 := by rw [List.length_append, List.length_singleton]
     rw [Jab (Jgm c4), if_neg (by omega), Jaa (Jch (by omega))]
     exact ih _ _ _ (by omega) (by omega)
    ·rw [Jaa (Jhl c4), if_pos c4, h0]
   ·have e : Jpq (Ja9 b).1 = 1 := if_neg c2
    rw [e, Jab (c := (1 : Int) == 0) rfl, Jaa (c := (1 : Int) != 0) rfl, if_neg c2, h0]
  ·rw [Jab (Jl3 c1), Jab (Jl3 c1), Jaa (Jhl c1), if_pos c1, h0]
theorem Knk (b : List UInt8) (_ : Jlf b = true) : ∃ F, ∀ {X : Type} (fail : X) (ret : List Rec → Int → X), Kyw F b fail ret = ret (Jfl b) (Jdf b) := ⟨1025, fun fail ret => by
 unfold Kyw Jfl Jdf J80
 by_cases c : b.length > 65536
 ·rw [Jaa (tt (by omega)), if_pos c]
 have hN := Jkj b
 rw [Jab (ff (by omega)), if_neg c, Jaa (c := Jec b) (tt (by omega))]
 rw [show Jbz b = (Ja9 b).2.2 from rfl, show Jay b = (Ja9 b).2.1 from rfl, show Ja7 b = (Ja9 b).1 from rfl]
 by_cases c1 : (Ja9 b).2.2 = 0
 ·rw [Jab (Jgm c1), if_neg (by omega)]
  by_cases c2 : (Ja9 b).1 > 1024
  ·rw [Jaa (tt c2), if_pos c2]
  ·rw [Jab (ff c2), if_neg c2]
   have hn : (Ja9 b).1 = (((Ja9 b).1.toNat : Nat) : Int) := by omega
   rw [hn]
   refine (Ksr 1025 fail _ _ ret _ (by omega) (fun _ _ _ _ => rfl) (fun _ _ b out => Qd8 b out ret) (Ja9 b).1.toNat 1024 0 0 _ _ (by omega) (by omega) (by omega) (by simp)).trans ?_
   rw [Int.toNat_natCast]
 ·rw [Jaa (Jhl c1), if_pos c1]⟩
theorem Qpj {a b : Rec} : a = b ↔ a.1 = b.1 ∧ a.2.1 = b.2.1 := ⟨fun h => by rw [h]; exact ⟨rfl, rfl⟩, fun h => by
 obtain ⟨a1, a2, a3⟩ := a
 obtain ⟨b1, b2, b3⟩ := b
 obtain ⟨h1, h2⟩ := h
 cases h1; cases h2; rfl⟩
theorem Kss {X : Type} (F : Nat) (fail : X) (ex0 ex1 : List Rec → List Rec → Bool → Int → X) (K : Bool → X) (a b : List Rec) (hab : a.length = b.length) (ha : a.length ≤ 1000000000000) (h0 : ∀ i, ex0 a b false i = K false) (h1 : ∀ e i, ex1 a b e i = K true) : ∀ (j m i : Nat) (s4 : Bool), i + j = a.length → j ≤ m →
  Jqu F fail ex0 ex1 (m + 1) a b s4 i = K (decide (a.drop i = b.drop i))
 | 0, m, i, s4, hi, _ => by
  rw [Jqu, J9a, Jab (ff (by omega)), h1, List.drop_eq_nil_of_le (by omega), List.drop_eq_nil_of_le (by omega)]; rfl
 | j + 1, 0, i, _, _, hm => absurd hm (by omega)
 | j + 1, m + 1, i, s4, hi, hm => by
  have ih := Kss F fail ex0 ex1 K a b hab ha h0 h1 j m (i + 1) s4 (by omega) (by omega)
  have ba : (decide ((0 : Int) ≤ (i : Int)) && decide ((i : Int) < ((a.length : Nat) : Int))) = true := tt2 (by omega) (by omega)
  have bb : (decide ((0 : Int) ≤ (i : Int)) && decide ((i : Int) < ((b.length : Nat) : Int))) = true := tt2 (by omega) (by omega)
  rw [Jqu, J9a, Int.toNat_natCast, Jai (by omega) (by omega), J2d, Jdj rc0 (show i < a.length by omega), Jdj rc0 (show i < b.length by omega)]
  refine Jcp (tt (by omega)) (Jcp ba (Jcp bb ?_))
  change (bif (a.getD i rc0).1 != (b.getD i rc0).1 then _ else bif _ then bif _ then bif !((a.getD i rc0).2.1 == (b.getD i rc0).2.1) then _ else _ else _ else _) = _
  generalize a.getD i rc0 = x
  generalize b.getD i rc0 = y
  by_cases c1 : x.1 = y.1
  ·rw [Jab (Jgm c1)]
   refine Jcp ba (Jcp bb ?_)
   by_cases c2 : x.2.1 = y.2.1
   ·have e : x = y := Qpj.2 ⟨c1, c2⟩
    rw [show (x.2.1 == y.2.1) = true by simpa using c2, Jab (c := !true) rfl, ih]
    congr 1
    exact decide_eq_decide.2 ⟨fun h => by rw [e, h], fun h => (List.cons.inj h).2⟩
   ·rw [show (x.2.1 == y.2.1) = false by simpa using c2, Jaa (c := !false) rfl, h0, ff (fun h => c2 (by rw [(List.cons.inj h).1]))]
  ·rw [Jaa (Jhl c1), h0, ff (fun h => c1 (by rw [(List.cons.inj h).1]))]
theorem Kzz (a b : List Rec) (h : Klu a b = true) : ∃ F, ∀ {X : Type} (fail : X) (ret : Bool → X), Qmj F a b fail ret = ret (Ka5 a b) := ⟨a.length + 1, fun fail ret => by
 simp only [Klu, Qg4, Bool.and_eq_true, decide_eq_true_eq] at h
 unfold Qmj Ka5
 by_cases c : a.length = b.length
 ·rw [Jab (Jgm (by omega))]
  refine (Kss (a.length + 1) fail _ _ ret a b c h.1 (fun _ => rfl) (fun _ _ => rfl) a.length a.length 0 false (by omega) (by omega)).trans ?_
  rw [List.drop_zero, List.drop_zero]
 ·rw [Jaa (Jhl (by omega)), ff (fun h => c (by rw [h]))]⟩
theorem Ki3 {X : Type} (F : Nat) (fail : X) (ex0 ex1 : List (List Rec) → List (List Rec) → Bool → Int → X) (K : Bool → X) (a b : List (List Rec)) (hab : a.length = b.length) (ha : Qig a = true) (hb : Qig b = true) (h0 : ∀ i, ex0 a b false i = K false) (h1 : ∀ e i, ex1 a b e i = K true) : ∀ (j m i : Nat) (s4 : Bool), i + j = a.length → j ≤ m →
  Jje F fail ex0 ex1 (m + 1) a b s4 i = K (decide (a.drop i = b.drop i))
 | 0, m, i, s4, hi, _ => by
  rw [Jje, Jsg, Jab (ff (by omega)), h1, List.drop_eq_nil_of_le (by omega), List.drop_eq_nil_of_le (by omega)]; rfl
 | j + 1, 0, i, _, _, hm => absurd hm (by omega)
 | j + 1, m + 1, i, s4, hi, hm => by
  have ih := Ki3 F fail ex0 ex1 K a b hab ha hb h0 h1 j m (i + 1) s4 (by omega) (by omega)
  simp only [Qig, Bool.and_eq_true, decide_eq_true_eq] at ha hb
  have ba : (decide ((0 : Int) ≤ (i : Int)) && decide ((i : Int) < ((a.length : Nat) : Int))) = true := tt2 (by omega) (by omega)
  have bb : (decide ((0 : Int) ≤ (i : Int)) && decide ((i : Int) < ((b.length : Nat) : Int))) = true := tt2 (by omega) (by omega)
  have pa : Qg4 (a.getD i []) = true := by rw [Jsh (show i < a.length by omega)]; exact List.all_eq_true.1 ha.2 _ (List.getElem_mem _)
  have pb : Qg4 (b.getD i []) = true := by rw [Jsh (show i < b.length by omega)]; exact List.all_eq_true.1 hb.2 _ (List.getElem_mem _)
  rw [Jje, Jsg, Int.toNat_natCast, Jai (by omega) (by omega), J2d, Jdj ([] : List Rec) (show i < a.length by omega), Jdj ([] : List Rec) (show i < b.length by omega)]
  refine Jcp (tt (by omega)) (Jcp ba (Jcp bb ?_))
  generalize a.getD i [] = x at pa
  generalize b.getD i [] = y at pb
  refine Jcp (show (Qg4 x && Qg4 y) = true by rw [pa, pb]; rfl) ?_
  rw [show Ka5 x y = decide (x = y) from rfl]
  by_cases c : x = y
  ·rw [tt c, Jab (c := !true) rfl, ih]
   congr 1
   exact decide_eq_decide.2 ⟨fun h => by rw [c, h], fun h => (List.cons.inj h).2⟩
  ·rw [ff c, Jaa (c := !false) rfl, h0, ff (fun h => c (List.cons.inj h).1)]
theorem Kfi (a b : List (List Rec)) (h : Jwp a b = true) : ∃ F, ∀ {X : Type} (fail : X) (ret : Bool → X), Kmh F a b fail ret = ret (Jwq a b) := ⟨a.length + 1, fun fail ret => by
 rw [Jwp, Bool.and_eq_true] at h
 unfold Kmh Jwq
 by_cases c : a.length = b.length
 ·rw [Jab (Jgm (by omega))]
  refine (Ki3 (a.length + 1) fail _ _ ret a b c h.1 h.2 (fun _ => rfl) (fun _ _ => rfl) a.length a.length 0 false (by omega) (by omega)).trans ?_
  rw [List.drop_zero, List.drop_zero]
 ·rw [Jaa (Jhl (by omega)), ff (fun h => c (by rw [h]))]⟩
end Go.AI
