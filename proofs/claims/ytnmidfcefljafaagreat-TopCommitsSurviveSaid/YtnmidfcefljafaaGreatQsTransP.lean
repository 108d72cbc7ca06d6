/- Texts of the proof, joined: TransP. Names of our own are shortened by program; the long ones stand in wip/. -/
import Derived.Test.YtnmidfcefljafaaGreatQsG
import Derived.Test.YtnmidfcefljafaaGreatQsTransT
import Derived.Test.YtnmidfcefljafaaGreatQsWireP2
import Derived.Test.YtnmidfcefljafaaGreatQsDiskP
namespace Go.AI
open Go
theorem Ja2 {X : Type} {c : Bool} {a b x : X} (h1 : c = true) (h2 : a = x) : (bif c then a else b) = x := (Jaa h1 _ _).trans h2
theorem Jdf {X : Type} {c : Bool} {a b x : X} (h1 : c = false) (h2 : b = x) : (bif c then a else b) = x := (Jab h1 _ _).trans h2
abbrev rc0 : Rec := ((0 : Int), (([] : List UInt8), ()))
theorem Kso {r : Rec} : Jku r = 0 ↔ (1 ≤ r.1 ∧ r.1 ≤ 4) ∧ r.2.1.length ≤ 65536 := by
 unfold Jku
 by_cases c : 1 ≤ r.1 ∧ r.1 ≤ 4
 ·rw [if_pos c]
  by_cases c2 : r.2.1.length > 65536
  ·rw [if_pos c2]; exact ⟨(fun h => nomatch h), fun h => by omega⟩
  ·rw [if_neg c2]; exact ⟨fun _ => ⟨c, by omega⟩, fun _ => rfl⟩
 ·rw [if_neg c]; exact ⟨(fun h => nomatch h), fun h => absurd h.1 c⟩
theorem Kx0 (r : Rec) (l : List Rec) : Kt2 (r :: l) = if Jku r = 0 then Kt2 l else Jku r := by rw [Kt2]
theorem Kqi {X : Type} (F : Nat) (fail : X) (ex0 ex1 : Int → List Rec → Int → Int → X) (K : Int → X) (l : List Rec) (hl : l.length ≤ 1024) (h0 : ∀ e a i, ex0 e l a i = K e) (h1 : ∀ e a i, ex1 e l a i = K 0) : ∀ (j m i : Nat) (s2 : Int), i + j = l.length → j ≤ m →
  Jkb F fail ex0 ex1 (m + 1) s2 l (l.length : Nat) i = K (Kt2 (l.drop i))
 | 0, m, i, s2, hi, _ => by
  rw [Jkb, Jwb, Jab (ff (by omega)), h1, List.drop_eq_nil_of_le (by omega)]; rfl
 | j + 1, 0, i, _, _, hm => absurd hm (by omega)
 | j + 1, m + 1, i, s2, hi, hm => by
  have ih := Kqi F fail ex0 ex1 K l hl h0 h1 j m (i + 1) s2 (by omega) (by omega)
  rw [Jkb, Jwb, Int.toNat_natCast, Jaa (tt (by omega)), Jaa (tt2 (by omega) (by omega)), Jcz rc0 (show i < l.length by omega), Kx0, Jar (by omega) (by omega), Jwc]
  show _ = K (if Jku (l.getD i rc0) = 0 then _ else _)
  change (bif decide ((l.getD i rc0).1 ≥ 1) then _ else _) = _
  generalize l.getD i rc0 = r
  by_cases c1 : r.1 ≥ 1
  ·rw [Jaa (tt c1)]
   by_cases c2 : r.1 ≤ 4
   ·rw [tt c2, Jab (c := !true) rfl]
    by_cases c3 : (r.2.1.length : Int) > 65536
    ·rw [Jaa (tt c3), h0]
     have : Jku r = 5 := by unfold Jku; rw [if_pos ⟨c1, c2⟩, if_pos (by omega)]
     rw [this]; rfl
    ·rw [Jab (ff c3), if_pos (Kso.2 ⟨⟨c1, c2⟩, by omega⟩)]
     exact ih
   ·rw [ff c2, Jaa (c := !false) rfl, h0]
    have : Jku r = 1 := by unfold Jku; rw [if_neg (fun h => c2 h.2)]
    rw [this]; rfl
  ·rw [Jab (ff c1), h0]
   have : Jku r = 1 := by unfold Jku; rw [if_neg (fun h => c1 h.1)]
   rw [this]; rfl
theorem Kgr (l : List Rec) (_ : Jru l = true) : ∃ F, ∀ {X : Type} (fail : X) (ret : Int → X), Kwn F l fail ret = ret (Jlx l) := ⟨l.length + 1, fun fail ret => by
 unfold Kwn Jlx Kpk
 by_cases c : l.length > 1024
 ·rw [Jaa (tt (by omega)), if_pos c]
 ·rw [Jab (ff (by omega)), if_neg c]
  refine (Kqi (l.length + 1) fail _ _ ret l (by omega) (fun _ _ _ => rfl) (fun _ _ _ => rfl) l.length l.length 0 0 (by omega) (by omega)).trans ?_
  rw [List.drop_zero]⟩
theorem Kqj {l : List Rec} (h : Kpk l = 0) : l.length ≤ 1024 ∧ Kt2 l = 0 := by
 unfold Kpk at h
 by_cases c : l.length > 1024
 ·rw [if_pos c] at h; cases h
 ·rw [if_neg c] at h; exact ⟨by omega, h⟩
theorem Kx1 {r : Rec} (h : (1 ≤ r.1 ∧ r.1 ≤ 4) ∧ r.2.1.length ≤ 65536) : (Jl8 r).length ≤ 65552 := by
 have h1 := Jfl (Jfx r.1)
 have h2 := Jfl (Jfx r.2.1.length)
 unfold Jl8
 rw [List.length_append, List.length_append]; omega
theorem Kgs : ∀ {l : List Rec}, (∀ r, r ∈ l → (1 ≤ r.1 ∧ r.1 ≤ 4) ∧ r.2.1.length ≤ 65536) → (l.flatMap Jl8).length ≤ 65552 * l.length
 | [], _ => Nat.zero_le _
 | r :: l, h => by
  have h1 := Kx1 (h r List.mem_cons_self)
  have h2 := Kgs (l := l) fun x hx => h x (List.mem_cons_of_mem _ hx)
  rw [List.flatMap_cons, List.length_append, List.length_cons]; omega
theorem Ksp (l : List Rec) (i : Nat) (h : i < l.length) : (l.take (i + 1)).flatMap Jl8 = (l.take i).flatMap Jl8 ++ Jl8 (l.getD i rc0) := by
 rw [Jhm l i rc0 h, List.flatMap_append]; simp
def Jqe (l : List Rec) (i : Nat) : List UInt8 := J5t (Jfx l.length) ++ (l.take i).flatMap Jl8
theorem Ksq (l : List Rec) : Jqe l 0 = J5t (Jfx l.length) := by unfold Jqe; simp
theorem Kx2 (l : List Rec) : Jqe l l.length = Jx4 l := by unfold Jqe Jx4; rw [List.take_length]
theorem Ksr (l : List Rec) (i : Nat) (h : i < l.length) : Jqe l (i + 1) = Jqe l i ++ Jl8 (l.getD i rc0) := by unfold Jqe; rw [Ksp l i h, List.append_assoc]
theorem Kx3 {l : List Rec} (hl : l.length ≤ 1024) (h : Kt2 l = 0) (i : Nat) : (Jqe l i).length ≤ 68000000 := by
 have h1 := Jfl (Jfx l.length)
 have h2 := Kgs (l := l.take i) fun r hr => J1l h r (List.mem_of_mem_take hr)
 have h3 : (l.take i).length ≤ l.length := by rw [List.length_take]; omega
 unfold Jqe
 rw [List.length_append]; omega
theorem Kx4 (b : List UInt8) (r : Rec) : b ++ J5t (Jfx r.1) ++ J5t (Jfx r.2.1.length) ++ r.2.1 = b ++ Jl8 r := by
 unfold Jl8; rw [List.append_assoc, List.append_assoc]
theorem K6r {l : List Rec} (h : Kt2 l = 0) {i : Nat} (hi : i < l.length) : (1 ≤ (l.getD i rc0).1 ∧ (l.getD i rc0).1 ≤ 4) ∧ (l.getD i rc0).2.1.length ≤ 65536 := by
 rw [Jem hi]; exact J1l h _ (List.getElem_mem _)
theorem Kb0 (b : List UInt8) (x : Int) (h : Jn0 b 94 x = true) : ∃ F, ∀ {X : Type} (fail : X) (ret : List UInt8 → X), Kk7 F b x fail ret = ret (Ji8 b 94 x) := ⟨0, fun fail ret => by
 unfold Kk7
 rw [Jaa (c := Jfy b x) h]; rfl⟩
theorem Kb1 (b : List UInt8) (x : List UInt8) (h : Jt1 b 96 x = true) : ∃ F, ∀ {X : Type} (fail : X) (ret : List UInt8 → X), Kk8 F b x fail ret = ret (Jp9 b 96 x) := ⟨0, fun fail ret => by
 unfold Kk8
 rw [Jaa (c := Jeg b x) h]; rfl⟩
theorem Kqk {X : Type} (F : Nat) (fail : X) (ex0 : List Rec → Int → Int → List UInt8 → X) (K : List UInt8 → X) (l : List Rec) (hl : l.length ≤ 1024) (hg : Kt2 l = 0) (h0 : ∀ a i b, ex0 l a i b = K b) : ∀ (j m i : Nat), i + j = l.length → j ≤ m →
  Jfk F fail ex0 (m + 1) l (l.length : Nat) i (Jqe l i) = K (Jx4 l)
 | 0, m, i, hi, _ => by
  rw [Jfk, Jr5, Jab (ff (by omega)), h0, show i = l.length by omega, Kx2]
 | j + 1, 0, i, _, hm => absurd hm (by omega)
 | j + 1, m + 1, i, hi, hm => by
  have ih := Kqk F fail ex0 K l hl hg h0 j m (i + 1) (by omega) (by omega)
  have hr := K6r hg (show i < l.length by omega)
  have hb := Kx3 hl hg i
  have hs := Ksr l i (by omega)
  rw [Jfk, Jr5, Int.toNat_natCast, Jar (by omega) (by omega), Jwc]
  change (bif _ then bif _ then bif Jn0 (Jqe l i) _ (l.getD i rc0).1 then bif Jt1 (Ji8 (Jqe l i) _ (l.getD i rc0).1) _ (l.getD i rc0).2.1 then Jfk F fail ex0 (m + 1) l _ _ (Jp9 (Ji8 (Jqe l i) _ (l.getD i rc0).1) _ (l.getD i rc0).2.1) else _ else _ else _ else _) = _
  generalize l.getD i rc0 = r at hr hs
  have e : ∀ a b, Jp9 (Ji8 (Jqe l i) a r.1) b r.2.1 = Jqe l (i + 1) := fun _ _ => (Kx4 _ _).trans hs.symm
  have h1 := Jfl (Jfx r.1)
  refine Ja2 (tt (by omega)) (Ja2 (tt2 (by omega) (by omega)) (Ja2 (tt (by omega)) (Ja2 (tt ?_) ?_)))
  ·show (Jqe l i ++ J5t (Jfx r.1)).length + r.2.1.length ≤ _
   rw [List.length_append]; omega
  ·rw [e]; exact ih
theorem K6s {l : List Rec} (h : Kfh l = 0) : encV l = Jx4 l := if_pos h
theorem Kb2 (l : List Rec) (_ : Jvy l = true) : ∃ F, ∀ {X : Type} (fail : X) (ret : List UInt8 → Int → X), Kk9 F l fail ret = ret (Jcw l) (Jj2 l) := ⟨l.length + 1, fun fail ret => by
 unfold Kk9 Jcw Jj2 encV
 rw [Jaa (c := Jru l) rfl, show Jlx l = Kpk l from rfl]
 by_cases c : Kpk l = 0
 ·obtain ⟨hl, hg⟩ := Kqj c
  rw [Jab (Jhl c), Jaa (c := Jn0 _ _ _) (tt ⟨by simp, by omega, by omega⟩)]
  have e0 : ∀ a, Ji8 ([] : List UInt8) a ((l.length : Nat) : Int) = Jqe l 0 := fun _ => by rw [Ksq]; rfl
  rw [e0]
  refine (Kqk (l.length + 1) fail _ (fun b => bif decide ((b.length : Int) > 65536) then ret [] 5 else ret b 0) l hl hg (fun _ _ _ => rfl) l.length l.length 0 (by omega) (by omega)).trans ?_
  unfold Kfh
  rw [if_pos c]
  by_cases c2 : (Jx4 l).length > 65536
  ·rw [Jaa (tt (by omega)), if_pos c2, if_neg (by decide)]
  ·rw [Jab (ff (by omega)), if_neg c2, if_pos rfl]
 ·have : Kfh l = Kpk l := if_neg c
  rw [Jaa (Jkp c), this, if_neg c]⟩
theorem Kb3 {b : List UInt8} : (Jby b).2.1.length ≤ b.length := by
 have h := Kbj b
 unfold Jby
 simp only
 split
 ·simp
 ·split
  ·simp
  ·rw [List.length_drop]; omega
theorem Kql {X : Type} (F : Nat) (fail : X) (ex0 ex1 : Int → Int → Int → List UInt8 → List Rec → X) (K : List Rec → Int → X) (n : Nat) (hn : n ≤ 1024) (h0 : ∀ e i b out, ex0 e n i b out = K [] e) (h1 : ∀ e i b out, ex1 e n i b out = if b.length = 0 then K out 0 else K [] 3) : ∀ (j m i : Nat) (s3 : Int) (b : List UInt8) (out : List Rec), i + j = n → j ≤ m → b.length ≤ 65536 → out.length ≤ i →
  Jeu F fail ex0 ex1 (m + 1) s3 n i b out = K (K3u j b out).1 (K3u j b out).2
 | 0, m, i, s3, b, out, hi, _, _, _ => by
  rw [Jeu, Jr6, Jab (ff (by omega)), h1, K3u]
  by_cases c : b.length = 0
  ·rw [if_pos c, if_pos c]
  ·rw [if_neg c, if_neg c]
 | j + 1, 0, i, _, _, _, _, hm, _, _ => absurd hm (by omega)
 | j + 1, m + 1, i, s3, b, out, hi, hm, hb, ho => by
  have ih := fun s3 b out => Kql F fail ex0 ex1 K n hn h0 h1 j m (i + 1) s3 b out (by omega) (by omega)
  have hN := Joh b
  rw [Jeu, Jr6, Jar (by omega) (by omega), Jwc, Jaa (tt (by omega)), Jaa (c := Jef b) (tt (by omega)), K3u]
  rw [show Ja9 b = (Jb0 b).2.2 from rfl, show Jam b = (Jb0 b).2.1 from rfl, show Jan b = (Jb0 b).1 from rfl]
  by_cases c1 : (Jb0 b).2.2 = 0
  ·rw [Jaa (Jl7 c1), Jab (Jhl c1), if_neg (by omega)]
   by_cases c2 : (Jb0 b).1 ≥ 1
   ·by_cases c3 : (Jb0 b).1 ≤ 4
    ·have hB := Kb3 (b := (Jb0 b).2.1)
     rw [Jaa (tt c2), tt c3, Jab (c := !true) rfl, Jaa (c := Jff _) (tt (by omega)), if_pos ⟨c2, c3⟩]
     rw [show Jch (Jb0 b).2.1 = (Jby (Jb0 b).2.1).2.2 from rfl, show Jd0 (Jb0 b).2.1 = (Jby (Jb0 b).2.1).2.1 from rfl, show Jdz (Jb0 b).2.1 = (Jby (Jb0 b).2.1).1 from rfl]
     by_cases c4 : (Jby (Jb0 b).2.1).2.2 = 0
     ·have hlen : (out ++ [((Jb0 b).1, ((Jby (Jb0 b).2.1).1, ()))]).length = out.length + 1 := by rw [List.length_append, List.length_singleton]
      rw [Jaa (Jl7 c4), Jab (Jhl c4), if_neg (by omega), Jaa (Jds (by omega))]
      exact ih _ _ _ (by omega) (by omega)
     ·rw [Jab (Jpi c4), Jaa (Jkp c4), if_pos c4, h0]
    ·rw [Jaa (tt c2), ff c3, Jaa (c := !false) rfl, if_neg (fun h => c3 h.2), h0]
   ·rw [Jab (ff c2), if_neg (fun h => c2 h.1), h0]
  ·rw [Jab (Jpi c1), Jaa (Jkp c1), if_pos c1, h0]
theorem K6t {X : Type} (b : List UInt8) (out : List Rec) (K : List Rec → Int → X) : (bif decide ((b.length : Int) > 0) then K [] 3 else K out 0) = if b.length = 0 then K out 0 else K [] 3 := by
 by_cases c : b.length = 0
 ·rw [Jab (ff (by omega)), if_pos c]
 ·rw [Jaa (tt (by omega)), if_neg c]
theorem Kb4 (b : List UInt8) (_ : Jiw b = true) : ∃ F, ∀ {X : Type} (fail : X) (ret : List Rec → Int → X), Kla F b fail ret = ret (Jei b) (Jej b) := ⟨1025, fun fail ret => by
 unfold Kla Jei Jej Kkw
 by_cases c : b.length > 65536
 ·rw [Jaa (tt (by omega)), if_pos c]
 have hN := Joh b
 rw [Jab (ff (by omega)), if_neg c, Jaa (c := Jef b) (tt (by omega))]
 rw [show Ja9 b = (Jb0 b).2.2 from rfl, show Jam b = (Jb0 b).2.1 from rfl, show Jan b = (Jb0 b).1 from rfl]
 by_cases c1 : (Jb0 b).2.2 = 0
 ·rw [Jaa (Jl7 c1), Jab (Jhl c1), if_neg (by omega)]
  by_cases c2 : (Jb0 b).1 > 1024
  ·rw [Jaa (tt c2), if_pos c2]
  ·rw [Jab (ff c2), if_neg c2]
   have hn : (Jb0 b).1 = (((Jb0 b).1.toNat : Nat) : Int) := by omega
   rw [hn]
   refine (Kql 1025 fail _ _ ret _ (by omega) (fun _ _ _ _ => rfl) (fun _ _ b out => K6t b out ret) (Jb0 b).1.toNat 1024 0 0 _ _ (by omega) (by omega) (by omega) (by simp)).trans ?_
   rw [Int.toNat_natCast]
 ·rw [Jab (Jpi c1), Jaa (Jkp c1), if_pos c1]⟩
theorem Kqm {X : Type} (F : Nat) (fail : X) (ex0 ex1 : List Rec → Bool → Int → X) (K : Bool → X) (l : List Rec) (h0 : ∀ i, ex0 l false i = K false) (h1 : ∀ e i, ex1 l e i = K (decide ((l.length : Int) ≤ 60))) : ∀ (j m i : Nat) (s2 : Bool), i + j = 60 → j ≤ m →
  Jr7 F fail ex0 ex1 (m + 1) l s2 i = K (((l.drop i).take j).all (fun r => decide (r.2.1.length ≤ 300)) && decide (l.length ≤ 60))
 | 0, m, i, s2, hi, _ => by
  have e : decide ((l.length : Int) ≤ 60) = decide (l.length ≤ 60) := decide_eq_decide.2 (by omega)
  rw [Jr7, Ka2, List.take_zero, List.all_nil, Bool.true_and, ← e]
  by_cases c : (i : Int) < (l.length : Int)
  ·rw [Jaa (tt c), Jab (ff (by omega)), h1]
  ·rw [Jab (ff c), h1]
 | j + 1, 0, i, _, _, hm => absurd hm (by omega)
 | j + 1, m + 1, i, s2, hi, hm => by
  have ih := Kqm F fail ex0 ex1 K l h0 h1 j m (i + 1) s2 (by omega) (by omega)
  have e : decide ((l.length : Int) ≤ 60) = decide (l.length ≤ 60) := decide_eq_decide.2 (by omega)
  rw [Jr7, Ka2, Int.toNat_natCast, Jar (by omega) (by omega), Jwc]
  by_cases c : i < l.length
  ·rw [Jaa (tt (by omega)), Jaa (tt (by omega)), Jaa (tt2 (by omega) (by omega)), Jcz rc0 c, List.take_succ_cons, List.all_cons]
   change (bif decide (((l.getD i rc0).2.1.length : Int) > 300) then _ else _) = _
   generalize l.getD i rc0 = r
   by_cases c2 : (r.2.1.length : Int) > 300
   ·rw [Jaa (tt c2), h0, ff (show ¬ r.2.1.length ≤ 300 by omega), Bool.false_and, Bool.false_and]
   ·rw [Jab (ff c2), tt (show r.2.1.length ≤ 300 by omega), Bool.true_and]
    exact ih
  ·rw [Jab (ff (by omega)), h1, List.drop_eq_nil_of_le (by omega), e]; rfl
theorem Kss (l : List Rec) (_ : Kpl l = true) : ∃ F, ∀ {X : Type} (fail : X) (ret : Bool → X), uFew F l fail ret = ret (Kfi l) := ⟨61, fun fail ret => by
 unfold uFew Kfi
 refine (Kqm 61 fail _ _ ret l (fun _ => rfl) (fun _ _ => rfl) 60 60 0 false (by omega) (by omega)).trans ?_
 unfold K7i
 rw [List.drop_zero]
 by_cases c : l.length ≤ 60
 ·rw [List.take_of_length_le c]
 ·rw [ff c, Bool.and_false, Bool.and_false]⟩
theorem K82 {a b : Rec} : a = b ↔ a.1 = b.1 ∧ a.2.1 = b.2.1 := ⟨fun h => by rw [h]; exact ⟨rfl, rfl⟩, fun h => by
 obtain ⟨a1, a2, a3⟩ := a
 obtain ⟨b1, b2, b3⟩ := b
 obtain ⟨h1, h2⟩ := h
 cases h1; cases h2; rfl⟩
theorem Kgt {X : Type} (F : Nat) (fail : X) (ex0 ex1 : List Rec → List Rec → Bool → Int → X) (K : Bool → X) (a b : List Rec) (hab : a.length = b.length) (ha : a.length ≤ 1000000000000) (h0 : ∀ i, ex0 a b false i = K false) (h1 : ∀ e i, ex1 a b e i = K true) : ∀ (j m i : Nat) (s4 : Bool), i + j = a.length → j ≤ m →
  Jmy F fail ex0 ex1 (m + 1) a b s4 i = K (decide (a.drop i = b.drop i))
 | 0, m, i, s4, hi, _ => by
  rw [Jmy, J1h, Jab (ff (by omega)), h1, List.drop_eq_nil_of_le (by omega), List.drop_eq_nil_of_le (by omega)]; rfl
 | j + 1, 0, i, _, _, hm => absurd hm (by omega)
 | j + 1, m + 1, i, s4, hi, hm => by
  have ih := Kgt F fail ex0 ex1 K a b hab ha h0 h1 j m (i + 1) s4 (by omega) (by omega)
  have ba : (decide ((0 : Int) ≤ (i : Int)) && decide ((i : Int) < ((a.length : Nat) : Int))) = true := tt2 (by omega) (by omega)
  have bb : (decide ((0 : Int) ≤ (i : Int)) && decide ((i : Int) < ((b.length : Nat) : Int))) = true := tt2 (by omega) (by omega)
  rw [Jmy, J1h, Int.toNat_natCast, Jar (by omega) (by omega), Jwc, Jcz rc0 (show i < a.length by omega), Jcz rc0 (show i < b.length by omega)]
  refine Ja2 (tt (by omega)) (Ja2 ba (Ja2 bb ?_))
  change (bif (a.getD i rc0).1 != (b.getD i rc0).1 then _ else bif _ then bif _ then bif !((a.getD i rc0).2.1 == (b.getD i rc0).2.1) then _ else _ else _ else _) = _
  generalize a.getD i rc0 = x
  generalize b.getD i rc0 = y
  by_cases c1 : x.1 = y.1
  ·rw [Jab (Jhl c1)]
   refine Ja2 ba (Ja2 bb ?_)
   by_cases c2 : x.2.1 = y.2.1
   ·have e : x = y := K82.2 ⟨c1, c2⟩
    rw [show (x.2.1 == y.2.1) = true by simpa using c2, Jab (c := !true) rfl, ih]
    congr 1
    exact decide_eq_decide.2 ⟨fun h => by rw [e, h], fun h => (List.cons.inj h).2⟩
   ·rw [show (x.2.1 == y.2.1) = false by simpa using c2, Jaa (c := !false) rfl, h0, ff (fun h => c2 (by rw [(List.cons.inj h).1]))]
  ·rw [Jaa (Jkp c1), h0, ff (fun h => c1 (by rw [(List.cons.inj h).1]))]
theorem Kl9 (a b : List Rec) (h : Kak a b = true) : ∃ F, ∀ {X : Type} (fail : X) (ret : Bool → X), K5v F a b fail ret = ret (J20 a b) := ⟨a.length + 1, fun fail ret => by
 simp only [Kak, K0i, Bool.and_eq_true, decide_eq_true_eq] at h
 unfold K5v J20
 by_cases c : a.length = b.length
 ·rw [Jab (Jhl (by omega))]
  refine (Kgt (a.length + 1) fail _ _ ret a b c h.1 (fun _ => rfl) (fun _ _ => rfl) a.length a.length 0 false (by omega) (by omega)).trans ?_
  rw [List.drop_zero, List.drop_zero]
 ·rw [Jaa (Jkp (by omega)), ff (fun h => c (by rw [h]))]⟩
theorem J8c {X : Type} (F : Nat) (fail : X) (ex0 ex1 : List (List Rec) → List (List Rec) → Bool → Int → X) (K : Bool → X) (a b : List (List Rec)) (hab : a.length = b.length) (ha : Kfj a = true) (hb : Kfj b = true) (h0 : ∀ i, ex0 a b false i = K false) (h1 : ∀ e i, ex1 a b e i = K true) : ∀ (j m i : Nat) (s4 : Bool), i + j = a.length → j ≤ m →
  Jg9 F fail ex0 ex1 (m + 1) a b s4 i = K (decide (a.drop i = b.drop i))
 | 0, m, i, s4, hi, _ => by
  rw [Jg9, Job, Jab (ff (by omega)), h1, List.drop_eq_nil_of_le (by omega), List.drop_eq_nil_of_le (by omega)]; rfl
 | j + 1, 0, i, _, _, hm => absurd hm (by omega)
 | j + 1, m + 1, i, s4, hi, hm => by
  have ih := J8c F fail ex0 ex1 K a b hab ha hb h0 h1 j m (i + 1) s4 (by omega) (by omega)
  simp only [Kfj, Bool.and_eq_true, decide_eq_true_eq] at ha hb
  have ba : (decide ((0 : Int) ≤ (i : Int)) && decide ((i : Int) < ((a.length : Nat) : Int))) = true := tt2 (by omega) (by omega)
  have bb : (decide ((0 : Int) ≤ (i : Int)) && decide ((i : Int) < ((b.length : Nat) : Int))) = true := tt2 (by omega) (by omega)
  have pa : K0i (a.getD i []) = true := by rw [Jem (show i < a.length by omega)]; exact List.all_eq_true.1 ha.2 _ (List.getElem_mem _)
  have pb : K0i (b.getD i []) = true := by rw [Jem (show i < b.length by omega)]; exact List.all_eq_true.1 hb.2 _ (List.getElem_mem _)
  rw [Jg9, Job, Int.toNat_natCast, Jar (by omega) (by omega), Jwc, Jcz ([] : List Rec) (show i < a.length by omega), Jcz ([] : List Rec) (show i < b.length by omega)]
  refine Ja2 (tt (by omega)) (Ja2 ba (Ja2 bb ?_))
  generalize a.getD i [] = x at pa
  generalize b.getD i [] = y at pb
  refine Ja2 (show (K0i x && K0i y) = true by rw [pa, pb]; rfl) ?_
  rw [show J20 x y = decide (x = y) from rfl]
  by_cases c : x = y
  ·rw [tt c, Jab (c := !true) rfl, ih]
   congr 1
   exact decide_eq_decide.2 ⟨fun h => by rw [c, h], fun h => (List.cons.inj h).2⟩
  ·rw [ff c, Jaa (c := !false) rfl, h0, ff (fun h => c (List.cons.inj h).1)]
theorem J54 (a b : List (List Rec)) (h : Jek a b = true) : ∃ F, ∀ {X : Type} (fail : X) (ret : Bool → X), Ka3 F a b fail ret = ret (Jel a b) := ⟨a.length + 1, fun fail ret => by
 rw [Jek, Bool.and_eq_true] at h
 unfold Ka3 Jel
 by_cases c : a.length = b.length
 ·rw [Jab (Jhl (by omega))]
  refine (J8c (a.length + 1) fail _ _ ret a b c h.1 h.2 (fun _ => rfl) (fun _ _ => rfl) a.length a.length 0 false (by omega) (by omega)).trans ?_
  rw [List.drop_zero, List.drop_zero]
 ·rw [Jaa (Jkp (by omega)), ff (fun h => c (by rw [h]))]⟩
end Go.AI
