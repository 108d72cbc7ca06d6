/- Texts of the proof, joined: DiskP3. Names of our own are shortened by program; the long ones stand in wip/. -/
import Derived.Test.YtnmidfcefljafaaGreatQpDiskP2
namespace Go.AI
open Go
theorem J66 {a b : Int} (h : a = b) : Jct (.int .i64) a b = true := Jmg h
theorem Kcj {a b : Int} (h : a ≠ b) : Jct (.int .i64) a b = false := Jmt h
theorem Jsn {β : Type} (k : Int) (v : β) : ∀ m : List (Int × β), Jdj (Jct (.int .i64)) k (Jj8 (Jct (.int .i64)) k v m) = some v
 | [] => by rw [Jj8, Jdj, J66 rfl]; rfl
 | e :: m => by
  rw [Jj8]
  by_cases h : k = e.1
  ·rw [J66 h, cond_true, Jdj, J66 rfl]; rfl
  ·rw [Kcj h, cond_false, Jdj, Kcj h, cond_false, Jsn k v m]
theorem Jov {β : Type} {k k' : Int} (v : β) (hk : k ≠ k') : ∀ m : List (Int × β), Jdj (Jct (.int .i64)) k (Jj8 (Jct (.int .i64)) k' v m) = Jdj (Jct (.int .i64)) k m
 | [] => by show (bif Jct (.int .i64) k k' then some v else none) = none; rw [Kcj hk]; rfl
 | e :: m => by
  rw [Jj8]
  by_cases h : k' = e.1
  ·rw [J66 h, cond_true, Jdj, Kcj hk, cond_false, Jdj, Kcj (by omega), cond_false]
  ·rw [Kcj h, cond_false, Jdj, Jdj, Jov v hk m]
theorem J2b {β : Type} (k : Int) (v : β) : ∀ m : List (Int × β), (Jj8 (Jct (.int .i64)) k v m).length ≤ m.length + 1
 | [] => by simp [Jj8]
 | e :: m => by
  rw [Jj8]
  by_cases h : k = e.1
  ·rw [J66 h, cond_true]; simp
  ·rw [Kcj h, cond_false]; have := J2b k v m; simp only [List.length_cons]; omega
theorem Krg {β : Type} (k : Int) (u v : β) : ∀ m : List (Int × β), Jj8 (Jct (.int .i64)) k v (Jj8 (Jct (.int .i64)) k u m) = Jj8 (Jct (.int .i64)) k v m
 | [] => by show (bif Jct (.int .i64) k k then _ else _) = _; rw [J66 rfl]; rfl
 | e :: m => by
  rw [Jj8, Jj8]
  by_cases h : k = e.1
  ·rw [J66 h, cond_true, cond_true, Jj8, J66 rfl, cond_true]
  ·rw [Kcj h, cond_false, cond_false, Jj8, Kcj h, cond_false, Krg k u v m]
def Jqq (l : List Jlz) (a : Int) : Bool := l.any fun p => p.1 == a
def Juk (s : List Ja4) (l : List Jlz) (a : Int) : List Ja4 := s.getD a.toNat z16 :: (l.filter fun p => p.1 == a).map fun p => p.2.1
theorem K3w (d : DK) (a : Int) : Kl2 d a = Juk d.1 d.2.1 a := rfl
theorem Kck (s : List Ja4) (l : List Jlz) (a : Int) : 1 ≤ (Juk s l a).length ∧ (Juk s l a).length ≤ l.length + 1 := by
 unfold Juk
 have := List.length_filter_le (fun p : Jlz => p.1 == a) l
 rw [List.length_cons, List.length_map]; omega
theorem K3x (l : List Jlz) (p : Jlz) (a : Int) : Jqq (l ++ [p]) a = (Jqq l a || (p.1 == a)) := by simp [Jqq, List.any_append]
theorem Kys (s : List Ja4) (l : List Jlz) (p : Jlz) (a : Int) : Juk s (l ++ [p]) a = if p.1 = a then Juk s l a ++ [p.2.1] else Juk s l a := by
 unfold Juk
 rw [List.filter_append]
 by_cases h : p.1 = a
 ·rw [if_pos h, List.filter_cons_of_pos (by simpa using h)]; simp
 ·rw [if_neg h, List.filter_cons_of_neg (by simpa using h)]; simp
theorem Jul : ∀ (l : List Jlz) (seen : List Int) (p : Jlz), Jhn (l ++ [p]) seen = Jhn l seen ++ (if Jqq l p.1 || seen.contains p.1 then [] else [p.1])
 | [], seen, p => by
  show Jhn [p] seen = [] ++ _
  unfold Jhn Jqq
  cases h : seen.contains p.1 <;> simp [Jhn]
 | x :: l, seen, p => by
  rw [List.cons_append]
  unfold Jhn
  split
  ·rename_i hx
   rw [Jul l seen p]
   congr 2
   by_cases e : x.1 = p.1
   ·rw [e] at hx; rw [hx]; simp
   ·simp [Jqq, e]
  ·rename_i hx
   rw [Jul l (x.1 :: seen) p, List.cons_append]
   congr 3
   by_cases e : x.1 = p.1
   ·simp [Jqq, e]
   ·have e' : ¬ p.1 = x.1 := fun h => e h.symm
    simp [Jqq, e, e']
theorem Jso : ∀ (l : List Jlz) (seen : List Int) (a : Int), a ∈ Jhn l seen → Jqq l a = true
 | [], _, _, h => by cases h
 | x :: l, seen, a, h => by
  unfold Jhn at h
  split at h
  ·have := Jso l seen a h; simp only [Jqq, List.any_cons] at this ⊢; rw [this]; simp
  ·rcases List.mem_cons.1 h with rfl | h
   ·simp [Jqq]
   ·have := Jso l _ a h; simp only [Jqq, List.any_cons] at this ⊢; rw [this]; simp
theorem Jsp : ∀ (l : List Jlz) (seen : List Int), (Jhn l seen).length ≤ l.length
 | [], _ => Nat.le_refl _
 | x :: l, seen => by
  unfold Jhn
  split
  ·have := Jsp l seen; rw [List.length_cons]; omega
  ·have := Jsp l (x.1 :: seen); rw [List.length_cons, List.length_cons]; omega
theorem K7w {l : List Jlz} {a : Int} (h : Jqq l a = true) : ∃ p, p ∈ l ∧ p.1 = a := by
 obtain ⟨p, h1, h2⟩ := List.any_eq_true.1 h
 exact ⟨p, h1, by simpa using h2⟩
theorem K5w {n : Nat} {l : List Jlz} {a : Int} (ho : okP n l = true) (h : Jqq l a = true) : 0 ≤ a ∧ a < n := by
 obtain ⟨p, h1, rfl⟩ := K7w h
 exact Kmp.1 ho p h1
def Kyt (s : List Ja4) (l : List Jlz) (m : List (Int × List Ja4)) : Prop := ∀ a, Jdj (Jct (.int .i64)) a m = if Jqq l a then some (Juk s l a) else none
theorem J9b {s : List Ja4} {l : List Jlz} {m m' : List (Int × List Ja4)} (p : Jlz) (h : Kyt s l m) (hs : Jdj (Jct (.int .i64)) p.1 m' = some (Juk s l p.1 ++ [p.2.1])) (ho : ∀ a, a ≠ p.1 → Jdj (Jct (.int .i64)) a m' = Jdj (Jct (.int .i64)) a m) : Kyt s (l ++ [p]) m' := by
 intro a
 rw [K3x, Kys]
 by_cases e : p.1 = a
 ·subst e
  rw [hs, Jmg rfl, Bool.or_true, if_pos rfl, if_pos rfl]
 ·rw [ho a (fun h => e h.symm), h a, Jmt e, Bool.or_false, if_neg e]
theorem Krh {X : Type} (F : Nat) (fail : X) (ex0 : List Int → List Jlz → Int → Int → DK → DK → List (Int × List Ja4) → List Int → X) (ch : List Int) (d s4 : DK) (hs : d.2.1.length ≤ 100000000) (ho : okP d.1.length d.2.1 = true) (K : X)
  (hK : ∀ m, Kyt d.1 d.2.1 m → ex0 ch d.2.1 (d.2.1.length : Nat) (d.2.1.length : Nat) d s4 m (Jhn d.2.1 []) = K) : ∀ (j n i : Nat) (m : List (Int × List Ja4)), i + j = d.2.1.length → j ≤ n → Kyt d.1 (d.2.1.take i) m → m.length ≤ i →
  Jke F fail ex0 (n + 1) ch d.2.1 (d.2.1.length : Nat) i d s4 m (Jhn (d.2.1.take i) []) = K
 | 0, n, i, m, hi, _, hm, _ => by
  have e : i = d.2.1.length := by omega
  subst e
  rw [Jke, Jwf]
  rw [List.take_length] at hm ⊢
  rw [Jab (ff (by omega))]
  exact hK m hm
 | j + 1, 0, i, _, _, hm, _, _ => absurd hm (by omega)
 | j + 1, n + 1, i, m, hi, hn, hm, hl => by
  have ih := fun m' => Krh F fail ex0 ch d s4 hs ho K hK j n (i + 1) m' (by omega) (by omega)
  rw [Jhm _ i ((0 : Int), (z16, ())) (by omega)] at ih
  have hmem : d.2.1.getD i ((0 : Int), (z16, ())) ∈ d.2.1 := by rw [Jdx (show i < d.2.1.length by omega)]; exact List.getElem_mem _
  have hq := Kmp.1 ho _ hmem
  have hfl := Jsp (d.2.1.take i) []
  have htl : (d.2.1.take i).length = i := by rw [List.length_take]; omega
  rw [Jke, Jwf]
  rw [Int.toNat_natCast, Jaa (tt (by omega)), Jaa (tt2 (by omega) (by omega))]
  generalize d.2.1.getD i ((0 : Int), (z16, ())) = p at ih hq ⊢
  have hv := Kck d.1 (d.2.1.take i) p.1
  have hf := hm p.1
  rw [Jul] at ih
  rw [Jao (by omega) (by omega), Jte]
  cases hh : Jqq (d.2.1.take i) p.1 with
  | false =>
   rw [hh] at ih hf
   have hf : Jdj (Jct (.int .i64)) p.1 m = none := hf
   have hv0 : Juk d.1 (d.2.1.take i) p.1 = [d.1.getD p.1.toNat z16] := by
    unfold Juk
    rw [List.filter_eq_nil_iff.2 (fun x hx => by
     have := List.any_eq_false.1 hh x hx
     simpa using this)]; rfl
   have hput := Jsn p.1 [d.1.getD p.1.toNat z16] m
   have hl2 := J2b p.1 [d.1.getD p.1.toNat z16] m
   rw [Jaa (c := Option.isNone (Jdj (Jct (.int .i64)) p.1 m)) (by rw [hf]; rfl), Jaa (Jea (by rw [List.length_append]; simp only [List.length_cons, List.length_nil]; omega)), Jaa (tt2 hq.1 hq.2), Jaa (tt (by unfold big; omega)), hput, Jaa (c := Option.isSome _) rfl]
   simp only [Option.getD_some, List.singleton_append]
   rw [Jaa (Jea (by simp only [List.length_cons, List.length_nil]; omega)), Jaa (by
    rw [show Jct (.int .i64) p.1 p.1 = true from J66 rfl, Bool.true_and, tt (by simp only [List.length_cons, List.length_nil]; omega), Bool.true_and]
    exact tt (by unfold big; omega))]
   refine ih _ (J9b p hm ?_ (fun a ha => ?_)) ?_
   ·rw [Jsn, hv0]; rfl
   ·rw [Jov _ ha, Jov _ ha]
   ·rw [Krg]; have := J2b p.1 [d.1.getD p.1.toNat z16, p.2.1] m; omega
  | true =>
   rw [hh] at ih hf
   have hf : Jdj (Jct (.int .i64)) p.1 m = some (Juk d.1 (d.2.1.take i) p.1) := hf
   have hl2 := J2b p.1 (Juk d.1 (d.2.1.take i) p.1 ++ [p.2.1]) m
   rw [Jab (c := Option.isNone (Jdj (Jct (.int .i64)) p.1 m)) (by rw [hf]; rfl), hf, Jaa (c := Option.isSome _) rfl]
   simp only [Option.getD_some]
   rw [Jaa (Jea (by rw [List.length_append]; simp only [List.length_cons, List.length_nil]; omega)), Jaa (by
    rw [show Jct (.int .i64) p.1 p.1 = true from J66 rfl, Bool.true_and, tt (by rw [List.length_append]; simp only [List.length_cons, List.length_nil]; omega), Bool.true_and]
    exact tt (by unfold big; omega))]
   rw [show (true || ([] : List Int).contains p.1) = true from rfl, if_pos rfl, List.append_nil] at ih
   exact ih _ (J9b p hm (Jsn _ _ _) (fun a ha => Jov _ ha _)) (by omega)
theorem Kgy (ch : List Int) (n : Nat) (h : 1 ≤ n) : 0 ≤ K9e ch n ∧ K9e ch n < n := by
 unfold K9e
 cases ch with
 | nil => exact ⟨Int.le_refl _, by show (0 : Int) < _; omega⟩
 | cons c _ => exact ⟨Int.emod_nonneg _ (by omega), Int.emod_lt_of_pos _ (by omega)⟩
theorem Kcl (d : DK) : ∀ (l : List Int) (s : List Int × List Ja4), (l.foldl (J3p d) s).1.length ≤ s.1.length ∧ (l.foldl (J3p d) s).2.length = s.2.length
 | [], s => ⟨Nat.le_refl _, rfl⟩
 | a :: l, s => by
  obtain ⟨h1, h2⟩ := Kcl d l (J3p d s a)
  rw [List.foldl_cons]
  refine ⟨Nat.le_trans h1 ?_, h2.trans ?_⟩
  ·show s.1.tail.length ≤ _; rw [List.length_tail]; omega
  ·show (List.set s.2 _ _).length = _; rw [List.length_set]
theorem Kri {X : Type} (F : Nat) (fail : X) (ex : List Int → Int → Int → DK → List (Int × List Ja4) → (List Jlz × Unit) → List Ja4 → List Int → X) (d s4 : DK) (m : List (Int × List Ja4)) (out : List Jlz × Unit) (pl : List Int) (hm : Kyt d.1 d.2.1 m) (hp : ∀ a, a ∈ pl → Jqq d.2.1 a = true) (ho : okP d.1.length d.2.1 = true) (hs : d.2.1.length ≤ 100000000) (hl : pl.length ≤ 100000000) : ∀ (j n i : Nat) (ch : List Int) (h3 : List Ja4), i + j = pl.length → j ≤ n → h3.length = d.1.length →
  Jkf F fail ex (n + 1) ch (pl.length : Nat) i s4 m out h3 pl = ex ((pl.drop i).foldl (J3p d) (ch, h3)).1 (pl.length : Nat) (pl.length : Nat) s4 m out ((pl.drop i).foldl (J3p d) (ch, h3)).2 pl
 | 0, n, i, ch, h3, hi, _, _ => by
  have e : i = pl.length := by omega
  subst e
  rw [Jkf, Jwg]
  rw [Jab (ff (by omega)), List.drop_length]; rfl
 | j + 1, 0, i, _, _, _, hm, _ => absurd hm (by omega)
 | j + 1, n + 1, i, ch, h3, hi, hn, h3l => by
  have ih := fun ch' h3' => Kri F fail ex d s4 m out pl hm hp ho hs hl j n (i + 1) ch' h3' (by omega) (by omega)
  have hmem : pl.getD i 0 ∈ pl := by rw [Jdx (show i < pl.length by omega)]; exact List.getElem_mem _
  have hh := hp _ hmem
  have hq := K5w ho hh
  rw [Jkf, Jwg]
  rw [Int.toNat_natCast, Jaa (tt (by omega)), Jaa (tt2 (by omega) (by omega)), Jcx (0 : Int) (show i < pl.length by omega), List.foldl_cons]
  generalize pl.getD i 0 = a at hh hq ⊢
  have hf := hm a
  rw [hh, if_pos rfl] at hf
  have hv := Kck d.1 d.2.1 a
  have hd := Kgy ch (Juk d.1 d.2.1 a).length hv.1
  rw [hf, Option.getD_some]
  unfold Jic Jmu Jqe
  rw [Int.toNat_natCast, Jaa (tt (by omega)), Jaa (tt2 hd.1 hd.2), Jaa (tt2 hq.1 (by omega)), Jao (by omega) (by omega), Jte]
  exact ih _ _ (by rw [List.length_set]; exact h3l)
theorem Qah {d : DK} {ch : List Int} : (Jl0 d && decide (ch.length ≤ 1000000000)) = true ↔ (d.1.length ≤ 1000000 ∧ d.2.1.length ≤ 100000000) ∧ ch.length ≤ 1000000000 := by rw [Bool.and_eq_true, Jdq, decide_eq_true_eq]
theorem Kgz (d : DK) (ch : List Int) (h : Jv7 d ch = true) : ∃ F, ∀ {X : Type} (fail : X) (ret : DK → List Int → Int → X), Kx8 F d ch fail ret = ret (Jqf d ch) (Jqg d ch) (Jqh d ch) := ⟨d.2.1.length + 1, fun fail ret => by
 have h := Qah.1 h
 unfold Kx8 Jqf Jqg Jqh Jtb Jes
 rw [Jaa (c := Jip d) (Jdq.2 (by omega))]
 cases hk : okD d with
 | false => rw [Kcg hk]; rfl
 | true =>
  have ho := (Jot.1 hk).2
  have hfl := Jsp d.2.1 []
  rw [Krd hk, Jab (Jgi rfl), if_pos rfl]
  refine Krh (d.2.1.length + 1) fail _ ch d _ h.1.2 ho _ (fun m hm => ?_) d.2.1.length d.2.1.length 0 [] (by omega) (Nat.le_refl _) (fun a => by rw [List.take_zero]; rfl) (Nat.zero_le _)
  rw [Jaa (c := Jho d.1) (tt (by omega))]
  refine (Kri (d.2.1.length + 1) fail _ d _ m _ (Jhn d.2.1 []) hm (fun a ha => Jso _ _ a ha) ho h.1.2 (by omega) (Jhn d.2.1 []).length d.2.1.length 0 ch d.1 (by omega) (by omega) rfl).trans ?_
  rw [List.drop_zero]
  have hc := (Kcl d (Jhn d.2.1 []) (ch, d.1)).1
  rw [Jaa (c := J3q _) (tt (by have : ((ch, d.1) : List Int × List Ja4).1.length = ch.length := rfl; omega))]
  rfl⟩
theorem Krj : ∀ (l : List DOp) (n : Nat), Kbn (l.take n) ≤ Kbn l
 | [], n => by rw [List.take_nil]; exact Nat.le_refl _
 | x :: l, 0 => Nat.zero_le _
 | x :: l, n + 1 => by
  rw [List.take_succ_cons]
  show x.2.2.1.length + Kbn (l.take n) ≤ x.2.2.1.length + Kbn l
  have := Krj l n; omega
theorem Qai : ∀ (l : List DOp) (d : DK) (i : Int), okD d = true → (goD d l i).2.2 = 0 → okD (goD d l i).1 = true ∧ (goD d l i).1.1.length = d.1.length ∧ (goD d l i).1.2.1.length ≤ d.2.1.length + Kbn l
 | [], d, i, h, _ => ⟨h, rfl, Nat.le_add_right _ _⟩
 | op :: l, d, i, h, he => by
  rw [Kmu] at he ⊢
  by_cases c : (Jjo d op).2 = 0
  ·rw [if_pos c] at he ⊢
   obtain ⟨q1, q2, q3⟩ := Kyq h op c
   obtain ⟨r1, r2, r3⟩ := Qai l _ _ q1 he
   refine ⟨r1, r2.trans q2, ?_⟩
   show _ ≤ _ + (op.2.2.1.length + Kbn l)
   omega
  ·rw [if_neg c] at he; exact absurd he c
theorem K5x : ∀ (l : List DOp) (d : DK) (i : Int), (goD d l i).2.2 ≠ 0 → (goD d l i).1 = dk0
 | [], d, i, h => absurd rfl h
 | op :: l, d, i, h => by
  rw [Kmu] at h ⊢
  by_cases c : (Jjo d op).2 = 0
  ·rw [if_pos c] at h ⊢; exact K5x l _ _ h
  ·rw [if_neg c]
theorem K7x {d : DK} {l : List DOp} (h : (Jn4 d l).2.2 ≠ 0) : (Jn4 d l).1 = dk0 := by
 unfold Jn4 at h ⊢
 cases hk : okD d with
 | false => rfl
 | true => rw [hk, if_pos rfl] at h; rw [if_pos rfl]; exact K5x l d 0 h
theorem Qaj {d : DK} {l : List DOp} (h : (Jn4 d l).2.2 = 0) : okD d = true ∧ okD (Jn4 d l).1 = true ∧ (Jn4 d l).1.1.length = d.1.length ∧ (Jn4 d l).1.2.1.length ≤ d.2.1.length + Kbn l := by
 unfold Jn4 at h ⊢
 cases hk : okD d with
 | false => rw [hk] at h; cases h
 | true => rw [hk, if_pos rfl] at h; rw [if_pos rfl]; exact ⟨rfl, Qai l d 0 hk h⟩
theorem Kyu {d : DK} {l : List DOp} (h : Kts d l = true) : Jl0 (Jn4 d l).1 = true := by
 have h := Juj.1 h
 by_cases c : (Jn4 d l).2.2 = 0
 ·have := Qaj c; exact Jdq.2 (by omega)
 ·rw [K7x c]; rfl
theorem Kg0 {d : DK} {l : List DOp} (h : Kts d l = true) (n : Nat) : Kts d (l.take n) = true := by
 have h := Juj.1 h
 have := Krj l n
 have : (l.take n).length ≤ l.length := by rw [List.length_take]; omega
 exact Juj.2 (by omega)
theorem K7y {d : DK} {l : List DOp} {ch : List Int} : K7e d l ch = true ↔ Kts d l = true ∧ ch.length ≤ 1000000000 := by rw [K7e, Bool.and_eq_true, decide_eq_true_eq]
theorem J0y (d : DK) (l : List DOp) (after : Int) (ch : List Int) (h : Jqi d l after ch = true) : ∃ F, ∀ {X : Type} (fail : X) (ret : DK → List Int → Int → X), Jyl F d l after ch fail ret = ret (Jaj d l after ch) (Jbq d l after ch) (Jjp d l after ch) := ⟨0, fun fail ret => by
 obtain ⟨h1, h2⟩ := K7y.1 h
 have hr := Juj.1 h1
 unfold Jyl Jaj Jbq Jjp Kvw Jes Jn6 Jib Jqf Jqg Jqh
 rw [Jaa (c := Jip d) (Jdq.2 (by omega))]
 cases hk : okD d with
 | false => rw [Kcg hk]; rfl
 | true =>
  rw [Krd hk, Jab (Jgi rfl), if_pos rfl]
  by_cases c1 : after < 0
  ·rw [Jaa (tt c1), if_neg (by omega)]; rfl
  by_cases c2 : after > (l.length : Int)
  ·rw [Jab (ff c1), Jaa (tt c2), if_neg (by omega)]; rfl
  rw [Jab (ff c1), Jab (ff c2), Jaa (tt2 (by omega) (by omega)), if_pos (by omega), Jaa (c := J3s d _) (Kg0 h1 _)]
  by_cases c3 : (Jn4 d (List.take after.toNat l)).2.2 = 0
  ·rw [Jab (Jgi c3), if_pos c3, Jaa (c := Jv7 _ _) (by unfold Jv7; rw [Kyu (Kg0 h1 _), Bool.true_and]; exact tt h2)]
  ·rw [Jaa (Jh9 c3), if_neg c3]; rfl⟩
end Go.AI
