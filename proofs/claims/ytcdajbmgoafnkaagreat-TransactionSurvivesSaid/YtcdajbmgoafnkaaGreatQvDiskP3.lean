/- Texts of the proof, joined: DiskP3. Names of our own are shortened by program; the long ones stand in wip/. -/
import Derived.Test.YtcdajbmgoafnkaaGreatQvDiskP2
namespace Go.AI
open Go
theorem J6v {a b : Int} (h : a = b) : Jdc (.int .i64) a b = true := Jju h
theorem Kb5 {a b : Int} (h : a ≠ b) : Jdc (.int .i64) a b = false := Jjv h
theorem Jst {β : Type} (k : Int) (v : β) : ∀ m : List (Int × β), Jdu (Jdc (.int .i64)) k (Jki (Jdc (.int .i64)) k v m) = some v
 | [] => by rw [Jki, Jdu, J6v rfl]; rfl
 | e :: m => by
  rw [Jki]
  by_cases h : k = e.1
  ·rw [J6v h, cond_true, Jdu, J6v rfl]; rfl
  ·rw [Kb5 h, cond_false, Jdu, Kb5 h, cond_false, Jst k v m]
theorem Joz {β : Type} {k k' : Int} (v : β) (hk : k ≠ k') : ∀ m : List (Int × β), Jdu (Jdc (.int .i64)) k (Jki (Jdc (.int .i64)) k' v m) = Jdu (Jdc (.int .i64)) k m
 | [] => by show (bif Jdc (.int .i64) k k' then some v else none) = none; rw [Kb5 hk]; rfl
 | e :: m => by
  rw [Jki]
  by_cases h : k' = e.1
  ·rw [J6v h, cond_true, Jdu, Kb5 hk, cond_false, Jdu, Kb5 (by omega), cond_false]
  ·rw [Kb5 h, cond_false, Jdu, Jdu, Joz v hk m]
theorem J13 {β : Type} (k : Int) (v : β) : ∀ m : List (Int × β), (Jki (Jdc (.int .i64)) k v m).length ≤ m.length + 1
 | [] => by simp [Jki]
 | e :: m => by
  rw [Jki]
  by_cases h : k = e.1
  ·rw [J6v h, cond_true]; simp
  ·rw [Kb5 h, cond_false]; have := J13 k v m; simp only [List.length_cons]; omega
theorem Kql {β : Type} (k : Int) (u v : β) : ∀ m : List (Int × β), Jki (Jdc (.int .i64)) k v (Jki (Jdc (.int .i64)) k u m) = Jki (Jdc (.int .i64)) k v m
 | [] => by show (bif Jdc (.int .i64) k k then _ else _) = _; rw [J6v rfl]; rfl
 | e :: m => by
  rw [Jki, Jki]
  by_cases h : k = e.1
  ·rw [J6v h, cond_true, cond_true, Jki, J6v rfl, cond_true]
  ·rw [Kb5 h, cond_false, cond_false, Jki, Kb5 h, cond_false, Kql k u v m]
def Jqy (l : List Jl9) (a : Int) : Bool := l.any fun p => p.1 == a
def Juw (s : List Jbe) (l : List Jl9) (a : Int) : List Jbe := s.getD a.toNat z16 :: (l.filter fun p => p.1 == a).map fun p => p.2.1
theorem K29 (d : DK) (a : Int) : Klg d a = Juw d.1 d.2.1 a := rfl
theorem Kb6 (s : List Jbe) (l : List Jl9) (a : Int) : 1 ≤ (Juw s l a).length ∧ (Juw s l a).length ≤ l.length + 1 := by
 unfold Juw
 have := List.length_filter_le (fun p : Jl9 => p.1 == a) l
 rw [List.length_cons, List.length_map]; omega
theorem K3a (l : List Jl9) (p : Jl9) (a : Int) : Jqy (l ++ [p]) a = (Jqy l a || (p.1 == a)) := by simp [Jqy, List.any_append]
theorem Kxv (s : List Jbe) (l : List Jl9) (p : Jl9) (a : Int) : Juw s (l ++ [p]) a = if p.1 = a then Juw s l a ++ [p.2.1] else Juw s l a := by
 unfold Juw
 rw [List.filter_append]
 by_cases h : p.1 = a
 ·rw [if_pos h, List.filter_cons_of_pos (by simpa using h)]; simp
 ·rw [if_neg h, List.filter_cons_of_neg (by simpa using h)]; simp
theorem Jux : ∀ (l : List Jl9) (seen : List Int) (p : Jl9), Jhx (l ++ [p]) seen = Jhx l seen ++ (if Jqy l p.1 || seen.contains p.1 then [] else [p.1])
 | [], seen, p => by
  show Jhx [p] seen = [] ++ _
  unfold Jhx Jqy
  cases h : seen.contains p.1 <;> simp [Jhx]
 | x :: l, seen, p => by
  rw [List.cons_append]
  unfold Jhx
  split
  ·rename_i hx
   rw [Jux l seen p]
   congr 2
   by_cases e : x.1 = p.1
   ·rw [e] at hx; rw [hx]; simp
   ·simp [Jqy, e]
  ·rename_i hx
   rw [Jux l (x.1 :: seen) p, List.cons_append]
   congr 3
   by_cases e : x.1 = p.1
   ·simp [Jqy, e]
   ·have e' : ¬ p.1 = x.1 := fun h => e h.symm
    simp [Jqy, e, e']
theorem Jsu : ∀ (l : List Jl9) (seen : List Int) (a : Int), a ∈ Jhx l seen → Jqy l a = true
 | [], _, _, h => by cases h
 | x :: l, seen, a, h => by
  unfold Jhx at h
  split at h
  ·have := Jsu l seen a h; simp only [Jqy, List.any_cons] at this ⊢; rw [this]; simp
  ·rcases List.mem_cons.1 h with rfl | h
   ·simp [Jqy]
   ·have := Jsu l _ a h; simp only [Jqy, List.any_cons] at this ⊢; rw [this]; simp
theorem Jsv : ∀ (l : List Jl9) (seen : List Int), (Jhx l seen).length ≤ l.length
 | [], _ => Nat.le_refl _
 | x :: l, seen => by
  unfold Jhx
  split
  ·have := Jsv l seen; rw [List.length_cons]; omega
  ·have := Jsv l (x.1 :: seen); rw [List.length_cons, List.length_cons]; omega
theorem K7d {l : List Jl9} {a : Int} (h : Jqy l a = true) : ∃ p, p ∈ l ∧ p.1 = a := by
 obtain ⟨p, h1, h2⟩ := List.any_eq_true.1 h
 exact ⟨p, h1, by simpa using h2⟩
theorem K5h {n : Nat} {l : List Jl9} {a : Int} (ho : okP n l = true) (h : Jqy l a = true) : 0 ≤ a ∧ a < n := by
 obtain ⟨p, h1, rfl⟩ := K7d h
 exact Kl0.1 ho p h1
def Kxw (s : List Jbe) (l : List Jl9) (m : List (Int × List Jbe)) : Prop := ∀ a, Jdu (Jdc (.int .i64)) a m = if Jqy l a then some (Juw s l a) else none
theorem J8y {s : List Jbe} {l : List Jl9} {m m' : List (Int × List Jbe)} (p : Jl9) (h : Kxw s l m) (hs : Jdu (Jdc (.int .i64)) p.1 m' = some (Juw s l p.1 ++ [p.2.1])) (ho : ∀ a, a ≠ p.1 → Jdu (Jdc (.int .i64)) a m' = Jdu (Jdc (.int .i64)) a m) : Kxw s (l ++ [p]) m' := by
 intro a
 rw [K3a, Kxv]
 by_cases e : p.1 = a
 ·subst e
  rw [hs, Jju rfl, Bool.or_true, if_pos rfl, if_pos rfl]
 ·rw [ho a (fun h => e h.symm), h a, Jjv e, Bool.or_false, if_neg e]
theorem Kqm {X : Type} (F : Nat) (fail : X) (ex0 : List Int → List Jl9 → Int → Int → DK → DK → List (Int × List Jbe) → List Int → X) (ch : List Int) (d s4 : DK) (hs : d.2.1.length ≤ 100000000) (ho : okP d.1.length d.2.1 = true) (K : X)
  (hK : ∀ m, Kxw d.1 d.2.1 m → ex0 ch d.2.1 (d.2.1.length : Nat) (d.2.1.length : Nat) d s4 m (Jhx d.2.1 []) = K) : ∀ (j n i : Nat) (m : List (Int × List Jbe)), i + j = d.2.1.length → j ≤ n → Kxw d.1 (d.2.1.take i) m → m.length ≤ i →
  Jkn F fail ex0 (n + 1) ch d.2.1 (d.2.1.length : Nat) i d s4 m (Jhx (d.2.1.take i) []) = K
 | 0, n, i, m, hi, _, hm, _ => by
  have e : i = d.2.1.length := by omega
  subst e
  rw [Jkn, Jwm]
  rw [List.take_length] at hm ⊢
  rw [Jab (ff (by omega))]
  exact hK m hm
 | j + 1, 0, i, _, _, hm, _, _ => absurd hm (by omega)
 | j + 1, n + 1, i, m, hi, hn, hm, hl => by
  have ih := fun m' => Kqm F fail ex0 ch d s4 hs ho K hK j n (i + 1) m' (by omega) (by omega)
  rw [Jfe _ i ((0 : Int), (z16, ())) (by omega)] at ih
  have hmem : d.2.1.getD i ((0 : Int), (z16, ())) ∈ d.2.1 := by rw [Jdw (show i < d.2.1.length by omega)]; exact List.getElem_mem _
  have hq := Kl0.1 ho _ hmem
  have hfl := Jsv (d.2.1.take i) []
  have htl : (d.2.1.take i).length = i := by rw [List.length_take]; omega
  rw [Jkn, Jwm]
  rw [Int.toNat_natCast, Jaa (tt (by omega)), Jaa (tt2 (by omega) (by omega))]
  generalize d.2.1.getD i ((0 : Int), (z16, ())) = p at ih hq ⊢
  have hv := Kb6 d.1 (d.2.1.take i) p.1
  have hf := hm p.1
  rw [Jux] at ih
  rw [Jam (by omega) (by omega), Juu]
  cases hh : Jqy (d.2.1.take i) p.1 with
  | false =>
   rw [hh] at ih hf
   have hf : Jdu (Jdc (.int .i64)) p.1 m = none := hf
   have hv0 : Juw d.1 (d.2.1.take i) p.1 = [d.1.getD p.1.toNat z16] := by
    unfold Juw
    rw [List.filter_eq_nil_iff.2 (fun x hx => by
     have := List.any_eq_false.1 hh x hx
     simpa using this)]; rfl
   have hput := Jst p.1 [d.1.getD p.1.toNat z16] m
   have hl2 := J13 p.1 [d.1.getD p.1.toNat z16] m
   rw [Jaa (c := Option.isNone (Jdu (Jdc (.int .i64)) p.1 m)) (by rw [hf]; rfl), Jaa (Jem (by rw [List.length_append]; simp only [List.length_cons, List.length_nil]; omega)), Jaa (tt2 hq.1 hq.2), Jaa (tt (by unfold big; omega)), hput, Jaa (c := Option.isSome _) rfl]
   simp only [Option.getD_some, List.singleton_append]
   rw [Jaa (Jem (by simp only [List.length_cons, List.length_nil]; omega)), Jaa (by
    rw [show Jdc (.int .i64) p.1 p.1 = true from J6v rfl, Bool.true_and, tt (by simp only [List.length_cons, List.length_nil]; omega), Bool.true_and]
    exact tt (by unfold big; omega))]
   refine ih _ (J8y p hm ?_ (fun a ha => ?_)) ?_
   ·rw [Jst, hv0]; rfl
   ·rw [Joz _ ha, Joz _ ha]
   ·rw [Kql]; have := J13 p.1 [d.1.getD p.1.toNat z16, p.2.1] m; omega
  | true =>
   rw [hh] at ih hf
   have hf : Jdu (Jdc (.int .i64)) p.1 m = some (Juw d.1 (d.2.1.take i) p.1) := hf
   have hl2 := J13 p.1 (Juw d.1 (d.2.1.take i) p.1 ++ [p.2.1]) m
   rw [Jab (c := Option.isNone (Jdu (Jdc (.int .i64)) p.1 m)) (by rw [hf]; rfl), hf, Jaa (c := Option.isSome _) rfl]
   simp only [Option.getD_some]
   rw [Jaa (Jem (by rw [List.length_append]; simp only [List.length_cons, List.length_nil]; omega)), Jaa (by
    rw [show Jdc (.int .i64) p.1 p.1 = true from J6v rfl, Bool.true_and, tt (by rw [List.length_append]; simp only [List.length_cons, List.length_nil]; omega), Bool.true_and]
    exact tt (by unfold big; omega))]
   rw [show (true || ([] : List Int).contains p.1) = true from rfl, if_pos rfl, List.append_nil] at ih
   exact ih _ (J8y p hm (Jst _ _ _) (fun a ha => Joz _ ha _)) (by omega)
theorem Kgi (ch : List Int) (n : Nat) (h : 1 ≤ n) : 0 ≤ K8s ch n ∧ K8s ch n < n := by
 unfold K8s
 cases ch with
 | nil => exact ⟨Int.le_refl _, by show (0 : Int) < _; omega⟩
 | cons c _ => exact ⟨Int.emod_nonneg _ (by omega), Int.emod_lt_of_pos _ (by omega)⟩
theorem Kb7 (d : DK) : ∀ (l : List Int) (s : List Int × List Jbe), (l.foldl (J3g d) s).1.length ≤ s.1.length ∧ (l.foldl (J3g d) s).2.length = s.2.length
 | [], s => ⟨Nat.le_refl _, rfl⟩
 | a :: l, s => by
  obtain ⟨h1, h2⟩ := Kb7 d l (J3g d s a)
  rw [List.foldl_cons]
  refine ⟨Nat.le_trans h1 ?_, h2.trans ?_⟩
  ·show s.1.tail.length ≤ _; rw [List.length_tail]; omega
  ·show (List.set s.2 _ _).length = _; rw [List.length_set]
theorem Kqn {X : Type} (F : Nat) (fail : X) (ex : List Int → Int → Int → DK → List (Int × List Jbe) → (List Jl9 × Unit) → List Jbe → List Int → X) (d s4 : DK) (m : List (Int × List Jbe)) (out : List Jl9 × Unit) (pl : List Int) (hm : Kxw d.1 d.2.1 m) (hp : ∀ a, a ∈ pl → Jqy d.2.1 a = true) (ho : okP d.1.length d.2.1 = true) (hs : d.2.1.length ≤ 100000000) (hl : pl.length ≤ 100000000) : ∀ (j n i : Nat) (ch : List Int) (h3 : List Jbe), i + j = pl.length → j ≤ n → h3.length = d.1.length →
  Jko F fail ex (n + 1) ch (pl.length : Nat) i s4 m out h3 pl = ex ((pl.drop i).foldl (J3g d) (ch, h3)).1 (pl.length : Nat) (pl.length : Nat) s4 m out ((pl.drop i).foldl (J3g d) (ch, h3)).2 pl
 | 0, n, i, ch, h3, hi, _, _ => by
  have e : i = pl.length := by omega
  subst e
  rw [Jko, Jwn]
  rw [Jab (ff (by omega)), List.drop_length]; rfl
 | j + 1, 0, i, _, _, _, hm, _ => absurd hm (by omega)
 | j + 1, n + 1, i, ch, h3, hi, hn, h3l => by
  have ih := fun ch' h3' => Kqn F fail ex d s4 m out pl hm hp ho hs hl j n (i + 1) ch' h3' (by omega) (by omega)
  have hmem : pl.getD i 0 ∈ pl := by rw [Jdw (show i < pl.length by omega)]; exact List.getElem_mem _
  have hh := hp _ hmem
  have hq := K5h ho hh
  rw [Jko, Jwn]
  rw [Int.toNat_natCast, Jaa (tt (by omega)), Jaa (tt2 (by omega) (by omega)), Jcu (0 : Int) (show i < pl.length by omega), List.foldl_cons]
  generalize pl.getD i 0 = a at hh hq ⊢
  have hf := hm a
  rw [hh, if_pos rfl] at hf
  have hv := Kb6 d.1 d.2.1 a
  have hd := Kgi ch (Juw d.1 d.2.1 a).length hv.1
  rw [hf, Option.getD_some]
  unfold Jij Jm0 Jqk
  rw [Int.toNat_natCast, Jaa (tt (by omega)), Jaa (tt2 hd.1 hd.2), Jaa (tt2 hq.1 (by omega)), Jam (by omega) (by omega), Juu]
  exact ih _ _ (by rw [List.length_set]; exact h3l)
theorem K9w {d : DK} {ch : List Int} : (Jma d && decide (ch.length ≤ 1000000000)) = true ↔ (d.1.length ≤ 1000000 ∧ d.2.1.length ≤ 100000000) ∧ ch.length ≤ 1000000000 := by rw [Bool.and_eq_true, Jez, decide_eq_true_eq]
theorem Kgj (d : DK) (ch : List Int) (h : Jwf d ch = true) : ∃ F, ∀ {X : Type} (fail : X) (ret : DK → List Int → Int → X), Kxe F d ch fail ret = ret (Jql d ch) (Jqm d ch) (Jqn d ch) := ⟨d.2.1.length + 1, fun fail ret => by
 have h := K9w.1 h
 unfold Kxe Jql Jqm Jqn Jti Je4
 rw [Jaa (c := Jiw d) (Jez.2 (by omega))]
 cases hk : okD d with
 | false => rw [Kb2 hk]; rfl
 | true =>
  have ho := (Joy.1 hk).2
  have hfl := Jsv d.2.1 []
  rw [Kqi hk, Jab (Jf8 rfl), if_pos rfl]
  refine Kqm (d.2.1.length + 1) fail _ ch d _ h.1.2 ho _ (fun m hm => ?_) d.2.1.length d.2.1.length 0 [] (by omega) (Nat.le_refl _) (fun a => by rw [List.take_zero]; rfl) (Nat.zero_le _)
  rw [Jaa (c := Jhy d.1) (tt (by omega))]
  refine (Kqn (d.2.1.length + 1) fail _ d _ m _ (Jhx d.2.1 []) hm (fun a ha => Jsu _ _ a ha) ho h.1.2 (by omega) (Jhx d.2.1 []).length d.2.1.length 0 ch d.1 (by omega) (by omega) rfl).trans ?_
  rw [List.drop_zero]
  have hc := (Kb7 d (Jhx d.2.1 []) (ch, d.1)).1
  rw [Jaa (c := J3h _) (tt (by have : ((ch, d.1) : List Int × List Jbe).1.length = ch.length := rfl; omega))]
  rfl⟩
theorem Kqo : ∀ (l : List DOp) (n : Nat), Ka7 (l.take n) ≤ Ka7 l
 | [], n => by rw [List.take_nil]; exact Nat.le_refl _
 | x :: l, 0 => Nat.zero_le _
 | x :: l, n + 1 => by
  rw [List.take_succ_cons]
  show x.2.2.1.length + Ka7 (l.take n) ≤ x.2.2.1.length + Ka7 l
  have := Kqo l n; omega
theorem K9x : ∀ (l : List DOp) (d : DK) (i : Int), okD d = true → (goD d l i).2.2 = 0 → okD (goD d l i).1 = true ∧ (goD d l i).1.1.length = d.1.length ∧ (goD d l i).1.2.1.length ≤ d.2.1.length + Ka7 l
 | [], d, i, h, _ => ⟨h, rfl, Nat.le_add_right _ _⟩
 | op :: l, d, i, h, he => by
  rw [Kl5] at he ⊢
  by_cases c : (Jjw d op).2 = 0
  ·rw [if_pos c] at he ⊢
   obtain ⟨q1, q2, q3⟩ := Kxt h op c
   obtain ⟨r1, r2, r3⟩ := K9x l _ _ q1 he
   refine ⟨r1, r2.trans q2, ?_⟩
   show _ ≤ _ + (op.2.2.1.length + Ka7 l)
   omega
  ·rw [if_neg c] at he; exact absurd he c
theorem K5i : ∀ (l : List DOp) (d : DK) (i : Int), (goD d l i).2.2 ≠ 0 → (goD d l i).1 = dk0
 | [], d, i, h => absurd rfl h
 | op :: l, d, i, h => by
  rw [Kl5] at h ⊢
  by_cases c : (Jjw d op).2 = 0
  ·rw [if_pos c] at h ⊢; exact K5i l _ _ h
  ·rw [if_neg c]
theorem K7e {d : DK} {l : List DOp} (h : (Jpp d l).2.2 ≠ 0) : (Jpp d l).1 = dk0 := by
 unfold Jpp at h ⊢
 cases hk : okD d with
 | false => rfl
 | true => rw [hk, if_pos rfl] at h; rw [if_pos rfl]; exact K5i l d 0 h
theorem K9y {d : DK} {l : List DOp} (h : (Jpp d l).2.2 = 0) : okD d = true ∧ okD (Jpp d l).1 = true ∧ (Jpp d l).1.1.length = d.1.length ∧ (Jpp d l).1.2.1.length ≤ d.2.1.length + Ka7 l := by
 unfold Jpp at h ⊢
 cases hk : okD d with
 | false => rw [hk] at h; cases h
 | true => rw [hk, if_pos rfl] at h; rw [if_pos rfl]; exact ⟨rfl, K9x l d 0 hk h⟩
theorem Kxx {d : DK} {l : List DOp} (h : Kw5 d l = true) : Jma (Jpp d l).1 = true := by
 have h := Juv.1 h
 by_cases c : (Jpp d l).2.2 = 0
 ·have := K9y c; exact Jez.2 (by omega)
 ·rw [K7e c]; rfl
theorem Kgk {d : DK} {l : List DOp} (h : Kw5 d l = true) (n : Nat) : Kw5 d (l.take n) = true := by
 have h := Juv.1 h
 have := Kqo l n
 have : (l.take n).length ≤ l.length := by rw [List.length_take]; omega
 exact Juv.2 (by omega)
theorem K7f {d : DK} {l : List DOp} {ch : List Int} : K9l d l ch = true ↔ Kw5 d l = true ∧ ch.length ≤ 1000000000 := by rw [K9l, Bool.and_eq_true, decide_eq_true_eq]
theorem J0t (d : DK) (l : List DOp) (after : Int) (ch : List Int) (h : Jqo d l after ch = true) : ∃ F, ∀ {X : Type} (fail : X) (ret : DK → List Int → Int → X), Jyp F d l after ch fail ret = ret (Jjx d l after ch) (Job d l after ch) (Jhz d l after ch) := ⟨0, fun fail ret => by
 obtain ⟨h1, h2⟩ := K7f.1 h
 have hr := Juv.1 h1
 unfold Jyp Jjx Job Jhz Kst Je4 Jk8 Jgi Jql Jqm Jqn
 rw [Jaa (c := Jiw d) (Jez.2 (by omega))]
 cases hk : okD d with
 | false => rw [Kb2 hk]; rfl
 | true =>
  rw [Kqi hk, Jab (Jf8 rfl), if_pos rfl]
  by_cases c1 : after < 0
  ·rw [Jaa (tt c1), if_neg (by omega)]; rfl
  by_cases c2 : after > (l.length : Int)
  ·rw [Jab (ff c1), Jaa (tt c2), if_neg (by omega)]; rfl
  rw [Jab (ff c1), Jab (ff c2), Jaa (tt2 (by omega) (by omega)), if_pos (by omega), Jaa (c := Jz0 d _) (Kgk h1 _)]
  by_cases c3 : (Jpp d (List.take after.toNat l)).2.2 = 0
  ·rw [Jab (Jf8 c3), if_pos c3, Jaa (c := Jwf _ _) (by unfold Jwf; rw [Kxx (Kgk h1 _), Bool.true_and]; exact tt h2)]
  ·rw [Jaa (Jjj c3), if_neg c3]; rfl⟩
end Go.AI
