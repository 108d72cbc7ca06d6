/- Texts of the proof, joined: DiskP3. Names of our own are shortened by program; the long ones stand in wip/. -/
import Derived.Test.YtnmidfcefljafaaGreatQsDiskP2
namespace Go.AI
open Go
theorem J50 {a b : Int} (h : a = b) : Jcu (.int .i64) a b = true := Jl7 h
theorem Ka9 {a b : Int} (h : a ≠ b) : Jcu (.int .i64) a b = false := Jpi h
theorem Jr9 {β : Type} (k : Int) (v : β) : ∀ m : List (Int × β), Jdd (Jcu (.int .i64)) k (Jjz (Jcu (.int .i64)) k v m) = some v
 | [] => by rw [Jjz, Jdd, J50 rfl]; rfl
 | e :: m => by
  rw [Jjz]
  by_cases h : k = e.1
  ·rw [J50 h, cond_true, Jdd, J50 rfl]; rfl
  ·rw [Ka9 h, cond_false, Jdd, Ka9 h, cond_false, Jr9 k v m]
theorem Jof {β : Type} {k k' : Int} (v : β) (hk : k ≠ k') : ∀ m : List (Int × β), Jdd (Jcu (.int .i64)) k (Jjz (Jcu (.int .i64)) k' v m) = Jdd (Jcu (.int .i64)) k m
 | [] => by show (bif Jcu (.int .i64) k k' then some v else none) = none; rw [Ka9 hk]; rfl
 | e :: m => by
  rw [Jjz]
  by_cases h : k' = e.1
  ·rw [J50 h, cond_true, Jdd, Ka9 hk, cond_false, Jdd, Ka9 (by omega), cond_false]
  ·rw [Ka9 h, cond_false, Jdd, Jdd, Jof v hk m]
theorem J1i {β : Type} (k : Int) (v : β) : ∀ m : List (Int × β), (Jjz (Jcu (.int .i64)) k v m).length ≤ m.length + 1
 | [] => by simp [Jjz]
 | e :: m => by
  rw [Jjz]
  by_cases h : k = e.1
  ·rw [J50 h, cond_true]; simp
  ·rw [Ka9 h, cond_false]; have := J1i k v m; simp only [List.length_cons]; omega
theorem Kps {β : Type} (k : Int) (u v : β) : ∀ m : List (Int × β), Jjz (Jcu (.int .i64)) k v (Jjz (Jcu (.int .i64)) k u m) = Jjz (Jcu (.int .i64)) k v m
 | [] => by show (bif Jcu (.int .i64) k k then _ else _) = _; rw [J50 rfl]; rfl
 | e :: m => by
  rw [Jjz, Jjz]
  by_cases h : k = e.1
  ·rw [J50 h, cond_true, cond_true, Jjz, J50 rfl, cond_true]
  ·rw [Ka9 h, cond_false, cond_false, Jjz, Ka9 h, cond_false, Kps k u v m]
def Jqb (l : List Jlq) (a : Int) : Bool := l.any fun p => p.1 == a
def Jt5 (s : List Ja4) (l : List Jlq) (a : Int) : List Ja4 := s.getD a.toNat z16 :: (l.filter fun p => p.1 == a).map fun p => p.2.1
theorem K1v (d : DK) (a : Int) : Kkq d a = Jt5 d.1 d.2.1 a := rfl
theorem Kba (s : List Ja4) (l : List Jlq) (a : Int) : 1 ≤ (Jt5 s l a).length ∧ (Jt5 s l a).length ≤ l.length + 1 := by
 unfold Jt5
 have := List.length_filter_le (fun p : Jlq => p.1 == a) l
 rw [List.length_cons, List.length_map]; omega
theorem K1w (l : List Jlq) (p : Jlq) (a : Int) : Jqb (l ++ [p]) a = (Jqb l a || (p.1 == a)) := by simp [Jqb, List.any_append]
theorem Kwt (s : List Ja4) (l : List Jlq) (p : Jlq) (a : Int) : Jt5 s (l ++ [p]) a = if p.1 = a then Jt5 s l a ++ [p.2.1] else Jt5 s l a := by
 unfold Jt5
 rw [List.filter_append]
 by_cases h : p.1 = a
 ·rw [if_pos h, List.filter_cons_of_pos (by simpa using h)]; simp
 ·rw [if_neg h, List.filter_cons_of_neg (by simpa using h)]; simp
theorem Jt6 : ∀ (l : List Jlq) (seen : List Int) (p : Jlq), Jhn (l ++ [p]) seen = Jhn l seen ++ (if Jqb l p.1 || seen.contains p.1 then [] else [p.1])
 | [], seen, p => by
  show Jhn [p] seen = [] ++ _
  unfold Jhn Jqb
  cases h : seen.contains p.1 <;> simp [Jhn]
 | x :: l, seen, p => by
  rw [List.cons_append]
  unfold Jhn
  split
  ·rename_i hx
   rw [Jt6 l seen p]
   congr 2
   by_cases e : x.1 = p.1
   ·rw [e] at hx; rw [hx]; simp
   ·simp [Jqb, e]
  ·rename_i hx
   rw [Jt6 l (x.1 :: seen) p, List.cons_append]
   congr 3
   by_cases e : x.1 = p.1
   ·simp [Jqb, e]
   ·have e' : ¬ p.1 = x.1 := fun h => e h.symm
    simp [Jqb, e, e']
theorem Jsa : ∀ (l : List Jlq) (seen : List Int) (a : Int), a ∈ Jhn l seen → Jqb l a = true
 | [], _, _, h => by cases h
 | x :: l, seen, a, h => by
  unfold Jhn at h
  split at h
  ·have := Jsa l seen a h; simp only [Jqb, List.any_cons] at this ⊢; rw [this]; simp
  ·rcases List.mem_cons.1 h with rfl | h
   ·simp [Jqb]
   ·have := Jsa l _ a h; simp only [Jqb, List.any_cons] at this ⊢; rw [this]; simp
theorem Jsb : ∀ (l : List Jlq) (seen : List Int), (Jhn l seen).length ≤ l.length
 | [], _ => Nat.le_refl _
 | x :: l, seen => by
  unfold Jhn
  split
  ·have := Jsb l seen; rw [List.length_cons]; omega
  ·have := Jsb l (x.1 :: seen); rw [List.length_cons, List.length_cons]; omega
theorem K5x {l : List Jlq} {a : Int} (h : Jqb l a = true) : ∃ p, p ∈ l ∧ p.1 = a := by
 obtain ⟨p, h1, h2⟩ := List.any_eq_true.1 h
 exact ⟨p, h1, by simpa using h2⟩
theorem K3z {n : Nat} {l : List Jlq} {a : Int} (ho : okP n l = true) (h : Jqb l a = true) : 0 ≤ a ∧ a < n := by
 obtain ⟨p, h1, rfl⟩ := K5x h
 exact Kld.1 ho p h1
def Kwu (s : List Ja4) (l : List Jlq) (m : List (Int × List Ja4)) : Prop := ∀ a, Jdd (Jcu (.int .i64)) a m = if Jqb l a then some (Jt5 s l a) else none
theorem J73 {s : List Ja4} {l : List Jlq} {m m' : List (Int × List Ja4)} (p : Jlq) (h : Kwu s l m) (hs : Jdd (Jcu (.int .i64)) p.1 m' = some (Jt5 s l p.1 ++ [p.2.1])) (ho : ∀ a, a ≠ p.1 → Jdd (Jcu (.int .i64)) a m' = Jdd (Jcu (.int .i64)) a m) : Kwu s (l ++ [p]) m' := by
 intro a
 rw [K1w, Kwt]
 by_cases e : p.1 = a
 ·subst e
  rw [hs, Jl7 rfl, Bool.or_true, if_pos rfl, if_pos rfl]
 ·rw [ho a (fun h => e h.symm), h a, Jpi e, Bool.or_false, if_neg e]
theorem Kpt {X : Type} (F : Nat) (fail : X) (ex0 : List Int → List Jlq → Int → Int → DK → DK → List (Int × List Ja4) → List Int → X) (ch : List Int) (d s4 : DK) (hs : d.2.1.length ≤ 100000000) (ho : okP d.1.length d.2.1 = true) (K : X)
  (hK : ∀ m, Kwu d.1 d.2.1 m → ex0 ch d.2.1 (d.2.1.length : Nat) (d.2.1.length : Nat) d s4 m (Jhn d.2.1 []) = K) : ∀ (j n i : Nat) (m : List (Int × List Ja4)), i + j = d.2.1.length → j ≤ n → Kwu d.1 (d.2.1.take i) m → m.length ≤ i →
  Jj5 F fail ex0 (n + 1) ch d.2.1 (d.2.1.length : Nat) i d s4 m (Jhn (d.2.1.take i) []) = K
 | 0, n, i, m, hi, _, hm, _ => by
  have e : i = d.2.1.length := by omega
  subst e
  rw [Jj5, Jv2]
  rw [List.take_length] at hm ⊢
  rw [Jab (ff (by omega))]
  exact hK m hm
 | j + 1, 0, i, _, _, hm, _, _ => absurd hm (by omega)
 | j + 1, n + 1, i, m, hi, hn, hm, hl => by
  have ih := fun m' => Kpt F fail ex0 ch d s4 hs ho K hK j n (i + 1) m' (by omega) (by omega)
  rw [Jhm _ i ((0 : Int), (z16, ())) (by omega)] at ih
  have hmem : d.2.1.getD i ((0 : Int), (z16, ())) ∈ d.2.1 := by rw [Jem (show i < d.2.1.length by omega)]; exact List.getElem_mem _
  have hq := Kld.1 ho _ hmem
  have hfl := Jsb (d.2.1.take i) []
  have htl : (d.2.1.take i).length = i := by rw [List.length_take]; omega
  rw [Jj5, Jv2]
  rw [Int.toNat_natCast, Jaa (tt (by omega)), Jaa (tt2 (by omega) (by omega))]
  generalize d.2.1.getD i ((0 : Int), (z16, ())) = p at ih hq ⊢
  have hv := Kba d.1 (d.2.1.take i) p.1
  have hf := hm p.1
  rw [Jt6] at ih
  rw [Jar (by omega) (by omega), Jwc]
  cases hh : Jqb (d.2.1.take i) p.1 with
  | false =>
   rw [hh] at ih hf
   have hf : Jdd (Jcu (.int .i64)) p.1 m = none := hf
   have hv0 : Jt5 d.1 (d.2.1.take i) p.1 = [d.1.getD p.1.toNat z16] := by
    unfold Jt5
    rw [List.filter_eq_nil_iff.2 (fun x hx => by
     have := List.any_eq_false.1 hh x hx
     simpa using this)]; rfl
   have hput := Jr9 p.1 [d.1.getD p.1.toNat z16] m
   have hl2 := J1i p.1 [d.1.getD p.1.toNat z16] m
   rw [Jaa (c := Option.isNone (Jdd (Jcu (.int .i64)) p.1 m)) (by rw [hf]; rfl), Jaa (Jds (by rw [List.length_append]; simp only [List.length_cons, List.length_nil]; omega)), Jaa (tt2 hq.1 hq.2), Jaa (tt (by unfold big; omega)), hput, Jaa (c := Option.isSome _) rfl]
   simp only [Option.getD_some, List.singleton_append]
   rw [Jaa (Jds (by simp only [List.length_cons, List.length_nil]; omega)), Jaa (by
    rw [show Jcu (.int .i64) p.1 p.1 = true from J50 rfl, Bool.true_and, tt (by simp only [List.length_cons, List.length_nil]; omega), Bool.true_and]
    exact tt (by unfold big; omega))]
   refine ih _ (J73 p hm ?_ (fun a ha => ?_)) ?_
   ·rw [Jr9, hv0]; rfl
   ·rw [Jof _ ha, Jof _ ha]
   ·rw [Kps]; have := J1i p.1 [d.1.getD p.1.toNat z16, p.2.1] m; omega
  | true =>
   rw [hh] at ih hf
   have hf : Jdd (Jcu (.int .i64)) p.1 m = some (Jt5 d.1 (d.2.1.take i) p.1) := hf
   have hl2 := J1i p.1 (Jt5 d.1 (d.2.1.take i) p.1 ++ [p.2.1]) m
   rw [Jab (c := Option.isNone (Jdd (Jcu (.int .i64)) p.1 m)) (by rw [hf]; rfl), hf, Jaa (c := Option.isSome _) rfl]
   simp only [Option.getD_some]
   rw [Jaa (Jds (by rw [List.length_append]; simp only [List.length_cons, List.length_nil]; omega)), Jaa (by
    rw [show Jcu (.int .i64) p.1 p.1 = true from J50 rfl, Bool.true_and, tt (by rw [List.length_append]; simp only [List.length_cons, List.length_nil]; omega), Bool.true_and]
    exact tt (by unfold big; omega))]
   rw [show (true || ([] : List Int).contains p.1) = true from rfl, if_pos rfl, List.append_nil] at ih
   exact ih _ (J73 p hm (Jr9 _ _ _) (fun a ha => Jof _ ha _)) (by omega)
theorem Kft (ch : List Int) (n : Nat) (h : 1 ≤ n) : 0 ≤ K7e ch n ∧ K7e ch n < n := by
 unfold K7e
 cases ch with
 | nil => exact ⟨Int.le_refl _, by show (0 : Int) < _; omega⟩
 | cons c _ => exact ⟨Int.emod_nonneg _ (by omega), Int.emod_lt_of_pos _ (by omega)⟩
theorem Kbb (d : DK) : ∀ (l : List Int) (s : List Int × List Ja4), (l.foldl (J2s d) s).1.length ≤ s.1.length ∧ (l.foldl (J2s d) s).2.length = s.2.length
 | [], s => ⟨Nat.le_refl _, rfl⟩
 | a :: l, s => by
  obtain ⟨h1, h2⟩ := Kbb d l (J2s d s a)
  rw [List.foldl_cons]
  refine ⟨Nat.le_trans h1 ?_, h2.trans ?_⟩
  ·show s.1.tail.length ≤ _; rw [List.length_tail]; omega
  ·show (List.set s.2 _ _).length = _; rw [List.length_set]
theorem Kpu {X : Type} (F : Nat) (fail : X) (ex : List Int → Int → Int → DK → List (Int × List Ja4) → (List Jlq × Unit) → List Ja4 → List Int → X) (d s4 : DK) (m : List (Int × List Ja4)) (out : List Jlq × Unit) (pl : List Int) (hm : Kwu d.1 d.2.1 m) (hp : ∀ a, a ∈ pl → Jqb d.2.1 a = true) (ho : okP d.1.length d.2.1 = true) (hs : d.2.1.length ≤ 100000000) (hl : pl.length ≤ 100000000) : ∀ (j n i : Nat) (ch : List Int) (h3 : List Ja4), i + j = pl.length → j ≤ n → h3.length = d.1.length →
  Jj6 F fail ex (n + 1) ch (pl.length : Nat) i s4 m out h3 pl = ex ((pl.drop i).foldl (J2s d) (ch, h3)).1 (pl.length : Nat) (pl.length : Nat) s4 m out ((pl.drop i).foldl (J2s d) (ch, h3)).2 pl
 | 0, n, i, ch, h3, hi, _, _ => by
  have e : i = pl.length := by omega
  subst e
  rw [Jj6, Jv3]
  rw [Jab (ff (by omega)), List.drop_length]; rfl
 | j + 1, 0, i, _, _, _, hm, _ => absurd hm (by omega)
 | j + 1, n + 1, i, ch, h3, hi, hn, h3l => by
  have ih := fun ch' h3' => Kpu F fail ex d s4 m out pl hm hp ho hs hl j n (i + 1) ch' h3' (by omega) (by omega)
  have hmem : pl.getD i 0 ∈ pl := by rw [Jem (show i < pl.length by omega)]; exact List.getElem_mem _
  have hh := hp _ hmem
  have hq := K3z ho hh
  rw [Jj6, Jv3]
  rw [Int.toNat_natCast, Jaa (tt (by omega)), Jaa (tt2 (by omega) (by omega)), Jcz (0 : Int) (show i < pl.length by omega), List.foldl_cons]
  generalize pl.getD i 0 = a at hh hq ⊢
  have hf := hm a
  rw [hh, if_pos rfl] at hf
  have hv := Kba d.1 d.2.1 a
  have hd := Kft ch (Jt5 d.1 d.2.1 a).length hv.1
  rw [hf, Option.getD_some]
  unfold Jh9 Jmk Jp1
  rw [Int.toNat_natCast, Jaa (tt (by omega)), Jaa (tt2 hd.1 hd.2), Jaa (tt2 hq.1 (by omega)), Jar (by omega) (by omega), Jwc]
  exact ih _ _ (by rw [List.length_set]; exact h3l)
theorem K8j {d : DK} {ch : List Int} : (Jlr d && decide (ch.length ≤ 1000000000)) = true ↔ (d.1.length ≤ 1000000 ∧ d.2.1.length ≤ 100000000) ∧ ch.length ≤ 1000000000 := by rw [Bool.and_eq_true, Jen, decide_eq_true_eq]
theorem Kfu (d : DK) (ch : List Int) (h : Jvs d ch = true) : ∃ F, ∀ {X : Type} (fail : X) (ret : DK → List Int → Int → X), Kwc F d ch fail ret = ret (Jp2 d ch) (Jp3 d ch) (Jp4 d ch) := ⟨d.2.1.length + 1, fun fail ret => by
 have h := K8j.1 h
 unfold Kwc Jp2 Jp3 Jp4 Jsv Jes
 rw [Jaa (c := Jil d) (Jen.2 (by omega))]
 cases hk : okD d with
 | false => rw [Ka6 hk]; rfl
 | true =>
  have ho := (Jod.1 hk).2
  have hfl := Jsb d.2.1 []
  rw [Kpp hk, Jab (Jhl rfl), if_pos rfl]
  refine Kpt (d.2.1.length + 1) fail _ ch d _ h.1.2 ho _ (fun m hm => ?_) d.2.1.length d.2.1.length 0 [] (by omega) (Nat.le_refl _) (fun a => by rw [List.take_zero]; rfl) (Nat.zero_le _)
  rw [Jaa (c := Jho d.1) (tt (by omega))]
  refine (Kpu (d.2.1.length + 1) fail _ d _ m _ (Jhn d.2.1 []) hm (fun a ha => Jsa _ _ a ha) ho h.1.2 (by omega) (Jhn d.2.1 []).length d.2.1.length 0 ch d.1 (by omega) (by omega) rfl).trans ?_
  rw [List.drop_zero]
  have hc := (Kbb d (Jhn d.2.1 []) (ch, d.1)).1
  rw [Jaa (c := J2t _) (tt (by have : ((ch, d.1) : List Int × List Ja4).1.length = ch.length := rfl; omega))]
  rfl⟩
theorem Kpv : ∀ (l : List DOp) (n : Nat), Kad (l.take n) ≤ Kad l
 | [], n => by rw [List.take_nil]; exact Nat.le_refl _
 | x :: l, 0 => Nat.zero_le _
 | x :: l, n + 1 => by
  rw [List.take_succ_cons]
  show x.2.2.1.length + Kad (l.take n) ≤ x.2.2.1.length + Kad l
  have := Kpv l n; omega
theorem K8k : ∀ (l : List DOp) (d : DK) (i : Int), okD d = true → (goD d l i).2.2 = 0 → okD (goD d l i).1 = true ∧ (goD d l i).1.1.length = d.1.length ∧ (goD d l i).1.2.1.length ≤ d.2.1.length + Kad l
 | [], d, i, h, _ => ⟨h, rfl, Nat.le_add_right _ _⟩
 | op :: l, d, i, h, he => by
  rw [Kli] at he ⊢
  by_cases c : (Jjg d op).2 = 0
  ·rw [if_pos c] at he ⊢
   obtain ⟨q1, q2, q3⟩ := Kwr h op c
   obtain ⟨r1, r2, r3⟩ := K8k l _ _ q1 he
   refine ⟨r1, r2.trans q2, ?_⟩
   show _ ≤ _ + (op.2.2.1.length + Kad l)
   omega
  ·rw [if_neg c] at he; exact absurd he c
theorem K30 : ∀ (l : List DOp) (d : DK) (i : Int), (goD d l i).2.2 ≠ 0 → (goD d l i).1 = dk0
 | [], d, i, h => absurd rfl h
 | op :: l, d, i, h => by
  rw [Kli] at h ⊢
  by_cases c : (Jjg d op).2 = 0
  ·rw [if_pos c] at h ⊢; exact K30 l _ _ h
  ·rw [if_neg c]
theorem K5y {d : DK} {l : List DOp} (h : (Jo3 d l).2.2 ≠ 0) : (Jo3 d l).1 = dk0 := by
 unfold Jo3 at h ⊢
 cases hk : okD d with
 | false => rfl
 | true => rw [hk, if_pos rfl] at h; rw [if_pos rfl]; exact K30 l d 0 h
theorem K8l {d : DK} {l : List DOp} (h : (Jo3 d l).2.2 = 0) : okD d = true ∧ okD (Jo3 d l).1 = true ∧ (Jo3 d l).1.1.length = d.1.length ∧ (Jo3 d l).1.2.1.length ≤ d.2.1.length + Kad l := by
 unfold Jo3 at h ⊢
 cases hk : okD d with
 | false => rw [hk] at h; cases h
 | true => rw [hk, if_pos rfl] at h; rw [if_pos rfl]; exact ⟨rfl, K8k l d 0 hk h⟩
theorem Kwv {d : DK} {l : List DOp} (h : Ktz d l = true) : Jlr (Jo3 d l).1 = true := by
 have h := Jt4.1 h
 by_cases c : (Jo3 d l).2.2 = 0
 ·have := K8l c; exact Jen.2 (by omega)
 ·rw [K5y c]; rfl
theorem Kfv {d : DK} {l : List DOp} (h : Ktz d l = true) (n : Nat) : Ktz d (l.take n) = true := by
 have h := Jt4.1 h
 have := Kpv l n
 have : (l.take n).length ≤ l.length := by rw [List.length_take]; omega
 exact Jt4.2 (by omega)
theorem K5z {d : DK} {l : List DOp} {ch : List Int} : K78 d l ch = true ↔ Ktz d l = true ∧ ch.length ≤ 1000000000 := by rw [K78, Bool.and_eq_true, decide_eq_true_eq]
theorem Jz7 (d : DK) (l : List DOp) (after : Int) (ch : List Int) (h : Jls d l after ch = true) : ∃ F, ∀ {X : Type} (fail : X) (ret : DK → List Int → Int → X), Jx6 F d l after ch fail ret = ret (Jaj d l after ch) (Jcy d l after ch) (Jfw d l after ch) := ⟨0, fun fail ret => by
 obtain ⟨h1, h2⟩ := K5z.1 h
 have hr := Jt4.1 h1
 unfold Jx6 Jaj Jcy Jfw Kkr Jes Jh8 Jdl Jp2 Jp3 Jp4
 rw [Jaa (c := Jil d) (Jen.2 (by omega))]
 cases hk : okD d with
 | false => rw [Ka6 hk]; rfl
 | true =>
  rw [Kpp hk, Jab (Jhl rfl), if_pos rfl]
  by_cases c1 : after < 0
  ·rw [Jaa (tt c1), if_neg (by omega)]; rfl
  by_cases c2 : after > (l.length : Int)
  ·rw [Jab (ff c1), Jaa (tt c2), if_neg (by omega)]; rfl
  rw [Jab (ff c1), Jab (ff c2), Jaa (tt2 (by omega) (by omega)), if_pos (by omega), Jaa (c := Jvr d _) (Kfv h1 _)]
  by_cases c3 : (Jo3 d (List.take after.toNat l)).2.2 = 0
  ·rw [Jab (Jhl c3), if_pos c3, Jaa (c := Jvs _ _) (by unfold Jvs; rw [Kwv (Kfv h1 _), Bool.true_and]; exact tt h2)]
  ·rw [Jaa (Jkp c3), if_neg c3]; rfl⟩
end Go.AI
