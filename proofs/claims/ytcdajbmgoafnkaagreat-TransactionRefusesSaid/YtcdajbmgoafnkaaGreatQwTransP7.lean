/- Texts of the proof, joined: TransP7. Names of our own are shortened by program; the long ones stand in wip/. -/
import Derived.Test.YtcdajbmgoafnkaaGreatQwG
import Derived.Test.YtcdajbmgoafnkaaGreatQwTransC
namespace Go.AI
open Go
theorem Jzc {l : List (List Rec)} {key : Bys} : Kzs l key = true ↔ (∀ r, r ∈ l → Qdc r = true ∧ Kct r = 0) ∧ l.length ≤ 10 ∧ wS l ≤ 2000 ∧ key.length ≤ 64 := by
 unfold Kzs okT
 simp only [Bool.and_eq_true, List.all_eq_true, decide_eq_true_eq]
theorem J5a {r : List Rec} (h : Qdc r = true) : r.length ≤ 60 ∧ ∀ x, x ∈ r → x.2.1.length ≤ 300 := by
 unfold Qdc at h
 rw [Bool.and_eq_true, decide_eq_true_eq] at h
 exact ⟨h.2, fun x hx => of_decide_eq_true (List.all_eq_true.1 h.1 x hx)⟩
theorem Qgv : ∀ {r : List Rec}, (∀ x, x ∈ r → x.2.1.length ≤ 300) → wR r ≤ 320 * r.length
 | [], _ => Nat.le_refl _
 | x :: r, h => by
  have h1 := h x List.mem_cons_self
  have h2 := Qgv (r := r) fun y hy => h y (List.mem_cons_of_mem _ hy)
  rw [Ks4, List.length_cons]; omega
theorem Qd7 {X : Type} (F : Nat) (fail : X) (ex0 : List (List Rec) → Bys → Bool → Int → Int → Int → X) (l : List (List Rec)) (key : Bys) (s4 : Bool) (i : Nat) (hi : i < l.length) (hb : i < 1000000) (r : List Rec) (hr : l.getD i [] = r) (hf : Qdc r = true) : ∀ (j m k n : Nat), k + j = r.length → j ≤ m → n + 320 * j ≤ 1000000 →
  Jp9 F fail ex0 (m + 1) l key s4 n i k = ex0 l key s4 ((n + wR (r.drop k) : Nat) : Int) i (r.length : Nat)
 | 0, m, k, n, hk, _, _ => by
  rw [Jp9, Kgd, Jaa (tt2 (by omega) (by omega)), Int.toNat_natCast, hr, Jab (ff (by omega)), List.drop_eq_nil_of_le (by omega), show k = r.length by omega]; rfl
 | j + 1, 0, k, n, _, hm, _ => absurd hm (by omega)
 | j + 1, m + 1, k, n, hk, hm, hn => by
  obtain ⟨hl, hd⟩ := J5a hf
  have hx : (r.getD k rc0).2.1.length ≤ 300 := by rw [Jd8 (show k < r.length by omega)]; exact hd _ (List.getElem_mem _)
  have ih := Qd7 F fail ex0 l key s4 i hi hb r hr hf j m (k + 1) (n + (20 + (r.getD k rc0).2.1.length)) (by omega) (by omega) (by omega)
  rw [Jp9, Kgd, Jaa (tt2 (by omega) (by omega)), Int.toNat_natCast, Int.toNat_natCast, hr, Jaa (tt (by omega)), Jaa (tt2 (by omega) (by omega)), Jaa (tt2 (by omega) (by omega)), Jcu rc0 (show k < r.length by omega), Ks4]
  change Jp9 F fail ex0 (m + 1) l key s4 (Jag n (Jag 20 ((r.getD k rc0).2.1.length : Int))) i (Jag k 1) = _
  rw [Jak (a := (k : Int)) (by omega) (by omega), J0e, Jak (a := 20) (by omega) (by omega), Jak (by omega) (by omega), show (n : Int) + (20 + ((r.getD k rc0).2.1.length : Int)) = ((n + (20 + (r.getD k rc0).2.1.length) : Nat) : Int) by omega, ih, Nat.add_assoc]
theorem Qd8 {X : Type} (fail : X) (ex0 ex1 : List (List Rec) → Bys → Bool → Int → Int → X) (K : Bool → X) (l : List (List Rec)) (key : Bys) (s4 : Bool) (h0 : ∀ n i, ex0 l key false n i = K false) (h1 : ∀ (n : Nat) (i : Int), ex1 l key s4 n i = K (decide (l.length ≤ 10) && (decide (n ≤ 2000) && decide (key.length ≤ 64)))) : ∀ (j m i n : Nat), i + j = 12 → j ≤ m → n ≤ 20000 * i →
  Jqa 100 fail ex0 ex1 (m + 1) l key s4 n i = K (((l.drop i).take j).all okT && (decide (l.length ≤ 10) && (decide (n + wS ((l.drop i).take j) ≤ 2000) && decide (key.length ≤ 64))))
 | 0, m, i, n, hi, _, _ => by
  rw [Jqa, Kge, List.take_zero]
  by_cases c : (i : Int) < (l.length : Int)
  ·rw [Jaa (tt c), Jab (ff (by omega)), h1]; rfl
  ·rw [Jab (ff c), h1]; rfl
 | j + 1, 0, i, n, _, hm, _ => absurd hm (by omega)
 | j + 1, m + 1, i, n, hi, hm, hn => by
  rw [Jqa, Kge, Int.toNat_natCast]
  by_cases c : i < l.length
  ·rw [Jaa (tt (by omega)), Jaa (tt (by omega)), Jaa (tt2 (by omega) (by omega)), Jaa (c := Kw3 _) rfl, Jcu ([] : List Rec) c, List.take_succ_cons, List.all_cons, Khv]
   have ih := fun n' h => Qd8 fail ex0 ex1 K l key s4 h0 h1 j m (i + 1) n' (by omega) (by omega) h
   cases hf : Qdc (l.getD i []) with
   | false =>
    have e : okT (l.getD i []) = false := by unfold okT; rw [hf]; rfl
    rw [show Kcv (l.getD i []) = false from hf, Jaa (c := !false) rfl, h0, e]; rfl
   | true =>
    obtain ⟨hl, hd⟩ := J5a hf
    have hw := Qgv hd
    rw [show Kcv (l.getD i []) = true from hf, Jab (c := !true) rfl, Jaa (tt2 (by omega) (by omega)), Jaa (c := Jne _) rfl, show Jjj (l.getD i []) = Kct (l.getD i []) from rfl]
    by_cases cc : Kct (l.getD i []) = 0
    ·have e : okT (l.getD i []) = true := by unfold okT; rw [hf, tt cc]; rfl
     rw [Jab (Jgh cc), e]
     refine (Qd7 100 fail _ l key s4 i c (by omega) (l.getD i []) rfl hf (l.getD i []).length 99 0 n (by omega) (by omega) (by omega)).trans ?_
     rw [List.drop_zero]
     show Jqa 100 fail ex0 ex1 (m + 1) l key s4 _ (Jag i 1) = _
     rw [Jak (by omega) (by omega), J0e, ih _ (by omega), Nat.add_assoc]; rfl
    ·have e : okT (l.getD i []) = false := by unfold okT; rw [ff cc, Bool.and_false]
     rw [Jaa (Jj8 cc), h0, e]; rfl
  ·rw [Jab (ff (by omega)), h1, List.drop_eq_nil_of_le (by omega)]; rfl
theorem K0s (l : List (List Rec)) (key : Bys) (_ : K4g l key = true) : ∃ F, ∀ {X : Type} (fail : X) (ret : Bool → X), tfew F l key fail ret = ret (Kw5 l key) := ⟨100, fun fail ret => by
 unfold tfew Kw5 Kzs
 refine (Qd8 fail _ _ ret l key false (fun _ _ => rfl) (fun n i => ?_) 12 99 0 0 (by omega) (by omega) (by omega)).trans ?_
 ·by_cases c1 : l.length ≤ 10
  ·rw [Jaa (tt (by omega)), tt c1]
   by_cases c2 : n ≤ 2000
   ·rw [Jaa (tt (by omega)), tt c2]
    congr 1
    exact decide_eq_decide.2 (by omega)
   ·rw [Jab (ff (by omega)), ff c2]; rfl
  ·rw [Jab (ff (by omega)), ff c1]; rfl
 ·rw [List.drop_zero, Nat.zero_add]
  by_cases c1 : l.length ≤ 10
  ·rw [List.take_of_length_le (by omega)]
  ·rw [ff c1, Bool.false_and, Bool.and_false, Bool.false_and, Bool.and_false]⟩
theorem Kmo {n : Nat} (h1 : 1 ≤ n) (h2 : n ≤ 8192) : Qc8 n = Jba (List.replicate n z16) := by
 unfold Qc8
 rw [if_pos (by omega), Int.toNat_natCast]; rfl
theorem K66 {n : Nat} (h1 : 2 ≤ n) (h2 : n ≤ 8192) : Qg7 (Qc8 n) (K9p n) = true ∧ J3l (Qc8 n) (K9p n) = (begT n, (4, 0)) ∧ newE n = 0 ∧ fmtE n = 0 ∧ fmtL n = (1, (0, ((n : Int), ()))) := by
 have hl : (List.replicate n z16).length = n := List.length_replicate
 refine ⟨?_, ?_, if_pos (by omega), if_pos (by omega), if_pos (by omega)⟩
 ·rw [Kmo (by omega) h2]
  have e : K9p n = [wrO 0 (List.replicate n z16), syO, wrO 0 [Jh3], syO] := by unfold K9p; rw [if_pos (by omega), Int.toNat_natCast]
  refine Kr5.2 ⟨by show (List.replicate n z16).length ≤ _; omega, Nat.zero_le _, by rw [e]; simp, ?_⟩
  rw [e]
  show (List.replicate n z16).length + (0 + (1 + (0 + 0))) ≤ _
  omega
 ·rw [Kmo (by omega) h2, Qgj hl h1 h2]; rfl
theorem K0t (n : Nat) (h1 : 2 ≤ n) (h2 : n ≤ 8192) : Kk0 (Jl3 (n : Int)) (Jeh (n : Int)) = true ∧ Jnw (Jl3 (n : Int)) (Jeh (n : Int)) = begT n ∧ Jwj (Jl3 (n : Int)) (Jeh (n : Int)) = 0 ∧ Joe (n : Int) = 0 ∧ J6l (n : Int) = 0 ∧ Ji0 (n : Int) = (1, (0, ((n : Int), ()))) := by
 obtain ⟨b1, b2, b3, b4, b5⟩ := K66 h1 h2
 refine ⟨b1, ?_, ?_, b4, b3, b5⟩
 ·show (J3l (Qc8 (n : Int)) (K9p (n : Int))).1 = _
  rw [b2]
 ·show (J3l (Qc8 (n : Int)) (K9p (n : Int))).2.2 = _
  rw [b2]
theorem Kmp (_ : J4v = true) : ∃ F, ∀ {X : Type} (fail : X) (ret : DK → Jf6 → Bool → X), K40 F fail ret = ret Jr5 Jok J6u := ⟨0, fun fail ret => by
 obtain ⟨b1, b2, b3, b4, b5, b6⟩ := K0t 400 (by omega) (by omega)
 rw [show ((400 : Nat) : Int) = 400 from rfl] at b1 b2 b3 b4 b5 b6
 unfold K40
 rw [b1, b2, b3, b4, b5, b6]; rfl⟩
theorem Qd9 {l : List (List Rec)} {key : Bys} (h : Kzs l key = true) : ∀ r, r ∈ l → Kx9 key r := fun r hr => by
 obtain ⟨h1, h2, h3, h4⟩ := Jzc.1 h
 obtain ⟨h5, h6⟩ := h1 r hr
 obtain ⟨h7, h8⟩ := J5a h5
 have hw := Qgv h8
 have he := Qiy r
 refine ⟨?_, ?_⟩
 ·unfold Kcu; rw [if_pos h6, if_neg (by omega)]
 ·by_cases c : key = []
  ·exact .inl c
  ·have := List.length_pos_iff.2 c
   exact .inr ⟨⟨by omega, h4⟩, by omega⟩
theorem K67 (l : List (List Rec)) : ∀ i, wS (l.take i) ≤ wS l
 | 0 => Nat.zero_le _
 | i + 1 => by
  match l with
  | [] => exact Nat.le_refl _
  | r :: l =>
   rw [List.take_succ_cons, Khv, Khv]
   have := K67 l i
   omega
theorem Qcb {l : List (List Rec)} {key : Bys} (h : Kzs l key = true) {n : Nat} (hn : 200 ≤ n ∧ n ≤ 8192) {i : Nat} (hi : i < l.length) {s : List Ja7} (ht : Jiq key n s (l.take i)) : Kqb (lgT key (l.take i) n) key (l.getD i []) = 0 := by
 obtain ⟨h1, h2, h3, h4⟩ := Jzc.1 h
 have hm : l.getD i [] ∈ l := by rw [Jd8 hi]; exact List.getElem_mem _
 have hw := Qd6 key (l.take i) 1 1
 have hl : (l.take i).length = i := by rw [List.length_take]; omega
 have hp := Qd5 key ((1 + (l.take i).length : Nat) : Int) (l.getD i [])
 have hs : wS (l.take i) + wR (l.getD i []) ≤ 2000 := by
  rw [← Qgu, ← Jdx l i [] hi]
  have := K67 l (i + 1)
  omega
 rcases ht.err (by omega) (by omega) (Qd9 h _ hm) with ⟨e, _⟩ | ⟨_, e⟩
 ·exact e
 ·exfalso
  unfold Jar at e
  omega
theorem Ks5 {X : Type} (F : Nat) (fail : X) (ex0 : List (List Rec) → Bys → Bool → Int → DK → Jf6 → DK → Jf6 → X) (l : List (List Rec)) (key : Bys) (h : Kzs l key = true) (a : DK) (b : Jf6) : ∀ (j m i : Nat) (s : List Ja7), i + j = l.length → j ≤ m → Jiq key 400 s (l.take i) →
  ∃ s', Jiq key 400 s' l ∧ cmD key (l.drop i) (Jba s, lgT key (l.take i) 400) = (Jba s', lgT key l 400) ∧ Je8 F fail ex0 (m + 1) l key true i a b (Jba s) (lgT key (l.take i) 400) = ex0 l key true (l.length : Nat) a b (Jba s') (lgT key l 400)
 | 0, m, i, s, hi, _, ht => by
  have e : l.take i = l := List.take_of_length_le (by omega)
  rw [e] at ht ⊢
  refine ⟨s, ht, ?_, ?_⟩
  ·rw [List.drop_eq_nil_of_le (by omega)]; rfl
  ·rw [Je8, Jk6, Jab (ff (by omega)), show i = l.length by omega]
 | j + 1, 0, i, _, _, hm, _ => absurd hm (by omega)
 | j + 1, m + 1, i, s, hi, hm, ht => by
  obtain ⟨h1, h2, h3, h4⟩ := Jzc.1 h
  have hlt : i < l.length := by omega
  have hmem : l.getD i [] ∈ l := by rw [Jd8 hlt]; exact List.getElem_mem _
  have he := Qcb h (by omega) hlt ht
  obtain ⟨r1, r2, s', q, r3, r4⟩ := ht.run (by omega) (by omega) (Qd9 h _ hmem) he
  have ets : l.take (i + 1) = l.take i ++ [l.getD i []] := Jdx l i [] hlt
  rw [← ets] at r2 r4
  obtain ⟨s2, i1, i2, i3⟩ := Ks5 F fail ex0 l key h a b j m (i + 1) s' (by omega) (by omega) r4
  refine ⟨s2, i1, ?_, ?_⟩
  ·rw [Jcu ([] : List Rec) hlt, cmD]
   show cmD key _ ((J3l (Jba s) (J2r (lgT key (l.take i) 400) key (l.getD i []))).1, K19 (lgT key (l.take i) 400) key (l.getD i [])) = _
   rw [r2, r3]
   exact i2
  ·rw [Je8, Jk6, Int.toNat_natCast, Jaa (tt (by omega)), cond_true, Jaa (tt2 (by omega) (by omega)), Jaa (c := Joi _ _ _) rfl, Jak (by omega) (by omega), J0e]
   refine Jbg r1 (Jbg (Jnv he) ?_)
   have d0 : Jnw (Jba s) (Jb2 (lgT key (l.take i) 400) key (l.getD i [])) = Jba s' := by
    show (J3l (Jba s) (J2r (lgT key (l.take i) 400) key (l.getD i []))).1 = _
    rw [r3]
   have d2 : (Jwj (Jba s) (Jb2 (lgT key (l.take i) 400) key (l.getD i [])) == 0) = true := by
    show ((J3l (Jba s) (J2r (lgT key (l.take i) 400) key (l.getD i []))).2.2 == 0) = true
    rw [r3]; rfl
   rw [d0, d2, show Jhp (lgT key (l.take i) 400) key (l.getD i []) = lgT key (l.take (i + 1)) 400 from r2]
   exact i3
theorem cm_ok {l : List (List Rec)} {key : Bys} (h : Kzs l key = true) : ∃ s', Jiq key 400 s' l ∧ Ja3 l key = Jba s' ∧ Jkw l key = lgT key l 400 := by
 obtain ⟨s', h1, h2, _⟩ := Ks5 (X := Unit) 0 () (fun _ _ _ _ _ _ _ _ => ()) l key h (begT 400) Jok l.length l.length 0 (Jh3 :: List.replicate 399 z16) (by omega) (by omega) (Jiq.fresh key 400 (by omega))
 rw [List.drop_zero, List.take_zero] at h2
 refine ⟨s', h1, ?_, ?_⟩
 ·exact congrArg Prod.fst h2
 ·exact congrArg Prod.snd h2
theorem J3s (l : List (List Rec)) (key : Bys) (h : Jr6 l key = true) : ∃ F, ∀ {X : Type} (fail : X) (ret : DK → Jf6 → Bool → X), J03 F l key fail ret = ret (Ja3 l key) (Jkw l key) (Jpt l key) := ⟨l.length + 1, fun fail ret => by
 unfold J03
 rw [Jaa (c := J4v) rfl]
 obtain ⟨s', h1, h2, h3⟩ := Ks5 (l.length + 1) fail (fun _ _ ok _ _ _ d x => ret d x ok) l key h dk0 Kqa l.length l.length 0 (Jh3 :: List.replicate 399 z16) (by omega) (by omega) (Jiq.fresh key 400 (by omega))
 rw [List.drop_zero, List.take_zero] at h2
 have e0 : Ja3 l key = Jba s' := congrArg Prod.fst h2
 have e1 : Jkw l key = lgT key l 400 := congrArg Prod.snd h2
 rw [e0, e1]
 exact h3⟩
theorem Qcc {l : List (List Rec)} {key : Bys} (h : Kzs l key = true) : K18 l = true := by
 obtain ⟨h1, h2, h3, h4⟩ := Jzc.1 h
 unfold K18
 rw [Bool.and_eq_true, decide_eq_true_eq]
 refine ⟨by omega, List.all_eq_true.2 fun r hr => tt ?_⟩
 have := (J5a (h1 r hr).1).1
 omega
end Go.AI
