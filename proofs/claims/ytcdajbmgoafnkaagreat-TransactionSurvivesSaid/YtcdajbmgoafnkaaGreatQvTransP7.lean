/- Texts of the proof, joined: TransP7. Names of our own are shortened by program; the long ones stand in wip/. -/
import Derived.Test.YtcdajbmgoafnkaaGreatQvG
import Derived.Test.YtcdajbmgoafnkaaGreatQvTransC
namespace Go.AI
open Go
theorem Jo5 {l : List (List Rec)} {key : Bys} : Klk l key = true ↔ (∀ r, r ∈ l → K5b r = true ∧ Kep r = 0) ∧ l.length ≤ 10 ∧ wS l ≤ 2000 ∧ key.length ≤ 64 := by
 unfold Klk okT
 simp only [Bool.and_eq_true, List.all_eq_true, decide_eq_true_eq]
theorem Jw5 {r : List Rec} (h : K5b r = true) : r.length ≤ 60 ∧ ∀ x, x ∈ r → x.2.1.length ≤ 300 := by
 unfold K5b at h
 rw [Bool.and_eq_true, decide_eq_true_eq] at h
 exact ⟨h.2, fun x hx => of_decide_eq_true (List.all_eq_true.1 h.1 x hx)⟩
theorem K8g : ∀ {r : List Rec}, (∀ x, x ∈ r → x.2.1.length ≤ 300) → wR r ≤ 320 * r.length
 | [], _ => Nat.le_refl _
 | x :: r, h => by
  have h1 := h x List.mem_cons_self
  have h2 := K8g (r := r) fun y hy => h y (List.mem_cons_of_mem _ hy)
  rw [Km1, List.length_cons]; omega
theorem K54 {X : Type} (F : Nat) (fail : X) (ex0 : List (List Rec) → Bys → Bool → Int → Int → Int → X) (l : List (List Rec)) (key : Bys) (s4 : Bool) (i : Nat) (hi : i < l.length) (hb : i < 1000000) (r : List Rec) (hr : l.getD i [] = r) (hf : K5b r = true) : ∀ (j m k n : Nat), k + j = r.length → j ≤ m → n + 320 * j ≤ 1000000 →
  Jow F fail ex0 (m + 1) l key s4 n i k = ex0 l key s4 ((n + wR (r.drop k) : Nat) : Int) i (r.length : Nat)
 | 0, m, k, n, hk, _, _ => by
  rw [Jow, Kbz, Jaa (tt2 (by omega) (by omega)), Int.toNat_natCast, hr, Jab (ff (by omega)), List.drop_eq_nil_of_le (by omega), show k = r.length by omega]; rfl
 | j + 1, 0, k, n, _, hm, _ => absurd hm (by omega)
 | j + 1, m + 1, k, n, hk, hm, hn => by
  obtain ⟨hl, hd⟩ := Jw5 hf
  have hx : (r.getD k rc0).2.1.length ≤ 300 := by rw [Jdw (show k < r.length by omega)]; exact hd _ (List.getElem_mem _)
  have ih := K54 F fail ex0 l key s4 i hi hb r hr hf j m (k + 1) (n + (20 + (r.getD k rc0).2.1.length)) (by omega) (by omega) (by omega)
  rw [Jow, Kbz, Jaa (tt2 (by omega) (by omega)), Int.toNat_natCast, Int.toNat_natCast, hr, Jaa (tt (by omega)), Jaa (tt2 (by omega) (by omega)), Jaa (tt2 (by omega) (by omega)), Jcu rc0 (show k < r.length by omega), Km1]
  change Jow F fail ex0 (m + 1) l key s4 (Jay n (Jay 20 ((r.getD k rc0).2.1.length : Int))) i (Jay k 1) = _
  rw [Jam (a := (k : Int)) (by omega) (by omega), Juu, Jam (a := 20) (by omega) (by omega), Jam (by omega) (by omega), show (n : Int) + (20 + ((r.getD k rc0).2.1.length : Int)) = ((n + (20 + (r.getD k rc0).2.1.length) : Nat) : Int) by omega, ih, Nat.add_assoc]
theorem K55 {X : Type} (fail : X) (ex0 ex1 : List (List Rec) → Bys → Bool → Int → Int → X) (K : Bool → X) (l : List (List Rec)) (key : Bys) (s4 : Bool) (h0 : ∀ n i, ex0 l key false n i = K false) (h1 : ∀ (n : Nat) (i : Int), ex1 l key s4 n i = K (decide (l.length ≤ 10) && (decide (n ≤ 2000) && decide (key.length ≤ 64)))) : ∀ (j m i n : Nat), i + j = 12 → j ≤ m → n ≤ 20000 * i →
  Jox 100 fail ex0 ex1 (m + 1) l key s4 n i = K (((l.drop i).take j).all okT && (decide (l.length ≤ 10) && (decide (n + wS ((l.drop i).take j) ≤ 2000) && decide (key.length ≤ 64))))
 | 0, m, i, n, hi, _, _ => by
  rw [Jox, Kb0, List.take_zero]
  by_cases c : (i : Int) < (l.length : Int)
  ·rw [Jaa (tt c), Jab (ff (by omega)), h1]; rfl
  ·rw [Jab (ff c), h1]; rfl
 | j + 1, 0, i, n, _, hm, _ => absurd hm (by omega)
 | j + 1, m + 1, i, n, hi, hm, hn => by
  rw [Jox, Kb0, Int.toNat_natCast]
  by_cases c : i < l.length
  ·rw [Jaa (tt (by omega)), Jaa (tt (by omega)), Jaa (tt2 (by omega) (by omega)), Jaa (c := Kqc _) rfl, Jcu ([] : List Rec) c, List.take_succ_cons, List.all_cons, Kdb]
   have ih := fun n' h => K55 fail ex0 ex1 K l key s4 h0 h1 j m (i + 1) n' (by omega) (by omega) h
   cases hf : K5b (l.getD i []) with
   | false =>
    have e : okT (l.getD i []) = false := by unfold okT; rw [hf]; rfl
    rw [show J8u (l.getD i []) = false from hf, Jaa (c := !false) rfl, h0, e]; rfl
   | true =>
    obtain ⟨hl, hd⟩ := Jw5 hf
    have hw := K8g hd
    rw [show J8u (l.getD i []) = true from hf, Jab (c := !true) rfl, Jaa (tt2 (by omega) (by omega)), Jaa (c := Jmf _) rfl, show Jiy (l.getD i []) = Kep (l.getD i []) from rfl]
    by_cases cc : Kep (l.getD i []) = 0
    ·have e : okT (l.getD i []) = true := by unfold okT; rw [hf, tt cc]; rfl
     rw [Jab (Jf8 cc), e]
     refine (K54 100 fail _ l key s4 i c (by omega) (l.getD i []) rfl hf (l.getD i []).length 99 0 n (by omega) (by omega) (by omega)).trans ?_
     rw [List.drop_zero]
     show Jox 100 fail ex0 ex1 (m + 1) l key s4 _ (Jay i 1) = _
     rw [Jam (by omega) (by omega), Juu, ih _ (by omega), Nat.add_assoc]; rfl
    ·have e : okT (l.getD i []) = false := by unfold okT; rw [ff cc, Bool.and_false]
     rw [Jaa (Jjj cc), h0, e]; rfl
  ·rw [Jab (ff (by omega)), h1, List.drop_eq_nil_of_le (by omega)]; rfl
theorem Ktu (l : List (List Rec)) (key : Bys) (_ : Kxa l key = true) : ∃ F, ∀ {X : Type} (fail : X) (ret : Bool → X), tfew F l key fail ret = ret (Kqf l key) := ⟨100, fun fail ret => by
 unfold tfew Kqf Klk
 refine (K55 fail _ _ ret l key false (fun _ _ => rfl) (fun n i => ?_) 12 99 0 0 (by omega) (by omega) (by omega)).trans ?_
 ·by_cases c1 : l.length ≤ 10
  ·rw [Jaa (tt (by omega)), tt c1]
   by_cases c2 : n ≤ 2000
   ·rw [Jaa (tt (by omega)), tt c2]
    congr 1
    exact decide_eq_decide.2 (by omega)
   ·rw [Jab (ff (by omega)), ff c2]; rfl
  ·rw [Jab (ff (by omega)), ff c1]; rfl
 ·rw [List.drop_zero, Nat.zero_add]
  by_cases c1 : l.length ≤ 10
  ·rw [List.take_of_length_le (by omega)]
  ·rw [ff c1, Bool.false_and, Bool.and_false, Bool.false_and, Bool.and_false]⟩
theorem Khn {n : Nat} (h1 : 1 ≤ n) (h2 : n ≤ 8192) : K43 n = Jbp (List.replicate n z16) := by
 unfold K43
 rw [if_pos (by omega), Int.toNat_natCast]; rfl
theorem Kzp {n : Nat} (h1 : 2 ≤ n) (h2 : n ≤ 8192) : Kw5 (K43 n) (K1x n) = true ∧ Jpp (K43 n) (K1x n) = (begT n, (4, 0)) ∧ newE n = 0 ∧ fmtE n = 0 ∧ fmtL n = (1, (0, ((n : Int), ()))) := by
 have hl : (List.replicate n z16).length = n := List.length_replicate
 refine ⟨?_, ?_, if_pos (by omega), if_pos (by omega), if_pos (by omega)⟩
 ·rw [Khn (by omega) h2]
  have e : K1x n = [wrO 0 (List.replicate n z16), syO, wrO 0 [Jhr], syO] := by unfold K1x; rw [if_pos (by omega), Int.toNat_natCast]
  refine Juv.2 ⟨by show (List.replicate n z16).length ≤ _; omega, Nat.zero_le _, by rw [e]; simp, ?_⟩
  rw [e]
  show (List.replicate n z16).length + (0 + (1 + (0 + 0))) ≤ _
  omega
 ·rw [Khn (by omega) h2, K76 hl h1 h2]; rfl
theorem Ktv (n : Nat) (h1 : 2 ≤ n) (h2 : n ≤ 8192) : Jz0 (Jk7 (n : Int)) (Jew (n : Int)) = true ∧ Jgi (Jk7 (n : Int)) (Jew (n : Int)) = begT n ∧ Jk8 (Jk7 (n : Int)) (Jew (n : Int)) = 0 ∧ Jm2 (n : Int) = 0 ∧ J3i (n : Int) = 0 ∧ Jil (n : Int) = (1, (0, ((n : Int), ()))) := by
 obtain ⟨b1, b2, b3, b4, b5⟩ := Kzp h1 h2
 refine ⟨b1, ?_, ?_, b4, b3, b5⟩
 ·show (Jpp (K43 (n : Int)) (K1x (n : Int))).1 = _
  rw [b2]
 ·show (Jpp (K43 (n : Int)) (K1x (n : Int))).2.2 = _
  rw [b2]
theorem Kho (_ : J1x = true) : ∃ F, ∀ {X : Type} (fail : X) (ret : DK → Jfp → Bool → X), Kxq F fail ret = ret Jqv Jm9 J3p := ⟨0, fun fail ret => by
 obtain ⟨b1, b2, b3, b4, b5, b6⟩ := Ktv 400 (by omega) (by omega)
 rw [show ((400 : Nat) : Int) = 400 from rfl] at b1 b2 b3 b4 b5 b6
 unfold Kxq
 rw [b1, b2, b3, b4, b5, b6]; rfl⟩
theorem Kzq {l : List (List Rec)} {key : Bys} (h : Klk l key = true) : ∀ r, r ∈ l → Kri key r := fun r hr => by
 obtain ⟨h1, h2, h3, h4⟩ := Jo5.1 h
 obtain ⟨h5, h6⟩ := h1 r hr
 obtain ⟨h7, h8⟩ := Jw5 h5
 have hw := K8g h8
 have he := Qak r
 refine ⟨?_, ?_⟩
 ·unfold J8t; rw [if_pos h6, if_neg (by omega)]
 ·by_cases c : key = []
  ·exact .inl c
  ·have := List.length_pos_iff.2 c
   exact .inr ⟨⟨by omega, h4⟩, by omega⟩
theorem Km2 (l : List (List Rec)) : ∀ i, wS (l.take i) ≤ wS l
 | 0 => Nat.zero_le _
 | i + 1 => by
  match l with
  | [] => exact Nat.le_refl _
  | r :: l =>
   rw [List.take_succ_cons, Kdb, Kdb]
   have := Km2 l i
   omega
theorem Krj {l : List (List Rec)} {key : Bys} (h : Klk l key = true) {n : Nat} (hn : 200 ≤ n ∧ n ≤ 8192) {i : Nat} (hi : i < l.length) {s : List Jbe} (ht : Jh4 key n s (l.take i)) : Kf9 (lgT key (l.take i) n) key (l.getD i []) = 0 := by
 obtain ⟨h1, h2, h3, h4⟩ := Jo5.1 h
 have hm : l.getD i [] ∈ l := by rw [Jdw hi]; exact List.getElem_mem _
 have hw := Kzo key (l.take i) 1 1
 have hl : (l.take i).length = i := by rw [List.length_take]; omega
 have hp := Kzn key ((1 + (l.take i).length : Nat) : Int) (l.getD i [])
 have hs : wS (l.take i) + wR (l.getD i []) ≤ 2000 := by
  rw [← Kzm, ← Jfe l i [] hi]
  have := Km2 l (i + 1)
  omega
 rcases ht.err (by omega) (by omega) (Kzq h _ hm) with ⟨e, _⟩ | ⟨_, e⟩
 ·exact e
 ·exfalso
  unfold Jaq at e
  omega
theorem Km3 {X : Type} (F : Nat) (fail : X) (ex0 : List (List Rec) → Bys → Bool → Int → DK → Jfp → DK → Jfp → X) (l : List (List Rec)) (key : Bys) (h : Klk l key = true) (a : DK) (b : Jfp) : ∀ (j m i : Nat) (s : List Jbe), i + j = l.length → j ≤ m → Jh4 key 400 s (l.take i) →
  ∃ s', Jh4 key 400 s' l ∧ cmD key (l.drop i) (Jbp s, lgT key (l.take i) 400) = (Jbp s', lgT key l 400) ∧ Jfj F fail ex0 (m + 1) l key true i a b (Jbp s) (lgT key (l.take i) 400) = ex0 l key true (l.length : Nat) a b (Jbp s') (lgT key l 400)
 | 0, m, i, s, hi, _, ht => by
  have e : l.take i = l := List.take_of_length_le (by omega)
  rw [e] at ht ⊢
  refine ⟨s, ht, ?_, ?_⟩
  ·rw [List.drop_eq_nil_of_le (by omega)]; rfl
  ·rw [Jfj, Jka, Jab (ff (by omega)), show i = l.length by omega]
 | j + 1, 0, i, _, _, hm, _ => absurd hm (by omega)
 | j + 1, m + 1, i, s, hi, hm, ht => by
  obtain ⟨h1, h2, h3, h4⟩ := Jo5.1 h
  have hlt : i < l.length := by omega
  have hmem : l.getD i [] ∈ l := by rw [Jdw hlt]; exact List.getElem_mem _
  have he := Krj h (by omega) hlt ht
  obtain ⟨r1, r2, s', q, r3, r4⟩ := ht.run (by omega) (by omega) (Kzq h _ hmem) he
  have ets : l.take (i + 1) = l.take i ++ [l.getD i []] := Jfe l i [] hlt
  rw [← ets] at r2 r4
  obtain ⟨s2, i1, i2, i3⟩ := Km3 F fail ex0 l key h a b j m (i + 1) s' (by omega) (by omega) r4
  refine ⟨s2, i1, ?_, ?_⟩
  ·rw [Jcu ([] : List Rec) hlt, cmD]
   show cmD key _ ((Jpp (Jbp s) (Jtl (lgT key (l.take i) 400) key (l.getD i []))).1, Ku2 (lgT key (l.take i) 400) key (l.getD i [])) = _
   rw [r2, r3]
   exact i2
  ·rw [Jfj, Jka, Int.toNat_natCast, Jaa (tt (by omega)), cond_true, Jaa (tt2 (by omega) (by omega)), Jaa (c := Ji9 _ _ _) rfl, Jam (by omega) (by omega), Juu]
   refine Jbn r1 (Jbn (Jju he) ?_)
   have d0 : Jgi (Jbp s) (Jav (lgT key (l.take i) 400) key (l.getD i [])) = Jbp s' := by
    show (Jpp (Jbp s) (Jtl (lgT key (l.take i) 400) key (l.getD i []))).1 = _
    rw [r3]
   have d2 : (Jk8 (Jbp s) (Jav (lgT key (l.take i) 400) key (l.getD i [])) == 0) = true := by
    show ((Jpp (Jbp s) (Jtl (lgT key (l.take i) 400) key (l.getD i []))).2.2 == 0) = true
    rw [r3]; rfl
   rw [d0, d2, show Jdl (lgT key (l.take i) 400) key (l.getD i []) = lgT key (l.take (i + 1)) 400 from r2]
   exact i3
theorem cm_ok {l : List (List Rec)} {key : Bys} (h : Klk l key = true) : ∃ s', Jh4 key 400 s' l ∧ Je6 l key = Jbp s' ∧ Jan l key = lgT key l 400 := by
 obtain ⟨s', h1, h2, _⟩ := Km3 (X := Unit) 0 () (fun _ _ _ _ _ _ _ _ => ()) l key h (begT 400) Jm9 l.length l.length 0 (Jhr :: List.replicate 399 z16) (by omega) (by omega) (Jh4.fresh key 400 (by omega))
 rw [List.drop_zero, List.take_zero] at h2
 refine ⟨s', h1, ?_, ?_⟩
 ·exact congrArg Prod.fst h2
 ·exact congrArg Prod.snd h2
theorem J0z (l : List (List Rec)) (key : Bys) (h : Jqw l key = true) : ∃ F, ∀ {X : Type} (fail : X) (ret : DK → Jfp → Bool → X), Jyu F l key fail ret = ret (Je6 l key) (Jan l key) (Jok l key) := ⟨l.length + 1, fun fail ret => by
 unfold Jyu
 rw [Jaa (c := J1x) rfl]
 obtain ⟨s', h1, h2, h3⟩ := Km3 (l.length + 1) fail (fun _ _ ok _ _ _ d x => ret d x ok) l key h dk0 Kqa l.length l.length 0 (Jhr :: List.replicate 399 z16) (by omega) (by omega) (Jh4.fresh key 400 (by omega))
 rw [List.drop_zero, List.take_zero] at h2
 have e0 : Je6 l key = Jbp s' := congrArg Prod.fst h2
 have e1 : Jan l key = lgT key l 400 := congrArg Prod.snd h2
 rw [e0, e1]
 exact h3⟩
theorem Krk {l : List (List Rec)} {key : Bys} (h : Klk l key = true) : Kqd l = true := by
 obtain ⟨h1, h2, h3, h4⟩ := Jo5.1 h
 unfold Kqd
 rw [Bool.and_eq_true, decide_eq_true_eq]
 refine ⟨by omega, List.all_eq_true.2 fun r hr => tt ?_⟩
 have := (Jw5 (h1 r hr).1).1
 omega
end Go.AI
