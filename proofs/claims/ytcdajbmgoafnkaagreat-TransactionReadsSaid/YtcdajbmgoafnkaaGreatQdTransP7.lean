/- Texts of the proof, joined: TransP7. -/
import Derived.Test.YtcdajbmgoafnkaaGreatQdG
import Derived.Test.YtcdajbmgoafnkaaGreatQdTransC
namespace Go.AI
open Go
theorem fewT_iff {l : List (List Rec)} {key : Bys} : fewT l key = true ↔ (∀ r, r ∈ l → fewR r = true ∧ chkR r = 0) ∧ l.length ≤ 10 ∧ wS l ≤ 2000 ∧ key.length ≤ 64 := by
 unfold fewT okT
 simp only [Bool.and_eq_true, List.all_eq_true, decide_eq_true_eq]
theorem fewR_mem {r : List Rec} (h : fewR r = true) : r.length ≤ 60 ∧ ∀ x, x ∈ r → x.2.1.length ≤ 300 := by
 unfold fewR at h
 rw [Bool.and_eq_true, decide_eq_true_eq] at h
 exact ⟨h.2, fun x hx => of_decide_eq_true (List.all_eq_true.1 h.1 x hx)⟩
theorem wR_le : ∀ {r : List Rec}, (∀ x, x ∈ r → x.2.1.length ≤ 300) → wR r ≤ 320 * r.length
 | [], _ => Nat.le_refl _
 | x :: r, h => by
  have h1 := h x List.mem_cons_self
  have h2 := wR_le (r := r) fun y hy => h y (List.mem_cons_of_mem _ hy)
  rw [wR_cons, List.length_cons]; omega
theorem few_l2 {X : Type} (F : Nat) (fail : X) (ex0 : List (List Rec) → Bys → Bool → Int → Int → Int → X) (l : List (List Rec)) (key : Bys) (s4 : Bool) (i : Nat) (hi : i < l.length) (hb : i < 1000000) (r : List Rec) (hr : l.getD i [] = r) (hf : fewR r = true) : ∀ (j m k n : Nat), k + j = r.length → j ≤ m → n + 320 * j ≤ 1000000 →
  tfew_l2F F fail ex0 (m + 1) l key s4 n i k = ex0 l key s4 ((n + wR (r.drop k) : Nat) : Int) i (r.length : Nat)
 | 0, m, k, n, hk, _, _ => by
  rw [tfew_l2F, tfew_l2, bif_true (tt2 (by omega) (by omega)), Int.toNat_natCast, hr, bif_false (ff (by omega)), List.drop_eq_nil_of_le (by omega), show k = r.length by omega]; rfl
 | j + 1, 0, k, n, _, hm, _ => absurd hm (by omega)
 | j + 1, m + 1, k, n, hk, hm, hn => by
  obtain ⟨hl, hd⟩ := fewR_mem hf
  have hx : (r.getD k rc0).2.1.length ≤ 300 := by rw [getD_lt (show k < r.length by omega)]; exact hd _ (List.getElem_mem _)
  have ih := few_l2 F fail ex0 l key s4 i hi hb r hr hf j m (k + 1) (n + (20 + (r.getD k rc0).2.1.length)) (by omega) (by omega) (by omega)
  rw [tfew_l2F, tfew_l2, bif_true (tt2 (by omega) (by omega)), Int.toNat_natCast, Int.toNat_natCast, hr, bif_true (tt (by omega)), bif_true (tt2 (by omega) (by omega)), bif_true (tt2 (by omega) (by omega)), drop_cons rc0 (show k < r.length by omega), wR_cons]
  change tfew_l2F F fail ex0 (m + 1) l key s4 (addI n (addI 20 ((r.getD k rc0).2.1.length : Int))) i (addI k 1) = _
  rw [addI_eq (a := (k : Int)) (by omega) (by omega), nat1, addI_eq (a := 20) (by omega) (by omega), addI_eq (by omega) (by omega), show (n : Int) + (20 + ((r.getD k rc0).2.1.length : Int)) = ((n + (20 + (r.getD k rc0).2.1.length) : Nat) : Int) by omega, ih, Nat.add_assoc]
theorem few_l1 {X : Type} (fail : X) (ex0 ex1 : List (List Rec) → Bys → Bool → Int → Int → X) (K : Bool → X) (l : List (List Rec)) (key : Bys) (s4 : Bool) (h0 : ∀ n i, ex0 l key false n i = K false) (h1 : ∀ (n : Nat) (i : Int), ex1 l key s4 n i = K (decide (l.length ≤ 10) && (decide (n ≤ 2000) && decide (key.length ≤ 64)))) : ∀ (j m i n : Nat), i + j = 12 → j ≤ m → n ≤ 20000 * i →
  tfew_l1F 100 fail ex0 ex1 (m + 1) l key s4 n i = K (((l.drop i).take j).all okT && (decide (l.length ≤ 10) && (decide (n + wS ((l.drop i).take j) ≤ 2000) && decide (key.length ≤ 64))))
 | 0, m, i, n, hi, _, _ => by
  rw [tfew_l1F, tfew_l1, List.take_zero]
  by_cases c : (i : Int) < (l.length : Int)
  ·rw [bif_true (tt c), bif_false (ff (by omega)), h1]; rfl
  ·rw [bif_false (ff c), h1]; rfl
 | j + 1, 0, i, n, _, hm, _ => absurd hm (by omega)
 | j + 1, m + 1, i, n, hi, hm, hn => by
  rw [tfew_l1F, tfew_l1, Int.toNat_natCast]
  by_cases c : i < l.length
  ·rw [bif_true (tt (by omega)), bif_true (tt (by omega)), bif_true (tt2 (by omega) (by omega)), bif_true (c := uFew_P _) rfl, drop_cons ([] : List Rec) c, List.take_succ_cons, List.all_cons, wS_cons]
   have ih := fun n' h => few_l1 fail ex0 ex1 K l key s4 h0 h1 j m (i + 1) n' (by omega) (by omega) h
   cases hf : fewR (l.getD i []) with
   | false =>
    have e : okT (l.getD i []) = false := by unfold okT; rw [hf]; rfl
    rw [show uFew_r (l.getD i []) = false from hf, bif_true (c := !false) rfl, h0, e]; rfl
   | true =>
    obtain ⟨hl, hd⟩ := fewR_mem hf
    have hw := wR_le hd
    rw [show uFew_r (l.getD i []) = true from hf, bif_false (c := !true) rfl, bif_true (tt2 (by omega) (by omega)), bif_true (c := tCheck_P _) rfl, show tCheck_r (l.getD i []) = chkR (l.getD i []) from rfl]
    by_cases cc : chkR (l.getD i []) = 0
    ·have e : okT (l.getD i []) = true := by unfold okT; rw [hf, tt cc]; rfl
     rw [bif_false (bne_f cc), e]
     refine (few_l2 100 fail _ l key s4 i c (by omega) (l.getD i []) rfl hf (l.getD i []).length 99 0 n (by omega) (by omega) (by omega)).trans ?_
     rw [List.drop_zero]
     show tfew_l1F 100 fail ex0 ex1 (m + 1) l key s4 _ (addI i 1) = _
     rw [addI_eq (by omega) (by omega), nat1, ih _ (by omega), Nat.add_assoc]; rfl
    ·have e : okT (l.getD i []) = false := by unfold okT; rw [ff cc, Bool.and_false]
     rw [bif_true (bne_t cc), h0, e]; rfl
  ·rw [bif_false (ff (by omega)), h1, List.drop_eq_nil_of_le (by omega)]; rfl
theorem tfew_plain (l : List (List Rec)) (key : Bys) (_ : tfew_P l key = true) : ∃ F, ∀ {X : Type} (fail : X) (ret : Bool → X), tfew F l key fail ret = ret (tfew_r l key) := ⟨100, fun fail ret => by
 unfold tfew tfew_r fewT
 refine (few_l1 fail _ _ ret l key false (fun _ _ => rfl) (fun n i => ?_) 12 99 0 0 (by omega) (by omega) (by omega)).trans ?_
 ·by_cases c1 : l.length ≤ 10
  ·rw [bif_true (tt (by omega)), tt c1]
   by_cases c2 : n ≤ 2000
   ·rw [bif_true (tt (by omega)), tt c2]
    congr 1
    exact decide_eq_decide.2 (by omega)
   ·rw [bif_false (ff (by omega)), ff c2]; rfl
  ·rw [bif_false (ff (by omega)), ff c1]; rfl
 ·rw [List.drop_zero, Nat.zero_add]
  by_cases c1 : l.length ≤ 10
  ·rw [List.take_of_length_le (by omega)]
  ·rw [ff c1, Bool.false_and, Bool.and_false, Bool.false_and, Bool.and_false]⟩
theorem new_still {n : Nat} (h1 : 1 ≤ n) (h2 : n ≤ 8192) : newD n = still (List.replicate n z16) := by
 unfold newD
 rw [if_pos (by omega), Int.toNat_natCast]; rfl
theorem begin_run {n : Nat} (h1 : 2 ≤ n) (h2 : n ≤ 8192) : runP (newD n) (fmtO n) = true ∧ runD (newD n) (fmtO n) = (begT n, (4, 0)) ∧ newE n = 0 ∧ fmtE n = 0 ∧ fmtL n = (1, (0, ((n : Int), ()))) := by
 have hl : (List.replicate n z16).length = n := List.length_replicate
 refine ⟨?_, ?_, if_pos (by omega), if_pos (by omega), if_pos (by omega)⟩
 ·rw [new_still (by omega) h2]
  have e : fmtO n = [wrO 0 (List.replicate n z16), syO, wrO 0 [headP], syO] := by unfold fmtO; rw [if_pos (by omega), Int.toNat_natCast]
  refine run_iff.2 ⟨by show (List.replicate n z16).length ≤ _; omega, Nat.zero_le _, by rw [e]; simp, ?_⟩
  rw [e]
  show (List.replicate n z16).length + (0 + (1 + (0 + 0))) ≤ _
  omega
 ·rw [new_still (by omega) h2, fmt_run hl h1 h2]; rfl
theorem begin_vals (n : Nat) (h1 : 2 ≤ n) (h2 : n ≤ 8192) : dRun_P (dNew_r0 (n : Int)) (lFormat_r1 (n : Int)) = true ∧ dRun_r0 (dNew_r0 (n : Int)) (lFormat_r1 (n : Int)) = begT n ∧ dRun_r2 (dNew_r0 (n : Int)) (lFormat_r1 (n : Int)) = 0 ∧ lFormat_r2 (n : Int) = 0 ∧ dNew_r1 (n : Int) = 0 ∧ lFormat_r0 (n : Int) = (1, (0, ((n : Int), ()))) := by
 obtain ⟨b1, b2, b3, b4, b5⟩ := begin_run h1 h2
 refine ⟨b1, ?_, ?_, b4, b3, b5⟩
 ·show (runD (newD (n : Int)) (fmtO (n : Int))).1 = _
  rw [b2]
 ·show (runD (newD (n : Int)) (fmtO (n : Int))).2.2 = _
  rw [b2]
theorem tbegin_plain (_ : tbegin_P = true) : ∃ F, ∀ {X : Type} (fail : X) (ret : DK → LogT → Bool → X), tbegin F fail ret = ret tbegin_r0 tbegin_r1 tbegin_r2 := ⟨0, fun fail ret => by
 obtain ⟨b1, b2, b3, b4, b5, b6⟩ := begin_vals 400 (by omega) (by omega)
 rw [show ((400 : Nat) : Int) = 400 from rfl] at b1 b2 b3 b4 b5 b6
 unfold tbegin
 rw [b1, b2, b3, b4, b5, b6]; rfl⟩
theorem few_tr {l : List (List Rec)} {key : Bys} (h : fewT l key = true) : ∀ r, r ∈ l → TrOk key r := fun r hr => by
 obtain ⟨h1, h2, h3, h4⟩ := fewT_iff.1 h
 obtain ⟨h5, h6⟩ := h1 r hr
 obtain ⟨h7, h8⟩ := fewR_mem h5
 have hw := wR_le h8
 have he := enc_w r
 refine ⟨?_, ?_⟩
 ·unfold encE; rw [if_pos h6, if_neg (by omega)]
 ·by_cases c : key = []
  ·exact .inl c
  ·have := List.length_pos_iff.2 c
   exact .inr ⟨⟨by omega, h4⟩, by omega⟩
theorem wS_take (l : List (List Rec)) : ∀ i, wS (l.take i) ≤ wS l
 | 0 => Nat.zero_le _
 | i + 1 => by
  match l with
  | [] => exact Nat.le_refl _
  | r :: l =>
   rw [List.take_succ_cons, wS_cons, wS_cons]
   have := wS_take l i
   omega
theorem few_room {l : List (List Rec)} {key : Bys} (h : fewT l key = true) {n : Nat} (hn : 200 ≤ n ∧ n ≤ 8192) {i : Nat} (hi : i < l.length) {s : List Page} (ht : TrLog key n s (l.take i)) : comE (lgT key (l.take i) n) key (l.getD i []) = 0 := by
 obtain ⟨h1, h2, h3, h4⟩ := fewT_iff.1 h
 have hm : l.getD i [] ∈ l := by rw [getD_lt hi]; exact List.getElem_mem _
 have hw := pays_w key (l.take i) 1 1
 have hl : (l.take i).length = i := by rw [List.length_take]; omega
 have hp := payV_w key ((1 + (l.take i).length : Nat) : Int) (l.getD i [])
 have hs : wS (l.take i) + wR (l.getD i []) ≤ 2000 := by
  rw [← wS_snoc, ← take_snoc l i [] hi]
  have := wS_take l (i + 1)
  omega
 rcases ht.err (by omega) (by omega) (few_tr h _ hm) with ⟨e, _⟩ | ⟨_, e⟩
 ·exact e
 ·exfalso
  unfold needN at e
  omega
theorem cm_loop {X : Type} (F : Nat) (fail : X) (ex0 : List (List Rec) → Bys → Bool → Int → DK → LogT → DK → LogT → X) (l : List (List Rec)) (key : Bys) (h : fewT l key = true) (a : DK) (b : LogT) : ∀ (j m i : Nat) (s : List Page), i + j = l.length → j ≤ m → TrLog key 400 s (l.take i) →
  ∃ s', TrLog key 400 s' l ∧ cmD key (l.drop i) (still s, lgT key (l.take i) 400) = (still s', lgT key l 400) ∧ tcommitted_l1F F fail ex0 (m + 1) l key true i a b (still s) (lgT key (l.take i) 400) = ex0 l key true (l.length : Nat) a b (still s') (lgT key l 400)
 | 0, m, i, s, hi, _, ht => by
  have e : l.take i = l := List.take_of_length_le (by omega)
  rw [e] at ht ⊢
  refine ⟨s, ht, ?_, ?_⟩
  ·rw [List.drop_eq_nil_of_le (by omega)]; rfl
  ·rw [tcommitted_l1F, tcommitted_l1, bif_false (ff (by omega)), show i = l.length by omega]
 | j + 1, 0, i, _, _, hm, _ => absurd hm (by omega)
 | j + 1, m + 1, i, s, hi, hm, ht => by
  obtain ⟨h1, h2, h3, h4⟩ := fewT_iff.1 h
  have hlt : i < l.length := by omega
  have hmem : l.getD i [] ∈ l := by rw [getD_lt hlt]; exact List.getElem_mem _
  have he := few_room h (by omega) hlt ht
  obtain ⟨r1, r2, s', q, r3, r4⟩ := ht.run (by omega) (by omega) (few_tr h _ hmem) he
  have ets : l.take (i + 1) = l.take i ++ [l.getD i []] := take_snoc l i [] hlt
  rw [← ets] at r2 r4
  obtain ⟨s2, i1, i2, i3⟩ := cm_loop F fail ex0 l key h a b j m (i + 1) s' (by omega) (by omega) r4
  refine ⟨s2, i1, ?_, ?_⟩
  ·rw [drop_cons ([] : List Rec) hlt, cmD]
   show cmD key _ ((runD (still s) (comO (lgT key (l.take i) 400) key (l.getD i []))).1, comL (lgT key (l.take i) 400) key (l.getD i [])) = _
   rw [r2, r3]
   exact i2
  ·rw [tcommitted_l1F, tcommitted_l1, Int.toNat_natCast, bif_true (tt (by omega)), cond_true, bif_true (tt2 (by omega) (by omega)), bif_true (c := tCommit_P _ _ _) rfl, addI_eq (by omega) (by omega), nat1]
   refine bif_eqt r1 (bif_eqt (beq_t he) ?_)
   have d0 : dRun_r0 (still s) (tCommit_r1 (lgT key (l.take i) 400) key (l.getD i [])) = still s' := by
    show (runD (still s) (comO (lgT key (l.take i) 400) key (l.getD i []))).1 = _
    rw [r3]
   have d2 : (dRun_r2 (still s) (tCommit_r1 (lgT key (l.take i) 400) key (l.getD i [])) == 0) = true := by
    show ((runD (still s) (comO (lgT key (l.take i) 400) key (l.getD i []))).2.2 == 0) = true
    rw [r3]; rfl
   rw [d0, d2, show tCommit_r0 (lgT key (l.take i) 400) key (l.getD i []) = lgT key (l.take (i + 1)) 400 from r2]
   exact i3
theorem cm_ok {l : List (List Rec)} {key : Bys} (h : fewT l key = true) : ∃ s', TrLog key 400 s' l ∧ tcommitted_r0 l key = still s' ∧ tcommitted_r1 l key = lgT key l 400 := by
 obtain ⟨s', h1, h2, _⟩ := cm_loop (X := Unit) 0 () (fun _ _ _ _ _ _ _ _ => ()) l key h (begT 400) tbegin_r1 l.length l.length 0 (headP :: List.replicate 399 z16) (by omega) (by omega) (TrLog.fresh key 400 (by omega))
 rw [List.drop_zero, List.take_zero] at h2
 refine ⟨s', h1, ?_, ?_⟩
 ·exact congrArg Prod.fst h2
 ·exact congrArg Prod.snd h2
theorem tcommitted_plain (l : List (List Rec)) (key : Bys) (h : tcommitted_P l key = true) : ∃ F, ∀ {X : Type} (fail : X) (ret : DK → LogT → Bool → X), tcommitted F l key fail ret = ret (tcommitted_r0 l key) (tcommitted_r1 l key) (tcommitted_r2 l key) := ⟨l.length + 1, fun fail ret => by
 unfold tcommitted
 rw [bif_true (c := tbegin_P) rfl]
 obtain ⟨s', h1, h2, h3⟩ := cm_loop (l.length + 1) fail (fun _ _ ok _ _ _ d x => ret d x ok) l key h dk0 log0 l.length l.length 0 (headP :: List.replicate 399 z16) (by omega) (by omega) (TrLog.fresh key 400 (by omega))
 rw [List.drop_zero, List.take_zero] at h2
 have e0 : tcommitted_r0 l key = still s' := congrArg Prod.fst h2
 have e1 : tcommitted_r1 l key = lgT key l 400 := congrArg Prod.snd h2
 rw [e0, e1]
 exact h3⟩
theorem samA_few {l : List (List Rec)} {key : Bys} (h : fewT l key = true) : samA l = true := by
 obtain ⟨h1, h2, h3, h4⟩ := fewT_iff.1 h
 unfold samA
 rw [Bool.and_eq_true, decide_eq_true_eq]
 refine ⟨by omega, List.all_eq_true.2 fun r hr => tt ?_⟩
 have := (fewR_mem (h1 r hr).1).1
 omega
end Go.AI
