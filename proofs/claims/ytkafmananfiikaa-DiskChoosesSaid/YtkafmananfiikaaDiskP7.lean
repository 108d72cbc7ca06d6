/- A crash that chooses what was written. -/
import Derived.Test.YtkafmananfiikaaDiskP6
namespace Go.AI
open Go

def idx (a : Int) : List Int → Nat
  | [] => 0
  | x :: l => if x = a then 0 else idx a l + 1
theorem idx_mem (a : Int) (m : List Int) : ∀ l : List Int, a ∈ l → idx a (l ++ m) = idx a l
  | x :: l, h => by
    rw [List.cons_append, idx, idx]
    by_cases e : x = a
    · rw [if_pos e, if_pos e]
    · rw [if_neg e, if_neg e, idx_mem a m l (by rcases List.mem_cons.1 h with h | h; exact absurd h.symm e; exact h)]
theorem idx_not (a : Int) (m : List Int) : ∀ l : List Int, a ∉ l → idx a (l ++ m) = l.length + idx a m
  | [], _ => (Nat.zero_add _).symm
  | x :: l, h => by
    rw [List.cons_append, idx, if_neg (fun e => h (by rw [e]; exact List.mem_cons_self ..)), idx_not a m l (fun e => h (List.mem_cons_of_mem _ e)), List.length_cons]; omega
theorem idx_le (a : Int) : ∀ l : List Int, idx a l ≤ l.length
  | [] => Nat.le_refl _
  | x :: l => by
    rw [idx, List.length_cons]
    split
    · omega
    · have := idx_le a l; omega
theorem firsts_new : ∀ (l : List Pend) (seen : List Int) (a : Int), a ∈ firsts l seen → seen.contains a = false
  | [], _, _, h => by cases h
  | x :: l, seen, a, h => by
    unfold firsts at h
    split at h
    · exact firsts_new l seen a h
    · rename_i hx
      rcases List.mem_cons.1 h with rfl | h
      · simpa using hx
      · have := firsts_new l _ a h
        rw [List.contains_cons, Bool.or_eq_false_iff] at this
        exact this.2
theorem firsts_nodup : ∀ (l : List Pend) (seen : List Int), (firsts l seen).Nodup
  | [], _ => List.nodup_nil
  | x :: l, seen => by
    unfold firsts
    split
    · exact firsts_nodup l seen
    · refine List.nodup_cons.2 ⟨fun h => ?_, firsts_nodup l _⟩
      have := firsts_new l _ _ h
      rw [List.contains_cons, Bool.or_eq_false_iff] at this
      have h1 := this.1
      rw [beq_t rfl] at h1; cases h1
theorem firsts_has : ∀ (l : List Pend) (seen : List Int) (a : Int), hasAt l a = true → seen.contains a = false → a ∈ firsts l seen
  | [], _, _, h, _ => by cases h
  | x :: l, seen, a, h, hs => by
    have h : (x.1 == a) = true ∨ hasAt l a = true := by
      have h : (x.1 == a || hasAt l a) = true := h
      simpa using h
    unfold firsts
    by_cases e : x.1 = a
    · rw [e, hs]; exact List.mem_cons_self ..
    · have h : hasAt l a = true := by
        rcases h with h | h
        · exact absurd (by simpa using h) e
        · exact h
      split
      · exact firsts_has l seen a h hs
      · refine List.mem_cons_of_mem _ (firsts_has l _ a h ?_)
        rw [List.contains_cons, hs, Bool.or_false]; exact beq_f (fun h => e h.symm)
def posn (l : List Pend) (a : Int) : Nat := idx a (firsts l [])
theorem posn_snoc (l : List Pend) (p : Pend) (a : Int) : posn (l ++ [p]) a = if hasAt l p.1 = false ∧ hasAt l a = false ∧ p.1 ≠ a then posn l a + 1 else posn l a := by
  unfold posn
  rw [firsts_snoc, show ([] : List Int).contains p.1 = false from rfl, Bool.or_false]
  cases h1 : hasAt l p.1 with
  | true => rw [if_pos rfl, List.append_nil, if_neg (fun h => by cases h.1)]
  | false =>
    rw [if_neg (by decide)]
    cases h2 : hasAt l a with
    | true => rw [idx_mem a _ _ (firsts_has l [] a h2 rfl), if_neg (fun h => by cases h.2.1)]
    | false =>
      have hn : a ∉ firsts l [] := fun h => by rw [firsts_mem l [] a h] at h2; cases h2
      have hi : idx a (firsts l []) = (firsts l []).length := by
        have := idx_not a [] _ hn
        rw [List.append_nil] at this; exact this
      rw [idx_not a _ _ hn, hi]
      by_cases e : p.1 = a
      · rw [if_neg (fun h => h.2.2 e), idx, if_pos e]; rfl
      · rw [if_pos ⟨rfl, rfl, e⟩, idx, if_neg e]; rfl
def cnt (l : List Pend) (a : Int) : Nat := (l.filter fun p => p.1 == a).length
theorem cnt_snoc (l : List Pend) (p : Pend) (a : Int) : cnt (l ++ [p]) a = if p.1 = a then cnt l a + 1 else cnt l a := by
  unfold cnt
  rw [List.filter_append, List.length_append]
  by_cases e : p.1 = a
  · rw [if_pos e, List.filter_cons_of_pos (by simpa using e)]; rfl
  · rw [if_neg e, List.filter_cons_of_neg (by simpa using e)]; rfl
theorem cnt_at (a : Int) : ∀ (l : List Pend) (k : Nat), k < l.length → (l.getD k ((0 : Int), (z16, ()))).1 = a → cnt (l.take k) a < cnt l a ∧ ((l.filter fun p => p.1 == a).map fun p => p.2.1).getD (cnt (l.take k) a) z16 = (l.getD k ((0 : Int), (z16, ()))).2.1
  | [], k, h, _ => absurd h (Nat.not_lt_zero _)
  | x :: l, 0, _, h => by
    have h : x.1 = a := h
    unfold cnt
    rw [List.filter_cons_of_pos (by simpa using h)]
    exact ⟨Nat.zero_lt_succ _, rfl⟩
  | x :: l, k + 1, hk, h => by
    obtain ⟨h1, h2⟩ := cnt_at a l k (Nat.lt_of_succ_lt_succ hk) h
    unfold cnt at h1 h2 ⊢
    rw [List.take_succ_cons]
    by_cases e : x.1 = a
    · rw [List.filter_cons_of_pos (by simpa using e), List.filter_cons_of_pos (by simpa using e)]
      exact ⟨Nat.succ_lt_succ h1, h2⟩
    · rw [List.filter_cons_of_neg (by simpa using e), List.filter_cons_of_neg (by simpa using e)]
      exact ⟨h1, h2⟩

/- What a chosen crash leaves. -/
theorem set_same {α : Type} (l : List α) (i : Nat) (z : α) : l.set i (l.getD i z) = l := by
  by_cases h : i < l.length
  · rw [getD_lt h, List.set_getElem_self]
  · exact List.set_eq_of_length_le (by omega)
theorem cr_zero (d : DK) (ch : List Int) (x : Int) : crStep d (0 :: ch, d.1) x = (ch, d.1) := by
  have e : decD (0 :: ch) (versD d x).length = 0 := Int.zero_emod _
  unfold crStep
  rw [e]
  exact Prod.ext rfl (set_same d.1 x.toNat z16)
theorem cr_none (d : DK) (x : Int) : crStep d ([], d.1) x = ([], d.1) := Prod.ext rfl (set_same d.1 x.toNat z16)
theorem cr_nones (d : DK) : ∀ pl : List Int, pl.foldl (crStep d) ([], d.1) = ([], d.1)
  | [] => rfl
  | x :: pl => by rw [List.foldl_cons, cr_none, cr_nones d pl]
theorem cr_keep (d : DK) (n a : Nat) (ha : a < n) : ∀ (pl : List Int) (s : List Int × List Page), (∀ p, p ∈ pl → 0 ≤ p) → (a : Int) ∉ pl → s.2.length = n → (pl.foldl (crStep d) s).2.getD a z16 = s.2.getD a z16
  | [], _, _, _, _ => rfl
  | x :: pl, s, hp, hn, hs => by
    have h0 := hp x (List.mem_cons_self ..)
    have hx : x ≠ (a : Int) := fun e => hn (by rw [e]; exact List.mem_cons_self ..)
    rw [List.foldl_cons, cr_keep d n a ha pl _ (fun q hq => hp q (List.mem_cons_of_mem _ hq)) (fun h => hn (List.mem_cons_of_mem _ h)) (by show (List.set _ _ _).length = _; rw [List.length_set]; exact hs)]
    show (List.set _ _ _).getD a z16 = _
    rw [getD_set _ _ _ _ _ (by omega), if_neg (by omega)]
theorem cr_pick (d : DK) (a : Nat) (v : Int) (ha : a < d.1.length) : ∀ (pl : List Int), (∀ p, p ∈ pl → 0 ≤ p) → pl.Nodup → (a : Int) ∈ pl → (pl.foldl (crStep d) (List.replicate (idx a pl) 0 ++ [v], d.1)).2.getD a z16 = (versD d a).getD (v % ((versD d a).length : Nat)).toNat z16
  | x :: pl, hp, hn, hm => by
    have hn := List.nodup_cons.1 hn
    rw [idx]
    by_cases e : x = (a : Int)
    · subst e
      rw [if_pos rfl, List.foldl_cons, cr_keep d d.1.length a ha pl _ (fun q hq => hp q (List.mem_cons_of_mem _ hq)) hn.1 (by show (List.set _ _ _).length = _; rw [List.length_set])]
      show (List.set d.1 (a : Int).toNat _).getD a z16 = _
      rw [getD_set _ _ _ _ _ ha, Int.toNat_natCast, if_pos rfl]; rfl
    · rw [if_neg e, List.replicate_succ, List.cons_append, List.foldl_cons, cr_zero]
      exact cr_pick d a v ha pl (fun q hq => hp q (List.mem_cons_of_mem _ hq)) hn.2 (by rcases List.mem_cons.1 hm with h | h; exact absurd h.symm e; exact h)
theorem rep_set (v : Int) : ∀ n : Nat, (List.replicate (n + 1) (0 : Int)).set n v = List.replicate n 0 ++ [v]
  | 0 => rfl
  | n + 1 => by
    rw [List.replicate_succ, List.set_cons_succ, rep_set v n]; rfl

/- DiskChooses. -/
theorem cho_step {X : Type} (F : Nat) (fail : X) (next ex0 ex1 : Bool → Int → Int → Int → Int → Int → DK → List Bool → X) (s4 : Bool) (k a : Int) (place version i : Nat) (d : DK) (seen : List Bool) (p : Pend)
    (hi : i < d.2.1.length) (hl : d.2.1.length ≤ 1000) (hpl : place ≤ 1000) (hv : version ≤ 1000) (e : d.2.1.getD i ((0 : Int), (z16, ())) = p) (hp : 0 ≤ p.1 ∧ p.1 < 8) (ha : 0 ≤ a ∧ a < 8) :
    DiskChooses_l1 F fail next ex0 ex1 s4 k a place version i d seen = next s4 k a ((if seen.getD p.1.toNat false = false ∧ seen.getD a.toNat false = false ∧ p.1 ≠ a then place + 1 else place : Nat) : Int) ((if p.1 = a ∧ (i : Int) < k then version + 1 else version : Nat) : Int) ((i + 1 : Nat) : Int) d (seen.set p.1.toNat true) := by
  have b1 : decide ((i : Int) < ((d.2.1.length : Nat) : Int)) = true := tt (by omega)
  have b2 : (decide ((0 : Int) ≤ (i : Int)) && decide ((i : Int) < ((d.2.1.length : Nat) : Int))) = true := tt2 (by omega) (by omega)
  have b3 : (decide ((0 : Int) ≤ p.1) && decide (p.1 < ((8 : Nat) : Int))) = true := tt2 hp.1 (by omega)
  have b4 : (decide ((0 : Int) ≤ a) && decide (a < ((8 : Nat) : Int))) = true := tt2 ha.1 (by omega)
  have b5 : addI (i : Int) 1 = ((i + 1 : Nat) : Int) := by rw [addI_eq (by omega) (by omega)]; omega
  have b6 : addI (place : Int) 1 = ((place + 1 : Nat) : Int) := by rw [addI_eq (by omega) (by omega)]; omega
  have b7 : addI (version : Int) 1 = ((version + 1 : Nat) : Int) := by rw [addI_eq (by omega) (by omega)]; omega
  unfold DiskChooses_l1
  rw [Int.toNat_natCast, e]
  rw [bif_true b1, bif_true b2, bif_false (ff (show ¬ p.1 < 0 by omega)), bif_false (ff (show ¬ p.1 ≥ 8 by omega)), bif_false (ff (show ¬ a < 0 by omega)), bif_false (ff (show ¬ a ≥ 8 by omega))]
  simp only [b3, b4, b5, b6, b7, cond_true]
  by_cases c1 : p.1 = a
  · rw [bif_true (beq_t c1), bif_false (bne_f c1), bif_false (bne_f c1), if_neg (fun h => h.2.2 c1)]
    by_cases c2 : (i : Int) < k
    · rw [bif_true (tt c2), if_pos ⟨c1, c2⟩]
      cases seen.getD p.1.toNat false <;> cases seen.getD a.toNat false <;> rfl
    · rw [bif_false (ff c2), if_neg (fun h => c2 h.2)]
      cases seen.getD p.1.toNat false <;> cases seen.getD a.toNat false <;> rfl
  · rw [bif_false (beq_f c1), bif_true (bne_t c1), if_neg (fun h : p.1 = a ∧ _ => c1 h.1)]
    cases h1 : seen.getD p.1.toNat false with
    | true => rw [if_neg (fun h => by cases h.1)]; rfl
    | false =>
      cases h2 : seen.getD a.toNat false with
      | true => rw [if_neg (fun h => by cases h.2.1)]; rfl
      | false => rw [if_pos ⟨rfl, rfl, c1⟩]; rfl
theorem cho_loop {X : Type} (F : Nat) (fail : X) (ex0 ex1 : Bool → Int → Int → Int → Int → Int → DK → List Bool → X) (s4 : Bool) (k : Nat) (a : Nat) (ha : a < 8) (d : DK) (hd : Ok8 d) (hl : d.2.1.length ≤ 100) (hk : k < d.2.1.length) (K : X)
    (h1 : ∀ seen, ex1 s4 k a (posn d.2.1 a : Nat) ((1 + cnt (d.2.1.take k) a : Nat) : Int) (d.2.1.length : Nat) d seen = K) : ∀ (j m i : Nat) (seen : List Bool), i + j = d.2.1.length → j ≤ m → seen.length = 8 → (∀ p, p < 8 → seen.getD p false = hasAt (d.2.1.take i) (p : Int)) →
    DiskChooses_l1F F fail ex0 ex1 (m + 1) s4 k a (posn (d.2.1.take i) a : Nat) ((1 + cnt (d.2.1.take (min i k)) a : Nat) : Int) i d seen = K
  | 0, m, i, seen, hi, _, _, _ => by
    have e : i = d.2.1.length := by omega
    subst e
    rw [DiskChooses_l1F, DiskChooses_l1]
    rw [bif_false (ff (by omega)), List.take_length, Nat.min_eq_right (by omega), h1]
  | j + 1, 0, i, _, _, hm, _, _ => absurd hm (by omega)
  | j + 1, m + 1, i, seen, hi, hm, hs, hse => by
    have ih := fun seen' => cho_loop F fail ex0 ex1 s4 k a ha d hd hl hk K h1 j m (i + 1) seen' (by omega) (by omega)
    have hmem : d.2.1.getD i ((0 : Int), (z16, ())) ∈ d.2.1 := by rw [getD_lt (show i < d.2.1.length by omega)]; exact List.getElem_mem _
    have hq := okP_iff.1 (okD_iff.1 hd.1).2 _ hmem
    rw [hd.2] at hq
    have hfl := firsts_len (d.2.1.take i) []
    have hil := idx_le a (firsts (d.2.1.take i) [])
    have htl : (d.2.1.take i).length = i := by rw [List.length_take]; omega
    have hcl : cnt (d.2.1.take (min i k)) a ≤ 100 := by
      have := List.length_filter_le (fun p : Pend => p.1 == (a : Int)) (d.2.1.take (min i k))
      unfold cnt; rw [List.length_take] at this; omega
    rw [DiskChooses_l1F]
    refine (cho_step F fail _ ex0 ex1 s4 k a _ _ i d seen _ (by omega) (by omega) (by unfold posn; omega) (by omega) rfl ⟨hq.1, by omega⟩ (by omega)).trans ?_
    have hps := take_snoc d.2.1 i ((0 : Int), (z16, ())) (by omega)
    generalize d.2.1.getD i ((0 : Int), (z16, ())) = p at hq hps
    have e0 : ((p.1.toNat : Nat) : Int) = p.1 := by omega
    have e1 : seen.getD p.1.toNat false = hasAt (d.2.1.take i) p.1 := by rw [hse _ (by omega), e0]
    have e2 : seen.getD (a : Int).toNat false = hasAt (d.2.1.take i) (a : Int) := by rw [Int.toNat_natCast, hse _ ha]
    have e3 : (if seen.getD p.1.toNat false = false ∧ seen.getD (a : Int).toNat false = false ∧ p.1 ≠ (a : Int) then posn (d.2.1.take i) a + 1 else posn (d.2.1.take i) a) = posn (d.2.1.take (i + 1)) a := by rw [e1, e2, hps, posn_snoc]
    have e4 : (if p.1 = (a : Int) ∧ (i : Int) < (k : Int) then 1 + cnt (d.2.1.take (min i k)) a + 1 else 1 + cnt (d.2.1.take (min i k)) a) = 1 + cnt (d.2.1.take (min (i + 1) k)) a := by
      by_cases c : i < k
      · rw [Nat.min_eq_left (by omega), Nat.min_eq_left (by omega), hps, cnt_snoc]
        by_cases c2 : p.1 = (a : Int)
        · rw [if_pos ⟨c2, by omega⟩, if_pos c2]; omega
        · rw [if_neg (fun h => c2 h.1), if_neg c2]
      · rw [Nat.min_eq_right (by omega), Nat.min_eq_right (by omega), if_neg (fun h => c (by omega))]
    rw [e3, e4]
    refine ih _ (by rw [List.length_set]; exact hs) (fun q hq8 => ?_)
    rw [getD_set _ _ _ _ _ (by omega), hps, has_snoc]
    by_cases c : p.1.toNat = q
    · rw [if_pos c, beq_t (show p.1 = (q : Int) by omega), Bool.or_true]
    · rw [if_neg c, hse q hq8, beq_f (show p.1 ≠ (q : Int) by omega), Bool.or_false]
def DiskChooses_P (_ : List DWr) (_ : UInt8) : Bool := true
def DiskChooses_r (_ : List DWr) (_ : UInt8) : Bool := true
theorem DiskChooses_plain (l : List DWr) (which : UInt8) (_ : DiskChooses_P l which = true) : ∃ F, ∀ {X : Type} (fail : X) (ret : Bool → X), DiskChooses F l which fail ret = ret (DiskChooses_r l which) := ⟨l.length + 1, fun fail ret => by
  unfold DiskChooses
  by_cases hl : (l.length : Int) > 20
  · rw [bif_true (tt hl)]; rfl
  have hb := beh_ok8 l
  have hbl := beh_ok l
  have hs : smallD (beh l) = true := ok8_small (by omega)
  rw [bif_false (ff hl), bif_true (c := lBehind_P l) (tt (by omega)), bif_false (c := !(lBehind_r1 l)) rfl]
  unfold lBehind_r0
  by_cases h0 : (beh l).2.1.length = 0
  · rw [bif_true (beq_t (by omega))]; rfl
  have hR : remI (cvBI which) ((beh l).2.1.length : Int) = ((which.toNat % (beh l).2.1.length : Nat) : Int) := by rw [cvBI_eq, remI_eq (by omega), Int.natCast_emod]
  have hk : which.toNat % (beh l).2.1.length < (beh l).2.1.length := Nat.mod_lt _ (by omega)
  simp only [hR, Int.toNat_natCast]
  generalize which.toNat % (beh l).2.1.length = k at hk
  rw [bif_false (beq_f (by omega)), bif_true (bne_t (by omega)), bif_true (tt2 (by omega) (by omega))]
  have hmem : (beh l).2.1.getD k ((0 : Int), (z16, ())) ∈ (beh l).2.1 := by rw [getD_lt hk]; exact List.getElem_mem _
  have hq := okP_iff.1 (okD_iff.1 hb.1).2 _ hmem
  rw [hb.2] at hq
  obtain ⟨a, haE⟩ : ∃ a : Nat, ((beh l).2.1.getD k ((0 : Int), (z16, ()))).1 = (a : Int) := ⟨_, (Int.toNat_of_nonneg hq.1).symm⟩
  have ha : a < 8 := by omega
  rw [haE]
  refine cho_loop (l.length + 1) fail _ _ false k a ha (beh l) hb (by omega) hk _ (fun seen => ?_) (beh l).2.1.length l.length 0 _ (by omega) (by omega) rfl (fun p hp => ?_)
  · have hfl := firsts_len (beh l).2.1 []
    have hil := idx_le a (firsts (beh l).2.1 [])
    have hpo : posn (beh l).2.1 a ≤ 20 := by unfold posn; omega
    have hcr : ∀ ch : List Int, ch.length ≤ 100 → dCrash_P (beh l) ch = true := fun ch h => cr_iff.2 ⟨small_iff.1 hs, by omega⟩
    obtain ⟨c1, c2⟩ := cnt_at a (beh l).2.1 k hk haE
    have hha : hasAt (beh l).2.1 (a : Int) = true := List.any_eq_true.2 ⟨_, hmem, beq_t haE⟩
    have hpick := cr_pick (beh l) a ((1 + cnt ((beh l).2.1.take k) a : Nat) : Int) (by rw [hb.2]; exact ha) (firsts (beh l).2.1 []) (firsts_pos (okD_iff.1 hb.1).2 []) (firsts_nodup _ _) (firsts_has _ _ _ hha rfl)
    have hvl : (versD (beh l) a).length = 1 + cnt (beh l).2.1 a := by unfold versD cnt; rw [List.length_cons, List.length_map]; omega
    rw [hvl, Int.emod_eq_of_lt (by omega) (by omega), Int.toNat_natCast, vers_eq, Nat.add_comm 1 (cnt _ _)] at hpick
    have hpick : ((firsts (beh l).2.1 []).foldl (crStep (beh l)) (List.replicate (posn (beh l).2.1 a) 0 ++ [((cnt ((beh l).2.1.take k) a + 1 : Nat) : Int)], (beh l).1)).2.getD a z16 = ((beh l).2.1.getD k ((0 : Int), (z16, ()))).2.1 := hpick.trans c2
    have hset : List.set (List.replicate (((posn (beh l).2.1 a : Nat) : Int) + 1).toNat (0 : Int)) (posn (beh l).2.1 a) (((cnt ((beh l).2.1.take k) a + 1 : Nat)) : Int) = List.replicate (posn (beh l).2.1 a) 0 ++ [((cnt ((beh l).2.1.take k) a + 1 : Nat) : Int)] := by
      rw [show (((posn (beh l).2.1 a : Nat) : Int) + 1).toNat = posn (beh l).2.1 a + 1 by omega]; exact rep_set _ _
    rw [Nat.add_comm 1 (cnt _ _)]
    simp only [addI_eq (a := ((posn (beh l).2.1 a : Nat) : Int)) (b := 1) (by omega) (by omega), Int.toNat_natCast, hset]
    unfold dCrash_r0 dCrash_r2
    rw [crash_ok hb, crash_ok hb]
    have hnone : crGo (beh l) [] = ([], (beh l).1) := cr_nones (beh l) _
    rw [hnone]
    rw [bif_true (by rw [Bool.and_true]; exact tt2 (by omega) (by unfold big; omega)), bif_true (tt2 (by omega) (by rw [List.length_replicate]; omega)), bif_true (hcr _ (by rw [List.length_append, List.length_replicate]; simp only [List.length_cons, List.length_nil]; omega)), bif_true (hcr [] (by simp)), bif_true (c := law48_awake_r) rfl,
      bif_true (c := (0 : Int) == 0) rfl, bif_true (c := (0 : Int) == 0) rfl]
    show (bif (((crGo (beh l) _).2.length : Nat) : Int) == 8 then _ else _) = _
    rw [cr_len hb, bif_true (c := ((8 : Nat) : Int) == 8) rfl, bif_true (tt2 (by omega) (by omega)), bif_true (tt2 (by omega) (by omega)), beqT_dec (.arr 16 (.int .u8)) rfl, bif_true (tt (show (crGo (beh l) _).2.getD a z16 = _ from hpick)), bif_true (c := rSamePages_P _ _) (tt (by rw [hb.2]; decide)), show rSamePages_r (beh l).1 (beh l).1 = true from tt rfl]
    rfl
  · have h8 : ∀ p, p < 8 → ([false, false, false, false, false, false, false, false] : List Bool).getD p false = false := by decide
    rw [h8 p hp, List.take_zero]; rfl⟩
end Go.AI
