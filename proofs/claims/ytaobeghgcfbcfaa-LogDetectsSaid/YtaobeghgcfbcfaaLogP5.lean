/- What the reference appends and scans. -/
import Derived.Test.YtaobeghgcfbcfaaLogP4
namespace Go.AI
open Go

/- Data pages, one byte behind the other. -/
theorem datN_nil : ∀ k, datN k [] = List.replicate k (datP [])
  | 0 => rfl
  | k + 1 => by show datP [] :: datN k [] = _; rw [datN_nil k]; rfl
theorem qData_loop1 {X : Type} (F : Nat) (fail : X) (ex0 : Bys → Int → List Page → X) (b : Bys) (k : Nat) (hk : k ≤ 1000000) : ∀ (j m i : Nat), i + j = k → j ≤ m →
    qData_l1F F fail ex0 (m + 1) b i (List.replicate i (datP []) ++ List.replicate (k - i) z16) = ex0 b (k : Int) (datN k [])
  | 0, m, i, hi, _ => by
    obtain rfl : i = k := by omega
    rw [qData_l1F, qData_l1]
    rw [bif_false (ff (by simp)), datN_nil, Nat.sub_self, List.replicate_zero, List.append_nil]
  | j + 1, 0, i, _, hm => absurd hm (by omega)
  | j + 1, m + 1, i, hi, hm => by
    have ih := qData_loop1 F fail ex0 b k hk j m (i + 1) (by omega) (by omega)
    have hl : (List.replicate i (datP []) ++ List.replicate (k - i) z16).length = k := by simp; omega
    rw [qData_l1F, qData_l1]
    rw [hl, Int.toNat_natCast, bif_true (tt (by omega)), bif_true (tt2 (by omega) (by omega)), addI_eq (by omega) (by omega), nat1]
    have hg : (List.replicate i (datP []) ++ List.replicate (k - i) z16).getD i z16 = z16 := by
      rw [List.getD, List.getElem?_append_right (by simp), List.length_replicate, Nat.sub_self, show k - i = (k - (i + 1)) + 1 by omega]; rfl
    have hs : (List.replicate i (datP []) ++ List.replicate (k - i) z16).set i (z16.set 0 1) = List.replicate (i + 1) (datP []) ++ List.replicate (k - (i + 1)) z16 := by
      rw [List.set_append_right _ _ (by simp), List.length_replicate, Nat.sub_self, show k - i = (k - (i + 1)) + 1 by omega, List.replicate_succ, List.set_cons_zero, show z16.set 0 1 = datP [] from rfl, List.replicate_succ', List.append_assoc]; rfl
    rw [hg, hs]
    exact ih
theorem datP_snoc (x : Bys) (y : UInt8) (h : x.length < 15) : (datP x).set (1 + x.length) y = datP (x ++ [y]) := by
  unfold datP
  rw [List.take_of_length_le (by omega), List.take_of_length_le (by rw [List.length_append, List.length_singleton]; omega), Nat.add_comm, List.set_cons_succ, List.set_append_right _ _ (Nat.le_refl _), Nat.sub_self, List.length_append, List.length_singleton, show 15 - x.length = (15 - (x.length + 1)) + 1 by omega, List.replicate_succ, List.set_cons_zero, List.append_assoc]; rfl
theorem datN_step (k : Nat) (b : Bys) (i : Nat) (hi : i < b.length) : (datN k (b.take i)).set (i / 15) (((datN k (b.take i)).getD (i / 15) z16).set (1 + i % 15) (b.getD i 0)) = datN k (b.take (i + 1)) := by
  apply List.ext_getElem
  · rw [List.length_set, datN_len, datN_len]
  intro q h1 h2
  rw [List.length_set, datN_len] at h1
  have g : ∀ c : Bys, (hq : q < (datN k c).length) → (datN k c)[q] = datP (c.drop (15 * q)) := fun c hq => by rw [← getD_lt (d := z16) hq, datN_get k c q h1]
  rw [g, List.getElem_set]
  by_cases e : i / 15 = q
  · subst e
    rw [if_pos rfl, datN_get k _ _ h1]
    have hd : ((b.take i).drop (15 * (i / 15))).length = i % 15 := by rw [List.length_drop, List.length_take]; omega
    rw [← hd, datP_snoc _ _ (by rw [hd]; omega), take_snoc b i 0 hi, List.drop_append_of_le_length (by rw [List.length_take]; omega)]
  · rw [if_neg e, g]
    unfold datP
    have e2 : ((b.take (i + 1)).drop (15 * q)).take 15 = ((b.take i).drop (15 * q)).take 15 := by
      rw [List.drop_take, List.drop_take, List.take_take, List.take_take]
      by_cases c : 15 * q + 15 ≤ i
      · rw [show min 15 (i + 1 - 15 * q) = min 15 (i - 15 * q) by omega]
      · rw [show i + 1 - 15 * q = 0 by omega, show i - 15 * q = 0 by omega]
    rw [e2]
theorem qData_loop2 {X : Type} (F : Nat) (fail : X) (ex0 : Bys → Int → List Page → X) (b : Bys) (k : Nat) (hb : b.length ≤ 1000000) (hk : b.length ≤ 15 * k) : ∀ (j m i : Nat), i + j = b.length → j ≤ m →
    qData_l2F F fail ex0 (m + 1) b i (datN k (b.take i)) = ex0 b (b.length : Nat) (datN k b)
  | 0, m, i, hi, _ => by
    obtain rfl : i = b.length := by omega
    rw [qData_l2F, qData_l2]
    rw [bif_false (ff (by omega)), List.take_length]
  | j + 1, 0, i, _, hm => absurd hm (by omega)
  | j + 1, m + 1, i, hi, hm => by
    have ih := qData_loop2 F fail ex0 b k hb hk j m (i + 1) (by omega) (by omega)
    have e1 : quoI (i : Int) 15 = ((i / 15 : Nat) : Int) := by rw [quoI_eq (by omega) (by omega) (by omega)]; omega
    have e2 : addI 1 (remI (i : Int) 15) = ((1 + i % 15 : Nat) : Int) := by rw [remI_eq (by omega), addI_eq (by omega) (by omega)]; omega
    rw [qData_l2F, qData_l2]
    rw [e1, e2, Int.toNat_natCast, Int.toNat_natCast, Int.toNat_natCast, datN_len, bif_true (tt (by omega)), bif_true (tt2 (by omega) (by omega)), bif_true (tt2 (by omega) (by omega)), bif_true (tt2 (by omega) (by omega)), addI_eq (by omega) (by omega), nat1, datN_step k b i (by omega)]
    exact ih
theorem qData_plain (b : Bys) (h : qData_P b = true) : ∃ F, ∀ {X : Type} (fail : X) (ret : List Page → X), qData F b fail ret = ret (qData_r b) := ⟨b.length + 1, fun fail ret => by
  simp only [qData_P, decide_eq_true_eq] at h
  have hp : qDataPages_P (b.length : Int) = true := tt (by omega)
  have hn : qDataPages_r (b.length : Int) = ((needN b.length : Nat) : Int) := rfl
  have hnb : needN b.length ≤ b.length ∧ b.length ≤ 15 * needN b.length := by unfold needN; omega
  unfold qData qData_r dataPs
  rw [hp, cond_true, hn, bif_true (by rw [Bool.and_true]; exact tt2 (by omega) (by unfold big; omega)), Int.toNat_natCast]
  refine (qData_loop1 (b.length + 1) fail _ b (needN b.length) (by omega) (needN b.length) b.length 0 (by omega) (by omega)).trans ?_
  exact qData_loop2 (b.length + 1) fail (fun _ _ o => ret o) b (needN b.length) (by omega) (by omega) b.length b.length 0 (by omega) (by omega)⟩
theorem qAppend_plain (l : LogT) (b : Bys) (_ : qAppend_P l b = true) : ∃ F, ∀ {X : Type} (fail : X) (ret : LogT → List DOp → Int → X), qAppend F l b fail ret = ret (qAppend_r0 l b) (qAppend_r1 l b) (qAppend_r2 l b) := ⟨0, fun fail ret => by
  unfold qAppend qAppend_r0 qAppend_r1 qAppend_r2 appL appO qLCheck_r
  rcases chkL_cases l with ⟨c, e⟩ | ⟨c, c2, e⟩ | ⟨c, c2, e⟩
  · have he : appE l b = 2 := by unfold appE; rw [if_neg (by omega)]; exact e
    rw [he, e]; rfl
  · have he : appE l b = 3 := by unfold appE; rw [if_neg (by omega)]; exact e
    rw [he, e]; rfl
  rw [e, bif_false (c := (0 : Int) != 0) rfl]
  have he0 : appE l b = if b.length > 65536 then 5 else if l.2.2.1 - l.1 < needN b.length + 1 then 11 else 0 := if_pos e
  by_cases c3 : b.length > 65536
  · have he : appE l b = 5 := he0.trans (if_pos c3)
    rw [bif_true (tt (by omega)), he]; rfl
  rw [bif_false (ff (by omega)), bif_true (c := qPages_P _) rfl]
  have hp : qPages_r (b.length : Int) = ((needN b.length + 1 : Nat) : Int) := if_pos (by omega)
  have hnb : needN b.length ≤ 5000 := by unfold needN; omega
  have ha2 : addI l.1 ((needN b.length + 1 : Nat) : Int) = l.1 + needN b.length + 1 := by rw [addI_eq (by omega) (by omega)]; omega
  rw [hp, ha2]
  by_cases c4 : l.2.2.1 - l.1 < needN b.length + 1
  · have he : appE l b = 11 := he0.trans ((if_neg c3).trans (if_pos c4))
    rw [bif_true (tt (by omega)), he]; rfl
  have he : appE l b = 0 := he0.trans ((if_neg c3).trans (if_neg c4))
  have hE : qCommit_P b (l.2.1 + 1) = true := tt (by omega)
  have hD : qData_P b = true := tt (by omega)
  have ha1 : addI l.2.1 1 = l.2.1 + 1 := addI_eq (by omega) (by omega)
  have ha3 : subI (l.1 + needN b.length + 1) 1 = l.1 + needN b.length := by rw [subI_eq (by omega) (by omega)]; omega
  rw [bif_false (ff (by omega)), he, if_pos rfl, if_pos rfl, ha1, ha3, hE, hD]
  unfold appK nextL
  by_cases c5 : b = []
  · subst c5
    rw [bif_false (ff (by unfold needN; simp)), if_pos rfl]; rfl
  · have hpos : 0 < b.length := List.length_pos_iff.2 c5
    rw [bif_true (tt (by unfold needN; omega)), if_neg c5]; rfl⟩

/- Complete commits. -/
theorem dat_len {l : List Page} (h : pg16 l = true) {i : Nat} (hi : i < l.length) : (l.getD i z16).length = 16 := by
  have := List.all_eq_true.1 h (l.getD i z16) (by rw [getD_lt hi]; exact List.getElem_mem _)
  exact of_decide_eq_true this
theorem payOf_get : ∀ (ps : List Page) (i : Nat), pg16 ps = true → i < 15 * ps.length → (payOf ps).getD i 0 = (ps.getD (i / 15) z16).getD (1 + i % 15) 0
  | [], i, _, h => absurd h (by simp)
  | p :: ps, i, h, hi => by
    have h' := pg16_cons.1 h
    have hl : ((p.drop 1).take 15).length = 15 := by rw [List.length_take, List.length_drop]; omega
    rw [payOf_cons]
    by_cases c : i < 15
    · have e : ((p.drop 1).take 15 ++ payOf ps).getD i 0 = p.getD (1 + i) 0 := by
        simp only [List.getD, List.getElem?_append_left (show i < ((p.drop 1).take 15).length by omega)]
        rw [List.getElem?_take_of_lt c, List.getElem?_drop]
      rw [e, show i / 15 = 0 by omega, show i % 15 = i by omega]; rfl
    · have e : ((p.drop 1).take 15 ++ payOf ps).getD i 0 = (payOf ps).getD (i - 15) 0 := by
        simp only [List.getD, List.getElem?_append_right (show ((p.drop 1).take 15).length ≤ i by omega), hl]
      rw [e, payOf_get ps (i - 15) h'.2 (by rw [List.length_cons] at hi; omega), show i / 15 = (i - 15) / 15 + 1 by omega, show (i - 15) % 15 = i % 15 by omega]; rfl
theorem qComplete_loop1 {X : Type} (F : Nat) (fail : X) (ex0 : List Page → Int → Int → X) (l : List Page) (num : Int) (hl : l.length ≤ 1000000) : ∀ (j m k : Nat), k + j = l.length → j ≤ m →
    qComplete_l1F F fail ex0 (m + 1) l num k = ex0 l num ((k + ((l.drop k).takeWhile isDat).length : Nat) : Int)
  | 0, m, k, hk, _ => by
    obtain rfl : k = l.length := by omega
    rw [qComplete_l1F, qComplete_l1]
    rw [bif_false (ff (by omega)), List.drop_length]; rfl
  | j + 1, 0, k, _, hm => absurd hm (by omega)
  | j + 1, m + 1, k, hk, hm => by
    have ih := qComplete_loop1 F fail ex0 l num hl j m (k + 1) (by omega) (by omega)
    rw [qComplete_l1F, qComplete_l1]
    rw [Int.toNat_natCast, bif_true (tt (by omega)), bif_true (tt2 (by omega) (by omega)), drop_cons z16 (show k < l.length by omega), List.takeWhile_cons]
    by_cases c : isDat (l.getD k z16) = true
    · rw [bif_true (beq_t (by rw [isDat_iff.1 c]; rfl)), if_pos c, addI_eq (by omega) (by omega), nat1, ih, List.length_cons]
      congr 1; omega
    · rw [bif_false (beq_f (fun e => c (isDat_iff.2 (by omega)))), if_neg c]; rfl
theorem qComplete_loop2 {X : Type} (F : Nat) (fail : X) (ex0 : List Page → Int → Int → Int → Int → Bys → X) (l : List Page) (num : Int) (k n : Nat) (hk : k ≤ l.length) (hl : l.length ≤ 1000000) (hn : n ≤ 15 * k) (hn2 : n ≤ 65536) (h16 : pg16 (l.take k) = true) : ∀ (j m i : Nat), i + j = n → j ≤ m →
    qComplete_l2F F fail ex0 (m + 1) l num k n i ((payOf (l.take k)).take i) = ex0 l num k n n ((payOf (l.take k)).take n)
  | 0, m, i, hi, _ => by
    obtain rfl : i = n := by omega
    rw [qComplete_l2F, qComplete_l2]
    rw [bif_false (ff (by omega))]
  | j + 1, 0, i, _, hm => absurd hm (by omega)
  | j + 1, m + 1, i, hi, hm => by
    have ih := qComplete_loop2 F fail ex0 l num k n hk hl hn hn2 h16 j m (i + 1) (by omega) (by omega)
    have hlen : (payOf (l.take k)).length = 15 * k := by rw [payOf_len h16, List.length_take]; omega
    have e1 : quoI (i : Int) 15 = ((i / 15 : Nat) : Int) := by rw [quoI_eq (by omega) (by omega) (by omega)]; omega
    have e2 : addI 1 (remI (i : Int) 15) = ((1 + i % 15 : Nat) : Int) := by rw [remI_eq (by omega), addI_eq (by omega) (by omega)]; omega
    have eg : (payOf (l.take k)).getD i 0 = (l.getD (i / 15) z16).getD (1 + i % 15) 0 := by
      rw [payOf_get _ i h16 (by rw [List.length_take]; omega)]
      congr 1
      simp only [List.getD, List.getElem?_take_of_lt (show i / 15 < k by omega)]
    rw [take_snoc _ i 0 (by omega), eg] at ih
    rw [qComplete_l2F, qComplete_l2]
    rw [e1, e2, Int.toNat_natCast, Int.toNat_natCast, bif_true (tt (by omega)), bif_true (tt2 (by omega) (by omega)), bif_true (tt2 (by omega) (by omega)), bif_true (le_big (by rw [List.length_append, List.length_singleton, List.length_take]; omega)), addI_eq (by omega) (by omega), nat1]
    exact ih
theorem page_parts {p : Page} (h : p.length = 16) : p = p.getD 0 0 :: (be 4 (fld p 1 4) ++ (be 3 (fld p 5 3) ++ (be 4 (fld p 8 4) ++ be 4 (fld p 12 4)))) := by
  have hb : ∀ a n, a + n ≤ 16 → be n (fld p a n) = (p.drop a).take n := fun a n hn => by
    have := be_beV ((p.drop a).take n)
    rwa [List.length_take, List.length_drop, show min n (p.length - a) = n by omega] at this
  rw [hb 1 4 (by omega), hb 5 3 (by omega), hb 8 4 (by omega), hb 12 4 (by omega)]
  match p, h with
  | [x0, x1, x2, x3, x4, x5, x6, x7, x8, x9, x10, x11, x12, x13, x14, x15], _ => rfl
theorem fld_com (b : Bys) (c : Nat) : fld (comP b c) 1 4 = c % 4294967296 ∧ fld (comP b c) 5 3 = needN b.length % 16777216 ∧ fld (comP b c) 8 4 = b.length % 4294967296 ∧ fld (comP b c) 12 4 = crcN b :=
  ⟨beV_be 4 c, beV_be 3 _, beV_be 4 _, (beV_be 4 _).trans (Nat.mod_eq_of_lt (crcN_lt b))⟩
theorem com_16 (b : Bys) (c : Nat) : (comP b c).length = 16 := by simp [comP, be]
theorem com_eq_iff {p : Page} (h : p.length = 16) {b : Bys} {c : Nat} (hc : c < 4294967296) (hb : b.length ≤ 65536) :
    p = comP b c ↔ (p.getD 0 0).toNat = 2 ∧ fld p 1 4 = c ∧ fld p 5 3 = needN b.length ∧ fld p 8 4 = b.length ∧ fld p 12 4 = crcN b := by
  obtain ⟨f1, f2, f3, f4⟩ := fld_com b c
  have hn : needN b.length < 16777216 := by unfold needN; omega
  constructor
  · rintro rfl
    exact ⟨rfl, by rw [f1]; omega, by rw [f2]; omega, by rw [f3]; omega, f4⟩
  · rintro ⟨h1, h2, h3, h4, h5⟩
    rw [page_parts h, h2, h3, h4, h5, UInt8.toNat_inj.1 (show (p.getD 0 0).toNat = (2 : UInt8).toNat from h1)]; rfl
theorem rebuild : ∀ (ps : List Page), pg16 ps = true → (∀ p, p ∈ ps → isDat p = true) → datN ps.length (payOf ps) = ps
  | [], _, _ => rfl
  | p :: ps, h, hd => by
    have h' := pg16_cons.1 h
    have hl : ((p.drop 1).take 15).length = 15 := by rw [List.length_take, List.length_drop]; omega
    have h1 : p.getD 0 0 = 1 := UInt8.toNat_inj.1 (isDat_iff.1 (hd p List.mem_cons_self))
    rw [payOf_cons, List.length_cons, datN, List.take_left' hl, List.drop_left' hl, rebuild ps h'.2 (fun q hq => hd q (List.mem_cons_of_mem _ hq)), hl, Nat.sub_self, List.replicate_zero, List.append_nil]
    have e : p = p.getD 0 0 :: p.drop 1 := by
      rw [← drop_cons (0 : UInt8) (show 0 < p.length by omega), List.drop_zero]
    rw [List.take_of_length_le (by rw [List.length_drop]; omega), ← h1]
    exact congrArg (· :: ps) e.symm
theorem datN_zeros : ∀ (k : Nat) (x : Bys) (m : Nat), datN k (x ++ List.replicate m 0) = datN k x
  | 0, _, _ => rfl
  | k + 1, x, m => by
    have e1 : (x ++ List.replicate m 0).take 15 ++ List.replicate (15 - ((x ++ List.replicate m 0).take 15).length) 0 = x.take 15 ++ List.replicate (15 - (x.take 15).length) (0 : UInt8) := by
      rw [List.take_append, List.take_replicate, List.append_assoc, List.replicate_append_replicate]
      congr 2
      simp only [List.length_append, List.length_take, List.length_replicate]; omega
    have e2 : (x ++ List.replicate m 0).drop 15 = x.drop 15 ++ List.replicate (m - (15 - x.length)) (0 : UInt8) := by
      rw [List.drop_append, List.drop_replicate]
    rw [datN, datN, e1, e2, datN_zeros k]
theorem payOf_datN : ∀ (k : Nat) (x : Bys), x.length ≤ 15 * k → payOf (datN k x) = x ++ List.replicate (15 * k - x.length) 0
  | 0, x, h => by
    have : x = [] := List.length_eq_zero_iff.1 (by omega)
    subst this; rfl
  | k + 1, x, h => by
    rw [datN, payOf_cons, payOf_datN k _ (by rw [List.length_drop]; omega)]
    rw [List.drop_succ_cons, List.drop_zero, List.take_of_length_le (by simp only [List.length_append, List.length_take, List.length_replicate]; omega)]
    by_cases c : x.length ≤ 15
    · rw [List.drop_eq_nil_of_le c, List.take_of_length_le c, List.nil_append, List.append_assoc, List.replicate_append_replicate]
      congr 2
      simp only [List.length_nil]; omega
    · have : (x.take 15).length = 15 := by rw [List.length_take]; omega
      rw [this, Nat.sub_self, List.replicate_zero, List.append_nil, ← List.append_assoc, List.take_append_drop, List.length_drop]
      congr 2
      omega
theorem nonZero_rep (n : Nat) : nonZero (List.replicate n 0) = false := by
  unfold nonZero
  rw [List.any_eq_false]
  intro x hx
  rw [List.eq_of_mem_replicate hx]; decide
theorem zeros_of {x : Bys} (h : nonZero x = false) : x = List.replicate x.length 0 := by
  refine List.eq_replicate_of_mem fun y hy => ?_
  have := List.any_eq_false.1 h y hy
  have : y.toNat = 0 := by simpa using this
  exact UInt8.toNat_inj.1 this
theorem okCom_iff {p : Page} (hp : p.length = 16) {ps : List Page} (h16 : pg16 ps = true) (hd : ∀ q, q ∈ ps → isDat q = true) {num : Nat} (hn : num < 4294967296) :
    okCom p num ps.length (payOf ps) = true ↔ fld p 8 4 ≤ 65536 ∧ fld p 8 4 ≤ 15 * ps.length ∧ p = comP ((payOf ps).take (fld p 8 4)) num ∧ fld p 5 3 = ps.length ∧ ps = dataPs ((payOf ps).take (fld p 8 4)) := by
  have hl := payOf_len h16
  unfold okCom
  simp only [Bool.and_eq_true, decide_eq_true_eq, Bool.not_eq_true']
  constructor
  · rintro ⟨⟨h1, h2, h3, h4, h5⟩, h6, h7⟩
    have hle : fld p 8 4 ≤ 15 * ps.length := by unfold needN at h5; omega
    have htl : ((payOf ps).take (fld p 8 4)).length = fld p 8 4 := by rw [List.length_take]; omega
    refine ⟨h4, hle, (com_eq_iff hp hn (by omega)).2 ⟨h1, by omega, by rw [htl, h5, h3], htl.symm, h7⟩, h3, ?_⟩
    have hz := zeros_of h6
    have e : payOf ps = (payOf ps).take (fld p 8 4) ++ List.replicate ((payOf ps).drop (fld p 8 4)).length 0 := by
      rw [← hz, List.take_append_drop]
    have hr := rebuild ps h16 hd
    rw [e, datN_zeros] at hr
    unfold dataPs
    rw [htl, h5]
    exact hr.symm
  · rintro ⟨h4, hle, hc, h3, hps⟩
    have htl : ((payOf ps).take (fld p 8 4)).length = fld p 8 4 := by rw [List.length_take]; omega
    obtain ⟨g1, g2, g3, g4, g5⟩ := (com_eq_iff hp hn (b := (payOf ps).take (fld p 8 4)) (by omega)).1 hc
    have hk : needN (fld p 8 4) = ps.length := by
      have := congrArg List.length hps
      rw [dataPs_len, htl] at this; exact this.symm
    refine ⟨⟨g1, by omega, h3, h4, hk⟩, ?_, g5⟩
    have e : payOf ps = (payOf ps).take (fld p 8 4) ++ List.replicate (15 * ps.length - fld p 8 4) 0 := by
      have := congrArg payOf hps
      unfold dataPs at this
      rw [payOf_datN _ _ (by rw [htl]; unfold needN; omega), htl, hk] at this
      exact this
    have : (payOf ps).drop (fld p 8 4) = List.replicate (15 * ps.length - fld p 8 4) 0 := by
      have := congrArg (List.drop (fld p 8 4)) e
      rwa [List.drop_left' htl] at this
    rw [this]
    exact nonZero_rep _
theorem tw_all : ∀ (l : List Page) (q : Page), q ∈ l.takeWhile isDat → isDat q = true
  | [], _, h => by cases h
  | p :: l, q, h => by
    rw [List.takeWhile_cons] at h
    split at h
    · rename_i hp
      rcases List.mem_cons.1 h with rfl | h
      · exact hp
      · exact tw_all l q h
    · cases h
end Go.AI
