/- What the reference scans, and what is opened. -/
import Derived.Test.YtaobeghgcfbcfaaLogP5
namespace Go.AI
open Go

theorem dw_drop (l : List Page) : l.drop (l.takeWhile isDat).length = l.dropWhile isDat := by
  have h := List.takeWhile_append_dropWhile (p := isDat) (l := l)
  have : (l.takeWhile isDat ++ l.dropWhile isDat).drop (l.takeWhile isDat).length = l.dropWhile isDat := List.drop_left' rfl
  rwa [h] at this
theorem tw_take (l : List Page) : l.take (l.takeWhile isDat).length = l.takeWhile isDat := by
  have h := List.takeWhile_append_dropWhile (p := isDat) (l := l)
  have : (l.takeWhile isDat ++ l.dropWhile isDat).take (l.takeWhile isDat).length = l.takeWhile isDat := List.take_left' rfl
  rwa [h] at this
theorem getD_drop {l : List Page} {k : Nat} {p : Page} {r : List Page} (h : l.drop k = p :: r) : l.getD k z16 = p := by
  have := congrArg (fun x : List Page => x[0]?) h
  simp only [List.getElem?_drop, Nat.add_zero, List.getElem?_cons_zero] at this
  simp [List.getD, this]
theorem qComplete_plain (l : List Page) (num : Int) (h : qComplete_P l num = true) : ∃ F, ∀ {X : Type} (fail : X) (ret : Bys → Int → Bool → X), qComplete F l num fail ret = ret (qComplete_r0 l num) (qComplete_r1 l num) (qComplete_r2 l num) := ⟨65536 + l.length + 1, fun fail ret => by
  simp only [qComplete_P, Bool.and_eq_true, decide_eq_true_eq] at h
  obtain ⟨⟨hl, hn0, hn1⟩, h16⟩ := h
  obtain ⟨n, rfl⟩ := Int.eq_ofNat_of_zero_le hn0
  have hdw := dw_len l
  have tk16 := pg16_take h16
  have hall := tw_all l
  have hdd := dw_drop l
  have htt := tw_take l
  unfold qComplete qComplete_r0 qComplete_r1 qComplete_r2
  refine (qComplete_loop1 (65536 + l.length + 1) fail _ l n hl l.length (65536 + l.length) 0 (by omega) (by omega)).trans ?_
  rw [List.drop_zero, Nat.zero_add]
  rcases readP_cases l n with ⟨hd, e⟩ | ⟨p, r, hd, hc⟩
  · rw [e]
    rw [hd, List.length_nil] at hdw
    exact bif_eq_t (beq_t (by omega)) rfl
  rw [hd, List.length_cons] at hdw
  have d16 := pg16_drop h16
  rw [hd] at d16 hdd
  have hp16 := (pg16_cons.1 d16).1
  have hg : l.getD (l.takeWhile isDat).length z16 = p := getD_drop hdd
  have iff := okCom_iff hp16 tk16 hall (num := n) (by omega)
  have hrl : r.length = l.length - (l.takeWhile isDat).length - 1 := by omega
  generalize hps : l.takeWhile isDat = ps at *
  have hgp : qGet_P p 8 4 = true := tt ⟨hp16, by omega, by omega, by omega, by omega⟩
  have hgp5 : qGet_P p 5 3 = true := tt ⟨hp16, by omega, by omega, by omega, by omega⟩
  have hg8 : qGet_r p 8 4 = ((fld p 8 4 : Nat) : Int) := rfl
  have hg5 : qGet_r p 5 3 = ((fld p 5 3 : Nat) : Int) := rfl
  refine bif_eq_f (beq_f (by omega)) (bif_eq_t (tt2 (by omega) (by omega)) ?_)
  rw [Int.toNat_natCast, hg, hg8]
  have dead : ¬ okCom p n ps.length (payOf ps) = true → readP l n = none := fun hk => by
    rcases hc with ⟨hk', _⟩ | ⟨_, e⟩
    · exact absurd hk' hk
    · exact e
  refine bif_eq_t hgp ?_
  by_cases c1 : fld p 8 4 ≤ 65536
  case neg => exact bif_eq_t (tt (by omega)) (by rw [dead (fun h => c1 (iff.1 h).1)]; rfl)
  refine bif_eq_f (ff (by omega)) ?_
  have hm15 : mulI 15 ((ps.length : Nat) : Int) = 15 * (ps.length : Int) := mulI_eq (by omega) (by omega)
  by_cases c2 : fld p 8 4 ≤ 15 * ps.length
  case neg => exact bif_eq_t (tt (by rw [hm15]; omega)) (by rw [dead (fun h => c2 (iff.1 h).2.1)]; rfl)
  refine bif_eq_f (ff (by rw [hm15]; omega)) ?_
  refine (qComplete_loop2 (65536 + l.length + 1) fail _ l n ps.length (fld p 8 4) (by omega) hl c2 c1 (by rw [htt]; exact tk16) (fld p 8 4) (65536 + l.length) 0 (by omega) (by omega)).trans ?_
  rw [htt]
  have hplen : ((payOf ps).take (fld p 8 4)).length ≤ 65536 := by rw [List.length_take]; omega
  generalize hpay : (payOf ps).take (fld p 8 4) = pay at *
  have hcP : qCommit_P pay n = true := tt (by omega)
  have hdP : qData_P pay = true := tt (by omega)
  have hcr : qCommit_r pay n = comP pay n := rfl
  refine bif_eq_t (tt2 (by omega) (by omega)) (bif_eq_t hcP ?_)
  rw [Int.toNat_natCast, hg, hcr, hg5, beqT_dec (.arr 16 (.int .u8)) rfl]
  by_cases c3 : p = comP pay n
  case neg => exact bif_eq_t (by rw [ff c3]; rfl) (by rw [dead (fun h => c3 (iff.1 h).2.2.1)]; rfl)
  refine bif_eq_f (by rw [tt c3]; rfl) (bif_eq_t (tt2 (by omega) (by omega)) (bif_eq_t hgp5 ?_))
  by_cases c4 : fld p 5 3 = ps.length
  case neg => exact bif_eq_t (bne_t (by omega)) (by rw [dead (fun h => c4 (iff.1 h).2.2.2.1)]; rfl)
  refine bif_eq_f (bne_f (by omega)) (bif_eq_t (tt2 (by omega) (by omega)) (bif_eq_t hdP ?_))
  rw [htt]
  have hpd : (dataPs pay).length ≤ 65536 := by rw [dataPs_len]; unfold needN; omega
  have hsP : rSamePages_P ps (qData_r pay) = true := tt ⟨by omega, by show (dataPs pay).length ≤ _; omega⟩
  have hsr : rSamePages_r ps (qData_r pay) = decide (ps = dataPs pay) := rfl
  refine bif_eq_t hsP ?_
  rw [hsr]
  by_cases c5 : ps = dataPs pay
  case neg => exact bif_eq_t (by rw [ff c5]; rfl) (by rw [dead (fun h => c5 (iff.1 h).2.2.2.2)]; rfl)
  refine bif_eq_f (by rw [tt c5]; rfl) ?_
  rcases hc with ⟨_, e⟩ | ⟨hk, _⟩
  · rw [e, addI_eq (by omega) (by omega)]
    congr 1
    show (ps.length : Int) + 1 = (l.length : Int) - (r.length : Int)
    omega
  · rw [iff.2 ⟨c1, c2, c3, c4, c5⟩] at hk; cases hk⟩
theorem readP_suffix {l : List Page} {num : Int} {b : Bys} {r : List Page} (h : readP l num = some (b, r)) : l.drop (l.length - r.length) = r := by
  rcases readP_cases l num with ⟨_, e⟩ | ⟨p, r', hd, ⟨_, e⟩ | ⟨_, e⟩⟩
  · rw [e] at h; cases h
  · rw [e] at h; cases h
    have h1 := dw_len l
    have h2 := dw_drop l
    rw [hd] at h2
    rw [hd, List.length_cons] at h1
    rw [show l.length - r.length = (l.takeWhile isDat).length + 1 by omega, ← List.drop_drop, h2]; rfl
  · rw [e] at h; cases h
theorem pg16_drops {l : List Page} (h : pg16 l = true) (n : Nat) : pg16 (l.drop n) = true := by
  unfold pg16 at h ⊢
  rw [List.all_eq_true] at h ⊢
  exact fun x hx => h x (List.mem_of_mem_drop hx)
theorem qScan_loop {X : Type} (F : Nat) (fail : X) (ex0 : List Page → Int → Int → Bys → Int → Bool → List Bys → X) (K : List Bys → Int → X) (l : List Page) (first : Int) (hf : 1 ≤ first ∧ first ≤ 8192) (hl : l.length ≤ 1000000) (h16 : pg16 l = true) (h0 : ∀ n b k ok out, ex0 l first n b k ok out = K out n) :
    ∀ (f m n : Nat) (out : List Bys), (l.drop n).length ≤ f → f ≤ m → n ≤ l.length → out.length ≤ n →
    qScan_l1F F fail ex0 (m + 1) l first n (qComplete_r0 (l.drop n) (first + out.length)) (qComplete_r1 (l.drop n) (first + out.length)) (qComplete_r2 (l.drop n) (first + out.length)) out =
      K (out ++ (scanF f (l.drop n) (first + out.length)).1) ((l.length : Int) - ((scanF f (l.drop n) (first + out.length)).2.length : Int)) := by
  intro f
  induction f with
  | zero =>
    intro m n out hn _ hnl _
    have e : l.drop n = [] := List.length_eq_zero_iff.1 (by omega)
    rw [e]
    rw [qScan_l1F, qScan_l1]
    rw [List.length_drop] at hn
    refine bif_eq_f rfl ?_
    rw [h0, show scanF 0 [] (first + out.length) = ([], []) from rfl, List.append_nil]
    congr 1
    show (n : Int) = (l.length : Int) - 0
    omega
  | succ f ih =>
    intro m n out hn hm hnl ho
    obtain ⟨m', rfl⟩ : ∃ m', m = m' + 1 := ⟨m - 1, by omega⟩
    rw [qScan_l1F, qScan_l1]
    unfold qComplete_r0 qComplete_r1 qComplete_r2
    rw [List.length_drop] at hn
    cases e : readP (l.drop n) (first + out.length) with
    | none =>
      refine bif_eq_f rfl ?_
      rw [h0, scanF, e]
      simp only [List.append_nil, List.length_drop]
      congr 1
      omega
    | some br =>
      obtain ⟨b, r⟩ := br
      have hr := readP_len e
      have hs := readP_suffix e
      rw [List.length_drop] at hr hs
      have hsub : ((l.drop n).length : Int) - (r.length : Int) = ((l.length - n - r.length : Nat) : Int) := by rw [List.length_drop]; omega
      refine bif_eq_t rfl ?_
      simp only [hsub]
      rw [addI_eq (a := (n : Int)) (by omega) (by omega), show (n : Int) + ((l.length - n - r.length : Nat) : Int) = ((n + (l.length - n - r.length) : Nat) : Int) by omega, Int.toNat_natCast]
      rw [List.drop_drop] at hs
      have ho2 : (out ++ [b]).length = out.length + 1 := by rw [List.length_append, List.length_singleton]
      have hnum : addI first ((out ++ [b]).length : Int) = first + ((out ++ [b]).length : Int) := addI_eq (by omega) (by omega)
      have := ih m' (n + (l.length - n - r.length)) (out ++ [b]) (by rw [hs]; omega) (by omega) (by omega) (by omega)
      have hcP : qComplete_P (l.drop (n + (l.length - n - r.length))) (first + ((out ++ [b]).length : Int)) = true := by
        unfold qComplete_P
        rw [pg16_drops h16, tt (by rw [List.length_drop]; omega)]; rfl
      refine bif_eq_t (le_big (by omega)) (bif_eq_t (tt2 (by omega) (by omega)) ?_)
      rw [hnum]
      refine bif_eq_t hcP (this.trans ?_)
      rw [hs, scanF, e, ho2, List.append_assoc, show first + ((out.length + 1 : Nat) : Int) = first + out.length + 1 by omega]; rfl
theorem qScan_plain (l : List Page) (first : Int) (h : qScan_P l first = true) : ∃ F, ∀ {X : Type} (fail : X) (ret : List Bys → Int → X), qScan F l first fail ret = ret (qScan_r0 l first) (qScan_r1 l first) := ⟨l.length + 1, fun fail ret => by
  simp only [qScan_P, lScan_P, Bool.and_eq_true, decide_eq_true_eq] at h
  unfold qScan qScan_r0 qScan_r1 lScan_r1 scanP
  by_cases c1 : first < 1
  · rw [bif_true (tt c1), if_neg (by omega), Int.sub_self]
  by_cases c2 : first > 8192
  · rw [bif_false (ff c1), bif_true (tt c2), if_neg (by omega), Int.sub_self]
  have hcP : qComplete_P l first = true := by
    unfold qComplete_P
    rw [h.2, tt (by omega)]; rfl
  rw [bif_false (ff c1), bif_false (ff c2), hcP, cond_true, if_pos (by omega)]
  have := qScan_loop (l.length + 1) fail (fun _ _ n _ _ _ out => ret out n) (fun out n => ret out n) l first (by omega) h.1 h.2 (fun _ _ _ _ _ => rfl) l.length l.length 0 [] (by rw [List.drop_zero]; exact Nat.le_refl _) (Nat.le_refl _) (Nat.zero_le _) (Nat.le_refl _)
  simp only [List.length_nil, List.nil_append, List.drop_zero] at this
  rw [show first + ((0 : Nat) : Int) = first by omega] at this
  exact this⟩

/- What is opened. -/
theorem pg16_set {s : List Page} (h : pg16 s = true) (k : Nat) {p : Page} (hp : p.length = 16) : pg16 (s.set k p) = true := by
  unfold pg16 at h ⊢
  rw [List.all_eq_true] at h ⊢
  intro x hx
  rcases List.mem_or_eq_of_mem_set hx with hx | rfl
  · exact h x hx
  · exact tt hp
theorem put_16 : ∀ (l : List Pend) {s : List Page}, pg16 s = true → (l.all fun p => decide (p.2.1.length = 16)) = true → pg16 (putS s l) = true
  | [], _, h, _ => h
  | p :: l, s, h, hl => by
    rw [List.all_cons, Bool.and_eq_true, decide_eq_true_eq] at hl
    exact put_16 l (pg16_set h p.1.toNat hl.1) hl.2
theorem con_16 {d : DK} (h : dk16 d = true) : pg16 (conS d) = true := by
  unfold dk16 at h
  rw [Bool.and_eq_true] at h
  exact put_16 d.2.1 h.1 h.2
theorem scanF_len : ∀ (n : Nat) (l : List Page) (num : Int), (scanF n l num).2.length ≤ l.length ∧ (scanF n l num).1.length ≤ l.length
  | 0, l, _ => ⟨Nat.le_refl _, Nat.zero_le _⟩
  | n + 1, l, num => by
    rw [scanF]
    cases e : readP l num with
    | none => exact ⟨Nat.le_refl _, Nat.zero_le _⟩
    | some br =>
      obtain ⟨b, r⟩ := br
      have := readP_len e
      obtain ⟨h1, h2⟩ := scanF_len n r (num + 1)
      exact ⟨by show (scanF n r (num + 1)).2.length ≤ _; omega, by show (scanF n r (num + 1)).1.length + 1 ≤ _; omega⟩
theorem scanP_len (l : List Page) (f : Int) : (scanP l f).2.length ≤ l.length ∧ (scanP l f).1.length ≤ l.length := by
  unfold scanP
  split
  · exact scanF_len _ _ _
  · exact ⟨Nat.le_refl _, Nat.zero_le _⟩
theorem read_all {d : DK} (h : okD d = true) : readV d 0 (d.1.length : Int) = conS d ∧ readE d 0 (d.1.length : Int) = 0 := by
  have hf : fitD d 0 (d.1.length : Int) = true := tt (by omega)
  unfold readV readE
  rw [h, hf]
  refine ⟨?_, rfl⟩
  show ((conS d).drop 0).take (d.1.length : Int).toNat = _
  rw [List.drop_zero, Int.toNat_natCast, List.take_of_length_le (by rw [con_len]; exact Nat.le_refl _)]
theorem okD_chk {d : DK} : okD d = true ↔ chkD d = 0 := by
  unfold chkD
  cases okD d <;> simp
theorem open_parts {d : DK} (h1 : smallD d = true) (h2 : dk16 d = true) (hk : okD d = true) (h : 2 ≤ d.1.length) :
    List.take ((conS d).length - 1) (List.drop 1 (conS d)) = (conS d).tail ∧ lScan_P (conS d).tail 1 = true ∧ (conS d).length = d.1.length ∧ d.1.length ≤ 8192 := by
  have hl : (conS d).length = d.1.length := con_len d
  have hs := small_iff.1 h1
  have h8 : d.1.length ≤ 8192 := by
    unfold okD at hk
    rw [Bool.and_eq_true, decide_eq_true_eq] at hk
    exact hk.1.2
  refine ⟨by rw [List.drop_one, List.take_of_length_le (by rw [List.length_tail]; exact Nat.le_refl _)], ?_, hl, h8⟩
  unfold lScan_P
  rw [← List.drop_one, pg16_drops (con_16 h2), tt (by rw [List.length_drop]; omega)]; rfl
theorem lOpen_plain (d : DK) (h : lOpen_P d = true) : ∃ F, ∀ {X : Type} (fail : X) (ret : LogT → List Bys → Int → X), lOpen F d fail ret = ret (lOpen_r0 d) (lOpen_r1 d) (lOpen_r2 d) := ⟨0, fun fail ret => by
  unfold lOpen_P at h
  rw [Bool.and_eq_true] at h
  unfold lOpen lOpen_r0 lOpen_r1 lOpen_r2 opL opB dRead_r0 dRead_r1
  rw [bif_true (c := dRead_P _ _ _) h.1]
  cases hk : okD d with
  | false =>
    have he : readE d 0 (d.1.length : Int) = 2 := by unfold readE; rw [hk]; rfl
    have ho : opE d = 2 := by unfold opE chkD; rw [hk]; rfl
    rw [he, ho]; rfl
  | true =>
    obtain ⟨r1, r2⟩ := read_all hk
    have hc := okD_chk.1 hk
    have hl : (conS d).length = d.1.length := con_len d
    rw [r1, r2, bif_false (c := (0 : Int) != 0) rfl]
    have ho : opE d = if d.1.length < 2 then 2 else if (conS d).getD 0 z16 = headP then 0 else 3 := if_pos hc
    by_cases c1 : d.1.length < 2
    · rw [if_pos c1] at ho
      rw [bif_true (tt (by omega)), ho]; rfl
    rw [if_neg c1] at ho
    obtain ⟨p1, p2, p3, p4⟩ := open_parts h.1 h.2 hk (by omega)
    have hsl := scanP_len (conS d).tail 1
    rw [List.length_tail] at hsl
    rw [bif_false (ff (by omega)), bif_true (tt (by omega)), bif_true (c := lHead_P) rfl, beqT_dec (.arr 16 (.int .u8)) rfl, show lHead_r = headP from rfl]
    by_cases c2 : (conS d).getD 0 z16 = headP
    · rw [if_pos c2] at ho
      have ha : addI 1 (lScan_r1 (conS d).tail 1) = 1 + lScan_r1 (conS d).tail 1 := by
        unfold lScan_r1
        rw [addI_eq]
        · rw [List.length_tail]; omega
        · rw [List.length_tail]; omega
      refine bif_eq_f (by rw [tt c2]; rfl) (bif_eq_t (tt (by omega)) ?_)
      rw [p1, p2, cond_true, ho, if_pos rfl, if_pos rfl, ha, hl]; rfl
    · rw [if_neg c2] at ho
      refine bif_eq_t (by rw [ff c2]; rfl) ?_
      rw [ho]; rfl⟩
theorem qOpen_plain (d : DK) (h : qOpen_P d = true) : ∃ F, ∀ {X : Type} (fail : X) (ret : LogT → List Bys → Int → X), qOpen F d fail ret = ret (qOpen_r0 d) (qOpen_r1 d) (qOpen_r2 d) := ⟨0, fun fail ret => by
  unfold qOpen_P at h
  rw [Bool.and_eq_true] at h
  unfold qOpen qOpen_r0 qOpen_r1 qOpen_r2 opL opB rRead_r0 rCheck_r
  rw [bif_true (c := rCheck_P _) h.1]
  cases hk : okD d with
  | false =>
    have he : chkD d = 2 := by unfold chkD; rw [hk]; rfl
    have ho : opE d = 2 := by unfold opE; rw [he]; rfl
    rw [he, ho]; rfl
  | true =>
    obtain ⟨r1, r2⟩ := read_all hk
    have hc := okD_chk.1 hk
    have hl : (conS d).length = d.1.length := con_len d
    rw [hc, bif_false (c := (0 : Int) != 0) rfl]
    have ho : opE d = if d.1.length < 2 then 2 else if (conS d).getD 0 z16 = headP then 0 else 3 := if_pos hc
    by_cases c1 : d.1.length < 2
    · rw [if_pos c1] at ho
      rw [bif_true (tt (by omega)), ho]; rfl
    rw [if_neg c1] at ho
    obtain ⟨p1, p2, p3, p4⟩ := open_parts h.1 h.2 hk (by omega)
    have hsl := scanP_len (conS d).tail 1
    rw [List.length_tail] at hsl
    rw [bif_false (ff (by omega)), bif_true (c := rRead_P _ _ _) h.1, r1, bif_true (tt (by omega)), bif_true (c := qHeader_P) rfl, beqT_dec (.arr 16 (.int .u8)) rfl, show qHeader_r = headP from rfl]
    by_cases c2 : (conS d).getD 0 z16 = headP
    · rw [if_pos c2] at ho
      have ha : addI 1 (lScan_r1 (conS d).tail 1) = 1 + lScan_r1 (conS d).tail 1 := by
        unfold lScan_r1
        rw [addI_eq]
        · rw [List.length_tail]; omega
        · rw [List.length_tail]; omega
      refine bif_eq_f (by rw [tt c2]; rfl) (bif_eq_t (tt (by omega)) ?_)
      have p2' : qScan_P (conS d).tail 1 = true := p2
      rw [p1, p2', cond_true, ho, if_pos rfl, if_pos rfl]
      show ret (addI 1 (lScan_r1 (conS d).tail 1), _) _ _ = _
      rw [ha]; rfl
    · rw [if_neg c2] at ho
      refine bif_eq_t (by rw [ff c2]; rfl) ?_
      rw [ho]; rfl⟩
end Go.AI
