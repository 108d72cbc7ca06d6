/- Texts of the proof, joined: LogP6. -/
import Derived.Test.YtnmidfcefljafaaGreatQtLogP5
namespace Go.AI
open Go
theorem pg16_drops {l : List Page} (h : pg16 l = true) (n : Nat) : pg16 (l.drop n) = true := by
 unfold pg16 at h ⊢
 rw [List.all_eq_true] at h ⊢
 exact fun x hx => h x (List.mem_of_mem_drop hx)
theorem pg16_set {s : List Page} (h : pg16 s = true) (k : Nat) {p : Page} (hp : p.length = 16) : pg16 (s.set k p) = true := by
 unfold pg16 at h ⊢
 rw [List.all_eq_true] at h ⊢
 intro x hx
 rcases List.mem_or_eq_of_mem_set hx with hx | rfl
 ·exact h x hx
 ·exact tt hp
theorem put_16 : ∀ (l : List Pend) {s : List Page}, pg16 s = true → (l.all fun p => decide (p.2.1.length = 16)) = true → pg16 (putS s l) = true
 | [], _, h, _ => h
 | p :: l, s, h, hl => by
  rw [List.all_cons, Bool.and_eq_true, decide_eq_true_eq] at hl
  exact put_16 l (pg16_set h p.1.toNat hl.1) hl.2
theorem con_16 {d : DK} (h : dk16 d = true) : pg16 (conS d) = true := by
 unfold dk16 at h
 rw [Bool.and_eq_true] at h
 exact put_16 d.2.1 h.1 h.2
theorem scanF_len : ∀ (n : Nat) (l : List Page) (num : Int), (scanF n l num).2.length ≤ l.length ∧ (scanF n l num).1.length ≤ l.length
 | 0, l, _ => ⟨Nat.le_refl _, Nat.zero_le _⟩
 | n + 1, l, num => by
  rw [scanF]
  cases e : readP l num with
  | none => exact ⟨Nat.le_refl _, Nat.zero_le _⟩
  | some br =>
   obtain ⟨b, r⟩ := br
   have := readP_len e
   obtain ⟨h1, h2⟩ := scanF_len n r (num + 1)
   exact ⟨by show (scanF n r (num + 1)).2.length ≤ _; omega, by show (scanF n r (num + 1)).1.length + 1 ≤ _; omega⟩
theorem scanP_len (l : List Page) (f : Int) : (scanP l f).2.length ≤ l.length ∧ (scanP l f).1.length ≤ l.length := by
 unfold scanP
 split
 ·exact scanF_len _ _ _
 ·exact ⟨Nat.le_refl _, Nat.zero_le _⟩
theorem read_all {d : DK} (h : okD d = true) : readV d 0 (d.1.length : Int) = conS d ∧ readE d 0 (d.1.length : Int) = 0 := by
 have hf : fitD d 0 (d.1.length : Int) = true := tt (by omega)
 unfold readV readE
 rw [h, hf]
 refine ⟨?_, rfl⟩
 show ((conS d).drop 0).take (d.1.length : Int).toNat = _
 rw [List.drop_zero, Int.toNat_natCast, List.take_of_length_le (by rw [con_len]; exact Nat.le_refl _)]
theorem okD_chk {d : DK} : okD d = true ↔ chkD d = 0 := by
 unfold chkD
 cases okD d <;> simp
theorem open_parts {d : DK} (h1 : smallD d = true) (h2 : dk16 d = true) (hk : okD d = true) (h : 2 ≤ d.1.length) :
  List.take ((conS d).length - 1) (List.drop 1 (conS d)) = (conS d).tail ∧ lScan_P (conS d).tail 1 = true ∧ (conS d).length = d.1.length ∧ d.1.length ≤ 8192 := by
 have hl : (conS d).length = d.1.length := con_len d
 have hs := small_iff.1 h1
 have h8 : d.1.length ≤ 8192 := by
  unfold okD at hk
  rw [Bool.and_eq_true, decide_eq_true_eq] at hk
  exact hk.1.2
 refine ⟨by rw [List.drop_one, List.take_of_length_le (by rw [List.length_tail]; exact Nat.le_refl _)], ?_, hl, h8⟩
 unfold lScan_P
 rw [← List.drop_one, pg16_drops (con_16 h2), tt (by rw [List.length_drop]; omega)]; rfl
theorem lOpen_plain (d : DK) (h : lOpen_P d = true) : ∃ F, ∀ {X : Type} (fail : X) (ret : LogT → List Bys → Int → X), lOpen F d fail ret = ret (lOpen_r0 d) (lOpen_r1 d) (lOpen_r2 d) := ⟨0, fun fail ret => by
 unfold lOpen_P at h
 rw [Bool.and_eq_true] at h
 unfold lOpen lOpen_r0 lOpen_r1 lOpen_r2 opL opB dRead_r0 dRead_r1
 rw [bif_true (c := dRead_P _ _ _) h.1]
 cases hk : okD d with
 | false =>
  have he : readE d 0 (d.1.length : Int) = 2 := by unfold readE; rw [hk]; rfl
  have ho : opE d = 2 := by unfold opE chkD; rw [hk]; rfl
  rw [he, ho]; rfl
 | true =>
  obtain ⟨r1, r2⟩ := read_all hk
  have hc := okD_chk.1 hk
  have hl : (conS d).length = d.1.length := con_len d
  rw [r1, r2, bif_false (c := (0 : Int) != 0) rfl]
  have ho : opE d = if d.1.length < 2 then 2 else if (conS d).getD 0 z16 = headP then 0 else 3 := if_pos hc
  by_cases c1 : d.1.length < 2
  ·rw [if_pos c1] at ho
   rw [bif_true (tt (by omega)), ho]; rfl
  rw [if_neg c1] at ho
  obtain ⟨p1, p2, p3, p4⟩ := open_parts h.1 h.2 hk (by omega)
  have hsl := scanP_len (conS d).tail 1
  rw [List.length_tail] at hsl
  rw [bif_false (ff (by omega)), bif_true (tt (by omega)), bif_true (c := lHead_P) rfl, beqT_dec (.arr 16 (.int .u8)) rfl, show lHead_r = headP from rfl]
  by_cases c2 : (conS d).getD 0 z16 = headP
  ·rw [if_pos c2] at ho
   have ha : addI 1 (lScan_r1 (conS d).tail 1) = 1 + lScan_r1 (conS d).tail 1 := by
    unfold lScan_r1
    rw [addI_eq]
    ·rw [List.length_tail]; omega
    ·rw [List.length_tail]; omega
   refine bif_eq_f (by rw [tt c2]; rfl) (bif_eq_t (tt (by omega)) ?_)
   rw [p1, p2, cond_true, ho, if_pos rfl, if_pos rfl, ha, hl]; rfl
  ·rw [if_neg c2] at ho
   refine bif_eq_t (by rw [ff c2]; rfl) ?_
   rw [ho]; rfl⟩
end Go.AI
