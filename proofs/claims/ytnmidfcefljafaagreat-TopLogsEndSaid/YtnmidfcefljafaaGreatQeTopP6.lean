/- Texts of the proof, joined: TopP6. -/
import Derived.Test.YtnmidfcefljafaaGreatQeG
import Derived.Test.YtnmidfcefljafaaGreatQeTopP
import Derived.Test.YtnmidfcefljafaaGreatQeLogQ
namespace Go.AI
open Go
def TopLogsEnd_P (_ : List Bys) (behind : List Page) : Bool := pg16 behind
def TopLogsEnd_r (_ : List Bys) (_ : List Page) : Bool := true
theorem scanF_fuel : ∀ (n m : Nat) (l : List Page) (num : Int), l.length ≤ n → l.length ≤ m → scanF n l num = scanF m l num
 | 0, 0, _, _, _, _ => rfl
 | 0, m + 1, l, num, h, _ => by
  have e : l = [] := List.length_eq_zero_iff.1 (by omega)
  subst e; rfl
 | n + 1, 0, l, num, _, h => by
  have e : l = [] := List.length_eq_zero_iff.1 (by omega)
  subst e; rfl
 | n + 1, m + 1, l, num, h1, h2 => by
  rw [scanF, scanF]
  cases e : readP l num with
  | none => rfl
  | some br =>
   obtain ⟨b, r⟩ := br
   have := readP_len e
   have h3 : r.length < l.length := by omega
   simp only
   rw [scanF_fuel n m r (num + 1) (by omega) (by omega)]
theorem end_loop {X : Type} (F : Nat) (fail : X) (ex0 ex1 : List Page → Bool → List Bys → Int → Int → DK → LogT → List Bys → X) (K : X) (p : List Bys) (behind : List Page) (s4 : Bool) (hp : p.length ≤ 8) (h1 : ∀ i s done rest, LogOk 200 s done rest → done.length ≤ 8 → (logPs done 1).length ≤ 40 → ex1 behind s4 p (p.length : Nat) i (still s) (logOf done 200) done = K) : ∀ (j m i : Nat) (s : List Page) (done : List Bys) (rest : List Page), i + j = p.length → j ≤ m → done.length ≤ i → (logPs done 1).length ≤ 5 * i → LogOk 200 s done rest →
  TopLogsEnd_l1F F fail ex0 ex1 (m + 1) behind s4 p (p.length : Nat) i (still s) (logOf done 200) done = K
 | 0, m, i, s, done, rest, hi, _, hd, hg, h => by
  rw [TopLogsEnd_l1F, TopLogsEnd_l1, bif_false (ff (by omega)), h1 _ _ _ rest h (by omega) (by omega)]
 | j + 1, 0, i, _, _, _, _, hm, _, _, _ => absurd hm (by omega)
 | j + 1, m + 1, i, s, done, rest, hi, hm, hd, hg, h => by
  have ih := fun s' done' rest' => end_loop F fail ex0 ex1 K p behind s4 hp h1 j m (i + 1) s' done' rest' (by omega) (by omega)
  have nx : addI (i : Int) 1 = ((i + 1 : Nat) : Int) := by rw [addI_eq (by omega) (by omega), nat1]
  have hz := h.size
  rw [TopLogsEnd_l1F, TopLogsEnd_l1, Int.toNat_natCast, nx]
  generalize p.getD i [] = b
  refine bif_eqt (tt (by omega)) (bif_eqt (tt2 (by omega) (by omega)) ?_)
  by_cases cb : (b.length : Int) > 60
  ·exact bif_eqt (tt cb) (ih s done rest (by omega) (by omega) h)
  have hn : needN b.length ≤ 4 := by unfold needN; omega
  have he : appE (logOf done 200) b = 0 := by
   rcases h.appE (by omega) (by omega) (b := b) (by omega) with ⟨e, _⟩ | ⟨_, e⟩
   ·exact e
   ·omega
  obtain ⟨a1, a2, a3, s', rest', q, a4, a5⟩ := app_run h (by omega) (by omega) (b := b) (by omega) he
  have hl1 : (done ++ [b]).length = done.length + 1 := by rw [List.length_append, List.length_singleton]
  have d0 : dRun_r0 (still s) (lAppend_r1 (logOf done 200) b) = still s' := by
   show (runD (still s) (appO (logOf done 200) b)).1 = _
   rw [a4]
  have d2 : (dRun_r2 (still s) (lAppend_r1 (logOf done 200) b) != 0) = false := by
   show ((runD (still s) (appO (logOf done 200) b)).2.2 != 0) = false
   rw [a4]; rfl
  rw [d0, show lAppend_r0 (logOf done 200) b = logOf (done ++ [b]) 200 from a3]
  refine bif_eqf (ff cb) (bif_eqt rfl (bif_eqt a1 (bif_eqf (bne_f he) (bif_eqf d2 (bif_eqt (le_big (by omega)) ?_)))))
  refine ih s' (done ++ [b]) rest' (by omega) ?_ a5
  rw [logPs_snoc, List.length_append, blk_len]; omega
theorem end_open {s2 rest2 : List Page} {done : List Bys} (hs : s2 = diskPs done rest2) (hl : s2.length = 200) (hd : done.length ≤ 8) (hb : shortB done) :
  opE (still s2) = 0 ∧ opL (still s2) = (1 + ((logPs done 1).length : Int) + ((rest2.length : Int) - ((scanF rest2.length rest2 ((done.length : Int) + 1)).2.length : Int)), ((done.length : Int) + ((scanF rest2.length rest2 ((done.length : Int) + 1)).1.length : Int), (200, ()))) ∧ opB (still s2) = done ++ (scanF rest2.length rest2 ((done.length : Int) + 1)).1 := by
 have hdl := logPs_len done 1
 have hsz : s2.tail.length = (logPs done 1).length + rest2.length := by rw [hs]; show (logPs done 1 ++ rest2).length = _; rw [List.length_append]
 have hok : okD (still s2) = true := still_ok (by omega) (by omega)
 have hc := okD_chk.1 hok
 have hsc : scanP s2.tail 1 = (done ++ (scanF rest2.length rest2 ((done.length : Int) + 1)).1, (scanF rest2.length rest2 ((done.length : Int) + 1)).2) := by
  unfold scanP
  rw [if_pos (by omega), hsz]
  have e : s2.tail = logPs done 1 ++ rest2 := by rw [hs]; rfl
  rw [e]
  have := scan_logs done ((logPs done 1).length + rest2.length) 1 rest2 hb (by omega) (by omega)
  rw [show ((1 : Nat) : Int) = 1 from rfl] at this
  rw [this, show ((1 + done.length : Nat) : Int) = (done.length : Int) + 1 by omega, scanF_fuel ((logPs done 1).length + rest2.length - done.length) rest2.length rest2 _ (by omega) (Nat.le_refl _)]
 have hcon : conS (still s2) = s2 := rfl
 generalize scanF rest2.length rest2 ((done.length : Int) + 1) = Y at hsc ⊢
 have hE : opE (still s2) = 0 := by
  unfold opE
  rw [if_pos hc, hcon, if_neg (by show ¬ s2.length < 2; omega), if_pos (by rw [hs]; rfl)]
 refine ⟨hE, ?_, ?_⟩
 ·unfold opL lScan_r1
  rw [if_pos hE, hcon, hsc, hsz]
  show (_, (_, ((s2.length : Int), ()))) = _
  rw [hl, List.length_append]
  refine Prod.ext ?_ (Prod.ext ?_ rfl)
  ·show 1 + ((((logPs done 1).length + rest2.length : Nat) : Int) - (Y.2.length : Int)) = 1 + ((logPs done 1).length : Int) + ((rest2.length : Int) - (Y.2.length : Int)); omega
  ·show ((done.length + Y.1.length : Nat) : Int) = (done.length : Int) + (Y.1.length : Int); omega
 ·unfold opB
  rw [if_pos hE, hcon, hsc]
theorem TopLogsEnd_plain (p : List Bys) (behind : List Page) (hP : TopLogsEnd_P p behind = true) : ∃ F, ∀ {X : Type} (fail : X) (ret : Bool → X), TopLogsEnd F p behind fail ret = ret (TopLogsEnd_r p behind) := ⟨p.length + 1, fun fail ret => by
 have h16 : pg16 behind = true := hP
 unfold TopLogsEnd
 by_cases c1 : (p.length : Int) > 8
 ·exact bif_eqt (tt c1) rfl
 by_cases c2 : (behind.length : Int) > 60
 ·exact bif_eqf (ff c1) (bif_eqt (tt c2) rfl)
 refine bif_eqf (ff c1) (bif_eqf (ff c2) (bif_eqt rfl (bif_eqf rfl ?_)))
 refine end_loop (p.length + 1) fail _ _ (ret true) p behind false (by omega) (fun i s done rest h hd hg => ?_) p.length p.length 0 _ [] _ (by omega) (by omega) (Nat.zero_le _) (Nat.zero_le _) (fresh_log 200 (by omega))
 have hz := h.size
 have hlen := h.len
 have e0 : (logOf done 200).1 = ((1 + (logPs done 1).length : Nat) : Int) := by show 1 + ((logPs done 1).length : Int) = _; omega
 have hrl : (behind ++ rest.drop behind.length).length = rest.length := by rw [List.length_append, List.length_drop]; omega
 have hrun : runD (still s) [((0 : Int), ((logOf done 200).1, (behind, ()))), ((1 : Int), ((0 : Int), (([] : List Page), ())))] = (still (diskPs done (behind ++ rest.drop behind.length)), (2, 0)) := by
  rw [run_still (by omega) (by omega), e0]
  show goD (still s) (wrO ((1 + (logPs done 1).length : Nat) : Int) behind :: syO :: []) 0 = _
  rw [go_wr (by omega), h.eq]
  have := disk_write done rest behind 0
  rw [Nat.add_zero, Nat.zero_add, List.take_zero, List.nil_append] at this
  rw [this]; rfl
 generalize hr2 : behind ++ rest.drop behind.length = rest2 at hrl hrun
 have hl2 : (diskPs done rest2).length = 200 := by
  simp only [diskPs, List.length_cons, List.length_append]; omega
 have h16r : pg16 rest2 = true := by rw [← hr2]; exact pg16_app.2 ⟨h16, pg16_drops h.pg _⟩
 have h16s : pg16 (diskPs done rest2) = true := pg16_cons.2 ⟨rfl, pg16_app.2 ⟨logPs_16 done 1, h16r⟩⟩
 generalize hs2 : diskPs done rest2 = s2 at hrun hl2 h16s
 obtain ⟨o1, o2, o3⟩ := end_open hs2.symm hl2 hd h.short
 have d0 : dRun_r0 (still s) [((0 : Int), ((logOf done 200).1, (behind, ()))), ((1 : Int), ((0 : Int), (([] : List Page), ())))] = still s2 := by
  show (runD (still s) _).1 = _
  rw [hrun]
 have d2 : dRun_r2 (still s) [((0 : Int), ((logOf done 200).1, (behind, ()))), ((1 : Int), ((0 : Int), (([] : List Page), ())))] = 0 := by
  show (runD (still s) _).2.2 = _
  rw [hrun]
 have hsub : subI (logOf done 200).2.2.1 (logOf done 200).1 = ((rest2.length : Nat) : Int) := by
  rw [e0, subI_eq (by show _ ≤ (200 : Int) - _; omega) (by show (200 : Int) - _ < _; omega)]
  show (200 : Int) - _ = _
  omega
 have hok : okD (still s2) = true := still_ok (by omega) (by omega)
 have hfit : fitD (still s2) (logOf done 200).1 ((rest2.length : Nat) : Int) = true := fit_iff.2 ⟨by omega, by omega, by show _ ≤ (s2.length : Int); omega⟩
 have hrv : dRead_r0 (still s2) (logOf done 200).1 ((rest2.length : Nat) : Int) = rest2 := by
  show readV (still s2) (logOf done 200).1 ((rest2.length : Nat) : Int) = rest2
  unfold readV
  rw [hok, hfit, e0, Int.toNat_natCast, Int.toNat_natCast]
  show ((s2.drop _).take _) = _
  have e : s2 = (headP :: logPs done 1) ++ rest2 := hs2.symm
  rw [e, List.drop_left' (by rw [List.length_cons]; omega), List.take_of_length_le (Nat.le_refl _)]
 have hre : dRead_r1 (still s2) (logOf done 200).1 ((rest2.length : Nat) : Int) = 0 := by
  show readE (still s2) (logOf done 200).1 ((rest2.length : Nat) : Int) = 0
  unfold readE
  rw [hok, hfit]; rfl
 have hnum : addI (logOf done 200).2.1 1 = (done.length : Int) + 1 := by
  show addI (done.length : Int) 1 = _
  rw [addI_eq (by omega) (by omega)]
 have hsl := scanF_len rest2.length rest2 ((done.length : Int) + 1)
 have hsc : scanP rest2 ((done.length : Int) + 1) = scanF rest2.length rest2 ((done.length : Int) + 1) := by
  unfold scanP
  rw [if_pos (by omega)]
 have hs0 : lScan_r0 rest2 ((done.length : Int) + 1) = (scanF rest2.length rest2 ((done.length : Int) + 1)).1 := by show (scanP _ _).1 = _; rw [hsc]
 have hs1 : lScan_r1 rest2 ((done.length : Int) + 1) = (rest2.length : Int) - ((scanF rest2.length rest2 ((done.length : Int) + 1)).2.length : Int) := by unfold lScan_r1; rw [hsc]
 have hscP : lScan_P rest2 ((done.length : Int) + 1) = true := by
  unfold lScan_P
  rw [h16r, tt (by omega)]; rfl
 have hoP : lOpen_P (still s2) = true := by
  unfold lOpen_P dk16
  rw [show pg16 (still s2).1 = true from h16s, small_iff.2 ⟨by show s2.length ≤ _; omega, Nat.zero_le _⟩]; rfl
 have hrP : dRun_P (still s) [((0 : Int), ((logOf done 200).1, (behind, ()))), ((1 : Int), ((0 : Int), (([] : List Page), ())))] = true := by
  refine run_iff.2 ⟨by show s.length ≤ _; omega, Nat.zero_le _, by simp, ?_⟩
  show behind.length + (0 + 0) ≤ _
  omega
 have hdP : dRead_P (still s2) (logOf done 200).1 ((rest2.length : Nat) : Int) = true := small_iff.2 ⟨by show s2.length ≤ _; omega, Nat.zero_le _⟩
 rw [d0, d2, hsub, hrv, hre, hnum, hs0, hs1, hscP, hoP, hrP, hdP, show lOpen_r2 (still s2) = 0 from o1, show lOpen_r0 (still s2) = _ from o2, show lOpen_r1 (still s2) = _ from o3]
 have hal : (done ++ (scanF rest2.length rest2 ((done.length : Int) + 1)).1).length = done.length + (scanF rest2.length rest2 ((done.length : Int) + 1)).1.length := List.length_append
 refine bif_eqt rfl (bif_eqt rfl (bif_eqt rfl (bif_eqt rfl (bif_eqf rfl (bif_eqf rfl (bif_eqf rfl (bif_eqt ?_ (bif_eqt (le_big (by omega)) (bif_eqt (tt ⟨by omega, by omega⟩) (bif_eqt (tt rfl) rfl))))))))))
 rw [e0, show (logOf done 200).2.1 = (done.length : Int) from rfl, show (logOf done 200).2.2.1 = 200 from rfl, addI_eq (by omega) (by omega), addI_eq (by omega) (by omega), show ((1 + (logPs done 1).length : Nat) : Int) = 1 + ((logPs done 1).length : Int) by omega]
 exact beq_lgT _⟩
end Go.AI
