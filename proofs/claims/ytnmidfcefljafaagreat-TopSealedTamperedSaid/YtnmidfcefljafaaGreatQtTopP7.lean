/- Texts of the proof, joined: TopP7. -/
import Derived.Test.YtnmidfcefljafaaGreatQtG
import Derived.Test.YtnmidfcefljafaaGreatQtTopT
namespace Go.AI
open Go
structure ZLog (key : Bys) (n : Nat) (s : List Page) (done : List (List Rec)) : Prop where
 log : ∃ k, LogOk n s (pays key 1 done) (List.replicate k z16)
 ok : ∀ r, r ∈ done → TrOk key r
theorem ZLog.tr {key : Bys} {n : Nat} {s : List Page} {done : List (List Rec)} (h : ZLog key n s done) : TrLog key n s done := by
 obtain ⟨k, hk⟩ := h.log
 exact ⟨⟨_, hk⟩, h.ok⟩
theorem ZLog.fresh (key : Bys) (n : Nat) (h : 1 ≤ n) : ZLog key n (headP :: List.replicate (n - 1) z16) [] := ⟨⟨n - 1, fresh_log n h⟩, fun _ hx => nomatch hx⟩
theorem ZLog.run {key : Bys} {n : Nat} {s : List Page} {done : List (List Rec)} (h : ZLog key n s done) (h1 : 2 ≤ n) (h2 : n ≤ 8192) {r : List Rec} (hr : TrOk key r) (he : comE (lgT key done n) key r = 0) :
  runP (still s) (comO (lgT key done n) key r) = true ∧ comL (lgT key done n) key r = lgT key (done ++ [r]) n ∧ ∃ s' i, runD (still s) (comO (lgT key done n) key r) = (still s', (i, 0)) ∧ ZLog key n s' (done ++ [r]) := by
 have ht := h.tr
 have hf := ht.few
 obtain ⟨r1, r2, _, _, _, _⟩ := ht.run h1 h2 hr he
 obtain ⟨e1, e2, e3⟩ := ht.com h1 h2 hr
 obtain ⟨k, hl⟩ := h.log
 have hb := (hr.pay (c := ((1 + done.length : Nat) : Int)) (by omega)).2.1
 rw [e1] at he
 have hroom : needN (payV key ((1 + done.length : Nat) : Int) r).length + 1 ≤ (List.replicate k z16).length := by
  rcases hl.appE h1 h2 hb with ⟨_, b⟩ | ⟨a, _⟩
  ·exact b
  ·rw [a] at he; cases he
 obtain ⟨_, a2, _, _⟩ := app_run hl h1 h2 hb he
 obtain ⟨i, a4, a5⟩ := run_app hl h1 h2 hb hroom
 rw [List.drop_replicate, ← pays_snoc] at a4 a5
 refine ⟨r1, r2, _, i, by rw [e2, a2]; exact a4, ⟨⟨_, a5⟩, fun x hx => ?_⟩⟩
 rcases List.mem_append.1 hx with hx | hx
 ·exact h.ok x hx
 ·rw [List.mem_singleton.1 hx]; exact hr
theorem pm_loop {X : Type} (F : Nat) (fail : X) (ex0 ex1 : Bys → Bool → List (List Rec) → Int → Int → DK → LogT → DK → List (List Rec) → X) (key : Bys) (l : List (List Rec)) (s6 : Bool) (s4 : DK) (hl : l.length ≤ 1000) : ∀ (j m i : Nat) (s : List Page) (done : List (List Rec)), i + j = l.length → j ≤ m → done.length ≤ i → ZLog key 300 s done →
  ∃ s' done', ZLog key 300 s' done' ∧ done'.length ≤ l.length ∧ pmG key (l.drop i) (still s, (lgT key done 300, done)) = (still s', (lgT key done' 300, done')) ∧ pCommitted_l1F F fail ex0 ex1 (m + 1) key s6 l (l.length : Nat) i s4 (lgT key done 300) (still s) done = ex1 key s6 l (l.length : Nat) (l.length : Nat) s4 (lgT key done' 300) (still s') done'
 | 0, m, i, s, done, hi, _, hd, h => by
  refine ⟨s, done, h, by omega, ?_, ?_⟩
  ·rw [List.drop_eq_nil_of_le (by omega)]; rfl
  ·rw [pCommitted_l1F, pCommitted_l1, bif_false (ff (by omega)), show i = l.length by omega]
 | j + 1, 0, i, _, _, _, hm, _, _ => absurd hm (by omega)
 | j + 1, m + 1, i, s, done, hi, hm, hd, h => by
  have ih := fun s' done' => pm_loop F fail ex0 ex1 key l s6 s4 hl j m (i + 1) s' done' (by omega) (by omega)
  have hlt : i < l.length := by omega
  have nx : addI (i : Int) 1 = ((i + 1 : Nat) : Int) := by rw [addI_eq (by omega) (by omega), nat1]
  rw [drop_cons ([] : List Rec) hlt, pmG]
  by_cases c0 : comE (lgT key done 300) key (l.getD i []) = 0
  ·have hx := com_tr c0
   obtain ⟨r1, r2, s1, q, r3, r4⟩ := h.run (by omega) (by omega) hx c0
   have hl1 : (done ++ [l.getD i []]).length = done.length + 1 := by rw [List.length_append, List.length_singleton]
   obtain ⟨s', done', i1, i2, i3, i4⟩ := ih s1 (done ++ [l.getD i []]) (by omega) r4
   refine ⟨s', done', i1, i2, ?_, ?_⟩
   ·show (if comE (lgT key done 300) key (l.getD i []) = 0 then pmG key _ ((runD (still s) (comO (lgT key done 300) key (l.getD i []))).1, (comL (lgT key done 300) key (l.getD i []), done ++ [l.getD i []])) else _) = _
    rw [if_pos c0, r2, r3]
    exact i3
   ·have d0 : dRun_r0 (still s) (tCommit_r1 (lgT key done 300) key (l.getD i [])) = still s1 := by
     show (runD (still s) (comO (lgT key done 300) key (l.getD i []))).1 = _
     rw [r3]
    have d2 : (dRun_r2 (still s) (tCommit_r1 (lgT key done 300) key (l.getD i [])) != 0) = false := by
     show ((runD (still s) (comO (lgT key done 300) key (l.getD i []))).2.2 != 0) = false
     rw [r3]; rfl
    rw [pCommitted_l1F, pCommitted_l1, Int.toNat_natCast, nx, d0, show tCommit_r0 (lgT key done 300) key (l.getD i []) = lgT key (done ++ [l.getD i []]) 300 from r2]
    exact bif_eqt (tt (by omega)) (bif_eqt (tt2 (by omega) (by omega)) (bif_eqt rfl (bif_eqf (bne_f c0) (bif_eqt r1 (bif_eqf d2 (bif_eqt (le_big (by omega)) i4))))))
  ·obtain ⟨s', done', i1, i2, i3, i4⟩ := ih s done (by omega) h
   refine ⟨s', done', i1, i2, ?_, ?_⟩
   ·show (if comE (lgT key done 300) key (l.getD i []) = 0 then _ else pmG key _ (still s, (lgT key done 300, done))) = _
    rw [if_neg c0]
    exact i3
   ·rw [pCommitted_l1F, pCommitted_l1, Int.toNat_natCast, nx]
    exact bif_eqt (tt (by omega)) (bif_eqt (tt2 (by omega) (by omega)) (bif_eqt rfl (bif_eqt (bne_t c0) i4)))
theorem pm_ok (key : Bys) (l : List (List Rec)) (hl : l.length ≤ 1000) : ∃ s' done', ZLog key 300 s' done' ∧ done'.length ≤ l.length ∧ pCommitted_r0 key l = still s' ∧ pCommitted_r1 key l = done' := by
 obtain ⟨s', done', h1, h2, h3, _⟩ := pm_loop (X := Unit) 0 () (fun _ _ _ _ _ _ _ _ _ => ()) (fun _ _ _ _ _ _ _ _ _ => ()) key l false dk0 hl l.length l.length 0 (headP :: List.replicate 299 z16) [] (by omega) (by omega) (Nat.zero_le _) (ZLog.fresh key 300 (by omega))
 rw [List.drop_zero] at h3
 exact ⟨s', done', h1, h2, congrArg Prod.fst h3, congrArg (fun x => x.2.2) h3⟩
theorem pCommitted_plain (key : Bys) (l : List (List Rec)) (h : pCommitted_P key l = true) : ∃ F, ∀ {X : Type} (fail : X) (ret : DK → List (List Rec) → Bool → X), pCommitted F key l fail ret = ret (pCommitted_r0 key l) (pCommitted_r1 key l) (pCommitted_r2 key l) := ⟨l.length + 1, fun fail ret => by
 have hl : l.length ≤ 1000 := of_decide_eq_true h
 obtain ⟨b1, b2, b3, b4, b5, b6⟩ := begin_valsT 300 (by omega) (by omega)
 rw [show ((300 : Nat) : Int) = 300 from rfl] at b1 b2 b3 b4 b5 b6
 have eB : begT 300 = still (headP :: List.replicate 299 z16) := rfl
 have eL : ((1, (0, (300, ()))) : LogT) = lgT key [] 300 := rfl
 have hz := ZLog.fresh key 300 (by omega)
 rw [show 300 - 1 = 299 from rfl] at hz
 have hS : pmS key l = pmG key l (begT 300, ((1, (0, (300, ()))), [])) := rfl
 unfold pCommitted
 rw [b1, b2, b3, b4, b5, b6]
 unfold pCommitted_r0 pCommitted_r1
 rw [hS, eB, eL]
 generalize (headP :: List.replicate 299 z16 : List Page) = s0 at hz ⊢
 refine bif_eqt rfl (bif_eqt rfl (bif_eqt rfl (bif_eqf rfl (bif_eqf rfl (bif_eqf rfl ?_)))))
 obtain ⟨s', done', h1, h2, h3, h4⟩ := pm_loop (l.length + 1) fail (fun _ s6 _ _ _ s4 _ _ _ => ret s4 [] s6) (fun _ _ _ _ _ _ _ d done => ret d done true) key l false dk0 hl l.length l.length 0 s0 [] (by omega) (by omega) (Nat.zero_le _) hz
 rw [List.drop_zero] at h3
 rw [h3]
 exact h4⟩
theorem pfew_loop {X : Type} (F : Nat) (fail : X) (ex0 ex1 : List (List Rec) → Bool → Int → X) (K : Bool → X) (l : List (List Rec)) (h0 : ∀ i, ex0 l false i = K false) (h1 : ∀ e i, ex1 l e i = K (decide ((l.length : Int) ≤ 6))) : ∀ (j m i : Nat) (s2 : Bool), i + j = 6 → j ≤ m →
  pFew_l1F F fail ex0 ex1 (m + 1) l s2 i = K (((l.drop i).take j).all fewR && decide (l.length ≤ 6))
 | 0, m, i, s2, hi, _ => by
  have e : decide ((l.length : Int) ≤ 6) = decide (l.length ≤ 6) := decide_eq_decide.2 (by omega)
  rw [pFew_l1F, pFew_l1, List.take_zero, List.all_nil, Bool.true_and, ← e]
  by_cases c : (i : Int) < (l.length : Int)
  ·rw [bif_true (tt c), bif_false (ff (by omega)), h1]
  ·rw [bif_false (ff c), h1]
 | j + 1, 0, i, _, _, hm => absurd hm (by omega)
 | j + 1, m + 1, i, s2, hi, hm => by
  have ih := pfew_loop F fail ex0 ex1 K l h0 h1 j m (i + 1) s2 (by omega) (by omega)
  have e : decide ((l.length : Int) ≤ 6) = decide (l.length ≤ 6) := decide_eq_decide.2 (by omega)
  rw [pFew_l1F, pFew_l1, Int.toNat_natCast, addI_eq (by omega) (by omega), nat1]
  by_cases c : i < l.length
  ·rw [bif_true (tt (by omega)), bif_true (tt (by omega)), bif_true (tt2 (by omega) (by omega)), bif_true (c := uFew_P _) rfl, drop_cons ([] : List Rec) c, List.take_succ_cons, List.all_cons, show uFew_r (l.getD i []) = fewR (l.getD i []) from rfl]
   cases fewR (l.getD i []) with
   | false => rw [bif_true (c := !false) rfl, h0]; rfl
   | true => rw [bif_false (c := !true) rfl, ih]; rfl
  ·rw [bif_false (ff (by omega)), h1, List.drop_eq_nil_of_le (by omega), e]; rfl
theorem pFew_plain (l : List (List Rec)) (_ : pFew_P l = true) : ∃ F, ∀ {X : Type} (fail : X) (ret : Bool → X), pFew F l fail ret = ret (pFew_r l) := ⟨7, fun fail ret => by
 unfold pFew pFew_r
 refine (pfew_loop 7 fail _ _ ret l (fun _ => rfl) (fun _ _ => rfl) 6 6 0 false (by omega) (by omega)).trans ?_
 rw [List.drop_zero]
 by_cases c : l.length ≤ 6
 ·rw [List.take_of_length_le c]
 ·rw [ff c, Bool.and_false, Bool.and_false]⟩
theorem tampered {key : Bys} (hk : key ≠ []) (hk2 : key.length ≤ 64) {s : List Page} {done : List (List Rec)} (h : ZLog key 300 s done) {p a : Nat} (hp : p < 300) (ha : a < 16) {y : UInt8} (hy : y ≠ (s.getD p z16).getD a 0) :
  (repE (still (s.set p ((s.getD p z16).set a y))) key ≠ 0 ∧ repV (still (s.set p ((s.getD p z16).set a y))) key = []) ∨ ∃ m, m ≤ done.length ∧ repE (still (s.set p ((s.getD p z16).set a y))) key = 0 ∧ repV (still (s.set p ((s.getD p z16).set a y))) key = done.take m := by
 have hf := h.tr.few
 obtain ⟨k, hl⟩ := h.log
 have hz := hl.size
 rw [List.length_replicate] at hz
 have herr : ∀ {d : DK}, repE d key ≠ 0 → repV d key = [] := fun h => if_neg h
 have hsl : (s.set p ((s.getD p z16).set a y)).length = 300 := by rw [List.length_set]; exact hl.len
 have hok : okD (still (s.set p ((s.getD p z16).set a y))) = true := still_ok (by omega) (by omega)
 have hc := okD_chk.1 hok
 by_cases p0 : p = 0
 ·
  subst p0
  left
  have hs0 : s = headP :: (logPs (pays key 1 done) 1 ++ List.replicate k z16) := hl.eq
  have hE : opE (still (s.set 0 ((s.getD 0 z16).set a y))) = 3 := by
   unfold opE
   rw [if_pos hc, if_neg (by show ¬ (s.set 0 _).length < 2; omega), if_neg]
   intro e
   have e2 : ((s.getD 0 z16).set a y) = headP := by
    rw [← e]
    show _ = (s.set 0 ((s.getD 0 z16).set a y)).getD 0 z16
    rw [getD_setE (by rw [hl.len]; omega)]
   apply hy
   have e3 : s.getD 0 z16 = headP := by rw [hs0]; rfl
   have : ((s.getD 0 z16).set a y).getD a 0 = (s.getD 0 z16).getD a 0 := by rw [e2, e3]
   rwa [getD_setE (by rw [e3]; exact ha)] at this
  have hE' : repE (still (s.set 0 ((s.getD 0 z16).set a y))) key ≠ 0 := by rw [(rep_err (by rw [hE]; decide) key).1, hE]; decide
  exact ⟨hE', herr hE'⟩
 ·
  obtain ⟨q, rfl⟩ : ∃ q, p = q + 1 := ⟨p - 1, by omega⟩
  have hs0 : s = headP :: (logPs (pays key 1 done) 1 ++ List.replicate k z16) := hl.eq
  have hg : s.getD (q + 1) z16 = (logPs (pays key 1 done) 1 ++ List.replicate k z16).getD q z16 := by rw [hs0]; rfl
  have hset : ∀ P : Page, s.set (q + 1) P = headP :: (logPs (pays key 1 done) 1 ++ List.replicate k z16).set q P := fun P => by rw [hs0]; rfl
  have hpl := pays_len key done 1
  have hE : opE (still (s.set (q + 1) ((s.getD (q + 1) z16).set a y))) = 0 := by
   unfold opE
   rw [if_pos hc, if_neg (by show ¬ (s.set (q + 1) _).length < 2; omega), if_pos]
   show (s.set (q + 1) _).getD 0 z16 = headP
   rw [hset]; rfl
  have hB : opB (still (s.set (q + 1) ((s.getD (q + 1) z16).set a y))) = (scanF 299 ((logPs (pays key 1 done) 1 ++ List.replicate k z16).set q ((s.getD (q + 1) z16).set a y)) 1).1 := by
   unfold opB
   rw [if_pos hE]
   show (scanP (s.set (q + 1) ((s.getD (q + 1) z16).set a y)).tail 1).1 = _
   unfold scanP
   rw [if_pos (by omega), List.length_tail, hsl, hset]; rfl
  have hfirst : ∃ m, m ≤ done.length ∧ (opB (still (s.set (q + 1) ((s.getD (q + 1) z16).set a y))) = (pays key 1 done).take m ∨ ∃ b' t, opB (still (s.set (q + 1) ((s.getD (q + 1) z16).set a y))) = (pays key 1 done).take m ++ b' :: t ∧ m < done.length ∧ BadB ((pays key 1 done).getD m []) b') := by
   rw [hB]
   by_cases hq : q < (logPs (pays key 1 done) 1).length
   ·have hg2 : s.getD (q + 1) z16 = (logPs (pays key 1 done) 1).getD q z16 := by rw [hg]; simp only [List.getD, List.getElem?_append_left hq]
    rw [hg2] at hy ⊢
    obtain ⟨m, m1, m2⟩ := log_bad hl.quiet (pays key 1 done) 1 299 q a y hl.short (by omega) (by omega) hq ha hy
    rw [show ((1 : Nat) : Int) = 1 from rfl] at m2
    refine ⟨m, by omega, ?_⟩
    rcases m2 with m2 | ⟨b', t, m2, hBd⟩
    ·exact .inl m2
    ·exact .inr ⟨b', t, m2, by omega, hBd⟩
   ·refine ⟨done.length, Nat.le_refl _, .inl ?_⟩
    have hg2 : s.getD (q + 1) z16 = z16 := by
     rw [hg]
     simp only [List.getD, List.getElem?_append_right (show (logPs (pays key 1 done) 1).length ≤ q by omega)]
     rw [List.getElem?_replicate, if_pos (by omega)]; rfl
    rw [hg2, List.set_append_right _ _ (by omega)]
    have := scan_logs (pays key 1 done) 299 1 ((List.replicate k z16).set (q - (logPs (pays key 1 done) 1).length) (z16.set a y)) hl.short (by omega) (by omega)
    rw [show ((1 : Nat) : Int) = 1 from rfl] at this
    rw [this]
    have hnone : ∀ n, scanF n ((List.replicate k z16).set (q - (logPs (pays key 1 done) 1).length) (z16.set a y)) ((1 + (pays key 1 done).length : Nat) : Int) = ([], (List.replicate k z16).set (q - (logPs (pays key 1 done) 1).length) (z16.set a y))
     | 0 => rfl
     | n + 1 => by rw [scanF, zero_read (by omega)]
    rw [hnone, List.append_nil, List.take_of_length_le (by omega)]
  obtain ⟨m, m1, m2⟩ := hfirst
  have hrk := rep_key hE (key := key) (by omega)
  rcases rep_first hk h.ok (by omega) m1 m2 with e | e
  ·left
   have hE' : repE (still (s.set (q + 1) ((s.getD (q + 1) z16).set a y))) key ≠ 0 := by rw [hrk]; exact e
   exact ⟨hE', herr hE'⟩
  ·right
   have hE' : repE (still (s.set (q + 1) ((s.getD (q + 1) z16).set a y))) key = 0 := by rw [hrk, e]
   refine ⟨m, m1, hE', ?_⟩
   unfold repV
   rw [if_pos hE', e]
def TopSealedTampered_P (_ : Bys) (_ : List (List Rec)) (_ : List UInt8) : Bool := true
def TopSealedTampered_r (_ : Bys) (_ : List (List Rec)) (_ : List UInt8) : Bool := true
theorem TopSealedTampered_plain (key : Bys) (l : List (List Rec)) (at_ : List UInt8) (_ : TopSealedTampered_P key l at_ = true) : ∃ F, ∀ {X : Type} (fail : X) (ret : Bool → X), TopSealedTampered F key l at_ fail ret = ret (TopSealedTampered_r key l at_) := ⟨0, fun fail ret => by
 unfold TopSealedTampered
 refine bif_eqt rfl ?_
 cases hf : pFew_r l with
 | false => rfl
 | true =>
 have hl : l.length ≤ 6 := by
  unfold pFew_r at hf
  rw [Bool.and_eq_true, decide_eq_true_eq] at hf
  exact hf.2
 refine bif_eqf rfl ?_
 by_cases c1 : (key.length : Int) = 0
 ·exact bif_eqt (beq_t c1) rfl
 by_cases c2 : (key.length : Int) > 64
 ·exact bif_eqf (beq_f c1) (bif_eqt (tt c2) rfl)
 by_cases c3 : (((at_.getD 2 0).toNat : Nat) : Int) = 0
 ·exact bif_eqf (beq_f c1) (bif_eqf (ff c2) (bif_eqt (beq_t c3) rfl))
 refine bif_eqf (beq_f c1) (bif_eqf (ff c2) (bif_eqf (beq_f c3) (bif_eqt (tt (by omega)) (bif_eqf rfl ?_))))
 have hk : key ≠ [] := fun e => by rw [e] at c1; exact c1 rfl
 obtain ⟨s, done, hz, hdl, e0, e1⟩ := pm_ok key l (by omega)
 have hfew := hz.tr.few
 have hp : remI (cvBI (at_.getD 0 0)) 60 = (((at_.getD 0 0).toNat % 60 : Nat) : Int) := by rw [cvBI_eq, remI_eq (by omega)]; rfl
 have ha : ((remB (at_.getD 1 0) 16).toNat : Nat) = (at_.getD 1 0).toNat % 16 := by
  have := rem16 (at_.getD 1 0)
  rw [cvBI_eq] at this; omega
 have hy := xor_ne ((s.getD ((at_.getD 0 0).toNat % 60) z16).getD ((at_.getD 1 0).toNat % 16) 0) (y := at_.getD 2 0) (by omega)
 rw [hp, ha, e0, e1, Int.toNat_natCast, show (still s).1 = s from rfl, show (still s).2.1 = [] from rfl]
 have hpl : (at_.getD 0 0).toNat % 60 < 60 := Nat.mod_lt _ (by omega)
 have hal : (at_.getD 1 0).toNat % 16 < 16 := Nat.mod_lt _ (by omega)
 generalize (at_.getD 0 0).toNat % 60 = p at hy hpl ⊢
 generalize (at_.getD 1 0).toNat % 16 = a at hy hal ⊢
 generalize xorB ((s.getD p z16).getD a 0) (at_.getD 2 0) = y at hy ⊢
 have ht := tampered hk (by omega) hz (p := p) (by omega) hal hy
 have hP : lOpen_P (still (s.set p ((s.getD p z16).set a y))) = true := by
  have h16 : pg16 s = true := by obtain ⟨k, hlo⟩ := hz.log; exact hlo.pg_all
  have h16p : ((s.getD p z16).set a y).length = 16 := by
   rw [List.length_set, getD_lt (by omega)]
   exact of_decide_eq_true (List.all_eq_true.1 h16 _ (List.getElem_mem _))
  unfold lOpen_P dk16
  rw [show pg16 (still (s.set p ((s.getD p z16).set a y))).1 = true from pg16_set h16 p h16p, small_iff.2 ⟨by show (s.set p _).length ≤ _; rw [List.length_set]; omega, Nat.zero_le _⟩]; rfl
 have hs := hz.tr.sam (by omega)
 refine bif_eqf (bne_f (by omega)) (bif_eqf rfl (bif_eqt (le_big (by omega)) (bif_eqt (tt2 (by omega) (by omega)) (bif_eqt (tt2 (by omega) (by omega)) (bif_eqt (tt2 (by omega) (by omega)) (bif_eqt (tt2 (by omega) (by omega)) (bif_eqt hP ?_)))))))
 have r1 : ∀ d : DK, tReplay_r1 d key = repV d key := fun _ => rfl
 have r2 : ∀ d : DK, tReplay_r2 d key = repE d key := fun _ => rfl
 change (bif tReplay_r2 (still (s.set p ((s.getD p z16).set a y))) key != 0 then ret (((tReplay_r1 (still (s.set p ((s.getD p z16).set a y))) key).length : Int) == 0) else bif decide (((tReplay_r1 (still (s.set p ((s.getD p z16).set a y))) key).length : Int) ≤ (done.length : Int)) then bif decide ((0 : Int) ≤ ((tReplay_r1 (still (s.set p ((s.getD p z16).set a y))) key).length : Int)) && decide (((tReplay_r1 (still (s.set p ((s.getD p z16).set a y))) key).length : Int) ≤ (done.length : Int)) then
  bif uSameAll_P (tReplay_r1 (still (s.set p ((s.getD p z16).set a y))) key) (done.take (tReplay_r1 (still (s.set p ((s.getD p z16).set a y))) key).length) then ret (uSameAll_r (tReplay_r1 (still (s.set p ((s.getD p z16).set a y))) key) (done.take (tReplay_r1 (still (s.set p ((s.getD p z16).set a y))) key).length)) else fail else fail else ret false) = ret true
 rw [r1, r2]
 rcases ht with ⟨t1, t2⟩ | ⟨m, t0, t1, t2⟩
 ·rw [t2]
  exact bif_eqt (bne_t t1) rfl
 ·have hml : (done.take m).length = m := by rw [List.length_take]; omega
  have hsm : samA (done.take m) = true := samA_of (fun r hr => (hz.ok r (List.mem_of_mem_take hr)).sam) (by omega)
  rw [t2, hml]
  refine bif_eqf (bne_f t1) (bif_eqt (tt (by omega)) (bif_eqt (tt2 (by omega) (by omega)) (bif_eqt (show (samA (done.take m) && samA (done.take m)) = true by rw [hsm]; rfl) (congrArg ret (show decide (done.take m = done.take m) = true from tt rfl)))))⟩
end Go.AI
