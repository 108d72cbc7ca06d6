/- Texts of the proof, joined: TopT. -/
import Derived.Test.YtnmidfcefljafaaGreatQtLogT2
import Derived.Test.YtnmidfcefljafaaGreatQtTopC
namespace Go.AI
open Go
def BadB (b b' : Bys) : Prop := (b'.length < b.length ∧ b' = b.take b'.length) ∨ (b.length < b'.length ∧ b'.take b.length = b ∧ b'.length ≤ 65536)
theorem read_at {ps : List Page} {p : Page} {r : List Page} (k1 : ∀ q, q ∈ ps → isDat q = true) (k2 : isDat p = false) (num : Int) :
  readP (ps ++ p :: r) num = none ∨ (okCom p num ps.length (payOf ps) = true ∧ readP (ps ++ p :: r) num = some ((payOf ps).take (fld p 8 4), r)) := by
 obtain ⟨e1, e2⟩ := tw_app k1 k2 (r := r)
 rcases readP_cases (ps ++ p :: r) num with ⟨_, e⟩ | ⟨p', r', hd, ⟨hk, e⟩ | ⟨_, e⟩⟩
 ·exact .inl e
 ·rw [e2] at hd
  cases hd
  rw [e1] at hk e
  exact .inr ⟨hk, e⟩
 ·exact .inl e
theorem pay_data {b : Bys} : payOf (dataPs b) = b ++ List.replicate (15 * needN b.length - b.length) 0 := by
 unfold dataPs
 exact payOf_datN _ _ (by unfold needN; omega)
theorem payOf_app (a b : List Page) : payOf (a ++ b) = payOf a ++ payOf b := by unfold payOf; rw [List.flatMap_append]
theorem blk_bad {b : Bys} (hb : b.length ≤ 65536) {c : Nat} (hc : c + 1 < 4294967296) {rest : List Page} (hr : noCom rest = true ∨ ∃ b2 r, rest = blk b2 (c + 1) ++ r) {q a : Nat} (hq : q < (blk b c).length) (ha : a < 16) {y : UInt8} (hy : y ≠ ((blk b c).getD q z16).getD a 0) :
  readP ((blk b c).set q (((blk b c).getD q z16).set a y) ++ rest) c = none ∨ ∃ b' r, readP ((blk b c).set q (((blk b c).getD q z16).set a y) ++ rest) c = some (b', r) ∧ BadB b b' := by
 have hl := blk_len b c
 have hdl := dataPs_len b
 have hn : b.length ≤ 15 * needN b.length ∧ 15 * needN b.length < b.length + 15 := by unfold needN; omega
 have hd : ∀ p, p ∈ dataPs b → isDat p = true := fun p hp => (datN_dat _ _ p hp).1
 by_cases h1 : (((blk b c).getD q z16).getD 0 0).toNat = 2 ∧ 8 ≤ a ∧ a < 12
 ·
  have hqe : q = (dataPs b).length := by
   by_cases hlt : q < (dataPs b).length
   ·have ep : (blk b c).getD q z16 = (dataPs b).getD q z16 := by unfold blk; simp only [List.getD, List.getElem?_append_left hlt]
    have := isDat_iff.1 (page_at hlt).1
    rw [ep] at h1; omega
   ·omega
  subst hqe
  have ep : (blk b c).getD (dataPs b).length z16 = comP b c := by
   unfold blk; simp only [List.getD, List.getElem?_append_right (Nat.le_refl _), Nat.sub_self]; rfl
  rw [ep] at hy ⊢
  have e : (blk b c).set (dataPs b).length ((comP b c).set a y) ++ rest = dataPs b ++ (comP b c).set a y :: rest := by
   unfold blk; rw [List.set_append_right _ _ (Nat.le_refl _), Nat.sub_self, List.append_assoc]; rfl
  rw [e]
  have hg : ((comP b c).set a y).getD 0 0 = 2 := by rw [getD_setN (by omega)]; rfl
  rcases read_at (r := rest) hd (show isDat ((comP b c).set a y) = false by unfold isDat; rw [hg]; rfl) (c : Int) with k | ⟨k, k2⟩
  ·exact .inl k
  ·refine .inr ⟨_, _, k2, ?_⟩
   have h16 : ((comP b c).set a y).length = 16 := by rw [List.length_set]; exact com_16 b c
   obtain ⟨m1, m2, m3, _, _⟩ := (okCom_iff h16 (data_16 b) hd (by omega)).1 k
   generalize hN : fld ((comP b c).set a y) 8 4 = N at m1 m2 m3 ⊢
   have hpl : (payOf (dataPs b)).length = 15 * needN b.length := by rw [payOf_len (data_16 b), hdl]
   have htl : ((payOf (dataPs b)).take N).length = N := by rw [List.length_take]; omega
   have hne : N ≠ b.length := fun e => by
    rw [e, pay_data, List.take_left' rfl] at m3
    apply hy
    rw [← m3, getD_setE (by rw [com_16]; omega)]
   rcases Nat.lt_or_gt_of_ne hne with hlt | hgt
   ·left
    refine ⟨by omega, ?_⟩
    rw [htl, pay_data, List.take_append_of_le_length (by omega)]
   ·right
    refine ⟨by omega, ?_, by omega⟩
    rw [List.take_take, Nat.min_eq_left (by omega), pay_data, List.take_left' rfl]
 by_cases h2 : (((blk b c).getD q z16).getD 0 0).toNat = 1 ∧ a = 0
 ·
  obtain ⟨h2, rfl⟩ := h2
  have hlt : q < (dataPs b).length := by
   by_cases hlt : q < (dataPs b).length
   ·exact hlt
   ·exfalso
    obtain rfl : q = (dataPs b).length := by omega
    have ep : (blk b c).getD (dataPs b).length z16 = comP b c := by
     unfold blk; simp only [List.getD, List.getElem?_append_right (Nat.le_refl _), Nat.sub_self]; rfl
    rw [ep] at h2
    exact absurd h2 (by show ¬ (2 : UInt8).toNat = 1; decide)
  have ep : (blk b c).getD q z16 = (dataPs b).getD q z16 := by unfold blk; simp only [List.getD, List.getElem?_append_left hlt]
  rw [ep] at hy h2 ⊢
  have hp16 := (page_at hlt).2
  have hy1 : y.toNat ≠ 1 := fun e => hy (UInt8.toNat_inj.1 (e.trans h2.symm))
  have hg : (((dataPs b).getD q z16).set 0 y).getD 0 0 = y := getD_setE (by omega) _ _
  have e : (blk b c).set q (((dataPs b).getD q z16).set 0 y) ++ rest = (dataPs b).take q ++ ((dataPs b).getD q z16).set 0 y :: ((dataPs b).drop (q + 1) ++ [comP b c] ++ rest) := by
   unfold blk
   rw [List.set_append_left _ _ hlt, List.set_eq_take_append_cons_drop, if_pos hlt]
   simp only [List.append_assoc, List.cons_append]
  rw [e]
  have hdt : ∀ p, p ∈ (dataPs b).take q → isDat p = true := fun p hp => hd p (List.mem_of_mem_take hp)
  have hndat : isDat (((dataPs b).getD q z16).set 0 y) = false := by
   cases h : isDat (((dataPs b).getD q z16).set 0 y) with
   | false => rfl
   | true => exact absurd (isDat_iff.1 h) (by rw [hg]; exact hy1)
  rcases read_at (r := (dataPs b).drop (q + 1) ++ [comP b c] ++ rest) hdt hndat (c : Int) with k | ⟨k, k2⟩
  ·exact .inl k
  ·refine .inr ⟨_, _, k2, ?_⟩
   left
   have h16t : pg16 ((dataPs b).take q) = true := List.all_eq_true.2 fun p hp => List.all_eq_true.1 (data_16 b) p (List.mem_of_mem_take hp)
   have htk : ((dataPs b).take q).length = q := by rw [List.length_take]; omega
   have hpt : payOf ((dataPs b).take q) = b.take (15 * q) := by
    have h3 := payOf_len h16t
    rw [htk] at h3
    have h4 : payOf (dataPs b) = payOf ((dataPs b).take q) ++ payOf ((dataPs b).drop q) := by rw [← payOf_app, List.take_append_drop]
    have h5 : payOf ((dataPs b).take q) = (payOf (dataPs b)).take (15 * q) := by rw [h4, List.take_left' h3]
    rw [h5, pay_data, List.take_append_of_le_length (by omega)]
   have hlen : ((payOf ((dataPs b).take q)).take (fld (((dataPs b).getD q z16).set 0 y) 8 4)).length ≤ 15 * q := by
    rw [hpt, List.length_take, List.length_take]; omega
   refine ⟨by omega, ?_⟩
   rw [hpt, List.take_take, List.length_take, List.take_eq_take_iff]
   omega
 ·exact .inl (blk_spoil hb hc hr hq ha hy h1 h2)
theorem log_bad {rest : List Page} (hquiet : noCom rest = true) : ∀ (done : List Bys) (c n q a : Nat) (y : UInt8), shortB done → done.length ≤ n → c + done.length < 4294967295 → q < (logPs done c).length → a < 16 → y ≠ ((logPs done c).getD q z16).getD a 0 →
  ∃ m, m < done.length ∧ ((scanF n ((logPs done c ++ rest).set q (((logPs done c).getD q z16).set a y)) (c : Int)).1 = done.take m ∨ ∃ b' t, (scanF n ((logPs done c ++ rest).set q (((logPs done c).getD q z16).set a y)) (c : Int)).1 = done.take m ++ b' :: t ∧ BadB (done.getD m []) b')
 | [], _, _, q, _, _, _, _, _, h, _, _ => absurd h (by simp [logPs])
 | b :: bs, _, 0, _, _, _, _, h, _, _, _, _ => absurd h (by simp)
 | b :: bs, c, n + 1, q, a, y, hs, hn, hc, hq, ha, hy => by
  have hb := hs b List.mem_cons_self
  rw [List.length_cons] at hn hc
  have hL : (logPs (b :: bs) c) = blk b c ++ logPs bs (c + 1) := rfl
  by_cases hlt : q < (blk b c).length
  ·have ep : (logPs (b :: bs) c).getD q z16 = (blk b c).getD q z16 := by rw [hL]; simp only [List.getD, List.getElem?_append_left hlt]
   rw [ep] at hy ⊢
   have e : (logPs (b :: bs) c ++ rest).set q (((blk b c).getD q z16).set a y) = (blk b c).set q (((blk b c).getD q z16).set a y) ++ (logPs bs (c + 1) ++ rest) := by
    rw [hL, List.append_assoc, List.set_append_left _ _ hlt]
   have hr : noCom (logPs bs (c + 1) ++ rest) = true ∨ ∃ b2 r, logPs bs (c + 1) ++ rest = blk b2 (c + 1) ++ r := by
    cases bs with
    | nil => exact .inl hquiet
    | cons b2 bs => exact .inr ⟨b2, logPs bs (c + 1 + 1) ++ rest, List.append_assoc ..⟩
   refine ⟨0, by simp, ?_⟩
   rcases blk_bad hb (by omega) hr hlt ha hy with k | ⟨b', r, k, hB⟩
   ·left; rw [e, scanF, k]; rfl
   ·right; rw [e, scanF, k]
    exact ⟨b', _, rfl, hB⟩
  ·have ep : (logPs (b :: bs) c).getD q z16 = (logPs bs (c + 1)).getD (q - (blk b c).length) z16 := by rw [hL]; simp only [List.getD, List.getElem?_append_right (show (blk b c).length ≤ q by omega)]
   rw [ep] at hy ⊢
   have hq' : q - (blk b c).length < (logPs bs (c + 1)).length := by rw [hL, List.length_append] at hq; omega
   obtain ⟨m, m1, m2⟩ := log_bad hquiet bs (c + 1) n (q - (blk b c).length) a y (fun x hx => hs x (List.mem_cons_of_mem _ hx)) (by omega) (by omega) hq' ha hy
   have e : ∀ P : Page, (logPs (b :: bs) c ++ rest).set q P = blk b c ++ (logPs bs (c + 1) ++ rest).set (q - (blk b c).length) P := fun P => by
    rw [hL, List.append_assoc, List.set_append_right _ _ (by omega)]
   refine ⟨m + 1, by rw [List.length_cons]; omega, ?_⟩
   rw [e, scanF, read_blk hb (by omega)]
   simp only
   rw [nat1]
   rcases m2 with m2 | ⟨b', t, m2, hB⟩
   ·left; rw [m2]; rfl
   ·right; rw [m2]
    exact ⟨b', t, rfl, hB⟩
theorem decG_app : ∀ (l : List Rec) (t : List UInt8) (out : List Rec), (∀ r, r ∈ l → (1 ≤ r.1 ∧ r.1 ≤ 4) ∧ r.2.1.length ≤ 65536) → t ≠ [] → decG l.length (l.flatMap encR1 ++ t) out = ([], 3)
 | [], t, out, _, ht => by
  have := List.length_pos_iff.2 ht
  show decG 0 ([] ++ t) out = _
  rw [decG, List.nil_append, if_neg (by omega)]
 | r :: l, t, out, h, ht => by
  have hr := h r List.mem_cons_self
  have e : (r :: l).flatMap encR1 ++ t = encR1 r ++ (l.flatMap encR1 ++ t) := by rw [List.flatMap_cons, List.append_assoc]
  rw [List.length_cons, decG, e, readN_one hr.1, readBytes_enc hr.2]
  rw [if_neg (by simp), if_pos hr.1, if_neg (by simp)]
  exact decG_app l t _ (fun x hx => h x (List.mem_cons_of_mem _ hx)) ht
theorem dec_app {l : List Rec} (h : chkR l = 0) {t : List UInt8} (ht : t ≠ []) : (decR (encR l ++ t)).2 ≠ 0 := by
 obtain ⟨hc, hg⟩ := chkR_lim h
 unfold decR
 by_cases c : (encR l ++ t).length > 65536
 ·rw [if_pos c]; decide
 have e : readN (encR l ++ t) = ((l.length : Int), l.flatMap encR1 ++ t, 0) := by
  unfold encR
  rw [numOf_id (by omega) (by omega), List.append_assoc]
  exact readN_enc (by omega) (by omega) _
 rw [if_neg c, e, if_neg (by simp), if_neg (by simp; omega)]
 have := decG_app l t [] (chkG_mem hg) ht
 rw [show ((l.length : Int)).toNat = l.length from Int.toNat_natCast _]
 rw [this]; decide
theorem dec_take {l : List Rec} (h : chkR l = 0) (hl : (encR l).length ≤ 65536) {m : Nat} (hm : m < (encR l).length) : (decR ((encR l).take m)).2 ≠ 0 := fun e => by
 obtain ⟨k1, k2, _⟩ := enc_dec e
 have hd : (encR l).drop m ≠ [] := fun e => by
  have := congrArg List.length e
  rw [List.length_drop, List.length_nil] at this; omega
 have h3 := dec_app k1 hd
 rw [k2, List.take_append_drop, dec_enc h hl] at h3
 exact h3 rfl
theorem bad_un {key : Bys} (hk : key ≠ []) {r : List Rec} (h : TrOk key r) {c : Int} (hc : 0 ≤ c ∧ c ≤ 9007199254740991) {b' : Bys} (hB : BadB (payV key c r) b') : (unB key c b').2 ≠ 0 := by
 obtain ⟨h1, h2⟩ := enc_ok h.enc
 rcases h.small with k | ⟨k, kl⟩
 ·exact absurd k hk
 obtain ⟨s1, s2, _, _⟩ := seal_open key c (encR r) k (inR_iff.2 hc) kl
 have hv : payV key c r = strS (key0 key) c (encR r) ++ tagS (key1 key) c (strS (key0 key) c (encR r)) := by
  rw [payV_key hk]; exact if_pos s1
 have hsl := strS_len (key0 key) c (encR r)
 have htl := tagS_len (key1 key) c (strS (key0 key) c (encR r))
 have hlen : (payV key c r).length = (encR r).length + 16 := by rw [payV_key hk]; exact s2
 by_cases ho : opeE key c b' = 0
 case neg => rw [unB_err hk ho]; exact ho
 rw [unB_ok hk ho]
 have h16 : 16 ≤ b'.length := by
  unfold opeE at ho
  rw [if_pos (use_iff.2 k)] at ho
  by_cases c1 : (b'.length : Int) > 65536
  ·rw [if_pos c1] at ho; cases ho
  rw [if_neg c1, if_pos (inR_iff.2 hc)] at ho
  by_cases c2 : b'.length < 16
  ·rw [if_pos c2] at ho; cases ho
  ·omega
 have hov : opeV key c b' = strS (key0 key) c (b'.take (b'.length - 16)) := if_pos ho
 rw [hov]
 rcases hB with ⟨g1, g2⟩ | ⟨g1, g2, g3⟩
 ·have e : b'.take (b'.length - 16) = (strS (key0 key) c (encR r)).take (b'.length - 16) := by
   have : b'.take (b'.length - 16) = (payV key c r).take (b'.length - 16) := by
    conv => lhs; rw [g2]
    rw [List.take_take, List.length_take]
    congr 1; omega
   rw [this, hv, List.take_append_of_le_length (by omega)]
  rw [e, strS_take, strS_twice]
  exact dec_take h1 h2 (by omega)
 ·have e : (b'.take (b'.length - 16)).take (encR r).length = strS (key0 key) c (encR r) := by
   rw [List.take_take, Nat.min_eq_left (by omega)]
   have : b'.take (encR r).length = (payV key c r).take (encR r).length := by
    rw [← g2, List.take_take, Nat.min_eq_left (by omega)]
   rw [this, hv, List.take_left' hsl]
  have e2 : (strS (key0 key) c (b'.take (b'.length - 16))).take (encR r).length = encR r := by rw [← strS_take, e, strS_twice]
  have hl3 := strS_len (key0 key) c (b'.take (b'.length - 16))
  have hl4 : (b'.take (b'.length - 16)).length = b'.length - 16 := by rw [List.length_take]; omega
  generalize strS (key0 key) c (b'.take (b'.length - 16)) = w at e2 hl3 ⊢
  rw [← List.take_append_drop (encR r).length w, e2]
  refine dec_app h1 fun e3 => ?_
  have := congrArg List.length e3
  rw [List.length_drop, List.length_nil] at this; omega
theorem repG_app (key : Bys) : ∀ (l : List (List Rec)) (c : Nat) (t : List Bys) (out : List (List Rec)), (∀ r, r ∈ l → TrOk key r) → c + l.length ≤ 9007199254740991 → repG key (c : Int) (pays key c l ++ t) out = repG key ((c + l.length : Nat) : Int) t (out ++ l)
 | [], c, t, out, _, _ => by rw [pays, List.nil_append, List.append_nil]; rfl
 | r :: l, c, t, out, h, hc => by
  rw [List.length_cons] at hc
  obtain ⟨_, _, e⟩ := (h r List.mem_cons_self).pay (c := (c : Int)) (by omega)
  rw [pays, List.cons_append, repG_ok (by rw [e]), e, nat1, repG_app key l (c + 1) t _ (fun x hx => h x (List.mem_cons_of_mem _ hx)) (by omega), List.append_assoc, List.length_cons, show c + 1 + l.length = c + (l.length + 1) by omega]; rfl
theorem pays_take (key : Bys) : ∀ (l : List (List Rec)) (c m : Nat), (pays key c l).take m = pays key c (l.take m)
 | [], _, m => by cases m <;> rfl
 | _ :: _, _, 0 => rfl
 | r :: l, c, m + 1 => by rw [pays, List.take_succ_cons, List.take_succ_cons, pays, pays_take key l (c + 1) m]
theorem pays_getD (key : Bys) : ∀ (l : List (List Rec)) (c m : Nat), m < l.length → (pays key c l).getD m [] = payV key ((c + m : Nat) : Int) (l.getD m [])
 | [], _, _, h => absurd h (by simp)
 | r :: l, c, 0, _ => rfl
 | r :: l, c, m + 1, h => by
  have := pays_getD key l (c + 1) m (by rw [List.length_cons] at h; omega)
  rw [show c + 1 + m = c + (m + 1) by omega] at this
  exact this
theorem rep_first {key : Bys} (hk : key ≠ []) {done : List (List Rec)} (hd : ∀ r, r ∈ done → TrOk key r) (hl : done.length ≤ 1000000) {bs : List Bys} {m : Nat} (hm : m ≤ done.length) (h : bs = (pays key 1 done).take m ∨ ∃ b' t, bs = (pays key 1 done).take m ++ b' :: t ∧ m < done.length ∧ BadB ((pays key 1 done).getD m []) b') :
  (repG key 1 bs []).2 ≠ 0 ∨ repG key 1 bs [] = (done.take m, 0) := by
 have hdt : ∀ r, r ∈ done.take m → TrOk key r := fun r hr => hd r (List.mem_of_mem_take hr)
 have hlt : (done.take m).length = m := by rw [List.length_take]; omega
 rcases h with rfl | ⟨b', t, rfl, hlt2, hB⟩
 ·right
  rw [pays_take]
  exact repG_pays key (done.take m) 1 [] hdt (by omega)
 ·left
  have hmem : done.getD m [] ∈ done := by rw [getD_lt hlt2]; exact List.getElem_mem _
  have e := repG_app key (done.take m) 1 (b' :: t) [] hdt (by omega)
  rw [hlt] at e
  rw [pays_take, show (1 : Int) = ((1 : Nat) : Int) from rfl, e]
  rw [pays_getD key done 1 m hlt2] at hB
  have hb := bad_un hk (hd _ hmem) (c := ((1 + m : Nat) : Int)) (by omega) hB
  rw [repG_err hb]
  exact hb
theorem zero_read {k j a : Nat} {y : UInt8} {num : Nat} (hn : 1 ≤ num) : readP ((List.replicate k z16).set j (z16.set a y)) (num : Int) = none := by
 rcases readP_cases ((List.replicate k z16).set j (z16.set a y)) (num : Int) with ⟨_, e⟩ | ⟨p, r, hd, ⟨hk, e⟩ | ⟨_, e⟩⟩
 ·exact e
 ·exfalso
  unfold okCom at hk
  rw [Bool.and_eq_true, decide_eq_true_eq] at hk
  obtain ⟨⟨k1, k2, _⟩, _⟩ := hk
  rcases List.mem_or_eq_of_mem_set (dw_mem _ hd) with hm | rfl
  ·rw [List.eq_of_mem_replicate hm] at k1
   exact absurd k1 (by decide)
  ·by_cases ha : a = 0
   ·subst ha
    have : fld (z16.set 0 y) 1 4 = 0 := rfl
    rw [this] at k2
    omega
   ·rw [getD_setN ha] at k1
    exact absurd k1 (by decide)
 ·exact e
end Go.AI
