/- What a disk holds after a chapter's own operations. -/
import Derived.Test.YtkafmananfiikaaDiskP5
namespace Go.AI
open Go

def bst (d : DK) (w : DWr) : DK := (stepD d (opW w)).1
def Ok8 (d : DK) : Prop := okD d = true ∧ d.1.length = 8
theorem bst_ok {d : DK} (h : Ok8 d) (w : DWr) : Ok8 (bst d w) := by
  obtain ⟨_, q1, q2⟩ := op_step h.1 h.2 w
  exact ⟨q1, q2⟩
theorem fold_ok : ∀ (l : List DWr) (d : DK), Ok8 d → Ok8 (l.foldl bst d)
  | [], _, h => h
  | w :: l, _, h => fold_ok l _ (bst_ok h w)
theorem go_fold : ∀ (l : List DWr) (d : DK) (i : Int), Ok8 d → (goD d (l.map opW) i).1 = l.foldl bst d
  | [], _, _, _ => rfl
  | w :: l, _, _, h => by
    obtain ⟨q0, _, _⟩ := op_step h.1 h.2 w
    rw [List.map_cons, go_cons, if_pos q0, List.foldl_cons]
    exact go_fold l _ _ (bst_ok h w)
theorem run_fold {d : DK} (h : Ok8 d) (l : List DWr) : (runD d (l.map opW)).1 = l.foldl bst d := by
  unfold runD; rw [if_pos h.1]; exact go_fold l d 0 h
theorem new8_ok : Ok8 (newD 8) := ⟨rfl, rfl⟩
theorem beh_fold (l : List DWr) : beh l = l.foldl bst (newD 8) := run_fold new8_ok l
theorem beh_ok8 (l : List DWr) : Ok8 (beh l) := by rw [beh_fold]; exact fold_ok l _ new8_ok

/- What is stored, what was written last, and what is pending at a place. -/
def sto (d : DK) (a : Nat) : Page := d.1.getD a z16
def las (d : DK) (a : Nat) : Page := (conS d).getD a z16
def pen (d : DK) (a : Nat) : List Page := (d.2.1.filter fun p => p.1 == (a : Int)).map fun p => p.2.1
def hits (w : DWr) (a : Nat) : Bool := !w.2.2.1 && decide (w.1.toNat % 8 = a)
theorem getD_set {α : Type} (l : List α) (i j : Nat) (v z : α) (h : j < l.length) : (l.set i v).getD j z = if i = j then v else l.getD j z := by
  rw [getD_lt (by rw [List.length_set]; exact h), getD_lt h, List.getElem_set]
theorem bst_sync (d : DK) {w : DWr} (h : w.2.2.1 = true) : bst d w = (conS d, ([], ())) := by
  unfold bst opW; rw [if_pos h]; rfl
theorem bst_write {d : DK} (hd : Ok8 d) {w : DWr} (h : w.2.2.1 = false) : bst d w = (d.1, (d.2.1 ++ [(((w.1.toNat % 8 : Nat) : Int), (pageV w.2.1, ()))], ())) := by
  have hf : fitD d ((w.1.toNat % 8 : Nat) : Int) 1 = true := fit_iff.2 (by have := hd.2; omega)
  unfold bst opW
  rw [h, if_neg (by decide)]
  show (if fitD d ((w.1.toNat % 8 : Nat) : Int) 1 then _ else _ : DK × Int).1 = _
  rw [hf]; rfl
theorem sync_vals (d : DK) {w : DWr} (h : w.2.2.1 = true) (a : Nat) : sto (bst d w) a = las d a ∧ las (bst d w) a = las d a ∧ pen (bst d w) a = [] := by
  rw [bst_sync d h]; exact ⟨rfl, rfl, rfl⟩
theorem write_vals {d : DK} (hd : Ok8 d) {w : DWr} (h : w.2.2.1 = false) (a : Nat) (ha : a < 8) : sto (bst d w) a = sto d a ∧ las (bst d w) a = (if w.1.toNat % 8 = a then pageV w.2.1 else las d a) ∧ pen (bst d w) a = (if w.1.toNat % 8 = a then pen d a ++ [pageV w.2.1] else pen d a) := by
  rw [bst_write hd h]
  refine ⟨rfl, ?_, ?_⟩
  · show (putS d.1 (d.2.1 ++ _)).getD a z16 = _
    rw [put_snoc, getD_set _ _ _ _ _ (by rw [putS_len, hd.2]; exact ha), Int.toNat_natCast]; rfl
  · show ((d.2.1 ++ _).filter _).map _ = _
    rw [List.filter_append, List.map_append]
    by_cases c : w.1.toNat % 8 = a
    · rw [if_pos c, List.filter_cons_of_pos (by simpa using by omega)]; rfl
    · rw [if_neg c, List.filter_cons_of_neg (by simpa using by omega)]; exact List.append_nil _
theorem las_step {d : DK} (hd : Ok8 d) (w : DWr) (a : Nat) (ha : a < 8) : las (bst d w) a = if hits w a then pageV w.2.1 else las d a := by
  unfold hits
  cases hw : w.2.2.1 with
  | true => exact (sync_vals d hw a).2.1
  | false => rw [(write_vals hd hw a ha).2.1]; by_cases c : w.1.toNat % 8 = a <;> simp [c]
theorem put_keep (a n : Nat) (ha : a < n) : ∀ (l : List Pend) (s : List Page), s.length = n → (l.filter fun p => p.1 == (a : Int)) = [] → (∀ p, p ∈ l → 0 ≤ p.1) → (putS s l).getD a z16 = s.getD a z16
  | [], _, _, _, _ => rfl
  | p :: l, s, hs, hf, h0 => by
    have hp : ¬ p.1 = (a : Int) := fun e => by rw [List.filter_cons_of_pos (by simpa using e)] at hf; cases hf
    rw [List.filter_cons_of_neg (by simpa using hp)] at hf
    show (putS (s.set p.1.toNat p.2.1) l).getD a z16 = _
    have h00 := h0 p (List.mem_cons_self ..)
    rw [put_keep a n ha l _ (by rw [List.length_set]; exact hs) hf (fun q hq => h0 q (List.mem_cons_of_mem _ hq)), getD_set _ _ _ _ _ (by omega), if_neg (by omega)]
theorem las_con {d : DK} (hd : Ok8 d) (a : Nat) (ha : a < 8) (h : pen d a = []) : las d a = sto d a :=
  put_keep a 8 ha d.2.1 d.1 hd.2 (List.map_eq_nil_iff.1 h) (fun p hp => (okP_iff.1 (okD_iff.1 hd.1).2 p hp).1)

/- DiskReturns. -/
def lastW (a : Nat) (p : Page) (w : DWr) : Page := if hits w a then pageV w.2.1 else p
theorem las_fold (a : Nat) (ha : a < 8) : ∀ (l : List DWr) (d : DK), Ok8 d → las (l.foldl bst d) a = l.foldl (lastW a) (las d a)
  | [], _, _ => rfl
  | w :: l, d, h => by
    rw [List.foldl_cons, las_fold a ha l _ (bst_ok h w), las_step h w a ha]; rfl
theorem ret_loop {X : Type} (F : Nat) (fail : X) (ex : List DWr → UInt8 → Bool → Int → DK → Page → X) (l : List DWr) (at_ : UInt8) (ok : Bool) (d : DK) (hl : l.length ≤ 40) : ∀ (j m i : Nat) (want : Page), i + j = l.length → j ≤ m →
    DiskReturns_l1F F fail ex (m + 1) l at_ ok i d want = ex l at_ ok (l.length : Nat) d ((l.drop i).foldl (lastW (at_.toNat % 8)) want)
  | 0, m, i, want, hi, _ => by
    have e : i = l.length := by omega
    subst e
    rw [DiskReturns_l1F, DiskReturns_l1]
    rw [bif_false (ff (by omega)), List.drop_length]; rfl
  | j + 1, 0, i, _, _, hm => absurd hm (by omega)
  | j + 1, m + 1, i, want, hi, hm => by
    have ih := fun want' => ret_loop F fail ex l at_ ok d hl j m (i + 1) want' (by omega) (by omega)
    rw [DiskReturns_l1F, DiskReturns_l1]
    rw [Int.toNat_natCast, bif_true (tt (by omega)), bif_true (tt2 (by omega) (by omega)), bif_true (tt2 (by omega) (by omega)), bif_true (tt2 (by omega) (by omega)), addI_eq (by omega) (by omega), nat1, drop_cons ((0 : UInt8), ((0 : UInt8), (false, ()))) (show i < l.length by omega), List.foldl_cons, rem8N, rem8N, ih, ih]
    generalize l.getD i ((0 : UInt8), ((0 : UInt8), (false, ()))) = w
    unfold lastW hits
    cases hw : w.2.2.1 with
    | true => rfl
    | false =>
      rw [bif_true (c := !false) rfl]
      by_cases c : w.1.toNat % 8 = at_.toNat % 8
      · rw [bif_true (beq_t (by omega)), tt c]; rfl
      · rw [bif_false (beq_f (by omega)), ff c]; rfl
theorem read_one {d : DK} (h : Ok8 d) (a : Nat) (ha : a < 8) : readE d a 1 = 0 ∧ readV d a 1 = [las d a] := by
  have hf : fitD d a 1 = true := fit_iff.2 (by have := h.2; omega)
  unfold readE readV
  rw [h.1, hf]
  refine ⟨rfl, ?_⟩
  show ((conS d).drop (a : Int).toNat).take 1 = _
  rw [Int.toNat_natCast, drop_cons z16 (by rw [con_len, h.2]; exact ha)]; rfl
def DiskReturns_P (_ : List DWr) (_ : UInt8) : Bool := true
def DiskReturns_r (_ : List DWr) (_ : UInt8) : Bool := true
theorem ok8_small {l : List DWr} (hl : l.length ≤ 1000000) : smallD (beh l) = true := by
  have := beh_ok l
  exact small_iff.2 (by omega)
theorem las_new (a : Nat) (ha : a < 8) : las (newD 8) a = z16 := by
  have : ∀ a, a < 8 → las (newD 8) a = z16 := by decide
  exact this a ha
theorem DiskReturns_plain (l : List DWr) (at_ : UInt8) (_ : DiskReturns_P l at_ = true) : ∃ F, ∀ {X : Type} (fail : X) (ret : Bool → X), DiskReturns F l at_ fail ret = ret (DiskReturns_r l at_) := ⟨l.length + 1, fun fail ret => by
  unfold DiskReturns
  by_cases hl : (l.length : Int) > 40
  · rw [bif_true (tt hl)]; rfl
  rw [bif_false (ff hl), bif_true (c := lBehind_P l) (tt (by omega))]
  refine (ret_loop (l.length + 1) fail _ l at_ (lBehind_r1 l) (lBehind_r0 l) (by omega) l.length l.length 0 z16 (by omega) (Nat.le_refl _)).trans ?_
  have ha : at_.toNat % 8 < 8 := Nat.mod_lt _ (by omega)
  obtain ⟨r1, r2⟩ := read_one (beh_ok8 l) _ ha
  have hw : (l.drop 0).foldl (lastW (at_.toNat % 8)) z16 = las (beh l) (at_.toNat % 8) := by
    rw [List.drop_zero, beh_fold, las_fold _ ha l _ new8_ok, las_new _ ha]
  rw [hw, cv8]
  unfold dRead_r0 dRead_r1 lBehind_r0 lBehind_r1
  rw [bif_true (c := dRead_P _ _ _) (ok8_small (by omega)), r1, r2]
  show ret (beqT (.arr 16 (.int .u8)) (las (beh l) (at_.toNat % 8)) (las (beh l) (at_.toNat % 8))) = _
  rw [beqT_dec (.arr 16 (.int .u8)) rfl]
  exact congrArg ret (tt rfl)⟩
/- Crashes. -/
theorem vers_eq (d : DK) (a : Nat) : versD d (a : Int) = sto d a :: pen d a := by
  unfold versD; rw [Int.toNat_natCast]; rfl
theorem fold_mem (d : DK) (n a : Nat) (ha : a < n) : ∀ (pl : List Int) (s : List Int × List Page), (∀ p, p ∈ pl → 0 ≤ p) → s.2.length = n → s.2.getD a z16 ∈ versD d a → (pl.foldl (crStep d) s).2.getD a z16 ∈ versD d a
  | [], _, _, _, h => h
  | p :: pl, s, hp, hs, h => by
    rw [List.foldl_cons]
    refine fold_mem d n a ha pl _ (fun q hq => hp q (List.mem_cons_of_mem _ hq)) (by show (List.set _ _ _).length = _; rw [List.length_set]; exact hs) ?_
    show (List.set _ _ _).getD a z16 ∈ _
    have h0 := hp p (List.mem_cons_self ..)
    rw [getD_set _ _ _ _ _ (by omega)]
    by_cases c : p.toNat = a
    · have e : p = (a : Int) := by omega
      have hl := vers_len d.1 d.2.1 (a : Int)
      have hd := dec_range s.1 (versD d a).length (by rw [versD_eq]; exact hl.1)
      rw [if_pos c, e, getD_lt (by omega)]
      exact List.getElem_mem _
    · rw [if_neg c]; exact h
theorem firsts_pos {n : Nat} {l : List Pend} (ho : okP n l = true) (seen : List Int) : ∀ p, p ∈ firsts l seen → 0 ≤ p := fun p h => (has_ok ho (firsts_mem l seen p h)).1
theorem cr_mem {d : DK} (hd : Ok8 d) (ch : List Int) (a : Nat) (ha : a < 8) : (crGo d ch).2.getD a z16 ∈ sto d a :: pen d a := by
  rw [← vers_eq]
  exact fold_mem d 8 a ha _ _ (firsts_pos (okD_iff.1 hd.1).2 []) hd.2 (by rw [vers_eq]; exact List.mem_cons_self ..)
theorem crash_ok {d : DK} (hd : Ok8 d) (ch : List Int) : crashD d ch = (((crGo d ch).2, ([], ())), ((crGo d ch).1, 0)) := by
  unfold crashD; rw [if_pos hd.1]
theorem cr_len {d : DK} (hd : Ok8 d) (ch : List Int) : (crGo d ch).2.length = 8 := (fold_len d _ _).2.trans hd.2

/- DiskSurvives. -/
theorem sur_loop2 {X : Type} (F : Nat) (fail : X) (ex : List DWr → List Int → Bool → Int → Bool → Int → DK → DK → Page → Page → X) (l : List DWr) (ch : List Int) (s4 : Bool) (a : Nat) (ha : a < 8) (d x : DK) (hx : x.1.length = 8) (hl : l.length ≤ 40) : ∀ (j m i : Nat) (e : DK), Ok8 e → i + j = l.length → j ≤ m →
    DiskSurvives_l2F F fail ex (m + 1) l ch s4 a (decide (x.1.getD a z16 ∈ pen e a)) i d x (sto e a) (las e a) = ex l ch s4 a (decide (x.1.getD a z16 ∈ pen ((l.drop i).foldl bst e) a)) (l.length : Nat) d x (sto ((l.drop i).foldl bst e) a) (las ((l.drop i).foldl bst e) a)
  | 0, m, i, e, _, hi, _ => by
    have e : i = l.length := by omega
    subst e
    rw [DiskSurvives_l2F, DiskSurvives_l2]
    rw [bif_false (ff (by omega)), List.drop_length]; rfl
  | j + 1, 0, i, _, _, _, hm => absurd hm (by omega)
  | j + 1, m + 1, i, e, he, hi, hm => by
    have ih := fun w => sur_loop2 F fail ex l ch s4 a ha d x hx hl j m (i + 1) (bst e w) (bst_ok he w) (by omega) (by omega)
    rw [DiskSurvives_l2F, DiskSurvives_l2]
    rw [Int.toNat_natCast, bif_true (tt (by omega)), bif_true (tt2 (by omega) (by omega)), bif_true (tt2 (by omega) (by omega)), bif_true (tt2 (by omega) (by omega)), addI_eq (by omega) (by omega), nat1, drop_cons ((0 : UInt8), ((0 : UInt8), (false, ()))) (show i < l.length by omega), List.foldl_cons, cv8]
    generalize l.getD i ((0 : UInt8), ((0 : UInt8), (false, ()))) = w
    rw [← ih w]
    cases hw : w.2.2.1 with
    | true =>
      obtain ⟨v1, v2, v3⟩ := sync_vals e hw a
      rw [bif_true rfl, v1, v2, v3, ff (List.not_mem_nil)]
    | false =>
      obtain ⟨v1, v2, v3⟩ := write_vals he hw a ha
      rw [bif_false rfl, v1, v2, v3]
      by_cases c : w.1.toNat % 8 = a
      · rw [bif_true (beq_t (by omega)), if_pos c, if_pos c]
        by_cases k : x.1.getD a z16 ∈ pen e a
        · rw [bif_true (tt k), tt (List.mem_append_left _ k)]; rfl
        · rw [bif_false (ff k), Int.toNat_natCast, bif_true (tt2 (by omega) (by omega)), beqT_dec (.arr 16 (.int .u8)) rfl]
          have e1 : decide (x.1.getD a z16 ∈ pen e a ++ [pageV w.2.1]) = decide (x.1.getD a z16 = pageV w.2.1) := by
            by_cases q : x.1.getD a z16 = pageV w.2.1
            · rw [tt q, tt (List.mem_append_right _ (by rw [q]; exact List.mem_cons_self ..))]
            · rw [ff q, ff (fun h => by rcases List.mem_append.1 h with h | h; exact k h; exact q (List.mem_singleton.1 h))]
          rw [e1]; rfl
      · rw [bif_false (beq_f (by omega)), if_neg c, if_neg c]
theorem new_vals (a : Nat) (ha : a < 8) : sto (newD 8) a = z16 ∧ las (newD 8) a = z16 ∧ pen (newD 8) a = [] := by
  have h : ∀ a, a < 8 → sto (newD 8) a = z16 := by decide
  exact ⟨h a ha, las_new a ha, rfl⟩
theorem sur_loop1 {X : Type} (M : Nat) (fail : X) (ex0 ex1 : List DWr → List Int → Bool → Int → DK → DK → X) (l : List DWr) (ch : List Int) (s4 : Bool) (d x : DK) (hx : x.1.length = 8) (hl : l.length ≤ 40) (hM : l.length ≤ M) (hmem : ∀ a, a < 8 → x.1.getD a z16 ∈ sto (beh l) a :: pen (beh l) a) : ∀ (j m a : Nat), a + j = 8 → j ≤ m →
    DiskSurvives_l1F (M + 1) fail ex0 ex1 (m + 1) l ch s4 a d x = ex1 l ch s4 8 d x
  | 0, m, a, ha, _ => by
    have e : a = 8 := by omega
    subst e
    rw [DiskSurvives_l1F, DiskSurvives_l1]
    rw [bif_false (ff (by omega))]; rfl
  | j + 1, 0, a, _, hm => absurd hm (by omega)
  | j + 1, m + 1, a, ha, hm => by
    have ih := sur_loop1 M fail ex0 ex1 l ch s4 d x hx hl hM hmem j m (a + 1) (by omega) (by omega)
    obtain ⟨n1, n2, n3⟩ := new_vals a (by omega)
    rw [DiskSurvives_l1F, DiskSurvives_l1]
    rw [bif_true (tt (by omega))]
    have h2 := sur_loop2 (M + 1) fail (fun (l1 : List DWr) (choices1 : List Int) (s41 : Bool) (at_1 : Int) (allowed : Bool) (_ : Int) (d_1 : DK) (x_1 : DK) (stable : Page) (_ : Page) =>
        bif (!allowed) then
          bif ((decide ((0 : Int) ≤ at_1)) && (decide (at_1 < ((x_1.1.length : Nat) : Int)))) then
          bif (!(beqT (.arr 16 (.int .u8)) (List.getD x_1.1 (at_1).toNat z16) stable)) then
            ex0 l1 choices1 false at_1 d_1 x_1
          else
          DiskSurvives_l1F (M + 1) fail ex0 ex1 (m + 1) l1 choices1 s41 (addI at_1 (1 : Int)) d_1 x_1
          else fail
        else
        DiskSurvives_l1F (M + 1) fail ex0 ex1 (m + 1) l1 choices1 s41 (addI at_1 (1 : Int)) d_1 x_1) l ch s4 a (by omega) d x hx hl l.length M 0 (newD 8) new8_ok (by omega) (by omega)
    rw [n1, n2, n3, ff (List.not_mem_nil), List.drop_zero, ← beh_fold] at h2
    refine h2.trans ?_
    have hm := hmem a (by omega)
    simp only [addI_eq (a := (a : Int)) (b := 1) (by omega) (by omega), nat1, ih]
    by_cases k : x.1.getD a z16 ∈ pen (beh l) a
    · rw [tt k]; rfl
    · have e : x.1.getD a z16 = sto (beh l) a := by
        rcases List.mem_cons.1 hm with h | h
        · exact h
        · exact absurd h k
      rw [ff k, bif_true (c := !false) rfl, Int.toNat_natCast, bif_true (tt2 (by omega) (by omega)), beqT_dec (.arr 16 (.int .u8)) rfl, tt e]; rfl
def syOp : DOp := (1, (0, ([], ())))
theorem run_sync {d : DK} (h : Ok8 d) : runD d [syOp] = ((conS d, ([], ())), (1, 0)) := by
  unfold runD; rw [if_pos h.1]; rfl
theorem sync_ok {d : DK} (h : Ok8 d) : Ok8 (conS d, ([], ())) := by
  have := bst_ok h ((0 : UInt8), ((0 : UInt8), (true, ())))
  rwa [bst_sync d rfl] at this
def DiskSurvives_P (_ : List DWr) (_ : List Int) : Bool := true
def DiskSurvives_r (_ : List DWr) (_ : List Int) : Bool := true
theorem DiskSurvives_plain (l : List DWr) (ch : List Int) (_ : DiskSurvives_P l ch = true) : ∃ F, ∀ {X : Type} (fail : X) (ret : Bool → X), DiskSurvives F l ch fail ret = ret (DiskSurvives_r l ch) := ⟨l.length + 9, fun fail ret => by
  unfold DiskSurvives
  by_cases hl : (l.length : Int) > 40
  · rw [bif_true (tt hl)]; rfl
  rw [bif_false (ff hl)]
  by_cases hc : (ch.length : Int) > 60
  · rw [bif_true (tt hc)]; rfl
  have hb := beh_ok8 l
  have hs : smallD (beh l) = true := ok8_small (by omega)
  have hcp : ∀ {d : DK}, smallD d = true → dCrash_P d ch = true := fun h => cr_iff.2 ⟨small_iff.1 h, by omega⟩
  rw [bif_false (ff hc), bif_true (c := lBehind_P l) (tt (by omega)), bif_true (c := dCrash_P (lBehind_r0 l) ch) (hcp hs), bif_false (c := !(lBehind_r1 l)) rfl]
  unfold dCrash_r0 dCrash_r2 lBehind_r0
  rw [crash_ok hb, bif_false (c := (0 : Int) != 0) rfl, cr_len hb, bif_false (c := ((8 : Nat) : Int) != 8) rfl, bif_false (c := ((((((crGo (beh l) ch).2, ([], ())), ((crGo (beh l) ch).1, 0)) : DK × (List Int × Int)).1.2.1.length : Nat) : Int) != 0) rfl]
  refine (sur_loop1 (l.length + 8) fail _ _ l ch false (beh l) ((crGo (beh l) ch).2, ([], ())) (cr_len hb ch) (by omega) (by omega) (fun a ha => cr_mem hb ch a ha) 8 _ 0 rfl (by omega)).trans ?_
  have hso := sync_ok hb
  have hss : smallD (conS (beh l), ([], ())) = true := small_iff.2 ⟨by show (conS (beh l)).length ≤ _; rw [con_len]; exact (small_iff.1 hs).1, Nat.zero_le _⟩
  have hcs : crashD (conS (beh l), ([], ())) ch = ((conS (beh l), ([], ())), (ch, 0)) := crash_ok hso ch
  show (bif dRun_P (beh l) [syOp] then bif dCrash_P (runD (beh l) [syOp]).1 ch then bif law48_awake_r then bif (runD (beh l) [syOp]).2.2 == 0 then bif (crashD (runD (beh l) [syOp]).1 ch).2.2 == 0 then bif rSame_P (runD (beh l) [syOp]).1 (crashD (runD (beh l) [syOp]).1 ch).1 then bif rSame_r (runD (beh l) [syOp]).1 (crashD (runD (beh l) [syOp]).1 ch).1 then
    bif rSameInts_P (crashD (runD (beh l) [syOp]).1 ch).2.1 ch then ret (rSameInts_r (crashD (runD (beh l) [syOp]).1 ch).2.1 ch) else fail else ret false else fail else ret false else ret false else ret false else fail else fail) = _
  rw [run_sync hb, hcs]
  rw [bif_true (c := dRun_P (beh l) [syOp]) (run_iff.2 (by have := beh_ok l; exact ⟨by omega, by omega, by decide, by decide⟩)), bif_true (hcp hss), bif_true (c := rSame_P _ _) (same_P hss hss), bif_true (c := rSame_r _ _) (tt rfl), bif_true (c := rSameInts_P _ _) (tt (show ch.length ≤ _ ∧ ch.length ≤ _ by omega)), show rSameInts_r ch ch = true from tt rfl]
  rfl⟩

/- DiskParts. -/
theorem par_loop2 {X : Type} (F : Nat) (fail : X) (ex : List DWr → Bool → Int → Int → Bool → Int → DK → DK → List Page → X) (l : List DWr) (s6 : Bool) (a : Nat) (h : Int) (A x : DK) (want : List Page) (hl : l.length ≤ 40) : ∀ (j m i : Nat) (wr : Bool), i + j = l.length → j ≤ m →
    DiskParts_l2F F fail ex (m + 1) l s6 a h wr i A x want = ex l s6 a h (wr || (l.drop i).any fun w => hits w a) (l.length : Nat) A x want
  | 0, m, i, wr, hi, _ => by
    have e : i = l.length := by omega
    subst e
    rw [DiskParts_l2F, DiskParts_l2]
    rw [bif_false (ff (by omega)), List.drop_length, List.any_nil, Bool.or_false]
  | j + 1, 0, i, _, _, hm => absurd hm (by omega)
  | j + 1, m + 1, i, wr, hi, hm => by
    have ih := fun wr' => par_loop2 F fail ex l s6 a h A x want hl j m (i + 1) wr' (by omega) (by omega)
    rw [DiskParts_l2F, DiskParts_l2]
    rw [Int.toNat_natCast, bif_true (tt (by omega)), bif_true (tt2 (by omega) (by omega)), bif_true (tt2 (by omega) (by omega)), addI_eq (by omega) (by omega), nat1, drop_cons ((0 : UInt8), ((0 : UInt8), (false, ()))) (show i < l.length by omega), List.any_cons, ih, ih, ih, cv8]
    generalize l.getD i ((0 : UInt8), ((0 : UInt8), (false, ()))) = w
    cases wr with
    | true => rw [bif_true rfl, Bool.true_or, Bool.true_or]
    | false =>
      rw [bif_false rfl, Bool.false_or, Bool.false_or]
      unfold hits
      cases hw : w.2.2.1 with
      | true => rw [bif_false (c := !true) rfl]; rfl
      | false =>
        rw [bif_true (c := !false) rfl]
        have e : (((w.1.toNat % 8 : Nat) : Int) == (a : Int)) = decide (w.1.toNat % 8 = a) := by
          by_cases c : w.1.toNat % 8 = a
          · rw [beq_t (by omega), tt c]
          · rw [beq_f (by omega), ff c]
        rw [e]; rfl
theorem par_loop1 {X : Type} (M : Nat) (fail : X) (ex0 ex1 : List DWr → Bool → Int → DK → DK → X) (l : List DWr) (s6 : Bool) (A x : DK) (hA : Ok8 A) (hsA : smallD A = true) (hx : x.1.length = 8) (hl : l.length ≤ 40) (hM : l.length ≤ M) (hmem : ∀ a, a < 8 → (l.any fun w => hits w a) = false → x.1.getD a z16 = las A a) : ∀ (j m a : Nat), a + j = 8 → j ≤ m →
    DiskParts_l1F (M + 1) fail ex0 ex1 (m + 1) l s6 a A x = ex1 l s6 8 A x
  | 0, m, a, ha, _ => by
    have e : a = 8 := by omega
    subst e
    rw [DiskParts_l1F, DiskParts_l1]
    rw [bif_false (ff (by omega))]; rfl
  | j + 1, 0, a, _, hm => absurd hm (by omega)
  | j + 1, m + 1, a, ha, hm => by
    have ih := par_loop1 M fail ex0 ex1 l s6 A x hA hsA hx hl hM hmem j m (a + 1) (by omega) (by omega)
    obtain ⟨r1, r2⟩ := read_one hA a (by omega)
    rw [DiskParts_l1F, DiskParts_l1]
    rw [bif_true (tt (by omega)), bif_true (c := dRead_P A _ _) hsA]
    refine (par_loop2 (M + 1) fail _ l s6 a _ A x _ hl l.length M 0 false (by omega) (by omega)).trans ?_
    unfold dRead_r0 dRead_r1
    simp only [addI_eq (a := (a : Int)) (b := 1) (by omega) (by omega), nat1, ih, r1, r2, List.drop_zero, Bool.false_or, Int.toNat_natCast]
    rw [bif_false (c := (0 : Int) != 0) rfl, bif_false (c := (([las A a].length : Nat) : Int) != 1) rfl]
    cases hh : l.any fun w => hits w a with
    | true => rfl
    | false =>
      rw [bif_true (c := !false) rfl, bif_true (tt2 (by omega) (by omega)), bif_true (tt (by show (0 : Int) < ((1 : Nat) : Int); omega)), beqT_dec (.arr 16 (.int .u8)) rfl, tt (show x.1.getD a z16 = [las A a].getD 0 z16 from hmem a (by omega) hh)]; rfl
theorem quiet (a : Nat) (ha : a < 8) (c : Page) : ∀ (l : List DWr) (e : DK), Ok8 e → (l.any fun w => hits w a) = false → sto e a = c → las e a = c → pen e a = [] → sto (l.foldl bst e) a = c ∧ pen (l.foldl bst e) a = []
  | [], _, _, _, h1, _, h3 => ⟨h1, h3⟩
  | w :: l, e, he, hh, h1, h2, h3 => by
    rw [List.any_cons, Bool.or_eq_false_iff] at hh
    rw [List.foldl_cons]
    cases hw : w.2.2.1 with
    | true =>
      obtain ⟨v1, v2, v3⟩ := sync_vals e hw a
      exact quiet a ha c l _ (bst_ok he w) hh.2 (v1.trans h2) (v2.trans h2) v3
    | false =>
      obtain ⟨v1, v2, v3⟩ := write_vals he hw a ha
      have c0 : ¬ w.1.toNat % 8 = a := fun e => by have := hh.1; unfold hits at this; rw [hw, tt e] at this; cases this
      rw [if_neg c0] at v2 v3
      exact quiet a ha c l _ (bst_ok he w) hh.2 (v1.trans h1) (v2.trans h2) (v3.trans h3)
def DiskParts_P (_ _ : List DWr) (_ : List Int) : Bool := true
def DiskParts_r (_ _ : List DWr) (_ : List Int) : Bool := true
theorem DiskParts_plain (l m : List DWr) (ch : List Int) (_ : DiskParts_P l m ch = true) : ∃ F, ∀ {X : Type} (fail : X) (ret : Bool → X), DiskParts F l m ch fail ret = ret (DiskParts_r l m ch) := ⟨m.length + 9, fun fail ret => by
  unfold DiskParts
  by_cases hl : (l.length : Int) > 20
  · rw [bif_true (tt hl)]; rfl
  rw [bif_false (ff hl)]
  by_cases hm : (m.length : Int) > 20
  · rw [bif_true (tt hm)]; rfl
  rw [bif_false (ff hm)]
  by_cases hc : (ch.length : Int) > 60
  · rw [bif_true (tt hc)]; rfl
  rw [bif_false (ff hc)]
  have hb := beh_ok8 l
  have hbl := beh_ok l
  have hs : smallD (beh l) = true := ok8_small (by omega)
  have l1 : (l ++ m).length = l.length + m.length := List.length_append
  have l2 : (l ++ [((0 : UInt8), ((0 : UInt8), (true, ())))]).length = l.length + 1 := by rw [List.length_append]; rfl
  have l3 : ((l ++ [((0 : UInt8), ((0 : UInt8), (true, ())))]) ++ m).length = l.length + 1 + m.length := by rw [List.length_append, l2]
  have hrp : runP (beh l) (m.map opW) = true := op_P _ _ (by omega) (by omega) (by omega)
  obtain ⟨r0, r1, r2, r3, r4⟩ := op_run (d := beh l) hb.1 hb.2 m
  have hrf : (runD (beh l) (m.map opW)).1 = beh (l ++ m) := by rw [run_fold hb, beh_fold, beh_fold, List.foldl_append]
  have hs2 : smallD (beh (l ++ m)) = true := ok8_small (by omega)
  rw [bif_true (c := lBehind_P l) (tt (by omega)), bif_true (c := lOps_P m) (tt (by omega)), bif_true (c := dRun_P (lBehind_r0 l) (lOps_r m)) hrp, bif_true (le_big (by omega)), bif_true (le_big (by omega)), bif_true (c := lBehind_P (l ++ m)) (tt (by omega)),
    bif_false (c := !(lBehind_r1 l)) rfl, bif_false (c := !(lBehind_r1 (l ++ m))) rfl, bif_false (c := dRun_r2 (lBehind_r0 l) (lOps_r m) != 0) (bne_f r0), bif_false (c := dRun_r1 (lBehind_r0 l) (lOps_r m) != _) (bne_f r1),
    bif_true (c := rSame_P (dRun_r0 (lBehind_r0 l) (lOps_r m)) (lBehind_r0 (l ++ m))) (by show rSame_P (runD (beh l) (m.map opW)).1 (beh (l ++ m)) = true; rw [hrf]; exact same_P hs2 hs2),
    bif_false (c := !(rSame_r (dRun_r0 (lBehind_r0 l) (lOps_r m)) (lBehind_r0 (l ++ m)))) (by show (!(decide ((runD (beh l) (m.map opW)).1 = beh (l ++ m)))) = false; rw [tt hrf]; rfl),
    bif_true (le_big (by omega)), bif_true (le_big (by omega)), bif_true (le_big (by omega)), bif_true (c := dNew_P 8) rfl, bif_true (c := lOps_P _) (tt (by omega))]
  have hall : (runD (newD 8) (List.map opW ((l ++ [((0 : UInt8), ((0 : UInt8), (true, ())))]) ++ m))).1 = m.foldl bst (conS (beh l), ([], ())) := by
    rw [run_fold new8_ok, List.foldl_append, List.foldl_append, ← beh_fold]; rfl
  obtain ⟨q0, _⟩ := op_run (d := newD 8) rfl rfl ((l ++ [((0 : UInt8), ((0 : UInt8), (true, ())))]) ++ m)
  have hrp2 : runP (newD 8) (List.map opW ((l ++ [((0 : UInt8), ((0 : UInt8), (true, ())))]) ++ m)) = true := op_P _ _ (by decide) (by decide) (by omega)
  have hll : (lOps_r ((l ++ [((0 : UInt8), ((0 : UInt8), (true, ())))]) ++ m)).length = l.length + 1 + m.length := by unfold lOps_r; rw [List.length_map, l3]
  have hE := fold_ok m _ (sync_ok hb)
  have hint : intD (newD 8) (lOps_r ((l ++ [((0 : UInt8), ((0 : UInt8), (true, ())))]) ++ m)) ((((l ++ [((0 : UInt8), ((0 : UInt8), (true, ())))]) ++ m).length : Nat) : Int) ch = (((crGo (m.foldl bst (conS (beh l), ([], ()))) ch).2, ([], ())), ((crGo (m.foldl bst (conS (beh l), ([], ()))) ch).1, 0)) := by
    unfold intD
    rw [if_pos (show okD (newD 8) = true from rfl), if_pos ⟨Int.natCast_nonneg _, by rw [hll, l3]; exact Int.le_refl _⟩, Int.toNat_natCast, List.take_of_length_le (by rw [hll, l3]; exact Nat.le_refl _)]
    show (if (runD (newD 8) (List.map opW ((l ++ [((0 : UInt8), ((0 : UInt8), (true, ())))]) ++ m))).2.2 = 0 then crashD (runD (newD 8) (List.map opW ((l ++ [((0 : UInt8), ((0 : UInt8), (true, ())))]) ++ m))).1 ch else _) = _
    rw [if_pos q0, hall, crash_ok hE]
  unfold dInterrupt_r0 dInterrupt_r2 dNew_r0
  rw [hint, bif_true (c := dInterrupt_P (newD 8) (lOps_r _) _ ch) (int_iff.2 ⟨hrp2, by omega⟩), bif_false (c := dNew_r1 8 != 0) rfl, bif_false (c := (0 : Int) != 0) rfl, cr_len hE, bif_false (c := ((8 : Nat) : Int) != 8) rfl]
  exact par_loop1 (m.length + 8) fail _ _ m false (beh l) ((crGo (m.foldl bst (conS (beh l), ([], ()))) ch).2, ([], ())) hb hs (cr_len hE ch) (by omega) (by omega) (fun a ha hq => by
    obtain ⟨z1, z2⟩ := quiet a ha (las (beh l) a) m _ (sync_ok hb) hq rfl rfl rfl
    have hm := cr_mem hE ch a ha
    rw [z1, z2] at hm
    exact List.mem_singleton.1 hm) 8 _ 0 rfl (by omega)⟩
end Go.AI
