/- One byte that changed is found. -/
import Derived.Test.YtaobeghgcfbcfaaLogG5
import Derived.Test.YtaobeghgcfbcfaaLogT2
namespace Go.AI
open Go

def LogDetects_P (_ : List Bys) (_ : UInt8 × (UInt8 × (UInt8 × Unit))) : Bool := true
def LogDetects_r (_ : List Bys) (_ : UInt8 × (UInt8 × (UInt8 × Unit))) : Bool := true
def endsOf (done : List Bys) : List Int := (List.range (done.length + 1)).map fun k => (logOf (done.take k) 100).1
theorem endsOf_len (done : List Bys) : (endsOf done).length = done.length + 1 := by unfold endsOf; rw [List.length_map, List.length_range]
theorem endsOf_get (done : List Bys) {k : Nat} (h : k ≤ done.length) : (endsOf done).getD k 0 = 1 + ((logPs (done.take k) 1).length : Int) := by
  rw [getD_lt (by rw [endsOf_len]; omega)]
  unfold endsOf
  rw [List.getElem_map, List.getElem_range]; rfl
theorem endsOf_snoc (done : List Bys) (b : Bys) : endsOf (done ++ [b]) = endsOf done ++ [(logOf (done ++ [b]) 100).1] := by
  unfold endsOf
  rw [List.length_append, List.length_singleton, List.range_succ (n := done.length + 1), List.map_append]
  congr 1
  · refine List.map_congr_left fun k hk => ?_
    rw [List.mem_range] at hk
    rw [List.take_append_of_le_length (by omega)]
  · show [(logOf ((done ++ [b]).take (done.length + 1)) 100).1] = _
    rw [List.take_of_length_le (by rw [List.length_append, List.length_singleton]; omega)]
theorem det_loop {X : Type} (F : Nat) (fail : X) (ex0 : List Bys → Bool → Int → (UInt8 × (UInt8 × (UInt8 × Unit))) → DK → LogT → List Int → List Bys → X) (l : List Bys) (s4 : UInt8 × (UInt8 × (UInt8 × Unit))) (hl : l.length ≤ 20) (hs : ∀ x, x ∈ l → x.length ≤ 100) : ∀ (j m i : Nat) (s : List Page) (done : List Bys) (rest : List Page), i + j = l.length → j ≤ m → done.length ≤ i → LogOk 100 s done rest →
    ∃ s' done' rest' i', LogOk 100 s' done' rest' ∧ done'.length ≤ l.length ∧ LogDetects_l1F F fail ex0 (m + 1) l true i s4 (still s) (logOf done 100) (endsOf done) done = ex0 l true i' s4 (still s') (logOf done' 100) (endsOf done') done'
  | 0, m, i, s, done, rest, hi, _, hd, h => by
    refine ⟨s, done, rest, i, h, by omega, ?_⟩
    rw [LogDetects_l1F, LogDetects_l1]
    rw [bif_false (ff (by omega))]
  | j + 1, 0, i, _, _, _, _, hm, _, _ => absurd hm (by omega)
  | j + 1, m + 1, i, s, done, rest, hi, hm, hd, h => by
    have ih := fun s' done' rest' => det_loop F fail ex0 l s4 hl hs j m (i + 1) s' done' rest' (by omega) (by omega)
    have hb := hs (l.getD i []) (by rw [getD_lt (show i < l.length by omega)]; exact List.getElem_mem _)
    have ei : (decide ((0 : Int) ≤ (i : Int)) && decide ((i : Int) < ((l.length : Nat) : Int))) = true := tt2 (by omega) (by omega)
    rw [LogDetects_l1F, LogDetects_l1]
    rw [Int.toNat_natCast]
    generalize l.getD i [] = b at hb ⊢
    have hst : ∀ {A x : X}, A = x → (∃ s' done' rest' i', LogOk 100 s' done' rest' ∧ done'.length ≤ l.length ∧ x = ex0 l true i' s4 (still s') (logOf done' 100) (endsOf done') done') → ∃ s' done' rest' i', LogOk 100 s' done' rest' ∧ done'.length ≤ l.length ∧ A = ex0 l true i' s4 (still s') (logOf done' 100) (endsOf done') done' := fun e h => by rw [e]; exact h
    rcases h.appE (by omega) (by omega) (b := b) (by omega) with ⟨he, hr⟩ | ⟨he, hr⟩
    · obtain ⟨a1, a2, a3, s', rest', q, a4, a5⟩ := app_run h (by omega) (by omega) (b := b) (by omega) he
      refine hst ?_ (ih s' (done ++ [b]) rest' (by rw [List.length_append, List.length_singleton]; omega) a5)
      have e0 : ran_r0 (still s) (lAppend_r1 (logOf done 100) b) (lAppend_r2 (logOf done 100) b) = still s' := by
        show (runD (still s) (appO (logOf done 100) b)).1 = _
        rw [a4]
      have e1 : ran_r1 (still s) (lAppend_r1 (logOf done 100) b) (lAppend_r2 (logOf done 100) b) = true := by
        refine tt ⟨he, ?_⟩
        show (runD (still s) (appO (logOf done 100) b)).2.2 = 0
        rw [a4]
      have e2 : lAppend_r0 (logOf done 100) b = logOf (done ++ [b]) 100 := a3
      refine bif_eq_t (tt (by omega)) (bif_eq_t rfl (bif_eq_t ei (bif_eq_t rfl (bif_eq_f (by show (appE _ b == 11) = false; rw [he]; rfl) (bif_eq_t a1 (bif_eq_t (le_big (by rw [List.length_append, List.length_singleton, endsOf_len]; omega)) (bif_eq_t ei (bif_eq_t (le_big (by rw [List.length_append, List.length_singleton]; omega)) ?_))))))))
      rw [e0, e1, e2, addI_eq (by omega) (by omega), nat1, endsOf_snoc]
    · refine hst ?_ (ih s done rest (by omega) h)
      refine bif_eq_t (tt (by omega)) (bif_eq_t rfl (bif_eq_t ei (bif_eq_t rfl (bif_eq_t (by show (appE _ b == 11) = true; rw [he]; rfl) ?_))))
      rw [addI_eq (by omega) (by omega), nat1]
theorem bef_loop {X : Type} (F : Nat) (fail : X) (ex0 : Int → List Bys → Int → Int → List Int → List Bys → X) (page : Int) (pl : List Bys) (e : Int) (ends : List Int) (done : List Bys) (hl : ends.length ≤ 1000) (m : Nat) (hm : m < ends.length) (h1 : ∀ k, k ≤ m → ends.getD k 0 ≤ page) (h2 : m + 1 < ends.length → page < ends.getD (m + 1) 0) : ∀ (j f k : Nat), k + j = m → j ≤ f →
    LogDetects_l2F F fail ex0 (f + 1) page pl e (k : Int) ends done = ex0 page pl e (m : Int) ends done
  | 0, f, k, hk, _ => by
    obtain rfl : k = m := by omega
    rw [LogDetects_l2F, LogDetects_l2]
    rw [addI_eq (by omega) (by omega), nat1, Int.toNat_natCast]
    by_cases c : k + 1 < ends.length
    · have := h2 c
      exact bif_eq_t (tt (by omega)) (bif_eq_t (tt2 (by omega) (by omega)) (bif_eq_f (ff (by omega)) rfl))
    · exact bif_eq_f (ff (by omega)) rfl
  | j + 1, 0, _, _, h => absurd h (by omega)
  | j + 1, f + 1, k, hk, hf => by
    have ih := bef_loop F fail ex0 page pl e ends done hl m hm h1 h2 j f (k + 1) (by omega) (by omega)
    have := h1 (k + 1) (by omega)
    rw [LogDetects_l2F, LogDetects_l2]
    rw [addI_eq (by omega) (by omega), nat1, Int.toNat_natCast]
    exact bif_eq_t (tt (by omega)) (bif_eq_t (tt2 (by omega) (by omega)) (bif_eq_t (tt (by omega)) ih))
theorem bad_opens {s : List Page} {done : List Bys} {rest : List Page} (h : LogOk 100 s done rest) {q a : Nat} {y : UInt8} (hq : q < (logPs done 1).length) (hd : done.length ≤ 20) (ha : a < 16) (hy : y ≠ (s.getD (1 + q) z16).getD a 0)
    (h1 : ¬ (((s.getD (1 + q) z16).getD 0 0).toNat = 2 ∧ 8 ≤ a ∧ a < 12)) (h2 : ¬ (((s.getD (1 + q) z16).getD 0 0).toNat = 1 ∧ a = 0)) :
    lOpen_P (still (s.set (1 + q) ((s.getD (1 + q) z16).set a y))) = true ∧ opE (still (s.set (1 + q) ((s.getD (1 + q) z16).set a y))) = 0 ∧
    ∃ m, m < done.length ∧ opB (still (s.set (1 + q) ((s.getD (1 + q) z16).set a y))) = done.take m ∧ (∀ k, k ≤ m → (logPs (done.take k) 1).length ≤ q) ∧ q < (logPs (done.take (m + 1)) 1).length := by
  have hl := h.len
  have hz := h.size
  have hpg := h.pg_all
  have e1 : s.getD (1 + q) z16 = (logPs done 1).getD q z16 := by
    rw [h.eq, Nat.add_comm]
    show (logPs done 1 ++ rest).getD q z16 = _
    simp only [List.getD, List.getElem?_append_left hq]
  have hp16 := dat_len hpg (show 1 + q < s.length by omega)
  rw [e1] at hy h1 h2 hp16 ⊢
  obtain ⟨m, m1, m2, m3, m4⟩ := log_spoil h.quiet done 1 99 q a y h.short (by omega) (by omega) hq ha hy h1 h2
  have hp' : (((logPs done 1).getD q z16).set a y).length = 16 := by rw [List.length_set]; exact hp16
  generalize ((logPs done 1).getD q z16).set a y = p' at m2 hp' ⊢
  have es : s.set (1 + q) p' = headP :: (logPs done 1 ++ rest).set q p' := by
    rw [h.eq, Nat.add_comm]; rfl
  have hlen : (s.set (1 + q) p').length = 100 := by rw [List.length_set]; exact hl
  have hok : okD (still (s.set (1 + q) p')) = true := still_ok (by omega) (by omega)
  have hc := okD_chk.1 hok
  have hcon : conS (still (s.set (1 + q) p')) = s.set (1 + q) p' := rfl
  have hE : opE (still (s.set (1 + q) p')) = 0 := by
    unfold opE
    rw [if_pos hc, hcon, if_neg (by show ¬ (s.set (1 + q) p').length < 2; omega), if_pos (by rw [es]; rfl)]
  refine ⟨?_, hE, m, m1, ?_, m3, m4⟩
  · unfold lOpen_P dk16
    have h16 : pg16 (s.set (1 + q) p') = true := List.all_eq_true.2 fun p hm => by
      rcases List.mem_or_eq_of_mem_set hm with hm | rfl
      · exact List.all_eq_true.1 hpg p hm
      · exact tt hp'
    rw [show pg16 (still (s.set (1 + q) p')).1 = true from h16, small_iff.2 ⟨by show (s.set (1 + q) p').length ≤ _; omega, Nat.zero_le _⟩]; rfl
  · have et : (s.set (1 + q) p').tail.length = 99 := by rw [List.length_tail, hlen]
    unfold opB
    rw [if_pos hE, hcon]
    unfold scanP
    rw [if_pos (by omega), et, es]
    exact m2
theorem rem16 (a : UInt8) : cvBI (remB a 16) = ((a.toNat % 16 : Nat) : Int) := by
  rw [cvBI_eq]
  have e : remB a 16 = UInt8.ofNat ((a.toNat : Int).tmod (((16 : UInt8).toNat : Nat) : Int)).toNat := rfl
  have e2 : (a.toNat : Int).tmod (((16 : UInt8).toNat : Nat) : Int) = ((a.toNat % 16 : Nat) : Int) := by rw [Int.tmod_eq_emod_of_nonneg (by omega), show (16 : UInt8).toNat = 16 from rfl]; omega
  rw [e, e2, Int.toNat_natCast, UInt8.toNat_ofNat']; omega
theorem xor_ne (x : UInt8) {y : UInt8} (h : y.toNat ≠ 0) : xorB x y ≠ x := fun e => by
  rw [xorB_eq] at e
  have e2 := congrArg UInt8.toNat e
  rw [UInt8.toNat_xor, Nat.xor_comm] at e2
  have e3 : y.toNat ^^^ x.toNat = 0 ^^^ x.toNat := by rw [e2, Nat.zero_xor]
  exact h (xinj e3)
theorem LogDetects_plain (l : List Bys) (s : UInt8 × (UInt8 × (UInt8 × Unit))) (_ : LogDetects_P l s = true) : ∃ F, ∀ {X : Type} (fail : X) (ret : Bool → X), LogDetects F l s fail ret = ret (LogDetects_r l s) := ⟨l.length + 2, fun fail ret => by
  obtain ⟨sp, sa, sb, ⟨⟩⟩ := s
  unfold LogDetects
  rw [bif_true (c := lfew_P l) rfl]
  cases hw : lfew_r l with
  | false => rfl
  | true =>
    have h := lfew_mem hw
    rw [bif_false (c := !true) rfl]
    by_cases c : sb.toNat = 0
    · exact bif_eq_t (beq_t (by show ((sb.toNat : Nat) : Int) = 0; omega)) rfl
    refine bif_eq_f (beq_f (by show ¬ ((sb.toNat : Nat) : Int) = 0; omega)) (bif_eq_t (tt (by simp)) ?_)
    obtain ⟨s', done', rest', i', h1, h2, h3⟩ := det_loop (l.length + 2) fail _ l (sp, (sa, (sb, ()))) h.1 h.2 l.length (l.length + 1) 0 _ [] _ (by omega) (by omega) (by simp) (fresh_log 100 (by omega))
    refine h3.trans ?_
    have hz := h1.size
    have hl := h1.len
    have hX : (logOf done' 100).1 = 1 + ((logPs done' 1).length : Int) := rfl
    by_cases c2 : (logPs done' 1).length = 0
    · refine bif_eq_f rfl (bif_eq_t (tt (by omega)) (bif_eq_t rfl (bif_eq_t rfl ?_)))
      rw [hX, c2]; rfl
    refine bif_eq_f rfl (bif_eq_f (ff (by omega)) (bif_eq_f (ff (by show ¬ _ > ((s'.length : Nat) : Int); omega)) (bif_eq_f rfl ?_)))
    have hqlt : sp.toNat % (logPs done' 1).length < (logPs done' 1).length := Nat.mod_lt _ (by omega)
    have ex : subI (logOf done' 100).1 1 = ((logPs done' 1).length : Int) := by rw [subI_eq (by omega) (by omega)]; omega
    have ep : addI 1 (remI (cvBI sp) (subI (logOf done' 100).1 1)) = ((1 + sp.toNat % (logPs done' 1).length : Nat) : Int) := by
      rw [ex, cvBI_eq, remI_eq (by omega), addI_eq (by omega) (by omega)]; omega
    refine bif_eq_t (bne_t (by rw [ex]; omega)) ?_
    have halt : sa.toNat % 16 < 16 := Nat.mod_lt _ (by omega)
    simp only [ep, rem16, Int.toNat_natCast]
    generalize sp.toNat % (logPs done' 1).length = q at hqlt
    generalize sa.toNat % 16 = a at halt
    have hq : (decide ((0 : Int) ≤ ((1 + q : Nat) : Int)) && decide (((1 + q : Nat) : Int) < (((still s').1.length : Nat) : Int))) = true := tt2 (by omega) (by show _ < ((s'.length : Nat) : Int); omega)
    have ha : (decide ((0 : Int) ≤ (a : Int)) && decide ((a : Int) < ((16 : Nat) : Int))) = true := tt2 (by omega) (by omega)
    have fin : ¬ (((s'.getD (1 + q) z16).getD 0 0).toNat = 2 ∧ 8 ≤ a ∧ a < 12) → ¬ (((s'.getD (1 + q) z16).getD 0 0).toNat = 1 ∧ a = 0) →
      lOpen_P (s'.set (1 + q) ((s'.getD (1 + q) z16).set a (xorB ((s'.getD (1 + q) z16).getD a 0) sb)), ([], ())) = true ∧
      LogDetects_l2F (l.length + 2) fail
        (fun (_ : Int) (payloads : List Bys) (e_ : Int) (before : Int) (_ : List Int) (done : List Bys) =>
          bif (law49_awake_r) then
            bif (e_ == (0 : Int)) then
              bif (decide (before ≤ ((done.length : Nat) : Int))) then
                bif ((decide ((0 : Int) ≤ before)) && (decide (before ≤ ((done.length : Nat) : Int)))) then
                bif (qSameB_P payloads (List.take (before).toNat done)) then
                ret (qSameB_r payloads (List.take (before).toNat done))
                else fail
                else fail
              else
              ret false
            else
            ret false
          else
          ret false)
        (l.length + 2) ((1 + q : Nat) : Int) (lOpen_r1 (s'.set (1 + q) ((s'.getD (1 + q) z16).set a (xorB ((s'.getD (1 + q) z16).getD a 0) sb)), ([], ()))) (lOpen_r2 (s'.set (1 + q) ((s'.getD (1 + q) z16).set a (xorB ((s'.getD (1 + q) z16).getD a 0) sb)), ([], ()))) 0 (endsOf done') done' = ret true := fun x1 x2 => by
      obtain ⟨o1, o2, m, m1, m2, m3, m4⟩ := bad_opens h1 hqlt (by omega) halt (xor_ne _ c) x1 x2
      refine ⟨o1, ?_⟩
      have hen := endsOf_len done'
      refine (bef_loop (l.length + 2) fail _ _ _ _ (endsOf done') done' (by omega) m (by omega) (fun k hk => ?_) (fun hk => ?_) m (l.length + 1) 0 (by omega) (by omega)).trans ?_
      · have := m3 k hk
        rw [endsOf_get done' (by omega)]; omega
      · rw [endsOf_get done' (by omega)]; omega
      · have e3 : lOpen_r2 (s'.set (1 + q) ((s'.getD (1 + q) z16).set a (xorB ((s'.getD (1 + q) z16).getD a 0) sb)), ([], ())) = 0 := o2
        have e4 : lOpen_r1 (s'.set (1 + q) ((s'.getD (1 + q) z16).set a (xorB ((s'.getD (1 + q) z16).getD a 0) sb)), ([], ())) = done'.take m := m2
        rw [e3, e4]
        refine bif_eq_t rfl (bif_eq_t rfl (bif_eq_t (tt (by omega)) (bif_eq_t (tt2 (by omega) (by omega)) ?_)))
        rw [Int.toNat_natCast]
        have hlt : (done'.take m).length ≤ 1000000000000 := by rw [List.length_take]; omega
        exact bif_eq_t (tt ⟨hlt, hlt⟩) (by rw [show qSameB_r (done'.take m) (done'.take m) = true from tt rfl])
    have go : ∀ (x1 : ¬ (((s'.getD (1 + q) z16).getD 0 0).toNat = 2 ∧ 8 ≤ a ∧ a < 12)) (x2 : ¬ (((s'.getD (1 + q) z16).getD 0 0).toNat = 1 ∧ a = 0)), _ := fun x1 x2 => bif_eq_t (b := fail) (le_big (n := (still s').1.length) (by show s'.length ≤ _; omega)) (bif_eq_t (b := fail) hq (bif_eq_t (b := fail) ha (bif_eq_t (b := fail) hq (bif_eq_t (b := fail) ha (bif_eq_t (b := fail) (fin x1 x2).1 (fin x1 x2).2)))))
    refine bif_eq_t hq ?_
    by_cases k2 : ((s'.getD (1 + q) z16).getD 0 0).toNat = 2
    · have n1 : ((((s'.getD (1 + q) z16).getD 0 0).toNat : Nat) : Int) ≠ 1 := by omega
      refine bif_eq_t (beq_t (by show ((((s'.getD (1 + q) z16).getD 0 0).toNat : Nat) : Int) = 2; omega)) ?_
      by_cases k8 : 8 ≤ a
      · refine bif_eq_t (tt (by omega)) ?_
        by_cases k12 : a < 12
        · exact bif_eq_t (tt (by omega)) rfl
        · refine bif_eq_f (ff (by omega)) (bif_eq_t hq (bif_eq_f (beq_f n1) ?_))
          exact go (by omega) (by omega)
      · refine bif_eq_f (ff (by omega)) (bif_eq_t hq (bif_eq_f (beq_f n1) ?_))
        exact go (by omega) (by omega)
    · refine bif_eq_f (beq_f (by show ((((s'.getD (1 + q) z16).getD 0 0).toNat : Nat) : Int) ≠ 2; omega)) (bif_eq_t hq ?_)
      by_cases k1 : ((s'.getD (1 + q) z16).getD 0 0).toNat = 1
      · refine bif_eq_t (beq_t (by show ((((s'.getD (1 + q) z16).getD 0 0).toNat : Nat) : Int) = 1; omega)) ?_
        by_cases k0 : a = 0
        · exact bif_eq_t (beq_t (by omega)) rfl
        · exact bif_eq_f (beq_f (by omega)) (go (by omega) (by omega))
      · refine bif_eq_f (beq_f (by show ((((s'.getD (1 + q) z16).getD 0 0).toNat : Nat) : Int) ≠ 1; omega)) ?_
        exact go (by omega) (by omega)⟩
end Go.AI
