/- Texts of the proof, joined: DiskP2. -/
import Derived.Test.YtnmidfcefljafaaGreatQtDiskP
namespace Go.AI
open Go
theorem beqL_iffk {α : Type} {f : α → α → Bool} (hf : ∀ a b, f a b = true ↔ a = b) : ∀ a b : List α, beqL f a b = true ↔ a = b
 | [], [] => by simp [beqL]
 | [], _ :: _ => by simp [beqL]
 | _ :: _, [] => by simp [beqL]
 | a :: l, b :: m => by simp only [beqL, Bool.and_eq_true, hf, beqL_iffk hf l m, List.cons.injEq]
theorem beqT_iff : ∀ (s : Sch), s.comparable = true → ∀ a b : s.T, beqT s a b = true ↔ a = b
 | .int k, _, a, b => by
  show (toI k a == toI k b) = true ↔ _
  rw [beq_iff_eq]; exact ⟨toI_inj k, fun h => by rw [h]⟩
 | .bool, _, a, b => by show ((a : Bool) == b) = true ↔ _; exact beq_iff_eq
 | .str, _, a, b => by show ((a : List UInt8) == b) = true ↔ _; exact beq_iff_eq
 | .slc _, h, _, _ => by cases h
 | .arr _ s, h, a, b => beqL_iffk (beqT_iff s h) a b
 | .pair s t, h, a, b => by
  have h : s.comparable = true ∧ t.comparable = true := by simpa [Sch.comparable] using h
  show (beqT s a.1 b.1 && beqT t a.2 b.2) = true ↔ _
  rw [Bool.and_eq_true, beqT_iff s h.1, beqT_iff t h.2]
  exact ⟨fun e => Prod.ext e.1 e.2, fun e => by rw [e]; exact ⟨rfl, rfl⟩⟩
 | .unit, _, a, b => by show true = true ↔ _; simp
theorem beqT_dec (s : Sch) (h : s.comparable = true) (a b : s.T) [Decidable (a = b)] : beqT s a b = decide (a = b) := by
 cases e : beqT s a b with
 | true => rw [tt ((beqT_iff s h a b).1 e)]
 | false => rw [ff (fun c => by rw [(beqT_iff s h a b).2 c] at e; cases e)]
theorem wrS_len : ∀ (l : List Page) (a : Int), (wrS a l).length = l.length
 | [], _ => rfl
 | _ :: l, a => by rw [wrS, List.length_cons, wrS_len l, List.length_cons]
theorem wrS_snoc : ∀ (l : List Page) (a : Int) (p : Page), wrS a (l ++ [p]) = wrS a l ++ [(a + l.length, (p, ()))]
 | [], a, p => by simp [wrS]
 | x :: l, a, p => by
  rw [List.cons_append, wrS, wrS_snoc l (a + 1) p, wrS, List.cons_append, List.length_cons]
  congr 4; omega
theorem wrS_ok {n : Nat} : ∀ (l : List Page) (a : Int), 0 ≤ a → a + l.length ≤ n → okP n (wrS a l) = true
 | [], _, _, _ => rfl
 | x :: l, a, h0, h1 => by
  rw [List.length_cons] at h1
  rw [wrS, okP_cons, tt (show 0 ≤ a ∧ a < n by omega), wrS_ok l (a + 1) (by omega) (by omega)]; rfl
theorem okP_app (n : Nat) (a b : List Pend) : okP n (a ++ b) = (okP n a && okP n b) := by simp [okP, List.all_append]
theorem sum_mem : ∀ {l : List DOp} {op : DOp}, op ∈ l → op.2.2.1.length ≤ sumO l
 | x :: l, op, h => by
  show _ ≤ x.2.2.1.length + sumO l
  rcases List.mem_cons.1 h with rfl | h
  ·omega
  ·have := sum_mem h; omega
theorem sum_drop (l : List DOp) (i : Nat) (h : i < l.length) (o : DOp) : sumO (l.drop i) = (l.getD i o).2.2.1.length + sumO (l.drop (i + 1)) := by
 rw [drop_cons o h]; rfl
theorem step_ok {d : DK} (h : okD d = true) (op : DOp) : (stepD d op).2 = 0 → okD (stepD d op).1 = true ∧ (stepD d op).1.1.length = d.1.length ∧ (stepD d op).1.2.1.length ≤ d.2.1.length + op.2.2.1.length := by
 have hok := okD_iff.1 h
 unfold stepD
 split
 ·split
  ·rename_i hf
   have hf := fit_iff.1 hf
   intro _
   refine ⟨okD_iff.2 ⟨hok.1, ?_⟩, rfl, by rw [List.length_append, wrS_len]; exact Nat.le_refl _⟩
   rw [okP_app, hok.2, wrS_ok _ _ hf.1 hf.2.2]; rfl
  ·intro h; cases h
 ·split
  ·intro _
   have hc := con_len d
   exact ⟨okD_iff.2 ⟨by rw [hc]; exact hok.1, rfl⟩, hc, Nat.zero_le _⟩
  ·intro h; cases h
theorem wr_loop {X : Type} (F : Nat) (fail : X) (ex : List Page → Int → Int → List DOp → Int → Int → Int → List DOp → Int → Int → List Page → List Pend → DOp → DK → X) (l : List DOp) (s5 s6 i : Int) (s22 : List DOp) (s23 s24 : Int) (h1 : List Page) (h2 : List Pend) (op : DOp) (s4 : DK) (ha : 0 ≤ op.2.1 ∧ op.2.1 ≤ 1000000) (hl : op.2.2.1.length + h2.length ≤ 100000000) : ∀ (j m k : Nat), k + j = op.2.2.1.length → j ≤ m →
  dRun_l2F F fail ex (m + 1) op.2.2.1 (op.2.2.1.length : Nat) k l s5 s6 i s22 s23 s24 h1 (h2 ++ wrS op.2.1 (op.2.2.1.take k)) op s4 = ex op.2.2.1 (op.2.2.1.length : Nat) (op.2.2.1.length : Nat) l s5 s6 i s22 s23 s24 h1 (h2 ++ wrS op.2.1 op.2.2.1) op s4
 | 0, m, k, hi, _ => by
  have e : k = op.2.2.1.length := by omega
  subst e
  rw [dRun_l2F, dRun_l2]
  rw [bif_false (ff (by omega)), List.take_length]
 | j + 1, 0, k, _, hm => absurd hm (by omega)
 | j + 1, m + 1, k, hi, hm => by
  have ih := wr_loop F fail ex l s5 s6 i s22 s23 s24 h1 h2 op s4 ha hl j m (k + 1) (by omega) (by omega)
  rw [dRun_l2F, dRun_l2]
  rw [take_snoc _ k z16 (by omega), wrS_snoc, ← List.append_assoc, List.length_take, Nat.min_eq_left (by omega)] at ih
  have hlen : (h2 ++ wrS op.2.1 (op.2.2.1.take k) ++ [(op.2.1 + (k : Int), (op.2.2.1.getD k z16, ()))]).length ≤ 2147483648 := by
   rw [List.length_append, List.length_append, wrS_len, List.length_take]; simp only [List.length_cons, List.length_nil]; omega
  rw [Int.toNat_natCast, bif_true (tt (by omega)), bif_true (tt2 (by omega) (by omega)), addI_eq (a := op.2.1) (by omega) (by omega), bif_true (le_big hlen), addI_eq (by omega) (by omega)]
  exact ih
theorem go_nil (d : DK) (i : Int) : goD d [] i = (d, (i, 0)) := rfl
theorem go_cons (d : DK) (op : DOp) (l : List DOp) (i : Int) : goD d (op :: l) i = if (stepD d op).2 = 0 then goD (stepD d op).1 l (i + 1) else (dk0, (i, (stepD d op).2)) := rfl
theorem run_loop {X : Type} (F : Nat) (fail : X) (ret : DK → Int → Int → X) (ex0 ex1 : List DOp → Int → Int → List DOp → Int → Int → DK → List Page → List Pend → X) (l : List DOp) (hF : ∀ op, op ∈ l → op.2.2.1.length < F) (hl : l.length ≤ 1000000)
  (h0 : ∀ (i : Nat) e a b, ex0 l i e l (l.length : Nat) i dk0 a b = ret dk0 i e) (h1 : ∀ s5 s6 (j : Nat) s4 a b, ex1 l s5 s6 l (l.length : Nat) j s4 a b = ret (a, (b, ())) (l.length : Nat) 0) : ∀ (j m i : Nat) (s5 s6 : Int) (s4 d : DK), i + j = l.length → j ≤ m → okD d = true → d.2.1.length + sumO (l.drop i) ≤ 20000000 →
  dRun_l1F F fail ex0 ex1 (m + 1) l s5 s6 l (l.length : Nat) i s4 d.1 d.2.1 = ret (goD d (l.drop i) i).1 (goD d (l.drop i) i).2.1 (goD d (l.drop i) i).2.2
 | 0, m, i, s5, s6, s4, d, hi, _, hd, hs => by
  have e : i = l.length := by omega
  subst e
  rw [dRun_l1F, dRun_l1]
  rw [bif_false (ff (by omega)), h1, List.drop_length, go_nil]
 | j + 1, 0, i, _, _, _, _, _, hm, _, _ => absurd hm (by omega)
 | j + 1, m + 1, i, s5, s6, s4, d, hi, hm, hd, hs => by
  have ih := fun (d' : DK) (h : okD d' = true) (h' : d'.2.1.length + sumO (l.drop (i + 1)) ≤ 20000000) => run_loop F fail ret ex0 ex1 l hF hl h0 h1 j m (i + 1) s5 s6 s4 d' (by omega) (by omega) h h'
  have hok := okD_iff.1 hd
  rw [dRun_l1F, dRun_l1]
  rw [sum_drop l i (by omega) ((0 : Int), ((0 : Int), (([] : List (List UInt8)), ())))] at hs
  rw [Int.toNat_natCast, bif_true (tt (by omega)), bif_true (tt2 (by omega) (by omega)), drop_cons ((0 : Int), ((0 : Int), (([] : List (List UInt8)), ()))) (show i < l.length by omega), go_cons]
  have hFo := hF (l.getD i ((0 : Int), ((0 : Int), (([] : List (List UInt8)), ())))) (by rw [getD_lt (show i < l.length by omega)]; exact List.getElem_mem _)
  generalize l.getD i ((0 : Int), ((0 : Int), (([] : List (List UInt8)), ()))) = op at hs hFo ⊢
  have hst := step_ok hd op
  have hsm : smallD d = true := small_iff.2 (by omega)
  by_cases k0 : op.1 = 0
  ·rw [bif_true (c := decide (op.1 ≥ 0)) (tt (by omega)), bif_true (tt (by omega)), bif_true (tt2 (by omega) (by omega)), bif_true (c := Nat.beq op.1.toNat 0) (by rw [k0]; rfl), bif_true (c := dFits_P (d.1, (d.2.1, ())) _ _) hsm]
   cases hf : fitD d op.2.1 op.2.2.1.length with
   | false =>
    rw [bif_true (c := !(dFits_r (d.1, (d.2.1, ())) _ _)) (by show (!(fitD d op.2.1 op.2.2.1.length)) = true; rw [hf]; rfl)]
    have e : stepD d op = (dk0, 2) := by unfold stepD; rw [if_pos k0, if_neg (by rw [hf]; decide)]
    rw [e, if_neg (by decide)]
    exact h0 i 2 d.1 d.2.1
   | true =>
    have hfi := fit_iff.1 hf
    rw [bif_false (c := !(dFits_r (d.1, (d.2.1, ())) _ _)) (by show (!(fitD d op.2.1 op.2.2.1.length)) = false; rw [hf]; rfl)]
    have e : stepD d op = ((d.1, (d.2.1 ++ wrS op.2.1 op.2.2.1, ())), 0) := by unfold stepD; rw [if_pos k0, if_pos hf]
    obtain ⟨q1, q2, q3⟩ := hst (by rw [e])
    rw [e] at q1 q2 q3 ⊢
    rw [if_pos rfl]
    obtain ⟨M, rfl⟩ : ∃ M, F = M + 1 := ⟨F - 1, by omega⟩
    have hw := wr_loop (M + 1) fail (fun _ _ _ l1 s51 s61 _ s221 s231 s241 h1 h21 _ s41 => dRun_l1F (M + 1) fail ex0 ex1 (m + 1) l1 s51 s61 s221 s231 (addI s241 1) s41 h1 h21) l s5 s6 (i : Int) l (l.length : Nat) (i : Int) d.1 d.2.1 op s4 (by omega) (by omega) op.2.2.1.length M 0 (by omega) (by omega)
    rw [List.take_zero, wrS, List.append_nil] at hw
    refine hw.trans ?_
    rw [addI_eq (by omega) (by omega), nat1]
    exact ih (d.1, (d.2.1 ++ wrS op.2.1 op.2.2.1, ())) q1 (by show (d.2.1 ++ wrS op.2.1 op.2.2.1).length + _ ≤ _; rw [List.length_append, wrS_len]; omega)
  ·by_cases k1 : op.1 = 1
   ·rw [bif_true (c := decide (op.1 ≥ 0)) (tt (by omega)), bif_true (tt (by omega)), bif_true (tt2 (by omega) (by omega)), bif_false (c := Nat.beq op.1.toNat 0) (by rw [k1]; rfl), bif_true (c := Nat.beq op.1.toNat 1) (by rw [k1]; rfl), bif_true (c := contents_P (d.1, (d.2.1, ()))) (by show (smallD d && okP d.1.length d.2.1) = true; rw [hsm, hok.2]; rfl)]
    have e : stepD d op = ((conS d, ([], ())), 0) := by unfold stepD; rw [if_neg k0, if_pos k1]
    obtain ⟨q1, q2, q3⟩ := hst (by rw [e])
    rw [e] at q1 q2 q3 ⊢
    rw [if_pos rfl, addI_eq (by omega) (by omega), nat1]
    exact ih (conS d, ([], ())) q1 (by show 0 + _ ≤ _; omega)
   ·have e : stepD d op = (dk0, 1) := by unfold stepD; rw [if_neg k0, if_neg k1]
    rw [e, if_neg (by decide)]
    by_cases k2 : op.1 ≥ 0
    ·rw [bif_true (tt k2), bif_false (ff (by omega))]
     exact h0 i 1 d.1 d.2.1
    ·rw [bif_false (ff k2)]
     exact h0 i 1 d.1 d.2.1
theorem run_iff {d : DK} {l : List DOp} : runP d l = true ↔ d.1.length ≤ 1000000 ∧ d.2.1.length ≤ 10000000 ∧ l.length ≤ 1000000 ∧ sumO l ≤ 10000000 := by simp only [runP, decide_eq_true_eq]
theorem dRun_plain (d : DK) (l : List DOp) (h : dRun_P d l = true) : ∃ F, ∀ {X : Type} (fail : X) (ret : DK → Int → Int → X), dRun F d l fail ret = ret (dRun_r0 d l) (dRun_r1 d l) (dRun_r2 d l) := ⟨l.length + sumO l + 1, fun fail ret => by
 have h := run_iff.1 h
 unfold dRun dRun_r0 dRun_r1 dRun_r2 runD dCheck_r
 rw [bif_true (c := dCheck_P d) (small_iff.2 (by omega))]
 cases hk : okD d with
 | false => rw [chk_bad hk]; rfl
 | true =>
  rw [chk_ok hk, bif_false (bne_f rfl), bif_true (c := clPage_P d.1) (tt (by omega)), bif_true (c := clPend_P d.2.1) (tt (by omega)), if_pos rfl]
  exact run_loop (l.length + sumO l + 1) fail ret _ _ l (fun op hop => by have := sum_mem hop; omega) h.2.2.1 (fun _ _ _ _ => rfl) (fun _ _ _ _ _ _ => rfl) l.length _ 0 0 0 _ d (by omega) (by omega) hk (by rw [List.drop_zero]; omega)⟩
end Go.AI
