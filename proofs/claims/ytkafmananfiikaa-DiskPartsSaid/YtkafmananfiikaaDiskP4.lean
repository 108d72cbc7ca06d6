/- What the laws' own functions answer, and the first laws. -/
import Derived.Test.YtkafmananfiikaaDiskP3
import Derived.Test.YtkafmananfiikaaDiskG2
import Derived.Test.YtkafmananfiikaaDiskG3
import Derived.KernelRfl
namespace Go.AI
open Go

theorem rem8 : ∀ i : Nat, i < 256 → (remB (UInt8.ofNat i) 8).toNat = i % 8 := by decide +kernel
theorem rem8N (x : UInt8) : (remB x 8).toNat = x.toNat % 8 := by
  have := rem8 x.toNat x.toNat_lt
  rwa [UInt8.ofNat_toNat] at this
theorem cv8 (x : UInt8) : cvBI (remB x 8) = ((x.toNat % 8 : Nat) : Int) := by rw [cvBI_eq, rem8N]
theorem ops_loop {X : Type} (F : Nat) (fail : X) (ex : List DWr → Int → List DOp → X) (l : List DWr) (hl : l.length ≤ 1000000) : ∀ (j m i : Nat), i + j = l.length → j ≤ m →
    lOps_l1F F fail ex (m + 1) l i ((l.take i).map opW) = ex l (l.length : Nat) (l.map opW)
  | 0, m, i, hi, _ => by
    have e : i = l.length := by omega
    subst e
    rw [lOps_l1F, lOps_l1]
    rw [bif_false (ff (by omega)), List.take_length]
  | j + 1, 0, i, _, hm => absurd hm (by omega)
  | j + 1, m + 1, i, hi, hm => by
    have ih := ops_loop F fail ex l hl j m (i + 1) (by omega) (by omega)
    rw [take_snoc _ i ((0 : UInt8), ((0 : UInt8), (false, ()))) (by omega), List.map_append] at ih
    rw [lOps_l1F, lOps_l1]
    rw [Int.toNat_natCast, bif_true (tt (by omega)), bif_true (tt2 (by omega) (by omega)), bif_true (tt2 (by omega) (by omega)), bif_true (tt2 (by omega) (by omega)), addI_eq (by omega) (by omega), nat1]
    generalize l.getD i ((0 : UInt8), ((0 : UInt8), (false, ()))) = w at ih ⊢
    have hlen : ∀ o : DOp, ((l.take i).map opW ++ [o]).length ≤ 2147483648 := fun o => by
      rw [List.length_append, List.length_map, List.length_take]; simp only [List.length_cons, List.length_nil]; omega
    have e : List.map opW [w] = [opW w] := rfl
    rw [e, opW] at ih
    cases hw : w.2.2.1 with
    | true =>
      rw [hw, if_pos rfl] at ih
      rw [bif_true rfl, bif_true (le_big (hlen _))]
      exact ih
    | false =>
      rw [hw, if_neg (by decide)] at ih
      rw [bif_false rfl, bif_true (le_big (hlen _)), cv8]
      exact ih
theorem lOps_plain (l : List DWr) (h : lOps_P l = true) : ∃ F, ∀ {X : Type} (fail : X) (ret : List DOp → X), lOps F l fail ret = ret (lOps_r l) := ⟨l.length + 1, fun fail ret => by
  simp only [lOps_P, decide_eq_true_eq] at h
  unfold lOps
  exact ops_loop (l.length + 1) fail _ l h l.length l.length 0 (by omega) (Nat.le_refl _)⟩

/- A disk of eight pages after such operations. -/
theorem new8 : newD 8 = (List.replicate 8 z16, ([], ())) := rfl
theorem op_step {d : DK} (h : okD d = true) (h8 : d.1.length = 8) (w : DWr) : (stepD d (opW w)).2 = 0 ∧ okD (stepD d (opW w)).1 = true ∧ (stepD d (opW w)).1.1.length = 8 := by
  have e : (stepD d (opW w)).2 = 0 := by
    unfold opW
    cases hw : w.2.2.1 with
    | true => rfl
    | false =>
      have : fitD d ((w.1.toNat % 8 : Nat) : Int) 1 = true := fit_iff.2 (by omega)
      show (if fitD d ((w.1.toNat % 8 : Nat) : Int) 1 then _ else _ : DK × Int).2 = 0
      rw [this]; rfl
  obtain ⟨q1, q2, q3⟩ := step_ok h (opW w) e
  exact ⟨e, q1, q2.trans h8⟩
theorem op_go : ∀ (l : List DWr) (d : DK) (i : Int), okD d = true → d.1.length = 8 → (goD d (l.map opW) i).2.2 = 0 ∧ (goD d (l.map opW) i).2.1 = i + l.length
  | [], d, i, _, _ => ⟨rfl, by show i = i + ((0 : Nat) : Int); omega⟩
  | w :: l, d, i, h, h8 => by
    obtain ⟨q0, q1, q2⟩ := op_step h h8 w
    obtain ⟨r0, r1⟩ := op_go l (stepD d (opW w)).1 (i + 1) q1 q2
    rw [List.map_cons, go_cons, if_pos q0, r0, r1]
    exact ⟨rfl, by rw [List.length_cons]; omega⟩
theorem op_sum : ∀ l : List DWr, sumO (l.map opW) ≤ l.length
  | [] => Nat.le_refl _
  | w :: l => by
    have : (opW w).2.2.1.length ≤ 1 := by unfold opW; cases w.2.2.1 <;> simp
    show (opW w).2.2.1.length + sumO (l.map opW) ≤ _
    have := op_sum l
    rw [List.length_cons]; omega
theorem op_P (d : DK) (l : List DWr) (h1 : d.1.length ≤ 1000000) (h2 : d.2.1.length ≤ 10000000) (h : l.length ≤ 1000000) : runP d (l.map opW) = true := by
  have := op_sum l
  exact run_iff.2 ⟨h1, h2, by rw [List.length_map]; exact h, by omega⟩
theorem op_run {d : DK} (h : okD d = true) (h8 : d.1.length = 8) (l : List DWr) : (runD d (l.map opW)).2.2 = 0 ∧ (runD d (l.map opW)).2.1 = l.length ∧ okD (runD d (l.map opW)).1 = true ∧ (runD d (l.map opW)).1.1.length = 8 ∧ (runD d (l.map opW)).1.2.1.length ≤ d.2.1.length + l.length := by
  have e : runD d (l.map opW) = goD d (l.map opW) 0 := by unfold runD; rw [if_pos h]
  obtain ⟨r0, r1⟩ := op_go l d 0 h h8
  obtain ⟨s1, s2, s3⟩ := go_ok (l.map opW) d 0 h r0
  have := op_sum l
  rw [e]
  exact ⟨r0, by rw [r1]; omega, s1, s2.trans h8, by omega⟩
theorem beh_ok (l : List DWr) : okD (beh l) = true ∧ (beh l).1.length = 8 ∧ (beh l).2.1.length ≤ l.length := by
  obtain ⟨_, _, r2, r3, r4⟩ := op_run (d := newD 8) rfl rfl l
  exact ⟨r2, r3, by have : (newD 8).2.1.length = 0 := rfl; unfold beh; omega⟩
theorem lBehind_plain (l : List DWr) (h : lBehind_P l = true) : ∃ F, ∀ {X : Type} (fail : X) (ret : DK → Bool → X), lBehind F l fail ret = ret (lBehind_r0 l) (lBehind_r1 l) := ⟨0, fun fail ret => by
  simp only [lBehind_P, decide_eq_true_eq] at h
  obtain ⟨r0, r1, r2, r3, r4⟩ := op_run (d := newD 8) rfl rfl l
  unfold lBehind lBehind_r0 lBehind_r1 lOps_r dNew_r0 dNew_r1 dRun_r0 dRun_r1 dRun_r2
  rw [bif_true (c := dNew_P 8) rfl, bif_true (c := lOps_P l) (tt h), bif_true (c := dRun_P _ _) (op_P _ _ (by decide) (by decide) h), bif_true (c := newE 8 == 0) rfl, bif_true (beq_t r0), beq_t r1]
  rfl⟩
theorem lExample_plain (_ : lExample_P = true) : ∃ F, ∀ {X : Type} (fail : X) (ret : DK → Bool → X), lExample F fail ret = ret lExample_r0 lExample_r1 := ⟨0, fun fail ret => by
  kernel_rfl⟩
theorem crash_small {d : DK} {ch : List Int} (h : smallD d = true) : (crashD d ch).1.1.length ≤ 1000000 := by
  unfold crashD
  cases okD d with
  | false => exact Nat.zero_le _
  | true => rw [if_pos rfl]; show (crGo d ch).2.length ≤ _; rw [crGo, (fold_len d _ _).2]; exact (small_iff.1 h).1
theorem crash_nil (d : DK) (ch : List Int) : (crashD d ch).1.2.1 = [] := by
  unfold crashD; split <;> rfl
theorem lCrashed_plain (d : DK) (ch : List Int) (a b : UInt8) (h : lCrashed_P d ch a b = true) : ∃ F, ∀ {X : Type} (fail : X) (ret : Bool → X), lCrashed F d ch a b fail ret = ret (lCrashed_r d ch a b) := ⟨0, fun fail ret => by
  have hs := crash_small (ch := ch) (small_iff.2 (cr_iff.1 h).1)
  unfold lCrashed lCrashed_r dCrash_r0 dCrash_r2
  rw [bif_true (c := dCrash_P d ch) h]
  by_cases c : (crashD d ch).2.2 = 0
  · rw [bif_true (beq_t c), bif_true (c := rSamePages_P _ _) (tt ⟨by omega, by simp⟩)]
    show (bif decide ((crashD d ch).1.1 = [exPg a, exPg b, z16]) then ret (((((crashD d ch).1.2.1.length : Nat) : Int) == (0 : Int))) else ret false) = _
    rw [crash_nil]
    by_cases c2 : (crashD d ch).1.1 = [exPg a, exPg b, z16]
    · rw [bif_true (tt c2), tt ⟨c, c2⟩]; rfl
    · rw [bif_false (ff c2), ff (fun h => c2 h.2)]
  · rw [bif_false (beq_f c), ff (fun h => c h.1)]⟩
theorem law48_awake_plain : ∃ F, ∀ {X : Type} (fail : X) (ret : Bool → X), law48_awake F fail ret = ret law48_awake_r := ⟨0, fun fail ret => by
  kernel_rfl⟩
end Go.AI
