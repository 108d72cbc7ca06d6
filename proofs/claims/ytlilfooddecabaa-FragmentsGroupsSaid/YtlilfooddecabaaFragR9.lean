/- The reference's Groups: its loops. -/
import Derived.Test.YtlilfooddecabaaFragR8
namespace Go.AI
open Go Go.RowKit
open Go.Proofs.Try (prog)
set_option maxRecDepth 100000

section
variable {c : Ctx prog} {w1 w : World} {a : Act} {ds : List Deferred} {Q : Exit → Act → World → Prop}

abbrev StA (l : List Int) (m : Int) (v4 v5 v6 : AV) : List AV := StG l m v4 v5 v6 .dead .dead .dead .dead
theorem drop_step {l : List Int} {i : Nat} (h : i < l.length) : l.drop i = l.getD i 0 :: l.drop (i + 1) := by
  rw [List.drop_eq_getElem_cons h, getD_lt h]

/-- The lengths are looked at. -/
theorem loop1 {l : List Int} {m : Int} (hl : l.length ≤ 4096)
    (hbad : ∀ a' w', a'.defers = ds → Bs c w1 w' ds → FrOk w' (Av c) [] r0 (StG l m .nils (dI 2) .dead .dead .dead .dead .dead) a'.tmps → (l.all fun x => btw x 1 65536) = false → Q .ret a' w')
    (hgood : ∀ a' w', a'.defers = ds → Bs c w1 w' ds → FrOk w' (Av c) [] r0 (StG l m .dead .dead .dead .dead .dead .dead .dead) a'.tmps → (l.all fun x => btw x 1 65536) = true → Q (.exit 0) a' w') :
    ∀ (j n i : Nat) {a : Act} {w : World}, i + j = l.length → j < n → ((l.take i).all fun x => btw x 1 65536) = true → a.defers = ds → Bs c w1 w ds → FrOk w (Av c) [] r0 (StA l m .dead .dead (dI (i : Nat))) a.tmps → Code.roundsIn (Fe none) 0 prog (loop1B prog) Q n a w
  | j, 0, i, a, w, _, hn, _, _, _, _ => absurd hn (by omega)
  | j, n + 1, i, a, w, hi, hn, hall, hd, hB, hf => by
    rw [roundsIn_succ]
    unfold loop1B
    refine wpIn_seq (wpIn_seq (reg_run gamOk (run6 l m .dead .dead .dead .dead .dead .dead (i : Nat)) hd hB hf (fun a2 w2 hd2 hB2 _ hf2 hv2 _ => cond_run hv2 ?_)))
    by_cases hlt : i < l.length
    · rw [tt (show (i : Int) < (l.length : Int) by omega), if_pos rfl]
      refine wpIn_skip (wpIn_seq (wpIn_block (wpIn_seq ?_)))
      have hb : (decide (0 ≤ (i : Int)) && decide ((i : Int) < (l.length : Int))) = true := tt2 (by omega) (by omega)
      have r8 := run8 l m .dead .dead .dead .dead .dead .dead (i : Nat)
      rw [Int.toNat_natCast, hb, cond_true, cond_true] at r8
      have hds := drop_step hlt
      have hx : l.getD i 0 ∈ l := by rw [getD_lt hlt]; exact List.getElem_mem _
      generalize hX : l.getD i 0 = x at r8 hds hx
      have key : run prog 8 (StA l m .dead .dead (dI (i : Nat))) 37 = some (StA l m .dead .dead (dI (i : Nat)), dB (!btw x 1 65536)) := by
        rw [r8]
        by_cases h1 : x < 1
        · rw [tt h1, cond_true]
          have : btw x 1 65536 = false := by cases hb : btw x 1 65536 with
            | false => rfl
            | true => have := btw_iff.1 hb; omega
          rw [this]; rfl
        · rw [ff h1, cond_false]
          by_cases h2 : x > 65536
          · have : btw x 1 65536 = false := by cases hb : btw x 1 65536 with
              | false => rfl
              | true => have := btw_iff.1 hb; omega
            rw [tt h2, this]; rfl
          · rw [ff h2, btw_iff.2 ⟨by omega, by omega⟩]; rfl
      refine reg_run gamOk key hd2 hB2 hf2 (fun a3 w3 hd3 hB3 _ hf3 hv3 _ => cond_run hv3 ?_)
      cases hbx : btw x 1 65536 with
      | false =>
        rw [if_pos (show (!false) = true from rfl)]
        refine wpIn_seq (reg_run gamOk (run9 l m .dead .dead (dI (i : Nat)) .dead .dead .dead .dead) hd3 hB3 hf3 (fun a4 w4 hd4 hB4 _ hf4 _ _ => wpIn_ret ?_))
        refine hbad a4 w4 hd4 hB4 ?_ ?_
        · have := keepA_ok hf4 [0, 1, 4, 5]
          exact this
        · cases hA : l.all fun x => btw x 1 65536 with
          | false => rfl
          | true => rw [List.all_eq_true.1 hA x hx] at hbx; cases hbx
      | true =>
        rw [if_neg (show ¬ (!true) = true by decide)]
        refine wpIn_skip ?_
        refine reg_run gamOk (run7 l m .dead .dead .dead .dead .dead .dead (i : Nat)) hd3 hB3 hf3 (fun a4 w4 hd4 hB4 _ hf4 _ _ => ?_)
        rw [addI_eq (by omega) (by omega), nat1] at hf4
        refine loop1 hl hbad hgood (l.length - (i + 1)) n (i + 1) (by omega) (by omega) ?_ hd4 hB4 hf4
        rw [List.take_add_one, List.all_append, hall, Bool.true_and, List.getElem?_eq_getElem hlt]
        simp only [Option.toList_some, List.all_cons, List.all_nil, Bool.and_true]
        rw [getD_lt hlt] at hX
        rw [hX]; exact hbx
    · rw [ff (show ¬ (i : Int) < (l.length : Int) by omega), if_neg (by decide)]
      refine wpIn_exit ?_
      refine hgood a2 w2 hd2 hB2 ?_ ?_
      · have := keepA_ok hf2 [0, 1]
        exact this
      · rw [List.take_of_length_le (by omega)] at hall; exact hall

/-- The slots, told from their values. -/
theorem st_fr {w : World} {l : List Int} {m : Int} {v7 v8 v9 v10 : AV} {L : List (Nat × Value)} (hK : KS a L) (h0 : RV w (Av c) [] r0 (.dat rowS l) (a.tmps.getD 0 undef)) (h1 : RV w (Av c) [] r0 (dI m) (a.tmps.getD 1 undef))
    (h7 : RV w (Av c) [] r0 v7 (a.tmps.getD 7 undef)) (h8 : RV w (Av c) [] r0 v8 (a.tmps.getD 8 undef)) (h9 : RV w (Av c) [] r0 v9 (a.tmps.getD 9 undef)) (h10 : RV w (Av c) [] r0 v10 (a.tmps.getD 10 undef)) : FrOk w (Av c) [] r0 (StG l m .dead .dead .dead v7 v8 v9 v10) a.tmps := by
  refine ⟨hK.1, fun i => ?_⟩
  match i with
  | 0 => exact h0
  | 1 => exact h1
  | 2 => exact trivial
  | 3 => exact trivial
  | 4 => exact trivial
  | 5 => exact trivial
  | 6 => exact trivial
  | 7 => exact h7
  | 8 => exact h8
  | 9 => exact h9
  | 10 => exact h10
  | k + 11 =>
    have e : (StG l m .dead .dead .dead v7 v8 v9 v10).getD (k + 11) .dead = .dead := by
      show (List.replicate 75 AV.dead).getD k .dead = .dead
      simp only [List.getD, List.getElem?_replicate]
      split <;> rfl
    rw [e]; exact trivial
theorem KS.keep {a a' : Act} {L : List (Nat × Value)} {w : World} {l : List Int} {m : Int} {v4 v5 v6 v7 v8 v9 v10 : AV} (h : KS a L) (hf : FrOk w (Av c) [] r0 (StG l m v4 v5 v6 v7 v8 v9 v10) a'.tmps) (hk : ∀ p, p ∈ L → a'.tmps.getD p.1 undef = a.tmps.getD p.1 undef) : KS a' L :=
  ⟨hf.size.trans rfl, fun p hp => (hk p hp).trans (h.2 p hp)⟩
end
end Go.AI
