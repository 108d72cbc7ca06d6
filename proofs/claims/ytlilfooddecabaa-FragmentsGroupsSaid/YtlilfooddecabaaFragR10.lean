/- The reference's Groups: the second loop, and the whole. -/
import Derived.Test.YtlilfooddecabaaFragR9
namespace Go.AI
open Go Go.RowKit
open Go.Proofs.Try (prog)
set_option maxRecDepth 100000

/-- The groups so far, the sum of the last one, and what is to come of the rest. -/
def GInv (T : List (List Int)) (l : List Int) (m : Int) (i : Nat) (s : Int) (gs : List (List Int)) : Prop :=
  (gs = [] ∧ s = 0 ∧ i = 0 ∧ T = grpI m (l.drop i) i s []) ∨ ∃ init ys, gs = init ++ [ys] ∧ ys ≠ [] ∧ init.length + ys.length ≤ i ∧ T = init ++ grpI m (l.drop i) i s ys
theorem GInv.len {T : List (List Int)} {l : List Int} {m : Int} {i : Nat} {s : Int} {gs : List (List Int)} (h : GInv T l m i s gs) : gs.length ≤ i := by
  rcases h with ⟨rfl, _⟩ | ⟨init, ys, rfl, h1, h2, _⟩
  · exact Nat.zero_le _
  · have := List.length_pos_iff.2 h1
    simp; omega
theorem GInv.done {T : List (List Int)} {l : List Int} {m : Int} {i : Nat} {s : Int} {gs : List (List Int)} (h : GInv T l m i s gs) (hi : l.length ≤ i) : gs = T := by
  rcases h with ⟨rfl, _, _, h⟩ | ⟨init, ys, rfl, h1, _, h⟩
  · rw [h, List.drop_eq_nil_of_le hi]; rfl
  · rw [h, List.drop_eq_nil_of_le hi]
    show _ = init ++ (if ys = [] then [] else [ys])
    rw [if_neg h1]

section
variable {c : Ctx prog} {w1 w : World} {a : Act} {ds : List Deferred} {Q : Exit → Act → World → Prop}
theorem wfI {n : Int} (h0 : -9223372036854775808 ≤ n) (h1 : n < 9223372036854775808) : (Lit.int .i64 n).wf = true := by
  simp [Lit.wf, IntKind.min, IntKind.max, IntKind.signed, IntKind.bits]; omega
theorem rvI {w : World} {A : Nat → Prop} {n : Int} (h0 : -9223372036854775808 ≤ n) (h1 : n < 9223372036854775808) : RV w A [] r0 (dI n) (.int .i64 n) := RV.mk_int (k := .i64) (a := n) (wfI h0 h1)

/-- The groups are made. -/
theorem loop2 {T : List (List Int)} {l : List Int} {m : Int} {v0 v1 : Value} (hl : l.length ≤ 4096) (hm : m ≤ 65536) (hok : ∀ x, x ∈ l → btw x 1 65536 = true) (h0 : RV w1 (Av c) [] r0 (.dat rowS l) v0) (h1 : RV w1 (Av c) [] r0 (dI m) v1)
    (hend : ∀ a' w' v s i, a'.defers = ds → Bs c w1 w' ds → NS c w1 w' v T → KS a' [(0, v0), (1, v1), (7, v), (8, s), (9, i)] → Q (.exit 2) a' w') :
    ∀ (j n i : Nat) {s : Int} {gs : List (List Int)} {v : Value} {a : Act} {w : World}, i + j = l.length → j < n → GInv T l m i s gs → 0 ≤ s → s ≤ 65536 * i → a.defers = ds → Bs c w1 w ds → NS c w1 w v gs →
      KS a [(0, v0), (1, v1), (7, v), (8, .int .i64 s), (9, .int .i64 (i : Nat))] → Code.roundsIn (Fe none) 0 prog (loop2B prog) Q n a w
  | j, 0, i, s, gs, v, a, w, _, hn, _, _, _, _, _, _, _ => absurd hn (by omega)
  | j, n + 1, i, s, gs, v, a, w, hi, hn, hg, hs0, hs1, hd, hB, hN, hK => by
    have hA : ∀ g, w1.heap.size ≤ g → ¬ Av c g := fun g hg => hB.notAv hg
    have hgl := hg.len
    have fr : ∀ {w : World} {a : Act} {v : Value} {gs : List (List Int)} {s : Int} (v10 : AV), 0 ≤ s → s ≤ 65536 * (i + 1) → Bs c w1 w ds → NS c w1 w v gs → KS a [(0, v0), (1, v1), (7, v), (8, .int .i64 s), (9, .int .i64 (i : Nat))] → RV w (Av c) [] r0 v10 (a.tmps.getD 10 undef) →
        FrOk w (Av c) [] r0 (StG l m .dead .dead .dead (.pk gs.isEmpty gs.length) (dI s) (dI (i : Nat)) v10) a.tmps := fun {w a v gs s} v10 hs0 hs1 hB hN hK h10 => by
      refine st_fr hK ?_ ?_ ?_ ?_ ?_ h10
      · rw [hK.2 (0, v0) (by simp)]; exact hB.rv h0
      · rw [hK.2 (1, v1) (by simp)]; exact hB.rv h1
      · rw [hK.2 (7, v) (by simp)]; exact hN.pk
      · rw [hK.2 (8, .int .i64 s) (by simp)]; exact rvI (by omega) (by omega)
      · rw [hK.2 (9, .int .i64 (i : Nat)) (by simp)]; exact rvI (by omega) (by omega)
    rw [roundsIn_succ]
    unfold loop2B
    refine wpIn_seq (wpIn_seq (reg_run gamOk (run13 l m .dead .dead .dead (.pk gs.isEmpty gs.length) (dI s) .dead (i : Nat)) hd hB (fr .dead hs0 (by omega) hB hN hK trivial) (fun a2 w2 hd2 hB2 hk2 hf2 hv2 hu2 => cond_run hv2 ?_)))
    have hN2 := hN.keeps hA hk2
    have hK2 : KS a2 [(0, v0), (1, v1), (7, v), (8, .int .i64 s), (9, .int .i64 (i : Nat))] := hK.keep hf2 (fun p hp => by
      simp only [List.mem_cons, List.not_mem_nil, or_false] at hp
      rcases hp with rfl | rfl | rfl | rfl | rfl <;> exact hu2 _ (by kernel_rfl))
    by_cases hlt : i < l.length
    · rw [tt (show (i : Int) < (l.length : Int) by omega), if_pos rfl]
      refine wpIn_skip (wpIn_seq (wpIn_block (wpIn_seq ?_)))
      have hb : (decide (0 ≤ (i : Int)) && decide ((i : Int) < (l.length : Int))) = true := tt2 (by omega) (by omega)
      have hds := drop_step hlt
      have hx : l.getD i 0 ∈ l := by rw [getD_lt hlt]; exact List.getElem_mem _
      obtain ⟨x, hX⟩ : ∃ x, l.getD i 0 = x := ⟨_, rfl⟩
      rw [hX] at hds hx
      have hxb := btw_iff.1 (hok x hx)
      have r16 : ∀ v7, run prog 16 (StG l m .dead .dead .dead v7 (dI s) (dI (i : Nat)) (dI (gs.length : Nat))) 57 = bif decide (((gs.length : Nat) : Int) > 0) then some (StG l m .dead .dead .dead v7 (dI s) (dI (i : Nat)) (dI (gs.length : Nat)), dB (decide (s + x ≤ m))) else
          some (StG l m .dead .dead .dead v7 (dI s) (dI (i : Nat)) (dI (gs.length : Nat)), dB false) := fun v7 => by
        have e : addI s x = s + x := addI_eq (by omega) (by omega)
        rw [← e]; subst hX
        have := run16 l m .dead .dead .dead v7 (i : Nat) (gs.length : Nat) s
        rw [Int.toNat_natCast, hb, cond_true] at this
        exact this
      have r18 : ∀ v7 v10, run prog 18 (StG l m .dead .dead .dead v7 (dI s) (dI (i : Nat)) v10) 0 = some (StG l m .dead .dead .dead v7 (dI (s + x)) (dI (i : Nat)) v10, .dat rowS l) := fun v7 v10 => by
        have e : addI s x = s + x := addI_eq (by omega) (by omega)
        rw [← e]; subst hX
        have := run18 l m .dead .dead .dead v7 v10 (i : Nat) s
        rw [Int.toNat_natCast, hb, cond_true] at this
        exact this
      have r20 : ∀ v7 v8 v10, run prog 20 (StG l m .dead .dead .dead v7 v8 (dI (i : Nat)) v10) 0 = some (StG l m .dead .dead .dead v7 (dI x) (dI (i : Nat)) v10, .dat rowS l) := fun v7 v8 v10 => by
        subst hX
        have := run20 l m .dead .dead .dead v7 v8 v10 (i : Nat)
        rw [Int.toNat_natCast, hb, cond_true] at this
        exact this
      -- what follows the block
      have next : ∀ {a' : Act} {w' : World} {v' : Value} {gs' : List (List Int)} {s' : Int}, GInv T l m (i + 1) s' gs' → 0 ≤ s' → s' ≤ 65536 * (i + 1) → a'.defers = ds → Bs c w1 w' ds → NS c w1 w' v' gs' → KS a' [(0, v0), (1, v1), (7, v'), (8, .int .i64 s'), (9, .int .i64 (i : Nat))] →
          (rgn prog 14).wpIn (Fe none) 0 prog (Exit.then (Code.roundsIn (Fe none) 0 prog (loop2B prog) Q n) Q) a' w' := fun {a' w' v' gs' s'} hg' hs0' hs1' hd' hB' hN' hK' => by
        refine reg_run gamOk (run14 l m .dead .dead .dead (.pk gs'.isEmpty gs'.length) (dI s') .dead (i : Nat)) hd' hB' (fr .dead hs0' (by omega) hB' hN' hK' trivial) (fun a3 w3 hd3 hB3 hk3 hf3 _ hu3 => ?_)
        rw [addI_eq (by omega) (by omega), nat1] at hf3
        refine loop2 hl hm hok h0 h1 hend (l.length - (i + 1)) n (i + 1) (by omega) (by omega) hg' hs0' (by omega) hd3 hB3 (hN'.keeps hA hk3) ⟨hf3.size.trans rfl, fun p hp => ?_⟩
        have h9 := hf3.at_ 9
        simp only [List.mem_cons, List.not_mem_nil, or_false] at hp
        rcases hp with rfl | rfl | rfl | rfl | rfl
        · exact (hu3 _ (by kernel_rfl)).trans (hK'.2 (0, v0) (by simp))
        · exact (hu3 _ (by kernel_rfl)).trans (hK'.2 (1, v1) (by simp))
        · exact (hu3 _ (by kernel_rfl)).trans (hK'.2 (7, v') (by simp))
        · exact (hu3 _ (by kernel_rfl)).trans (hK'.2 (8, .int .i64 s') (by simp))
        · exact (RV.int (h9 : RV w3 (Av c) [] r0 (dI ((i + 1 : Nat) : Int)) _)).1
      -- how many there are
      refine reg_run gamOk (run15 l m .dead .dead .dead (dI s) (dI (i : Nat)) .dead gs.isEmpty gs.length) hd2 hB2 (fr .dead hs0 (by omega) hB2 hN2 hK2 trivial) (fun a3 w3 hd3 hB3 hk3 hf3 _ hu3 => ?_)
      have hN3 := hN2.keeps hA hk3
      have hK3 : KS a3 [(0, v0), (1, v1), (7, v), (8, .int .i64 s), (9, .int .i64 (i : Nat))] := hK2.keep hf3 (fun p hp => by
        simp only [List.mem_cons, List.not_mem_nil, or_false] at hp
        rcases hp with rfl | rfl | rfl | rfl | rfl <;> exact hu3 _ (by kernel_rfl))
      refine wpIn_seq (wpIn_seq ?_)
      -- is there room in the last one?
      have key : run prog 16 (StG l m .dead .dead .dead (.pk gs.isEmpty gs.length) (dI s) (dI (i : Nat)) (dI (gs.length : Nat))) 57 = some (StG l m .dead .dead .dead (.pk gs.isEmpty gs.length) (dI s) (dI (i : Nat)) (dI (gs.length : Nat)), dB (decide (0 < gs.length ∧ s + x ≤ m))) := by
        rw [r16]
        by_cases h : 0 < gs.length
        · rw [tt (show (gs.length : Int) > 0 by omega), cond_true]
          simp only [h, true_and]
        · rw [ff (show ¬ (gs.length : Int) > 0 by omega), cond_false]
          simp only [h, false_and, decide_false]
      refine reg_run gamOk key hd3 hB3 hf3 (fun a4 w4 hd4 hB4 hk4 hf4 hv4 hu4 => cond_run hv4 ?_)
      have hN4 := hN3.keeps hA hk4
      have hK4 : KS a4 [(0, v0), (1, v1), (7, v), (8, .int .i64 s), (9, .int .i64 (i : Nat))] := hK3.keep hf4 (fun p hp => by
        simp only [List.mem_cons, List.not_mem_nil, or_false] at hp
        rcases hp with rfl | rfl | rfl | rfl | rfl <;> exact hu4 _ (by kernel_rfl))
      have h10 : a4.tmps.getD 10 undef = .int .i64 (gs.length : Nat) := (RV.int (hf4.at_ 10 : RV w4 (Av c) [] r0 (dI (gs.length : Nat)) _)).1
      by_cases hr : 0 < gs.length ∧ s + x ≤ m
      · rw [tt hr, if_pos rfl]
        rcases hg with ⟨rfl, _⟩ | ⟨init, ys, rfl, hys, hlen, hT⟩
        · exact absurd hr.1 (by simp)
        rcases hN4 with ⟨e, _⟩ | ⟨init', ys', O, cap, B, capB, E, EB, cur, curB, e, rfl, hNB⟩
        · simp at e
        obtain ⟨rfl, e2⟩ := List.append_inj' e rfl
        simp only [List.cons.injEq, and_true] at e2
        subst e2
        have hyl : 0 < ys.length := List.length_pos_iff.2 hys
        rw [List.length_append, List.length_singleton] at h10
        refine wpIn_seq (reg17 (i := (i : Int)) (ds := ds) (v0 := v0) (v1 := v1) (v8 := .int .i64 s) (by omega) (by omega) (wfI (by omega) (by omega)) hd4 hB4 hNB ⟨hK4.1, fun p hp => ?_⟩ (fun a5 w5 hd5 hB5 hN5 hK5 => ?_))
        · simp only [List.mem_cons, List.not_mem_nil, or_false] at hp
          rcases hp with rfl | rfl | rfl | rfl | rfl | rfl
          · exact hK4.2 _ (by simp)
          · exact hK4.2 _ (by simp)
          · exact hK4.2 _ (by simp)
          · exact hK4.2 _ (by simp)
          · exact hK4.2 _ (by simp)
          · exact h10
        have hK5' := hK5.sub (M := [(0, v0), (1, v1), (7, .slice (some ⟨O, 0, none⟩) (init.length + 1) cap), (8, .int .i64 s), (9, .int .i64 (i : Nat))]) (by
          intro p hp
          simp only [List.mem_cons, List.not_mem_nil, or_false] at hp ⊢
          rcases hp with rfl | rfl | rfl | rfl | rfl <;> simp)
        refine wpIn_seq (reg_run gamOk (r18 (.pk (init ++ [ys ++ [(i : Int)]]).isEmpty (init ++ [ys ++ [(i : Int)]]).length) .dead) hd5 hB5 (fr .dead hs0 (by omega) hB5 hN5 hK5' trivial) (fun a6 w6 hd6 hB6 hk6 hf6 _ hu6 => wpIn_exit ?_))
        show (rgn prog 14).wpIn (Fe none) 0 prog (Exit.then (Code.roundsIn (Fe none) 0 prog (loop2B prog) Q n) Q) a6 w6
        refine next (s' := s + x) (.inr ⟨init, ys ++ [(i : Int)], rfl, by simp, by simp; omega, ?_⟩) (by omega) (by omega) hd6 hB6 (hN5.keeps hA hk6) ⟨hf6.size.trans rfl, fun p hp => ?_⟩
        · rw [hT, hds, grpI, if_neg (fun c => by have := c.2; have := hr.2; omega)]
        · have h8 := hf6.at_ 8
          simp only [List.mem_cons, List.not_mem_nil, or_false] at hp
          rcases hp with rfl | rfl | rfl | rfl | rfl
          · exact (hu6 _ (by kernel_rfl)).trans (hK5'.2 _ (by simp))
          · exact (hu6 _ (by kernel_rfl)).trans (hK5'.2 _ (by simp))
          · exact (hu6 _ (by kernel_rfl)).trans (hK5'.2 _ (by simp))
          · exact (RV.int (h8 : RV w6 (Av c) [] r0 (dI (s + x)) _)).1
          · exact (hu6 _ (by kernel_rfl)).trans (hK5'.2 _ (by simp))
      · rw [ff hr, if_neg (by decide)]
        refine wpIn_skip (wpIn_seq (reg19 (i := (i : Int)) (ds := ds) (by omega) (wfI (by omega) (by omega)) hd4 hB4 hN4 hK4 (fun a5 w5 v5 hd5 hB5 hN5 hK5 => ?_)))
        refine reg_run gamOk (r20 (.pk (gs ++ [[(i : Int)]]).isEmpty (gs ++ [[(i : Int)]]).length) (dI s) .dead) hd5 hB5 (fr .dead hs0 (by omega) hB5 hN5 hK5 trivial) (fun a6 w6 hd6 hB6 hk6 hf6 _ hu6 => ?_)
        refine next (s' := x) (.inr ⟨gs, [(i : Int)], rfl, by simp, by simp; omega, ?_⟩) (by omega) (by omega) hd6 hB6 (hN5.keeps hA hk6) ⟨hf6.size.trans rfl, fun p hp => ?_⟩
        · rcases hg with ⟨rfl, rfl, rfl, hT⟩ | ⟨init, ys, rfl, hys, hlen, hT⟩
          · rw [hT, hds, grpI, if_neg (fun c => c.1 rfl)]
            simp
          · rw [hT, hds, grpI, if_pos ⟨hys, by
              have : 0 < (init ++ [ys]).length := by simp
              have h2 : ¬ s + x ≤ m := fun h => hr ⟨this, h⟩
              omega⟩]
            simp
        · have h8 := hf6.at_ 8
          simp only [List.mem_cons, List.not_mem_nil, or_false] at hp
          rcases hp with rfl | rfl | rfl | rfl | rfl
          · exact (hu6 _ (by kernel_rfl)).trans (hK5.2 _ (by simp))
          · exact (hu6 _ (by kernel_rfl)).trans (hK5.2 _ (by simp))
          · exact (hu6 _ (by kernel_rfl)).trans (hK5.2 _ (by simp))
          · exact (RV.int (h8 : RV w6 (Av c) [] r0 (dI x) _)).1
          · exact (hu6 _ (by kernel_rfl)).trans (hK5.2 _ (by simp))
    · rw [ff (show ¬ (i : Int) < (l.length : Int) by omega), if_neg (by decide)]
      refine wpIn_exit ?_
      have e := hg.done (by omega)
      subst e
      exact hend a2 w2 v _ _ hd2 hB2 hN2 hK2
end
end Go.AI
