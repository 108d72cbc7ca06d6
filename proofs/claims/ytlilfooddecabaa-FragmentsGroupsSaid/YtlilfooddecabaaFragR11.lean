/- The reference's Groups: its contract. -/
import Derived.Test.YtlilfooddecabaaFragR10
import Derived.Test.YtlilfooddecabaaFragS2
namespace Go.AI
open Go Go.RowKit
open Go.Proofs.Try (prog)
set_option maxRecDepth 100000

@[reducible] def qGroups_ps : List PM := [.d (.slc (.int .i64)), .d (.int .i64)]
def qGroups_orc : Orc := Orc.of qGroups_ps false 0 fun x => (qGroups_P x.1 x.2.1, [.d (.slc (.slc (.int .i64))) (qGroups_r0 x.1 x.2.1), .d (.int .i64) (qGroups_r1 x.1 x.2.1)])

theorem run3' (l : List Int) (m : Int) : run prog 3 (StG l m .dead .dead .dead .dead .dead .dead .dead) 19 = some (StG l m .dead .dead .dead .dead .dead .dead .dead, dB (!btw m 1 65536)) := by
  rw [run3]
  by_cases h1 : m < 1
  · have : btw m 1 65536 = false := by cases hb : btw m 1 65536 with
      | false => rfl
      | true => have := btw_iff.1 hb; omega
    rw [tt h1, cond_true, this]; rfl
  · rw [ff h1, cond_false]
    by_cases h2 : m > 65536
    · have : btw m 1 65536 = false := by cases hb : btw m 1 65536 with
        | false => rfl
        | true => have := btw_iff.1 hb; omega
      rw [tt h2, this]; rfl
    · rw [ff h2, btw_iff.2 ⟨by omega, by omega⟩]; rfl

theorem qGroups_contract : Contract prog qG qGroups_orc := by
  have hres := qG_res
  have hbody := qG_body
  cases hf : prog.funcs[qG]? with
  | none => rw [hf] at hres; cases hres
  | some fn =>
  rw [hf] at hres hbody
  simp only [Option.map_some, Option.some.injEq, Prod.mk.injEq, Option.bind_some] at hres hbody
  obtain ⟨e1, e2, e3⟩ := hres
  refine ⟨⟨fn, hf, noNumB_ok num_ok qG fn hf e3, e3⟩, fun bs rs hk hm c ρ vals hst hv RR hRR => ?_⟩
  have hk' : (argsTake qGroups_ps bs).map (fun x => (qGroups_P x.1 x.2.1, [BV.d (.slc (.slc (.int .i64))) (qGroups_r0 x.1 x.2.1), .d (.int .i64) (qGroups_r1 x.1 x.2.1)])) = some (true, rs) := hk
  cases ht : argsTake qGroups_ps bs with
  | none => rw [ht] at hk'; cases hk'
  | some x =>
  rw [ht] at hk'
  simp only [Option.map_some, Option.some.injEq, Prod.mk.injEq] at hk'
  obtain ⟨_, rfl⟩ := hk'
  have hbs := argsTake_eq qGroups_ps ht
  subst hbs
  obtain ⟨l, m, u⟩ := x
  have hv : AllRV c.w0 (Avoid c.X [] ρ) [] ρ [.dat rowS l, dI m] vals := hv
  have hst : StOk c c.w0 [] ρ := hst
  have hRR : ∀ v us w' ρ', StOk c w' [] ρ' → AllRV w' (Avoid c.X [] ρ') [] ρ' [.dat (.slc rowS) (fGroups_r0 l m), dI (fGroups_r1 l m)] us → IsPacked us v → RR (.returned v) w' := hRR
  refine calls_fe (rd := none) (n := 0) (callsIn_of_wp_marks hf hbody trivial ?_ rfl)
  have hsz : vals.toArray.size = 2 := by simp [hv.length]
  rw [hsz, e2]
  have hB0 : Bs c c.w0 c.w0 [] := ⟨st_nil hst.fr hst.old, Keeps.refl _ _, ⟨[], rfl, List.nodup_nil, fun D hD => by cases hD⟩, Nat.le_refl _⟩
  have hv0 : AllRV c.w0 (Av c) [] r0 [.dat rowS l, dI m] vals := hv.mono fun _ _ => rv_nil
  have hf0 : FrOk c.w0 (Av c) [] r0 (StG l m .dead .dead .dead .dead .dead .dead .dead) (vals.toArray ++ Array.replicate (86 - 2) undef) := frame_pad hv0 84
  generalize ha0 : ({ tmps := vals.toArray ++ Array.replicate (86 - 2) undef, defers := [] } : Act) = a0
  have hf0 : FrOk c.w0 (Av c) [] r0 (StG l m .dead .dead .dead .dead .dead .dead .dead) a0.tmps := by rw [← ha0]; exact hf0
  have hd0 : a0.defers = [] := by rw [← ha0]
  -- the ends
  have bad : ∀ {a' : Act} {w' : World} (k : Int) {v6 v7 v8 v9 v10 : AV} {w1 : World}, fGroups_r0 l m = [] → fGroups_r1 l m = k → a'.defers = [] → Bs c w1 w' [] → FrOk w' (Av c) [] r0 (StG l m .nils (dI k) v6 v7 v8 v9 v10) a'.tmps → LeavesInM (Fe none) 0 prog fn a'.tmps RR a'.defers .returning w' := fun {a' w'} k {v6 v7 v8 v9 v10 w1} q0 q1 hd hB hfr => by
    rw [q0, q1] at hRR
    exact end_ok (w1 := w1) (vs := [.nils, dI k]) (vs' := [.dat (.slc rowS) [], dI k]) gamOk (by rw [hd]; exact hB) hfr (by rw [e1]; rfl) (fun w us ⟨u1, r1, q1, q2, q3⟩ => ⟨u1, r1, q1, nils_dat q2, q3⟩) hRR
  refine wpIn_seq (reg_run gamOk (run0 l m .dead .dead .dead .dead .dead .dead .dead) hd0 hB0 hf0 (fun a1 w1 hd1 hB1 _ hf1 _ _ => ?_))
  have hf1 : FrOk w1 (Av c) [] r0 (StG l m .dead .dead .dead .dead .dead .dead .dead) a1.tmps := keepA_ok hf1 [0, 1]
  refine wpIn_seq (wpIn_seq (reg_run gamOk (run1 l m .dead .dead .dead .dead .dead .dead .dead) hd1 hB1 hf1 (fun a2 w2 hd2 hB2 _ hf2 hv2 _ => cond_run hv2 ?_)))
  by_cases hl : (l.length : Int) > 4096
  · rw [tt hl, if_pos rfl]
    refine wpIn_seq (reg_run gamOk (run2 l m .dead .dead .dead .dead .dead .dead .dead) hd2 hB2 hf2 (fun a3 w3 hd3 hB3 _ hf3 _ _ => wpIn_ret ?_))
    have e : grpE l m = 6 := if_pos (by omega)
    exact bad 6 (by unfold fGroups_r0; rw [e]; rfl) e hd3 hB3 hf3
  rw [ff hl, if_neg (by decide)]
  have e : grpE l m = if btw m 1 65536 = true ∧ (l.all fun n => btw n 1 65536) = true then 0 else 2 := if_neg (by omega)
  refine wpIn_skip (wpIn_seq (wpIn_seq ?_))
  refine reg_run gamOk (run3' l m) hd2 hB2 hf2 (fun a3 w3 hd3 hB3 _ hf3 hv3 _ => cond_run hv3 ?_)
  cases hmb : btw m 1 65536 with
  | false =>
    rw [if_pos (show (!false) = true from rfl)]
    refine wpIn_seq (reg_run gamOk (run4 l m .dead .dead .dead .dead .dead .dead .dead) hd3 hB3 hf3 (fun a4 w4 hd4 hB4 _ hf4 _ _ => wpIn_ret ?_))
    rw [if_neg (fun c => by rw [hmb] at c; cases c.1)] at e
    exact bad 2 (by unfold fGroups_r0; rw [e]; rfl) e hd4 hB4 hf4
  | true =>
  rw [if_neg (show ¬ (!true) = true by decide)]
  have hm2 := btw_iff.1 hmb
  refine wpIn_skip (wpIn_seq (wpIn_seq (reg_run gamOk (run5 l m .dead .dead .dead .dead .dead .dead .dead) hd3 hB3 hf3 (fun a4 w4 hd4 hB4 _ hf4 _ _ => ?_))))
  refine wpIn_block (wpIn_loop_rounds (l.length + 1) (loop1 (ds := []) (l := l) (m := m) (by omega) (fun a5 w5 hd5 hB5 hf5 hall => ?_) (fun a5 w5 hd5 hB5 hf5 hall => ?_) l.length (l.length + 1) 0 (by omega) (by omega) rfl hd4 hB4 hf4))
  · rw [if_neg (fun c => by rw [hall] at c; cases c.2)] at e
    exact bad 2 (by unfold fGroups_r0; rw [e]; rfl) e hd5 hB5 hf5
  rw [if_pos ⟨hmb, hall⟩] at e
  have hok := List.all_eq_true.1 hall
  show Code.wpIn (Fe none) 0 prog _ _ a5 w5
  refine wpIn_seq (reg_run gamOk (run10 l m .dead .dead .dead .dead .dead .dead .dead) hd5 hB5 hf5 (fun a6 w6 hd6 hB6 _ hf6 _ _ => ?_))
  refine wpIn_seq (reg_run gamOk (run11 l m .dead .dead .dead .nils .dead .dead .dead) hd6 hB6 hf6 (fun a7 w7 hd7 hB7 _ hf7 _ _ => ?_))
  refine wpIn_seq (wpIn_seq (reg_run gamOk (run12 l m .dead .dead .dead .nils (dI 0) .dead .dead) hd7 hB7 hf7 (fun a8 w8 hd8 hB8 _ hf8 _ _ => ?_)))
  have hB9 : Bs c w8 w8 [] := ⟨hB8.st, Keeps.refl _ _, hB8.dfr, hB8.st.fr.size⟩
  have h7 : a8.tmps.getD 7 undef = .slice none 0 0 := by
    have h : [a8.tmps.getD 7 undef] = [Value.slice none 0 0] := hf8.at_ 7
    simpa using h
  have h8 : a8.tmps.getD 8 undef = .int .i64 0 := (RV.int (hf8.at_ 8 : RV w8 (Av c) [] r0 (dI 0) _)).1
  have h9 : a8.tmps.getD 9 undef = .int .i64 0 := (RV.int (hf8.at_ 9 : RV w8 (Av c) [] r0 (dI 0) _)).1
  refine wpIn_block (wpIn_loop_rounds (l.length + 1) (loop2 (ds := []) (T := grpI m l 0 0 []) (l := l) (m := m) (v0 := a8.tmps.getD 0 undef) (v1 := a8.tmps.getD 1 undef) (by omega) hm2.2 hok (hf8.at_ 0) (hf8.at_ 1) (fun a9 w9 v s i hd9 hB9 hN9 hK9 => ?_)
    l.length (l.length + 1) 0 (s := 0) (gs := []) (v := .slice none 0 0) (by omega) (by omega) (.inl ⟨rfl, rfl, rfl, rfl⟩) (by omega) (by omega) hd8 hB9 (.inl ⟨rfl, rfl⟩) ⟨hf8.size.trans rfl, fun p hp => ?_⟩))
  · show Code.wpIn (Fe none) 0 prog _ _ a9 w9
    have hA : ∀ g, w8.heap.size ≤ g → ¬ Av c g := fun g hg => hB9.notAv hg
    have hf9 : FrOk w9 (Av c) [] r0 (StG l m .dead .dead .dead (.dat (.slc rowS) (grpI m l 0 0 [])) .dead .dead .dead) a9.tmps := by
      refine st_fr hK9 ?_ ?_ ?_ trivial trivial trivial
      · rw [hK9.2 (0, a8.tmps.getD 0 undef) (by simp)]; exact hB9.rv (hf8.at_ 0)
      · rw [hK9.2 (1, a8.tmps.getD 1 undef) (by simp)]; exact hB9.rv (hf8.at_ 1)
      · rw [hK9.2 (7, v) (by simp)]; exact hN9.dat hA
    refine wpIn_seq (reg_run gamOk (run21 l m .dead .dead .dead (.dat (.slc rowS) (grpI m l 0 0 [])) .dead .dead .dead) hd9 hB9 hf9 (fun a10 w10 hd10 hB10 _ hf10 _ _ => wpIn_ret ?_))
    have q0 : fGroups_r0 l m = grpI m l 0 0 [] := by unfold fGroups_r0; rw [e]; rfl
    have q1 : fGroups_r1 l m = 0 := e
    rw [q0, q1] at hRR
    exact end_ok (w1 := w8) (vs := [.dat (.slc rowS) (grpI m l 0 0 []), dI 0]) (vs' := [.dat (.slc rowS) (grpI m l 0 0 []), dI 0]) gamOk (by rw [hd10]; exact hB10) hf10 (by rw [e1]; rfl) (fun w us h => h) hRR
  · simp only [List.mem_cons, List.not_mem_nil, or_false] at hp
    rcases hp with rfl | rfl | rfl | rfl | rfl
    · rfl
    · rfl
    · exact h7
    · exact h8
    · exact h9
end Go.AI
