/- The reference's Groups: the two appends, walked. -/
import Derived.Test.YtlilfooddecabaaFragR7
namespace Go.AI
open Go Go.RowKit
open Go.Proofs.Try (prog)
set_option maxRecDepth 100000

theorem tri {α β γ : Type} {a a' : α} {b b' : β} {c c' : γ} (h : (a, b, c) = (a', b', c')) : a = a' ∧ b = b' ∧ c = c' := ⟨congrArg (·.1) h, congrArg (·.2.1) h, congrArg (·.2.2) h⟩

section
variable {c : Ctx prog} {w1 w : World} {a : Act} {ds : List Deferred} {Q : Exit → Act → World → Prop}

/-- A known slot's number, less one. -/
theorem dec_ok {n : Nat} (hn : n ≤ 65536) : subI ((n + 1 : Nat) : Int) 1 = (n : Int) := by
  rw [subI_eq (by omega) (by omega)]; omega

theorem reg17 {v0 v1 v8 : Value} {i : Int} {init : List (List Int)} {ys : List Int} {O cap B capB : Nat} {E EB : TypeId} {cur curB : Array Value} (hlen : init.length ≤ 65535) (hys : ys.length ≤ 65535) (hi : (Lit.int .i64 i).wf = true)
    (hd : a.defers = ds) (hB : Bs c w1 w ds) (h : NB c w1 w init ys O cap B capB E EB cur curB)
    (hK : KS a [(0, v0), (1, v1), (7, .slice (some ⟨O, 0, none⟩) (init.length + 1) cap), (8, v8), (9, .int .i64 i), (10, .int .i64 ((init.length + 1 : Nat) : Int))])
    (hn : ∀ a' w', a'.defers = ds → Bs c w1 w' ds → NS c w1 w' (.slice (some ⟨O, 0, none⟩) (init.length + 1) cap) (init ++ [ys ++ [i]]) →
      KS a' [(0, v0), (1, v1), (7, .slice (some ⟨O, 0, none⟩) (init.length + 1) cap), (8, v8), (9, .int .i64 i), (10, .int .i64 ((init.length + 1 : Nat) : Int))] → Q .normal a' w') :
    (rgn prog 17).wpIn (Fe none) 0 prog Q a w := by
  have hA : ∀ g, w1.heap.size ≤ g → ¬ Av c g := fun g hg => hB.notAv hg
  refine wpIn_region_list ?_
  suffices hs : ∀ ops : Array Oper, ops.toList = rg prog 17 → wpListIn (Fe none) 0 prog ops Q [op prog 17 0, op prog 17 1, op prog 17 2, op prog 17 3, op prog 17 4, op prog 17 5, op prog 17 6, op prog 17 7, op prog 17 8, op prog 17 9, op prog 17 10, op prog 17 11, op prog 17 12] a w by
    have := hs (rg prog 17).toArray (by simp)
    rw [← e17] at this
    simpa using this
  intro ops hops
  have hint : ∀ {w : World} {a : Act} {L : List (Nat × Value)}, KS a L → (10, Value.int .i64 ((init.length + 1 : Nat) : Int)) ∈ L → FrOk w (Av c) [] r0 (one 10 (dI ((init.length + 1 : Nat) : Int))) a.tmps := fun {w a L} hk hm => by
    refine one_fr (by omega) hk.1 ?_
    rw [hk.2 _ hm]
    exact RV.mk_int (k := .i64) (a := ((init.length + 1 : Nat) : Int)) (by simp [Lit.wf, IntKind.min, IntKind.max, IntKind.signed, IntKind.bits, toI]; omega)
  obtain ⟨g0, p0, d0⟩ := tri o17_0
  obtain ⟨g3, p3, d3⟩ := tri o17_3
  obtain ⟨g6, p6, d6⟩ := tri o17_6
  obtain ⟨g7, p7, d7⟩ := tri o17_7
  obtain ⟨g8, p8, d8⟩ := tri o17_8
  obtain ⟨g9, p9, d9⟩ := tri o17_9
  obtain ⟨g10, p10, d10⟩ := tri o17_10
  obtain ⟨g11, p11, d11⟩ := tri o17_11
  obtain ⟨g12, p12, d12⟩ := tri o17_12
  -- t58
  refine raw_move g0 (.inl p0) ?_
  rw [d0, hK.ev (t := 7) (v := (.slice (some ⟨O, 0, none⟩) (init.length + 1) cap)) (by simp)]
  have k1 := hK.put (d := 58) (.slice (some ⟨O, 0, none⟩) (init.length + 1) cap) (by omega) (by rfl)
  have hd1 := (put_defers a (some 58) (.slice (some ⟨O, 0, none⟩) (init.length + 1) cap)).trans hd
  generalize a.put (some 58) _ = a1 at k1 hd1 ⊢
  -- t60
  refine ops_run (pre := [op prog 17 1, op prog 17 2]) gamOk hops (f17_1 _) hd1 hB (hint k1 (by simp)) (fun a2 w2 hd2 hB2 hk2 hf2 hv2 hu2 => ?_)
  have h2 := h.keeps hA hk2
  have k2 : KS a2 ((60, .int .i64 (init.length : Int)) :: (58, .slice (some ⟨O, 0, none⟩) (init.length + 1) cap) :: [(0, v0), (1, v1), (7, .slice (some ⟨O, 0, none⟩) (init.length + 1) cap), (8, v8), (9, .int .i64 i), (10, .int .i64 ((init.length + 1 : Nat) : Int))]) := by
    refine ⟨hf2.size.trans (by simp [one]), fun p hp => ?_⟩
    rcases List.mem_cons.1 hp with rfl | hp
    · have := (RV.int hv2).1
      rw [dec_ok (by omega)] at this
      exact this
    · rw [← k1.2 p hp]
      simp only [List.mem_cons, List.not_mem_nil, or_false] at hp
      rcases hp with rfl | rfl | rfl | rfl | rfl | rfl | rfl <;> exact hu2 _ (by kernel_rfl)
  -- t61
  refine raw_move g3 (.inl p3) ?_
  rw [d3, k2.ev (t := 7) (v := (.slice (some ⟨O, 0, none⟩) (init.length + 1) cap)) (by simp)]
  have k3 := k2.put (d := 61) (.slice (some ⟨O, 0, none⟩) (init.length + 1) cap) (by omega) (by rfl)
  have hd3 := (put_defers a2 (some 61) (.slice (some ⟨O, 0, none⟩) (init.length + 1) cap)).trans hd2
  generalize a2.put (some 61) _ = a3 at k3 hd3 ⊢
  -- t63
  refine ops_run (pre := [op prog 17 4, op prog 17 5]) gamOk hops (f17_4 _) hd3 hB2 (hint k3 (by simp)) (fun a4 w4 hd4 hB4 hk4 hf4 hv4 hu4 => ?_)
  have h4 := h2.keeps hA hk4
  have k4 : KS a4 ((63, .int .i64 (init.length : Int)) :: (61, .slice (some ⟨O, 0, none⟩) (init.length + 1) cap) :: (60, .int .i64 (init.length : Int)) :: (58, .slice (some ⟨O, 0, none⟩) (init.length + 1) cap) :: [(0, v0), (1, v1), (7, .slice (some ⟨O, 0, none⟩) (init.length + 1) cap), (8, v8), (9, .int .i64 i), (10, .int .i64 ((init.length + 1 : Nat) : Int))]) := by
    refine ⟨hf4.size.trans (by simp [one]), fun p hp => ?_⟩
    rcases List.mem_cons.1 hp with rfl | hp
    · have := (RV.int hv4).1
      rw [dec_ok (by omega)] at this
      exact this
    · rw [← k3.2 p hp]
      simp only [List.mem_cons, List.not_mem_nil, or_false] at hp
      rcases hp with rfl | rfl | rfl | rfl | rfl | rfl | rfl | rfl | rfl <;> exact hu4 _ (by kernel_rfl)
  -- t64, t65
  refine raw_index gamOk g6 p6 tOuter tInner rfl (k4.ev (t := 61) (v := (.slice (some ⟨O, 0, none⟩) (init.length + 1) cap)) (by simp)) (k4.ev (t := 63) (v := (.int .i64 (init.length : Int))) (by simp)) (Nat.lt_succ_self _) ?_
  rw [d6]
  have k5 := k4.put (d := 64) (.pointer (some ⟨O, init.length, none⟩)) (by omega) (by rfl)
  have hd5 := (put_defers a4 (some 64) (.pointer (some ⟨O, init.length, none⟩))).trans hd4
  generalize a4.put (some 64) _ = a5 at k5 hd5 ⊢
  refine raw_load gamOk g7 p7 tInner rfl rfl (k5.ev (t := 64) (v := (.pointer (some ⟨O, init.length, none⟩))) (by simp)) h4.bO h4.last ?_
  rw [d7]
  have k6 := k5.put (d := 65) (.slice (some ⟨B, 0, none⟩) ys.length capB) (by omega) (by rfl)
  have hd6 := (put_defers a5 (some 65) (.slice (some ⟨B, 0, none⟩) ys.length capB)).trans hd5
  generalize a5.put (some 65) _ = a6 at k6 hd6 ⊢
  -- t66, t67
  refine raw_move g8 (.inl p8) ?_
  rw [d8, k6.ev (t := 9) (v := (.int .i64 i)) (by simp)]
  have k7 := k6.put (d := 66) (.int .i64 i) (by omega) (by rfl)
  have hd7 := (put_defers a6 (some 66) (.int .i64 i)).trans hd6
  generalize a6.put (some 66) _ = a7 at k7 hd7 ⊢
  refine raw_build gamOk g9 p9 elInner rfl (k7.ev (t := 66) (v := (.int .i64 i)) (by simp)) rfl ?_
  rw [d9]
  have k8 := k7.put (d := 67) (.slice (some ⟨w4.heap.size, 0, none⟩) 1 1) (by omega) (by rfl)
  have hd8 := (put_defers a7 (some 67) (.slice (some ⟨w4.heap.size, 0, none⟩) 1 1)).trans hd7
  generalize a7.put (some 67) _ = a8 at k8 hd8 ⊢
  -- t68
  obtain ⟨w5, B', capB', EB', curB', hrun, hO5, hst⟩ := h4.app (ty := (op prog 17 10).type) gamOk hB4 elInner hi (by simp only [big]; omega) 3
  refine raw_append g10 p10 (k8.ev (t := 65) (v := (.slice (some ⟨B, 0, none⟩) ys.length capB)) (by simp)) (k8.ev (t := 67) (v := (.slice (some ⟨w4.heap.size, 0, none⟩) 1 1)) (by simp)) hrun ?_
  rw [d10]
  have k9 := k8.put (d := 68) (.slice (some ⟨B', 0, none⟩) (ys.length + 1) capB') (by omega) (by rfl)
  have hd9 := (put_defers a8 (some 68) (.slice (some ⟨B', 0, none⟩) (ys.length + 1) capB')).trans hd8
  generalize a8.put (some 68) _ = a9 at k9 hd9 ⊢
  -- t69, the store
  refine raw_index gamOk g11 p11 tOuter tInner rfl (k9.ev (t := 58) (v := (.slice (some ⟨O, 0, none⟩) (init.length + 1) cap)) (by simp)) (k9.ev (t := 60) (v := (.int .i64 (init.length : Int))) (by simp)) (Nat.lt_succ_self _) ?_
  rw [d11]
  have k10 := k9.put (d := 69) (.pointer (some ⟨O, init.length, none⟩)) (by omega) (by rfl)
  have hd10 := (put_defers a9 (some 69) (.pointer (some ⟨O, init.length, none⟩))).trans hd9
  generalize a9.put (some 69) _ = a10 at k10 hd10 ⊢
  refine raw_store gamOk g12 p12 tInner rfl (k10.ev (t := 69) (v := (.pointer (some ⟨O, init.length, none⟩))) (by simp)) (k10.ev (t := 68) (v := (.slice (some ⟨B', 0, none⟩) (ys.length + 1) capB')) (by simp)) rfl rfl hO5 (by have := h.cO; omega) (fun w6 ho6 hb6 => ?_)
  rw [d12]
  obtain ⟨hB6, h6⟩ := hst w6 ho6 hb6
  exact hn _ w6 hd10 hB6 (.inr ⟨init, ys ++ [i], O, cap, B', capB', E, EB', _, curB', rfl, rfl, h6⟩) (k10.sub (by
    intro p hp
    simp only [List.mem_cons, List.not_mem_nil, or_false] at hp ⊢
    rcases hp with rfl | rfl | rfl | rfl | rfl | rfl <;> simp))

theorem e19 : rg prog 19 = [op prog 19 0, op prog 19 1, op prog 19 2, op prog 19 3, op prog 19 4, op prog 19 5] := by kernel_rfl
theorem o19_0 : ((op prog 19 0).guard, (op prog 19 0).op, (op prog 19 0).dst) = (none, .move (.tmp 7), some 76) := by kernel_rfl
theorem o19_1 : ((op prog 19 1).guard, (op prog 19 1).op, (op prog 19 1).dst) = (none, .move (.tmp 9), some 77) := by kernel_rfl
theorem o19_2 : ((op prog 19 2).guard, (op prog 19 2).op, (op prog 19 2).dst) = (none, .buildSlice 45 1 #[(0, .tmp 77)], some 78) := by kernel_rfl
theorem o19_3 : ((op prog 19 3).guard, (op prog 19 3).op, (op prog 19 3).dst) = (none, .buildSlice 46 1 #[(0, .tmp 78)], some 79) := by kernel_rfl
theorem o19_4 : ((op prog 19 4).guard, (op prog 19 4).op, (op prog 19 4).dst) = (none, .call { callee := .builtin .append, args := #[.tmp 76, .tmp 79], argTypes := #[46, 46] }, some 80) := by kernel_rfl
theorem o19_5 : ((op prog 19 5).guard, (op prog 19 5).op, (op prog 19 5).dst) = (none, .assign (.tmp 80), some 7) := by kernel_rfl

theorem reg19 {v0 v1 v8 v : Value} {i : Int} {gs : List (List Int)} (hlen : gs.length ≤ 65535) (hi : (Lit.int .i64 i).wf = true) (hd : a.defers = ds) (hB : Bs c w1 w ds) (h : NS c w1 w v gs)
    (hK : KS a [(0, v0), (1, v1), (7, v), (8, v8), (9, .int .i64 i)])
    (hn : ∀ a' w' v', a'.defers = ds → Bs c w1 w' ds → NS c w1 w' v' (gs ++ [[i]]) → KS a' [(0, v0), (1, v1), (7, v'), (8, v8), (9, .int .i64 i)] → Q .normal a' w') :
    (rgn prog 19).wpIn (Fe none) 0 prog Q a w := by
  refine wpIn_region_list ?_
  suffices hs : ∀ ops : Array Oper, ops.toList = rg prog 19 → wpListIn (Fe none) 0 prog ops Q [op prog 19 0, op prog 19 1, op prog 19 2, op prog 19 3, op prog 19 4, op prog 19 5] a w by
    have := hs (rg prog 19).toArray (by simp)
    rw [← e19] at this
    simpa using this
  intro ops hops
  obtain ⟨g0, p0, d0⟩ := tri o19_0
  obtain ⟨g1, p1, d1⟩ := tri o19_1
  obtain ⟨g2, p2, d2⟩ := tri o19_2
  obtain ⟨g3, p3, d3⟩ := tri o19_3
  obtain ⟨g4, p4, d4⟩ := tri o19_4
  obtain ⟨g5, p5, d5⟩ := tri o19_5
  refine raw_move g0 (.inl p0) ?_
  rw [d0, hK.ev (t := 7) (v := v) (by simp)]
  have k1 := hK.put (d := 76) v (by omega) (by rfl)
  have hd1 := (put_defers a (some 76) v).trans hd
  generalize a.put (some 76) _ = a1 at k1 hd1 ⊢
  refine raw_move g1 (.inl p1) ?_
  rw [d1, k1.ev (t := 9) (v := (.int .i64 i)) (by simp)]
  have k2 := k1.put (d := 77) (.int .i64 i) (by omega) (by rfl)
  have hd2 := (put_defers a1 (some 77) (.int .i64 i)).trans hd1
  generalize a1.put (some 77) _ = a2 at k2 hd2 ⊢
  refine raw_build gamOk g2 p2 elInner rfl (k2.ev (t := 77) (v := (.int .i64 i)) (by simp)) rfl ?_
  rw [d2]
  have k3 := k2.put (d := 78) (.slice (some ⟨w.heap.size, 0, none⟩) 1 1) (by omega) (by rfl)
  have hd3 := (put_defers a2 (some 78) (.slice (some ⟨w.heap.size, 0, none⟩) 1 1)).trans hd2
  generalize a2.put (some 78) _ = a3 at k3 hd3 ⊢
  refine raw_build gamOk g3 p3 elOuter rfl (k3.ev (t := 78) (v := (.slice (some ⟨w.heap.size, 0, none⟩) 1 1)) (by simp)) rfl ?_
  rw [d3]
  have hsz : (w.alloc (.cells #[Value.int .i64 i] 3)).heap.size = w.heap.size + 1 := by simp
  rw [hsz]
  have k4 := k3.put (d := 79) (.slice (some ⟨w.heap.size + 1, 0, none⟩) 1 1) (by omega) (by rfl)
  have hd4 := (put_defers a3 (some 79) (.slice (some ⟨w.heap.size + 1, 0, none⟩) 1 1)).trans hd3
  generalize a3.put (some 79) _ = a4 at k4 hd4 ⊢
  obtain ⟨v', w3, hrun, hB3, h3⟩ := h.app (ty := (op prog 19 4).type) gamOk hB elOuter hi (by simp only [big]; omega) 3 45
  refine raw_append g4 p4 (k4.ev (t := 76) (v := v) (by simp)) (k4.ev (t := 79) (v := (.slice (some ⟨w.heap.size + 1, 0, none⟩) 1 1)) (by simp)) hrun ?_
  rw [d4]
  have k5 := k4.put (d := 80) v' (by omega) (by rfl)
  have hd5 := (put_defers a4 (some 80) v').trans hd4
  generalize a4.put (some 80) _ = a5 at k5 hd5 ⊢
  refine raw_move g5 (.inr p5) ?_
  rw [d5, k5.ev (t := 80) (v := v') (by simp)]
  have k6 := (k5.sub (M := [(0, v0), (1, v1), (8, v8), (9, .int .i64 i)]) (by
    intro p hp
    simp only [List.mem_cons, List.not_mem_nil, or_false] at hp ⊢
    rcases hp with rfl | rfl | rfl | rfl <;> simp)).put (d := 7) v' (by omega) (by rfl)
  exact hn _ w3 v' ((put_defers a5 (some 7) v').trans hd5) hB3 h3 (k6.sub (by
    intro p hp
    simp only [List.mem_cons, List.not_mem_nil, or_false] at hp ⊢
    rcases hp with rfl | rfl | rfl | rfl | rfl <;> simp))
end
end Go.AI
