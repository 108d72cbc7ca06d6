/- What the two appends do to the slice of slices; single operations by hand. -/
import Derived.Test.YtlilfooddecabaaFragR3
namespace Go.AI
open Go Go.RowKit

section
variable {P : Program} {Γ : Gam} {c : Ctx P} {w1 w w' : World} {ρ ρ' : Rho} {a : Act} {ds : List Deferred}
variable {init : List (List Int)} {ys : List Int} {O cap B capB : Nat} {E EB : TypeId} {cur curB : Array Value}

theorem splice_one {cur : Array Value} {k : Nat} {v : Value} (h : k < cur.size) : (splice cur k [v]).size = cur.size ∧ (splice cur k [v]).toList.take k = cur.toList.take k ∧ (splice cur k [v]).toList[k]? = some v := by
  refine ⟨splice_size (by simp; omega), ?_, ?_⟩
  · simp only [splice, List.toList_toArray, List.append_assoc]
    rw [List.take_append_of_le_length (by simp; omega), List.take_take, Nat.min_self]
  · simp only [splice, List.toList_toArray, List.append_assoc]
    have hk : (cur.toList.take k).length = k := by simp; omega
    rw [List.getElem?_append_right (by omega), hk, Nat.sub_self]
    rfl

/-- Rows keep out of what is written and of what is new. -/
theorem rows_keep {init : List (List Int)} {L : List Value} {A A' : Nat → Prop} {w w' : World} (hk : Keeps A w w') (hA : ∀ b, b < w.heap.size → A' b → A b) (h : RepL (RepC w A rowS) init L) : RepL (RepC w' A' rowS) init L :=
  RepL.mono (fun _ _ => RepC.keeps hk hA rowS) h

/-- The last row grows by a number. -/
theorem NB.app (hΓ : GamOk P Γ) (hB : Bs c w1 w ds) (h : NB c w1 w init ys O cap B capB E EB cur curB) {t E0 ty : TypeId} (hel : Γ.elem t = some (E0, .int .i64)) {i : Int} (hi : (Lit.int .i64 i).wf = true) (hbig : ys.length + 1 ≤ big) (E1 : TypeId) :
    ∃ w3 B' capB' EB' curB', (Builtin.append_ #[t, t] ty #[.slice (some ⟨B, 0, none⟩) ys.length capB, .slice (some ⟨w.heap.size, 0, none⟩) 1 1]).run P (w.alloc (.cells #[.int .i64 i] E1)) = .ok (.slice (some ⟨B', 0, none⟩) (ys.length + 1) capB') w3 ∧
      Blk w3 O E cur ∧ ∀ w4, OnlyBlk O w3 w4 → Blk w4 O E (splice cur init.length [.slice (some ⟨B', 0, none⟩) (ys.length + 1) capB']) →
        Bs c w1 w4 ds ∧ NB c w1 w4 init (ys ++ [i]) O cap B' capB' E EB' (splice cur init.length [.slice (some ⟨B', 0, none⟩) (ys.length + 1) capB']) curB' := by
  have hA : ∀ g, w1.heap.size ≤ g → ¬ Av c g := fun g hg => hB.notAv hg
  have hB2 := hB.alloc (.cells #[.int .i64 i] E1)
  have hk2 : Keeps (Av c) w (w.alloc (.cells #[.int .i64 i] E1)) := ⟨by simp, fun b hb _ => heap_alloc w _ b hb⟩
  have h2 := h.keeps hA hk2
  have hs : Src P (w.alloc (.cells #[.int .i64 i] E1)) 1 (.slice (some ⟨w.heap.size, 0, none⟩) 1 1) 1 [.int .i64 i] := src_blk (blk_new w #[.int .i64 i] E1) (n := 1) (by simp) 1
  obtain ⟨w3, B', capB', EB', curB', hrun, k1, k2, k3, k4, k5, k6⟩ := app_gen (ty := ty) hΓ hel rfl h2.bB h2.cB.1 h2.cB.2.1 h2.cB.2.2 hs rfl hbig
  have hBO := h.ge.2.2
  have hlenO : init.length < cur.size := by have := h.cO; omega
  obtain ⟨p1, p2, p3⟩ := splice_one (v := .slice (some ⟨B', 0, none⟩) (ys.length + 1) capB') hlenO
  have hints : RepL (RepC w (Av c) (.int .i64)) (ys ++ [i]) (curB'.toList.take (ys ++ [i]).length) := by
    rw [List.length_append, List.length_singleton, k5]
    exact RepL.append (rep_int h.ints) ⟨_, [], rfl, ⟨rfl, hi⟩, rfl⟩
  rcases k6 with ⟨rfl, ho⟩ | ⟨rfl, ob, rfl⟩
  · have hB3 := hB2.only h2.bB h2.ge.2.1 ho
    have bO3 : Blk w3 O E cur := by
      obtain ⟨fr, q1, q2⟩ := h2.bO
      exact ⟨fr, (ho.oth O hBO).trans q1, q2⟩
    refine ⟨w3, B', capB', EB', curB', hrun, bO3, fun w4 ho4 hb4 => ⟨hB3.only bO3 h.ge.1 ho4, hb4, ?_, h.ge, ?_, ?_, ?_, ?_, rep_int hints⟩⟩
    · obtain ⟨fr, q1, q2⟩ := k1
      exact ⟨fr, (ho4.oth B' (Ne.symm hBO)).trans q1, q2⟩
    · rw [p1]; exact h.cO
    · rw [List.length_append]; exact ⟨k2, k3, k4⟩
    · rw [p2]
      refine rows_keep (A := AvB c O B') (w := w.alloc (.cells #[.int .i64 i] E1)) ⟨?_, fun b hb hn => ?_⟩ (fun _ _ ha => ha) h2.rows
      · rw [ho4.size, ho.size]; exact Nat.le_refl _
      · rw [ho4.oth b (fun e => hn (.inr (.inl e))), ho.oth b (fun e => hn (.inr (.inr e)))]
    · rw [p3, List.length_append]; rfl
  · have hB3 := hB2.drew.alloc ob
    have hk3 : Keeps (Av c) (w.alloc (.cells #[.int .i64 i] E1)) ((w.alloc (.cells #[.int .i64 i] E1)).drew.alloc ob) := ⟨by rw [show ((w.alloc (.cells #[.int .i64 i] E1)).drew.alloc ob).heap.size = (w.alloc (.cells #[.int .i64 i] E1)).drew.heap.size + 1 by simp]; exact Nat.le_succ _, fun b hb _ => heap_alloc _ _ b hb⟩
    have h3 := h2.keeps hA hk3
    have hOlt := h2.bO.lt
    refine ⟨_, _, capB', EB', curB', hrun, h3.bO, fun w4 ho4 hb4 => ⟨hB3.only h3.bO h.ge.1 ho4, hb4, ?_, ⟨h.ge.1, ?_, by omega⟩, ?_, ?_, ?_, ?_, rep_int hints⟩⟩
    · obtain ⟨fr, q1, q2⟩ := k1
      exact ⟨fr, (ho4.oth _ (by omega)).trans q1, q2⟩
    · exact hB2.keeps.size
    · rw [p1]; exact h.cO
    · rw [List.length_append]; exact ⟨k2, k3, k4⟩
    · rw [p2]
      refine rows_keep (A := AvB c O B) (w := w.alloc (.cells #[.int .i64 i] E1)) ⟨?_, fun b hb hn => ?_⟩ (fun b hb ha => ?_) h2.rows
      · rw [ho4.size]; exact hk3.size
      · rw [ho4.oth b (fun e => hn (.inr (.inl e)))]; exact heap_alloc _ _ b hb
      · rcases ha with ha | ha | ha
        · exact .inl ha
        · exact .inr (.inl ha)
        · omega
    · rw [p3, List.length_append]; rfl

/-- A row more. -/
theorem NS.app (hΓ : GamOk P Γ) (hB : Bs c w1 w ds) {v : Value} {gs : List (List Int)} (h : NS c w1 w v gs) {t E0 ty : TypeId} (hel : Γ.elem t = some (E0, rowS)) {i : Int} (hi : (Lit.int .i64 i).wf = true) (hbig : gs.length + 1 ≤ big) (E1 E2 : TypeId) :
    ∃ v' w3, (Builtin.append_ #[t, t] ty #[v, .slice (some ⟨w.heap.size + 1, 0, none⟩) 1 1]).run P ((w.alloc (.cells #[.int .i64 i] E1)).alloc (.cells #[.slice (some ⟨w.heap.size, 0, none⟩) 1 1] E2)) = .ok v' w3 ∧
      Bs c w1 w3 ds ∧ NS c w1 w3 v' (gs ++ [[i]]) := by
  have hA : ∀ g, w1.heap.size ≤ g → ¬ Av c g := fun g hg => hB.notAv hg
  have hB2 := (hB.alloc (.cells #[.int .i64 i] E1)).alloc (.cells #[.slice (some ⟨w.heap.size, 0, none⟩) 1 1] E2)
  have hsz1 : (w.alloc (.cells #[.int .i64 i] E1)).heap.size = w.heap.size + 1 := by simp
  generalize hw2 : (w.alloc (.cells #[.int .i64 i] E1)).alloc (.cells #[.slice (some ⟨w.heap.size, 0, none⟩) 1 1] E2) = w2 at *
  have hsz2 : w2.heap.size = w.heap.size + 2 := by rw [← hw2]; simp
  have hbN : Blk w2 w.heap.size E1 #[.int .i64 i] := by
    obtain ⟨fr, q1, q2⟩ := blk_new w #[.int .i64 i] E1
    refine ⟨fr, ?_, q2⟩
    rw [← hw2, heap_alloc _ _ _ (by rw [hsz1]; omega)]; exact q1
  have hs : Src P w2 1 (.slice (some ⟨w.heap.size + 1, 0, none⟩) 1 1) 1 [.slice (some ⟨w.heap.size, 0, none⟩) 1 1] := by
    have hb := blk_new (w.alloc (.cells #[.int .i64 i] E1)) #[.slice (some ⟨w.heap.size, 0, none⟩) 1 1] E2
    rw [hw2, hsz1] at hb
    exact src_blk hb (n := 1) (by simp) 1
  have hw1 : w1.heap.size ≤ w.heap.size := hB.keeps.size
  have hkw : Keeps (Av c) w w2 := by
    refine ⟨by omega, fun b hb _ => ?_⟩
    rw [← hw2, heap_alloc _ _ _ (by rw [hsz1]; omega), heap_alloc _ _ _ hb]
  have ints1 : ∀ w' : World, RepL (RepC w' (Av c) (.int .i64)) [i] ((#[Value.int .i64 i] : Array Value).toList.take [i].length) := fun w' => ⟨_, [], rfl, ⟨rfl, hi⟩, rfl⟩
  rcases h with ⟨rfl, rfl⟩ | ⟨init, ys, O, cap, B, capB, E, EB, cur, curB, rfl, rfl, h⟩
  · obtain ⟨w3, O', cap', E', cur', hrun, k1, k2, k3, k4, k5, rfl, ob, rfl⟩ := app_nil (w := w2) (ty := ty) hΓ hel rfl hs
    refine ⟨_, _, hrun, hB2.drew.alloc ob, .inr ⟨[], [i], w2.heap.size, cap', w.heap.size, 1, E', E1, cur', #[.int .i64 i], rfl, rfl, k1, ?_, ⟨by omega, by omega, by omega⟩, ⟨by simpa using k2, k3, k4⟩, ⟨by simp, by simp, by simp [maxLen]⟩, rfl, ?_, ints1 _⟩⟩
    · obtain ⟨fr, q1, q2⟩ := hbN
      exact ⟨fr, (heap_alloc w2.drew ob _ (by show w.heap.size < w2.heap.size; omega)).trans q1, q2⟩
    · have : cur'.toList[0]? = ([Value.slice (some ⟨w.heap.size, 0, none⟩) 1 1])[0]? := by
        rw [← k5, List.getElem?_take]; simp
      exact this
  · have h2 := h.keeps hA hkw
    simp only [List.length_append, List.length_singleton] at hbig
    obtain ⟨w3, O', cap', E', cur', hrun, k1, k2, k3, k4, k5, k6⟩ := app_gen (w := w2) (ty := ty) hΓ hel rfl h2.bO h2.cO.1 h2.cO.2.1 h2.cO.2.2 hs rfl hbig
    have hO := h.bO.lt
    have hBlt := h.bB.lt
    have hge := h.ge
    have hrows : ∀ A' : Nat → Prop, (∀ b, b < w2.heap.size → A' b → Av c b ∨ b = O ∨ (w.heap.size ≤ b)) → RepL (RepC w A' rowS) (init ++ [ys]) (cur.toList.take (init.length + 1)) := by
      intro A' hA'
      rw [take_next h.last]
      refine RepL.append (rows_keep (A := AvB c O B) (Keeps.refl _ w) (fun b hb ha => ?_) h.rows) ⟨_, [], rfl, h.head ?_, rfl⟩
      · rcases hA' b (by omega) ha with ha | ha | ha
        · exact .inl ha
        · exact .inr (.inl ha)
        · omega
      · intro ha
        rcases hA' B (by omega) ha with ha | ha | ha
        · exact hA _ hge.2.1 ha
        · exact hge.2.2 ha.symm
        · omega
    have hlast : cur'.toList[init.length + 1]? = some (Value.slice (some ⟨w.heap.size, 0, none⟩) 1 1) := by
      have e : cur'.toList[init.length + 1]? = (cur'.toList.take (init.length + 1 + 1))[init.length + 1]? := by rw [List.getElem?_take, if_pos (by omega)]
      have hl : (cur.toList.take (init.length + 1)).length = init.length + 1 := by have := h.cO; simp; omega
      rw [e, k5, List.getElem?_append_right (by omega), hl, Nat.sub_self]
      rfl
    have hk5 : cur'.toList.take (init ++ [ys]).length = cur.toList.take (init.length + 1) := by
      have e : cur'.toList.take (init.length + 1) = (cur'.toList.take (init.length + 1 + 1)).take (init.length + 1) := by rw [List.take_take, Nat.min_eq_left (by omega)]
      have hl : (cur.toList.take (init.length + 1)).length = init.length + 1 := by have := h.cO; simp; omega
      rw [List.length_append, List.length_singleton, e, k5, List.take_append_of_le_length (by omega), List.take_of_length_le (by omega)]
    have mk : ∀ w3 : World, Bs c w1 w3 ds → Blk w3 O' E' cur' → Blk w3 w.heap.size E1 #[.int .i64 i] → w1.heap.size ≤ O' → O' ≠ w.heap.size → RepL (RepC w3 (AvB c O' w.heap.size) rowS) (init ++ [ys]) (cur'.toList.take (init ++ [ys]).length) →
        NS c w1 w3 (.slice (some ⟨O', 0, none⟩) (init.length + 1 + 1) cap') (init ++ [ys] ++ [[i]]) := fun w3 b3 b4 b5 b6 b7 b8 =>
      .inr ⟨init ++ [ys], [i], O', cap', w.heap.size, 1, E', E1, cur', #[.int .i64 i], rfl, by simp, b4, b5, ⟨b6, hw1, b7⟩, ⟨by simpa using k2, k3, k4⟩, ⟨by simp, by simp, by simp [maxLen]⟩, b8, by simpa using hlast, ints1 _⟩
    rcases k6 with ⟨rfl, ho⟩ | ⟨rfl, ob, rfl⟩
    · have hB3 := hB2.only h2.bO hge.1 ho
      refine ⟨_, w3, hrun, hB3, mk w3 hB3 k1 ?_ hge.1 (by omega) ?_⟩
      · obtain ⟨fr, q1, q2⟩ := hbN
        exact ⟨fr, (ho.oth _ (by omega)).trans q1, q2⟩
      · rw [hk5]
        refine rows_keep (A := AvB c O' w.heap.size) (w := w) ⟨by rw [ho.size]; exact hkw.size, fun b hb hn => ?_⟩ (fun _ _ ha => ha) (hrows _ fun b hb ha => ?_)
        · rw [ho.oth b (fun e => hn (.inr (.inl e)))]; exact hkw.block b hb (fun ha => hn (.inl ha))
        · rcases ha with ha | ha | ha
          · exact .inl ha
          · exact .inr (.inl ha)
          · exact .inr (.inr (by omega))
    · have hB3 := hB2.drew.alloc ob
      refine ⟨_, _, hrun, hB3, mk _ hB3 k1 ?_ (by omega) (by omega) ?_⟩
      · obtain ⟨fr, q1, q2⟩ := hbN
        exact ⟨fr, (heap_alloc w2.drew ob _ (by show w.heap.size < w2.heap.size; omega)).trans q1, q2⟩
      · rw [hk5]
        refine rows_keep (A := fun b => Av c b) (w := w) ⟨?_, fun b hb hn => ?_⟩ (fun b hb ha => ?_) (hrows _ fun b hb ha => .inl ha)
        · show w.heap.size ≤ (w2.drew.alloc ob).heap.size
          have : (w2.drew.alloc ob).heap.size = w2.drew.heap.size + 1 := by simp
          have e : w2.drew.heap.size = w2.heap.size := rfl
          omega
        · rw [heap_alloc w2.drew ob b (by show b < w2.heap.size; omega)]; exact hkw.block b hb hn
        · rcases ha with ha | ha | ha
          · exact ha
          · omega
          · omega

end
end Go.AI
