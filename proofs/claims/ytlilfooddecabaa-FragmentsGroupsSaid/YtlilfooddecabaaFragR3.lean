/- append to a slice of the call's own, by hand. -/
import Derived.Test.YtlilfooddecabaaFragR2
namespace Go.AI
open Go Go.RowKit

section
variable {P : Program} {Γ : Gam} {c : Ctx P} {w1 w w' : World} {ρ ρ' : Rho} {a : Act} {ds : List Deferred}

theorem src_blk {g : Nat} {E : TypeId} {cur : Array Value} (hb : Blk w g E cur) {n : Nat} (hn : n ≤ cur.size) (cap : Nat) : Src P w 1 (.slice (some ⟨g, 0, none⟩) n cap) n (cur.toList.take n) := by
  refine ⟨fun w' => by simp [Builtin.lenOf], fun w' hw => ?_⟩
  have hlen : (cur.toList.take n).length = n * 1 := by simp; omega
  refine run_firstCells_some (P := P) w' 1 n ⟨g, 0, none⟩ _ cap (cur.toList.take n) hlen (fun j v hj => ?_)
  rw [World.cell?_of_block (w := w) (by rw [hw])]
  have := CellsAt.of_blk hb 0 n
  rw [List.drop_zero] at this
  exact this j v hj
theorem src_nil : Src P w 1 (.slice none 0 0) 0 [] := ⟨fun w' => by simp [Builtin.lenOf], fun w' _ => by simp [Builtin.firstCells]⟩

theorem blk_new (w : World) (cells : Array Value) (E : TypeId) : Blk (w.alloc (.cells cells E)) w.heap.size E cells := ⟨(0, 0), World.alloc_heap_new w _, .inl rfl⟩

/-- append of one value. -/
theorem app_gen (hΓ : GamOk P Γ) {t E0 ty : TypeId} {s : Sch} (hel : Γ.elem t = some (E0, s)) (h1 : s.cells = 1) {g n cap : Nat} {E : TypeId} {cur : Array Value} (hb : Blk w g E cur) (hn : n ≤ cap) (hc : cap ≤ cur.size) (hm : cap ≤ maxLen)
    {val x : Value} (hs : Src P w 1 val 1 [x]) (hx : x.oneCell' = true) (hbig : n + 1 ≤ big) :
    ∃ w' g' cap' E' cur', (Builtin.append_ #[t, t] ty #[.slice (some ⟨g, 0, none⟩) n cap, val]).run P w = .ok (.slice (some ⟨g', 0, none⟩) (n + 1) cap') w' ∧ Blk w' g' E' cur' ∧ n + 1 ≤ cap' ∧ cap' ≤ cur'.size ∧ cap' ≤ maxLen ∧
      cur'.toList.take (n + 1) = cur.toList.take n ++ [x] ∧ ((g' = g ∧ OnlyBlk g w w') ∨ (g' = w.heap.size ∧ ∃ ob, w' = w.drew.alloc ob)) := by
  obtain ⟨hu, hE⟩ := elem_ok hΓ hel
  obtain ⟨i, z, hi, hiz, hzc, hsz, hby, hby0⟩ := SchOk.info hE
  rw [h1] at hsz
  have hzsz : z.cells.size = 1 := by rw [z_size hzc w (fun _ => False), h1]
  have hd : (∃ e', P.underlying t = some (.slice e')) ∨ P.underlying t = some .string := .inl ⟨E0, hu⟩
  have hs' : Src P w i.size val 1 [x] := by rw [hsz]; exact hs
  by_cases hroom : n + 1 ≤ cap
  · have hrun := run_append_fits (P := P) (w := w) (ty := ty) hu hi hd (base := some ⟨g, 0, none⟩) (n := n) (cap := cap) hs' hroom
    obtain ⟨w', hr1, hb', ho'⟩ := run_storeCells P (g := g) (off := n) [x] 0 cur w hb (by simp; omega) (fun u hu => by rw [List.mem_singleton.1 hu]; exact hx)
    rw [Nat.add_zero] at hb'
    refine ⟨w', g, cap, E, _, ?_, hb', hroom, ?_, hm, ?_, .inl ⟨rfl, ho'⟩⟩
    · rw [hrun]
      simp only [hsz, add_lit, Nat.zero_add, Nat.mul_one, hr1, Result.andThen_ok]
    · rw [splice_size (by simp; omega)]; exact hc
    · simp only [splice, List.toList_toArray]
      have el : (cur.toList.take n ++ [x]).length = n + 1 := by simp; omega
      rw [← el, List.take_left]
  · have ho : Src P w i.size (.slice (some ⟨g, 0, none⟩) n cap) n (cur.toList.take n) := by rw [hsz]; exact src_blk hb (by omega) cap
    have hrun := run_append_grows (P := P) (w := w) (ty := ty) hu hi hiz hd hs' ho hroom hbig hby
    have hge := grownCap_ge w (n + 1) cap E0
    have hle := grownCap_le_maxLen w (n + 1) cap E0 (by simp only [big, maxLen] at hbig ⊢; omega)
    have hlen : (cur.toList.take n).length = n := by simp; omega
    refine ⟨_, w.heap.size, _, E0, _, hrun, blk_new w.drew _ E0, hge, ?_, hle, ?_, .inr ⟨rfl, _, rfl⟩⟩
    · have hz := size_zeroCells z.cells (grownCap w (n + 1) cap E0 - (n + 1))
      rw [hzsz, Nat.mul_one] at hz
      simp only [List.size_toArray, List.length_append, hlen, List.length_cons, List.length_nil, Array.length_toList, hz]
      omega
    · rw [List.toList_toArray]
      have el : (cur.toList.take n ++ [x]).length = n + 1 := by rw [List.length_append, hlen]; rfl
      rw [← el, List.take_left]
theorem app_nil (hΓ : GamOk P Γ) {t E0 ty : TypeId} {s : Sch} (hel : Γ.elem t = some (E0, s)) (h1 : s.cells = 1) {val x : Value} (hs : Src P w 1 val 1 [x]) :
    ∃ w' g' cap' E' cur', (Builtin.append_ #[t, t] ty #[.slice none 0 0, val]).run P w = .ok (.slice (some ⟨g', 0, none⟩) (0 + 1) cap') w' ∧ Blk w' g' E' cur' ∧ 0 + 1 ≤ cap' ∧ cap' ≤ cur'.size ∧ cap' ≤ maxLen ∧
      cur'.toList.take (0 + 1) = [x] ∧ (g' = w.heap.size ∧ ∃ ob, w' = w.drew.alloc ob) := by
  obtain ⟨hu, hE⟩ := elem_ok hΓ hel
  obtain ⟨i, z, hi, hiz, hzc, hsz, hby, hby0⟩ := SchOk.info hE
  rw [h1] at hsz
  have hzsz : z.cells.size = 1 := by rw [z_size hzc w (fun _ => False), h1]
  have hd : (∃ e', P.underlying t = some (.slice e')) ∨ P.underlying t = some .string := .inl ⟨E0, hu⟩
  have hs' : Src P w i.size val 1 [x] := by rw [hsz]; exact hs
  have ho : Src P w i.size (.slice none 0 0) 0 [] := by rw [hsz]; exact src_nil
  have hrun := run_append_grows (P := P) (w := w) (ty := ty) hu hi hiz hd hs' ho (by omega) (by simp only [big]; omega) hby
  have hge := grownCap_ge w (0 + 1) 0 E0
  have hle := grownCap_le_maxLen w (0 + 1) 0 E0 (by simp only [maxLen]; omega)
  refine ⟨_, w.heap.size, _, E0, _, hrun, blk_new w.drew _ E0, hge, ?_, hle, ?_, rfl, _, rfl⟩
  · have hz := size_zeroCells z.cells (grownCap w (0 + 1) 0 E0 - (0 + 1))
    rw [hzsz, Nat.mul_one] at hz
    simp only [List.size_toArray, List.length_append, List.length_cons, List.length_nil, Array.length_toList, hz]
    omega
  · rfl

/-- A slice of one value is built. -/
theorem build_one (hΓ : GamOk P Γ) {t E0 : TypeId} {s : Sch} (hel : Γ.elem t = some (E0, s)) (h1 : s.cells = 1) {x : Value} (hx : x.cells.toList = [x]) :
    (Instr.buildSlice t 1 #[(0, x)]).run P w = .ok (.slice (some ⟨w.heap.size, 0, none⟩) 1 1) (w.alloc (.cells #[x] E0)) := by
  obtain ⟨hu, hE⟩ := elem_ok hΓ hel
  obtain ⟨i, z, hi, hiz, hzc, hsz, _, _⟩ := SchOk.info hE
  rw [h1] at hsz
  refine run_buildSlice w t E0 1 #[(0, x)] #[x] i z hu hi hiz (by rw [hsz]; omega) (by rw [hsz]; omega) ?_
  rw [hsz]
  have := fill_one (fun i => some (i * 1, 1)) ((Array.range (1 * 1)).map (z.cells[· % z.cells.size]!)) 0 x [] (off := 0) (size := 1) rfl (by rw [hx]; rfl) (by simp)
  rw [this, fill_nil, hx]
  simp [splice]
end
end Go.AI
