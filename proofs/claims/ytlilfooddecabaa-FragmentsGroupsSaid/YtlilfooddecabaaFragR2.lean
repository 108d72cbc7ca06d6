/- A slice of slices of which the last one grows, in memory; operations by hand. -/
import Derived.Test.YtlilfooddecabaaFragR
namespace Go.AI
open Go Go.RowKit

section
variable {P : Program} {Γ : Gam} {c : Ctx P} {w1 w w' : World} {ρ ρ' : Rho} {a : Act} {ds : List Deferred}

/-- The base: what was there when the work began is there yet. -/
structure Bs (c : Ctx P) (w1 : World) (w : World) (ds : List Deferred) : Prop where
  st : StOk c w [] r0
  keeps : Keeps (Av c) w1 w
  dfr : DefOk c w (Av c) ds [] []
  size0 : c.w0.heap.size ≤ w1.heap.size

theorem Keeps.trans {A : Nat → Prop} {w w' w'' : World} (h : Keeps A w w') (k : Keeps A w' w'') : Keeps A w w'' :=
  ⟨Nat.le_trans h.size k.size, fun b hb hA => (k.block b (Nat.lt_of_lt_of_le hb h.size) hA).trans (h.block b hb hA)⟩
theorem Bs.tr (h : Bs c w1 w ds) (T : Tr c w [] r0 w' [] ρ') : Bs c w1 w' ds :=
  ⟨st_nil T.ok.fr T.ok.old, Keeps.trans h.keeps T.keeps, (h.dfr.tr T).anti (fun _ hb => .inl (av_nil hb)), h.size0⟩
theorem Bs.notAv (h : Bs c w1 w ds) {g : Nat} (hg : w1.heap.size ≤ g) : ¬ Av c g := fun hA => by
  have := h.st.old g (av_nil hA)
  have := h.size0; omega
theorem Bs.alloc (h : Bs c w1 w ds) (b : Obj) : Bs c w1 (w.alloc b) ds := h.tr (Tr.junk h.st b)
theorem Bs.drew (h : Bs c w1 w ds) : Bs c w1 w.drew ds := h.tr (Tr.drew h.st)
theorem Bs.only (h : Bs c w1 w ds) {g : Nat} {E : TypeId} {cur : Array Value} (hb : Blk w g E cur) (hg : w1.heap.size ≤ g) (ho : OnlyBlk g w w') : Bs c w1 w' ds := by
  refine ⟨st_nil ⟨ho.os.trans h.st.fr.os, ho.tape.trans h.st.fr.tape, ho.output.trans h.st.fr.output, ?_, fun b hlt hS => ?_⟩ h.st.old, ⟨?_, fun b hlt hA => ?_⟩, ?_, h.size0⟩
  · rw [ho.size]; exact h.st.fr.size
  · have := h.size0
    rw [ho.oth b (by omega)]; exact h.st.fr.block b hlt hS
  · rw [ho.size]; exact h.keeps.size
  · rw [ho.oth b (by omega)]; exact h.keeps.block b hlt hA
  · obtain ⟨Ds, h1, h2, h3⟩ := h.dfr
    refine ⟨Ds, h1, h2, fun D hD => ?_⟩
    obtain ⟨k1, k2, k3⟩ := h3 D hD
    refine ⟨?_, k2, k3⟩
    rw [ho.oth D ?_]; exact k1
    rintro rfl
    obtain ⟨fr, hb, _⟩ := hb
    rw [hb] at k1; cases k1
theorem Bs.rv (h : Bs c w1 w ds) {v : AV} {val : Value} (hv : RV w1 (Av c) [] r0 v val) : RV w (Av c) [] r0 v val :=
  RV.mono h.keeps (fun _ _ hb => hb) compat_nil hv

/-- Blocks that data may not lie in: those of the slice, and of its last element. -/
abbrev AvB (c : Ctx P) (O B : Nat) : Nat → Prop := fun b => Av c b ∨ b = O ∨ b = B
abbrev rowS : Sch := .slc (.int .i64)
/-- The slice of slices, not empty. -/
structure NB (c : Ctx P) (w1 w : World) (init : List (List Int)) (ys : List Int) (O cap B capB : Nat) (E EB : TypeId) (cur curB : Array Value) : Prop where
  bO : Blk w O E cur
  bB : Blk w B EB curB
  ge : w1.heap.size ≤ O ∧ w1.heap.size ≤ B ∧ O ≠ B
  cO : init.length + 1 ≤ cap ∧ cap ≤ cur.size ∧ cap ≤ maxLen
  cB : ys.length ≤ capB ∧ capB ≤ curB.size ∧ capB ≤ maxLen
  rows : RepL (RepC w (AvB c O B) rowS) init (cur.toList.take init.length)
  last : cur.toList[init.length]? = some (.slice (some ⟨B, 0, none⟩) ys.length capB)
  ints : RepL (RepC w (Av c) (.int .i64)) ys (curB.toList.take ys.length)
def NS (c : Ctx P) (w1 w : World) (v : Value) (gs : List (List Int)) : Prop :=
  (gs = [] ∧ v = .slice none 0 0) ∨ ∃ init ys O cap B capB E EB cur curB, gs = init ++ [ys] ∧ v = .slice (some ⟨O, 0, none⟩) (init.length + 1) cap ∧ NB c w1 w init ys O cap B capB E EB cur curB

theorem rep_int {A A' : Nat → Prop} {w w' : World} {ys : List Int} {L : List Value} (h : RepL (RepC w A (.int .i64)) ys L) : RepL (RepC w' A' (.int .i64)) ys L :=
  RepL.mono (fun _ _ hc => hc) h

variable {init : List (List Int)} {ys : List Int} {O cap B capB : Nat} {E EB : TypeId} {cur curB : Array Value}
/-- What is not written stays. -/
theorem NB.keeps (h : NB c w1 w init ys O cap B capB E EB cur curB) (hA : ∀ g, w1.heap.size ≤ g → ¬ Av c g) (hk : Keeps (Av c) w w') : NB c w1 w' init ys O cap B capB E EB cur curB := by
  refine ⟨h.bO.keeps hk (hA _ h.ge.1), h.bB.keeps hk (hA _ h.ge.2.1), h.ge, h.cO, h.cB, ?_, h.last, rep_int h.ints⟩
  exact RepL.mono (fun x c => RepC.keeps (w := w) (w' := w') ⟨hk.size, fun b hb hn => hk.block b hb (fun ha => hn (.inl ha))⟩ (fun _ _ ha => ha) rowS) h.rows
theorem NS.keeps {v : Value} {gs : List (List Int)} (h : NS c w1 w v gs) (hA : ∀ g, w1.heap.size ≤ g → ¬ Av c g) (hk : Keeps (Av c) w w') : NS c w1 w' v gs := by
  rcases h with h | ⟨init, ys, O, cap, B, capB, E, EB, cur, curB, e1, e2, h⟩
  · exact .inl h
  · exact .inr ⟨init, ys, O, cap, B, capB, E, EB, cur, curB, e1, e2, h.keeps hA hk⟩

theorem take_next {α : Type} {l : List α} {n : Nat} {x : α} (h : l[n]? = some x) : l.take (n + 1) = l.take n ++ [x] := by
  rw [List.take_add_one, h]; rfl
/-- The last element. -/
theorem NB.head (h : NB c w1 w init ys O cap B capB E EB cur curB) {A : Nat → Prop} (hB : ¬ A B) : RepC w A rowS ys [.slice (some ⟨B, 0, none⟩) ys.length capB] := by
  refine ⟨some ⟨B, 0, none⟩, capB, rfl, h.cB.1, h.cB.2.2, .inr ⟨⟨B, 0, none⟩, curB.toList.take ys.length, rfl, h.bB.lt, hB, rep_int h.ints, ?_⟩⟩
  have := CellsAt.of_blk h.bB 0 ys.length
  rwa [List.drop_zero] at this
/-- It is plain data. -/
theorem NB.rep (h : NB c w1 w init ys O cap B capB E EB cur curB) (hA : ∀ g, w1.heap.size ≤ g → ¬ Av c g) : RepC w (Av c) (.slc rowS) (init ++ [ys]) [.slice (some ⟨O, 0, none⟩) (init.length + 1) cap] := by
  refine ⟨some ⟨O, 0, none⟩, cap, by simp, by simpa using h.cO.1, h.cO.2.2, .inr ⟨⟨O, 0, none⟩, cur.toList.take (init.length + 1), rfl, h.bO.lt, hA _ h.ge.1, ?_, ?_⟩⟩
  · rw [take_next h.last]
    exact RepL.append (RepL.mono (fun x c => RepC.keeps (Keeps.refl _ w) (fun _ _ ha => .inl ha) rowS) h.rows) ⟨_, [], rfl, h.head (hA _ h.ge.2.1), rfl⟩
  · have := CellsAt.of_blk h.bO 0 (init.length + 1)
    rwa [List.drop_zero] at this
theorem NS.dat {v : Value} {gs : List (List Int)} (h : NS c w1 w v gs) (hA : ∀ g, w1.heap.size ≤ g → ¬ Av c g) : RV w (Av c) [] r0 (.dat (.slc rowS) gs) v := by
  rcases h with ⟨rfl, rfl⟩ | ⟨init, ys, O, cap, B, capB, E, EB, cur, curB, rfl, rfl, h⟩
  · exact (⟨none, 0, rfl, Nat.le_refl _, Nat.zero_le _, .inl rfl⟩ : RepC w (Av c) (.slc rowS) [] [_])
  · exact (h.rep hA : RepC w (Av c) (.slc rowS) _ [_])
theorem NS.pk {v : Value} {gs : List (List Int)} (h : NS c w1 w v gs) : RV w (Av c) [] r0 (.pk gs.isEmpty gs.length) v := by
  rcases h with ⟨rfl, rfl⟩ | ⟨init, ys, O, cap, B, capB, E, EB, cur, curB, rfl, rfl, h⟩
  · exact (⟨none, 0, rfl, rfl, Nat.le_refl _, Nat.zero_le _⟩ : ∃ a cap, [Value.slice none 0 0] = [.slice a 0 cap] ∧ a.isNone = true ∧ 0 ≤ cap ∧ cap ≤ maxLen)
  · exact (⟨some ⟨O, 0, none⟩, cap, by simp, by simp, by simpa using h.cO.1, h.cO.2.2⟩ : ∃ a cp, [Value.slice (some ⟨O, 0, none⟩) (init.length + 1) cap] = [.slice a (init ++ [ys]).length cp] ∧ a.isNone = (init ++ [ys]).isEmpty ∧ (init ++ [ys]).length ≤ cp ∧ cp ≤ maxLen)
end
end Go.AI
