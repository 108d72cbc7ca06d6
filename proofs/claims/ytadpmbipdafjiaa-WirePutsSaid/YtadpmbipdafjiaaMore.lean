/- The other operations on memory: slices made, cut, copied; addresses; parts. -/
import Derived.Test.YtadpmbipdafjiaaBuild
import Derived.Great.BuildSlice
import Derived.Laws.MakeOwn
namespace Go.AI
open Go Go.RowKit

section
variable {P : Program} {Γ : Gam} {c : Ctx} {w : World} {H H' : List AObj} {ρ : Rho} {o : Nat} {cur : List AV} {a : Act}

theorem fill_nil (place : Nat → Option (Nat × Nat)) (cells : Array Value) : Instr.fill place cells [] = some cells := rfl

/-- Zeros, one behind the other. -/
theorem zeros_rep (A : Nat → Prop) {z : Value} {s : Sch} (hz : z.cells.toList = zcells s) (n : Nat) : RepL (RepC w A s) (List.replicate n s.dflt) (madeCells z.cells (n * s.cells)).toList := by
  have h0 := RepC.zero w A s
  have hlen : z.cells.size = s.cells := z_size hz w A
  rw [← hz] at h0
  have key : ∀ m, (madeCells z.cells (m * s.cells)).toList = (List.replicate m z.cells.toList).flatten := by
    intro m
    simp only [madeCells, Array.toList_map, Array.toList_range]
    induction m with
    | zero => simp
    | succ m ih =>
      rw [List.replicate_succ', List.flatten_append, ← ih, Nat.add_mul, Nat.one_mul, List.range_add, List.map_append]
      congr 1
      simp only [List.flatten_cons, List.flatten_nil, List.append_nil, List.map_map]
      apply List.ext_getElem?
      intro j
      simp only [List.getElem?_map]
      by_cases hj : j < s.cells
      · rw [List.getElem?_range hj]
        simp only [Option.map_some, Function.comp, hlen]
        have : (m * s.cells + j) % s.cells = j := by rw [Nat.mul_comm, Nat.mul_add_mod, Nat.mod_eq_of_lt hj]
        rw [this]
        simp [hlen, hj]
      · rw [List.getElem?_eq_none (by simp; omega), List.getElem?_eq_none (by simp; omega)]; rfl
  rw [key]
  induction n with
  | zero => rfl
  | succ n ih => exact ⟨_, _, by simp [List.replicate_succ], h0, ih⟩

/-- A row in a new block, all of it elements. -/
theorem new_row (h : StOk c w H ρ) {n : Nat} (hn : n < H.length) (hfree : ASt.obj H n = .free) {E : TypeId} {s : Sch} {zs : List s.T} {cells : Array Value} {fr : Nat × Nat} (hf : fr.1 = fr.2 ∨ cells.size ≤ fr.1) {C : Nat}
    (hC : zs.length ≤ C) (hm : C ≤ maxLen) (hsz : cells.size = C * s.cells) (hL : RepL (RepC w (Avoid c.X H ρ) s) zs (cells.toList.take (zs.length * s.cells))) :
    Tr c w H ρ (w.alloc (.cells cells E fr)) (H.set n (.row E s zs false)) (updR ρ n (some (w.heap.size, C))) ∧
    ∀ A, RV (w.alloc (.cells cells E fr)) A (H.set n (.row E s zs false)) (updR ρ n (some (w.heap.size, C))) (.row n) (.slice (some ⟨w.heap.size, 0, none⟩) zs.length C) :=
  ⟨Tr.alloc h hn hfree (ob := .row E s zs false) (C := C) hf ⟨rfl, hsz, hC, hm, hL⟩, fun _ => rv_row (obj_set_same hn _) (updR_same _ _) hC (Nat.le_refl _) hm⟩

theorem buildSlice_ok (hΓ : GamOk P Γ) (h : StOk c w H ρ) (hfr : FrOk w (Avoid c.X H ρ) H ρ cur a.tmps) {t E : TypeId} {s : Sch} {n nid : Nat} {parts : Array (Nat × Operand)} {xs : List s.T} {V U : Upd}
    (hel : Γ.elem t = some (E, s)) (hn : n ≤ 65536) (hsmall : n * s.cells ≤ 16777216) (hb : bldSlice s cur H parts.toList (List.replicate n s.dflt) [] = some (xs, V)) (hU : newObj? H nid (.row E s xs false) = some U) (hnv : nid ∉ V.map (·.1)) :
    Gives P c w H ρ (Instr.buildSlice t n (parts.map fun (i, x) => (i, a.eval x))) (.row nid) (V ++ U) := by
  obtain ⟨hu, hE⟩ := elem_ok hΓ hel
  obtain ⟨i, z, hi, hiz, hzc, hsz, _, _⟩ := SchOk.info hE
  obtain ⟨hnl, hfree, rfl⟩ := newObj_some hU
  have hzsz : z.cells.size = s.cells := z_size hzc w (Avoid c.X H ρ)
  obtain ⟨cells', l', rfl, e2, e3, e4, e5⟩ := bldSlice_ok (a := a) h hfr parts.toList (List.replicate n s.dflt) [] (cells := madeCells z.cells (n * s.cells)) (U := V) h (zeros_rep _ hzc n) (Tr.refl h) hb
  simp only [List.length_replicate] at e4
  have hlen := RepL.length (fun x c => RepC.length s) e3
  rw [e4] at hlen
  have hlen' : cells'.size = n * s.cells := by simpa using hlen
  have hfree' : ASt.obj (upd H (l'.map fun o => (o, freezeObj (ASt.obj H o)))) nid = .free := by
    rw [(Tr.freezes h l' H h (fun _ => rfl)).2.2.1 nid (by simpa using hnv)]; exact hfree
  have hnl' : nid < (upd H (l'.map fun o => (o, freezeObj (ASt.obj H o)))).length := by
    rw [(Tr.freezes h l' H h (fun _ => rfl)).2.2.2.2]; exact hnl
  obtain ⟨g1, g2⟩ := new_row e5.ok hnl' hfree' (E := E) (zs := xs) (cells := cells') (fr := (0, 0)) (.inl rfl) (C := n) (by omega) (by simp only [maxLen]; omega) hlen' (by rw [e4, ← hlen, List.take_length]; exact e3)
  have hup : upd H ((l'.map fun o => (o, freezeObj (ASt.obj H o))) ++ [(nid, .row E s xs false)]) = (upd H (l'.map fun o => (o, freezeObj (ASt.obj H o)))).set nid (.row E s xs false) := by simp [upd]
  unfold Gives
  rw [hup]
  refine ⟨.slice (some ⟨w.heap.size, 0, none⟩) n n, w.alloc (.cells cells' E), updR ρ nid (some (w.heap.size, n)), ?_, ?_, e5.trans g1⟩
  · have hparts : (parts.map fun (i, x) => (i, a.eval x)).toList = parts.toList.map fun x => (x.1, a.eval x.2) := by simp
    have hsm : ¬ n * i.size > 2 ^ 24 := by rw [hsz]; omega
    by_cases hpos : n * i.size = 0
    · have hc0 : madeCells z.cells (n * s.cells) = #[] := by rw [← hsz, hpos]; simp [madeCells]
      rw [hc0] at e2
      simp [Instr.buildSlice, run_underlying hu, sizeOf, typeInfo, hi, hpos, newRow]
      have hr0 : Array.range 0 = (#[] : Array Nat) := rfl
      rw [hsz, hr0, Array.map_empty, e2]
      simp
    · have hm := run_buildSlice (P := P) w t E n (parts.map fun (i, x) => (i, a.eval x)) cells' i z hu hi hiz hsm hpos (by
        rw [hparts, hsz]; exact e2)
      exact hm
  · have := g2 (Avoid c.X ((upd H (l'.map fun o => (o, freezeObj (ASt.obj H o)))).set nid (.row E s xs false)) (updR ρ nid (some (w.heap.size, n))))
    rw [e4] at this; exact this

theorem sameOpnd_eq {l cp : Operand} (h : sameOpnd l cp = true) : l = cp := by
  unfold sameOpnd at h
  split at h
  · simpa using h
  · cases h

/-- make. -/
theorem make_ok (hΓ : GamOk P Γ) (h : StOk c w H ρ) (hfr : FrOk w (Avoid c.X H ρ) H ρ cur a.tmps) {t : TypeId} {l cp : Operand} {nid : Nat} {v : AV} {U : Upd} (ha : aMake Γ t l cp cur H nid = some (true, v, U)) :
    Gives P c w H ρ (Instr.makeSlice t (a.eval l) (a.eval cp)) v U := by
  unfold aMake at ha
  split at ha
  · rename_i E s j x k y hel hl hc
    cases hU : newObj? H nid (.row E s (List.replicate (toI j x).toNat s.dflt) false) with
    | none => simp [hU] at ha
    | some U' =>
      simp only [hU, Option.map_some, Option.some.injEq, Prod.mk.injEq] at ha
      obtain ⟨hcond, rfl, rfl⟩ := ha
      obtain ⟨hu, hE⟩ := elem_ok hΓ hel
      obtain ⟨i, z, hi, hiz, hzc, hsz, hby, _⟩ := SchOk.info hE
      obtain ⟨hnl, hfree, rfl⟩ := newObj_some hU
      have hlv := opnd_ok hfr l
      have hcv := opnd_ok hfr cp
      rw [hl] at hlv
      rw [hc] at hcv
      obtain ⟨el, _⟩ := RV.int hlv
      obtain ⟨ec, _⟩ := RV.int hcv
      simp only [Bool.and_eq_true, Bool.or_eq_true, decide_eq_true_eq] at hcond
      obtain ⟨⟨h0, h1⟩, h2⟩ := hcond
      have h1' : toI j x ≤ toI k y := by
        rcases h1 with h1 | h1
        · have e := sameOpnd_eq h1
          subst e
          rw [el] at ec; simp at ec; omega
        · exact h1
      simp only [big] at h2
      have hb : (i.bytes : Int) * toI k y ≤ 281474976710656 := by
        have : (i.bytes : Int) * toI k y ≤ 65536 * 2147483648 := Int.mul_le_mul (by omega) h2 (by omega) (by omega)
        omega
      have hrun := run_make (P := P) w t E i z hu hi hiz j k (toI j x) (toI k y) h0 h1' hb (by omega)
      have hzsz : z.cells.size = s.cells := z_size hzc w (Avoid c.X H ρ)
      have hsize : (madeCells z.cells ((toI k y).toNat * i.size)).size = (toI k y).toNat * s.cells := by simp [madeCells, hsz]
      have hrep := zeros_rep (w := w) (Avoid c.X H ρ) hzc (toI k y).toNat
      obtain ⟨g1, g2⟩ := new_row h hnl hfree (E := E) (zs := List.replicate (toI j x).toNat s.dflt) (cells := madeCells z.cells ((toI k y).toNat * i.size)) (fr := (0, 0)) (.inl rfl) (C := (toI k y).toNat) (by simp; omega) (by simp only [maxLen]; omega) hsize (by
        rw [hsz]
        have := RepL.take (fun x c => RepC.length s) hrep (toI j x).toNat
        simpa [List.take_replicate, Nat.min_eq_left (show (toI j x).toNat ≤ (toI k y).toNat by omega)] using this)
      refine ⟨.slice (some ⟨w.heap.size, 0, none⟩) (toI j x).toNat (toI k y).toNat, _, _, ?_, ?_, g1⟩
      · rw [el, ec, hrun]
      · have := g2 (Avoid c.X (H.set nid (.row E s (List.replicate (toI j x).toNat s.dflt) false)) (updR ρ nid (some (w.heap.size, (toI k y).toNat))))
        rw [List.length_replicate] at this
        exact this
  · cases ha
end
end Go.AI
