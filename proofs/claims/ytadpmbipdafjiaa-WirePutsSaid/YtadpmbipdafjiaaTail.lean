/- Tuples, functions, conversions, copies. -/
import Derived.Test.YtadpmbipdafjiaaMisc
import Derived.Lib.ConvBytes
import Derived.Laws.BytesString
import Derived.Laws.BytesArg
namespace Go.AI
open Go Go.RowKit

section
variable {P : Program} {Γ : Gam} {c : Ctx} {w : World} {H H' : List AObj} {ρ : Rho} {o : Nat} {cur : List AV} {a : Act}

theorem RV1.rv {A : Nat → Prop} {v : AV} {val : Value} (h : RV1 (RX w A H ρ v) v val) : RV w A H ρ v val := by
  unfold RV
  split
  · exact h.elim
  · exact h
theorem RV.rv1 {A : Nat → Prop} {v : AV} {val : Value} (ht : v.isTup = false) (h : RV w A H ρ v val) : RV1 (RX w A H ρ v) v val := by
  unfold RV at h
  split at h
  · simp [AV.isTup] at ht
  · exact h

/-- A part of a tuple. -/
theorem chain_comp {A : Nat → Prop} : ∀ (i : Nat) (v : AV) {vs : List Value}, RX w A H ρ v false vs → v.comp i ≠ .dead → ∃ val, vs[i]? = some val ∧ RV w A H ρ (v.comp i) val
  | 0, .pr x y, vs, h, _ => by
    obtain ⟨val, r, rfl, h1, _⟩ := h
    exact ⟨val, rfl, h1.rv⟩
  | i + 1, .pr x y, vs, h, hd => by
    obtain ⟨val, r, rfl, _, h2⟩ := h
    obtain ⟨u, e1, e2⟩ := chain_comp i y h2 hd
    exact ⟨u, by simpa using e1, e2⟩
  | i, .un, vs, h, hd => by cases i <;> exact absurd rfl hd
  | _, .dat _ _, _, h, _ => h.elim
  | _, .slx _ _, _, h, _ => h.elim
  | _, .nils, _, h, _ => h.elim
  | _, .emp, _, h, _ => h.elim
  | _, .row _, _, h, _ => h.elim
  | _, .sl _ _ _, _, h, _ => h.elim
  | _, .vptr _ _, _, h, _ => h.elim
  | _, .ptr _ _, _, h, _ => h.elim
  | _, .fn _ _, _, h, _ => h.elim
  | _, .nilfn, _, h, _ => h.elim
  | _, .tup _, _, h, _ => h.elim
  | _, .dead, _, h, _ => h.elim

theorem extract_ok (h : StOk c w H ρ) {x : AV} {xv : Value} {i : Nat} (hx : RV w (Avoid c.X H ρ) H ρ (.tup x) xv) (hd : x.comp i ≠ .dead) : Gives P c w H ρ (Instr.extract xv i) (x.comp i) [] := by
  obtain ⟨vs, rfl, hr⟩ := (hx : ∃ vs : List Value, xv = .tuple vs.toArray ∧ RX w (Avoid c.X H ρ) H ρ x false vs)
  obtain ⟨val, h1, h2⟩ := chain_comp i x hr hd
  exact Gives.same h (by simp [Instr.extract, h1]) h2

/-- Values one behind the other. -/
theorem chain_ok {A : Nat → Prop} : ∀ (vs : List AV) (us : List Value), vs.length = us.length → (∀ (i : Nat) (v : AV) (u : Value), vs[i]? = some v → us[i]? = some u → RV w A H ρ v u) → (∀ v, v ∈ vs → v.isTup = false) → RX w A H ρ (vs.foldr .pr .un) false us
  | [], [], _, _, _ => rfl
  | [], _ :: _, h, _, _ => by simp at h
  | _ :: _, [], h, _, _ => by simp at h
  | v :: vs, u :: us, h, hr, ht =>
    ⟨u, us, rfl, (hr 0 v u rfl rfl).rv1 (ht v List.mem_cons_self), chain_ok vs us (by simpa using h) (fun i x y hx hy => hr (i + 1) x y (by simpa using hx) (by simpa using hy)) (fun x hx => ht x (List.mem_cons_of_mem _ hx))⟩

theorem makeFunc_ok (h : StOk c w H ρ) (hfr : FrOk w (Avoid c.X H ρ) H ρ cur a.tmps) {f : FuncId} {first caps : Array Operand} (h0 : first.size = 0) (ht : ∀ x, x ∈ caps.toList → (opnd cur x).isTup = false) :
    Gives P c w H ρ (Instr.makeFunc (.func f) (first.map a.eval) (caps.map a.eval)) (.fn f (caps.toList.foldr (fun x r => .pr (opnd cur x) r) .un)) [] := by
  have e1 : first = #[] := Array.eq_empty_of_size_eq_zero h0
  subst e1
  refine Gives.same h (val := .func (.func f) #[] (caps.toList.map a.eval).toArray) (by
    have e2 : caps.map a.eval = (caps.toList.map a.eval).toArray := by apply Array.ext'; simp
    simp [Instr.makeFunc, e2]) ?_
  refine (⟨_, rfl, ?_⟩ : RX w (Avoid c.X H ρ) H ρ (.fn f _) true [_])
  have e : caps.toList.foldr (fun x r => AV.pr (opnd cur x) r) .un = (caps.toList.map (opnd cur)).foldr .pr .un := by rw [List.foldr_map]
  rw [e]
  refine chain_ok _ _ (by simp) (fun i v u hv hu => ?_) (fun v hv => ?_)
  · rw [List.getElem?_map] at hv hu
    cases hx : caps.toList[i]? with
    | none => rw [hx] at hv; cases hv
    | some x =>
      rw [hx] at hv hu
      simp only [Option.map_some, Option.some.injEq] at hv hu
      subst hv; subst hu
      exact opnd_ok hfr x
  · obtain ⟨x, hx, rfl⟩ := List.mem_map.1 hv
    exact ht x hx

theorem repL_bytes {A : Nat → Prop} : ∀ {xs : List UInt8} {L : List Value}, RepL (RepC w A (.int .u8)) xs L → L = xs.map fun b => Value.int .u8 b.toNat
  | [], L, h => by simpa [RepL] using h
  | x :: xs, L, h => by
    obtain ⟨c1, r, rfl, ⟨rfl, _⟩, hr⟩ := h
    rw [repL_bytes hr]; rfl
theorem bytes_repL {A : Nat → Prop} (b : List UInt8) : RepL (RepC w A (.int .u8)) b (b.map fun x => .int .u8 x.toNat) := by
  induction b with
  | nil => rfl
  | cons x b ih =>
    refine ⟨[.int .u8 x.toNat], _, rfl, ⟨rfl, ?_⟩, ih⟩
    have := x.toNat_lt
    simp only [toI, Lit.wf, IntKind.min, IntKind.max, IntKind.signed, IntKind.bits]
    simp; omega

theorem run_bytes_str {src dst e : TypeId} (hs : P.underlying src = some (.slice e)) (he : P.underlying e = some (.int .u8)) (hd : P.underlying dst = some .string) {A : Nat → Prop} {val : Value} {xs : List UInt8} (hv : SliceIs w A val ⟨.int .u8, xs⟩) :
    (convert src dst val).run P w = .ok (.string ⟨xs.toArray⟩) w := by
  obtain ⟨ad, cap, rfl, h1, h2, h3⟩ := hv
  simp only at h1 h3 ⊢
  rw [run_convert_bytes_string w src dst e _ _ _ hs he hd]
  cases ad with
  | none =>
    rcases h3 with h3 | ⟨_, _, h, _⟩
    · subst h3
      simp [Conv.bytesToString]
      rfl
    · cases h
  | some ad =>
    have key : (loadCells ad xs.length).run P w = .ok ((xs.map fun b => (b.toNat : Int)).map (Value.int .u8)).toArray w := by
      rcases h3 with h3 | ⟨ad', L, h, _, hL, hc⟩
      · subst h3; simp [loadCells, loadCellsFrom]
      · cases h
        have e := repL_bytes hL
        subst e
        have := run_loadCells_list (P := P) w ad _ hc
        simpa [Function.comp_def] using this
    rw [run_bytesToString w ad _ cap _ key, foldl_push_bytes]
    simp [ByteArray.empty, ByteArray.emptyWithCapacity, Function.comp_def]
    rfl

/-- The mark behind a row. -/
def markW (w : World) (g : Nat) : World := match w.heap[g]? with
  | some (.cells c _ _) => w.freeze ⟨g, c.size, none⟩ 1
  | _ => w
theorem markW_blk {g : Nat} {E : TypeId} {cur : Array Value} (h : Blk w g E cur) : Blk (markW w g) g E cur ∧ OnlyBlk g w (markW w g) := by
  obtain ⟨⟨lo, hi⟩, h, hf⟩ := h
  have hlt := (Array.getElem?_eq_some_iff.1 h).1
  have he : markW w g = w.freeze ⟨g, cur.size, none⟩ 1 := by simp only [markW, h]
  rw [he]
  constructor
  · refine ⟨if lo == hi then (cur.size, cur.size + 1) else (min lo cur.size, max hi (cur.size + 1)), ?_, ?_⟩
    · simp only [World.freeze, Nat.one_ne_zero, if_false]
      rw [Array.getElem?_modify, if_pos rfl, h]; rfl
    · simp only at hf
      split
      · right; simp only; omega
      · rename_i hne
        right
        simp only
        have : lo ≠ hi := by simpa using hne
        omega
  · refine ⟨fun b hb => ?_, ?_, rfl, rfl, rfl⟩
    · simp only [World.freeze, Nat.one_ne_zero, if_false]
      rw [Array.getElem?_modify, if_neg (Ne.symm hb)]
    · simp [World.freeze]
theorem run_convert_bytes_bytes {t e : TypeId} (ht : P.underlying t = some (.slice e)) (he : P.underlying e = some (.int .u8)) (g off n cap : Nat) {E : TypeId} {cur : Array Value} (hb : Blk w g E cur) :
    (convert t t (.slice (some ⟨g, off, none⟩) n cap)).run P w = .ok (.slice (some ⟨g, off, none⟩) n cap) (markW w g) := by
  obtain ⟨fr, hg, hf⟩ := hb
  have hsh : w.shape? g = some (E, cur.size) := by simp only [World.shape?, hg]
  have hw : markW w g = w.freeze ⟨g, cur.size, none⟩ 1 := by simp only [markW, hg]
  rw [hw]
  simp [convert, run_underlying ht, run_underlying he, markStringish, hsh]

/-- A conversion. -/
theorem convert_ok (hΓ : GamOk P Γ) (h : StOk c w H ρ) {src dst : TypeId} {x v : AV} {xv : Value} {nid : Nat} {U : Upd} (hx : RV w (Avoid c.X H ρ) H ρ x xv) (ha : aConvert Γ src dst x H nid = some (true, v, U)) :
    Gives P c w H ρ (convert src dst xv) v U := by
  unfold aConvert at ha
  cases htd : Γ.at_ dst with
  | none => simp [htd] at ha
  | some td =>
    simp only [htd] at ha
    split at ha
    · cases ha
    rename_i hsrc
    obtain ⟨ds, hs⟩ := ty_ok hΓ (t := src) (Bool.eq_false_iff.2 hsrc)
    have hT := hΓ dst td htd
    split at ha
    · rename_i k j y hsc
      simp only [Option.some.injEq, Prod.mk.injEq, true_and] at ha
      obtain ⟨rfl, rfl⟩ := ha
      obtain ⟨rfl, _⟩ := RV.int hx
      have hd : P.underlying dst = some (.int k) := (hT.sch _ hsc).1.2
      refine Gives.same h ?_ (RV.mk_wrap k _)
      simp [convert, run_underlying hs, run_underlying hd, Conv.intToInt]
    · rename_i y hsc
      simp only [Option.some.injEq, Prod.mk.injEq, true_and] at ha
      obtain ⟨rfl, rfl⟩ := ha
      have hd : P.underlying dst = some .string := (hT.sch _ hsc).1.2
      obtain ⟨rfl, hm⟩ := RV.str hx
      refine Gives.same h ?_ hx
      simp [convert, run_underlying hs, run_underlying hd]
    · rename_i y hsc
      obtain ⟨rfl, hm⟩ := RV.str hx
      split at ha
      · rename_i e hk
        cases hU : newObj? H nid (.row e (.int .u8) y false) with
        | none => simp [hU] at ha
        | some U' =>
          simp only [hU, Option.map_some, Option.some.injEq, Prod.mk.injEq] at ha
          obtain ⟨hbig, rfl, rfl⟩ := ha
          obtain ⟨hnl, hfree, rfl⟩ := newObj_some hU
          obtain ⟨e', hd, he'⟩ := (hT.sch _ hsc).1.2
          have he2 : P.underlying e' = some (.int .u8) := he'.2
          obtain ⟨i, d, _, hu, _, hkd⟩ := hT.info
          rw [hk] at hkd
          have hde : d = .slice e := hkd
          subst hde
          rw [hd] at hu
          cases hu
          have hrun := Lib.run_convert_string_bytes (P := P) w src dst e ⟨y.toArray⟩ hs hd he2
          have hsz : (⟨y.toArray⟩ : ByteArray).size = y.length := by simp [ByteArray.size]
          rw [hsz] at hrun
          have hcells : Lib.bytesCells w e ⟨y.toArray⟩ = (y.map (fun b => Value.int .u8 b.toNat) ++ List.replicate (grownCap w y.length 0 e - y.length) (Value.int .u8 0)).toArray := by
            simp [Lib.bytesCells, hsz]
          have hge := grownCap_ge w y.length 0 e
          have hle := grownCap_le_maxLen w y.length 0 e hm
          have hcs : (Lib.bytesCells w e ⟨y.toArray⟩).size = grownCap w y.length 0 e := by rw [hcells]; simp; omega
          -- the world behind is one draw on, with one block more, and its mark lies behind the cells
          have hW : ∀ b : Nat, (Lib.bytesWorld w e ⟨y.toArray⟩).heap[b]? = ((w.drew.alloc (.cells (Lib.bytesCells w e ⟨y.toArray⟩) e ((Lib.bytesCells w e ⟨y.toArray⟩).size, (Lib.bytesCells w e ⟨y.toArray⟩).size + 1)))).heap[b]? := by
            intro b
            rcases Nat.lt_trichotomy b w.heap.size with hb | hb | hb
            · rw [Lib.bytesWorld_at_old w e _ b hb]
              exact (heap_alloc w.drew _ b hb).symm
            · subst hb
              rw [Lib.bytesWorld_at_new]
              exact (heap_alloc_new w.drew _).symm
            · rw [Array.getElem?_eq_none (by rw [Lib.bytesWorld_size]; omega), Array.getElem?_eq_none (by simp; omega)]
          have hheap : (Lib.bytesWorld w e ⟨y.toArray⟩).heap = ((w.drew.alloc (.cells (Lib.bytesCells w e ⟨y.toArray⟩) e ((Lib.bytesCells w e ⟨y.toArray⟩).size, (Lib.bytesCells w e ⟨y.toArray⟩).size + 1)))).heap := Array.ext_getElem? hW
          have Td := Tr.drew h
          have Ta := Tr.alloc (w := w.drew) Td.ok hnl hfree (ob := .row e (.int .u8) y false) (cur := Lib.bytesCells w e ⟨y.toArray⟩) (E := e) (fr := ((Lib.bytesCells w e ⟨y.toArray⟩).size, (Lib.bytesCells w e ⟨y.toArray⟩).size + 1)) (C := grownCap w y.length 0 e) (.inr (Nat.le_refl _))
            ⟨rfl, by rw [hcs]; simp [Sch.cells], hge, hle, by
              rw [hcells]
              have : ((y.map (fun b => Value.int .u8 b.toNat) ++ List.replicate (grownCap w y.length 0 e - y.length) (Value.int .u8 0)).toArray.toList).take (y.length * (Sch.int .u8).cells) = y.map (fun b => Value.int .u8 b.toNat) := by
                simp [Sch.cells]
              rw [this]; exact bytes_repL y⟩
          have Ts := Tr.same (w' := Lib.bytesWorld w e ⟨y.toArray⟩) Ta.ok hheap rfl rfl rfl
          refine ⟨_, _, _, hrun, ?_, (Td.trans Ta).trans Ts⟩
          exact rv_row (obj_set_same hnl _) (updR_same _ _) hge (Nat.le_refl _) hle
      · cases ha
    · rename_i o hsc
      split at ha
      · rename_i hst
        have hst : src = dst := by simpa using hst
        subst hst
        split at ha
        · rename_i E xs hob
          simp only [Option.some.injEq, Prod.mk.injEq] at ha
          obtain ⟨hne, rfl, rfl⟩ := ha
          obtain ⟨e', hd, he'⟩ := (hT.sch _ hsc).1.2
          have he2 : P.underlying e' = some (.int .u8) := he'.2
          have hok := h.obj o
          rw [hob] at hok
          rcases hok with ⟨_, h2⟩ | ⟨g, C, hr, hown, cur, hb, h1, h2, h3, h4⟩
          · subst h2; cases hne
          · obtain ⟨hb', hon⟩ := markW_blk hb
            have hm : (ASt.obj H o).mut = true := by rw [hob]; rfl
            have hx' := hx
            obtain ⟨_, hx'⟩ : SlR H ρ o 0 none [_] := hx'
            rw [hob] at hx'
            simp only [AObj.elems] at hx'
            obtain ⟨a, cap, hv, _, hle, _, hm2⟩ := hx'
            rw [hr] at hm2
            simp only [List.cons.injEq, and_true] at hv
            subst hv
            have hpos : 0 < xs.length := by cases xs with
              | nil => cases hne
              | cons _ _ => simp
            have hcap : cap ≠ 0 := by
              simp only [Option.getD_none] at hle
              omega
            have ha := hm2.2.resolve_left hcap
            subst ha
            have T := Tr.write h (n := o) (ob := .row E (.int .u8) xs false) hm hr hb' hon.oth hon.size hon.os hon.tape hon.output ⟨rfl, h1, h2, h3, h4⟩ (by rw [hob]) (by rw [hob]) rfl
            have T' := T.trans (Tr.reheap T.ok (H' := H) fun i => by
              by_cases hi : i = o
              · subst hi; rw [hob, obj_set_same (obj_lt (by rw [hob]; simp))]
              · rw [obj_set_other (Ne.symm hi)])
            exact ⟨_, _, _, run_convert_bytes_bytes hd he2 g _ _ _ hb, T'.rv hx, T'⟩
        · cases ha
      · cases ha
    · rename_i y _ _ hsc _
      split at ha
      · rename_i hss
        cases he : elemsAs H (.int .u8) y with
        | none => simp [he] at ha
        | some xs =>
          simp only [he, Option.map_some, Option.some.injEq, Prod.mk.injEq, true_and] at ha
          obtain ⟨rfl, rfl⟩ := ha
          have hd : P.underlying dst = some .string := (hT.sch _ hsc).1.2
          obtain ⟨e', hs', he'⟩ := (sch_ok hΓ hss).2
          have hv := elemsAs_ok h hx he
          refine Gives.same h (run_bytes_str hs' he'.2 hd hv) ?_
          obtain ⟨_, cap, _, h1, h2, _⟩ := hv
          exact (⟨rfl, Nat.le_trans h1 h2⟩ : RepC _ _ .str xs [_])
      · cases ha
    · cases ha
end
end Go.AI
