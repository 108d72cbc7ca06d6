/- Linear algebra over the field: the recovery parts of a sum, and what the inverse of a part of the matrix gives back. -/
import Derived.Test.YtaoimnfmhdmkmaaVolE
import Derived.Test.YtaoimnfmhdmkmaaWord
namespace Go.AI
open Go

/- The laws of the field, on bytes. -/
theorem gfm_nat (a b : UInt8) : (gfm a b).toNat = mulN a.toNat b.toNat := by
  unfold gfm
  rw [UInt8.toNat_ofNat', Nat.mod_eq_of_lt (mulN_lt _ _)]
theorem gfm_comm (a b : UInt8) : gfm a b = gfm b a := by unfold gfm; rw [mulN_comm]
theorem gfm_xr (a b c : UInt8) : gfm a (b ^^^ c) = gfm a b ^^^ gfm a c := by
  apply UInt8.toNat_inj.1
  rw [UInt8.toNat_xor, gfm_nat, gfm_nat, gfm_nat, UInt8.toNat_xor, mulN_xor (u8_lt a) (u8_lt b) (u8_lt c)]
theorem gfm_xl (a b c : UInt8) : gfm (a ^^^ b) c = gfm a c ^^^ gfm b c := by rw [gfm_comm, gfm_xr, gfm_comm c a, gfm_comm c b]
theorem gfm_assoc (a b c : UInt8) : gfm (gfm a b) c = gfm a (gfm b c) := by
  apply UInt8.toNat_inj.1
  rw [gfm_nat, gfm_nat, gfm_nat, gfm_nat, mulN_assoc]
theorem gfm_zr (a : UInt8) : gfm a 0 = 0 := by
  apply UInt8.toNat_inj.1
  rw [gfm_nat]; exact mulN_zero _
theorem gfm_zl (a : UInt8) : gfm 0 a = 0 := by rw [gfm_comm, gfm_zr]
theorem gfm_one (a : UInt8) : gfm 1 a = a := by
  apply UInt8.toNat_inj.1
  rw [gfm_comm, gfm_nat]; exact mulN_one (u8_lt a)
theorem x8_zl (a : UInt8) : (0 : UInt8) ^^^ a = a := by simp
theorem x8_zr (a : UInt8) : a ^^^ (0 : UInt8) = a := by simp

/- Rows times columns. -/
def dot : List UInt8 → List UInt8 → UInt8
  | f :: r, c :: cs => gfm f c ^^^ dot r cs
  | _, _ => 0
def col (j : Nat) (ps : Mat) : List UInt8 := ps.map fun p => p.getD j 0
theorem dot_nil (r : List UInt8) : dot r [] = 0 := by cases r <;> rfl
theorem nil_dot (c : List UInt8) : dot [] c = 0 := by cases c <;> rfl
theorem dot_zero : ∀ (n : Nat) (c : List UInt8), dot (List.replicate n 0) c = 0
  | 0, _ => rfl
  | n + 1, [] => rfl
  | n + 1, c :: cs => by rw [List.replicate_succ, dot, dot_zero n cs, gfm_zl]; rfl
theorem addTo_get (f : UInt8) : ∀ (out p : List UInt8) (j : Nat), out.length = p.length → (addTo f out p).getD j 0 = out.getD j 0 ^^^ gfm f (p.getD j 0)
  | [], [], j, _ => by rw [show addTo f [] [] = [] from rfl]; simp [gfm_zr]
  | o :: out, b :: p, 0, _ => by rw [addTo, xorB_eq]; rfl
  | o :: out, b :: p, j + 1, h => by
    rw [addTo, List.getD_cons_succ, List.getD_cons_succ, List.getD_cons_succ]
    exact addTo_get f out p j (by simpa using h)
  | [], _ :: _, _, h => by simp at h
  | _ :: _, [], _, h => by simp at h
theorem comb_get : ∀ (row : List UInt8) (ps : Mat) (out : List UInt8) (j : Nat), (∀ p ∈ ps, p.length = out.length) → (comb row ps out).getD j 0 = out.getD j 0 ^^^ dot row (col j ps)
  | [], ps, out, j, _ => by
    rw [show comb [] ps out = out by cases ps <;> rfl, show dot [] (col j ps) = 0 from rfl, x8_zr]
  | f :: row, [], out, j, _ => by
    rw [show comb (f :: row) [] out = out from rfl, show dot (f :: row) (col j []) = 0 from rfl, x8_zr]
  | f :: row, p :: ps, out, j, h => by
    have hp := h p List.mem_cons_self
    rw [comb, comb_get row ps (addTo f out p) j (fun q hq => by rw [addTo_len]; exact h q (List.mem_cons_of_mem _ hq)), addTo_get f out p j hp.symm]
    rw [show col j (p :: ps) = p.getD j 0 :: col j ps from rfl, dot]
    ac_rfl
theorem rep_get (n j : Nat) : (List.replicate n (0 : UInt8)).getD j 0 = 0 := by
  simp only [List.getD, List.getElem?_replicate]
  split <;> rfl
theorem combZ_len (ps : Mat) (row : List UInt8) : (combZ ps row).length = headLen ps := by rw [combZ, comb_len, List.length_replicate]
theorem combZ_get {ps : Mat} (h : ∀ p ∈ ps, p.length = headLen ps) (row : List UInt8) (j : Nat) : (combZ ps row).getD j 0 = dot row (col j ps) := by
  rw [combZ, comb_get row ps _ j (fun p hp => by rw [h p hp, List.length_replicate]), rep_get, x8_zl]
theorem dot_addTo (f : UInt8) : ∀ (out p c : List UInt8), out.length = p.length → dot (addTo f out p) c = dot out c ^^^ gfm f (dot p c)
  | [], [], c, _ => by rw [show addTo f [] [] = [] from rfl, nil_dot, gfm_zr, x8_zr]
  | o :: out, b :: p, [], _ => by rw [dot_nil, dot_nil, dot_nil, gfm_zr]; rfl
  | o :: out, b :: p, c :: cs, h => by
    rw [addTo, dot, dot, dot, dot_addTo f out p cs (by simpa using h), xorB_eq, gfm_xl, gfm_assoc, gfm_xr]
    ac_rfl
  | [], _ :: _, _, h => by simp at h
  | _ :: _, [], _, h => by simp at h
theorem dot_comb : ∀ (v : List UInt8) (M : Mat) (out c : List UInt8), (∀ r ∈ M, r.length = out.length) → dot (comb v M out) c = dot out c ^^^ dot v (M.map fun r => dot r c)
  | [], M, out, c, _ => by
    rw [show comb [] M out = out by cases M <;> rfl, show dot [] (M.map fun r => dot r c) = 0 from rfl, x8_zr]
  | f :: v, [], out, c, _ => by
    rw [show comb (f :: v) [] out = out from rfl, List.map_nil, dot_nil, x8_zr]
  | f :: v, r :: M, out, c, h => by
    rw [comb, dot_comb v M (addTo f out r) c (fun q hq => by rw [addTo_len]; exact h q (List.mem_cons_of_mem _ hq)), dot_addTo f out r c (h r List.mem_cons_self).symm, List.map_cons, dot]
    ac_rfl
theorem ext_getD {a b : List UInt8} (h : a.length = b.length) (hj : ∀ j, j < a.length → a.getD j 0 = b.getD j 0) : a = b := by
  apply List.ext_getElem h
  intro j h1 h2
  have := hj j h1
  simpa [List.getD, h1, h2] using this
theorem headLen_map {x M : Mat} (h : M ≠ []) : headLen (M.map (combZ x)) = headLen x := by
  cases M with
  | nil => exact absurd rfl h
  | cons r M => exact combZ_len x r
theorem combZ_assoc {x M : Mat} (hx : ∀ p ∈ x, p.length = headLen x) (hM : ∀ r ∈ M, r.length = headLen M) (h0 : M ≠ []) (v : List UInt8) : combZ (M.map (combZ x)) v = combZ x (combZ M v) := by
  have hr : ∀ p ∈ M.map (combZ x), p.length = headLen (M.map (combZ x)) := fun p hp => by
    obtain ⟨r, _, rfl⟩ := List.mem_map.1 hp
    rw [combZ_len, headLen_map h0]
  apply ext_getD
  · rw [combZ_len, combZ_len, headLen_map h0]
  intro j _
  rw [combZ_get hr, combZ_get hx, combZ, dot_comb v M _ _ (fun r h => by rw [hM r h, List.length_replicate]), dot_zero, x8_zl]
  congr 1
  unfold col
  rw [List.map_map]
  apply List.map_congr_left
  intro r _
  exact combZ_get hx r j
theorem unit_zero (n : Nat) : unitB (n + 1) 0 = 1 :: List.replicate n 0 := rfl
theorem unit_succ (n k : Nat) : unitB (n + 1) (k + 1) = 0 :: unitB n k := rfl
theorem dot_unit : ∀ (c : List UInt8) (k : Nat), dot (unitB c.length k) c = c.getD k 0
  | [], k => by rw [dot_nil]; rfl
  | c :: cs, 0 => by rw [List.length_cons, unit_zero, dot, dot_zero, gfm_one, x8_zr]; rfl
  | c :: cs, k + 1 => by rw [List.length_cons, unit_succ, dot, dot_unit cs k, gfm_zl, x8_zl, List.getD_cons_succ]
theorem getD_map0 (f : List UInt8 → UInt8) (x : Mat) {k : Nat} (h : k < x.length) : (x.map f).getD k 0 = f (x.getD k []) := by simp [List.getD, h]
theorem combZ_unit {x : Mat} (hx : ∀ p ∈ x, p.length = headLen x) {k : Nat} (hk : k < x.length) : combZ x (unitB x.length k) = x.getD k [] := by
  apply ext_getD
  · rw [combZ_len, hx _ (getD_mem hk)]
  intro j _
  rw [combZ_get hx]
  have e : (col j x).length = x.length := by simp [col]
  rw [← e, dot_unit]
  exact getD_map0 _ x hk

/- The sum of lists of parts. -/
def sumR (a b : List UInt8) : List UInt8 := List.zipWith xorB a b
def sumM (x y : Mat) : Mat := List.zipWith sumR x y
theorem sumR_get : ∀ (a b : List UInt8), a.length = b.length → ∀ j, (sumR a b).getD j 0 = a.getD j 0 ^^^ b.getD j 0
  | [], [], _, j => by rw [show sumR [] [] = [] from rfl, show ([] : List UInt8).getD j 0 = 0 from rfl, x8_zr]
  | a :: as, b :: bs, _, 0 => by show xorB a b = _; rw [xorB_eq]; rfl
  | a :: as, b :: bs, h, j + 1 => by
    have := sumR_get as bs (by simpa using h) j
    simpa [sumR] using this
  | [], _ :: _, h, _ => by simp at h
  | _ :: _, [], h, _ => by simp at h
theorem dot_sum : ∀ (r a b : List UInt8), a.length = b.length → dot r (sumR a b) = dot r a ^^^ dot r b
  | [], a, b, _ => by rw [nil_dot, nil_dot, nil_dot, x8_zr]
  | f :: r, [], [], _ => by rw [show sumR [] [] = [] from rfl, dot_nil, x8_zr]
  | f :: r, a :: as, b :: bs, h => by
    show dot (f :: r) (xorB a b :: sumR as bs) = _
    rw [dot, dot, dot, dot_sum r as bs (by simpa using h), xorB_eq, gfm_xr]
    ac_rfl
  | _ :: _, [], _ :: _, h => by simp at h
  | _ :: _, _ :: _, [], h => by simp at h
theorem col_sum (j : Nat) : ∀ (x y : Mat), (∀ p ∈ x, ∀ q ∈ y, p.length = q.length) → col j (sumM x y) = sumR (col j x) (col j y)
  | [], y, _ => by cases y <;> rfl
  | p :: x, [], _ => rfl
  | p :: x, q :: y, h => by
    show (sumR p q).getD j 0 :: col j (sumM x y) = xorB (p.getD j 0) (q.getD j 0) :: sumR (col j x) (col j y)
    rw [col_sum j x y (fun a ha b hb => h a (List.mem_cons_of_mem _ ha) b (List.mem_cons_of_mem _ hb)), sumR_get p q (h p List.mem_cons_self q List.mem_cons_self), xorB_eq]
theorem sumM_rows {w : Nat} : ∀ {x y : Mat}, (∀ p ∈ x, p.length = w) → (∀ p ∈ y, p.length = w) → ∀ p ∈ sumM x y, p.length = w
  | [], y, _, _ => fun p hp => by cases y <;> cases hp
  | _ :: _, [], _, _ => fun p hp => by cases hp
  | a :: x, b :: y, hx, hy => fun p hp => by
    rcases List.mem_cons.1 (show p ∈ sumR a b :: sumM x y from hp) with rfl | hp
    · simp [sumR, hx a List.mem_cons_self, hy b List.mem_cons_self]
    · exact sumM_rows (fun q hq => hx q (List.mem_cons_of_mem _ hq)) (fun q hq => hy q (List.mem_cons_of_mem _ hq)) p hp
theorem headLen_of {w : Nat} {x : Mat} (hx : ∀ p ∈ x, p.length = w) (h0 : 0 < x.length) : headLen x = w := hx _ (getD_mem h0)
/-- Recovery parts of a sum are the sums of those of both. -/
theorem combZ_sum {w : Nat} {x y : Mat} (hx : ∀ p ∈ x, p.length = w) (hy : ∀ p ∈ y, p.length = w) (hl : x.length = y.length) (h0 : 0 < x.length) (row : List UInt8) (j : Nat) :
    (combZ (sumM x y) row).getD j 0 = xorB ((combZ x row).getD j 0) ((combZ y row).getD j 0) := by
  have e1 := headLen_of hx h0
  have e2 := headLen_of hy (by omega)
  have hs := sumM_rows hx hy
  have e3 : headLen (sumM x y) = w := headLen_of hs (by simp [sumM]; omega)
  rw [combZ_get (by rw [e3]; exact hs), combZ_get (by rw [e1]; exact hx), combZ_get (by rw [e2]; exact hy), col_sum j x y (fun p hp q hq => by rw [hx p hp, hy q hq]), dot_sum _ _ _ (by simp [col, hl]), xorB_eq]

/- Parts that are lost. -/
def lose : List Bool → Mat → Mat
  | b :: bs, p :: ps => (bif b then [] else p) :: lose bs ps
  | _, ps => ps
def selB : Nat → List Bool → Mat → Mat
  | 0, _, _ => []
  | n + 1, b :: bs, r :: rs => bif b then selB (n + 1) bs rs else r :: selB n bs rs
  | _ + 1, _, _ => []
theorem basis_lose {x : Mat} (hw : 1 ≤ headLen x) : ∀ (k : Nat) (pat : List Bool) (rs : Mat), pat.length = rs.length → basisB k (lose pat (rs.map (combZ x))) rs = (selB k pat rs, (selB k pat rs).map (combZ x))
  | 0, pat, rs, _ => by rw [basis_zero]; cases pat <;> cases rs <;> rfl
  | k + 1, [], [], _ => rfl
  | k + 1, b :: pat, r :: rs, h => by
    have h' : pat.length = rs.length := by simpa using h
    show basisB (k + 1) ((bif b then [] else combZ x r) :: lose pat (rs.map (combZ x))) (r :: rs) = _
    cases b with
    | true => exact basis_lose hw (k + 1) pat rs h'
    | false =>
      have he : (combZ x r).isEmpty = false := by
        have := combZ_len x r
        cases hc : combZ x r with
        | nil => rw [hc] at this; simp at this; omega
        | cons _ _ => rfl
      rw [cond_false, basisB, he, basis_lose hw k pat rs h']
      rfl
  | k + 1, [], _ :: _, h => by simp at h
  | k + 1, _ :: _, [], h => by simp at h
theorem lose_false : ∀ (ps : Mat), lose (List.replicate ps.length false) ps = ps
  | [] => rfl
  | p :: ps => by rw [List.length_cons, List.replicate_succ, lose, lose_false ps]; rfl
theorem lose_set : ∀ (pat : List Bool) (ps : Mat) (i : Nat), pat.length = ps.length → lose (pat.set i true) ps = (lose pat ps).set i []
  | [], [], i, _ => rfl
  | b :: pat, p :: ps, 0, _ => rfl
  | b :: pat, p :: ps, i + 1, h => by
    show _ :: lose (pat.set i true) ps = _ :: (lose pat ps).set i []
    rw [lose_set pat ps i (by simpa using h)]
  | [], _ :: _, _, h => by simp at h
  | _ :: _, [], _, h => by simp at h
theorem lose_len : ∀ (pat : List Bool) (ps : Mat), (lose pat ps).length = ps.length
  | [], ps => by cases ps <;> rfl
  | b :: pat, [] => rfl
  | b :: pat, p :: ps => by rw [lose, List.length_cons, List.length_cons, lose_len pat ps]
theorem lose_mem : ∀ (pat : List Bool) (ps : Mat) (p : List UInt8), p ∈ lose pat ps → p = [] ∨ p ∈ ps
  | [], ps, p, h => by cases ps <;> exact .inr h
  | b :: pat, [], p, h => by cases h
  | b :: pat, q :: ps, p, h => by
    rcases List.mem_cons.1 (show p ∈ (bif b then [] else q) :: lose pat ps from h) with e | h
    · cases b with
      | true => exact .inl e
      | false => exact .inr (by rw [e]; exact List.mem_cons_self)
    · exact (lose_mem pat ps p h).imp id (List.mem_cons_of_mem _)
theorem lose_get : ∀ (pat : List Bool) (ps : Mat) (k : Nat), (lose pat ps).getD k [] = [] ∨ (lose pat ps).getD k [] = ps.getD k []
  | [], ps, k => by cases ps <;> exact .inr rfl
  | b :: pat, [], k => .inr rfl
  | b :: pat, q :: ps, 0 => by
    cases b with
    | true => exact .inl rfl
    | false => exact .inr rfl
  | b :: pat, q :: ps, k + 1 => by
    rw [lose, List.getD_cons_succ, List.getD_cons_succ]
    exact lose_get pat ps k
def patB (n i j : Nat) : List Bool := ((List.replicate (n + 2) false).set i true).set j true
/-- For all lost parts: the inverse of what is left is in the table, and is an inverse. -/
def goodB (n i j : Nat) : Bool :=
  let s := selB n (patB n i j) (matrixB n 2)
  s.length == n && gInvert_P s && (gInvert_r0 s).map (combZ s) == (List.range n).map (unitB n)
theorem good_all : (allB 7 fun n => n == 0 || allB n fun i => allB n fun j => goodB n i j) = true := by decide +kernel
theorem good_of {n i j : Nat} (h1 : 1 ≤ n) (h6 : n ≤ 6) (hi : i < n) (hj : j < n) :
    (selB n (patB n i j) (matrixB n 2)).length = n ∧ gInvert_P (selB n (patB n i j) (matrixB n 2)) = true ∧ (gInvert_r0 (selB n (patB n i j) (matrixB n 2))).map (combZ (selB n (patB n i j) (matrixB n 2))) = (List.range n).map (unitB n) := by
  have h := allB_iff good_all n (by omega)
  rw [show (n == 0) = false from beq_eq_false_iff_ne.2 (by omega), Bool.false_or] at h
  have h := allB_iff (allB_iff h i hi) j hj
  unfold goodB at h
  simp only [Bool.and_eq_true, beq_iff_eq] at h
  exact ⟨h.1.1, h.1.2, h.2⟩
theorem sel_mem : ∀ (k : Nat) (pat : List Bool) (rs : Mat) (r : List UInt8), r ∈ selB k pat rs → r ∈ rs
  | 0, pat, rs, r, h => by
    rw [show selB 0 pat rs = [] by cases pat <;> cases rs <;> rfl] at h
    cases h
  | k + 1, [], rs, r, h => by cases rs <;> cases h
  | k + 1, _ :: _, [], r, h => by cases h
  | k + 1, b :: pat, q :: rs, r, h => by
    cases b with
    | true => exact List.mem_cons_of_mem _ (sel_mem (k + 1) pat rs r h)
    | false =>
      rcases List.mem_cons.1 (show r ∈ q :: selB k pat rs from h) with rfl | h
      · exact List.mem_cons_self
      · exact List.mem_cons_of_mem _ (sel_mem k pat rs r h)
theorem matrix_len (n r : Nat) : (matrixB n r).length = n + r := by simp [matrixB, cauchyB]
theorem matrix_row {n r : Nat} : ∀ p ∈ matrixB n r, p.length = n := fun p hp => by
  rcases List.mem_append.1 hp with hp | hp
  · obtain ⟨i, _, rfl⟩ := List.mem_map.1 hp
    simp [unitB]
  · obtain ⟨i, _, rfl⟩ := List.mem_map.1 hp
    simp
theorem matrix_get {n r k : Nat} (hk : k < n) : (matrixB n r).getD k [] = unitB n k := by
  unfold matrixB
  simp [List.getD, List.getElem?_append, hk]
theorem getD_mapM {α : Type} (f : List UInt8 → α) (d : α) (x : Mat) {k : Nat} (h : k < x.length) : (x.map f).getD k d = f (x.getD k []) := by simp [List.getD, h]
theorem over_get : ∀ (ps os : Mat) (k : Nat), ps.length = os.length → (over ps os).getD k [] = bif (ps.getD k []).isEmpty then os.getD k [] else ps.getD k []
  | [], [], _, _ => rfl
  | p :: ps, o :: os, 0, _ => rfl
  | p :: ps, o :: os, k + 1, h => by
    rw [over, List.getD_cons_succ, List.getD_cons_succ, List.getD_cons_succ]
    exact over_get ps os k (by simpa using h)
  | [], _ :: _, _, h => by simp at h
  | _ :: _, [], _, h => by simp at h
theorem over_len : ∀ (ps os : Mat), (over ps os).length = os.length
  | [], os => by cases os <;> rfl
  | p :: ps, [] => rfl
  | p :: ps, o :: os => by rw [over, List.length_cons, List.length_cons, over_len ps os]

theorem full_eq {x : Mat} (hx : ∀ p ∈ x, p.length = headLen x) : (matrixB x.length 2).map (combZ x) = x ++ (cauchyB 2 x.length).map (combZ x) := by
  unfold matrixB
  rw [List.map_append]
  congr 1
  apply List.ext_getElem (by simp)
  intro k h1 h2
  have := combZ_unit hx h2
  simpa [List.getD, h2] using this
theorem full_get {x : Mat} (hx : ∀ p ∈ x, p.length = headLen x) {k : Nat} (hk : k < x.length) : ((matrixB x.length 2).map (combZ x)).getD k [] = x.getD k [] := by
  rw [getD_mapM _ _ _ (by rw [matrix_len]; omega), matrix_get hk, combZ_unit hx hk]
theorem sel_head {n k : Nat} {pat : List Bool} (h : 0 < (selB k pat (matrixB n 2)).length) : headLen (selB k pat (matrixB n 2)) = n := matrix_row _ (sel_mem _ _ _ _ (getD_mem h))
/-- What is given back are the data. -/
theorem back_eq {x : Mat} (hx : ∀ p ∈ x, p.length = headLen x) (hw : 1 ≤ headLen x) (h1 : 1 ≤ x.length) (h6 : x.length ≤ 6) {i j : Nat} (hi : i < x.length) (hj : j < x.length) {k : Nat} (hk : k < x.length) :
    (over (lose (patB x.length i j) ((matrixB x.length 2).map (combZ x))) (wholeB (lose (patB x.length i j) ((matrixB x.length 2).map (combZ x))) x.length 2)).getD k [] = x.getD k [] := by
  obtain ⟨g1, g2, g3⟩ := good_of h1 h6 hi hj
  have hpl : (patB x.length i j).length = (matrixB x.length 2).length := by rw [matrix_len]; simp [patB]
  have hb := basis_lose hw x.length (patB x.length i j) (matrixB x.length 2) hpl
  have hl : (lose (patB x.length i j) ((matrixB x.length 2).map (combZ x))).length = x.length + 2 := by rw [lose_len, List.length_map, matrix_len]
  have hwl : (wholeB (lose (patB x.length i j) ((matrixB x.length 2).map (combZ x))) x.length 2).length = x.length + 2 := by
    unfold wholeB
    rw [List.length_map, matrix_len]
  rw [over_get _ _ _ (by rw [hl, hwl])]
  rcases lose_get (patB x.length i j) ((matrixB x.length 2).map (combZ x)) k with e | e
  · rw [e]
    show (wholeB _ _ _).getD k [] = _
    unfold wholeB
    rw [hb]
    simp only
    have hs0 : selB x.length (patB x.length i j) (matrixB x.length 2) ≠ [] := fun h => by rw [h] at g1; simp at g1; omega
    have hsr : ∀ r ∈ selB x.length (patB x.length i j) (matrixB x.length 2), r.length = headLen (selB x.length (patB x.length i j) (matrixB x.length 2)) := fun r hr => by
      rw [sel_head (by omega)]
      exact matrix_row _ (sel_mem _ _ _ _ hr)
    generalize hs : selB x.length (patB x.length i j) (matrixB x.length 2) = s at *
    have hO : (gInvert_r0 s).map (combZ (s.map (combZ x))) = x := by
      have e1 : (gInvert_r0 s).map (combZ (s.map (combZ x))) = ((gInvert_r0 s).map (combZ s)).map (combZ x) := by
        rw [List.map_map]
        apply List.map_congr_left
        intro v _
        exact combZ_assoc hx hsr hs0 v
      rw [e1, g3, List.map_map]
      apply List.ext_getElem (by simp)
      intro k' h1' h2'
      have := combZ_unit hx h2'
      simpa [List.getD, h2'] using this
    rw [hO]
    exact full_get hx hk
  · rw [e, full_get hx hk]
    have : (x.getD k []).isEmpty = false := by
      have := hx _ (getD_mem (d := []) hk)
      cases hc : x.getD k [] with
      | nil => rw [hc] at this; simp at this; omega
      | cons _ _ => rfl
    rw [this]; rfl
theorem firstLen_of {w : Nat} : ∀ {ps : Mat}, (∀ p ∈ ps, p = [] ∨ p.length = w) → 1 ≤ w → (firstLen ps = 0 ∨ firstLen ps = w) ∧ ∀ p ∈ ps, p = [] ∨ p.length = firstLen ps
  | [], _, _ => ⟨.inl rfl, fun p hp => by cases hp⟩
  | q :: ps, h, hw => by
    obtain ⟨i1, i2⟩ := firstLen_of (fun p hp => h p (List.mem_cons_of_mem _ hp)) hw
    rcases h q List.mem_cons_self with rfl | e
    · refine ⟨i1, fun p hp => ?_⟩
      rcases List.mem_cons.1 hp with rfl | hp
      · exact .inl rfl
      · exact i2 p hp
    · have hq : q.isEmpty = false := by cases q with | nil => simp at e; omega | cons _ _ => rfl
      have hf : firstLen (q :: ps) = w := by rw [firstLen, hq]; exact e
      rw [hf]
      refine ⟨.inr rfl, h⟩
theorem repair_P {x : Mat} (hx : ∀ p ∈ x, p.length = headLen x) (hw : 1 ≤ headLen x) (hw2 : headLen x ≤ 65536) (h1 : 1 ≤ x.length) (h6 : x.length ≤ 6) {i j : Nat} (hi : i < x.length) (hj : j < x.length) :
    pRepair_P (lose (patB x.length i j) ((matrixB x.length 2).map (combZ x))) ((x.length : Nat) : Int) = true := by
  obtain ⟨g1, g2, g3⟩ := good_of h1 h6 hi hj
  have hpl : (patB x.length i j).length = (matrixB x.length 2).length := by rw [matrix_len]; simp [patB]
  have hb := basis_lose hw x.length (patB x.length i j) (matrixB x.length 2) hpl
  have hl : (lose (patB x.length i j) ((matrixB x.length 2).map (combZ x))).length = x.length + 2 := by rw [lose_len, List.length_map, matrix_len]
  have hr : ∀ p ∈ lose (patB x.length i j) ((matrixB x.length 2).map (combZ x)), p = [] ∨ p.length = headLen x := fun p hp => by
    rcases lose_mem _ _ _ hp with e | hp
    · exact .inl e
    · obtain ⟨r, _, rfl⟩ := List.mem_map.1 hp
      exact .inr (combZ_len x r)
  obtain ⟨f1, f2⟩ := firstLen_of hr hw
  unfold pRepair_P pWhole_P
  rw [hl, Int.toNat_natCast, show x.length + 2 - x.length = 2 by omega, hb]
  simp only [Bool.and_eq_true, List.length_map, g1, g2, beq_self_eq_true, and_true]
  refine ⟨?_, ?_⟩
  · unfold pCheck_P
    rw [Bool.and_eq_true, decide_eq_true_eq, List.all_eq_true]
    refine ⟨⟨by omega, by omega, by omega, by omega, by omega⟩, fun p hp => ?_⟩
    rcases f2 p hp with e | e
    · rw [e]; rfl
    · rw [e]; simp
  · unfold cauchyIn
    rw [show (((x.length + 2 : Nat) : Int) - ((x.length : Nat) : Int)) = 2 by omega]
    simp only [Bool.or_eq_true, Bool.and_eq_true, decide_eq_true_eq]
    exact .inl ⟨rfl, by omega, by omega⟩
end Go.AI
