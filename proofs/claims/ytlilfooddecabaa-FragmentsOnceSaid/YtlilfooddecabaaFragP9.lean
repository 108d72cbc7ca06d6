/- Equal data have one number. -/
import Derived.Test.YtlilfooddecabaaFragP8
namespace Go.AI
open Go

def FragmentsOnce_P (_ : List (List UInt8)) : Bool := true
def FragmentsOnce_r (_ : List (List UInt8)) : Bool := true
theorem hasI_iff {l : List Itm} {d : List UInt8} {n : Int} : hasI l d n = true ↔ ∃ x, x ∈ l ∧ x.1 = d ∧ x.2.1 = n := by
  unfold hasI
  rw [List.any_eq_true]
  exact ⟨fun ⟨x, h1, h2⟩ => ⟨x, h1, isI_iff.1 h2⟩, fun ⟨x, h1, h2⟩ => ⟨x, h1, isI_iff.2 h2⟩⟩
theorem idxI_lt {d : List UInt8} {n : Int} : ∀ {l : List Itm}, hasI l d n = true → idxI d n l < l.length
  | [], h => by cases h
  | x :: l, h => by
    rw [idxI, List.length_cons]
    cases e : isI d n x with
    | true => rw [if_pos rfl]; omega
    | false =>
      rw [hasI_cons, e, Bool.false_or] at h
      have := idxI_lt h
      rw [if_neg (by decide)]; omega
theorem once_loop2 {X : Type} (F : Nat) (fail : X) (ex0 : List (List UInt8) → Bool → Int → Int → Int → Bool → Int → Int → Int → Frg → List Int → Frg → X) (l : List (List UInt8)) (s2 : Bool) (count n : Int) (fresh : Bool) (e : Int) (f g : Frg) (ns : List Int) (i : Nat) (v : Int) (hi : i < l.length) (hl : l.length ≤ 30) (hn : ns.length = l.length) (hv : ∀ k, k < i → l.getD k [] = l.getD i [] → ns.getD k 0 = v) : ∀ (j m k : Nat) (known : Int), k + j = i → j ≤ m →
    FragmentsOnce_l2F F fail ex0 (m + 1) l s2 count i n fresh e known k f ns g = ex0 l s2 count i n fresh e (if (((List.range i).drop k).any fun k => decide (l.getD k [] = l.getD i [])) = true then v else known) i f ns g
  | 0, m, k, known, hk, _ => by
    have e : k = i := by omega
    subst e
    rw [FragmentsOnce_l2F, FragmentsOnce_l2]
    rw [bif_false (ff (by omega)), List.drop_eq_nil_of_le (by rw [List.length_range]; omega)]; rfl
  | j + 1, 0, k, _, _, hm => absurd hm (by omega)
  | j + 1, m + 1, k, known, hk, hm => by
    have ih := fun known => once_loop2 F fail ex0 l s2 count n fresh e f g ns i v hi hl hn hv j m (k + 1) known (by omega) (by omega)
    rw [FragmentsOnce_l2F, FragmentsOnce_l2]
    rw [Int.toNat_natCast, Int.toNat_natCast, bif_true (tt (by omega)), bif_true (tt2 (by omega) (by omega)), bif_true (tt2 (by omega) (by omega)), bif_true (tt2 (by omega) (by omega)), addI_eq (by omega) (by omega), nat1, ih, ih, drop_cons 0 (show k < (List.range i).length by rw [List.length_range]; omega), show (List.range i).getD k 0 = k by rw [getD_lt (by rw [List.length_range]; omega), List.getElem_range], List.any_cons]
    by_cases c : l.getD k [] = l.getD i []
    · rw [show ((l.getD k []) == (l.getD i [])) = true from beq_iff_eq.2 c, cond_true, hv k (by omega) c, tt c, Bool.true_or, if_pos rfl]
      split <;> rfl
    · rw [show ((l.getD k []) == (l.getD i [])) = false from beq_eq_false_iff_ne.2 c, cond_false, ff c, Bool.false_or]
/-- What holds behind some byte strings. -/
structure OnceOk (l : List (List UInt8)) (i : Nat) (f : Frg) (ns : List Int) : Prop where
  chk : chkI f = 0
  len : f.1.length ≤ i
  nsl : ns.length = l.length
  has : ∀ k, k < i → l.getD k [] ≠ [] → hasI f.1 (dSum_r (l.getD k [])) (l.getD k []).length = true ∧ ns.getD k 0 = ((idxI (dSum_r (l.getD k [])) (l.getD k []).length f.1 : Nat) : Int)
  from_ : ∀ x, x ∈ f.1 → ∃ k, k < i ∧ l.getD k [] ≠ [] ∧ x.1 = dSum_r (l.getD k []) ∧ x.2.1 = ((l.getD k []).length : Int)
theorem getD_set_ne {α : Type} {l : List α} {k j : Nat} (a d : α) (h : k ≠ j) : (l.set k a).getD j d = l.getD j d := by simp [List.getD, List.getElem?_set_ne h]
theorem no_coll {l : List (List UInt8)} (h : qCollide_r l = false) : ∀ i k, i < l.length → k < i → (l.getD i []).length = (l.getD k []).length → dSum_r (l.getD i []) = dSum_r (l.getD k []) → l.getD i [] = l.getD k [] := by
  intro i k hi hk h1 h2
  unfold qCollide_r at h
  have h3 := List.any_eq_false.1 h i (List.mem_range.2 hi)
  have h3 : (List.range i).any (collAt l i) = false := by simpa using h3
  have h4 := List.any_eq_false.1 h3 k (List.mem_range.2 hk)
  by_cases c : l.getD i [] = l.getD k []
  · exact c
  · exact absurd (show collAt l i k = true from tt ⟨h1, c, h2⟩) h4
theorem ex_trans {A B X : Type} {P : A → B → Prop} {K : A → X} {a b : X} (e : a = b) (h : ∃ f n, P f n ∧ b = K f) : ∃ f n, P f n ∧ a = K f := by rw [e]; exact h
theorem once_loop1 {X : Type} (F : Nat) (fail : X) (ex0 ex1 : List (List UInt8) → Bool → Int → Int → Frg → List Int → X) (K : Frg → X) (l : List (List UInt8)) (s2 : Bool) (hl : l.length ≤ 30) (hs : ∀ x, x ∈ l → x.length ≤ 300) (hc : qCollide_r l = false) (hF : 31 < F) (h1 : ∀ n f ns, ex1 l s2 n (l.length : Nat) f ns = K f) : ∀ (j m i : Nat) (f : Frg) (ns : List Int), i + j = l.length → j ≤ m → OnceOk l i f ns →
    ∃ f' ns', OnceOk l l.length f' ns' ∧ FragmentsOnce_l1F F fail ex0 ex1 (m + 1) l s2 (f.1.length : Nat) i f ns = K f'
  | 0, m, i, f, ns, hi, _, hr => by
    have e : i = l.length := by omega
    subst e
    refine ⟨f, ns, hr, ?_⟩
    rw [FragmentsOnce_l1F, FragmentsOnce_l1]
    rw [bif_false (ff (by omega)), h1]
  | j + 1, 0, i, _, _, _, hm, _ => absurd hm (by omega)
  | j + 1, m + 1, i, f, ns, hi, hm, hr => by
    have ih := fun f' ns' => once_loop1 F fail ex0 ex1 K l s2 hl hs hc hF h1 j m (i + 1) f' ns' (by omega) (by omega)
    have hb := hs (l.getD i []) (by rw [getD_lt (show i < l.length by omega)]; exact List.getElem_mem _)
    have hrl := hr.len
    have hrn := hr.nsl
    have hadd : addI_ f (l.getD i []) = addK f (l.getD i []) := if_pos hr.chk
    have ei : (decide ((0 : Int) ≤ (i : Int)) && decide ((i : Int) < ((l.length : Nat) : Int))) = true := tt2 (by omega) (by omega)
    have ein : (decide ((0 : Int) ≤ (i : Int)) && decide ((i : Int) < ((ns.length : Nat) : Int))) = true := tt2 (by omega) (by omega)
    have hds : dSum_P (l.getD i []) = true := tt (by omega)
    rw [FragmentsOnce_l1F, FragmentsOnce_l1]
    rw [Int.toNat_natCast, bif_true (tt (by omega)), bif_true ei, bif_true (c := fAdd_P _ _) rfl, bif_true ei]
    obtain ⟨F', rfl⟩ : ∃ F', F = F' + 1 := ⟨F - 1, by omega⟩
    rcases addK_cases f (l.getD i []) with ⟨k1, k⟩ | ⟨k1, k⟩ | ⟨k1, k2, k3, k⟩ | ⟨k1, k2, k3, k4, k⟩ | ⟨k1, k2, k3, k4, k⟩
    · omega
    · -- nothing
      rw [bif_true (beq_t (by omega)), show (fAdd_r3 f (l.getD i []) != 1) = false by unfold fAdd_r3; rw [hadd, k]; rfl, cond_false, bif_true ein, addI_eq (by omega) (by omega), nat1]
      refine ih f _ ⟨hr.chk, by omega, by rw [List.length_set]; exact hr.nsl, fun q hq hq2 => ?_, fun x hx => ?_⟩
      · have hqi : q ≠ i := fun e => hq2 (by rw [e]; exact List.length_eq_zero_iff.1 k1)
        rw [getD_set_ne _ _ (Ne.symm hqi)]
        exact hr.has q (by omega) hq2
      · obtain ⟨q, h2, h3⟩ := hr.from_ x hx
        exact ⟨q, by omega, h3⟩
    · -- known
      have hne : l.getD i [] ≠ [] := fun e => by rw [e] at k1; exact absurd k1 (by simp)
      have hv : ∀ q, q < i → l.getD q [] = l.getD i [] → ns.getD q 0 = ((idxI (dSum_r (l.getD i [])) (l.getD i []).length f.1 : Nat) : Int) := fun q hq e => by
        have := (hr.has q hq (by rw [e]; exact hne)).2
        rwa [e] at this
      obtain ⟨x, hx, hx1, hx2⟩ := hasI_iff.1 k3
      obtain ⟨q, hq, hq1, hq2, hq3⟩ := hr.from_ x hx
      have heq : l.getD i [] = l.getD q [] := no_coll hc i q (by omega) hq (by rw [hx2] at hq3; omega) (by rw [← hx1, hq2])
      have hany : ((List.range i).drop 0).any (fun k => decide (l.getD k [] = l.getD i [])) = true := by
        rw [List.drop_zero]
        exact List.any_eq_true.2 ⟨q, List.mem_range.2 hq, tt heq.symm⟩
      have hlt := idxI_lt k3
      rw [bif_false (beq_f (by omega))]
      have r0 : fAdd_r0 f (l.getD i []) = f := by unfold fAdd_r0; rw [hadd, k]
      have r1 : fAdd_r1 f (l.getD i []) = ((idxI (dSum_r (l.getD i [])) (l.getD i []).length f.1 : Nat) : Int) := by unfold fAdd_r1; rw [hadd, k]
      have r2 : fAdd_r2 f (l.getD i []) = false := by unfold fAdd_r2; rw [hadd, k]
      have r3 : fAdd_r3 f (l.getD i []) = 0 := by unfold fAdd_r3; rw [hadd, k]
      have g0 : fFind_r0 f (dSum_r (l.getD i [])) (l.getD i []).length = ((idxI (dSum_r (l.getD i [])) (l.getD i []).length f.1 : Nat) : Int) := if_pos ⟨hr.chk, k3⟩
      have g1 : fFind_r1 f (dSum_r (l.getD i [])) (l.getD i []).length = true := by unfold fFind_r1; rw [tt hr.chk, k3]; rfl
      rw [r0, r1, r2, r3]
      refine ex_trans ?_ (ih f (ns.set i ((idxI (dSum_r (l.getD i [])) (l.getD i []).length f.1 : Nat) : Int)) ⟨hr.chk, by omega, by rw [List.length_set]; exact hr.nsl, fun q hq hq2 => ?_, fun x hx => ?_⟩)
      · refine (once_loop2 (F' + 1) fail _ l s2 _ _ false 0 f f ns i _ (by omega) hl hrn hv i F' 0 (-1) (by omega) (by omega)).trans ?_
        rw [hany, if_pos rfl, Int.toNat_natCast, bif_false (ff (by omega)), bif_true ei, bif_true hds, bif_true ei, bif_true (c := fFind_P _ _ _) rfl, g0, g1]
        rw [bif_false (c := (0 : Int) != 0) rfl, bif_false (bne_f rfl), show (((idxI (dSum_r (l.getD i [])) (l.getD i []).length f.1 : Nat) : Int) == ((f.1.length : Nat) : Int)) = false from beq_f (by omega), bif_false (c := !(false == false)) rfl, bif_false (c := !true) rfl, bif_false (bne_f rfl), bif_false (bne_f rfl), bif_true ein, addI_eq (by omega) (by omega), nat1]
      · by_cases e : q = i
        · subst e
          exact ⟨k3, getD_set _ _ (by omega)⟩
        · rw [getD_set_ne _ _ (Ne.symm e)]
          exact hr.has q (by omega) hq2
      · obtain ⟨q, h2, h3⟩ := hr.from_ x hx
        exact ⟨q, by omega, h3⟩
    · omega
    · -- new
      have hne : l.getD i [] ≠ [] := fun e => by rw [e] at k1; exact absurd k1 (by simp)
      have hno : ∀ q, q < i → ¬ l.getD q [] = l.getD i [] := fun q hq e => by
        have := (hr.has q hq (by rw [e]; exact hne)).1
        rw [e, k3] at this; cases this
      have hany : ((List.range i).drop 0).any (fun k => decide (l.getD k [] = l.getD i [])) = false := by
        rw [List.drop_zero]
        exact List.any_eq_false.2 fun q hq => by
          rw [ff (hno q (List.mem_range.1 hq))]; decide
      rw [bif_false (beq_f (by omega))]
      have r1 : fAdd_r1 f (l.getD i []) = ((f.1.length : Nat) : Int) := by unfold fAdd_r1; rw [hadd, k]
      have r2 : fAdd_r2 f (l.getD i []) = true := by unfold fAdd_r2; rw [hadd, k]
      have r3 : fAdd_r3 f (l.getD i []) = 0 := by unfold fAdd_r3; rw [hadd, k]
      have r0 : fAdd_r0 f (l.getD i []) = (f.1 ++ [(dSum_r (l.getD i []), (((l.getD i []).length : Int), (-1, (0, ()))))], ()) := by unfold fAdd_r0; rw [hadd, k]
      have hok : okI (dSum_r (l.getD i []), (((l.getD i []).length : Int), (-1, (0, ())))) = true := okI_iff.2 ⟨btw_iff.2 (by show (1 : Int) ≤ ((l.getD i []).length : Int) ∧ ((l.getD i []).length : Int) ≤ 65536; omega), .inl ⟨rfl, rfl⟩⟩
      have hch := chk_snoc hr.chk k4 hok k3
      have hgl : (f.1 ++ [(dSum_r (l.getD i []), (((l.getD i []).length : Int), ((-1 : Int), ((0 : Int), ()))))]).length = f.1.length + 1 := by rw [List.length_append, List.length_singleton]
      have hself : isI (dSum_r (l.getD i [])) ((l.getD i []).length : Int) (dSum_r (l.getD i []), (((l.getD i []).length : Int), (-1, (0, ())))) = true := isI_iff.2 ⟨rfl, rfl⟩
      have hgh : hasI (f.1 ++ [(dSum_r (l.getD i []), (((l.getD i []).length : Int), (-1, (0, ()))))]) (dSum_r (l.getD i [])) (l.getD i []).length = true := by rw [hasI_snoc, hself, Bool.or_true]
      have hgi : idxI (dSum_r (l.getD i [])) (l.getD i []).length (f.1 ++ [(dSum_r (l.getD i []), (((l.getD i []).length : Int), (-1, (0, ()))))]) = f.1.length := by rw [idxI_snoc, k3, if_neg (by decide), hself, if_pos rfl]
      have g0 : fFind_r0 (f.1 ++ [(dSum_r (l.getD i []), (((l.getD i []).length : Int), (-1, (0, ()))))], ()) (dSum_r (l.getD i [])) (l.getD i []).length = ((f.1.length : Nat) : Int) := (if_pos ⟨hch, hgh⟩).trans (by rw [hgi])
      have g1 : fFind_r1 (f.1 ++ [(dSum_r (l.getD i []), (((l.getD i []).length : Int), (-1, (0, ()))))], ()) (dSum_r (l.getD i [])) (l.getD i []).length = true := by unfold fFind_r1; rw [tt hch, hgh]; rfl
      rw [r0, r1, r2, r3]
      refine ex_trans ?_ (ih (f.1 ++ [(dSum_r (l.getD i []), (((l.getD i []).length : Int), (-1, (0, ()))))], ()) (ns.set i ((f.1.length : Nat) : Int)) ⟨hch, by rw [hgl]; omega, by rw [List.length_set]; exact hr.nsl, fun q hq hq2 => ?_, fun x hx => ?_⟩)
      · refine (once_loop2 (F' + 1) fail _ l s2 _ _ true 0 f _ ns i (-1) (by omega) hl hrn (fun q hq e => absurd e (hno q hq)) i F' 0 (-1) (by omega) (by omega)).trans ?_
        rw [hany, if_neg (by decide), Int.toNat_natCast, bif_true (c := decide ((-1 : Int) < 0)) rfl, bif_true ei, bif_true hds, bif_true ei, bif_true (c := fFind_P _ _ _) rfl, g0, g1, addI_eq (a := ((f.1.length : Nat) : Int)) (by omega) (by omega), hgl]
        rw [bif_false (c := (0 : Int) != 0) rfl, bif_false (bne_f rfl), beq_t rfl, bif_false (c := !(true == true)) rfl, bif_false (c := !true) rfl, bif_false (bne_f rfl), bif_false (bne_f (by omega)), bif_true ein, addI_eq (by omega) (by omega), nat1, nat1]
      · by_cases e : q = i
        · subst e
          exact ⟨hgh, by rw [getD_set _ _ (by omega), hgi]⟩
        · rw [getD_set_ne _ _ (Ne.symm e)]
          obtain ⟨h2, h3⟩ := hr.has q (by omega) hq2
          exact ⟨by rw [hasI_snoc, h2, Bool.true_or], by rw [idxI_snoc, h2, if_pos rfl]; exact h3⟩
      · rcases List.mem_append.1 hx with hx | hx
        · obtain ⟨q, h2, h3⟩ := hr.from_ x hx
          exact ⟨q, by omega, h3⟩
        · rw [List.mem_singleton.1 hx]
          exact ⟨i, by omega, hne, rfl, rfl⟩
theorem FragmentsOnce_plain (l : List (List UInt8)) (_ : FragmentsOnce_P l = true) : ∃ F, ∀ {X : Type} (fail : X) (ret : Bool → X), FragmentsOnce F l fail ret = ret (FragmentsOnce_r l) := ⟨40, fun fail ret => by
  unfold FragmentsOnce
  rw [bif_true (c := law46_few_P l) rfl]
  cases hw : law46_few_r l with
  | false => rfl
  | true =>
    have h := few_mem hw
    have hp : qCollide_P l = true := by
      unfold qCollide_P
      rw [tt (show l.length ≤ 1000000 by omega), Bool.true_and]
      exact List.all_eq_true.2 fun x hx => tt (by have := h.2 x hx; omega)
    rw [bif_false (c := !true) rfl, hp, cond_true]
    cases hc : qCollide_r l with
    | true => rfl
    | false =>
      rw [cond_false, bif_true (by rw [Bool.and_true]; exact tt2 (by omega) (by unfold big; omega))]
      obtain ⟨f', ns', h1, h2⟩ := once_loop1 40 fail (fun _ s2 _ _ _ _ => ret s2) (fun _ _ _ _ f1 _ =>
        bif (law46_awake_r) then
          bif (fCheck_P f1) then
          ret ((fCheck_r f1) == (0 : Int))
          else fail
        else
        ret false) _ l false h.1 h.2 hc (by omega) (fun _ _ _ => rfl) l.length 39 0 fr0 (List.replicate l.length 0) (by omega) (by omega) ⟨rfl, Nat.le_refl _, List.length_replicate .., fun q hq => absurd hq (by omega), fun x hx => by cases hx⟩
      refine h2.trans ?_
      have e1 : (fCheck_r f' == 0) = true := beq_t h1.chk
      rw [e1]; rfl⟩
end Go.AI
