/- Numbers and places remain. -/
import Derived.Test.YtlilfooddecabaaFragG3
import Derived.Test.YtlilfooddecabaaFragP5
namespace Go.AI
open Go

def FragmentsRemain_P (_ : List (List UInt8)) (_ : List UInt8) : Bool := true
def FragmentsRemain_r (_ : List (List UInt8)) (_ : List UInt8) : Bool := true

/- Indexes in order. -/
theorem goI_snoc : ∀ (r p : List Itm) (x : Itm), goI p r = 0 → okI x = true → hasI (p ++ r) x.1 x.2.1 = false → goI p (r ++ [x]) = 0
  | [], p, x, _, h1, h2 => by
    rw [List.append_nil] at h2
    show (if okI x then (if hasI p x.1 x.2.1 then 8 else goI (p ++ [x]) []) else 2) = 0
    rw [h1, h2]; rfl
  | y :: r, p, x, h0, h1, h2 => by
    rw [List.cons_append]
    unfold goI at h0 ⊢
    split at h0
    · rename_i hy
      rw [if_pos hy]
      split at h0
      · cases h0
      · rename_i hh
        rw [if_neg hh]
        exact goI_snoc r (p ++ [y]) x h0 h1 (by rw [List.append_assoc]; exact h2)
    · cases h0
def keysI (l : List Itm) : List (List UInt8 × Int) := l.map fun x => (x.1, x.2.1)
theorem hasI_keys (l : List Itm) (d : List UInt8) (n : Int) : hasI l d n = (keysI l).any fun k => decide (k.1 = d ∧ k.2 = n) := by
  unfold hasI keysI
  rw [List.any_map]; rfl
theorem goI_keys : ∀ (r r' p p' : List Itm), keysI r = keysI r' → keysI p = keysI p' → (∀ x, x ∈ r' → okI x = true) → goI p r = 0 → goI p' r' = 0
  | [], [], _, _, _, _, _, _ => rfl
  | [], _ :: _, _, _, h, _, _, _ => by cases h
  | _ :: _, [], _, _, h, _, _, _ => by cases h
  | x :: r, y :: r', p, p', h, hp, ho, h0 => by
    have e : (x.1, x.2.1) = (y.1, y.2.1) ∧ keysI r = keysI r' := List.cons.inj h
    have e1 : x.1 = y.1 := congrArg (fun k : List UInt8 × Int => k.1) e.1
    have e2 : x.2.1 = y.2.1 := congrArg (fun k : List UInt8 × Int => k.2) e.1
    unfold goI at h0 ⊢
    rw [if_pos (ho y List.mem_cons_self)]
    split at h0
    · rw [hasI_keys, hp, e1, e2, ← hasI_keys] at h0
      split at h0
      · cases h0
      · rename_i hh
        rw [if_neg hh]
        refine goI_keys r r' (p ++ [x]) (p' ++ [y]) e.2 ?_ (fun z hz => ho z (List.mem_cons_of_mem _ hz)) h0
        show (p ++ [x]).map _ = (p' ++ [y]).map _
        rw [List.map_append, List.map_append]
        rw [show p.map (fun x => (x.1, x.2.1)) = p'.map (fun x => (x.1, x.2.1)) from hp, List.map_singleton, List.map_singleton, e.1]
    · cases h0
theorem chk_snoc {f : Frg} {x : Itm} (h : chkI f = 0) (hl : f.1.length < 4096) (h1 : okI x = true) (h2 : hasI f.1 x.1 x.2.1 = false) : chkI (f.1 ++ [x], ()) = 0 := by
  rcases chk_cases f with ⟨c, _⟩ | ⟨_, e⟩
  · omega
  have e2 : chkI (f.1 ++ [x], ()) = goI [] (f.1 ++ [x]) := if_neg (by rw [List.length_append, List.length_singleton]; omega)
  rw [e2]
  exact goI_snoc f.1 [] x (e ▸ h) h1 h2
theorem chk_set {f : Frg} {k : Nat} {y : Itm} (h : chkI f = 0) (hk : k < f.1.length) (h1 : y.1 = (f.1.getD k itm0).1) (h2 : y.2.1 = (f.1.getD k itm0).2.1) (ho : okI y = true) : chkI (f.1.set k y, ()) = 0 := by
  have hf := chk_ok h
  rcases chk_cases f with ⟨c, _⟩ | ⟨_, e⟩
  · omega
  have e2 : chkI (f.1.set k y, ()) = goI [] (f.1.set k y) := if_neg (by show ¬ (f.1.set k y).length > 4096; rw [List.length_set]; omega)
  rw [e2]
  refine goI_keys f.1 _ [] [] ?_ rfl (fun x hx => ?_) (e ▸ h)
  · unfold keysI
    rw [List.map_set, h1, h2, getD_lt hk, ← List.getElem_map (f := fun x : Itm => (x.1, x.2.1)) (h := by simpa using hk), List.set_getElem_self]
  · rcases List.mem_or_eq_of_mem_set hx with hx | rfl
    · exact hf.2 x hx
    · exact ho
theorem sumI_snoc (l : List Itm) (x : Itm) (h : x.2.2.1 = -1) : sumI (l ++ [x]) = sumI l := by simp [sumI, h]
theorem sumI_set (y : Itm) : ∀ (l : List Itm) (k : Nat), k < l.length → (l.getD k itm0).2.2.1 = -1 → y.2.2.1 ≠ -1 → sumI (l.set k y) = sumI l + y.2.1
  | x :: l, 0, _, h1, h2 => by
    have h1 : x.2.2.1 = -1 := h1
    show sumI (y :: l) = _
    rw [sumI_cons, sumI_cons, if_neg h2, if_pos h1]; omega
  | x :: l, k + 1, h, h1, h2 => by
    show sumI (x :: l.set k y) = _
    rw [sumI_cons, sumI_cons, sumI_set y l k (by simpa using h) h1 h2]; omega
  | [], _, h, _, _ => absurd h (by simp)
/-- The one index goes on from the other. -/
def Ext (f g : List Itm) : Prop := f.length ≤ g.length ∧ ∀ k, k < f.length → (f.getD k itm0).1 = (g.getD k itm0).1 ∧ (f.getD k itm0).2.1 = (g.getD k itm0).2.1 ∧ ((f.getD k itm0).2.2.1 ≥ 0 → f.getD k itm0 = g.getD k itm0)
theorem ext_rfl (f : List Itm) : Ext f f := ⟨Nat.le_refl _, fun _ _ => ⟨rfl, rfl, fun _ => rfl⟩⟩
theorem ext_trans {f g h : List Itm} (a : Ext f g) (b : Ext g h) : Ext f h := by
  refine ⟨Nat.le_trans a.1 b.1, fun k hk => ?_⟩
  obtain ⟨a1, a2, a3⟩ := a.2 k hk
  obtain ⟨b1, b2, b3⟩ := b.2 k (Nat.lt_of_lt_of_le hk a.1)
  exact ⟨a1.trans b1, a2.trans b2, fun c => (a3 c).trans (b3 (by rw [← a3 c]; exact c))⟩
theorem ext_snoc (f : List Itm) (x : Itm) : Ext f (f ++ [x]) := by
  refine ⟨by rw [List.length_append]; omega, fun k hk => ?_⟩
  have e : (f ++ [x]).getD k itm0 = f.getD k itm0 := by
    simp [List.getD, List.getElem?_append_left hk]
  rw [e]; exact ⟨rfl, rfl, fun _ => rfl⟩
theorem ext_set {f : List Itm} {k : Nat} {y : Itm} (hk : k < f.length) (h1 : y.1 = (f.getD k itm0).1) (h2 : y.2.1 = (f.getD k itm0).2.1) (hb : (f.getD k itm0).2.2.1 = -1) : Ext f (f.set k y) := by
  refine ⟨by rw [List.length_set]; exact Nat.le_refl _, fun j hj => ?_⟩
  by_cases e : k = j
  · subst e
    rw [getD_set y itm0 hk]
    exact ⟨h1.symm, h2.symm, fun c => by omega⟩
  · have e : (f.set k y).getD j itm0 = f.getD j itm0 := by simp [List.getD, List.getElem?_set_ne e]
    rw [e]; exact ⟨rfl, rfl, fun _ => rfl⟩
theorem remain_loop2 {X : Type} (F : Nat) (fail : X) (ex0 ex1 : List (List UInt8) → List UInt8 → Bool → Int → Int → List Itm → Int → Frg → X) (l : List (List UInt8)) (pl : List UInt8) (s4 : Bool) (s i : Int) (b : List Itm) (f : Frg) (he : Ext b f.1) (hb : b.length ≤ 4096) : ∀ (j m k : Nat), k + j = b.length → j ≤ m →
    FragmentsRemain_l2F F fail ex0 ex1 (m + 1) l pl s4 s i b k f = ex1 l pl s4 s i b (b.length : Nat) f
  | 0, m, k, hk, _ => by
    have e : k = b.length := by omega
    subst e
    rw [FragmentsRemain_l2F, FragmentsRemain_l2]
    rw [bif_false (ff (by omega))]
  | j + 1, 0, k, _, hm => absurd hm (by omega)
  | j + 1, m + 1, k, hk, hm => by
    have ih := remain_loop2 F fail ex0 ex1 l pl s4 s i b f he hb j m (k + 1) (by omega) (by omega)
    obtain ⟨h1, h2, h3⟩ := he.2 k (by omega)
    have hl := he.1
    rw [FragmentsRemain_l2F, FragmentsRemain_l2]
    rw [Int.toNat_natCast, bif_true (tt (by omega)), bif_true (tt2 (by omega) (by omega)), bif_true (tt2 (by omega) (by omega)), beqT_dec (.arr 32 (.int .u8)) rfl, beqT_dec (.pair (.arr 32 (.int .u8)) (.pair (.int .i64) (.pair (.int .i64) (.pair (.int .i64) .unit)))) rfl, addI_eq (by omega) (by omega), nat1]
    refine (bif_false (not_f (tt h1)) _ _).trans ((bif_false (bne_f h2) _ _).trans ?_)
    by_cases c : (b.getD k itm0).2.2.1 ≥ 0
    · exact (bif_true (tt c) _ _).trans ((bif_false (not_f (tt (h3 c))) _ _).trans ih)
    · exact (bif_false (ff c) _ _).trans ih
/-- The second half of a step: a fragment gets a place. -/
def remStep {X : Type} (pl : List UInt8) (i : Int) (g : Frg) (s : Int) (e0 cmp : Int → Frg → X) (fail : X) : X :=
  bif (decide (i < ((pl.length : Nat) : Int))) then
    bif (decide (((g.1.length : Nat) : Int) > (0 : Int))) then
      bif ((decide ((0 : Int) ≤ i)) && (decide (i < ((pl.length : Nat) : Int)))) then
      bif (((g.1.length : Nat) : Int) != (0 : Int)) then
      bif (fPlace_P g (remI (cvBI (List.getD pl (i).toNat (0 : UInt8))) ((g.1.length : Nat) : Int)) i (mulI (3 : Int) i)) then
      bif ((decide ((0 : Int) ≤ (remI (cvBI (List.getD pl (i).toNat (0 : UInt8))) ((g.1.length : Nat) : Int)))) && (decide ((remI (cvBI (List.getD pl (i).toNat (0 : UInt8))) ((g.1.length : Nat) : Int)) < ((g.1.length : Nat) : Int)))) then
      bif (((fPlace_r1 g (remI (cvBI (List.getD pl (i).toNat (0 : UInt8))) ((g.1.length : Nat) : Int)) i (mulI (3 : Int) i)) == (0 : Int)) == (decide ((List.getD g.1 ((remI (cvBI (List.getD pl (i).toNat (0 : UInt8))) ((g.1.length : Nat) : Int))).toNat itm0).2.2.1 ≥ (0 : Int)))) then
        e0 s g
      else
      bif ((fPlace_r1 g (remI (cvBI (List.getD pl (i).toNat (0 : UInt8))) ((g.1.length : Nat) : Int)) i (mulI (3 : Int) i)) != (0 : Int)) then
        bif ((fPlace_r1 g (remI (cvBI (List.getD pl (i).toNat (0 : UInt8))) ((g.1.length : Nat) : Int)) i (mulI (3 : Int) i)) != (12 : Int)) then
          e0 s g
        else
        bif ((fPlace_r1 g (remI (cvBI (List.getD pl (i).toNat (0 : UInt8))) ((g.1.length : Nat) : Int)) i (mulI (3 : Int) i)) == (0 : Int)) then
          bif ((decide ((0 : Int) ≤ (remI (cvBI (List.getD pl (i).toNat (0 : UInt8))) ((g.1.length : Nat) : Int)))) && (decide ((remI (cvBI (List.getD pl (i).toNat (0 : UInt8))) ((g.1.length : Nat) : Int)) < ((g.1.length : Nat) : Int)))) then
          cmp (addI s (List.getD g.1 ((remI (cvBI (List.getD pl (i).toNat (0 : UInt8))) ((g.1.length : Nat) : Int))).toNat itm0).2.1) (fPlace_r0 g (remI (cvBI (List.getD pl (i).toNat (0 : UInt8))) ((g.1.length : Nat) : Int)) i (mulI (3 : Int) i))
          else fail
        else
        cmp s g
      else
      bif ((fPlace_r1 g (remI (cvBI (List.getD pl (i).toNat (0 : UInt8))) ((g.1.length : Nat) : Int)) i (mulI (3 : Int) i)) == (0 : Int)) then
        bif ((decide ((0 : Int) ≤ (remI (cvBI (List.getD pl (i).toNat (0 : UInt8))) ((g.1.length : Nat) : Int)))) && (decide ((remI (cvBI (List.getD pl (i).toNat (0 : UInt8))) ((g.1.length : Nat) : Int)) < ((g.1.length : Nat) : Int)))) then
        cmp (addI s (List.getD g.1 ((remI (cvBI (List.getD pl (i).toNat (0 : UInt8))) ((g.1.length : Nat) : Int))).toNat itm0).2.1) (fPlace_r0 g (remI (cvBI (List.getD pl (i).toNat (0 : UInt8))) ((g.1.length : Nat) : Int)) i (mulI (3 : Int) i))
        else fail
      else
      cmp s g
      else fail
      else fail
      else fail
      else fail
    else
    cmp s g
  else
  cmp s g
/-- What holds of an index, and the sum of what has a place. -/
structure RemOk (n : Nat) (f : Frg) (s : Int) : Prop where
  chk : chkI f = 0
  len : f.1.length ≤ n
  sum : s = sumI f.1
  low : ∀ x, x ∈ f.1 → x.2.1 ≤ 300
theorem remStep_eq {X : Type} {pl : List UInt8} {i n : Nat} {g : Frg} {s : Int} (h : RemOk n g s) (hi : i < 30) (hn : n ≤ 30) (e0 cmp : Int → Frg → X) (fail : X) :
    ∃ g' s', RemOk n g' s' ∧ Ext g.1 g'.1 ∧ remStep pl i g s e0 cmp fail = cmp s' g' := by
  have hc := chk_ok h.chk
  by_cases c1 : i < pl.length
  case neg => exact ⟨g, s, h, ext_rfl _, bif_false (ff (by omega)) _ _⟩
  by_cases c2 : g.1.length = 0
  · exact ⟨g, s, h, ext_rfl _, (bif_true (tt (by omega)) _ _).trans (bif_false (ff (by omega)) _ _)⟩
  have hk : ∃ k : Nat, k < g.1.length ∧ remI (cvBI (List.getD pl ((i : Nat) : Int).toNat (0 : UInt8))) ((g.1.length : Nat) : Int) = (k : Int) :=
    ⟨(List.getD pl ((i : Nat) : Int).toNat (0 : UInt8)).toNat % g.1.length, Nat.mod_lt _ (by omega), by rw [cvBI_eq, remI_eq (by omega), Int.natCast_emod]⟩
  obtain ⟨k, hk, ek⟩ := hk
  have em : mulI 3 ((i : Nat) : Int) = 3 * (i : Int) := mulI_eq (by omega) (by omega)
  have hx := hc.2 (g.1.getD k itm0) (by rw [getD_lt hk]; exact List.getElem_mem _)
  have hlow := h.low (g.1.getD k itm0) (by rw [getD_lt hk]; exact List.getElem_mem _)
  have hbt := btw_iff.1 (okI_iff.1 hx).1
  have hsb := sum_bound g.1 hc.2
  have hs := h.sum
  have hgl := h.len
  unfold remStep
  rw [ek, em, bif_true (tt (by omega)), bif_true (tt (by omega)), bif_true (tt2 (by omega) (by omega)), bif_true (bne_t (by omega)), bif_true (c := fPlace_P _ _ _ _) rfl, bif_true (tt2 (by omega) (by omega)), bif_true (tt2 (by omega) (by omega)), Int.toNat_natCast]
  have hq : plcI (g.1.getD k itm0).2.1 (i : Int) (3 * (i : Int)) = true := tt (by omega)
  unfold fPlace_r0 fPlace_r1 plaI
  rw [if_pos h.chk]
  rcases plaK_cases g (k : Int) (i : Int) (3 * (i : Int)) with ⟨k0, _⟩ | ⟨_, k2, q⟩ | ⟨_, k2, k3, _⟩ | ⟨_, k2, k3, q⟩
  · exact absurd ⟨by omega, by omega⟩ k0
  · rw [Int.toNat_natCast] at k2
    rw [q]
    refine ⟨g, s, h, ext_rfl _, ?_⟩
    have hb : (g.1.getD k itm0).2.2.1 ≥ 0 := by
      rcases (okI_iff.1 hx).2 with hp | hp
      · exact absurd hp.1 k2
      · exact (of_decide_eq_true hp).1
    rw [tt hb]; rfl
  · rw [Int.toNat_natCast] at k3; rw [hq] at k3; cases k3
  · rw [Int.toNat_natCast] at k2 q
    rw [q, ff (show ¬ (g.1.getD k itm0).2.2.1 ≥ 0 by omega)]
    have hy : okI ((g.1.getD k itm0).1, ((g.1.getD k itm0).2.1, ((i : Int), (3 * (i : Int), ())))) = true := okI_iff.2 ⟨(okI_iff.1 hx).1, .inr hq⟩
    refine ⟨(g.1.set k ((g.1.getD k itm0).1, ((g.1.getD k itm0).2.1, ((i : Int), (3 * (i : Int), ())))), ()), s + (g.1.getD k itm0).2.1, ⟨chk_set h.chk hk rfl rfl hy, by rw [List.length_set]; exact h.len, ?_, fun x hxm => ?_⟩, ext_set hk rfl rfl k2, ?_⟩
    · rw [sumI_set _ g.1 k hk k2 (by show (i : Int) ≠ -1; omega), h.sum]
    · rcases List.mem_or_eq_of_mem_set hxm with hm | rfl
      · exact h.low x hm
      · exact hlow
    · rw [addI_eq (a := s) (by omega) (by omega)]; rfl
theorem remain_loop1 {X : Type} (F : Nat) (fail : X) (ex0 ex1 : List (List UInt8) → List UInt8 → Bool → Int → Int → Frg → X) (K : Int → Frg → X) (l : List (List UInt8)) (pl : List UInt8) (s4 : Bool) (hl : l.length ≤ 30) (hs : ∀ x, x ∈ l → x.length ≤ 300) (hF : 31 < F) (h1 : ∀ s f, ex1 l pl s4 s (l.length : Nat) f = K s f) : ∀ (j m i : Nat) (s : Int) (f : Frg), i + j = l.length → j ≤ m → RemOk i f s →
    ∃ f' s', RemOk l.length f' s' ∧ FragmentsRemain_l1F F fail ex0 ex1 (m + 1) l pl s4 s i f = K s' f'
  | 0, m, i, s, f, hi, _, hr => by
    have e : i = l.length := by omega
    subst e
    refine ⟨f, s, hr, ?_⟩
    rw [FragmentsRemain_l1F, FragmentsRemain_l1]
    rw [bif_false (ff (by omega)), h1]
  | j + 1, 0, i, _, _, _, hm, _ => absurd hm (by omega)
  | j + 1, m + 1, i, s, f, hi, hm, hr => by
    have ih := fun s' f' => remain_loop1 F fail ex0 ex1 K l pl s4 hl hs hF h1 j m (i + 1) s' f' (by omega) (by omega)
    have hb := hs (l.getD i []) (by rw [getD_lt (show i < l.length by omega)]; exact List.getElem_mem _)
    have hrl := hr.len
    -- what follows a step
    have fin : ∀ g : Frg, RemOk (i + 1) g s → Ext f.1 g.1 → ∃ f' s', RemOk l.length f' s' ∧ remStep pl (i : Int) g s (fun s g => ex0 l pl false s i g) (fun s g =>
        bif (decide (((g.1.length : Nat) : Int) < ((f.1.length : Nat) : Int))) then ex0 l pl false s i g
        else FragmentsRemain_l2F F fail (fun l pl s4 s i _ _ f => ex0 l pl s4 s i f) (fun l pl s4 s i _ _ f => FragmentsRemain_l1F F fail ex0 ex1 (m + 1) l pl s4 s (addI i 1) f) F l pl s4 s i f.1 0 g) fail = K s' f' := by
      intro g hg he
      obtain ⟨g', s', h2, h3, h4⟩ := remStep_eq (pl := pl) hg (show i < 30 by omega) (by omega) (fun s g => ex0 l pl false s i g) (fun s g =>
        bif (decide (((g.1.length : Nat) : Int) < ((f.1.length : Nat) : Int))) then ex0 l pl false s i g
        else FragmentsRemain_l2F F fail (fun l pl s4 s i _ _ f => ex0 l pl s4 s i f) (fun l pl s4 s i _ _ f => FragmentsRemain_l1F F fail ex0 ex1 (m + 1) l pl s4 s (addI i 1) f) F l pl s4 s i f.1 0 g) fail
      have he' := ext_trans he h3
      have hlen := he'.1
      obtain ⟨f', s'', h5, h6⟩ := ih s' g' h2
      refine ⟨f', s'', h5, h4.trans ?_⟩
      obtain ⟨F', rfl⟩ : ∃ F', F = F' + 1 := ⟨F - 1, by omega⟩
      refine (bif_false (ff (by omega)) _ _).trans ((remain_loop2 (F' + 1) fail _ _ l pl s4 s' i f.1 g' he' (by omega) f.1.length F' 0 (by omega) (by omega)).trans ?_)
      rw [addI_eq (by omega) (by omega), nat1]
      exact h6
    rw [FragmentsRemain_l1F, FragmentsRemain_l1]
    rw [Int.toNat_natCast, bif_true (tt (by omega)), bif_true (tt2 (by omega) (by omega)), bif_true (c := fAdd_P _ _) rfl]
    generalize l.getD i [] = b at hb ⊢
    have hf : RemOk (i + 1) f s := ⟨hr.chk, by omega, hr.sum, hr.low⟩
    have hadd : addI_ f b = addK f b := if_pos hr.chk
    rcases addK_cases f b with ⟨k1, k⟩ | ⟨k1, k⟩ | ⟨k1, k2, k3, k⟩ | ⟨k1, k2, k3, k4, k⟩ | ⟨k1, k2, k3, k4, k⟩
    · omega
    · obtain ⟨f', s', h5, h6⟩ := fin f hf (ext_rfl _)
      refine ⟨f', s', h5, ?_⟩
      rw [show (fAdd_r3 f b == 0) = false by unfold fAdd_r3; rw [hadd, k]; rfl, cond_false]
      exact h6
    · obtain ⟨f', s', h5, h6⟩ := fin f hf (ext_rfl _)
      refine ⟨f', s', h5, ?_⟩
      rw [show (fAdd_r3 f b == 0) = true by unfold fAdd_r3; rw [hadd, k]; rfl, cond_true, show fAdd_r0 f b = f by unfold fAdd_r0; rw [hadd, k]]
      exact h6
    · omega
    · have hok : okI (dSum_r b, ((b.length : Int), (-1, (0, ())))) = true := okI_iff.2 ⟨btw_iff.2 (by show (1 : Int) ≤ (b.length : Int) ∧ (b.length : Int) ≤ 65536; omega), .inl ⟨rfl, rfl⟩⟩
      obtain ⟨f', s', h5, h6⟩ := fin (f.1 ++ [(dSum_r b, ((b.length : Int), (-1, (0, ()))))], ()) ⟨chk_snoc hr.chk k4 hok k3, by rw [List.length_append, List.length_singleton]; omega, by rw [sumI_snoc _ _ rfl]; exact hr.sum, fun x hx => by
          rcases List.mem_append.1 hx with hx | hx
          · exact hr.low x hx
          · rw [List.mem_singleton.1 hx]; show (b.length : Int) ≤ 300; omega⟩ (ext_snoc _ _)
      refine ⟨f', s', h5, ?_⟩
      rw [show (fAdd_r3 f b == 0) = true by unfold fAdd_r3; rw [hadd, k]; rfl, cond_true, show fAdd_r0 f b = (f.1 ++ [(dSum_r b, ((b.length : Int), (-1, (0, ()))))], ()) by unfold fAdd_r0; rw [hadd, k]]
      exact h6
theorem few_mem {l : List (List UInt8)} (h : law46_few_r l = true) : l.length ≤ 30 ∧ ∀ x, x ∈ l → x.length ≤ 300 := by
  simp only [law46_few_r, Bool.and_eq_true, decide_eq_true_eq] at h
  refine ⟨h.2, fun x hx => ?_⟩
  have h1 := h.1
  rw [List.take_of_length_le h.2] at h1
  exact of_decide_eq_true (List.all_eq_true.1 h1 x hx)
theorem FragmentsRemain_plain (l : List (List UInt8)) (pl : List UInt8) (_ : FragmentsRemain_P l pl = true) : ∃ F, ∀ {X : Type} (fail : X) (ret : Bool → X), FragmentsRemain F l pl fail ret = ret (FragmentsRemain_r l pl) := ⟨40, fun fail ret => by
  unfold FragmentsRemain
  rw [bif_true (c := law46_few_P l) rfl]
  cases hw : law46_few_r l with
  | false => rfl
  | true =>
    have h := few_mem hw
    rw [bif_false (c := !true) rfl]
    by_cases c : (pl.length : Int) > 30
    · rw [bif_true (tt c)]; rfl
    rw [bif_false (ff c)]
    obtain ⟨f', s', h1, h2⟩ := remain_loop1 40 fail (fun _ _ s4 _ _ _ => ret s4) (fun _ _ _ sum1 _ f1 =>
      bif (fStored_P f1) then
      bif (law46_awake_r) then
        bif ((fStored_r1 f1) == (0 : Int)) then
          ret ((fStored_r0 f1) == sum1)
        else
        ret false
      else
      ret false
      else fail) _ l pl false h.1 h.2 (by omega) (fun _ _ => rfl) l.length 39 0 0 fr0 (by omega) (by omega) ⟨rfl, Nat.le_refl _, rfl, fun x hx => by cases hx⟩
    refine h2.trans ?_
    have e1 : (fStored_r1 f' == 0) = true := beq_t h1.chk
    have e2 : fStored_r0 f' = sumI f'.1 := if_pos h1.chk
    rw [e1, e2, h1.sum, beq_t rfl]; rfl⟩
end Go.AI
