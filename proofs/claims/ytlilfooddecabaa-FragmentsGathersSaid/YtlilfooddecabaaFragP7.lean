/- Groups: what they gather, and that there are no fewer. -/
import Derived.Test.YtlilfooddecabaaFragG3
import Derived.Test.YtlilfooddecabaaFragP5
namespace Go.AI
open Go

def FragmentsGathers_P (_ : List UInt8) (_ : UInt8) : Bool := true
def FragmentsGathers_r (_ : List UInt8) (_ : UInt8) : Bool := true
def FragmentsFewest_P (_ : List UInt8) (_ : UInt8) (_ : List Bool) : Bool := true
def FragmentsFewest_r (_ : List UInt8) (_ : UInt8) (_ : List Bool) : Bool := true
theorem sizes_len (l : List UInt8) : (law46_sizes_r l).length = l.length := List.length_map ..
theorem sizes_mem {l : List UInt8} {x : Int} (h : x ∈ law46_sizes_r l) : 1 ≤ x ∧ x ≤ 64 := by
  obtain ⟨y, _, rfl⟩ := List.mem_map.1 h
  omega
theorem sizes_grpE {l : List UInt8} {most : Int} (hl : l.length ≤ 200) (h1 : 1 ≤ most) (h2 : most ≤ 256) : grpE (law46_sizes_r l) most = 0 := by
  unfold grpE
  rw [sizes_len, if_neg (by omega), if_pos ⟨btw_iff.2 (by omega), List.all_eq_true.2 fun x hx => btw_iff.2 (by have := sizes_mem hx; omega)⟩]
/-- Numbers from one on. -/
def gN (n c : Nat) : List Int := (List.range' n c).map fun (k : Nat) => (k : Int)
theorem gN_len (n c : Nat) : (gN n c).length = c := by simp [gN]
theorem gN_snoc (n c : Nat) : gN n (c + 1) = gN n c ++ [((n + c : Nat) : Int)] := by simp [gN, List.range'_concat]
theorem gN_get (n c k : Nat) (h : k < c) : (gN n c).getD k 0 = ((n + k : Nat) : Int) := by
  rw [getD_lt (by rw [gN_len]; exact h)]; simp [gN]
def sumC (l : List Int) (n c : Nat) : Int := ((l.drop n).take c).sum
theorem sumC_snoc (l : List Int) (n c : Nat) (h : n + c < l.length) : sumC l n (c + 1) = sumC l n c + l.getD (n + c) 0 := by
  unfold sumC
  rw [take_snoc _ c 0 (by rw [List.length_drop]; omega), List.sum_append, List.sum_singleton, show (l.drop n).getD c 0 = l.getD (n + c) 0 by simp [List.getD]]
theorem sumC_one (l : List Int) (n : Nat) (h : n < l.length) : sumC l n 1 = l.getD n 0 := by
  rw [sumC_snoc l n 0 (by omega)]; show (0 : Int) + _ = _; rw [Int.zero_add]; rfl
theorem sumC_bound (l : List Int) (hl : ∀ x, x ∈ l → 1 ≤ x ∧ x ≤ 64) (n : Nat) : ∀ c, n + c ≤ l.length → 0 ≤ sumC l n c ∧ sumC l n c ≤ 64 * c
  | 0, _ => ⟨Int.le_refl _, Int.le_refl _⟩
  | c + 1, h => by
    have ih := sumC_bound l hl n c (by omega)
    have hx := hl (l.getD (n + c) 0) (by rw [getD_lt (show n + c < l.length by omega)]; exact List.getElem_mem _)
    rw [sumC_snoc l n c (by omega)]; omega
/-- Groups are as they should be, from a number on. -/
def GrpOk (l : List Int) (limit : Int) : List (List Int) → Nat → Prop
  | [], n => n = l.length
  | g :: gs, n => ∃ c, g = gN n c ∧ 1 ≤ c ∧ n + c ≤ l.length ∧ (c > 1 → sumC l n c ≤ limit) ∧ (n + c < l.length → sumC l n c + l.getD (n + c) 0 > limit) ∧ GrpOk l limit gs (n + c)
theorem grp_ok (l : List Int) (limit : Int) : ∀ (j n c : Nat), n + c + j = l.length → 1 ≤ c → (c > 1 → sumC l n c ≤ limit) → GrpOk l limit (grpI limit (l.drop (n + c)) (n + c) (sumC l n c) (gN n c)) n
  | 0, n, c, hj, hc, hs => by
    rw [List.drop_eq_nil_of_le (by omega)]
    have hg : gN n c ≠ [] := fun e => by have := gN_len n c; rw [e] at this; simp at this; omega
    rw [grpI, if_neg hg]
    exact ⟨c, rfl, hc, by omega, hs, fun h => absurd h (by omega), by show n + c = _; omega⟩
  | j + 1, n, c, hj, hc, hs => by
    have hg : gN n c ≠ [] := fun e => by have := gN_len n c; rw [e] at this; simp at this; omega
    rw [drop_cons (0 : Int) (show n + c < l.length by omega), grpI]
    by_cases h : sumC l n c + l.getD (n + c) 0 > limit
    · rw [if_pos ⟨hg, h⟩]
      refine ⟨c, rfl, hc, by omega, hs, fun _ => h, ?_⟩
      have := grp_ok l limit j (n + c) 1 (by omega) (by omega) (fun h => absurd h (by omega))
      rw [sumC_one l (n + c) (by omega)] at this
      exact this
    · rw [if_neg (fun c => h c.2)]
      have := grp_ok l limit j n (c + 1) (by omega) (by omega) (fun _ => by rw [sumC_snoc l n c (by omega)]; omega)
      rw [sumC_snoc l n c (by omega), gN_snoc] at this
      exact this
theorem grp_all (l : List Int) (limit : Int) : GrpOk l limit (grpI limit l 0 0 []) 0 := by
  cases l with
  | nil => rfl
  | cons x r =>
    rw [grpI, if_neg (fun c => c.1 rfl)]
    have := grp_ok (x :: r) limit r.length 0 1 (by simp; omega) (by omega) (fun h => absurd h (by omega))
    rw [sumC_one _ 0 (by simp)] at this
    rw [Int.zero_add]
    exact this
theorem grp_len {l : List Int} {limit : Int} : ∀ (gs : List (List Int)) (n : Nat), GrpOk l limit gs n → n + gs.length ≤ l.length
  | [], n, h => by have h : n = l.length := h; simp; omega
  | g :: gs, n, ⟨c, _, h1, _, _, _, h⟩ => by have := grp_len gs _ h; rw [List.length_cons]; omega
theorem gath_loop2 {X : Type} (F : Nat) (fail : X) (ex0 ex1 : Bool → List Int → Int → List (List Int) → Int → Int → Int → Int → Int → X) (s4 : Bool) (l : List Int) (limit : Int) (gs : List (List Int)) (e : Int) (i n c : Nat) (hi : i < gs.length) (hg : gs.getD i [] = gN n c) (hn : n + c ≤ l.length) (hl : l.length ≤ 200) (hb : ∀ x, x ∈ l → 1 ≤ x ∧ x ≤ 64) (hgl : gs.length ≤ 200) : ∀ (j m k : Nat), k + j = c → j ≤ m →
    FragmentsGathers_l2F F fail ex0 ex1 (m + 1) s4 l limit gs e ((n + k : Nat) : Int) i (sumC l n k) k = ex1 s4 l limit gs e ((n + c : Nat) : Int) i (sumC l n c) c
  | 0, m, k, hk, _ => by
    have e : k = c := by omega
    subst e
    rw [FragmentsGathers_l2F, FragmentsGathers_l2]
    rw [Int.toNat_natCast, hg, gN_len, bif_true (tt2 (by omega) (by omega)), bif_false (ff (by omega))]
  | j + 1, 0, k, _, hm => absurd hm (by omega)
  | j + 1, m + 1, k, hk, hm => by
    have ih := gath_loop2 F fail ex0 ex1 s4 l limit gs e i n c hi hg hn hl hb hgl j m (k + 1) (by omega) (by omega)
    have hs := sumC_bound l hb n k (by omega)
    have hx := hb (l.getD (n + k) 0) (by rw [getD_lt (show n + k < l.length by omega)]; exact List.getElem_mem _)
    rw [FragmentsGathers_l2F, FragmentsGathers_l2]
    have ei : (decide ((0 : Int) ≤ (i : Int)) && decide ((i : Int) < ((gs.length : Nat) : Int))) = true := tt2 (by omega) (by omega)
    rw [Int.toNat_natCast, Int.toNat_natCast, Int.toNat_natCast, hg, gN_len, ei, cond_true, bif_true (tt (by omega)), cond_true, bif_true (tt2 (by omega) (by omega)), gN_get n c k (by omega), bif_false (bne_f rfl), bif_false (ff (by omega)), bif_true (tt2 (by omega) (by omega))]
    rw [addI_eq (a := ((n + k : Nat) : Int)) (by omega) (by omega), addI_eq (a := sumC l n k) (by omega) (by omega), addI_eq (a := (k : Int)) (by omega) (by omega), ← sumC_snoc l n k (by omega), nat1, nat1]
    exact ih
theorem gath_loop1 {X : Type} (F : Nat) (fail : X) (ex0 ex1 : Bool → List Int → Int → List (List Int) → Int → Int → Int → X) (s4 : Bool) (l : List Int) (limit : Int) (gs : List (List Int)) (e : Int) (hl : l.length ≤ 200) (hF : l.length < F) (hb : ∀ x, x ∈ l → 1 ≤ x ∧ x ≤ 64) (hgl : gs.length ≤ 200) : ∀ (j m i n : Nat), i + j = gs.length → j ≤ m → GrpOk l limit (gs.drop i) n →
    FragmentsGathers_l1F F fail ex0 ex1 (m + 1) s4 l limit gs e n i = ex1 s4 l limit gs e (l.length : Nat) (gs.length : Nat)
  | 0, m, i, n, hi, _, hg => by
    have e : i = gs.length := by omega
    subst e
    rw [List.drop_length] at hg
    have hg : n = l.length := hg
    rw [FragmentsGathers_l1F, FragmentsGathers_l1]
    rw [bif_false (ff (by omega)), hg]
  | j + 1, 0, i, _, _, hm, _ => absurd hm (by omega)
  | j + 1, m + 1, i, n, hi, hm, hg => by
    rw [drop_cons ([] : List Int) (show i < gs.length by omega)] at hg
    obtain ⟨c, h1, h2, h3, h4, h5, h6⟩ := hg
    have ih := gath_loop1 F fail ex0 ex1 s4 l limit gs e hl hF hb hgl j m (i + 1) (n + c) (by omega) (by omega) h6
    rw [FragmentsGathers_l1F, FragmentsGathers_l1]
    rw [bif_true (tt (by omega))]
    obtain ⟨F', rfl⟩ : ∃ F', F = F' + 1 := ⟨F - 1, by omega⟩
    refine (gath_loop2 (F' + 1) fail _ _ s4 l limit gs e i n c (by omega) h1 h3 hl hb hgl c F' 0 (by omega) (by omega)).trans ?_
    have hs := sumC_bound l hb n c h3
    have ei : (decide ((0 : Int) ≤ (i : Int)) && decide ((i : Int) < ((gs.length : Nat) : Int))) = true := tt2 (by omega) (by omega)
    rw [Int.toNat_natCast, Int.toNat_natCast, h1, gN_len, ei, cond_true, bif_false (beq_f (by omega)), cond_true, addI_eq (a := (i : Int)) (by omega) (by omega), nat1, ih]
    have last : (bif decide (((n + c : Nat) : Int) < ((l.length : Nat) : Int)) then
        bif decide ((0 : Int) ≤ ((n + c : Nat) : Int)) && decide (((n + c : Nat) : Int) < ((l.length : Nat) : Int)) then
        bif decide (addI (sumC l n c) (l.getD (n + c) 0) ≤ limit) then ex0 false l limit gs e ((n + c : Nat) : Int) i
        else ex1 s4 l limit gs e (l.length : Nat) (gs.length : Nat)
        else fail
      else ex1 s4 l limit gs e (l.length : Nat) (gs.length : Nat)) = ex1 s4 l limit gs e (l.length : Nat) (gs.length : Nat) := by
      by_cases c1 : n + c < l.length
      · have hx := hb (l.getD (n + c) 0) (by rw [getD_lt c1]; exact List.getElem_mem _)
        have := h5 c1
        rw [bif_true (tt (by omega)), bif_true (tt2 (by omega) (by omega)), addI_eq (by omega) (by omega), bif_false (ff (by omega))]
      · rw [bif_false (ff (by omega))]
    rw [last]
    by_cases c2 : c > 1
    · rw [bif_true (tt (by omega)), bif_false (ff (by have := h4 c2; omega))]
    · rw [bif_false (ff (by omega))]
theorem FragmentsGathers_plain (l : List UInt8) (most : UInt8) (_ : FragmentsGathers_P l most = true) : ∃ F, ∀ {X : Type} (fail : X) (ret : Bool → X), FragmentsGathers F l most fail ret = ret (FragmentsGathers_r l most) := ⟨l.length + 1, fun fail ret => by
  unfold FragmentsGathers
  by_cases c : (l.length : Int) > 200
  · rw [bif_true (tt c)]; rfl
  have hm := most.toNat_lt
  have hlim : addI (cvBI most) 1 = ((most.toNat + 1 : Nat) : Int) := by rw [cvBI_eq, addI_eq (by omega) (by omega)]; omega
  have hsz : law46_sizes_P l = true := tt (by omega)
  have he : grpE (law46_sizes_r l) ((most.toNat + 1 : Nat) : Int) = 0 := sizes_grpE (by omega) (by omega) (by omega)
  rw [bif_false (ff c), hsz, cond_true, hlim, bif_true (c := fGroups_P _ _) rfl]
  unfold fGroups_r0 fGroups_r1
  rw [he, if_pos rfl]
  have hg := grp_all (law46_sizes_r l) ((most.toNat + 1 : Nat) : Int)
  have hgl := grp_len _ _ hg
  have hsl := sizes_len l
  refine (gath_loop1 (l.length + 1) fail _ _ false (law46_sizes_r l) _ _ 0 (by omega) (by omega) (fun x hx => sizes_mem hx) (by omega) (grpI ((most.toNat + 1 : Nat) : Int) (law46_sizes_r l) 0 0 []).length _ 0 0 (by omega) (by omega) (by rw [List.drop_zero]; exact hg)).trans ?_
  show ret (((law46_sizes_r l).length : Int) == ((law46_sizes_r l).length : Int)) = _
  rw [beq_t rfl]; rfl⟩

/-- How many groups another division has. -/
def cutF (limit : Int) (cuts : List Bool) : List Int → Nat → Int → Int → Int
  | [], _, n, _ => n
  | x :: r, i, n, s => if i = 0 ∨ s + x > limit ∨ cuts.getD i false = true then cutF limit cuts r (i + 1) (n + 1) x else cutF limit cuts r (i + 1) n (s + x)
theorem cut_least (limit : Int) (cuts : List Bool) : ∀ (l : List Int) (i : Nat) (m : Int) (s n t : Int) (g : List Int), 1 ≤ i → g ≠ [] → 0 ≤ t → (m + 1 < n ∨ (m + 1 = n ∧ s ≤ t)) → (∀ x, x ∈ l → 1 ≤ x) → m + (grpI limit l i s g).length ≤ cutF limit cuts l i n t
  | [], i, m, s, n, t, g, _, hg, _, hk, _ => by
    rw [grpI, if_neg hg, cutF, List.length_singleton]; omega
  | x :: r, i, m, s, n, t, g, hi, hg, ht, hk, hx => by
    have x1 := hx x List.mem_cons_self
    have hr : ∀ y, y ∈ r → 1 ≤ y := fun y hy => hx y (List.mem_cons_of_mem _ hy)
    rw [grpI, cutF]
    by_cases c1 : s + x > limit
    · rw [if_pos ⟨hg, c1⟩, List.length_cons]
      by_cases c2 : i = 0 ∨ t + x > limit ∨ cuts.getD i false = true
      · rw [if_pos c2]
        have := cut_least limit cuts r (i + 1) (m + 1) x (n + 1) x [(i : Int)] (by omega) (by simp) (by omega) (by omega) hr
        omega
      · rw [if_neg c2]
        have h3 : ¬ t + x > limit := fun h => c2 (.inr (.inl h))
        have := cut_least limit cuts r (i + 1) (m + 1) x n (t + x) [(i : Int)] (by omega) (by simp) (by omega) (by omega) hr
        omega
    · rw [if_neg (fun c => c1 c.2)]
      by_cases c2 : i = 0 ∨ t + x > limit ∨ cuts.getD i false = true
      · rw [if_pos c2]
        exact cut_least limit cuts r (i + 1) m (s + x) (n + 1) x (g ++ [(i : Int)]) (by omega) (by simp) (by omega) (by omega) hr
      · rw [if_neg c2]
        exact cut_least limit cuts r (i + 1) m (s + x) n (t + x) (g ++ [(i : Int)]) (by omega) (by simp) (by omega) (by omega) hr
theorem few_loop1 {X : Type} (F : Nat) (fail : X) (ex0 : List Bool → List Int → Int → List (List Int) → Int → Int → Int → X) (K : Int → X) (cuts : List Bool) (l : List Int) (limit : Int) (gs : List (List Int)) (hl : l.length ≤ 200) (hb : ∀ x, x ∈ l → 1 ≤ x ∧ x ≤ 64) (h0 : ∀ n s i : Int, ex0 cuts l limit gs n s i = K n) : ∀ (j m i : Nat) (n s : Int), i + j = l.length → j ≤ m → 0 ≤ n → n ≤ i → 0 ≤ s → s ≤ 64 * i →
    FragmentsFewest_l1F F fail ex0 (m + 1) cuts l limit gs n s i = K (cutF limit cuts (l.drop i) i n s)
  | 0, m, i, n, s, hi, _, _, _, _, _ => by
    have e : i = l.length := by omega
    subst e
    rw [FragmentsFewest_l1F, FragmentsFewest_l1]
    rw [bif_false (ff (by omega)), h0, List.drop_length]; rfl
  | j + 1, 0, i, _, _, _, hm, _, _, _, _ => absurd hm (by omega)
  | j + 1, m + 1, i, n, s, hi, hm, n0, n1, s0, s1 => by
    have ih := fun n' s' => few_loop1 F fail ex0 K cuts l limit gs hl hb h0 j m (i + 1) n' s' (by omega) (by omega)
    have hx := hb (l.getD i 0) (by rw [getD_lt (show i < l.length by omega)]; exact List.getElem_mem _)
    rw [FragmentsFewest_l1F, FragmentsFewest_l1]
    have ei : (decide ((0 : Int) ≤ (i : Int)) && decide ((i : Int) < ((l.length : Nat) : Int))) = true := tt2 (by omega) (by omega)
    rw [Int.toNat_natCast, ei, bif_true (tt (by omega)), drop_cons (0 : Int) (show i < l.length by omega), cutF]
    rw [addI_eq (a := n) (by omega) (by omega), addI_eq (a := 0) (by omega) (by omega), addI_eq (a := s) (by omega) (by omega), addI_eq (a := (i : Int)) (by omega) (by omega), nat1, Int.zero_add]
    have cut := ih (n + 1) (l.getD i 0) (by omega) (by omega) (by omega) (by omega)
    have go := ih n (s + l.getD i 0) (by omega) (by omega) (by omega) (by omega)
    by_cases c1 : i = 0
    · rw [bif_true (beq_t (by omega)), if_pos (.inl c1)]; exact cut
    rw [bif_false (beq_f (by omega)), cond_true]
    by_cases c2 : s + l.getD i 0 > limit
    · rw [bif_true (tt c2), if_pos (.inr (.inl c2))]; exact cut
    rw [bif_false (ff c2)]
    by_cases c3 : i < cuts.length
    · rw [bif_true (tt (by omega)), bif_true (tt2 (by omega) (by omega))]
      cases c4 : cuts.getD i false with
      | true => rw [cond_true, if_pos (.inr (.inr rfl))]; exact cut
      | false => rw [cond_false, if_neg (fun h => by rcases h with h | h | h; exact c1 h; exact c2 h; cases h)]; exact go
    · rw [bif_false (ff (by omega)), if_neg (fun h => by
        rcases h with h | h | h
        · exact c1 h
        · exact c2 h
        · rw [show cuts.getD i false = false by simp [List.getD, List.getElem?_eq_none (show cuts.length ≤ i by omega)]] at h; cases h)]
      exact go
theorem FragmentsFewest_plain (l : List UInt8) (most : UInt8) (cuts : List Bool) (_ : FragmentsFewest_P l most cuts = true) : ∃ F, ∀ {X : Type} (fail : X) (ret : Bool → X), FragmentsFewest F l most cuts fail ret = ret (FragmentsFewest_r l most cuts) := ⟨l.length + 1, fun fail ret => by
  unfold FragmentsFewest
  by_cases c : (l.length : Int) > 200
  · rw [bif_true (tt c)]; rfl
  have hm := most.toNat_lt
  have hlim : addI (cvBI most) 1 = ((most.toNat + 1 : Nat) : Int) := by rw [cvBI_eq, addI_eq (by omega) (by omega)]; omega
  have hsz : law46_sizes_P l = true := tt (by omega)
  have he : grpE (law46_sizes_r l) ((most.toNat + 1 : Nat) : Int) = 0 := sizes_grpE (by omega) (by omega) (by omega)
  rw [bif_false (ff c), hsz, cond_true, hlim, bif_true (c := fGroups_P _ _) rfl]
  unfold fGroups_r0 fGroups_r1
  rw [he, if_pos rfl, bif_false (c := (0 : Int) != 0) rfl]
  have hsl := sizes_len l
  refine (few_loop1 (l.length + 1) fail _ (fun n => ret (decide (((grpI ((most.toNat + 1 : Nat) : Int) (law46_sizes_r l) 0 0 []).length : Int) ≤ n))) cuts (law46_sizes_r l) _ _ (by omega) (fun x hx => sizes_mem hx) (fun _ _ _ => rfl) l.length _ 0 0 0 (by omega) (by omega) (by omega) (by omega) (by omega) (by omega)).trans ?_
  rw [List.drop_zero]
  refine congrArg ret (tt ?_)
  have hpos : ∀ x, x ∈ law46_sizes_r l → 1 ≤ x := fun x hx => (sizes_mem hx).1
  generalize law46_sizes_r l = z at hpos ⊢
  cases z with
  | nil => exact Int.le_refl _
  | cons x r =>
    rw [grpI, if_neg (fun c => c.1 rfl), cutF, if_pos (.inl rfl)]
    have := hpos x List.mem_cons_self
    have := cut_least ((most.toNat + 1 : Nat) : Int) cuts r (0 + 1) 0 (0 + x) (0 + 1) x ([] ++ [((0 : Nat) : Int)]) (by omega) (by simp) (by omega) (.inr ⟨rfl, by omega⟩) (fun y hy => hpos y (List.mem_cons_of_mem _ hy))
    rwa [Int.zero_add] at this⟩
end Go.AI
