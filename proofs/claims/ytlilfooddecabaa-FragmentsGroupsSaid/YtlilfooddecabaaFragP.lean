/- What the printed functions of fragments answer: lists of items, maps, and the loop that opens an index. -/
import Derived.Test.YtlilfooddecabaaFragG
import Derived.Test.YtlilfooddecabaaDigestB
import Derived.Test.YtlilfooddecabaaLists
namespace Go.AI
open Go

theorem drop_cons {α : Type} {l : List α} {i : Nat} (d : α) (h : i < l.length) : l.drop i = l.getD i d :: l.drop (i + 1) := by rw [List.drop_eq_getElem_cons h, getD_lt h]
theorem nat1 (i : Nat) : (i : Int) + 1 = ((i + 1 : Nat) : Int) := by omega
theorem beqT_iff : ∀ (s : Sch), s.comparable = true → ∀ a b : s.T, beqT s a b = true ↔ a = b
  | .int k, _, a, b => by
    show (toI k a == toI k b) = true ↔ _
    rw [beq_iff_eq]; exact ⟨toI_inj k, fun h => by rw [h]⟩
  | .bool, _, a, b => by show ((a : Bool) == b) = true ↔ _; exact beq_iff_eq
  | .str, _, a, b => by show ((a : List UInt8) == b) = true ↔ _; exact beq_iff_eq
  | .slc _, h, _, _ => by cases h
  | .arr _ s, h, a, b => beqL_iff (beqT_iff s h) a b
  | .pair s t, h, a, b => by
    have h : s.comparable = true ∧ t.comparable = true := by simpa [Sch.comparable] using h
    show (beqT s a.1 b.1 && beqT t a.2 b.2) = true ↔ _
    rw [Bool.and_eq_true, beqT_iff s h.1, beqT_iff t h.2]
    exact ⟨fun e => Prod.ext e.1 e.2, fun e => by rw [e]; exact ⟨rfl, rfl⟩⟩
  | .unit, _, a, b => by show true = true ↔ _; simp
theorem beqT_dec (s : Sch) (h : s.comparable = true) (a b : s.T) [Decidable (a = b)] : beqT s a b = decide (a = b) := by
  cases e : beqT s a b with
  | true => rw [tt ((beqT_iff s h a b).1 e)]
  | false => rw [ff (fun c => by rw [(beqT_iff s h a b).2 c] at e; cases e)]

/- Maps. -/
theorem dec_of {b : Bool} {p : Prop} [Decidable p] (h : b = true ↔ p) : b = decide p := by
  cases b with
  | true => rw [tt (h.1 rfl)]
  | false => rw [ff (fun c => by have := h.2 c; cases this)]
theorem mfind_put {α β : Type} [DecidableEq α] {eq : α → α → Bool} (hq : ∀ a b, eq a b = true ↔ a = b) (k k' : α) (v : β) : ∀ m : List (α × β), mfind eq k (mput eq k' v m) = if k = k' then some v else mfind eq k m
  | [] => by
    have he : ∀ a b, eq a b = decide (a = b) := fun a b => dec_of (hq a b)
    show (bif eq k k' then some v else none) = _
    rw [he]
    by_cases h : k = k'
    · rw [tt h, if_pos h]; rfl
    · rw [ff h, if_neg h]; rfl
  | e :: m => by
    have he : ∀ a b, eq a b = decide (a = b) := fun a b => dec_of (hq a b)
    rw [mput, he]
    by_cases h : k' = e.1
    · rw [tt h, cond_true, mfind, mfind, he, he]
      by_cases h2 : k = k'
      · rw [tt h2, if_pos h2]; rfl
      · rw [ff h2, if_neg h2, ff (fun c => h2 (c.trans h.symm))]; rfl
    · rw [ff h, cond_false, mfind, mfind, he, mfind_put hq k k' v m]
      by_cases h2 : k = e.1
      · rw [tt h2, cond_true, cond_true, if_neg (fun c => h (c.symm.trans h2))]
      · rw [ff h2]; rfl
theorem mput_len {α β : Type} {eq : α → α → Bool} (k : α) (v : β) : ∀ m : List (α × β), (mput eq k v m).length ≤ m.length + 1
  | [] => by simp [mput]
  | e :: m => by
    rw [mput]
    cases h : eq k e.1 with
    | true => rw [cond_true]; simp
    | false => rw [cond_false]; have := mput_len (eq := eq) k v m; simp only [List.length_cons]; omega

abbrev IMap := List ((List UInt8 × (Int × Unit)) × Int)
theorem isI_iff {d : List UInt8} {n : Int} {x : Itm} : isI d n x = true ↔ x.1 = d ∧ x.2.1 = n := by unfold isI; exact decide_eq_true_iff
theorem hasI_snoc (l : List Itm) (x : Itm) (d : List UInt8) (n : Int) : hasI (l ++ [x]) d n = (hasI l d n || isI d n x) := by simp [hasI, List.any_append]
theorem idxI_snoc (x : Itm) (d : List UInt8) (n : Int) : ∀ l : List Itm, idxI d n (l ++ [x]) = if hasI l d n then idxI d n l else if isI d n x then l.length else l.length + 1
  | [] => by
    show (if isI d n x then 0 else 0 + 1) = _
    simp [hasI]
  | y :: l => by
    rw [List.cons_append, idxI, idxI, idxI_snoc x d n l]
    cases h : isI d n y with
    | true => simp [hasI, h]
    | false =>
      have e : hasI (y :: l) d n = hasI l d n := by simp [hasI, h]
      rw [e, List.length_cons]
      cases hasI l d n <;> cases isI d n x <;> simp
/-- What the map holds. -/
def MapI (l : List Itm) (m : IMap) : Prop := (m.length ≤ l.length ∧ ∀ x, x ∈ l → okI x = true) ∧ ∀ (d : List UInt8) (n : Int), mfind (beqT (.pair (.arr 32 (.int .u8)) (.pair (.int .i64) .unit))) (d, (n, ())) m = if hasI l d n then some ((idxI d n l : Nat) : Int) else none
theorem mapI_nil : MapI [] [] := ⟨⟨Nat.le_refl _, fun _ h => by cases h⟩, fun _ _ => rfl⟩
theorem mapI_snoc {l : List Itm} {m : IMap} {x : Itm} (h : MapI l m) (ho : okI x = true) (hx : hasI l x.1 x.2.1 = false) : MapI (l ++ [x]) (mput (beqT (.pair (.arr 32 (.int .u8)) (.pair (.int .i64) .unit))) (x.1, (x.2.1, ())) ((l.length : Nat) : Int) m) := by
  refine ⟨⟨?_, fun y hy => ?_⟩, fun d n => ?_⟩
  · have := mput_len (eq := (beqT (.pair (.arr 32 (.int .u8)) (.pair (.int .i64) .unit)))) (x.1, (x.2.1, ())) ((l.length : Nat) : Int) m
    have := h.1.1
    rw [List.length_append, List.length_singleton]; omega
  · rcases List.mem_append.1 hy with hy | hy
    · exact h.1.2 y hy
    · rw [List.mem_singleton.1 hy]; exact ho
  · refine (mfind_put (beqT_iff (.pair (.arr 32 (.int .u8)) (.pair (.int .i64) .unit)) rfl) (d, (n, ())) (x.1, (x.2.1, ())) _ m).trans ?_
    rw [h.2 d n, hasI_snoc, idxI_snoc]
    by_cases c : x.1 = d ∧ x.2.1 = n
    · rw [if_pos (by rw [c.1, c.2]), isI_iff.2 c]
      rw [c.1, c.2] at hx
      rw [hx]; rfl
    · have c' : isI d n x = false := by
        cases e : isI d n x with
        | true => exact absurd (isI_iff.1 e) c
        | false => rfl
      rw [if_neg (fun e => c ⟨(congrArg Prod.fst e).symm, (congrArg (fun p => p.2.1) e).symm⟩), c', Bool.or_false]
      cases hasI l d n <;> rfl

theorem between_plain (n lo hi : Int) : ∃ F, ∀ {X : Type} (fail : X) (ret : Bool → X), between F n lo hi fail ret = ret (between_r n lo hi) := ⟨0, fun fail ret => by
  unfold between between_r btw
  by_cases c1 : n ≥ lo
  · rw [bif_true (tt c1)]
    congr 1
    by_cases c2 : n ≤ hi
    · rw [tt c2, tt (by omega)]
    · rw [ff c2, ff (by omega)]
  · rw [bif_false (ff c1), ff (by omega)]⟩
theorem btw_iff {n lo hi : Int} : btw n lo hi = true ↔ lo ≤ n ∧ n ≤ hi := by unfold btw; exact decide_eq_true_iff
theorem btw_f {n lo hi : Int} (h : ¬ (lo ≤ n ∧ n ≤ hi)) : btw n lo hi = false := ff h
theorem placed_plain (len block at_ : Int) (h : placed_P len block at_ = true) : ∃ F, ∀ {X : Type} (fail : X) (ret : Bool → X), placed F len block at_ fail ret = ret (placed_r len block at_) := ⟨0, fun fail ret => by
  have h := btw_iff.1 h
  unfold placed placed_r plcI between_r
  rw [subI_eq (by omega) (by omega)]
  by_cases c1 : 0 ≤ block ∧ block ≤ 4095
  · rw [bif_true (btw_iff.2 c1)]
    congr 1
    by_cases c2 : 0 ≤ at_ ∧ at_ ≤ 65536 - len
    · rw [btw_iff.2 c2, tt (by omega)]
    · rw [btw_f c2, ff (by omega)]
  · rw [bif_false (btw_f c1), ff (by omega)]⟩

/-- One item more. -/
def stepI {X : Type} (x : Itm) (h1 : List Itm) (h2 : IMap) (e : Int → X) (go : List Itm → IMap → X) (fail : X) : X :=
  bif (!(between_r x.2.1 (1 : Int) (65536 : Int))) then e 2
  else
  bif (x.2.2.1 != (-1 : Int)) then
    bif (placed_P x.2.1 x.2.2.1 x.2.2.2.1) then
    bif (!(placed_r x.2.1 x.2.2.1 x.2.2.2.1)) then e 2
    else
    bif (Option.isSome (mfind (beqT (.pair (.arr 32 (.int .u8)) (.pair (.int .i64) .unit))) (x.1, (x.2.1, ())) h2)) then e 8
    else
    bif (decide (h2.length < big)) then
    bif (decide ((h1 ++ [x]).length ≤ big)) then
    go (h1 ++ [x]) (mput (beqT (.pair (.arr 32 (.int .u8)) (.pair (.int .i64) .unit))) (x.1, (x.2.1, ())) ((h1.length : Nat) : Int) h2)
    else fail
    else fail
    else fail
  else
  bif (x.2.2.2.1 != (0 : Int)) then
    bif (placed_P x.2.1 x.2.2.1 x.2.2.2.1) then
    bif (!(placed_r x.2.1 x.2.2.1 x.2.2.2.1)) then e 2
    else
    bif (Option.isSome (mfind (beqT (.pair (.arr 32 (.int .u8)) (.pair (.int .i64) .unit))) (x.1, (x.2.1, ())) h2)) then e 8
    else
    bif (decide (h2.length < big)) then
    bif (decide ((h1 ++ [x]).length ≤ big)) then
    go (h1 ++ [x]) (mput (beqT (.pair (.arr 32 (.int .u8)) (.pair (.int .i64) .unit))) (x.1, (x.2.1, ())) ((h1.length : Nat) : Int) h2)
    else fail
    else fail
    else fail
  else
  bif (Option.isSome (mfind (beqT (.pair (.arr 32 (.int .u8)) (.pair (.int .i64) .unit))) (x.1, (x.2.1, ())) h2)) then e 8
  else
  bif (decide (h2.length < big)) then
  bif (decide ((h1 ++ [x]).length ≤ big)) then
  go (h1 ++ [x]) (mput (beqT (.pair (.arr 32 (.int .u8)) (.pair (.int .i64) .unit))) (x.1, (x.2.1, ())) ((h1.length : Nat) : Int) h2)
  else fail
  else fail
theorem okI_iff {x : Itm} : okI x = true ↔ btw x.2.1 1 65536 = true ∧ ((x.2.2.1 = -1 ∧ x.2.2.2.1 = 0) ∨ plcI x.2.1 x.2.2.1 x.2.2.2.1 = true) := by
  unfold okI; rw [Bool.and_eq_true, Bool.or_eq_true, decide_eq_true_iff]
theorem okI_f {x : Itm} (h : ¬ (btw x.2.1 1 65536 = true ∧ ((x.2.2.1 = -1 ∧ x.2.2.2.1 = 0) ∨ plcI x.2.1 x.2.2.1 x.2.2.2.1 = true))) : okI x = false := by
  cases e : okI x with
  | true => exact absurd (okI_iff.1 e) h
  | false => rfl
theorem not_t {b : Bool} (h : b = false) : (!b) = true := by rw [h]; rfl
theorem not_f {b : Bool} (h : b = true) : (!b) = false := by rw [h]; rfl
theorem stepI_eq {X : Type} {x : Itm} {a : List Itm} {m : IMap} (hm : MapI a m) (hl : a.length ≤ 4096) (e : Int → X) (go : List Itm → IMap → X) (fail : X) :
    stepI x a m e go fail = if okI x then (if hasI a x.1 x.2.1 then e 8 else go (a ++ [x]) (mput (beqT (.pair (.arr 32 (.int .u8)) (.pair (.int .i64) .unit))) (x.1, (x.2.1, ())) ((a.length : Nat) : Int) m)) else e 2 := by
  have h1 := hm.1.1
  have tail : (bif (Option.isSome (mfind (beqT (.pair (.arr 32 (.int .u8)) (.pair (.int .i64) .unit))) (x.1, (x.2.1, ())) m)) then e 8 else
      bif (decide (m.length < big)) then
      bif (decide ((a ++ [x]).length ≤ big)) then
      go (a ++ [x]) (mput (beqT (.pair (.arr 32 (.int .u8)) (.pair (.int .i64) .unit))) (x.1, (x.2.1, ())) ((a.length : Nat) : Int) m)
      else fail
      else fail) = if hasI a x.1 x.2.1 then e 8 else go (a ++ [x]) (mput (beqT (.pair (.arr 32 (.int .u8)) (.pair (.int .i64) .unit))) (x.1, (x.2.1, ())) ((a.length : Nat) : Int) m) := by
    rw [hm.2 x.1 x.2.1]
    cases hasI a x.1 x.2.1 with
    | true => rfl
    | false =>
      rw [if_neg (by simp), if_neg (by simp), bif_false (c := Option.isSome none) rfl, bif_true (tt (by unfold big; omega)), bif_true (le_big (by rw [List.length_append, List.length_singleton]; omega))]
  unfold stepI between_r placed_r
  rw [tail]
  cases h : btw x.2.1 1 65536 with
  | false => rw [bif_true (c := !false) rfl, okI_f (fun c => by rw [h] at c; cases c.1), if_neg (by simp)]
  | true =>
    rw [bif_false (c := !true) rfl]
    have hp : placed_P x.2.1 x.2.2.1 x.2.2.2.1 = true := h
    rw [hp, cond_true]
    by_cases c1 : x.2.2.1 = -1
    · rw [bif_false (bne_f c1)]
      by_cases c2 : x.2.2.2.1 = 0
      · rw [bif_false (bne_f c2), okI_iff.2 ⟨h, .inl ⟨c1, c2⟩⟩, if_pos rfl]
      · rw [bif_true (bne_t c2)]
        cases k : plcI x.2.1 x.2.2.1 x.2.2.2.1 with
        | true => rw [bif_false (c := !true) rfl, okI_iff.2 ⟨h, .inr k⟩, if_pos rfl]
        | false => rw [bif_true (c := !false) rfl, okI_f (fun c => by rw [k] at c; rcases c.2 with c | c; exact c2 c.2; cases c), if_neg (by simp)]
    · rw [bif_true (bne_t c1)]
      cases k : plcI x.2.1 x.2.2.1 x.2.2.2.1 with
      | true => rw [bif_false (c := !true) rfl, okI_iff.2 ⟨h, .inr k⟩, if_pos rfl]
      | false => rw [bif_true (c := !false) rfl, okI_f (fun c => by rw [k] at c; rcases c.2 with c | c; exact c1 c.1; cases c), if_neg (by simp)]
theorem goI_err : ∀ (r p : List Itm), goI p r = 0 ∨ goI p r = 2 ∨ goI p r = 8
  | [], _ => .inl rfl
  | x :: r, p => by
    unfold goI
    split
    · split
      · exact .inr (.inr rfl)
      · exact goI_err r _
    · exact .inr (.inl rfl)
theorem fCheck_loop {X : Type} (F : Nat) (fail : X) (ex0 ex1 : Int → List Itm → Int → Int → List Itm → IMap → X) (K : X) (E : Int → X) (l : List Itm) (hl : l.length ≤ 4096)
    (h0 : ∀ (e i : Int) (a : List Itm) (m : IMap), e ≠ 0 → ex0 e l (l.length : Nat) i a m = E e) (h1 : ∀ (s3 i : Int) (m : IMap), MapI l m → ex1 s3 l (l.length : Nat) i l m = K) : ∀ (j n i : Nat) (s3 : Int) (m : IMap), i + j = l.length → j ≤ n → MapI (l.take i) m →
    fCheck_l1F F fail ex0 ex1 (n + 1) s3 l (l.length : Nat) i (l.take i) m = if goI (l.take i) (l.drop i) = 0 then K else E (goI (l.take i) (l.drop i))
  | 0, n, i, s3, m, hi, _, hm => by
    have e : i = l.length := by omega
    subst e
    rw [List.take_length] at hm
    rw [fCheck_l1F, fCheck_l1]
    rw [bif_false (ff (by omega)), List.take_length, List.drop_length, h1 _ _ _ hm]; rfl
  | j + 1, 0, i, _, _, _, hn, _ => absurd hn (by omega)
  | j + 1, n + 1, i, s3, m, hi, hn, hm => by
    have ih := fCheck_loop F fail ex0 ex1 K E l hl h0 h1 j n (i + 1)
    rw [fCheck_l1F, fCheck_l1]
    rw [Int.toNat_natCast, bif_true (tt (by omega)), bif_true (tt2 (by omega) (by omega)), drop_cons itm0 (show i < l.length by omega)]
    rw [take_snoc l i itm0 (by omega)] at ih
    have hk : (l.take i).length ≤ 4096 := by rw [List.length_take]; omega
    refine (stepI_eq (x := l.getD i itm0) hm hk (fun e => ex0 e l (l.length : Nat) i (l.take i) m) (fun a m' => fCheck_l1F F fail ex0 ex1 (n + 1) s3 l (l.length : Nat) (addI i 1) a m') fail).trans ?_
    rw [goI]
    cases hx : okI (l.getD i itm0) with
    | false => rw [if_neg (by simp), if_neg (by simp), if_neg (by decide)]; exact h0 2 _ _ _ (by decide)
    | true =>
      rw [if_pos rfl, if_pos rfl]
      cases hh : hasI (l.take i) (l.getD i itm0).1 (l.getD i itm0).2.1 with
      | true => rw [if_pos rfl, if_pos rfl, if_neg (by decide)]; exact h0 8 _ _ _ (by decide)
      | false =>
        simp only [Bool.false_eq_true, if_false]
        rw [addI_eq (by omega) (by omega), nat1]
        exact ih s3 _ (by omega) (by omega) (mapI_snoc hm hx hh)
theorem fFind_loop {X : Type} (F : Nat) (fail : X) (ex0 ex1 : Int → List Itm → Int → Int → Int → List Itm → IMap → List UInt8 → X) (K : X) (E : Int → X) (l : List Itm) (length : Int) (d : List UInt8) (hl : l.length ≤ 4096)
    (h0 : ∀ (e i : Int) (a : List Itm) (m : IMap), e ≠ 0 → ex0 e l (l.length : Nat) i length a m d = E e) (h1 : ∀ (s3 i : Int) (m : IMap), MapI l m → ex1 s3 l (l.length : Nat) i length l m d = K) : ∀ (j n i : Nat) (s3 : Int) (m : IMap), i + j = l.length → j ≤ n → MapI (l.take i) m →
    fFind_l1F F fail ex0 ex1 (n + 1) s3 l (l.length : Nat) i length (l.take i) m d = if goI (l.take i) (l.drop i) = 0 then K else E (goI (l.take i) (l.drop i))
  | 0, n, i, s3, m, hi, _, hm => by
    have e : i = l.length := by omega
    subst e
    rw [List.take_length] at hm
    rw [fFind_l1F, fFind_l1]
    rw [bif_false (ff (by omega)), List.take_length, List.drop_length, h1 _ _ _ hm]; rfl
  | j + 1, 0, i, _, _, _, hn, _ => absurd hn (by omega)
  | j + 1, n + 1, i, s3, m, hi, hn, hm => by
    have ih := fFind_loop F fail ex0 ex1 K E l length d hl h0 h1 j n (i + 1)
    rw [fFind_l1F, fFind_l1]
    rw [Int.toNat_natCast, bif_true (tt (by omega)), bif_true (tt2 (by omega) (by omega)), drop_cons itm0 (show i < l.length by omega)]
    rw [take_snoc l i itm0 (by omega)] at ih
    have hk : (l.take i).length ≤ 4096 := by rw [List.length_take]; omega
    refine (stepI_eq (x := l.getD i itm0) hm hk (fun e => ex0 e l (l.length : Nat) i length (l.take i) m d) (fun a m' => fFind_l1F F fail ex0 ex1 (n + 1) s3 l (l.length : Nat) (addI i 1) length a m' d) fail).trans ?_
    rw [goI]
    cases hx : okI (l.getD i itm0) with
    | false => rw [if_neg (by simp), if_neg (by simp), if_neg (by decide)]; exact h0 2 _ _ _ (by decide)
    | true =>
      rw [if_pos rfl, if_pos rfl]
      cases hh : hasI (l.take i) (l.getD i itm0).1 (l.getD i itm0).2.1 with
      | true => rw [if_pos rfl, if_pos rfl, if_neg (by decide)]; exact h0 8 _ _ _ (by decide)
      | false =>
        simp only [Bool.false_eq_true, if_false]
        rw [addI_eq (by omega) (by omega), nat1]
        exact ih s3 _ (by omega) (by omega) (mapI_snoc hm hx hh)
theorem fAdd_loop {X : Type} (F : Nat) (fail : X) (ex0 ex1 : Int → List Itm → Int → Int → List UInt8 → List Itm → IMap → Frg → X) (K : X) (E : Int → X) (l : List Itm) (data : List UInt8) (s4 : Frg) (hl : l.length ≤ 4096)
    (h0 : ∀ (e i : Int) (a : List Itm) (m : IMap), e ≠ 0 → ex0 e l (l.length : Nat) i data a m s4 = E e) (h1 : ∀ (s3 i : Int) (m : IMap), MapI l m → ex1 s3 l (l.length : Nat) i data l m s4 = K) : ∀ (j n i : Nat) (s3 : Int) (m : IMap), i + j = l.length → j ≤ n → MapI (l.take i) m →
    fAdd_l1F F fail ex0 ex1 (n + 1) s3 l (l.length : Nat) i data (l.take i) m s4 = if goI (l.take i) (l.drop i) = 0 then K else E (goI (l.take i) (l.drop i))
  | 0, n, i, s3, m, hi, _, hm => by
    have e : i = l.length := by omega
    subst e
    rw [List.take_length] at hm
    rw [fAdd_l1F, fAdd_l1]
    rw [bif_false (ff (by omega)), List.take_length, List.drop_length, h1 _ _ _ hm]; rfl
  | j + 1, 0, i, _, _, _, hn, _ => absurd hn (by omega)
  | j + 1, n + 1, i, s3, m, hi, hn, hm => by
    have ih := fAdd_loop F fail ex0 ex1 K E l data s4 hl h0 h1 j n (i + 1)
    rw [fAdd_l1F, fAdd_l1]
    rw [Int.toNat_natCast, bif_true (tt (by omega)), bif_true (tt2 (by omega) (by omega)), drop_cons itm0 (show i < l.length by omega)]
    rw [take_snoc l i itm0 (by omega)] at ih
    have hk : (l.take i).length ≤ 4096 := by rw [List.length_take]; omega
    refine (stepI_eq (x := l.getD i itm0) hm hk (fun e => ex0 e l (l.length : Nat) i data (l.take i) m s4) (fun a m' => fAdd_l1F F fail ex0 ex1 (n + 1) s3 l (l.length : Nat) (addI i 1) data a m' s4) fail).trans ?_
    rw [goI]
    cases hx : okI (l.getD i itm0) with
    | false => rw [if_neg (by simp), if_neg (by simp), if_neg (by decide)]; exact h0 2 _ _ _ (by decide)
    | true =>
      rw [if_pos rfl, if_pos rfl]
      cases hh : hasI (l.take i) (l.getD i itm0).1 (l.getD i itm0).2.1 with
      | true => rw [if_pos rfl, if_pos rfl, if_neg (by decide)]; exact h0 8 _ _ _ (by decide)
      | false =>
        simp only [Bool.false_eq_true, if_false]
        rw [addI_eq (by omega) (by omega), nat1]
        exact ih s3 _ (by omega) (by omega) (mapI_snoc hm hx hh)
theorem fPlace_loop {X : Type} (F : Nat) (fail : X) (ex0 ex1 : Int → List Itm → Int → Int → Int → Int → Int → List Itm → IMap → Frg → X) (K : X) (E : Int → X) (l : List Itm) (fragment : Int) (block : Int) (at_ : Int) (s8 : Frg) (hl : l.length ≤ 4096)
    (h0 : ∀ (e i : Int) (a : List Itm) (m : IMap), e ≠ 0 → ex0 e l (l.length : Nat) i fragment block at_ a m s8 = E e) (h1 : ∀ (s3 i : Int) (m : IMap), MapI l m → ex1 s3 l (l.length : Nat) i fragment block at_ l m s8 = K) : ∀ (j n i : Nat) (s3 : Int) (m : IMap), i + j = l.length → j ≤ n → MapI (l.take i) m →
    fPlace_l1F F fail ex0 ex1 (n + 1) s3 l (l.length : Nat) i fragment block at_ (l.take i) m s8 = if goI (l.take i) (l.drop i) = 0 then K else E (goI (l.take i) (l.drop i))
  | 0, n, i, s3, m, hi, _, hm => by
    have e : i = l.length := by omega
    subst e
    rw [List.take_length] at hm
    rw [fPlace_l1F, fPlace_l1]
    rw [bif_false (ff (by omega)), List.take_length, List.drop_length, h1 _ _ _ hm]; rfl
  | j + 1, 0, i, _, _, _, hn, _ => absurd hn (by omega)
  | j + 1, n + 1, i, s3, m, hi, hn, hm => by
    have ih := fPlace_loop F fail ex0 ex1 K E l fragment block at_ s8 hl h0 h1 j n (i + 1)
    rw [fPlace_l1F, fPlace_l1]
    rw [Int.toNat_natCast, bif_true (tt (by omega)), bif_true (tt2 (by omega) (by omega)), drop_cons itm0 (show i < l.length by omega)]
    rw [take_snoc l i itm0 (by omega)] at ih
    have hk : (l.take i).length ≤ 4096 := by rw [List.length_take]; omega
    refine (stepI_eq (x := l.getD i itm0) hm hk (fun e => ex0 e l (l.length : Nat) i fragment block at_ (l.take i) m s8) (fun a m' => fPlace_l1F F fail ex0 ex1 (n + 1) s3 l (l.length : Nat) (addI i 1) fragment block at_ a m' s8) fail).trans ?_
    rw [goI]
    cases hx : okI (l.getD i itm0) with
    | false => rw [if_neg (by simp), if_neg (by simp), if_neg (by decide)]; exact h0 2 _ _ _ (by decide)
    | true =>
      rw [if_pos rfl, if_pos rfl]
      cases hh : hasI (l.take i) (l.getD i itm0).1 (l.getD i itm0).2.1 with
      | true => rw [if_pos rfl, if_pos rfl, if_neg (by decide)]; exact h0 8 _ _ _ (by decide)
      | false =>
        simp only [Bool.false_eq_true, if_false]
        rw [addI_eq (by omega) (by omega), nat1]
        exact ih s3 _ (by omega) (by omega) (mapI_snoc hm hx hh)
theorem fStored_loop {X : Type} (F : Nat) (fail : X) (ex0 ex1 : Int → List Itm → Int → Int → List Itm → IMap → X) (K : X) (E : Int → X) (l : List Itm) (hl : l.length ≤ 4096)
    (h0 : ∀ (e i : Int) (a : List Itm) (m : IMap), e ≠ 0 → ex0 e l (l.length : Nat) i a m = E e) (h1 : ∀ (s3 i : Int) (m : IMap), MapI l m → ex1 s3 l (l.length : Nat) i l m = K) : ∀ (j n i : Nat) (s3 : Int) (m : IMap), i + j = l.length → j ≤ n → MapI (l.take i) m →
    fStored_l1F F fail ex0 ex1 (n + 1) s3 l (l.length : Nat) i (l.take i) m = if goI (l.take i) (l.drop i) = 0 then K else E (goI (l.take i) (l.drop i))
  | 0, n, i, s3, m, hi, _, hm => by
    have e : i = l.length := by omega
    subst e
    rw [List.take_length] at hm
    rw [fStored_l1F, fStored_l1]
    rw [bif_false (ff (by omega)), List.take_length, List.drop_length, h1 _ _ _ hm]; rfl
  | j + 1, 0, i, _, _, _, hn, _ => absurd hn (by omega)
  | j + 1, n + 1, i, s3, m, hi, hn, hm => by
    have ih := fStored_loop F fail ex0 ex1 K E l hl h0 h1 j n (i + 1)
    rw [fStored_l1F, fStored_l1]
    rw [Int.toNat_natCast, bif_true (tt (by omega)), bif_true (tt2 (by omega) (by omega)), drop_cons itm0 (show i < l.length by omega)]
    rw [take_snoc l i itm0 (by omega)] at ih
    have hk : (l.take i).length ≤ 4096 := by rw [List.length_take]; omega
    refine (stepI_eq (x := l.getD i itm0) hm hk (fun e => ex0 e l (l.length : Nat) i (l.take i) m) (fun a m' => fStored_l1F F fail ex0 ex1 (n + 1) s3 l (l.length : Nat) (addI i 1) a m') fail).trans ?_
    rw [goI]
    cases hx : okI (l.getD i itm0) with
    | false => rw [if_neg (by simp), if_neg (by simp), if_neg (by decide)]; exact h0 2 _ _ _ (by decide)
    | true =>
      rw [if_pos rfl, if_pos rfl]
      cases hh : hasI (l.take i) (l.getD i itm0).1 (l.getD i itm0).2.1 with
      | true => rw [if_pos rfl, if_pos rfl, if_neg (by decide)]; exact h0 8 _ _ _ (by decide)
      | false =>
        simp only [Bool.false_eq_true, if_false]
        rw [addI_eq (by omega) (by omega), nat1]
        exact ih s3 _ (by omega) (by omega) (mapI_snoc hm hx hh)
end Go.AI
