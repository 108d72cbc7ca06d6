/- The numbers that can be encoded are kept; the laws about reading back. -/
import Derived.Test.YtadpmbipdafjiaaWireG4
import Derived.Test.YtadpmbipdafjiaaWireP4
namespace Go.AI
open Go

def keepN (n : Int) : Bool := decide (0 ≤ n ∧ n ≤ 9007199254740991)
theorem keepN_t {n : Int} (h : keepN n = true) : 0 ≤ n ∧ n ≤ 9007199254740991 := of_decide_eq_true h
theorem numbers_r_eq (l : List Int) : law02_numbers_r l = l.filter keepN := rfl
theorem filter_snoc (l : List Int) (k : Nat) (h : k < l.length) : (l.take (k + 1)).filter keepN = (l.take k).filter keepN ++ (if keepN (l.getD k 0) then [l.getD k 0] else []) := by
  rw [take_snoc l k 0 h, List.filter_append]
  congr 1
  generalize l.getD k 0 = x
  by_cases hk : keepN x <;> simp [hk]
theorem numbers_loop1 {X : Type} (F : Nat) (fail : X) (ex0 ex1 : Int → Int → Int → List Int → X) (s4 : Int) (l : List Int) (hl : l.length ≤ 2000000000) : ∀ (d m i : Nat), i + d = l.length → d < m → (l.take i).filter keepN = l.take i →
    (∃ k, k < l.length ∧ (l.take k).filter keepN = l.take k ∧ keepN (l.getD k 0) = false ∧ law02_numbers_l1F F fail ex0 ex1 m s4 (l.length : Int) (i : Int) l = ex0 (k : Int) (l.length : Int) (k : Int) l) ∨
    (l.filter keepN = l ∧ law02_numbers_l1F F fail ex0 ex1 m s4 (l.length : Int) (i : Int) l = ex1 s4 (l.length : Int) (l.length : Int) l)
  | d, 0, i, _, hm, _ => by omega
  | 0, m + 1, i, h, _, hf => by
    right
    have hi : i = l.length := by omega
    subst hi
    rw [List.take_length] at hf
    refine ⟨hf, ?_⟩
    simp only [law02_numbers_l1F, law02_numbers_l1]
    rw [bif_false (ff (by omega))]
  | d + 1, m + 1, i, h, hm, hf => by
    have hi : i < l.length := by omega
    have e0 : ((i : Int)).toNat = i := by simp
    have step : law02_numbers_l1F F fail ex0 ex1 (m + 1) s4 (l.length : Int) (i : Int) l = if keepN (l.getD i 0) then law02_numbers_l1F F fail ex0 ex1 m s4 (l.length : Int) ((i + 1 : Nat) : Int) l else ex0 (i : Int) (l.length : Int) (i : Int) l := by
      show law02_numbers_l1 F fail _ ex0 ex1 s4 (l.length : Int) (i : Int) l = _
      unfold law02_numbers_l1
      rw [bif_true (tt (by omega)), bif_true (tt2 (by omega) (by omega)), e0]
      generalize hx : l.getD i 0 = x
      by_cases h0 : x < 0
      · rw [bif_true (tt h0), if_neg (by simp [keepN]; omega)]
      · by_cases h1 : x > 9007199254740991
        · rw [bif_false (ff h0), bif_true (tt h1), if_neg (by simp [keepN]; omega)]
        · rw [bif_false (ff h0), bif_false (ff h1), if_pos (by simp [keepN]; omega), addI_eq (by omega) (by omega)]
          rfl
    rw [step]
    by_cases hk : keepN (l.getD i 0) = true
    · rw [if_pos hk]
      exact numbers_loop1 F fail ex0 ex1 s4 l hl d m (i + 1) (by omega) (by omega) (by rw [filter_snoc l i hi, if_pos hk, hf, ← take_snoc l i 0 hi])
    · rw [if_neg hk]
      exact .inl ⟨i, hi, hf, by simpa using hk, rfl⟩
theorem set_take_snoc (s : List Int) (i : Nat) (a : Int) (h : i < s.length) : (s.set i a).take (i + 1) = s.take i ++ [a] := by
  rw [take_snoc (s.set i a) i 0 (by simpa using h), List.take_set_of_le (Nat.le_refl i)]
  simp [List.getD, h]
theorem numbers_loop2 {X : Type} (F : Nat) (fail : X) (ex0 : Int → Int → List Int → X) (l : List Int) (hl : l.length ≤ 2000000000) : ∀ (d m i j : Nat) (s : List Int), j + d = l.length → d < m → i < j → s.length = l.length →
    s.take i = (l.take j).filter keepN → s.drop j = l.drop j →
    ∃ (i' : Nat) (s' : List Int), i' ≤ l.length ∧ s'.length = l.length ∧ s'.take i' = l.filter keepN ∧ law02_numbers_l2F F fail ex0 m (i : Int) (j : Int) s = ex0 (i' : Int) (l.length : Int) s'
  | d, 0, i, j, s, _, hm, _, _, _, _ => by omega
  | 0, m + 1, i, j, s, h, _, hij, hs, ht, _ => by
    have hj : j = l.length := by omega
    subst hj
    rw [List.take_length] at ht
    refine ⟨i, s, by omega, hs, ht, ?_⟩
    simp only [law02_numbers_l2F, law02_numbers_l2]
    rw [bif_false (ff (by omega))]
  | d + 1, m + 1, i, j, s, h, hm, hij, hs, ht, hd => by
    have hj : j < l.length := by omega
    have e0 : ((j : Int)).toNat = j := by simp
    have e1 : ((i : Int)).toNat = i := by simp
    have hx : s.getD j 0 = l.getD j 0 := by
      have := congrArg (fun q => q.getD 0 0) hd
      simpa [List.getD] using this
    have hdd : s.drop (j + 1) = l.drop (j + 1) := by
      have := congrArg (fun q => q.drop 1) hd
      simpa [List.drop_drop] using this
    have step : law02_numbers_l2F F fail ex0 (m + 1) (i : Int) (j : Int) s = if keepN (l.getD j 0) then law02_numbers_l2F F fail ex0 m ((i + 1 : Nat) : Int) ((j + 1 : Nat) : Int) (s.set i (l.getD j 0)) else law02_numbers_l2F F fail ex0 m (i : Int) ((j + 1 : Nat) : Int) s := by
      show law02_numbers_l2 F fail _ ex0 (i : Int) (j : Int) s = _
      unfold law02_numbers_l2
      rw [bif_true (tt (by omega)), bif_true (tt2 (by omega) (by omega)), e0, hx, e1, addI_eq (a := (j : Int)) (by omega) (by omega), addI_eq (a := (i : Int)) (by omega) (by omega)]
      generalize l.getD j 0 = x
      by_cases h0 : x < 0
      · rw [bif_true (tt h0), if_neg (by simp [keepN]; omega)]
        rfl
      · by_cases h1 : x > 9007199254740991
        · rw [bif_false (ff h0), bif_false (by simp; omega), if_neg (by simp [keepN]; omega)]
          rfl
        · rw [bif_false (ff h0), bif_true (by simp; omega), bif_true (tt2 (by omega) (by omega)), if_pos (by simp [keepN]; omega)]
          rfl
    rw [step]
    by_cases hk : keepN (l.getD j 0) = true
    · rw [if_pos hk]
      refine numbers_loop2 F fail ex0 l hl d m (i + 1) (j + 1) _ (by omega) (by omega) (by omega) (by simpa using hs) ?_ ?_
      · rw [set_take_snoc s i _ (by omega), filter_snoc l j hj, if_pos hk, ht]
      · rw [List.drop_set_of_lt (by omega)]; exact hdd
    · rw [if_neg hk]
      refine numbers_loop2 F fail ex0 l hl d m i (j + 1) s (by omega) (by omega) (by omega) hs ?_ hdd
      rw [filter_snoc l j hj, if_neg hk, List.append_nil]; exact ht
theorem law02_numbers_plain (l : List Int) (h : law02_numbers_P l = true) : ∃ F, ∀ {X : Type} (fail : X) (ret : List Int → X), law02_numbers F l fail ret = ret (law02_numbers_r l) := ⟨l.length + 1, fun fail ret => by
  have hl : l.length ≤ 2000000000 := of_decide_eq_true h
  unfold law02_numbers
  rw [bif_true (c := clone_int_P l) (tt hl), show clone_int_r l = l from rfl, numbers_r_eq]
  generalize hE0 : (fun (s4 : Int) (s7 : Int) (s8 : Int) (s : List Int) => _) = e0
  rcases numbers_loop1 (l.length + 1) fail e0 (fun (s41 : Int) (s71 : Int) (s81 : Int) (s2 : List Int) => ret s2) 0 l hl l.length (l.length + 1) 0 (by omega) (by omega) (by simp) with ⟨k, hk, hf, hb, e⟩ | ⟨hf, e⟩
  · refine e.trans ?_
    subst hE0
    simp only
    rw [bif_false (beq_f (by omega)), addI_eq (by omega) (by omega)]
    obtain ⟨i', s', h1, h2, h3, e2⟩ := numbers_loop2 (l.length + 1) fail (fun (i : Int) (j : Int) (s1 : List Int) =>
          bif ((decide ((0 : Int) ≤ i)) && (decide (i ≤ ((s1.length : Nat) : Int)))) then
          bif ((decide ((0 : Int) ≤ i)) && (decide (i ≤ (((((List.take (i).toNat s1) ++ (List.replicate (s1.length - (i).toNat) (0 : Int))) ++ (List.drop ((i).toNat + (s1.length - (i).toNat)) s1)).length : Nat) : Int)))) then
          ret (List.take (i).toNat (((List.take (i).toNat s1) ++ (List.replicate (s1.length - (i).toNat) (0 : Int))) ++ (List.drop ((i).toNat + (s1.length - (i).toNat)) s1)))
          else fail
          else fail) l hl (l.length - (k + 1)) (l.length + 1) k (k + 1) l (by omega) (by omega) (by omega) rfl (by
            rw [filter_snoc l k hk, hb, hf]; simp) rfl
    refine e2.trans ?_
    have e3 : ((i' : Int)).toNat = i' := by simp
    have ht : (s'.take i').length = i' := by rw [List.length_take]; omega
    simp only [e3]
    rw [bif_true (tt2 (by omega) (by omega)), bif_true (tt2 (by omega) (by
      simp only [List.length_append, List.length_replicate, List.length_drop, ht]; omega)), List.append_assoc, List.take_append_of_le_length (by omega), List.take_of_length_le (by omega), h3]
  · refine e.trans ?_
    rw [hf]⟩

theorem numbers_ok (l : List Int) : ∀ n ∈ law02_numbers_r l, 0 ≤ n ∧ n ≤ 9007199254740991 := fun n hn => by
  rw [numbers_r_eq] at hn
  exact keepN_t (List.mem_filter.1 hn).2
theorem numbers_len (l : List Int) : (law02_numbers_r l).length ≤ l.length := List.length_filter_le _ _
end Go.AI
