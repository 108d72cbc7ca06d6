/- Texts of the proof, joined: TransP. -/
import Derived.Test.YtnmidfcefljafaaGreatQtG
import Derived.Test.YtnmidfcefljafaaGreatQtTransT
import Derived.Test.YtnmidfcefljafaaGreatQtWireP2
import Derived.Test.YtnmidfcefljafaaGreatQtDiskP
namespace Go.AI
open Go
theorem bif_eqt {X : Type} {c : Bool} {a b x : X} (h1 : c = true) (h2 : a = x) : (bif c then a else b) = x := (bif_true h1 _ _).trans h2
theorem bif_eqf {X : Type} {c : Bool} {a b x : X} (h1 : c = false) (h2 : b = x) : (bif c then a else b) = x := (bif_false h1 _ _).trans h2
abbrev rc0 : Rec := ((0 : Int), (([] : List UInt8), ()))
theorem chkOne_iff {r : Rec} : chkOne r = 0 ↔ (1 ≤ r.1 ∧ r.1 ≤ 4) ∧ r.2.1.length ≤ 65536 := by
 unfold chkOne
 by_cases c : 1 ≤ r.1 ∧ r.1 ≤ 4
 ·rw [if_pos c]
  by_cases c2 : r.2.1.length > 65536
  ·rw [if_pos c2]; exact ⟨(fun h => nomatch h), fun h => by omega⟩
  ·rw [if_neg c2]; exact ⟨fun _ => ⟨c, by omega⟩, fun _ => rfl⟩
 ·rw [if_neg c]; exact ⟨(fun h => nomatch h), fun h => absurd h.1 c⟩
theorem chkG_cons (r : Rec) (l : List Rec) : chkG (r :: l) = if chkOne r = 0 then chkG l else chkOne r := by rw [chkG]
theorem chk_loop {X : Type} (F : Nat) (fail : X) (ex0 ex1 : Int → List Rec → Int → Int → X) (K : Int → X) (l : List Rec) (hl : l.length ≤ 1024) (h0 : ∀ e a i, ex0 e l a i = K e) (h1 : ∀ e a i, ex1 e l a i = K 0) : ∀ (j m i : Nat) (s2 : Int), i + j = l.length → j ≤ m →
  tCheck_l1F F fail ex0 ex1 (m + 1) s2 l (l.length : Nat) i = K (chkG (l.drop i))
 | 0, m, i, s2, hi, _ => by
  rw [tCheck_l1F, tCheck_l1, bif_false (ff (by omega)), h1, List.drop_eq_nil_of_le (by omega)]; rfl
 | j + 1, 0, i, _, _, hm => absurd hm (by omega)
 | j + 1, m + 1, i, s2, hi, hm => by
  have ih := chk_loop F fail ex0 ex1 K l hl h0 h1 j m (i + 1) s2 (by omega) (by omega)
  rw [tCheck_l1F, tCheck_l1, Int.toNat_natCast, bif_true (tt (by omega)), bif_true (tt2 (by omega) (by omega)), drop_cons rc0 (show i < l.length by omega), chkG_cons, addI_eq (by omega) (by omega), nat1]
  show _ = K (if chkOne (l.getD i rc0) = 0 then _ else _)
  change (bif decide ((l.getD i rc0).1 ≥ 1) then _ else _) = _
  generalize l.getD i rc0 = r
  by_cases c1 : r.1 ≥ 1
  ·rw [bif_true (tt c1)]
   by_cases c2 : r.1 ≤ 4
   ·rw [tt c2, bif_false (c := !true) rfl]
    by_cases c3 : (r.2.1.length : Int) > 65536
    ·rw [bif_true (tt c3), h0]
     have : chkOne r = 5 := by unfold chkOne; rw [if_pos ⟨c1, c2⟩, if_pos (by omega)]
     rw [this]; rfl
    ·rw [bif_false (ff c3), if_pos (chkOne_iff.2 ⟨⟨c1, c2⟩, by omega⟩)]
     exact ih
   ·rw [ff c2, bif_true (c := !false) rfl, h0]
    have : chkOne r = 1 := by unfold chkOne; rw [if_neg (fun h => c2 h.2)]
    rw [this]; rfl
  ·rw [bif_false (ff c1), h0]
   have : chkOne r = 1 := by unfold chkOne; rw [if_neg (fun h => c1 h.1)]
   rw [this]; rfl
theorem tCheck_plain (l : List Rec) (_ : tCheck_P l = true) : ∃ F, ∀ {X : Type} (fail : X) (ret : Int → X), tCheck F l fail ret = ret (tCheck_r l) := ⟨l.length + 1, fun fail ret => by
 unfold tCheck tCheck_r chkR
 by_cases c : l.length > 1024
 ·rw [bif_true (tt (by omega)), if_pos c]
 ·rw [bif_false (ff (by omega)), if_neg c]
  refine (chk_loop (l.length + 1) fail _ _ ret l (by omega) (fun _ _ _ => rfl) (fun _ _ _ => rfl) l.length l.length 0 0 (by omega) (by omega)).trans ?_
  rw [List.drop_zero]⟩
theorem chkR_lim {l : List Rec} (h : chkR l = 0) : l.length ≤ 1024 ∧ chkG l = 0 := by
 unfold chkR at h
 by_cases c : l.length > 1024
 ·rw [if_pos c] at h; cases h
 ·rw [if_neg c] at h; exact ⟨by omega, h⟩
theorem encR1_len {r : Rec} (h : (1 ≤ r.1 ∧ r.1 ≤ 4) ∧ r.2.1.length ≤ 65536) : (encR1 r).length ≤ 65552 := by
 have h1 := encN_length (numOf r.1)
 have h2 := encN_length (numOf r.2.1.length)
 unfold encR1
 rw [List.length_append, List.length_append]; omega
theorem flatR_len : ∀ {l : List Rec}, (∀ r, r ∈ l → (1 ≤ r.1 ∧ r.1 ≤ 4) ∧ r.2.1.length ≤ 65536) → (l.flatMap encR1).length ≤ 65552 * l.length
 | [], _ => Nat.zero_le _
 | r :: l, h => by
  have h1 := encR1_len (h r List.mem_cons_self)
  have h2 := flatR_len (l := l) fun x hx => h x (List.mem_cons_of_mem _ hx)
  rw [List.flatMap_cons, List.length_append, List.length_cons]; omega
theorem flatR_snoc (l : List Rec) (i : Nat) (h : i < l.length) : (l.take (i + 1)).flatMap encR1 = (l.take i).flatMap encR1 ++ encR1 (l.getD i rc0) := by
 rw [take_snoc l i rc0 h, List.flatMap_append]; simp
def encTo (l : List Rec) (i : Nat) : List UInt8 := encN (numOf l.length) ++ (l.take i).flatMap encR1
theorem encTo_zero (l : List Rec) : encTo l 0 = encN (numOf l.length) := by unfold encTo; simp
theorem encTo_all (l : List Rec) : encTo l l.length = encR l := by unfold encTo encR; rw [List.take_length]
theorem encTo_succ (l : List Rec) (i : Nat) (h : i < l.length) : encTo l (i + 1) = encTo l i ++ encR1 (l.getD i rc0) := by unfold encTo; rw [flatR_snoc l i h, List.append_assoc]
theorem encTo_len {l : List Rec} (hl : l.length ≤ 1024) (h : chkG l = 0) (i : Nat) : (encTo l i).length ≤ 68000000 := by
 have h1 := encN_length (numOf l.length)
 have h2 := flatR_len (l := l.take i) fun r hr => chkG_mem h r (List.mem_of_mem_take hr)
 have h3 : (l.take i).length ≤ l.length := by rw [List.length_take]; omega
 unfold encTo
 rw [List.length_append]; omega
theorem encR1_two (b : List UInt8) (r : Rec) : b ++ encN (numOf r.1) ++ encN (numOf r.2.1.length) ++ r.2.1 = b ++ encR1 r := by
 unfold encR1; rw [List.append_assoc, List.append_assoc]
theorem getR_ok {l : List Rec} (h : chkG l = 0) {i : Nat} (hi : i < l.length) : (1 ≤ (l.getD i rc0).1 ∧ (l.getD i rc0).1 ≤ 4) ∧ (l.getD i rc0).2.1.length ≤ 65536 := by
 rw [getD_lt hi]; exact chkG_mem h _ (List.getElem_mem _)
theorem tputI_0_plain (b : List UInt8) (x : Int) (h : tputI_P b 94 x = true) : ∃ F, ∀ {X : Type} (fail : X) (ret : List UInt8 → X), tputI_0 F b x fail ret = ret (tputI_r b 94 x) := ⟨0, fun fail ret => by
 unfold tputI_0
 rw [bif_true (c := wire_PutInt_P b x) h]; rfl⟩
theorem tputB_0_plain (b : List UInt8) (x : List UInt8) (h : tputB_P b 96 x = true) : ∃ F, ∀ {X : Type} (fail : X) (ret : List UInt8 → X), tputB_0 F b x fail ret = ret (tputB_r b 96 x) := ⟨0, fun fail ret => by
 unfold tputB_0
 rw [bif_true (c := wire_PutBytes_P b x) h]; rfl⟩
theorem enc_loop {X : Type} (F : Nat) (fail : X) (ex0 : List Rec → Int → Int → List UInt8 → X) (K : List UInt8 → X) (l : List Rec) (hl : l.length ≤ 1024) (hg : chkG l = 0) (h0 : ∀ a i b, ex0 l a i b = K b) : ∀ (j m i : Nat), i + j = l.length → j ≤ m →
  tEncode_l1F F fail ex0 (m + 1) l (l.length : Nat) i (encTo l i) = K (encR l)
 | 0, m, i, hi, _ => by
  rw [tEncode_l1F, tEncode_l1, bif_false (ff (by omega)), h0, show i = l.length by omega, encTo_all]
 | j + 1, 0, i, _, hm => absurd hm (by omega)
 | j + 1, m + 1, i, hi, hm => by
  have ih := enc_loop F fail ex0 K l hl hg h0 j m (i + 1) (by omega) (by omega)
  have hr := getR_ok hg (show i < l.length by omega)
  have hb := encTo_len hl hg i
  have hs := encTo_succ l i (by omega)
  rw [tEncode_l1F, tEncode_l1, Int.toNat_natCast, addI_eq (by omega) (by omega), nat1]
  change (bif _ then bif _ then bif tputI_P (encTo l i) _ (l.getD i rc0).1 then bif tputB_P (tputI_r (encTo l i) _ (l.getD i rc0).1) _ (l.getD i rc0).2.1 then tEncode_l1F F fail ex0 (m + 1) l _ _ (tputB_r (tputI_r (encTo l i) _ (l.getD i rc0).1) _ (l.getD i rc0).2.1) else _ else _ else _ else _) = _
  generalize l.getD i rc0 = r at hr hs
  have e : ∀ a b, tputB_r (tputI_r (encTo l i) a r.1) b r.2.1 = encTo l (i + 1) := fun _ _ => (encR1_two _ _).trans hs.symm
  have h1 := encN_length (numOf r.1)
  refine bif_eqt (tt (by omega)) (bif_eqt (tt2 (by omega) (by omega)) (bif_eqt (tt (by omega)) (bif_eqt (tt ?_) ?_)))
  ·show (encTo l i ++ encN (numOf r.1)).length + r.2.1.length ≤ _
   rw [List.length_append]; omega
  ·rw [e]; exact ih
theorem encV_eq {l : List Rec} (h : encE l = 0) : encV l = encR l := if_pos h
theorem tEncode_plain (l : List Rec) (_ : tEncode_P l = true) : ∃ F, ∀ {X : Type} (fail : X) (ret : List UInt8 → Int → X), tEncode F l fail ret = ret (tEncode_r0 l) (tEncode_r1 l) := ⟨l.length + 1, fun fail ret => by
 unfold tEncode tEncode_r0 tEncode_r1 encV
 rw [bif_true (c := tCheck_P l) rfl, show tCheck_r l = chkR l from rfl]
 by_cases c : chkR l = 0
 ·obtain ⟨hl, hg⟩ := chkR_lim c
  rw [bif_false (bne_f c), bif_true (c := tputI_P _ _ _) (tt ⟨by simp, by omega, by omega⟩)]
  have e0 : ∀ a, tputI_r ([] : List UInt8) a ((l.length : Nat) : Int) = encTo l 0 := fun _ => by rw [encTo_zero]; rfl
  rw [e0]
  refine (enc_loop (l.length + 1) fail _ (fun b => bif decide ((b.length : Int) > 65536) then ret [] 5 else ret b 0) l hl hg (fun _ _ _ => rfl) l.length l.length 0 (by omega) (by omega)).trans ?_
  unfold encE
  rw [if_pos c]
  by_cases c2 : (encR l).length > 65536
  ·rw [bif_true (tt (by omega)), if_pos c2, if_neg (by decide)]
  ·rw [bif_false (ff (by omega)), if_neg c2, if_pos rfl]
 ·have : encE l = chkR l := if_neg c
  rw [bif_true (bne_t c), this, if_neg c]⟩
theorem readBytes_len {b : List UInt8} : (readBytes b).2.1.length ≤ b.length := by
 have h := readLen_range b
 unfold readBytes
 simp only
 split
 ·simp
 ·split
  ·simp
  ·rw [List.length_drop]; omega
theorem dec_loop {X : Type} (F : Nat) (fail : X) (ex0 ex1 : Int → Int → Int → List UInt8 → List Rec → X) (K : List Rec → Int → X) (n : Nat) (hn : n ≤ 1024) (h0 : ∀ e i b out, ex0 e n i b out = K [] e) (h1 : ∀ e i b out, ex1 e n i b out = if b.length = 0 then K out 0 else K [] 3) : ∀ (j m i : Nat) (s3 : Int) (b : List UInt8) (out : List Rec), i + j = n → j ≤ m → b.length ≤ 65536 → out.length ≤ i →
  tDecode_l1F F fail ex0 ex1 (m + 1) s3 n i b out = K (decG j b out).1 (decG j b out).2
 | 0, m, i, s3, b, out, hi, _, _, _ => by
  rw [tDecode_l1F, tDecode_l1, bif_false (ff (by omega)), h1, decG]
  by_cases c : b.length = 0
  ·rw [if_pos c, if_pos c]
  ·rw [if_neg c, if_neg c]
 | j + 1, 0, i, _, _, _, _, hm, _, _ => absurd hm (by omega)
 | j + 1, m + 1, i, s3, b, out, hi, hm, hb, ho => by
  have ih := fun s3 b out => dec_loop F fail ex0 ex1 K n hn h0 h1 j m (i + 1) s3 b out (by omega) (by omega)
  have hN := readN_range b
  rw [tDecode_l1F, tDecode_l1, addI_eq (by omega) (by omega), nat1, bif_true (tt (by omega)), bif_true (c := wire_Int_P b) (tt (by omega)), decG]
  rw [show wire_Int_r2 b = (readN b).2.2 from rfl, show wire_Int_r1 b = (readN b).2.1 from rfl, show wire_Int_r0 b = (readN b).1 from rfl]
  by_cases c1 : (readN b).2.2 = 0
  ·rw [bif_true (beq_t c1), bif_false (bne_f c1), if_neg (by omega)]
   by_cases c2 : (readN b).1 ≥ 1
   ·by_cases c3 : (readN b).1 ≤ 4
    ·have hB := readBytes_len (b := (readN b).2.1)
     rw [bif_true (tt c2), tt c3, bif_false (c := !true) rfl, bif_true (c := wire_Bytes_P _) (tt (by omega)), if_pos ⟨c2, c3⟩]
     rw [show wire_Bytes_r2 (readN b).2.1 = (readBytes (readN b).2.1).2.2 from rfl, show wire_Bytes_r1 (readN b).2.1 = (readBytes (readN b).2.1).2.1 from rfl, show wire_Bytes_r0 (readN b).2.1 = (readBytes (readN b).2.1).1 from rfl]
     by_cases c4 : (readBytes (readN b).2.1).2.2 = 0
     ·have hlen : (out ++ [((readN b).1, ((readBytes (readN b).2.1).1, ()))]).length = out.length + 1 := by rw [List.length_append, List.length_singleton]
      rw [bif_true (beq_t c4), bif_false (bne_f c4), if_neg (by omega), bif_true (le_big (by omega))]
      exact ih _ _ _ (by omega) (by omega)
     ·rw [bif_false (beq_f c4), bif_true (bne_t c4), if_pos c4, h0]
    ·rw [bif_true (tt c2), ff c3, bif_true (c := !false) rfl, if_neg (fun h => c3 h.2), h0]
   ·rw [bif_false (ff c2), if_neg (fun h => c2 h.1), h0]
  ·rw [bif_false (beq_f c1), bif_true (bne_t c1), if_pos c1, h0]
theorem dec_end {X : Type} (b : List UInt8) (out : List Rec) (K : List Rec → Int → X) : (bif decide ((b.length : Int) > 0) then K [] 3 else K out 0) = if b.length = 0 then K out 0 else K [] 3 := by
 by_cases c : b.length = 0
 ·rw [bif_false (ff (by omega)), if_pos c]
 ·rw [bif_true (tt (by omega)), if_neg c]
theorem tDecode_plain (b : List UInt8) (_ : tDecode_P b = true) : ∃ F, ∀ {X : Type} (fail : X) (ret : List Rec → Int → X), tDecode F b fail ret = ret (tDecode_r0 b) (tDecode_r1 b) := ⟨1025, fun fail ret => by
 unfold tDecode tDecode_r0 tDecode_r1 decR
 by_cases c : b.length > 65536
 ·rw [bif_true (tt (by omega)), if_pos c]
 have hN := readN_range b
 rw [bif_false (ff (by omega)), if_neg c, bif_true (c := wire_Int_P b) (tt (by omega))]
 rw [show wire_Int_r2 b = (readN b).2.2 from rfl, show wire_Int_r1 b = (readN b).2.1 from rfl, show wire_Int_r0 b = (readN b).1 from rfl]
 by_cases c1 : (readN b).2.2 = 0
 ·rw [bif_true (beq_t c1), bif_false (bne_f c1), if_neg (by omega)]
  by_cases c2 : (readN b).1 > 1024
  ·rw [bif_true (tt c2), if_pos c2]
  ·rw [bif_false (ff c2), if_neg c2]
   have hn : (readN b).1 = (((readN b).1.toNat : Nat) : Int) := by omega
   rw [hn]
   refine (dec_loop 1025 fail _ _ ret _ (by omega) (fun _ _ _ _ => rfl) (fun _ _ b out => dec_end b out ret) (readN b).1.toNat 1024 0 0 _ _ (by omega) (by omega) (by omega) (by simp)).trans ?_
   rw [Int.toNat_natCast]
 ·rw [bif_false (beq_f c1), bif_true (bne_t c1), if_pos c1]⟩
theorem few_loop {X : Type} (F : Nat) (fail : X) (ex0 ex1 : List Rec → Bool → Int → X) (K : Bool → X) (l : List Rec) (h0 : ∀ i, ex0 l false i = K false) (h1 : ∀ e i, ex1 l e i = K (decide ((l.length : Int) ≤ 60))) : ∀ (j m i : Nat) (s2 : Bool), i + j = 60 → j ≤ m →
  uFew_l1F F fail ex0 ex1 (m + 1) l s2 i = K (((l.drop i).take j).all (fun r => decide (r.2.1.length ≤ 300)) && decide (l.length ≤ 60))
 | 0, m, i, s2, hi, _ => by
  have e : decide ((l.length : Int) ≤ 60) = decide (l.length ≤ 60) := decide_eq_decide.2 (by omega)
  rw [uFew_l1F, uFew_l1, List.take_zero, List.all_nil, Bool.true_and, ← e]
  by_cases c : (i : Int) < (l.length : Int)
  ·rw [bif_true (tt c), bif_false (ff (by omega)), h1]
  ·rw [bif_false (ff c), h1]
 | j + 1, 0, i, _, _, hm => absurd hm (by omega)
 | j + 1, m + 1, i, s2, hi, hm => by
  have ih := few_loop F fail ex0 ex1 K l h0 h1 j m (i + 1) s2 (by omega) (by omega)
  have e : decide ((l.length : Int) ≤ 60) = decide (l.length ≤ 60) := decide_eq_decide.2 (by omega)
  rw [uFew_l1F, uFew_l1, Int.toNat_natCast, addI_eq (by omega) (by omega), nat1]
  by_cases c : i < l.length
  ·rw [bif_true (tt (by omega)), bif_true (tt (by omega)), bif_true (tt2 (by omega) (by omega)), drop_cons rc0 c, List.take_succ_cons, List.all_cons]
   change (bif decide (((l.getD i rc0).2.1.length : Int) > 300) then _ else _) = _
   generalize l.getD i rc0 = r
   by_cases c2 : (r.2.1.length : Int) > 300
   ·rw [bif_true (tt c2), h0, ff (show ¬ r.2.1.length ≤ 300 by omega), Bool.false_and, Bool.false_and]
   ·rw [bif_false (ff c2), tt (show r.2.1.length ≤ 300 by omega), Bool.true_and]
    exact ih
  ·rw [bif_false (ff (by omega)), h1, List.drop_eq_nil_of_le (by omega), e]; rfl
theorem uFew_plain (l : List Rec) (_ : uFew_P l = true) : ∃ F, ∀ {X : Type} (fail : X) (ret : Bool → X), uFew F l fail ret = ret (uFew_r l) := ⟨61, fun fail ret => by
 unfold uFew uFew_r
 refine (few_loop 61 fail _ _ ret l (fun _ => rfl) (fun _ _ => rfl) 60 60 0 false (by omega) (by omega)).trans ?_
 unfold fewR
 rw [List.drop_zero]
 by_cases c : l.length ≤ 60
 ·rw [List.take_of_length_le c]
 ·rw [ff c, Bool.and_false, Bool.and_false]⟩
theorem rec_eq {a b : Rec} : a = b ↔ a.1 = b.1 ∧ a.2.1 = b.2.1 := ⟨fun h => by rw [h]; exact ⟨rfl, rfl⟩, fun h => by
 obtain ⟨a1, a2, a3⟩ := a
 obtain ⟨b1, b2, b3⟩ := b
 obtain ⟨h1, h2⟩ := h
 cases h1; cases h2; rfl⟩
theorem same_loop {X : Type} (F : Nat) (fail : X) (ex0 ex1 : List Rec → List Rec → Bool → Int → X) (K : Bool → X) (a b : List Rec) (hab : a.length = b.length) (ha : a.length ≤ 1000000000000) (h0 : ∀ i, ex0 a b false i = K false) (h1 : ∀ e i, ex1 a b e i = K true) : ∀ (j m i : Nat) (s4 : Bool), i + j = a.length → j ≤ m →
  uSame_l1F F fail ex0 ex1 (m + 1) a b s4 i = K (decide (a.drop i = b.drop i))
 | 0, m, i, s4, hi, _ => by
  rw [uSame_l1F, uSame_l1, bif_false (ff (by omega)), h1, List.drop_eq_nil_of_le (by omega), List.drop_eq_nil_of_le (by omega)]; rfl
 | j + 1, 0, i, _, _, hm => absurd hm (by omega)
 | j + 1, m + 1, i, s4, hi, hm => by
  have ih := same_loop F fail ex0 ex1 K a b hab ha h0 h1 j m (i + 1) s4 (by omega) (by omega)
  have ba : (decide ((0 : Int) ≤ (i : Int)) && decide ((i : Int) < ((a.length : Nat) : Int))) = true := tt2 (by omega) (by omega)
  have bb : (decide ((0 : Int) ≤ (i : Int)) && decide ((i : Int) < ((b.length : Nat) : Int))) = true := tt2 (by omega) (by omega)
  rw [uSame_l1F, uSame_l1, Int.toNat_natCast, addI_eq (by omega) (by omega), nat1, drop_cons rc0 (show i < a.length by omega), drop_cons rc0 (show i < b.length by omega)]
  refine bif_eqt (tt (by omega)) (bif_eqt ba (bif_eqt bb ?_))
  change (bif (a.getD i rc0).1 != (b.getD i rc0).1 then _ else bif _ then bif _ then bif !((a.getD i rc0).2.1 == (b.getD i rc0).2.1) then _ else _ else _ else _) = _
  generalize a.getD i rc0 = x
  generalize b.getD i rc0 = y
  by_cases c1 : x.1 = y.1
  ·rw [bif_false (bne_f c1)]
   refine bif_eqt ba (bif_eqt bb ?_)
   by_cases c2 : x.2.1 = y.2.1
   ·have e : x = y := rec_eq.2 ⟨c1, c2⟩
    rw [show (x.2.1 == y.2.1) = true by simpa using c2, bif_false (c := !true) rfl, ih]
    congr 1
    exact decide_eq_decide.2 ⟨fun h => by rw [e, h], fun h => (List.cons.inj h).2⟩
   ·rw [show (x.2.1 == y.2.1) = false by simpa using c2, bif_true (c := !false) rfl, h0, ff (fun h => c2 (by rw [(List.cons.inj h).1]))]
  ·rw [bif_true (bne_t c1), h0, ff (fun h => c1 (by rw [(List.cons.inj h).1]))]
theorem uSame_plain (a b : List Rec) (h : uSame_P a b = true) : ∃ F, ∀ {X : Type} (fail : X) (ret : Bool → X), uSame F a b fail ret = ret (uSame_r a b) := ⟨a.length + 1, fun fail ret => by
 simp only [uSame_P, samP, Bool.and_eq_true, decide_eq_true_eq] at h
 unfold uSame uSame_r
 by_cases c : a.length = b.length
 ·rw [bif_false (bne_f (by omega))]
  refine (same_loop (a.length + 1) fail _ _ ret a b c h.1 (fun _ => rfl) (fun _ _ => rfl) a.length a.length 0 false (by omega) (by omega)).trans ?_
  rw [List.drop_zero, List.drop_zero]
 ·rw [bif_true (bne_t (by omega)), ff (fun h => c (by rw [h]))]⟩
theorem sameA_loop {X : Type} (F : Nat) (fail : X) (ex0 ex1 : List (List Rec) → List (List Rec) → Bool → Int → X) (K : Bool → X) (a b : List (List Rec)) (hab : a.length = b.length) (ha : samA a = true) (hb : samA b = true) (h0 : ∀ i, ex0 a b false i = K false) (h1 : ∀ e i, ex1 a b e i = K true) : ∀ (j m i : Nat) (s4 : Bool), i + j = a.length → j ≤ m →
  uSameAll_l1F F fail ex0 ex1 (m + 1) a b s4 i = K (decide (a.drop i = b.drop i))
 | 0, m, i, s4, hi, _ => by
  rw [uSameAll_l1F, uSameAll_l1, bif_false (ff (by omega)), h1, List.drop_eq_nil_of_le (by omega), List.drop_eq_nil_of_le (by omega)]; rfl
 | j + 1, 0, i, _, _, hm => absurd hm (by omega)
 | j + 1, m + 1, i, s4, hi, hm => by
  have ih := sameA_loop F fail ex0 ex1 K a b hab ha hb h0 h1 j m (i + 1) s4 (by omega) (by omega)
  simp only [samA, Bool.and_eq_true, decide_eq_true_eq] at ha hb
  have ba : (decide ((0 : Int) ≤ (i : Int)) && decide ((i : Int) < ((a.length : Nat) : Int))) = true := tt2 (by omega) (by omega)
  have bb : (decide ((0 : Int) ≤ (i : Int)) && decide ((i : Int) < ((b.length : Nat) : Int))) = true := tt2 (by omega) (by omega)
  have pa : samP (a.getD i []) = true := by rw [getD_lt (show i < a.length by omega)]; exact List.all_eq_true.1 ha.2 _ (List.getElem_mem _)
  have pb : samP (b.getD i []) = true := by rw [getD_lt (show i < b.length by omega)]; exact List.all_eq_true.1 hb.2 _ (List.getElem_mem _)
  rw [uSameAll_l1F, uSameAll_l1, Int.toNat_natCast, addI_eq (by omega) (by omega), nat1, drop_cons ([] : List Rec) (show i < a.length by omega), drop_cons ([] : List Rec) (show i < b.length by omega)]
  refine bif_eqt (tt (by omega)) (bif_eqt ba (bif_eqt bb ?_))
  generalize a.getD i [] = x at pa
  generalize b.getD i [] = y at pb
  refine bif_eqt (show (samP x && samP y) = true by rw [pa, pb]; rfl) ?_
  rw [show uSame_r x y = decide (x = y) from rfl]
  by_cases c : x = y
  ·rw [tt c, bif_false (c := !true) rfl, ih]
   congr 1
   exact decide_eq_decide.2 ⟨fun h => by rw [c, h], fun h => (List.cons.inj h).2⟩
  ·rw [ff c, bif_true (c := !false) rfl, h0, ff (fun h => c (List.cons.inj h).1)]
theorem uSameAll_plain (a b : List (List Rec)) (h : uSameAll_P a b = true) : ∃ F, ∀ {X : Type} (fail : X) (ret : Bool → X), uSameAll F a b fail ret = ret (uSameAll_r a b) := ⟨a.length + 1, fun fail ret => by
 rw [uSameAll_P, Bool.and_eq_true] at h
 unfold uSameAll uSameAll_r
 by_cases c : a.length = b.length
 ·rw [bif_false (bne_f (by omega))]
  refine (sameA_loop (a.length + 1) fail _ _ ret a b c h.1 h.2 (fun _ => rfl) (fun _ _ => rfl) a.length a.length 0 false (by omega) (by omega)).trans ?_
  rw [List.drop_zero, List.drop_zero]
 ·rw [bif_true (bne_t (by omega)), ff (fun h => c (by rw [h]))]⟩
end Go.AI
