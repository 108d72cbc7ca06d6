/- The laws of the chapter on plain values. -/
import Derived.Test.YtoabbbechmeggaaDigestG3
import Derived.Test.YtoabbbechmeggaaDigestP5
namespace Go.AI
open Go

theorem beq8 {a b : List UInt8} (h : a = b) : beqT (.arr 32 (.int .u8)) a b = true := by rw [beqT_u8, decide_eq_true h]
theorem awk_true : law04_awake_r = true := rfl
def DigestSums_P (_ : List UInt8) : Bool := true
def DigestSums_r (_ : List UInt8) : Bool := true
theorem DigestSums_plain (b : List UInt8) (_ : DigestSums_P b = true) : ∃ F, ∀ {X : Type} (fail : X) (ret : Bool → X), DigestSums F b fail ret = ret (DigestSums_r b) := ⟨0, fun fail ret => by
  unfold DigestSums
  rw [bif_true awk_true]
  by_cases h : (b.length : Int) > 2000
  · rw [bif_true (tt h)]; rfl
  · rw [bif_false (ff h), bif_true (c := dSum_P b) (tt (by omega)), bif_true (c := rSum_P b) (tt (by omega)), show beqT (.arr 32 (.int .u8)) (dSum_r b) (rSum_r b) = true from beq8 rfl]; rfl⟩

def DigestWrites_P (h : HH) (_ : List UInt8) : Bool := decide (h.1.length = 8)
def DigestWrites_r (_ : HH) (_ : List UInt8) : Bool := true
theorem same_refl (h : HH) : rSame_r h h = true := decide_eq_true ⟨rfl, rfl, rfl⟩
theorem DigestWrites_plain (h : HH) (b : List UInt8) (k : DigestWrites_P h b = true) : ∃ F, ∀ {X : Type} (fail : X) (ret : Bool → X), DigestWrites F h b fail ret = ret (DigestWrites_r h b) := ⟨0, fun fail ret => by
  have e1 : hWrite_P h b = true := k
  have e2 : rWrite_P h b = true := k
  have e3 : hFinish_P h = true := k
  have e4 : rFinish_P h = true := k
  have e5 : rSame_r (hWrite_r0 h b) (rWrite_r0 h b) = true := same_refl _
  have e6 : ((hWrite_r1 h b) == (rWrite_r1 h b)) = true := beq_t rfl
  have e7 : beqT (.arr 32 (.int .u8)) (hFinish_r0 h) (rFinish_r0 h) = true := beq8 rfl
  have e8 : ((hFinish_r1 h) == (rFinish_r1 h)) = true := beq_t rfl
  have e9 : ((hCheck_r h) == (rCheck_r h)) = true := beq_t rfl
  have e10 : rSame_r hNew_r rNew_r = true := same_refl _
  unfold DigestWrites
  rw [bif_true e1, bif_true e2, bif_true e3, bif_true e4, bif_true awk_true, bif_true e5, bif_true e6, bif_true e7, bif_true e8, bif_true e9, bif_true (c := hNew_P) rfl, bif_true (c := rNew_P) rfl, e10, awk_true]
  simp only [ite_bool]
  repeat' split
  all_goals rfl⟩

def DigestMacs_P (_ _ : List UInt8) (_ : Int) : Bool := true
def DigestMacs_r (_ _ : List UInt8) (_ : Int) : Bool := true
theorem DigestMacs_plain (key b : List UInt8) (n : Int) (_ : DigestMacs_P key b n = true) : ∃ F, ∀ {X : Type} (fail : X) (ret : Bool → X), DigestMacs F key b n fail ret = ret (DigestMacs_r key b n) := ⟨0, fun fail ret => by
  unfold DigestMacs
  by_cases h1 : (key.length : Int) > 300
  · rw [bif_true (tt h1)]; rfl
  by_cases h2 : (b.length : Int) > 2000
  · rw [bif_false (ff h1), bif_true (tt h2)]; rfl
  have a1 : ∀ n, dDerive_P key b n = true := fun n => tt (by omega)
  have a2 : ∀ n, rDerive_P key b n = true := fun n => tt (by omega)
  have a3 : dMac_P key b = true := tt (by omega)
  have a4 : rMac_P key b = true := tt (by omega)
  have a5 : beqT (.arr 32 (.int .u8)) (dMac_r key b) (rMac_r key b) = true := beq8 rfl
  have a6 : ∀ n, beqT (.arr 32 (.int .u8)) (dDerive_r0 key b n) (rDerive_r0 key b n) = true := fun _ => beq8 rfl
  have a7 : ∀ n, ((dDerive_r1 key b n) == (rDerive_r1 key b n)) = true := fun n => beq_t rfl
  have all : ∀ n, (bif (dDerive_P key b n) then bif (rDerive_P key b n) then bif (law04_awake_r) then bif (dMac_P key b) then bif (rMac_P key b) then
      bif (beqT (.arr 32 (.int .u8)) (dMac_r key b) (rMac_r key b)) then
        bif (beqT (.arr 32 (.int .u8)) (dDerive_r0 key b n) (rDerive_r0 key b n)) then ret ((dDerive_r1 key b n) == (rDerive_r1 key b n)) else ret false
      else ret false
      else fail else fail else ret false else fail else fail) = ret true := fun n => by
    rw [bif_true (a1 n), bif_true (a2 n), bif_true awk_true, bif_true a3, bif_true a4, bif_true a5, bif_true (a6 n), a7 n]
  rw [bif_false (ff h1), bif_false (ff h2), all n, all 20]
  simp only [ite_bool]
  repeat' split
  all_goals rfl⟩

def DigestTexts_P (_ _ : List UInt8) : Bool := true
def DigestTexts_r (_ _ : List UInt8) : Bool := true
theorem DigestTexts_plain (d s : List UInt8) (_ : DigestTexts_P d s = true) : ∃ F, ∀ {X : Type} (fail : X) (ret : Bool → X), DigestTexts F d s fail ret = ret (DigestTexts_r d s) := ⟨0, fun fail ret => by
  unfold DigestTexts
  by_cases h1 : (s.length : Int) > 1000
  · rw [bif_true (tt h1)]; rfl
  have a5 : beqT (.arr 32 (.int .u8)) (dParse_r0 s) (rParse_r0 s) = true := beq8 rfl
  have a6 : ((dHex_r d) == (rHex_r d)) = true := beq_iff_eq.2 rfl
  have a7 : ((dParse_r1 s) == (rParse_r1 s)) = true := beq_t rfl
  rw [bif_false (ff h1), bif_true (c := dParse_P s) rfl, bif_true (c := rParse_P s) rfl, bif_true awk_true, bif_true (c := dHex_P d) rfl, bif_true (c := rHex_P d) rfl, bif_true a6, bif_true a5, a7]
  rfl⟩

/- Parts. -/
theorem wr_new (c : List UInt8) : (wrH newH c).1.length = 8 ∧ (wrH newH c).2.1.length = c.length % 64 ∧ (wrH newH c).2.2.1 = c.length := by
  refine ⟨absN_len _ _ _ rfl, ?_, ?_⟩
  · show (c.drop (64 * (c.length / 64))).length = _
    rw [List.length_drop]; omega
  · show (0 : Int) + c.length = _; omega
theorem wr_more (c x : List UInt8) (h : c.length + x.length ≤ 60000) : hWrite_P (wrH newH c) x = true ∧ hWrite_r0 (wrH newH c) x = wrH newH (c ++ x) ∧ hWrite_r1 (wrH newH c) x = 0 := by
  obtain ⟨h1, h2, h3⟩ := wr_new c
  have hc : chkH (wrH newH c) = 0 := by
    unfold chkH
    rw [if_neg (by rw [h2, h3]; omega)]
  have he : wrE (wrH newH c) x = 0 := by
    unfold wrE
    rw [hc, if_neg (by omega), if_neg (by omega), if_neg (by rw [h3]; omega)]
  refine ⟨tt h1, ?_, he⟩
  unfold hWrite_r0
  rw [if_pos he, wrH_app]
theorem newH_nil : wrH newH [] = newH := rfl
theorem parts_l1 {X : Type} (F : Nat) (fail : X) (ex0 ex1 : List UInt8 → List UInt8 → Bool → List UInt8 → Int → HH → X) (b cuts : List UInt8) (s4 : Bool) (hb : b.length ≤ 1000) (hc : cuts.length ≤ 40) : ∀ (j m i : Nat) (c l : List UInt8), i + j = cuts.length → j ≤ m → c ++ l = b →
    ∃ c' l', c' ++ l' = b ∧ DigestParts_l1F F fail ex0 ex1 (m + 1) b cuts s4 l i (wrH newH c) = ex1 b cuts s4 l' (cuts.length : Nat) (wrH newH c')
  | 0, m, i, c, l, hi, _, hcl => ⟨c, l, hcl, by
    have e : i = cuts.length := by omega
    subst e
    rw [DigestParts_l1F, DigestParts_l1]
    rw [bif_false (ff (by omega))]⟩
  | j + 1, 0, i, _, _, _, hm, _ => absurd hm (by omega)
  | j + 1, m + 1, i, c, l, hi, hm, hcl => by
    have hbl : c.length + l.length = b.length := by rw [← hcl, List.length_append]
    have hu := (cuts.getD i 0).toNat_lt
    have hlt : (cuts.getD i 0).toNat % (l.length + 1) < l.length + 1 := Nat.mod_lt _ (by omega)
    have ea : addI (l.length : Int) 1 = ((l.length + 1 : Nat) : Int) := by rw [addI_eq (by omega) (by omega)]; omega
    have er : remI (cvBI (cuts.getD i 0)) (addI (l.length : Int) 1) = (((cuts.getD i 0).toNat % (l.length + 1) : Nat) : Int) := by
      rw [ea, cvBI_eq, remI_eq (by omega), Int.natCast_emod]
    obtain ⟨w1, w2, w3⟩ := wr_more c (l.take ((cuts.getD i 0).toNat % (l.length + 1))) (by rw [List.length_take]; omega)
    obtain ⟨c', l', hc', ih⟩ := parts_l1 F fail ex0 ex1 b cuts s4 hb hc j m (i + 1) (c ++ l.take ((cuts.getD i 0).toNat % (l.length + 1))) (l.drop ((cuts.getD i 0).toNat % (l.length + 1))) (by omega) (by omega) (by rw [List.append_assoc, List.take_append_drop, hcl])
    refine ⟨c', l', hc', ?_⟩
    rw [DigestParts_l1F, DigestParts_l1]
    rw [Int.toNat_natCast, er, ea, Int.toNat_natCast]
    rw [bif_true (tt (by omega)), bif_true (tt2 (by omega) (by omega)), bif_true (bne_t (by omega)), bif_true (tt2 (by omega) (by omega)), bif_true w1, w3, bif_false (bne_f rfl), bif_true (tt2 (by omega) (by omega)), w2, addI_eq (by omega) (by omega)]
    exact ih
def DigestParts_P (_ _ : List UInt8) : Bool := true
def DigestParts_r (_ _ : List UInt8) : Bool := true
theorem DigestParts_plain (b cuts : List UInt8) (_ : DigestParts_P b cuts = true) : ∃ F, ∀ {X : Type} (fail : X) (ret : Bool → X), DigestParts F b cuts fail ret = ret (DigestParts_r b cuts) := ⟨99, fun fail ret => by
  unfold DigestParts
  by_cases h1 : (b.length : Int) > 1000
  · rw [bif_true (tt h1)]; rfl
  by_cases h2 : (cuts.length : Int) > 40
  · rw [bif_false (ff h1), bif_true (tt h2)]; rfl
  rw [bif_false (ff h1), bif_false (ff h2), bif_true (c := hNew_P) rfl]
  obtain ⟨c, l, hcl, e⟩ := parts_l1 99 fail (fun (_ : List UInt8) (_ : List UInt8) (s4 : Bool) (_ : List UInt8) (_ : Int) (_ : HH) => ret s4)
    (fun (b2 : List UInt8) (_ : List UInt8) (_ : Bool) (left1 : List UInt8) (_ : Int) (h1 : HH) =>
      bif (hWrite_P h1 left1) then
      bif (hFinish_P (hWrite_r0 h1 left1)) then
      bif (law04_awake_r) then
        bif ((hWrite_r1 h1 left1) == (0 : Int)) then
          bif ((hFinish_r1 (hWrite_r0 h1 left1)) == (0 : Int)) then
            bif (dSum_P b2) then
            bif (beqT (.arr 32 (.int .u8)) (hFinish_r0 (hWrite_r0 h1 left1)) (dSum_r b2)) then
              ret ((hWrite_r0 h1 left1).2.2.1 == ((b2.length : Nat) : Int))
            else
            ret false
            else fail
          else
          ret false
        else
        ret false
      else
      ret false
      else fail
      else fail) b cuts false (by omega) (by omega) cuts.length 98 0 [] b (by omega) (by omega) rfl
  refine e.trans ?_
  have hbl : c.length + l.length = b.length := by rw [← hcl, List.length_append]
  obtain ⟨w1, w2, w3⟩ := wr_more c l (by omega)
  obtain ⟨n1, n2, n3⟩ := wr_new b
  have hck : chkH (wrH newH b) = 0 := by
    unfold chkH
    rw [if_neg (by rw [n2, n3]; omega)]
  rw [w2, w3, hcl]
  rw [bif_true w1, bif_true (c := hFinish_P (wrH newH b)) (tt n1), bif_true awk_true, bif_true (beq_t rfl), bif_true (c := hFinish_r1 (wrH newH b) == 0) (beq_t hck), bif_true (c := dSum_P b) (tt (by omega))]
  rw [show hFinish_r0 (wrH newH b) = dSum_r b from if_pos hck, beqT_u8, bif_true (tt rfl), n3, beq_t rfl]
  rfl⟩

/- Keys. -/
theorem keyH_sum (k : List UInt8) (x : UInt8) (h : k.length > 64) : keyH (sumH k) x = keyH k x := by
  unfold keyH
  rw [if_pos h, if_neg (by rw [sumH_len]; omega)]
theorem keyH_zeros (k : List UInt8) (x : UInt8) (i : Nat) (h : k.length + i ≤ 64) : keyH (k ++ List.replicate i 0) x = keyH k x := by
  have hl : (k ++ List.replicate i (0 : UInt8)).length = k.length + i := by rw [List.length_append, List.length_replicate]
  rw [keyH_eq, keyH_eq, if_neg (by omega), if_neg (by omega), hl, List.append_assoc, List.replicate_append_replicate, show i + (64 - (k.length + i)) = 64 - k.length by omega]
theorem keys_l1 {X : Type} (F : Nat) (fail : X) (ex : List UInt8 → List UInt8 → UInt8 → Int → List UInt8 → X) (k b : List UInt8) (z : UInt8) : ∀ (j m i : Nat), i + j = z.toNat → j ≤ m → k.length + i ≤ 64 →
    ∃ (i' : Int) (n : Nat), k.length + n ≤ 64 ∧ DigestKeys_l1F F fail ex (m + 1) k b z i (k ++ List.replicate i 0) = ex k b z i' (k ++ List.replicate n 0)
  | 0, m, i, hj, _, hi => ⟨i, i, hi, by
    rw [DigestKeys_l1F, DigestKeys_l1, cvBI_eq]
    rw [bif_false (ff (by omega))]⟩
  | j + 1, 0, i, _, hm, _ => absurd hm (by omega)
  | j + 1, m + 1, i, hj, hm, hi => by
    have hz := z.toNat_lt
    have hl : (k ++ List.replicate i (0 : UInt8)).length = k.length + i := by rw [List.length_append, List.length_replicate]
    by_cases c : k.length + i < 64
    · obtain ⟨i', n, hn, ih⟩ := keys_l1 F fail ex k b z j m (i + 1) (by omega) (by omega) (by omega)
      refine ⟨i', n, hn, ?_⟩
      rw [DigestKeys_l1F, DigestKeys_l1, cvBI_eq]
      rw [bif_true (tt (by omega)), hl, bif_true (tt (by omega)), bif_true (le_big (by rw [List.length_append, hl]; show k.length + i + 1 ≤ _; omega)), addI_eq (by omega) (by omega), List.append_assoc, ← List.replicate_succ']
      exact ih
    · refine ⟨i, i, hi, ?_⟩
      rw [DigestKeys_l1F, DigestKeys_l1, cvBI_eq]
      rw [bif_true (tt (by omega)), hl, bif_false (ff (by omega))]
def DigestKeys_P (_ _ : List UInt8) (_ : UInt8) : Bool := true
def DigestKeys_r (_ _ : List UInt8) (_ : UInt8) : Bool := true
theorem DigestKeys_plain (k b : List UInt8) (z : UInt8) (_ : DigestKeys_P k b z = true) : ∃ F, ∀ {X : Type} (fail : X) (ret : Bool → X), DigestKeys F k b z fail ret = ret (DigestKeys_r k b z) := ⟨300, fun fail ret => by
  unfold DigestKeys
  by_cases h1 : (k.length : Int) > 300
  · rw [bif_true (tt h1)]; rfl
  by_cases h2 : (b.length : Int) > 500
  · rw [bif_false (ff h1), bif_true (tt h2)]; rfl
  rw [bif_false (ff h1), bif_false (ff h2), bif_true (le_big (by omega))]
  by_cases h3 : (k.length : Int) > 64
  · have ht : List.take 32 (dSum_r k) = sumH k := List.take_of_length_le (by rw [show (dSum_r k).length = 32 from sumH_len _]; omega)
    rw [bif_true (tt h3), bif_true (c := dSum_P k) (tt (by omega)), bif_true awk_true, bif_true (c := dMac_P k b) (tt (by omega)), ht, bif_true (c := dMac_P (sumH k) b) (tt (by rw [sumH_len]; omega))]
    have e : dMac_r k b = dMac_r (sumH k) b := by
      show sumH (keyH k 92 ++ sumH (keyH k 54 ++ b)) = sumH (keyH (sumH k) 92 ++ sumH (keyH (sumH k) 54 ++ b))
      rw [keyH_sum k 92 (by omega), keyH_sum k 54 (by omega)]
    rw [← e, beqT_u8, tt rfl]; rfl
  · rw [bif_false (ff h3)]
    have hz := z.toNat_lt
    obtain ⟨i', n, hn, e⟩ := keys_l1 300 fail (fun (key1 : List UInt8) (b1 : List UInt8) (_ : UInt8) (_ : Int) (other : List UInt8) =>
      bif (law04_awake_r) then
        bif (dMac_P key1 b1) then
        bif (dMac_P other b1) then
        ret (beqT (.arr 32 (.int .u8)) (dMac_r key1 b1) (dMac_r other b1))
        else fail
        else fail
      else
      ret false) k b z z.toNat 299 0 (by omega) (by omega) (by omega)
    rw [show k ++ List.replicate 0 (0 : UInt8) = k from List.append_nil k] at e
    refine e.trans ?_
    have e : dMac_r k b = dMac_r (k ++ List.replicate n 0) b := by
      show sumH (keyH k 92 ++ sumH (keyH k 54 ++ b)) = sumH (keyH (k ++ List.replicate n 0) 92 ++ sumH (keyH (k ++ List.replicate n 0) 54 ++ b))
      rw [keyH_zeros k 92 n hn, keyH_zeros k 54 n hn]
    rw [bif_true awk_true, bif_true (c := dMac_P k b) (tt (by omega)), bif_true (c := dMac_P (k ++ List.replicate n 0) b) (tt (by rw [List.length_append, List.length_replicate]; omega)), ← e, beqT_u8, tt rfl]; rfl⟩

/- Rounds. -/
theorem ro_l2 {X : Type} (F : Nat) (fail : X) (ex : List UInt8 → List UInt8 → Int → Int → Int → List UInt8 → List UInt8 → X) (p s : List UInt8) (n c : Int) (u o : List UInt8) (hu : u.length = 32) (ho : o.length = 32) : ∀ (j m i : Nat), i + j = 32 → j ≤ m →
    DigestRounds_l2F F fail ex (m + 1) p s n c i u (zipTo xorB i o u) = ex p s n c (32 : Nat) u (xorL o u)
  | 0, m, i, hi, _ => by
    have e : i = 32 := by omega
    subst e
    rw [DigestRounds_l2F, DigestRounds_l2]
    rw [bif_false (ff (by omega)), zipTo_all _ _ _ _ (by omega) (by omega)]
    rfl
  | j + 1, 0, i, _, hm => absurd hm (by omega)
  | j + 1, m + 1, i, hi, hm => by
    have ih := ro_l2 F fail ex p s n c u o hu ho j m (i + 1) (by omega) (by omega)
    rw [DigestRounds_l2F, DigestRounds_l2]
    rw [bif_true (tt (by omega)), bif_true (tt2 (by omega) (by omega)), bif_true (tt2 (by omega) (by omega)), bif_true (tt2 (by omega) (by omega)), addI_eq (by omega) (by omega), Int.toNat_natCast, zipTo_get, zipTo_set xorB 0 0 i o u (by omega) (by omega)]
    exact ih
theorem ro_l1 {X : Type} (F : Nat) (hF : 40 ≤ F) (fail : X) (ex : List UInt8 → List UInt8 → Int → Int → List UInt8 → List UInt8 → X) (p s : List UInt8) (hp : p.length ≤ 1000000000) (n : Nat) (hn : n ≤ 1024) : ∀ (j m i : Nat) (u o : List UInt8), i + j = n → j ≤ m → u.length = 32 → o.length = 32 →
    ∃ u', DigestRounds_l1F F fail ex (m + 1) p s n i u o = ex p s n n u' (derH p j u o)
  | 0, m, i, u, o, hi, _, _, _ => ⟨u, by
    have e : i = n := by omega
    subst e
    rw [DigestRounds_l1F, DigestRounds_l1]
    rw [bif_false (ff (by omega))]
    rfl⟩
  | j + 1, 0, i, _, _, _, hm, _, _ => absurd hm (by omega)
  | j + 1, m + 1, i, u, o, hi, hm, hu, ho => by
    obtain ⟨f, rfl⟩ : ∃ f, F = f + 33 := ⟨F - 33, by omega⟩
    have hl := macH_len p u
    have ht : List.take 32 u = u := List.take_of_length_le (by omega)
    obtain ⟨u', ih⟩ := ro_l1 (f + 33) hF fail ex p s hp n hn j m (i + 1) (macH p u) (xorL o (macH p u)) (by omega) (by omega) hl (xorL_len ho hl)
    refine ⟨u', ?_⟩
    rw [DigestRounds_l1F, DigestRounds_l1]
    rw [bif_true (tt (by omega)), ht, bif_true (c := dMac_P p u) (tt ⟨hp, by omega⟩)]
    refine (ro_l2 (f + 33) fail _ p s _ _ (dMac_r p u) o hl ho 32 (f + 32) 0 rfl (by omega)).trans ?_
    rw [addI_eq (by omega) (by omega)]
    exact ih
theorem rem6 : ∀ i : Nat, i < 256 → (remB (UInt8.ofNat i) 6).toNat ≤ 5 := by decide +kernel
def DigestRounds_P (_ _ : List UInt8) (_ : UInt8) : Bool := true
def DigestRounds_r (_ _ : List UInt8) (_ : UInt8) : Bool := true
theorem DigestRounds_plain (p s : List UInt8) (r : UInt8) (_ : DigestRounds_P p s r = true) : ∃ F, ∀ {X : Type} (fail : X) (ret : Bool → X), DigestRounds F p s r fail ret = ret (DigestRounds_r p s r) := ⟨99, fun fail ret => by
  unfold DigestRounds
  by_cases h1 : (p.length : Int) > 200
  · rw [bif_true (tt h1)]; rfl
  by_cases h2 : (s.length : Int) > 200
  · rw [bif_false (ff h1), bif_true (tt h2)]; rfl
  have hl : (s ++ [(0 : UInt8), 0, 0, 1]).length = s.length + 4 := by rw [List.length_append]; rfl
  obtain ⟨i, hi, rfl⟩ := byte_ex r
  have h6 := rem6 i hi
  have en : addI 2 (cvBI (remB (UInt8.ofNat i) 6)) = ((2 + (remB (UInt8.ofNat i) 6).toNat : Nat) : Int) := by rw [cvBI_eq, addI_eq (by omega) (by omega)]; omega
  rw [en]
  generalize (remB (UInt8.ofNat i) 6).toNat = k at *
  rw [bif_false (ff h1), bif_false (ff h2), bif_true (le_big (by omega)), bif_true (le_big (by omega)), bif_true (c := dMac_P _ _) (tt (by omega))]
  obtain ⟨u', e⟩ := ro_l1 99 (by omega) fail (fun (password1 : List UInt8) (salt1 : List UInt8) (n : Int) (_ : Int) (_ : List UInt8) (want : List UInt8) =>
      bif (dDerive_P password1 salt1 n) then
      bif (law04_awake_r) then
        bif ((dDerive_r1 password1 salt1 n) == (0 : Int)) then
          ret (beqT (.arr 32 (.int .u8)) (dDerive_r0 password1 salt1 n) want)
        else
        ret false
      else
      ret false
      else fail) p s (by omega) (2 + k) (by omega) (1 + k) 98 1 (macH p (s ++ [0, 0, 0, 1])) (macH p (s ++ [0, 0, 0, 1])) (by omega) (by omega) (macH_len _ _) (macH_len _ _)
  refine e.trans ?_
  have he : derE p s ((2 + k : Nat) : Int) = 0 := by
    unfold derE
    rw [if_neg (by omega), if_neg (by omega)]
  have hv : dDerive_r0 p s ((2 + k : Nat) : Int) = derH p (1 + k) (macH p (s ++ [0, 0, 0, 1])) (macH p (s ++ [0, 0, 0, 1])) := by
    unfold dDerive_r0 derV
    rw [if_pos he, Int.toNat_natCast, derH_one _ _ _ (by omega), show 2 + k - 1 = 1 + k by omega]
  rw [bif_true (c := dDerive_P p s _) (tt (by omega)), bif_true awk_true, bif_true (c := dDerive_r1 p s _ == 0) (beq_t he), hv, beqT_u8, tt rfl]
  rfl⟩

/- Texts there and back. -/
theorem hex_back : ∀ i : Nat, i < 256 → (hexV (hexD (UInt8.ofNat i / 16))).isSome = true ∧ (hexV (hexD (UInt8.ofNat i % 16))).isSome = true ∧ 16 * hexN (hexD (UInt8.ofNat i / 16)) + hexN (hexD (UInt8.ofNat i % 16)) = UInt8.ofNat i := by decide +kernel
theorem hex_forth : ∀ i : Nat, i < 256 → (hexV (UInt8.ofNat i)).isSome = true → hexD (hexN (UInt8.ofNat i)) = UInt8.ofNat i := by decide +kernel
theorem nib_div : ∀ j : Nat, j < 16 → ∀ i : Nat, i < 16 → (16 * UInt8.ofNat j + UInt8.ofNat i) / 16 = UInt8.ofNat j ∧ (16 * UInt8.ofNat j + UInt8.ofNat i) % 16 = UInt8.ofNat i := by decide +kernel
theorem hexTo_get (d : List UInt8) : ∀ n i, i < n → (hexTo d n).getD (2 * i) 0 = hexD (d.getD i 0 / 16) ∧ (hexTo d n).getD (2 * i + 1) 0 = hexD (d.getD i 0 % 16)
  | 0, i, h => absurd h (by omega)
  | n + 1, i, h => by
    have hl := hexTo_len d n
    rw [hexTo_succ]
    simp only [List.getD_eq_getElem?_getD]
    by_cases e : i = n
    · subst e
      rw [List.getElem?_append_right (by omega), List.getElem?_append_right (by omega), hl, Nat.sub_self, show 2 * i + 1 - 2 * i = 1 by omega]
      exact ⟨rfl, rfl⟩
    · rw [List.getElem?_append_left (by omega), List.getElem?_append_left (by omega)]
      have := hexTo_get d n i (by omega)
      simpa only [List.getD_eq_getElem?_getD] using this
theorem hexTo_ok (d : List UInt8) : ∀ n, (hexTo d n).all (fun c => (hexV c).isSome) = true
  | 0 => rfl
  | n + 1 => by
    obtain ⟨i, hi, e⟩ := byte_ex (d.getD n 0)
    obtain ⟨h1, h2, _⟩ := hex_back i hi
    rw [hexTo_succ, List.all_append, hexTo_ok d n]
    unfold hexG
    rw [e]
    simp [h1, h2]
theorem par_hex (d : List UInt8) (h : d.length = 32) : parV (hexS d) = d ∧ parE (hexS d) = 0 ∧ (hexS d).length = 64 := by
  have hl : (hexS d).length = 64 := hexTo_len d 32
  have ha : (hexS d).all (fun c => (hexV c).isSome) = true := hexTo_ok d 32
  refine ⟨?_, ?_, hl⟩
  · rw [parV_eq _ hl, if_pos ha, parTo_all]
    apply List.ext_getElem
    · simp [h]
    · intro i h1 h2
      obtain ⟨g1, g2⟩ := hexTo_get d 32 i (by omega)
      obtain ⟨j, hj, e⟩ := byte_ex (d.getD i 0)
      obtain ⟨_, _, h3⟩ := hex_back j hj
      simp only [List.getElem_map, List.getElem_range]
      rw [show (hexS d).getD (2 * i) 0 = _ from g1, show (hexS d).getD (2 * i + 1) 0 = _ from g2, e, h3, ← e, getD_lt h2]
  · rw [parE_eq _ hl, if_pos ha]
theorem hex_par (s : List UInt8) (h : parE s = 0) : hexS (parV s) = s := by
  by_cases hs : s.length = 64
  · rw [parE_eq s hs] at h
    by_cases ha : s.all (fun c => (hexV c).isSome) = true
    · rw [parV_eq s hs, if_pos ha, parTo_all]
      generalize hp : (List.range 32).map (fun i => 16 * hexN (s.getD (2 * i) 0) + hexN (s.getD (2 * i + 1) 0)) = p
      have hv : ∀ k, k < 64 → (hexV (s.getD k 0)).isSome = true := fun k hk => by
        rw [getD_lt (by omega)]
        exact List.all_eq_true.1 ha _ (List.getElem_mem _)
      have hg : ∀ i, i < 32 → p.getD i 0 = 16 * hexN (s.getD (2 * i) 0) + hexN (s.getD (2 * i + 1) 0) := fun i hi => by
        rw [← hp, getD_lt (by simp; omega)]; simp
      have hh : ∀ k, k < 64 → hexD (hexN (s.getD k 0)) = s.getD k 0 := fun k hk => by
        have hv := hv k hk
        obtain ⟨j, hj, e⟩ := byte_ex (s.getD k 0)
        rw [e] at hv ⊢
        exact hex_forth j hj hv
      have hl : (hexS p).length = 64 := hexTo_len p 32
      apply List.ext_getElem (by rw [hl, hs])
      intro k h1 h2
      rw [← getD_lt (d := 0) h1, ← getD_lt (d := 0) h2]
      obtain ⟨g1, g2⟩ := hexTo_get p 32 (k / 2) (by omega)
      obtain ⟨x, hx, ex⟩ := nib_ex (s.getD (2 * (k / 2)) 0)
      obtain ⟨y, hy, ey⟩ := nib_ex (s.getD (2 * (k / 2) + 1) 0)
      obtain ⟨d1, d2⟩ := nib_div x hx y hy
      rw [hg _ (by omega), ex, ey, d1, ← ex, hh _ (by omega)] at g1
      rw [hg _ (by omega), ex, ey, d2, ← ey, hh _ (by omega)] at g2
      by_cases o : k % 2 = 0
      · rw [show 2 * (k / 2) = k by omega] at g1
        exact g1
      · rw [show 2 * (k / 2) + 1 = k by omega] at g2
        exact g2
    · rw [if_neg ha] at h; exact absurd h (by omega)
  · rw [(par_short s hs).2] at h; exact absurd h (by omega)
def DigestReturns_P (d _ : List UInt8) : Bool := decide (d.length = 32)
def DigestReturns_r (_ _ : List UInt8) : Bool := true
theorem DigestReturns_plain (d s : List UInt8) (h : DigestReturns_P d s = true) : ∃ F, ∀ {X : Type} (fail : X) (ret : Bool → X), DigestReturns F d s fail ret = ret (DigestReturns_r d s) := ⟨0, fun fail ret => by
  obtain ⟨p1, p2, p3⟩ := par_hex d (of_decide_eq_true h)
  unfold DigestReturns
  by_cases h1 : (s.length : Int) > 1000
  · rw [bif_true (tt h1)]; rfl
  rw [bif_false (ff h1), bif_true (c := dHex_P d) rfl, bif_true (c := dParse_P (dHex_r d)) rfl]
  rw [bif_false (bne_f (show dParse_r1 (dHex_r d) = 0 from p2)), show dParse_r0 (dHex_r d) = d from p1, beqT_u8, tt rfl, bif_false (c := !true) rfl, bif_true (c := dHex_P d) rfl, bif_false (bne_f (show (((dHex_r d).length : Nat) : Int) = 64 by rw [show (dHex_r d).length = 64 from p3]; rfl)), bif_true (c := dParse_P s) rfl, bif_true awk_true]
  by_cases h2 : dParse_r1 s = 0
  · rw [bif_false (bne_f h2), bif_true (c := dHex_P (dParse_r0 s)) rfl, show dHex_r (dParse_r0 s) = s from hex_par s h2, beq_iff_eq.2 rfl]; rfl
  · rw [bif_true (bne_t h2)]; rfl⟩
end Go.AI
