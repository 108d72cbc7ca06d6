/- Texts of the proof, joined: LogP6. Names of our own are shortened by program; the long ones stand in wip/. -/
import Derived.Test.YtcdajbmgoafnkaaGreatQwLogP5
namespace Go.AI
open Go
theorem Juu {l : List Ja7} (h : Jr1 l = true) (n : Nat) : Jr1 (l.drop n) = true := by
 unfold Jr1 at h ⊢
 rw [List.all_eq_true] at h ⊢
 exact fun x hx => h x (List.mem_of_mem_drop hx)
theorem Qby {s : List Ja7} (h : Jr1 s = true) (k : Nat) {p : Ja7} (hp : p.length = 16) : Jr1 (s.set k p) = true := by
 unfold Jr1 at h ⊢
 rw [List.all_eq_true] at h ⊢
 intro x hx
 rcases List.mem_or_eq_of_mem_set hx with hx | rfl
 ·exact h x hx
 ·exact tt hp
theorem Qdz : ∀ (l : List Jwi) {s : List Ja7}, Jr1 s = true → (l.all fun p => decide (p.2.1.length = 16)) = true → Jr1 (Kwt s l) = true
 | [], _, h, _ => h
 | p :: l, s, h, hl => by
  rw [List.all_cons, Bool.and_eq_true, decide_eq_true_eq] at hl
  exact Qdz l (Qby h p.1.toNat hl.1) hl.2
theorem Qis {d : DK} (h : Qh1 d = true) : Jr1 (Jxd d) = true := by
 unfold Qh1 at h
 rw [Bool.and_eq_true] at h
 exact Qdz d.2.1 h.1 h.2
theorem Kmd : ∀ (n : Nat) (l : List Ja7) (num : Int), (Jj9 n l num).2.length ≤ l.length ∧ (Jj9 n l num).1.length ≤ l.length
 | 0, l, _ => ⟨Nat.le_refl _, Nat.zero_le _⟩
 | n + 1, l, num => by
  rw [Jj9]
  cases e : J0x l num with
  | none => exact ⟨Nat.le_refl _, Nat.zero_le _⟩
  | some br =>
   obtain ⟨b, r⟩ := br
   have := K6g e
   obtain ⟨h1, h2⟩ := Kmd n r (num + 1)
   exact ⟨by show (Jj9 n r (num + 1)).2.length ≤ _; omega, by show (Jj9 n r (num + 1)).1.length + 1 ≤ _; omega⟩
theorem Kme (l : List Ja7) (f : Int) : (Kag l f).2.length ≤ l.length ∧ (Kag l f).1.length ≤ l.length := by
 unfold Kag
 split
 ·exact Kmd _ _ _
 ·exact ⟨Nat.le_refl _, Nat.zero_le _⟩
theorem Qbz {d : DK} (h : okD d = true) : Qaw d 0 (d.1.length : Int) = Jxd d ∧ Kzl d 0 (d.1.length : Int) = 0 := by
 have hf : Kfi d 0 (d.1.length : Int) = true := tt (by omega)
 unfold Qaw Kzl
 rw [h, hf]
 refine ⟨?_, rfl⟩
 show ((Jxd d).drop 0).take (d.1.length : Int).toNat = _
 rw [List.drop_zero, Int.toNat_natCast, List.take_of_length_le (by rw [J04]; exact Nat.le_refl _)]
theorem K6k {d : DK} : okD d = true ↔ Kwu d = 0 := by
 unfold Kwu
 cases okD d <;> simp
theorem K0h {d : DK} (h1 : Jrv d = true) (h2 : Qh1 d = true) (hk : okD d = true) (h : 2 ≤ d.1.length) :
  List.take ((Jxd d).length - 1) (List.drop 1 (Jxd d)) = (Jxd d).tail ∧ J0y (Jxd d).tail 1 = true ∧ (Jxd d).length = d.1.length ∧ d.1.length ≤ 8192 := by
 have hl : (Jxd d).length = d.1.length := J04 d
 have hs := Jie.1 h1
 have h8 : d.1.length ≤ 8192 := by
  unfold okD at hk
  rw [Bool.and_eq_true, decide_eq_true_eq] at hk
  exact hk.1.2
 refine ⟨by rw [List.drop_one, List.take_of_length_le (by rw [List.length_tail]; exact Nat.le_refl _)], ?_, hl, h8⟩
 unfold J0y
 rw [← List.drop_one, Juu (Qis h2), tt (by rw [List.length_drop]; omega)]; rfl
theorem Ksy (d : DK) (h : Ji1 d = true) : ∃ F, ∀ {X : Type} (fail : X) (ret : Jf6 → List Bys → Int → X), Qfi F d fail ret = ret (Jpr d) (Jfc d) (Jkv d) := ⟨0, fun fail ret => by
 unfold Ji1 at h
 rw [Bool.and_eq_true] at h
 unfold Qfi Jpr Jfc Jkv opL opB Jdy Jtp
 rw [Jaa (c := Kfj _ _ _) h.1]
 cases hk : okD d with
 | false =>
  have he : Kzl d 0 (d.1.length : Int) = 2 := by unfold Kzl; rw [hk]; rfl
  have ho : opE d = 2 := by unfold opE Kwu; rw [hk]; rfl
  rw [he, ho]; rfl
 | true =>
  obtain ⟨r1, r2⟩ := Qbz hk
  have hc := K6k.1 hk
  have hl : (Jxd d).length = d.1.length := J04 d
  rw [r1, r2, Jab (c := (0 : Int) != 0) rfl]
  have ho : opE d = if d.1.length < 2 then 2 else if (Jxd d).getD 0 z16 = Jh3 then 0 else 3 := if_pos hc
  by_cases c1 : d.1.length < 2
  ·rw [if_pos c1] at ho
   rw [Jaa (tt (by omega)), ho]; rfl
  rw [if_neg c1] at ho
  obtain ⟨p1, p2, p3, p4⟩ := K0h h.1 h.2 hk (by omega)
  have hsl := Kme (Jxd d).tail 1
  rw [List.length_tail] at hsl
  rw [Jab (ff (by omega)), Jaa (tt (by omega)), Jaa (c := J6p) rfl, Qa2 (.arr 16 (.int .u8)) rfl, show J0w = Jh3 from rfl]
  by_cases c2 : (Jxd d).getD 0 z16 = Jh3
  ·rw [if_pos c2] at ho
   have ha : Jag 1 (Jku (Jxd d).tail 1) = 1 + Jku (Jxd d).tail 1 := by
    unfold Jku
    rw [Jak]
    ·rw [List.length_tail]; omega
    ·rw [List.length_tail]; omega
   refine Jnp (by rw [tt c2]; rfl) (Jdp (tt (by omega)) ?_)
   rw [p1, p2, cond_true, ho, if_pos rfl, if_pos rfl, ha, hl]; rfl
  ·rw [if_neg c2] at ho
   refine Jdp (by rw [ff c2]; rfl) ?_
   rw [ho]; rfl⟩
end Go.AI
