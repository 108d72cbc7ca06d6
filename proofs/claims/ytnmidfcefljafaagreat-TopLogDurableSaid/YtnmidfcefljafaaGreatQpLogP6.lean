/- Texts of the proof, joined: LogP6. Names of our own are shortened by program; the long ones stand in wip/. -/
import Derived.Test.YtnmidfcefljafaaGreatQpLogP5
namespace Go.AI
open Go
theorem Jsu {l : List Ja4} (h : Jql l = true) (n : Nat) : Jql (l.drop n) = true := by
 unfold Jql at h ⊢
 rw [List.all_eq_true] at h ⊢
 exact fun x hx => h x (List.mem_of_mem_drop hx)
theorem K4n {s : List Ja4} (h : Jql s = true) (k : Nat) {p : Ja4} (hp : p.length = 16) : Jql (s.set k p) = true := by
 unfold Jql at h ⊢
 rw [List.all_eq_true] at h ⊢
 intro x hx
 rcases List.mem_or_eq_of_mem_set hx with hx | rfl
 ·exact h x hx
 ·exact tt hp
theorem K6d : ∀ (l : List Jlz) {s : List Ja4}, Jql s = true → (l.all fun p => decide (p.2.1.length = 16)) = true → Jql (Kq1 s l) = true
 | [], _, h, _ => h
 | p :: l, s, h, hl => by
  rw [List.all_cons, Bool.and_eq_true, decide_eq_true_eq] at hl
  exact K6d l (K4n h p.1.toNat hl.1) hl.2
theorem Qaz {d : DK} (h : Qad d = true) : Jql (Ju8 d) = true := by
 unfold Qad at h
 rw [Bool.and_eq_true] at h
 exact K6d d.2.1 h.1 h.2
theorem Khu : ∀ (n : Nat) (l : List Ja4) (num : Int), (Jjb n l num).2.length ≤ l.length ∧ (Jjb n l num).1.length ≤ l.length
 | 0, l, _ => ⟨Nat.le_refl _, Nat.zero_le _⟩
 | n + 1, l, num => by
  rw [Jjb]
  cases e : Jyi l num with
  | none => exact ⟨Nat.le_refl _, Nat.zero_le _⟩
  | some br =>
   obtain ⟨b, r⟩ := br
   have := Kzr e
   obtain ⟨h1, h2⟩ := Khu n r (num + 1)
   exact ⟨by show (Jjb n r (num + 1)).2.length ≤ _; omega, by show (Jjb n r (num + 1)).1.length + 1 ≤ _; omega⟩
theorem Khv (l : List Ja4) (f : Int) : (J62 l f).2.length ≤ l.length ∧ (J62 l f).1.length ≤ l.length := by
 unfold J62
 split
 ·exact Khu _ _ _
 ·exact ⟨Nat.le_refl _, Nat.zero_le _⟩
theorem K4o {d : DK} (h : okD d = true) : K3o d 0 (d.1.length : Int) = Ju8 d ∧ Ktr d 0 (d.1.length : Int) = 0 := by
 have hf : Kbm d 0 (d.1.length : Int) = true := tt (by omega)
 unfold K3o Ktr
 rw [h, hf]
 refine ⟨?_, rfl⟩
 show ((Ju8 d).drop 0).take (d.1.length : Int).toNat = _
 rw [List.drop_zero, Int.toNat_natCast, List.take_of_length_le (by rw [Jyq]; exact Nat.le_refl _)]
theorem Kzv {d : DK} : okD d = true ↔ Kq2 d = 0 := by
 unfold Kq2
 cases okD d <;> simp
theorem Kui {d : DK} (h1 : Jl0 d = true) (h2 : Qad d = true) (hk : okD d = true) (h : 2 ≤ d.1.length) :
  List.take ((Ju8 d).length - 1) (List.drop 1 (Ju8 d)) = (Ju8 d).tail ∧ Jyj (Ju8 d).tail 1 = true ∧ (Ju8 d).length = d.1.length ∧ d.1.length ≤ 8192 := by
 have hl : (Ju8 d).length = d.1.length := Jyq d
 have hs := Jdq.1 h1
 have h8 : d.1.length ≤ 8192 := by
  unfold okD at hk
  rw [Bool.and_eq_true, decide_eq_true_eq] at hk
  exact hk.1.2
 refine ⟨by rw [List.drop_one, List.take_of_length_le (by rw [List.length_tail]; exact Nat.le_refl _)], ?_, hl, h8⟩
 unfold Jyj
 rw [← List.drop_one, Jsu (Qaz h2), tt (by rw [List.length_drop]; omega)]; rfl
theorem Knj (d : DK) (h : Jeu d = true) : ∃ F, ∀ {X : Type} (fail : X) (ret : Jf9 → List Bys → Int → X), K7s F d fail ret = ret (Jod d) (Jl3 d) (Jl4 d) := ⟨0, fun fail ret => by
 unfold Jeu at h
 rw [Bool.and_eq_true] at h
 unfold K7s Jod Jl3 Jl4 opL opB Jd1 Jr2
 rw [Jaa (c := Kbp _ _ _) h.1]
 cases hk : okD d with
 | false =>
  have he : Ktr d 0 (d.1.length : Int) = 2 := by unfold Ktr; rw [hk]; rfl
  have ho : opE d = 2 := by unfold opE Kq2; rw [hk]; rfl
  rw [he, ho]; rfl
 | true =>
  obtain ⟨r1, r2⟩ := K4o hk
  have hc := Kzv.1 hk
  have hl : (Ju8 d).length = d.1.length := Jyq d
  rw [r1, r2, Jab (c := (0 : Int) != 0) rfl]
  have ho : opE d = if d.1.length < 2 then 2 else if (Ju8 d).getD 0 z16 = Jh2 then 0 else 3 := if_pos hc
  by_cases c1 : d.1.length < 2
  ·rw [if_pos c1] at ho
   rw [Jaa (tt (by omega)), ho]; rfl
  rw [if_neg c1] at ho
  obtain ⟨p1, p2, p3, p4⟩ := Kui h.1 h.2 hk (by omega)
  have hsl := Khv (Ju8 d).tail 1
  rw [List.length_tail] at hsl
  rw [Jab (ff (by omega)), Jaa (tt (by omega)), Jaa (c := J3v) rfl, K3u (.arr 16 (.int .u8)) rfl, show Jyh = Jh2 from rfl]
  by_cases c2 : (Ju8 d).getD 0 z16 = Jh2
  ·rw [if_pos c2] at ho
   have ha : Jar 1 (Jjy (Ju8 d).tail 1) = 1 + Jjy (Ju8 d).tail 1 := by
    unfold Jjy
    rw [Jao]
    ·rw [List.length_tail]; omega
    ·rw [List.length_tail]; omega
   refine Jl8 (by rw [tt c2]; rfl) (Jdt (tt (by omega)) ?_)
   rw [p1, p2, cond_true, ho, if_pos rfl, if_pos rfl, ha, hl]; rfl
  ·rw [if_neg c2] at ho
   refine Jdt (by rw [ff c2]; rfl) ?_
   rw [ho]; rfl⟩
end Go.AI
