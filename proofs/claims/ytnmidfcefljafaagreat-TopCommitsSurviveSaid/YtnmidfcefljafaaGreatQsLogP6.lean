/- Texts of the proof, joined: LogP6. Names of our own are shortened by program; the long ones stand in wip/. -/
import Derived.Test.YtnmidfcefljafaaGreatQsLogP5
namespace Go.AI
open Go
theorem Jsg {l : List Ja4} (h : Jp8 l = true) (n : Nat) : Jp8 (l.drop n) = true := by
 unfold Jp8 at h ⊢
 rw [List.all_eq_true] at h ⊢
 exact fun x hx => h x (List.mem_of_mem_drop hx)
theorem K2m {s : List Ja4} (h : Jp8 s = true) (k : Nat) {p : Ja4} (hp : p.length = 16) : Jp8 (s.set k p) = true := by
 unfold Jp8 at h ⊢
 rw [List.all_eq_true] at h ⊢
 intro x hx
 rcases List.mem_or_eq_of_mem_set hx with hx | rfl
 ·exact h x hx
 ·exact tt hp
theorem K4g : ∀ (l : List Jlq) {s : List Ja4}, Jp8 s = true → (l.all fun p => decide (p.2.1.length = 16)) = true → Jp8 (Kpd s l) = true
 | [], _, h, _ => h
 | p :: l, s, h, hl => by
  rw [List.all_cons, Bool.and_eq_true, decide_eq_true_eq] at hl
  exact K4g l (K2m h p.1.toNat hl.1) hl.2
theorem K81 {d : DK} (h : K8e d = true) : Jp8 (Jut d) = true := by
 unfold K8e at h
 rw [Bool.and_eq_true] at h
 exact K4g d.2.1 h.1 h.2
theorem Kgp : ∀ (n : Nat) (l : List Ja4) (num : Int), (Ji6 n l num).2.length ≤ l.length ∧ (Ji6 n l num).1.length ≤ l.length
 | 0, l, _ => ⟨Nat.le_refl _, Nat.zero_le _⟩
 | n + 1, l, num => by
  rw [Ji6]
  cases e : Jx2 l num with
  | none => exact ⟨Nat.le_refl _, Nat.zero_le _⟩
  | some br =>
   obtain ⟨b, r⟩ := br
   have := Kxs e
   obtain ⟨h1, h2⟩ := Kgp n r (num + 1)
   exact ⟨by show (Ji6 n r (num + 1)).2.length ≤ _; omega, by show (Ji6 n r (num + 1)).1.length + 1 ≤ _; omega⟩
theorem Kgq (l : List Ja4) (f : Int) : (J5x l f).2.length ≤ l.length ∧ (J5x l f).1.length ≤ l.length := by
 unfold J5x
 split
 ·exact Kgp _ _ _
 ·exact ⟨Nat.le_refl _, Nat.zero_le _⟩
theorem K2n {d : DK} (h : okD d = true) : K1n d 0 (d.1.length : Int) = Jut d ∧ Krx d 0 (d.1.length : Int) = 0 := by
 have hf : Kac d 0 (d.1.length : Int) = true := tt (by omega)
 unfold K1n Krx
 rw [h, hf]
 refine ⟨?_, rfl⟩
 show ((Jut d).drop 0).take (d.1.length : Int).toNat = _
 rw [List.drop_zero, Int.toNat_natCast, List.take_of_length_le (by rw [Jyc]; exact Nat.le_refl _)]
theorem Kxw {d : DK} : okD d = true ↔ Kpe d = 0 := by
 unfold Kpe
 cases okD d <;> simp
theorem Ksm {d : DK} (h1 : Jlr d = true) (h2 : K8e d = true) (hk : okD d = true) (h : 2 ≤ d.1.length) :
  List.take ((Jut d).length - 1) (List.drop 1 (Jut d)) = (Jut d).tail ∧ Jx3 (Jut d).tail 1 = true ∧ (Jut d).length = d.1.length ∧ d.1.length ≤ 8192 := by
 have hl : (Jut d).length = d.1.length := Jyc d
 have hs := Jen.1 h1
 have h8 : d.1.length ≤ 8192 := by
  unfold okD at hk
  rw [Bool.and_eq_true, decide_eq_true_eq] at hk
  exact hk.1.2
 refine ⟨by rw [List.drop_one, List.take_of_length_le (by rw [List.length_tail]; exact Nat.le_refl _)], ?_, hl, h8⟩
 unfold Jx3
 rw [← List.drop_one, Jsg (K81 h2), tt (by rw [List.length_drop]; omega)]; rfl
theorem Kl7 (d : DK) (h : Ji7 d = true) : ∃ F, ∀ {X : Type} (fail : X) (ret : Jf5 → List Bys → Int → X), K5u F d fail ret = ret (Jnz d) (Jlv d) (Jlw d) := ⟨0, fun fail ret => by
 unfold Ji7 at h
 rw [Bool.and_eq_true] at h
 unfold K5u Jnz Jlv Jlw opL opB Jdx Jro
 rw [Jaa (c := Kaf _ _ _) h.1]
 cases hk : okD d with
 | false =>
  have he : Krx d 0 (d.1.length : Int) = 2 := by unfold Krx; rw [hk]; rfl
  have ho : opE d = 2 := by unfold opE Kpe; rw [hk]; rfl
  rw [he, ho]; rfl
 | true =>
  obtain ⟨r1, r2⟩ := K2n hk
  have hc := Kxw.1 hk
  have hl : (Jut d).length = d.1.length := Jyc d
  rw [r1, r2, Jab (c := (0 : Int) != 0) rfl]
  have ho : opE d = if d.1.length < 2 then 2 else if (Jut d).getD 0 z16 = Jhe then 0 else 3 := if_pos hc
  by_cases c1 : d.1.length < 2
  ·rw [if_pos c1] at ho
   rw [Jaa (tt (by omega)), ho]; rfl
  rw [if_neg c1] at ho
  obtain ⟨p1, p2, p3, p4⟩ := Ksm h.1 h.2 hk (by omega)
  have hsl := Kgq (Jut d).tail 1
  rw [List.length_tail] at hsl
  rw [Jab (ff (by omega)), Jaa (tt (by omega)), Jaa (c := J2x) rfl, K1t (.arr 16 (.int .u8)) rfl, show Jx1 = Jhe from rfl]
  by_cases c2 : (Jut d).getD 0 z16 = Jhe
  ·rw [if_pos c2] at ho
   have ha : Jat 1 (Jjp (Jut d).tail 1) = 1 + Jjp (Jut d).tail 1 := by
    unfold Jjp
    rw [Jar]
    ·rw [List.length_tail]; omega
    ·rw [List.length_tail]; omega
   refine Jl0 (by rw [tt c2]; rfl) (Jdo (tt (by omega)) ?_)
   rw [p1, p2, cond_true, ho, if_pos rfl, if_pos rfl, ha, hl]; rfl
  ·rw [if_neg c2] at ho
   refine Jdo (by rw [ff c2]; rfl) ?_
   rw [ho]; rfl⟩
end Go.AI
