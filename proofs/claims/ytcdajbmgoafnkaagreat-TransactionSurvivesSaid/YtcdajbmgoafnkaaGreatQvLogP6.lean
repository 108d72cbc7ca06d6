/- Texts of the proof, joined: LogP6. Names of our own are shortened by program; the long ones stand in wip/. -/
import Derived.Test.YtcdajbmgoafnkaaGreatQvLogP5
namespace Go.AI
open Go
theorem Js1 {l : List Jbe} (h : Jqr l = true) (n : Nat) : Jqr (l.drop n) = true := by
 unfold Jqr at h ⊢
 rw [List.all_eq_true] at h ⊢
 exact fun x hx => h x (List.mem_of_mem_drop hx)
theorem K30 {s : List Jbe} (h : Jqr s = true) (k : Nat) {p : Jbe} (hp : p.length = 16) : Jqr (s.set k p) = true := by
 unfold Jqr at h ⊢
 rw [List.all_eq_true] at h ⊢
 intro x hx
 rcases List.mem_or_eq_of_mem_set hx with hx | rfl
 ·exact h x hx
 ·exact tt hp
theorem K5y : ∀ (l : List Jl9) {s : List Jbe}, Jqr s = true → (l.all fun p => decide (p.2.1.length = 16)) = true → Jqr (Kp4 s l) = true
 | [], _, h, _ => h
 | p :: l, s, h, hl => by
  rw [List.all_cons, Bool.and_eq_true, decide_eq_true_eq] at hl
  exact K5y l (K30 h p.1.toNat hl.1) hl.2
theorem Qae {d : DK} (h : K9r d = true) : Jqr (Jvi d) = true := by
 unfold K9r at h
 rw [Bool.and_eq_true] at h
 exact K5y d.2.1 h.1 h.2
theorem Khe : ∀ (n : Nat) (l : List Jbe) (num : Int), (Jjk n l num).2.length ≤ l.length ∧ (Jjk n l num).1.length ≤ l.length
 | 0, l, _ => ⟨Nat.le_refl _, Nat.zero_le _⟩
 | n + 1, l, num => by
  rw [Jjk]
  cases e : Jyn l num with
  | none => exact ⟨Nat.le_refl _, Nat.zero_le _⟩
  | some br =>
   obtain ⟨b, r⟩ := br
   have := Kyu e
   obtain ⟨h1, h2⟩ := Khe n r (num + 1)
   exact ⟨by show (Jjk n r (num + 1)).2.length ≤ _; omega, by show (Jjk n r (num + 1)).1.length + 1 ≤ _; omega⟩
theorem Khf (l : List Jbe) (f : Int) : (J6s l f).2.length ≤ l.length ∧ (J6s l f).1.length ≤ l.length := by
 unfold J6s
 split
 ·exact Khe _ _ _
 ·exact ⟨Nat.le_refl _, Nat.zero_le _⟩
theorem K31 {d : DK} (h : okD d = true) : K22 d 0 (d.1.length : Int) = Jvi d ∧ Ksu d 0 (d.1.length : Int) = 0 := by
 have hf : Ka6 d 0 (d.1.length : Int) = true := tt (by omega)
 unfold K22 Ksu
 rw [h, hf]
 refine ⟨?_, rfl⟩
 show ((Jvi d).drop 0).take (d.1.length : Int).toNat = _
 rw [List.drop_zero, Int.toNat_natCast, List.take_of_length_le (by rw [Jyv]; exact Nat.le_refl _)]
theorem Kyy {d : DK} : okD d = true ↔ Kp5 d = 0 := by
 unfold Kp5
 cases okD d <;> simp
theorem Ktj {d : DK} (h1 : Jma d = true) (h2 : K9r d = true) (hk : okD d = true) (h : 2 ≤ d.1.length) :
  List.take ((Jvi d).length - 1) (List.drop 1 (Jvi d)) = (Jvi d).tail ∧ Jyo (Jvi d).tail 1 = true ∧ (Jvi d).length = d.1.length ∧ d.1.length ≤ 8192 := by
 have hl : (Jvi d).length = d.1.length := Jyv d
 have hs := Jez.1 h1
 have h8 : d.1.length ≤ 8192 := by
  unfold okD at hk
  rw [Bool.and_eq_true, decide_eq_true_eq] at hk
  exact hk.1.2
 refine ⟨by rw [List.drop_one, List.take_of_length_le (by rw [List.length_tail]; exact Nat.le_refl _)], ?_, hl, h8⟩
 unfold Jyo
 rw [← List.drop_one, Js1 (Qae h2), tt (by rw [List.length_drop]; omega)]; rfl
theorem Kmu (d : DK) (h : Jjl d = true) : ∃ F, ∀ {X : Type} (fail : X) (ret : Jfp → List Bys → Int → X), K7a F d fail ret = ret (Joi d) (Jmd d) (Jme d) := ⟨0, fun fail ret => by
 unfold Jjl at h
 rw [Bool.and_eq_true] at h
 unfold K7a Joi Jmd Jme opL opB Jed Jr8
 rw [Jaa (c := Ka9 _ _ _) h.1]
 cases hk : okD d with
 | false =>
  have he : Ksu d 0 (d.1.length : Int) = 2 := by unfold Ksu; rw [hk]; rfl
  have ho : opE d = 2 := by unfold opE Kp5; rw [hk]; rfl
  rw [he, ho]; rfl
 | true =>
  obtain ⟨r1, r2⟩ := K31 hk
  have hc := Kyy.1 hk
  have hl : (Jvi d).length = d.1.length := Jyv d
  rw [r1, r2, Jab (c := (0 : Int) != 0) rfl]
  have ho : opE d = if d.1.length < 2 then 2 else if (Jvi d).getD 0 z16 = Jhr then 0 else 3 := if_pos hc
  by_cases c1 : d.1.length < 2
  ·rw [if_pos c1] at ho
   rw [Jaa (tt (by omega)), ho]; rfl
  rw [if_neg c1] at ho
  obtain ⟨p1, p2, p3, p4⟩ := Ktj h.1 h.2 hk (by omega)
  have hsl := Khf (Jvi d).tail 1
  rw [List.length_tail] at hsl
  rw [Jab (ff (by omega)), Jaa (tt (by omega)), Jaa (c := J3l) rfl, K27 (.arr 16 (.int .u8)) rfl, show Jym = Jhr from rfl]
  by_cases c2 : (Jvi d).getD 0 z16 = Jhr
  ·rw [if_pos c2] at ho
   have ha : Jay 1 (Jj6 (Jvi d).tail 1) = 1 + Jj6 (Jvi d).tail 1 := by
    unfold Jj6
    rw [Jam]
    ·rw [List.length_tail]; omega
    ·rw [List.length_tail]; omega
   refine Jmh (by rw [tt c2]; rfl) (Jd5 (tt (by omega)) ?_)
   rw [p1, p2, cond_true, ho, if_pos rfl, if_pos rfl, ha, hl]; rfl
  ·rw [if_neg c2] at ho
   refine Jd5 (by rw [ff c2]; rfl) ?_
   rw [ho]; rfl⟩
end Go.AI
