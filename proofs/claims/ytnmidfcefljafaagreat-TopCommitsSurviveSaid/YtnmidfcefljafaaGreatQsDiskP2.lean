/- Texts of the proof, joined: DiskP2. Names of our own are shortened by program; the long ones stand in wip/. -/
import Derived.Test.YtnmidfcefljafaaGreatQsDiskP
namespace Go.AI
open Go
theorem Kfs {α : Type} {f : α → α → Bool} (hf : ∀ a b, f a b = true ↔ a = b) : ∀ a b : List α, Kjo f a b = true ↔ a = b
 | [], [] => by simp [Kjo]
 | [], _ :: _ => by simp [Kjo]
 | _ :: _, [] => by simp [Kjo]
 | a :: l, b :: m => by simp only [Kjo, Bool.and_eq_true, hf, Kfs hf l m, List.cons.injEq]
theorem Joe : ∀ (s : Sch), s.comparable = true → ∀ a b : s.T, Jcu s a b = true ↔ a = b
 | .int k, _, a, b => by
  show (toI k a == toI k b) = true ↔ _
  rw [beq_iff_eq]; exact ⟨Kkj k, fun h => by rw [h]⟩
 | .bool, _, a, b => by show ((a : Bool) == b) = true ↔ _; exact beq_iff_eq
 | .str, _, a, b => by show ((a : List UInt8) == b) = true ↔ _; exact beq_iff_eq
 | .slc _, h, _, _ => by cases h
 | .arr _ s, h, a, b => Kfs (Joe s h) a b
 | .pair s t, h, a, b => by
  have h : s.comparable = true ∧ t.comparable = true := by simpa [Sch.comparable] using h
  show (Jcu s a.1 b.1 && Jcu t a.2 b.2) = true ↔ _
  rw [Bool.and_eq_true, Joe s h.1, Joe t h.2]
  exact ⟨fun e => Prod.ext e.1 e.2, fun e => by rw [e]; exact ⟨rfl, rfl⟩⟩
 | .unit, _, a, b => by show true = true ↔ _; simp
theorem K1t (s : Sch) (h : s.comparable = true) (a b : s.T) [Decidable (a = b)] : Jcu s a b = decide (a = b) := by
 cases e : Jcu s a b with
 | true => rw [tt ((Joe s h a b).1 e)]
 | false => rw [ff (fun c => by rw [(Joe s h a b).2 c] at e; cases e)]
theorem Ka8 : ∀ (l : List Ja4) (a : Int), (wrS a l).length = l.length
 | [], _ => rfl
 | _ :: l, a => by rw [wrS, List.length_cons, Ka8 l, List.length_cons]
theorem Kpq : ∀ (l : List Ja4) (a : Int) (p : Ja4), wrS a (l ++ [p]) = wrS a l ++ [(a + l.length, (p, ()))]
 | [], a, p => by simp [wrS]
 | x :: l, a, p => by
  rw [List.cons_append, wrS, Kpq l (a + 1) p, wrS, List.cons_append, List.length_cons]
  congr 4; omega
theorem K3y {n : Nat} : ∀ (l : List Ja4) (a : Int), 0 ≤ a → a + l.length ≤ n → okP n (wrS a l) = true
 | [], _, _, _ => rfl
 | x :: l, a, h0, h1 => by
  rw [List.length_cons] at h1
  rw [wrS, Kpn, tt (show 0 ≤ a ∧ a < n by omega), K3y l (a + 1) (by omega) (by omega)]; rfl
theorem K5w (n : Nat) (a b : List Jlq) : okP n (a ++ b) = (okP n a && okP n b) := by simp [okP, List.all_append]
theorem Kwq : ∀ {l : List DOp} {op : DOp}, op ∈ l → op.2.2.1.length ≤ Kad l
 | x :: l, op, h => by
  show _ ≤ x.2.2.1.length + Kad l
  rcases List.mem_cons.1 h with rfl | h
  ·omega
  ·have := Kwq h; omega
theorem K1u (l : List DOp) (i : Nat) (h : i < l.length) (o : DOp) : Kad (l.drop i) = (l.getD i o).2.2.1.length + Kad (l.drop (i + 1)) := by
 rw [Jcz o h]; rfl
theorem Kwr {d : DK} (h : okD d = true) (op : DOp) : (Jjg d op).2 = 0 → okD (Jjg d op).1 = true ∧ (Jjg d op).1.1.length = d.1.length ∧ (Jjg d op).1.2.1.length ≤ d.2.1.length + op.2.2.1.length := by
 have hok := Jod.1 h
 unfold Jjg
 split
 ·split
  ·rename_i hf
   have hf := Kle.1 hf
   intro _
   refine ⟨Jod.2 ⟨hok.1, ?_⟩, rfl, by rw [List.length_append, Ka8]; exact Nat.le_refl _⟩
   rw [K5w, hok.2, K3y _ _ hf.1 hf.2.2]; rfl
  ·intro h; cases h
 ·split
  ·intro _
   have hc := Jyc d
   exact ⟨Jod.2 ⟨by rw [hc]; exact hok.1, rfl⟩, hc, Nat.zero_le _⟩
  ·intro h; cases h
theorem Kws {X : Type} (F : Nat) (fail : X) (ex : List Ja4 → Int → Int → List DOp → Int → Int → Int → List DOp → Int → Int → List Ja4 → List Jlq → DOp → DK → X) (l : List DOp) (s5 s6 i : Int) (s22 : List DOp) (s23 s24 : Int) (h1 : List Ja4) (h2 : List Jlq) (op : DOp) (s4 : DK) (ha : 0 ≤ op.2.1 ∧ op.2.1 ≤ 1000000) (hl : op.2.2.1.length + h2.length ≤ 100000000) : ∀ (j m k : Nat), k + j = op.2.2.1.length → j ≤ m →
  Jrv F fail ex (m + 1) op.2.2.1 (op.2.2.1.length : Nat) k l s5 s6 i s22 s23 s24 h1 (h2 ++ wrS op.2.1 (op.2.2.1.take k)) op s4 = ex op.2.2.1 (op.2.2.1.length : Nat) (op.2.2.1.length : Nat) l s5 s6 i s22 s23 s24 h1 (h2 ++ wrS op.2.1 op.2.2.1) op s4
 | 0, m, k, hi, _ => by
  have e : k = op.2.2.1.length := by omega
  subst e
  rw [Jrv, Kam]
  rw [Jab (ff (by omega)), List.take_length]
 | j + 1, 0, k, _, hm => absurd hm (by omega)
 | j + 1, m + 1, k, hi, hm => by
  have ih := Kws F fail ex l s5 s6 i s22 s23 s24 h1 h2 op s4 ha hl j m (k + 1) (by omega) (by omega)
  rw [Jrv, Kam]
  rw [Jhm _ k z16 (by omega), Kpq, ← List.append_assoc, List.length_take, Nat.min_eq_left (by omega)] at ih
  have hlen : (h2 ++ wrS op.2.1 (op.2.2.1.take k) ++ [(op.2.1 + (k : Int), (op.2.2.1.getD k z16, ()))]).length ≤ 2147483648 := by
   rw [List.length_append, List.length_append, Ka8, List.length_take]; simp only [List.length_cons, List.length_nil]; omega
  rw [Int.toNat_natCast, Jaa (tt (by omega)), Jaa (tt2 (by omega) (by omega)), Jar (a := op.2.1) (by omega) (by omega), Jaa (Jds hlen), Jar (by omega) (by omega)]
  exact ih
theorem K8i (d : DK) (i : Int) : goD d [] i = (d, (i, 0)) := rfl
theorem Kli (d : DK) (op : DOp) (l : List DOp) (i : Int) : goD d (op :: l) i = if (Jjg d op).2 = 0 then goD (Jjg d op).1 l (i + 1) else (dk0, (i, (Jjg d op).2)) := rfl
theorem Kpr {X : Type} (F : Nat) (fail : X) (ret : DK → Int → Int → X) (ex0 ex1 : List DOp → Int → Int → List DOp → Int → Int → DK → List Ja4 → List Jlq → X) (l : List DOp) (hF : ∀ op, op ∈ l → op.2.2.1.length < F) (hl : l.length ≤ 1000000)
  (h0 : ∀ (i : Nat) e a b, ex0 l i e l (l.length : Nat) i dk0 a b = ret dk0 i e) (h1 : ∀ s5 s6 (j : Nat) s4 a b, ex1 l s5 s6 l (l.length : Nat) j s4 a b = ret (a, (b, ())) (l.length : Nat) 0) : ∀ (j m i : Nat) (s5 s6 : Int) (s4 d : DK), i + j = l.length → j ≤ m → okD d = true → d.2.1.length + Kad (l.drop i) ≤ 20000000 →
  Jn2 F fail ex0 ex1 (m + 1) l s5 s6 l (l.length : Nat) i s4 d.1 d.2.1 = ret (goD d (l.drop i) i).1 (goD d (l.drop i) i).2.1 (goD d (l.drop i) i).2.2
 | 0, m, i, s5, s6, s4, d, hi, _, hd, hs => by
  have e : i = l.length := by omega
  subst e
  rw [Jn2, Kan]
  rw [Jab (ff (by omega)), h1, List.drop_length, K8i]
 | j + 1, 0, i, _, _, _, _, _, hm, _, _ => absurd hm (by omega)
 | j + 1, m + 1, i, s5, s6, s4, d, hi, hm, hd, hs => by
  have ih := fun (d' : DK) (h : okD d' = true) (h' : d'.2.1.length + Kad (l.drop (i + 1)) ≤ 20000000) => Kpr F fail ret ex0 ex1 l hF hl h0 h1 j m (i + 1) s5 s6 s4 d' (by omega) (by omega) h h'
  have hok := Jod.1 hd
  rw [Jn2, Kan]
  rw [K1u l i (by omega) ((0 : Int), ((0 : Int), (([] : List (List UInt8)), ())))] at hs
  rw [Int.toNat_natCast, Jaa (tt (by omega)), Jaa (tt2 (by omega) (by omega)), Jcz ((0 : Int), ((0 : Int), (([] : List (List UInt8)), ()))) (show i < l.length by omega), Kli]
  have hFo := hF (l.getD i ((0 : Int), ((0 : Int), (([] : List (List UInt8)), ())))) (by rw [Jem (show i < l.length by omega)]; exact List.getElem_mem _)
  generalize l.getD i ((0 : Int), ((0 : Int), (([] : List (List UInt8)), ()))) = op at hs hFo ⊢
  have hst := Kwr hd op
  have hsm : Jlr d = true := Jen.2 (by omega)
  by_cases k0 : op.1 = 0
  ·rw [Jaa (c := decide (op.1 ≥ 0)) (tt (by omega)), Jaa (tt (by omega)), Jaa (tt2 (by omega) (by omega)), Jaa (c := Nat.beq op.1.toNat 0) (by rw [k0]; rfl), Jaa (c := Jxy (d.1, (d.2.1, ())) _ _) hsm]
   cases hf : Kac d op.2.1 op.2.2.1.length with
   | false =>
    rw [Jaa (c := !(Jp0 (d.1, (d.2.1, ())) _ _)) (by show (!(Kac d op.2.1 op.2.2.1.length)) = true; rw [hf]; rfl)]
    have e : Jjg d op = (dk0, 2) := by unfold Jjg; rw [if_pos k0, if_neg (by rw [hf]; decide)]
    rw [e, if_neg (by decide)]
    exact h0 i 2 d.1 d.2.1
   | true =>
    have hfi := Kle.1 hf
    rw [Jab (c := !(Jp0 (d.1, (d.2.1, ())) _ _)) (by show (!(Kac d op.2.1 op.2.2.1.length)) = false; rw [hf]; rfl)]
    have e : Jjg d op = ((d.1, (d.2.1 ++ wrS op.2.1 op.2.2.1, ())), 0) := by unfold Jjg; rw [if_pos k0, if_pos hf]
    obtain ⟨q1, q2, q3⟩ := hst (by rw [e])
    rw [e] at q1 q2 q3 ⊢
    rw [if_pos rfl]
    obtain ⟨M, rfl⟩ : ∃ M, F = M + 1 := ⟨F - 1, by omega⟩
    have hw := Kws (M + 1) fail (fun _ _ _ l1 s51 s61 _ s221 s231 s241 h1 h21 _ s41 => Jn2 (M + 1) fail ex0 ex1 (m + 1) l1 s51 s61 s221 s231 (Jat s241 1) s41 h1 h21) l s5 s6 (i : Int) l (l.length : Nat) (i : Int) d.1 d.2.1 op s4 (by omega) (by omega) op.2.2.1.length M 0 (by omega) (by omega)
    rw [List.take_zero, wrS, List.append_nil] at hw
    refine hw.trans ?_
    rw [Jar (by omega) (by omega), Jwc]
    exact ih (d.1, (d.2.1 ++ wrS op.2.1 op.2.2.1, ())) q1 (by show (d.2.1 ++ wrS op.2.1 op.2.2.1).length + _ ≤ _; rw [List.length_append, Ka8]; omega)
  ·by_cases k1 : op.1 = 1
   ·rw [Jaa (c := decide (op.1 ≥ 0)) (tt (by omega)), Jaa (tt (by omega)), Jaa (tt2 (by omega) (by omega)), Jab (c := Nat.beq op.1.toNat 0) (by rw [k1]; rfl), Jaa (c := Nat.beq op.1.toNat 1) (by rw [k1]; rfl), Jaa (c := Jg1 (d.1, (d.2.1, ()))) (by show (Jlr d && okP d.1.length d.2.1) = true; rw [hsm, hok.2]; rfl)]
    have e : Jjg d op = ((Jut d, ([], ())), 0) := by unfold Jjg; rw [if_neg k0, if_pos k1]
    obtain ⟨q1, q2, q3⟩ := hst (by rw [e])
    rw [e] at q1 q2 q3 ⊢
    rw [if_pos rfl, Jar (by omega) (by omega), Jwc]
    exact ih (Jut d, ([], ())) q1 (by show 0 + _ ≤ _; omega)
   ·have e : Jjg d op = (dk0, 1) := by unfold Jjg; rw [if_neg k0, if_neg k1]
    rw [e, if_neg (by decide)]
    by_cases k2 : op.1 ≥ 0
    ·rw [Jaa (tt k2), Jab (ff (by omega))]
     exact h0 i 1 d.1 d.2.1
    ·rw [Jab (ff k2)]
     exact h0 i 1 d.1 d.2.1
theorem Jt4 {d : DK} {l : List DOp} : Ktz d l = true ↔ d.1.length ≤ 1000000 ∧ d.2.1.length ≤ 10000000 ∧ l.length ≤ 1000000 ∧ Kad l ≤ 10000000 := by simp only [Ktz, decide_eq_true_eq]
theorem Kr5 (d : DK) (l : List DOp) (h : Jvr d l = true) : ∃ F, ∀ {X : Type} (fail : X) (ret : DK → Int → Int → X), dRun F d l fail ret = ret (Jdl d l) (Kks d l) (Jh8 d l) := ⟨l.length + Kad l + 1, fun fail ret => by
 have h := Jt4.1 h
 unfold dRun Jdl Kks Jh8 Jo3 Jes
 rw [Jaa (c := Jil d) (Jen.2 (by omega))]
 cases hk : okD d with
 | false => rw [Ka6 hk]; rfl
 | true =>
  rw [Kpp hk, Jab (Jhl rfl), Jaa (c := Jho d.1) (tt (by omega)), Jaa (c := Jvq d.2.1) (tt (by omega)), if_pos rfl]
  exact Kpr (l.length + Kad l + 1) fail ret _ _ l (fun op hop => by have := Kwq hop; omega) h.2.2.1 (fun _ _ _ _ => rfl) (fun _ _ _ _ _ _ => rfl) l.length _ 0 0 0 _ d (by omega) (by omega) hk (by rw [List.drop_zero]; omega)⟩
end Go.AI
