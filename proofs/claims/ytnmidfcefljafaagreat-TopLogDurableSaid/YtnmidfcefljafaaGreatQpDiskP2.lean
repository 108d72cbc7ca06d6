/- Texts of the proof, joined: DiskP2. Names of our own are shortened by program; the long ones stand in wip/. -/
import Derived.Test.YtnmidfcefljafaaGreatQpDiskP
namespace Go.AI
open Go
theorem Kgx {α : Type} {f : α → α → Bool} (hf : ∀ a b, f a b = true ↔ a = b) : ∀ a b : List α, Kk0 f a b = true ↔ a = b
 | [], [] => by simp [Kk0]
 | [], _ :: _ => by simp [Kk0]
 | _ :: _, [] => by simp [Kk0]
 | a :: l, b :: m => by simp only [Kk0, Bool.and_eq_true, hf, Kgx hf l m, List.cons.injEq]
theorem Jou : ∀ (s : Sch), s.comparable = true → ∀ a b : s.T, Jct s a b = true ↔ a = b
 | .int k, _, a, b => by
  show (toI k a == toI k b) = true ↔ _
  rw [beq_iff_eq]; exact ⟨Klv k, fun h => by rw [h]⟩
 | .bool, _, a, b => by show ((a : Bool) == b) = true ↔ _; exact beq_iff_eq
 | .str, _, a, b => by show ((a : List UInt8) == b) = true ↔ _; exact beq_iff_eq
 | .slc _, h, _, _ => by cases h
 | .arr _ s, h, a, b => Kgx (Jou s h) a b
 | .pair s t, h, a, b => by
  have h : s.comparable = true ∧ t.comparable = true := by simpa [Sch.comparable] using h
  show (Jct s a.1 b.1 && Jct t a.2 b.2) = true ↔ _
  rw [Bool.and_eq_true, Jou s h.1, Jou t h.2]
  exact ⟨fun e => Prod.ext e.1 e.2, fun e => by rw [e]; exact ⟨rfl, rfl⟩⟩
 | .unit, _, a, b => by show true = true ↔ _; simp
theorem K3u (s : Sch) (h : s.comparable = true) (a b : s.T) [Decidable (a = b)] : Jct s a b = decide (a = b) := by
 cases e : Jct s a b with
 | true => rw [tt ((Jou s h a b).1 e)]
 | false => rw [ff (fun c => by rw [(Jou s h a b).2 c] at e; cases e)]
theorem Kci : ∀ (l : List Ja4) (a : Int), (wrS a l).length = l.length
 | [], _ => rfl
 | _ :: l, a => by rw [wrS, List.length_cons, Kci l, List.length_cons]
theorem Kre : ∀ (l : List Ja4) (a : Int) (p : Ja4), wrS a (l ++ [p]) = wrS a l ++ [(a + l.length, (p, ()))]
 | [], a, p => by simp [wrS]
 | x :: l, a, p => by
  rw [List.cons_append, wrS, Kre l (a + 1) p, wrS, List.cons_append, List.length_cons]
  congr 4; omega
theorem K5v {n : Nat} : ∀ (l : List Ja4) (a : Int), 0 ≤ a → a + l.length ≤ n → okP n (wrS a l) = true
 | [], _, _, _ => rfl
 | x :: l, a, h0, h1 => by
  rw [List.length_cons] at h1
  rw [wrS, Krb, tt (show 0 ≤ a ∧ a < n by omega), K5v l (a + 1) (by omega) (by omega)]; rfl
theorem K7v (n : Nat) (a b : List Jlz) : okP n (a ++ b) = (okP n a && okP n b) := by simp [okP, List.all_append]
theorem Kyp : ∀ {l : List DOp} {op : DOp}, op ∈ l → op.2.2.1.length ≤ Kbn l
 | x :: l, op, h => by
  show _ ≤ x.2.2.1.length + Kbn l
  rcases List.mem_cons.1 h with rfl | h
  ·omega
  ·have := Kyp h; omega
theorem K3v (l : List DOp) (i : Nat) (h : i < l.length) (o : DOp) : Kbn (l.drop i) = (l.getD i o).2.2.1.length + Kbn (l.drop (i + 1)) := by
 rw [Jcx o h]; rfl
theorem Kyq {d : DK} (h : okD d = true) (op : DOp) : (Jjo d op).2 = 0 → okD (Jjo d op).1 = true ∧ (Jjo d op).1.1.length = d.1.length ∧ (Jjo d op).1.2.1.length ≤ d.2.1.length + op.2.2.1.length := by
 have hok := Jot.1 h
 unfold Jjo
 split
 ·split
  ·rename_i hf
   have hf := Kmq.1 hf
   intro _
   refine ⟨Jot.2 ⟨hok.1, ?_⟩, rfl, by rw [List.length_append, Kci]; exact Nat.le_refl _⟩
   rw [K7v, hok.2, K5v _ _ hf.1 hf.2.2]; rfl
  ·intro h; cases h
 ·split
  ·intro _
   have hc := Jyq d
   exact ⟨Jot.2 ⟨by rw [hc]; exact hok.1, rfl⟩, hc, Nat.zero_le _⟩
  ·intro h; cases h
theorem Kyr {X : Type} (F : Nat) (fail : X) (ex : List Ja4 → Int → Int → List DOp → Int → Int → Int → List DOp → Int → Int → List Ja4 → List Jlz → DOp → DK → X) (l : List DOp) (s5 s6 i : Int) (s22 : List DOp) (s23 s24 : Int) (h1 : List Ja4) (h2 : List Jlz) (op : DOp) (s4 : DK) (ha : 0 ≤ op.2.1 ∧ op.2.1 ≤ 1000000) (hl : op.2.2.1.length + h2.length ≤ 100000000) : ∀ (j m k : Nat), k + j = op.2.2.1.length → j ≤ m →
  Jr9 F fail ex (m + 1) op.2.2.1 (op.2.2.1.length : Nat) k l s5 s6 i s22 s23 s24 h1 (h2 ++ wrS op.2.1 (op.2.2.1.take k)) op s4 = ex op.2.2.1 (op.2.2.1.length : Nat) (op.2.2.1.length : Nat) l s5 s6 i s22 s23 s24 h1 (h2 ++ wrS op.2.1 op.2.2.1) op s4
 | 0, m, k, hi, _ => by
  have e : k = op.2.2.1.length := by omega
  subst e
  rw [Jr9, Kbx]
  rw [Jab (ff (by omega)), List.take_length]
 | j + 1, 0, k, _, hm => absurd hm (by omega)
 | j + 1, m + 1, k, hi, hm => by
  have ih := Kyr F fail ex l s5 s6 i s22 s23 s24 h1 h2 op s4 ha hl j m (k + 1) (by omega) (by omega)
  rw [Jr9, Kbx]
  rw [Jhm _ k z16 (by omega), Kre, ← List.append_assoc, List.length_take, Nat.min_eq_left (by omega)] at ih
  have hlen : (h2 ++ wrS op.2.1 (op.2.2.1.take k) ++ [(op.2.1 + (k : Int), (op.2.2.1.getD k z16, ()))]).length ≤ 2147483648 := by
   rw [List.length_append, List.length_append, Kci, List.length_take]; simp only [List.length_cons, List.length_nil]; omega
  rw [Int.toNat_natCast, Jaa (tt (by omega)), Jaa (tt2 (by omega) (by omega)), Jao (a := op.2.1) (by omega) (by omega), Jaa (Jea hlen), Jao (by omega) (by omega)]
  exact ih
theorem Qag (d : DK) (i : Int) : goD d [] i = (d, (i, 0)) := rfl
theorem Kmu (d : DK) (op : DOp) (l : List DOp) (i : Int) : goD d (op :: l) i = if (Jjo d op).2 = 0 then goD (Jjo d op).1 l (i + 1) else (dk0, (i, (Jjo d op).2)) := rfl
theorem Krf {X : Type} (F : Nat) (fail : X) (ret : DK → Int → Int → X) (ex0 ex1 : List DOp → Int → Int → List DOp → Int → Int → DK → List Ja4 → List Jlz → X) (l : List DOp) (hF : ∀ op, op ∈ l → op.2.2.1.length < F) (hl : l.length ≤ 1000000)
  (h0 : ∀ (i : Nat) e a b, ex0 l i e l (l.length : Nat) i dk0 a b = ret dk0 i e) (h1 : ∀ s5 s6 (j : Nat) s4 a b, ex1 l s5 s6 l (l.length : Nat) j s4 a b = ret (a, (b, ())) (l.length : Nat) 0) : ∀ (j m i : Nat) (s5 s6 : Int) (s4 d : DK), i + j = l.length → j ≤ m → okD d = true → d.2.1.length + Kbn (l.drop i) ≤ 20000000 →
  Joj F fail ex0 ex1 (m + 1) l s5 s6 l (l.length : Nat) i s4 d.1 d.2.1 = ret (goD d (l.drop i) i).1 (goD d (l.drop i) i).2.1 (goD d (l.drop i) i).2.2
 | 0, m, i, s5, s6, s4, d, hi, _, hd, hs => by
  have e : i = l.length := by omega
  subst e
  rw [Joj, Kby]
  rw [Jab (ff (by omega)), h1, List.drop_length, Qag]
 | j + 1, 0, i, _, _, _, _, _, hm, _, _ => absurd hm (by omega)
 | j + 1, m + 1, i, s5, s6, s4, d, hi, hm, hd, hs => by
  have ih := fun (d' : DK) (h : okD d' = true) (h' : d'.2.1.length + Kbn (l.drop (i + 1)) ≤ 20000000) => Krf F fail ret ex0 ex1 l hF hl h0 h1 j m (i + 1) s5 s6 s4 d' (by omega) (by omega) h h'
  have hok := Jot.1 hd
  rw [Joj, Kby]
  rw [K3v l i (by omega) ((0 : Int), ((0 : Int), (([] : List (List UInt8)), ())))] at hs
  rw [Int.toNat_natCast, Jaa (tt (by omega)), Jaa (tt2 (by omega) (by omega)), Jcx ((0 : Int), ((0 : Int), (([] : List (List UInt8)), ()))) (show i < l.length by omega), Kmu]
  have hFo := hF (l.getD i ((0 : Int), ((0 : Int), (([] : List (List UInt8)), ())))) (by rw [Jdx (show i < l.length by omega)]; exact List.getElem_mem _)
  generalize l.getD i ((0 : Int), ((0 : Int), (([] : List (List UInt8)), ()))) = op at hs hFo ⊢
  have hst := Kyq hd op
  have hsm : Jl0 d = true := Jdq.2 (by omega)
  by_cases k0 : op.1 = 0
  ·rw [Jaa (c := decide (op.1 ≥ 0)) (tt (by omega)), Jaa (tt (by omega)), Jaa (tt2 (by omega) (by omega)), Jaa (c := Nat.beq op.1.toNat 0) (by rw [k0]; rfl), Jaa (c := Jye (d.1, (d.2.1, ())) _ _) hsm]
   cases hf : Kbm d op.2.1 op.2.2.1.length with
   | false =>
    rw [Jaa (c := !(Jqd (d.1, (d.2.1, ())) _ _)) (by show (!(Kbm d op.2.1 op.2.2.1.length)) = true; rw [hf]; rfl)]
    have e : Jjo d op = (dk0, 2) := by unfold Jjo; rw [if_pos k0, if_neg (by rw [hf]; decide)]
    rw [e, if_neg (by decide)]
    exact h0 i 2 d.1 d.2.1
   | true =>
    have hfi := Kmq.1 hf
    rw [Jab (c := !(Jqd (d.1, (d.2.1, ())) _ _)) (by show (!(Kbm d op.2.1 op.2.2.1.length)) = false; rw [hf]; rfl)]
    have e : Jjo d op = ((d.1, (d.2.1 ++ wrS op.2.1 op.2.2.1, ())), 0) := by unfold Jjo; rw [if_pos k0, if_pos hf]
    obtain ⟨q1, q2, q3⟩ := hst (by rw [e])
    rw [e] at q1 q2 q3 ⊢
    rw [if_pos rfl]
    obtain ⟨M, rfl⟩ : ∃ M, F = M + 1 := ⟨F - 1, by omega⟩
    have hw := Kyr (M + 1) fail (fun _ _ _ l1 s51 s61 _ s221 s231 s241 h1 h21 _ s41 => Joj (M + 1) fail ex0 ex1 (m + 1) l1 s51 s61 s221 s231 (Jar s241 1) s41 h1 h21) l s5 s6 (i : Int) l (l.length : Nat) (i : Int) d.1 d.2.1 op s4 (by omega) (by omega) op.2.2.1.length M 0 (by omega) (by omega)
    rw [List.take_zero, wrS, List.append_nil] at hw
    refine hw.trans ?_
    rw [Jao (by omega) (by omega), Jte]
    exact ih (d.1, (d.2.1 ++ wrS op.2.1 op.2.2.1, ())) q1 (by show (d.2.1 ++ wrS op.2.1 op.2.2.1).length + _ ≤ _; rw [List.length_append, Kci]; omega)
  ·by_cases k1 : op.1 = 1
   ·rw [Jaa (c := decide (op.1 ≥ 0)) (tt (by omega)), Jaa (tt (by omega)), Jaa (tt2 (by omega) (by omega)), Jab (c := Nat.beq op.1.toNat 0) (by rw [k1]; rfl), Jaa (c := Nat.beq op.1.toNat 1) (by rw [k1]; rfl), Jaa (c := Jg3 (d.1, (d.2.1, ()))) (by show (Jl0 d && okP d.1.length d.2.1) = true; rw [hsm, hok.2]; rfl)]
    have e : Jjo d op = ((Ju8 d, ([], ())), 0) := by unfold Jjo; rw [if_neg k0, if_pos k1]
    obtain ⟨q1, q2, q3⟩ := hst (by rw [e])
    rw [e] at q1 q2 q3 ⊢
    rw [if_pos rfl, Jao (by omega) (by omega), Jte]
    exact ih (Ju8 d, ([], ())) q1 (by show 0 + _ ≤ _; omega)
   ·have e : Jjo d op = (dk0, 1) := by unfold Jjo; rw [if_neg k0, if_neg k1]
    rw [e, if_neg (by decide)]
    by_cases k2 : op.1 ≥ 0
    ·rw [Jaa (tt k2), Jab (ff (by omega))]
     exact h0 i 1 d.1 d.2.1
    ·rw [Jab (ff k2)]
     exact h0 i 1 d.1 d.2.1
theorem Juj {d : DK} {l : List DOp} : Kts d l = true ↔ d.1.length ≤ 1000000 ∧ d.2.1.length ≤ 10000000 ∧ l.length ≤ 1000000 ∧ Kbn l ≤ 10000000 := by simp only [Kts, decide_eq_true_eq]
theorem Kt1 (d : DK) (l : List DOp) (h : J3s d l = true) : ∃ F, ∀ {X : Type} (fail : X) (ret : DK → Int → Int → X), dRun F d l fail ret = ret (Jib d l) (Kl3 d l) (Jn6 d l) := ⟨l.length + Kbn l + 1, fun fail ret => by
 have h := Juj.1 h
 unfold dRun Jib Kl3 Jn6 Jn4 Jes
 rw [Jaa (c := Jip d) (Jdq.2 (by omega))]
 cases hk : okD d with
 | false => rw [Kcg hk]; rfl
 | true =>
  rw [Krd hk, Jab (Jgi rfl), Jaa (c := Jho d.1) (tt (by omega)), Jaa (c := Jv6 d.2.1) (tt (by omega)), if_pos rfl]
  exact Krf (l.length + Kbn l + 1) fail ret _ _ l (fun op hop => by have := Kyp hop; omega) h.2.2.1 (fun _ _ _ _ => rfl) (fun _ _ _ _ _ _ => rfl) l.length _ 0 0 0 _ d (by omega) (by omega) hk (by rw [List.drop_zero]; omega)⟩
end Go.AI
