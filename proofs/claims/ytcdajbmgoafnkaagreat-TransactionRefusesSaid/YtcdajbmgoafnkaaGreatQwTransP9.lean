/- Texts of the proof, joined: TransP9. Names of our own are shortened by program; the long ones stand in wip/. -/
import Derived.Test.YtcdajbmgoafnkaaGreatQwG
import Derived.Test.YtcdajbmgoafnkaaGreatQwTransP7
namespace Go.AI
open Go
theorem Kya (key : Bys) : ∀ (bs : List Bys) (i : Int) (out : List (List Rec)), (J6t key i bs out).2 = 0 → ∃ t, (J6t key i bs out).1 = out ++ t
 | [], i, out, _ => ⟨[], by rw [J6t, List.append_nil]⟩
 | b :: bs, i, out, h => by
  by_cases c : (unB key i b).2 = 0
  ·rw [J1f c] at h ⊢
   obtain ⟨t, e⟩ := Kya key bs (i + 1) _ h
   exact ⟨(unB key i b).1 :: t, by rw [e, List.append_assoc]; rfl⟩
  ·rw [Jqf c] at h; exact absurd h c
theorem J69 {key : Bys} (hk : key ≠ []) {c : Int} (hc : 0 ≤ c ∧ c ≤ 9007199254740991) {r : List Rec} (h : Kx9 key r) : (J0d key c r).length = (Jr2 r).length + 16 := by
 rcases h.small with k | ⟨k, kl⟩
 ·exact absurd k hk
 rw [Jy9 hk]
 exact (Kmm key c (Jr2 r) k (Jqd.2 hc) kl).2.1
theorem Qgw {o : Bys} (ho : 1 ≤ o.length ∧ o.length ≤ 64) {n : Int} (hn : 0 ≤ n ∧ n ≤ 9007199254740991) {b : Bys} (hb : 16 ≤ b.length ∧ b.length ≤ 65536) : J4o o n b = 0 ∨ J4o o n b = 25 := by
 unfold J4o
 rw [if_pos (Ks1.2 ho), if_neg (by omega), if_pos (Jqd.2 hn), if_neg (by omega)]
 split
 ·exact .inl rfl
 ·exact .inr rfl
theorem Qcd {key : Bys} (hk : key ≠ []) {n : Nat} (h1 : 2 ≤ n) (h2 : n ≤ 8192) {s : List Ja7} {r : List Rec} {l : List (List Rec)} (h : Jiq key n s (r :: l)) : Kk6 (Jba s) [] ≠ r :: l := by
 obtain ⟨rest, hl⟩ := h.log
 obtain ⟨o1, _, o3⟩ := hl.opens h1 h2
 have hr := h.ok r List.mem_cons_self
 intro e
 unfold Kk6 at e
 by_cases c : Krh (Jba s) [] = 0
 ·rw [if_pos c] at e
  rw [Khq o1 (by simp)] at c
  rw [o3, Kao] at c e
  by_cases c2 : (unB [] 1 (J0d key ((1 : Nat) : Int) r)).2 = 0
  ·rw [J1f c2] at c e
   obtain ⟨t, et⟩ := Kya _ _ _ _ c
   rw [et] at e
   have e2 : (unB [] 1 (J0d key ((1 : Nat) : Int) r)).1 = r := (List.cons.inj e).1
   rw [J1e] at c2 e2
   obtain ⟨_, k2, _⟩ := Qgk c2
   rw [e2] at k2
   have := J69 hk (c := ((1 : Nat) : Int)) (by omega) hr
   rw [← k2] at this
   omega
  ·rw [Jqf c2] at c; exact absurd c c2
 ·rw [if_neg c] at e; cases e
def TransactionRefuses_P (_ : List (List Rec)) (_ _ : Bys) : Bool := true
def TransactionRefuses_r (_ : List (List Rec)) (_ _ : Bys) : Bool := true
theorem Jov (l : List (List Rec)) (key other : Bys) (_ : TransactionRefuses_P l key other = true) : ∃ F, ∀ {X : Type} (fail : X) (ret : Bool → X), TransactionRefuses F l key other fail ret = ret (TransactionRefuses_r l key other) := ⟨0, fun fail ret => by
 unfold TransactionRefuses
 refine Jbg rfl ?_
 cases hf : Kzs l key with
 | false => exact Jbg (show (!Kzs l key) = true by rw [hf]; rfl) rfl
 | true =>
 refine Jdg (show (!Kzs l key) = false by rw [hf]; rfl) ?_
 by_cases c0 : (l.length : Int) = 0
 ·exact Jbg (Jnv c0) rfl
 by_cases c1 : (key.length : Int) = 0
 ·exact Jdg (Jkj c0) (Jbg (Jnv c1) rfl)
 by_cases c2 : (other.length : Int) = 0
 ·exact Jdg (Jkj c0) (Jdg (Jkj c1) (Jbg (Jnv c2) rfl))
 by_cases c3 : (other.length : Int) > 64
 ·exact Jdg (Jkj c0) (Jdg (Jkj c1) (Jdg (Jkj c2) (Jbg (tt c3) rfl)))
 refine Jdg (Jkj c0) (Jdg (Jkj c1) (Jdg (Jkj c2) (Jdg (ff c3) (Jbg hf ?_))))
 obtain ⟨s', h1, h2, h3⟩ := cm_ok hf
 have hlen := h1.few
 have hk : key ≠ [] := fun e => by rw [e] at c1; exact c1 rfl
 have hs := Qcc hf
 obtain ⟨r1, _, _, _⟩ := h1.replay (Jzc.1 hf).2.2.2 (by omega) (by omega)
 obtain ⟨rest, hl⟩ := h1.log
 obtain ⟨o1, o2, o3⟩ := hl.opens (by omega) (by omega)
 rw [h2]
 have hpl : (Jfc (Jba s')).length = l.length := by show (opB (Jba s')).length = _; rw [o3, J49]
 have hsV : ∀ k, K18 (Kk6 (Jba s') k) = true := fun k => Qb5 _ _ (by show s'.length ≤ _; omega)
 match l, c0, h1, o3, hs, hpl with
 | [], c0, _, _, _, _ => exact absurd rfl c0
 | r :: l', _, h1, o3, hs, hpl =>
 have hne := Qcd hk (by omega) (by omega) h1
 have tail : (bif Jl8 (Jba s') [] then bif Jcy then bif Jld (Je6 (Jba s') []) (r :: l') then ret (!(Jle (Je6 (Jba s') []) (r :: l'))) else fail else ret false else fail) = ret true :=
  Jbg r1 (Jbg rfl (Jbg (show (K18 (Kk6 (Jba s') []) && K18 (r :: l')) = true by rw [hsV, hs]; rfl) (congrArg ret (show (!decide (Kk6 (Jba s') [] = r :: l')) = true by rw [ff hne]; rfl))))
 have hp0 : (Jfc (Jba s')).getD 0 [] = J0d key ((1 : Nat) : Int) r := by
  show (opB (Jba s')).getD 0 [] = _
  rw [o3]; rfl
 refine Jbg r1 (Jdg rfl (Jdg (Jgh o1) (Jdg (Jgh (by rw [hpl])) (Jbg (tt (by rw [hpl, List.length_cons]; omega)) (Jbg rfl (Jbg r1 ?_))))))
 rw [hp0]
 by_cases cf : Jye other 1 (J0d key ((1 : Nat) : Int) r) = 0
 ·exact Jdg (Jgh cf) tail
 ·have hr := h1.ok r List.mem_cons_self
  have hlong := J69 hk (c := ((1 : Nat) : Int)) (by omega) hr
  have hshort := (hr.pay (c := ((1 : Nat) : Int)) (by omega)).2.1
  have ho : other ≠ [] := fun e => by rw [e] at c2; exact c2 rfl
  have e25 : J4o other 1 (J0d key ((1 : Nat) : Int) r) = 25 := by
   rcases Qgw (o := other) (n := 1) (b := J0d key ((1 : Nat) : Int) r) (by omega) (by omega) (by omega) with e | e
   ·exact absurd e cf
   ·exact e
  have eE : Krh (Jba s') other = 25 := by
   rw [Khq o1 (by omega), o3, Kao, Jqf (by rw [Khp ho cf]; exact cf), Khp ho cf]
   exact e25
  have e0 : Qa0 (Jba s') other = Kqa := if_neg (by rw [eE]; decide)
  have e1 : Kk6 (Jba s') other = [] := if_neg (by rw [eE]; decide)
  refine Jbg (Jj8 cf) (Jdg (Jgh eE) (Jdg (Jgh (by show ((Kk6 (Jba s') other).length : Int) = 0; rw [e1]; rfl)) (Jdg (by rw [show Joj (Jba s') other = Kqa from e0]; rfl) tail)))⟩
end Go.AI
