/- Texts of the proof, joined: TransP10. Names of our own are shortened by program; the long ones stand in wip/. -/
import Derived.Test.YtcdajbmgoafnkaaGreatQvG
import Derived.Test.YtcdajbmgoafnkaaGreatQvTransP7
namespace Go.AI
open Go
theorem K8h {key : Bys} {n : Nat} {s : List Jbe} {done : List (List Rec)} {r : List Rec} (ht : Jh4 key n s done) (h1 : 2 ≤ n) (h2 : n ≤ 8192) (hr : Kri key r) (h : 53 * done.length + wS done + wR r + 68 ≤ 15 * n) : Kf9 (lgT key done n) key r = 0 := by
 have hw := Kzo key done 1 1
 have hp := Kzn key ((1 + done.length : Nat) : Int) r
 rcases ht.err h1 h2 hr with ⟨e, _⟩ | ⟨_, e⟩
 ·exact e
 ·exfalso
  unfold Jaq at e
  omega
theorem Krl {l : List (List Rec)} {key : Bys} (h : Klk l key = true) (i : Nat) : Klk (l.take i) key = true := by
 obtain ⟨h1, h2, h3, h4⟩ := Jo5.1 h
 have := Km2 l i
 refine Jo5.2 ⟨fun r hr => h1 r (List.mem_of_mem_take hr), by rw [List.length_take]; omega, by omega, h4⟩
theorem Kzr {X : Type} (fail : X) (ret : Bool → X) {v8 v10 v12 v13 v14 v15 v16 d1 d2 v19 v20 : Bool} (h8 : v8 = true) (h10 : v10 = true) (h12 : v12 = true) (h13 : v13 = true) (h14 : v14 = true) (h15 : v15 = true) (h16 : v16 = true) (k1 : d1 = true) (k2 : d2 = true) (h19 : v19 = true) (h20 : v20 = true) :
  (bif v8 then bif v10 then bif v12 then bif Jcb then bif v13 then bif v14 then bif v15 then bif v16 then bif d1 then bif d2 then bif v19 then ret v20 else fail else fail else fail else ret false else ret false else ret false else ret false else ret false else fail else fail else fail) = ret true := by
 subst h8 h10 h12 h13 h14 h15 h16 k1 k2 h19 h20; rfl
abbrev Kzs := UInt8 × (List Int × Unit)
def TransactionSurvives_P (_ : List (List Rec)) (_ : Bys) (_ : Kzs) : Bool := true
def TransactionSurvives_r (_ : List (List Rec)) (_ : Bys) (_ : Kzs) : Bool := true
theorem Jmp (l : List (List Rec)) (key : Bys) (b : Kzs) (_ : TransactionSurvives_P l key b = true) : ∃ F, ∀ {X : Type} (fail : X) (ret : Bool → X), TransactionSurvives F l key b fail ret = ret (TransactionSurvives_r l key b) := ⟨0, fun fail ret => by
 unfold TransactionSurvives
 refine Jbn rfl ?_
 cases hf : Klk l key with
 | false => exact Jbn (show (!Klk l key) = true by rw [hf]; rfl) rfl
 | true =>
 refine Jde (show (!Klk l key) = false by rw [hf]; rfl) ?_
 by_cases c0 : (l.length : Int) = 0
 ·exact Jbn (Jju c0) rfl
 by_cases c1 : (b.2.1.length : Int) > 100
 ·exact Jde (Jjv c0) (Jbn (tt c1) rfl)
 refine Jde (Jjv c0) (Jde (ff c1) ?_)
 obtain ⟨f1, f2, f3, f4⟩ := Jo5.1 hf
 have hs : Jb3 ((l.length : Nat) : Int) 1 = ((l.length - 1 : Nat) : Int) := by rw [Jdo (by omega) (by omega)]; omega
 have hs2 : (Jb3 ((l.length : Nat) : Int) 1).toNat = l.length - 1 := by rw [hs, Int.toNat_natCast]
 have hlt : l.length - 1 < l.length := by omega
 have hsplit : l = l.take (l.length - 1) ++ [l.getD (l.length - 1) []] := by
  rw [← Jfe l (l.length - 1) [] hlt, List.take_of_length_le (by omega)]
 have hmem : l.getD (l.length - 1) [] ∈ l := by rw [Jdw hlt]; exact List.getElem_mem _
 have hr := Kzq hf _ hmem
 have hrl : (l.getD (l.length - 1) []).length ≤ 60 := (Jw5 (f1 _ hmem).1).1
 have hq := Krl hf (l.length - 1)
 have hql : (l.take (l.length - 1)).length = l.length - 1 := by rw [List.length_take]; omega
 obtain ⟨s, h1, h2, h3⟩ := cm_ok hq
 have he := Krj hf (n := 400) (by omega) hlt h1
 obtain ⟨u1, u2, s1, u3, u4, u5⟩ := h1.run (by omega) (by omega) hr he
 have h4 := K4d (lgT key (l.take (l.length - 1)) 400) key (l.getD (l.length - 1) [])
 have hsum : wS (l.take (l.length - 1)) + wR (l.getD (l.length - 1) []) = wS l := by rw [← Kzm, ← hsplit]
 -- the operations, and how many of them
 generalize hops : Jtl (lgT key (l.take (l.length - 1)) 400) key (l.getD (l.length - 1) []) = ops at u1 u4 h4
 have hk : Jgg (Jyh b.1) (Jay ((ops.length : Nat) : Int) 1) = ((b.1.toNat % (ops.length + 1) : Nat) : Int) := by
  rw [Jyi, Jam (by omega) (by omega), J3f (by omega), Juu]; rfl
 have hkle : b.1.toNat % (ops.length + 1) ≤ ops.length := Nat.le_of_lt_succ (Nat.mod_lt _ (by omega))
 generalize b.1.toNat % (ops.length + 1) = k at hk hkle
 obtain ⟨s', ch', g1, g2, g3⟩ := h1.int (by omega) (by omega) hr he k (by rw [hops]; exact hkle) b.2.1
 rw [hops] at g1 g3
 have hops' : Jav (Jan (l.take (l.length - 1)) key) key (l.getD (l.length - 1) []) = ops := by rw [h3]; exact hops
 have V1 : Jbj b key l = Jbp s' := by
  unfold Jbj
  rw [hs2, hops', hk, h2]
  show (Kst (Jbp s) ops (k : Int) b.2.1).1 = _
  rw [g1]
 have I2 : Jhz (Jbp s) ops (k : Int) b.2.1 = 0 := by
  show (Kst (Jbp s) ops (k : Int) b.2.1).2.2 = _
  rw [g1]
 -- what is replayed
 have all : ∃ m, Jh4 key 400 s' m ∧ ((m = l.take (l.length - 1) ∧ k ≠ ops.length) ∨ (m = l ∧ k ≠ 0)) := by
  rcases g3 with ⟨g, n⟩ | ⟨g, n⟩
  ·exact ⟨_, g, .inl ⟨rfl, n⟩⟩
  ·exact ⟨_, g, .inr ⟨hsplit.symm, n⟩⟩
 obtain ⟨m, hm, hcase⟩ := all
 have hml : m = l.take m.length ∧ m.length ≤ l.length ∧ l.length - 1 ≤ m.length ∧ wS m ≤ wS l := by
  rcases hcase with ⟨e, _⟩ | ⟨e, _⟩
  ·rw [e, hql]; exact ⟨rfl, by omega, by omega, by omega⟩
  ·rw [e]; exact ⟨(List.take_of_length_le (by omega)).symm, by omega, by omega, by omega⟩
 obtain ⟨p1, p2, p3, p4⟩ := hm.replay f4 (by omega) (by omega)
 have V2 : Jah b key l = m := by unfold Jah; rw [V1]; exact p4
 have V7 : Jax b key l = lgT key m 400 := by unfold Jax; rw [V1]; exact p3
 have V3 : Jc8 b key l = ((m.length : Int) != (l.length : Int)) := by unfold Jc8; rw [V2]
 have V4 : Jd3 b key l = true := by unfold Jd3; rw [V2]; exact tt2 (by omega) (by omega)
 have V5 : Jck b key l = m := by unfold Jck; rw [V2]; exact hml.1.symm
 have hsl := Krk hf
 have hsm : Kqd m = true := by rw [hml.1]; exact Krk (Krl hf _)
 have V6 : Jd4 b key l = true := by
  unfold Jd4
  rw [V2, V5]
  show (Kqd m && Kqd m) = true
  rw [hsm]; rfl
 -- and the same transaction again
 have he2 := K8h hm (by omega) (by omega) hr (by omega)
 obtain ⟨w1, w2, s2, w3, w4, w5⟩ := hm.run (by omega) (by omega) hr he2
 obtain ⟨q1, q2, q3, q4⟩ := w5.replay f4 (by omega) (by omega)
 have V9 : Jc9 b key l = Jtl (lgT key m 400) key (l.getD (l.length - 1) []) := by unfold Jc9; rw [V7, hs2]; rfl
 have V10 : Ja5 b key l = true := by unfold Ja5; rw [V1, V9]; exact w1
 have V11 : Jcf b key l = Jbp s2 := by
  unfold Jcf
  rw [V1, V9]
  show (Jpp (Jbp s') (Jtl (lgT key m 400) key (l.getD (l.length - 1) []))).1 = _
  rw [w4]
 have V12 : Ja6 b key l = true := by unfold Ja6; rw [V11]; exact q1
 have V13 : Ja7 b key l = true := by unfold Ja7; rw [V7, hs2]; exact Jju he2
 have V14 : Ja8 b key l = true := by
  unfold Ja8
  rw [V1, V9]
  show ((Jpp (Jbp s') (Jtl (lgT key m 400) key (l.getD (l.length - 1) []))).2.2 == 0) = true
  rw [w4]; rfl
 have V15 : Ja9 b key l = true := by unfold Ja9; rw [V11]; exact Jju q2
 have V16 : Jba b key l = true := by
  unfold Jba
  rw [V11, V7, hs2, show Jkl (Jbp s2) key = lgT key (m ++ [l.getD (l.length - 1) []]) 400 from q3, show Jdl (lgT key m 400) key (l.getD (l.length - 1) []) = lgT key (m ++ [l.getD (l.length - 1) []]) 400 from w2]
  exact Km0 _
 have V17 : Jat b key l = m ++ [l.getD (l.length - 1) []] := by unfold Jat; rw [V2, hs2]
 have V18 : Jdv b key l = m ++ [l.getD (l.length - 1) []] := by unfold Jdv; rw [V11]; exact q4
 have hsm2 : Kqd (m ++ [l.getD (l.length - 1) []]) = true := by
  unfold Kqd at hsm ⊢
  rw [Bool.and_eq_true, decide_eq_true_eq] at hsm ⊢
  refine ⟨by rw [List.length_append, List.length_singleton]; omega, ?_⟩
  rw [List.all_append, hsm.2]
  show (true && (K1y _ && true)) = true
  rw [show K1y (l.getD (l.length - 1) []) = true from tt (by omega)]; rfl
 have V19 : Jbb b key l = true := by
  unfold Jbb
  rw [V17, V18]
  show (Kqd _ && Kqd _) = true
  rw [hsm2]; rfl
 have V20 : Jbc b key l = true := by
  unfold Jbc
  rw [V17, V18]
  exact tt rfl
 have tail := Kzr fail ret (show Jbk b key l = true from rfl) V10 V12 V13 V14 V15 V16 (show decide ((Jah b key l).length ≤ big) = true by rw [V2]; exact Jem (by omega)) (show decide ((Jat b key l).length ≤ big) = true by rw [V17]; exact Jem (by rw [List.length_append, List.length_singleton]; omega)) V19 V20
 have hb5 : Jin (Jah b key l) (Jck b key l) = true := by rw [V2, V5]; exact tt rfl
 rw [hs2, hs, hops', hk]
 refine Jbn (tt2 (by omega) (by omega)) (Jbn (tt2 (by omega) (by omega)) (Jbn hq (Jbn rfl (Jde rfl ?_))))
 refine Jde (by rw [h3]; exact Jf8 he) (Jbn (by rw [Jam (by omega) (by omega)]; exact Jjj (by omega)) ?_)
 rw [h2]
 refine Jbn (show K9l (Jbp s) ops b.2.1 = true by unfold K9l; rw [u1]; exact tt (by omega)) ?_
 refine Jbn (by rw [V1]; exact p1) (Jde (Jf8 I2) (Jde (by rw [V1]; exact Jf8 p2) ?_))
 have hx0 : k = 0 → m = l.take (l.length - 1) := fun e => by
  rcases hcase with ⟨e2, _⟩ | ⟨_, e2⟩
  ·exact e2
  ·exact absurd e e2
 by_cases cl : (m.length : Int) = (l.length : Int)
 ·
  have hml2 : m = l := by
   rcases hcase with ⟨e2, _⟩ | ⟨e2, _⟩
   ·rw [e2, hql] at cl; omega
   ·exact e2
  have hk0 : k ≠ 0 := fun e => by
   have := hx0 e
   rw [this, hql] at cl; omega
  refine Jde (by rw [V3]; exact Jf8 cl) (Jbn V4 (Jbn V6 (Jde (by rw [hb5]; rfl) ?_)))
  by_cases ck : (k : Int) = (ops.length : Int)
  ·refine Jbn (Jju ck) (Jde ?_ (Jde (by rw [V3]; exact Jf8 cl) (Jde (Jjv (by omega)) tail)))
   rw [V7, h3, show Jdl (lgT key (l.take (l.length - 1)) 400) key (l.getD (l.length - 1) []) = lgT key l 400 by rw [show Jdl _ _ _ = _ from u2, ← hsplit], hml2, Km0]; rfl
  ·exact Jde (Jjv ck) (Jde (Jjv (by omega)) tail)
 ·have hml2 : m = l.take (l.length - 1) ∧ k ≠ ops.length := by
   rcases hcase with e2 | ⟨e2, _⟩
   ·exact e2
   ·exact absurd (by rw [e2]) cl
  refine Jbn (by rw [V3]; exact Jjj cl) (Jde (by rw [V2, hml2.1, hql]; exact Jf8 rfl) (Jbn V4 (Jbn V6 (Jde (by rw [hb5]; rfl) (Jde (Jjv (by omega)) ?_)))))
  by_cases ck : (k : Int) = 0
  ·refine Jbn (Jju ck) (Jde ?_ tail)
   rw [V7, h3, hml2.1, Km0]; rfl
  ·exact Jde (Jjv ck) tail⟩
end Go.AI
