/- Texts of the proof, joined: TopP5. Names of our own are shortened by program; the long ones stand in wip/. -/
import Derived.Test.YtnmidfcefljafaaGreatQsG
import Derived.Test.YtnmidfcefljafaaGreatQsTopP
namespace Go.AI
open Go
def TopCommitsSurvive_P (_ : List (List Rec)) (_ : Bys) (_ : CrT) : Bool := true
def TopCommitsSurvive_r (_ : List (List Rec)) (_ : Bys) (_ : CrT) : Bool := true
theorem Kgz {X : Type} (F : Nat) (fail : X) (ex0 ex1 : Bys → Bool → List Int → List (List Rec) → Int → Int → CrT → DK → Jf5 → List (List Rec) → X) (K : X) (l : List (List Rec)) (key : Bys) (x : CrT) (s6 : Bool) (hl : l.length ≤ 12) (hk : key.length ≤ 64) (h1 : ∀ ch i s done, Jh0 key 200 s done → ex1 key s6 ch l (l.length : Nat) i x (Ja8 s) (lgT key done 200) done = K) : ∀ (j m i : Nat) (ch : List Int) (s : List Ja4) (done : List (List Rec)), i + j = l.length → j ≤ m → done.length ≤ i → ch.length ≤ 300 → Jh0 key 200 s done →
  Jca F fail ex0 ex1 (m + 1) key s6 ch l (l.length : Nat) i x (Ja8 s) (lgT key done 200) done = K
 | 0, m, i, ch, s, done, hi, _, _, _, ht => by
  rw [Jca, Jd9, Jab (ff (by omega)), h1 _ _ _ _ ht]
 | j + 1, 0, i, _, _, _, _, hm, _, _, _ => absurd hm (by omega)
 | j + 1, m + 1, i, ch, s, done, hi, hm, hd, hch, ht => by
  have ih := fun ch' s' done' => Kgz F fail ex0 ex1 K l key x s6 hl hk h1 j m (i + 1) ch' s' done' (by omega) (by omega)
  have nx : Jat (i : Int) 1 = ((i + 1 : Nat) : Int) := by rw [Jar (by omega) (by omega), Jwc]
  rw [Jca, Jd9, Int.toNat_natCast, nx]
  generalize l.getD i [] = r
  refine Ja2 (tt (by omega)) (Ja2 (tt2 (by omega) (by omega)) (Ja2 rfl ?_))
  by_cases c0 : Kfk (lgT key done 200) key r = 0
  case neg => exact Ja2 (Jkp c0) (ih ch s done (by omega) hch ht)
  refine Jdf (Jhl c0) ?_
  have hx := K85 c0
  obtain ⟨r1, r2, s1, q, r3, r4⟩ := ht.run (by omega) (by omega) hx c0
  have hl1 : (done ++ [r]).length = done.length + 1 := by rw [List.length_append, List.length_singleton]
  have d0 : Jdl (Ja8 s) (Jac (lgT key done 200) key r) = Ja8 s1 := by
   show (Jo3 (Ja8 s) (J7z (lgT key done 200) key r)).1 = _
   rw [r3]
  have d2 : (Jh8 (Ja8 s) (Jac (lgT key done 200) key r) != 0) = false := by
   show ((Jo3 (Ja8 s) (J7z (lgT key done 200) key r)).2.2 != 0) = false
   rw [r3]; rfl
  have t0 : Je4 (lgT key done 200) key r = lgT key (done ++ [r]) 200 := r2
  have whole := ih ch s1 (done ++ [r]) (by omega) hch r4
  have h4 : (Jac (lgT key done 200) key r).length ≤ 4 := K2y _ _ _
  have hs1 := r4.sam (by omega)
  have hs0 := ht.sam (by omega)
  rw [d0, t0]
  by_cases ci : i < x.1.length
  ·refine Ja2 (tt (by omega)) (Ja2 (tt2 (by omega) (by omega)) (Ja2 (Jds (by omega)) (Ja2 (Jds (by omega)) ?_)))
   rw [Jxx]
   generalize (x.1.getD i 0).toNat = k
   by_cases ck : (Jac (lgT key done 200) key r).length < k
   ·exact Ja2 (tt (by omega)) (Ja2 r1 (Jdf d2 whole))
   ·obtain ⟨s', ch', g1, g2, g3⟩ := ht.int (by omega) (by omega) hx c0 k (by show k ≤ (Jac (lgT key done 200) key r).length; omega) ch
    have i0 : Jaj (Ja8 s) (Jac (lgT key done 200) key r) (k : Int) ch = Ja8 s' := by
     show (Kkr (Ja8 s) (J7z (lgT key done 200) key r) (k : Int) ch).1 = _
     rw [g1]
    have i1 : Jcy (Ja8 s) (Jac (lgT key done 200) key r) (k : Int) ch = ch' := by
     show (Kkr (Ja8 s) (J7z (lgT key done 200) key r) (k : Int) ch).2.1 = _
     rw [g1]
    have i2 : Jfw (Ja8 s) (Jac (lgT key done 200) key r) (k : Int) ch = 0 := by
     show (Kkr (Ja8 s) (J7z (lgT key done 200) key r) (k : Int) ch).2.2 = _
     rw [g1]
    have iP : K78 (Ja8 s) (Jac (lgT key done 200) key r) ch = true := by
     unfold K78
     rw [show Ktz (Ja8 s) (Jac (lgT key done 200) key r) = true from r1]; exact tt (by omega)
    rw [i0, i1]
    refine Jdf (ff (by omega)) (Ja2 iP ?_)
    rcases g3 with ⟨g, ne⟩ | ⟨g, ne⟩
    ·obtain ⟨p1, p2, p3, p4⟩ := g.replay hk (by omega) (by omega)
     have ne' : k ≠ (Jac (lgT key done 200) key r).length := ne
     rw [show Jbt (Ja8 s') key = lgT key done 200 from p3, show Jbk (Ja8 s') key = done from p4]
     refine Ja2 p1 (Jdf (Jhl i2) (Jdf (Jhl p2) (Jdf (K84 _ _ _ _) (Jdf (by rw [Kch]; rfl) (Ja2 (show (Kfj done && Kfj done) = true by rw [hs0]; rfl) (Jdf (show (!decide (done = done)) = false by rw [tt rfl]; rfl) (Jdf (Jpi (by omega)) ?_)))))))
     exact ih ch' s' done (by omega) (by omega) g
    ·obtain ⟨p1, p2, p3, p4⟩ := g.replay hk (by omega) (by omega)
     rw [show Jbt (Ja8 s') key = lgT key (done ++ [r]) 200 from p3, show Jbk (Ja8 s') key = done ++ [r] from p4]
     refine Ja2 p1 (Jdf (Jhl i2) (Jdf (Jhl p2) (Ja2 (Kch _) (Ja2 (show (Kfj (done ++ [r]) && Kfj (done ++ [r])) = true by rw [hs1]; rfl) (Ja2 (show decide (done ++ [r] = done ++ [r]) = true from tt rfl) ?_)))))
     exact ih ch' s' (done ++ [r]) (by omega) (by omega) g
  ·refine Jdf (ff (by omega)) (Ja2 (Jds (by omega)) (Ja2 (Jds (by omega)) (Ja2 (by rw [Jar (by omega) (by omega)]; exact tt (by omega)) (Ja2 r1 (Jdf d2 whole)))))
theorem Jol (l : List (List Rec)) (key : Bys) (x : CrT) (_ : TopCommitsSurvive_P l key x = true) : ∃ F, ∀ {X : Type} (fail : X) (ret : Bool → X), TopCommitsSurvive F l key x fail ret = ret (TopCommitsSurvive_r l key x) := ⟨l.length + 1, fun fail ret => by
 unfold TopCommitsSurvive
 refine Ja2 rfl ?_
 cases hf : Jj3 l with
 | false => rfl
 | true =>
 have hl : l.length ≤ 12 := by
  unfold Jj3 at hf
  rw [Bool.and_eq_true, decide_eq_true_eq] at hf
  exact hf.2
 by_cases c1 : (key.length : Int) > 64
 ·exact Jdf rfl (Ja2 (tt c1) rfl)
 by_cases c2 : (x.1.length : Int) > 20
 ·exact Jdf rfl (Jdf (ff c1) (Ja2 (tt c2) rfl))
 by_cases c3 : (x.2.1.length : Int) > 300
 ·exact Jdf rfl (Jdf (ff c1) (Jdf (ff c2) (Ja2 (tt c3) rfl)))
 refine Jdf rfl (Jdf (ff c1) (Jdf (ff c2) (Jdf (ff c3) (Ja2 rfl (Jdf rfl ?_)))))
 refine Kgz (l.length + 1) fail _ _ (ret true) l key x false hl (by omega) (fun ch i s done ht => ?_) l.length l.length 0 x.2.1 _ [] (by omega) (by omega) (Nat.zero_le _) (by omega) (Jh0.fresh key 200 (by omega))
 obtain ⟨p1, p2, p3, p4⟩ := ht.replay (by omega) (by omega) (by omega)
 have hs := ht.sam (by omega)
 rw [show Jbt (Ja8 s) key = lgT key done 200 from p3, show Jbk (Ja8 s) key = done from p4]
 exact Ja2 p1 (Ja2 (Jl7 p2) (Ja2 (Kch _) (Ja2 (show (Kfj done && Kfj done) = true by rw [hs]; rfl) (Ja2 (show decide (done = done) = true from tt rfl) rfl))))⟩
end Go.AI
