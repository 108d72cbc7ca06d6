/- Texts of the proof, joined: TopP. Names of our own are shortened by program; the long ones stand in wip/. -/
import Derived.Test.YtnmidfcefljafaaGreatQsG
import Derived.Test.YtnmidfcefljafaaGreatQsTopC
namespace Go.AI
open Go
theorem Kgx (_ : J1c = true) : ∃ F, ∀ {X : Type} (fail : X) (ret : DK → Jf5 → Bool → X), Kwo F fail ret = ret Jfg Jd1 Jv0 := ⟨0, fun fail ret => by
 obtain ⟨b1, b2, b3, b4, b5, b6⟩ := Kmd 200 (by omega) (by omega)
 rw [show ((200 : Nat) : Int) = 200 from rfl] at b1 b2 b3 b4 b5 b6
 unfold Kwo
 rw [b1, b2, b3, b4, b5, b6]; rfl⟩
abbrev gK : Bys := [107, 101, 121]
abbrev gR : List Rec := [(1, ([97, 98], ()))]
theorem K86 : Kdx gK gR := ⟨by decide +kernel, .inr ⟨by decide, by decide +kernel⟩⟩
theorem J0d (_ : Jfh = true) : ∃ F, ∀ {X : Type} (fail : X) (ret : Bool → X), Jyb F fail ret = ret Jfi := ⟨0, fun fail ret => by
 have ht := Jh0.fresh gK 200 (by omega)
 have eB : Jfg = Ja8 (Jhe :: List.replicate (200 - 1) z16) := rfl
 generalize (Jhe :: List.replicate (200 - 1) z16 : List Ja4) = s0 at ht eB
 have he := K2z ht (by omega) (by omega) K86 (by decide)
 obtain ⟨r1, r2, s', i, r3, r4⟩ := ht.run (by omega) (by omega) K86 he
 obtain ⟨p1, p2, p3, p4⟩ := r4.replay (by decide) (by omega) (by omega)
 have hs := r4.sam (by omega)
 have E0 : Jdl (Ja8 s0) (Jac (lgT gK [] 200) gK gR) = Ja8 s' := by
  show (Jo3 (Ja8 s0) (J7z (lgT gK [] 200) gK gR)).1 = _
  rw [r3]
 have E2 : Jh8 (Ja8 s0) (Jac (lgT gK [] 200) gK gR) = 0 := by
  show (Jo3 (Ja8 s0) (J7z (lgT gK [] 200) gK gR)).2.2 = _
  rw [r3]
 unfold Jyb
 rw [eB, show Jd1 = lgT gK [] 200 from rfl, E0, E2]
 refine Ja2 rfl (Ja2 rfl (Ja2 r1 (Ja2 p1 (Ja2 rfl (Ja2 (Jl7 he) (Ja2 rfl (Ja2 (Jl7 p2) ?_)))))))
 rw [show Jbt (Ja8 s') gK = lgT gK ([] ++ [gR]) 200 from p3, show Je4 (lgT gK [] 200) gK gR = lgT gK ([] ++ [gR]) 200 from r2, show Jbk (Ja8 s') gK = [gR] from p4]
 exact Ja2 (Kch _) (Ja2 (show (Kfj [gR] && Kfj [gR]) = true by rw [show Kfj [gR] = true from hs]; rfl) (congrArg ret (show decide (([gR] : List (List Rec)) = [gR]) = true from tt rfl)))⟩
theorem Kgy {X : Type} (F : Nat) (fail : X) (ex0 ex1 : List (List Rec) → Bool → Int → X) (K : Bool → X) (l : List (List Rec)) (h0 : ∀ i, ex0 l false i = K false) (h1 : ∀ e i, ex1 l e i = K (decide ((l.length : Int) ≤ 12))) : ∀ (j m i : Nat) (s2 : Bool), i + j = 12 → j ≤ m →
  Jha F fail ex0 ex1 (m + 1) l s2 i = K (((l.drop i).take j).all K7i && decide (l.length ≤ 12))
 | 0, m, i, s2, hi, _ => by
  have e : decide ((l.length : Int) ≤ 12) = decide (l.length ≤ 12) := decide_eq_decide.2 (by omega)
  rw [Jha, Joc, List.take_zero, List.all_nil, Bool.true_and, ← e]
  by_cases c : (i : Int) < (l.length : Int)
  ·rw [Jaa (tt c), Jab (ff (by omega)), h1]
  ·rw [Jab (ff c), h1]
 | j + 1, 0, i, _, _, hm => absurd hm (by omega)
 | j + 1, m + 1, i, s2, hi, hm => by
  have ih := Kgy F fail ex0 ex1 K l h0 h1 j m (i + 1) s2 (by omega) (by omega)
  have e : decide ((l.length : Int) ≤ 12) = decide (l.length ≤ 12) := decide_eq_decide.2 (by omega)
  rw [Jha, Joc, Int.toNat_natCast, Jar (by omega) (by omega), Jwc]
  by_cases c : i < l.length
  ·rw [Jaa (tt (by omega)), Jaa (tt (by omega)), Jaa (tt2 (by omega) (by omega)), Jaa (c := Kpl _) rfl, Jcz ([] : List Rec) c, List.take_succ_cons, List.all_cons, show Kfi (l.getD i []) = K7i (l.getD i []) from rfl]
   cases K7i (l.getD i []) with
   | false => rw [Jaa (c := !false) rfl, h0]; rfl
   | true => rw [Jab (c := !true) rfl, ih]; rfl
  ·rw [Jab (ff (by omega)), h1, List.drop_eq_nil_of_le (by omega), e]; rfl
theorem J56 (l : List (List Rec)) (_ : Jx5 l = true) : ∃ F, ∀ {X : Type} (fail : X) (ret : Bool → X), Ka4 F l fail ret = ret (Jj3 l) := ⟨13, fun fail ret => by
 unfold Ka4 Jj3
 refine (Kgy 13 fail _ _ ret l (fun _ => rfl) (fun _ _ => rfl) 12 12 0 false (by omega) (by omega)).trans ?_
 rw [List.drop_zero]
 by_cases c : l.length ≤ 12
 ·rw [List.take_of_length_le c]
 ·rw [ff c, Bool.and_false, Bool.and_false]⟩
end Go.AI
