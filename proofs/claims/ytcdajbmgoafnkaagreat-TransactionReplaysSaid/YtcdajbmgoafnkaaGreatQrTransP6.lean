/- Texts of the proof, joined: TransP6. Names of our own are shortened by program; the long ones stand in wip/. -/
import Derived.Test.YtcdajbmgoafnkaaGreatQrG
import Derived.Test.YtcdajbmgoafnkaaGreatQrTransP5
namespace Go.AI
open Go
theorem Ksu {X : Type} (F : Nat) (fail : X) (ret : Jic → List (List Rec) → Int → X) (ex0 ex1 : Bys → Int → List Bys → Int → Int → Jic → Jic → List (List Rec) → X) (h0 : ∀ k e p e2 i s l out, ex0 k e p e2 i s l out = ret s [] e) (h1 : ∀ k e p e2 i s l out, ex1 k e p e2 i s l out = ret l out 0)
  (p : List Bys) (hp : p.length ≤ 1000000) (key : Bys) (l s4 : Jic) (s6 : Int) : ∀ (j m i : Nat) (out : List (List Rec)), i + j = p.length → j ≤ m → out.length ≤ i →
  Jig F fail ex0 ex1 (m + 1) key s6 p 0 i s4 l out = Qpm ret l (Klv key ((i : Int) + 1) (p.drop i) out)
 | 0, m, i, out, hi, _, _ => by
  rw [Jig, Jxj, Jab (ff (by omega)), h1, List.drop_eq_nil_of_le (by omega), Klv]; rfl
 | j + 1, 0, i, _, _, hm, _ => absurd hm (by omega)
 | j + 1, m + 1, i, out, hi, hm, ho => by
  have ih := fun x => Ksu F fail ret ex0 ex1 h0 h1 p hp key l s4 s6 j m (i + 1) (out ++ [x]) (by omega) (by omega) (by rw [List.length_append, List.length_singleton]; omega)
  have hbig : ∀ x : List Rec, decide ((out ++ [x]).length ≤ big) = true := fun x => Jch (by rw [List.length_append, List.length_singleton]; omega)
  rw [Jig, Jxj, Int.toNat_natCast, Jai (by omega) (by omega), Jaa (tt (by omega)), Jaa (tt2 (by omega) (by omega)), Jdj ([] : Bys) (show i < p.length by omega)]
  rw [← J2d] at ih
  rw [J2d]
  rw [J2d] at ih
  generalize p.getD i [] = b
  by_cases ck : key = []
  ·subst ck
   rw [Jab (ff (by simp)), Jaa (c := (0 : Int) == 0) rfl, Jaa (c := Jlf b) rfl, show Jdf b = (J80 b).2 from rfl, show Jfl b = (J80 b).1 from rfl]
   by_cases c : (J80 b).2 = 0
   ·rw [Jab (Jgm c), Jaa (hbig _), Kbr (by rw [Juw]; exact c), Juw, c]
    exact ih _
   ·rw [Jaa (Jhl c), h0, Jsm (by rw [Juw]; exact c), Juw, Jxs _ _ c]; rfl
  ·have hk : 0 < key.length := List.length_pos_iff.2 ck
   rw [Jaa (tt (by omega)), Jaa (c := J4c _ _ _) rfl, show ∀ n, Jjr key n b = Klp key n b from fun _ => rfl, show ∀ n, Jho key n b = Qg3 key n b from fun _ => rfl]
   by_cases c : Klp key ((i + 1 : Nat) : Int) b = 0
   ·rw [Jaa (Jk8 c), Jaa (c := Jlf _) rfl, show ∀ x, Jdf x = (J80 x).2 from fun _ => rfl, show ∀ x, Jfl x = (J80 x).1 from fun _ => rfl]
    by_cases c2 : (J80 (Qg3 key ((i + 1 : Nat) : Int) b)).2 = 0
    ·rw [Jab (Jgm c2), Jaa (hbig _), Kbr (by rw [J6k ck c]; exact c2), J6k ck c, c2]
     exact ih _
    ·rw [Jaa (Jhl c2), h0, Jsm (by rw [J6k ck c]; exact c2), J6k ck c, Jxs _ _ c2]; rfl
   ·rw [Jab (Jl3 c), Jaa (Jhl c), h0, Jsm (by rw [Knm ck c]; exact c), Knm ck c, Jxs _ _ c]; rfl
theorem Kno (d : DK) (key : Bys) (h : J1t d key = true) : ∃ F, ∀ {X : Type} (fail : X) (ret : Jic → List (List Rec) → Int → X), Kyz F d key fail ret = ret (Jwt d key) (Jqh d key) (Jwu d key) := ⟨(opB d).length + 1, fun fail ret => by
 have hlen := Kz0 d
 have hs : d.1.length ≤ 1000000 := by
  have h := h
  unfold J1t Jj9 at h
  rw [Bool.and_eq_true] at h
  exact (Jgb.1 h.1).1
 unfold Kyz Jwt Jqh Jwu
 rw [Jaa (c := Jzj d) h, show Jl8 d = opE d from rfl, show Jr0 d = opB d from rfl, show Jrz d = opL d from rfl]
 by_cases c : opE d = 0
 ·rw [Jab (Jgm c)]
  by_cases c2 : (key.length : Int) > 64
  ·obtain ⟨e1, e2, e3⟩ := K5c (key := key) c (by omega)
   rw [Jaa (tt c2), e1, e2, e3]; rfl
  ·rw [Jab (ff c2), c]
   refine (Ksu ((opB d).length + 1) fail ret _ _ (fun _ _ _ _ _ _ _ _ => rfl) (fun _ _ _ _ _ _ _ _ => rfl) (opB d) (by omega) key (opL d) _ 0 (opB d).length (opB d).length 0 [] (by omega) (by omega) (by simp)).trans ?_
   rw [List.drop_zero]
   exact Qeb ret c (by omega)
 ·obtain ⟨e1, e2, e3⟩ := Qea c key
  rw [Jaa (Jhl c), e1, e2, e3]; rfl⟩
theorem Qno (a : Jic) : Jtw (.pair (.int .i64) (.pair (.int .i64) (.pair (.int .i64) .unit))) a a = true := (Jxk (.pair (.int .i64) (.pair (.int .i64) (.pair (.int .i64) .unit))) rfl a a).2 rfl
def TransactionReplays_P (d : DK) (_ : Bys) : Bool := Qlx d
def TransactionReplays_r (_ : DK) (_ : Bys) : Bool := true
theorem Jqx (d : DK) (key : Bys) (h : TransactionReplays_P d key = true) : ∃ F, ∀ {X : Type} (fail : X) (ret : Bool → X), TransactionReplays F d key fail ret = ret (TransactionReplays_r d key) := ⟨0, fun fail ret => by
 unfold TransactionReplays
 cases hf : Kic d with
 | false => rfl
 | true =>
 have hf' := hf
 simp only [Kic, decide_eq_true_eq] at hf'
 refine Juu rfl ?_
 by_cases c2 : (key.length : Int) > 200
 ·exact Jcp (tt c2) rfl
 have hP : Jj9 d = true := by
  unfold Jj9
  rw [show Qlx d = true from h, Jgb.2 (by omega)]; rfl
 have hs := Qje d key (by omega)
 refine Juu (ff c2) (Jcp hP (Jcp hP (Jcp rfl (Jcp (Qno _) ?_))))
 refine Jcp (show (Qig (K63 d key) && Qig (K63 d key)) = true by rw [hs]; rfl) ?_
 exact Jcp (show decide (K63 d key = K63 d key) = true from tt rfl) (congrArg ret (show (K37 d key == K37 d key) = true from Jk8 rfl))⟩
end Go.AI
