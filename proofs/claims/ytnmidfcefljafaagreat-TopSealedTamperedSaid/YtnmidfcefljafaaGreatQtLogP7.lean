/- Texts of the proof, joined: LogP7. -/
import Derived.Test.YtnmidfcefljafaaGreatQtLogP6
namespace Go.AI
open Go
theorem putS_wr : ∀ (ps s : List Page) (a : Nat), a + ps.length ≤ s.length → putS s (wrS a ps) = s.take a ++ ps ++ s.drop (a + ps.length)
 | [], s, a, _ => by simp [wrS, putS]
 | p :: ps, s, a, h => by
  rw [List.length_cons] at h
  have e : putS s (wrS a (p :: ps)) = putS (s.set a p) (wrS ((a + 1 : Nat) : Int) ps) := by
   show putS (s.set (a : Int).toNat p) (wrS ((a : Int) + 1) ps) = _
   rw [Int.toNat_natCast, nat1]
  rw [e, putS_wr ps _ (a + 1) (by rw [List.length_set]; omega), List.drop_set_of_lt (by omega), List.length_cons, show a + 1 + ps.length = a + (ps.length + 1) by omega]
  have e2 : (s.set a p).take (a + 1) = s.take a ++ [p] := by
   rw [take_snoc _ a z16 (by rw [List.length_set]; omega), List.take_set_of_le (Nat.le_refl _)]
   congr 1
   simp [List.getD, show a < s.length by omega]
  rw [e2]; simp
theorem okP_wr : ∀ (ps : List Page) (a n : Nat), a + ps.length ≤ n → okP n (wrS a ps) = true
 | [], _, _, _ => rfl
 | p :: ps, a, n, h => by
  rw [List.length_cons] at h
  show (decide (0 ≤ (a : Int) ∧ (a : Int) < (n : Int)) && okP n (wrS ((a : Int) + 1) ps)) = true
  rw [tt (by omega), nat1, okP_wr ps (a + 1) n (by omega)]; rfl
def still (s : List Page) : DK := (s, ([], ()))
theorem still_ok {s : List Page} (h1 : 1 ≤ s.length) (h2 : s.length ≤ 8192) : okD (still s) = true := okD_iff.2 ⟨⟨h1, h2⟩, rfl⟩
theorem go_wr {s : List Page} {a : Nat} {ps : List Page} (h : a + ps.length ≤ s.length) (l : List DOp) (i : Int) :
  goD (still s) (wrO a ps :: syO :: l) i = goD (still (s.take a ++ ps ++ s.drop (a + ps.length))) l (i + 1 + 1) := by
 have hf : fitD (still s) (a : Int) (ps.length : Int) = true := tt (by show (0 : Int) ≤ a ∧ (0 : Int) ≤ (ps.length : Int) ∧ (a : Int) + (ps.length : Int) ≤ (s.length : Int); omega)
 have e1 : stepD (still s) (wrO a ps) = ((s, (wrS a ps, ())), 0) := by
  show (if (0 : Int) = 0 then (if fitD (still s) (a : Int) (ps.length : Int) then _ else _) else _) = _
  rw [if_pos rfl, hf]; rfl
 have e2 : stepD ((s, (wrS a ps, ())) : DK) syO = (still (putS s (wrS a ps)), 0) := rfl
 rw [goD, e1, if_pos rfl, goD, e2, if_pos rfl, putS_wr ps s a h]
theorem run_still {s : List Page} (h1 : 1 ≤ s.length) (h2 : s.length ≤ 8192) (l : List DOp) : runD (still s) l = goD (still s) l 0 := if_pos (still_ok h1 h2)
theorem fmt_run {s : List Page} {n : Nat} (hs : s.length = n) (h1 : 2 ≤ n) (h2 : n ≤ 8192) : runD (still s) (fmtO n) = (still (headP :: List.replicate (n - 1) z16), (4, 0)) := by
 rw [run_still (by omega) (by omega), show fmtO n = [wrO 0 (List.replicate (n : Int).toNat z16), syO, wrO 0 [headP], syO] from if_pos (by omega), Int.toNat_natCast]
 have e1 := go_wr (s := s) (a := 0) (ps := List.replicate n z16) (by rw [List.length_replicate]; omega) [wrO 0 [headP], syO] 0
 rw [show wrO ((0 : Nat) : Int) (List.replicate n z16) = wrO 0 (List.replicate n z16) from rfl] at e1
 rw [e1, List.length_replicate, List.take_zero, List.nil_append, List.drop_eq_nil_of_le (by omega), List.append_nil]
 have e2 := go_wr (s := List.replicate n z16) (a := 0) (ps := [headP]) (by rw [List.length_replicate]; show 0 + 1 ≤ n; omega) [] (0 + 1 + 1)
 rw [show wrO ((0 : Nat) : Int) [headP] = wrO 0 [headP] from rfl] at e2
 rw [e2, List.take_zero, List.nil_append, show (0 : Nat) + [headP].length = 1 from rfl, List.drop_replicate]; rfl
end Go.AI
