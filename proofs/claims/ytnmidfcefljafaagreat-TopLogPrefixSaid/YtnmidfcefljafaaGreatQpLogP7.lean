/- Texts of the proof, joined: LogP7. Names of our own are shortened by program; the long ones stand in wip/. -/
import Derived.Test.YtnmidfcefljafaaGreatQpLogP6
namespace Go.AI
open Go
theorem Kzw : ∀ (ps s : List Ja4) (a : Nat), a + ps.length ≤ s.length → Kq1 s (wrS a ps) = s.take a ++ ps ++ s.drop (a + ps.length)
 | [], s, a, _ => by simp [wrS, Kq1]
 | p :: ps, s, a, h => by
  rw [List.length_cons] at h
  have e : Kq1 s (wrS a (p :: ps)) = Kq1 (s.set a p) (wrS ((a + 1 : Nat) : Int) ps) := by
   show Kq1 (s.set (a : Int).toNat p) (wrS ((a : Int) + 1) ps) = _
   rw [Int.toNat_natCast, Jte]
  rw [e, Kzw ps _ (a + 1) (by rw [List.length_set]; omega), List.drop_set_of_lt (by omega), List.length_cons, show a + 1 + ps.length = a + (ps.length + 1) by omega]
  have e2 : (s.set a p).take (a + 1) = s.take a ++ [p] := by
   rw [Jhm _ a z16 (by rw [List.length_set]; omega), List.take_set_of_le (Nat.le_refl _)]
   congr 1
   simp [List.getD, show a < s.length by omega]
  rw [e2]; simp
theorem K6e : ∀ (ps : List Ja4) (a n : Nat), a + ps.length ≤ n → okP n (wrS a ps) = true
 | [], _, _, _ => rfl
 | p :: ps, a, n, h => by
  rw [List.length_cons] at h
  show (decide (0 ≤ (a : Int) ∧ (a : Int) < (n : Int)) && okP n (wrS ((a : Int) + 1) ps)) = true
  rw [tt (by omega), Jte, K6e ps (a + 1) n (by omega)]; rfl
def Ja5 (s : List Ja4) : DK := (s, ([], ()))
theorem Jwx {s : List Ja4} (h1 : 1 ≤ s.length) (h2 : s.length ≤ 8192) : okD (Ja5 s) = true := Jot.2 ⟨⟨h1, h2⟩, rfl⟩
theorem K4p {s : List Ja4} {a : Nat} {ps : List Ja4} (h : a + ps.length ≤ s.length) (l : List DOp) (i : Int) :
  goD (Ja5 s) (wrO a ps :: syO :: l) i = goD (Ja5 (s.take a ++ ps ++ s.drop (a + ps.length))) l (i + 1 + 1) := by
 have hf : Kbm (Ja5 s) (a : Int) (ps.length : Int) = true := tt (by show (0 : Int) ≤ a ∧ (0 : Int) ≤ (ps.length : Int) ∧ (a : Int) + (ps.length : Int) ≤ (s.length : Int); omega)
 have e1 : Jjo (Ja5 s) (wrO a ps) = ((s, (wrS a ps, ())), 0) := by
  show (if (0 : Int) = 0 then (if Kbm (Ja5 s) (a : Int) (ps.length : Int) then _ else _) else _) = _
  rw [if_pos rfl, hf]; rfl
 have e2 : Jjo ((s, (wrS a ps, ())) : DK) syO = (Ja5 (Kq1 s (wrS a ps)), 0) := rfl
 rw [goD, e1, if_pos rfl, goD, e2, if_pos rfl, Kzw ps s a h]
theorem Ji3 {s : List Ja4} (h1 : 1 ≤ s.length) (h2 : s.length ≤ 8192) (l : List DOp) : Jn4 (Ja5 s) l = goD (Ja5 s) l 0 := if_pos (Jwx h1 h2)
theorem K8p {s : List Ja4} {n : Nat} (hs : s.length = n) (h1 : 2 ≤ n) (h2 : n ≤ 8192) : Jn4 (Ja5 s) (K2j n) = (Ja5 (Jh2 :: List.replicate (n - 1) z16), (4, 0)) := by
 rw [Ji3 (by omega) (by omega), show K2j n = [wrO 0 (List.replicate (n : Int).toNat z16), syO, wrO 0 [Jh2], syO] from if_pos (by omega), Int.toNat_natCast]
 have e1 := K4p (s := s) (a := 0) (ps := List.replicate n z16) (by rw [List.length_replicate]; omega) [wrO 0 [Jh2], syO] 0
 rw [show wrO ((0 : Nat) : Int) (List.replicate n z16) = wrO 0 (List.replicate n z16) from rfl] at e1
 rw [e1, List.length_replicate, List.take_zero, List.nil_append, List.drop_eq_nil_of_le (by omega), List.append_nil]
 have e2 := K4p (s := List.replicate n z16) (a := 0) (ps := [Jh2]) (by rw [List.length_replicate]; show 0 + 1 ≤ n; omega) [] (0 + 1 + 1)
 rw [show wrO ((0 : Nat) : Int) [Jh2] = wrO 0 [Jh2] from rfl] at e2
 rw [e2, List.take_zero, List.nil_append, show (0 : Nat) + [Jh2].length = 1 from rfl, List.drop_replicate]; rfl
end Go.AI
