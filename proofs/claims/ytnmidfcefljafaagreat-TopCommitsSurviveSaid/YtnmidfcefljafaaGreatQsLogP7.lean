/- Texts of the proof, joined: LogP7. Names of our own are shortened by program; the long ones stand in wip/. -/
import Derived.Test.YtnmidfcefljafaaGreatQsLogP6
namespace Go.AI
open Go
theorem Kxx : ∀ (ps s : List Ja4) (a : Nat), a + ps.length ≤ s.length → Kpd s (wrS a ps) = s.take a ++ ps ++ s.drop (a + ps.length)
 | [], s, a, _ => by simp [wrS, Kpd]
 | p :: ps, s, a, h => by
  rw [List.length_cons] at h
  have e : Kpd s (wrS a (p :: ps)) = Kpd (s.set a p) (wrS ((a + 1 : Nat) : Int) ps) := by
   show Kpd (s.set (a : Int).toNat p) (wrS ((a : Int) + 1) ps) = _
   rw [Int.toNat_natCast, Jwc]
  rw [e, Kxx ps _ (a + 1) (by rw [List.length_set]; omega), List.drop_set_of_lt (by omega), List.length_cons, show a + 1 + ps.length = a + (ps.length + 1) by omega]
  have e2 : (s.set a p).take (a + 1) = s.take a ++ [p] := by
   rw [Jhm _ a z16 (by rw [List.length_set]; omega), List.take_set_of_le (Nat.le_refl _)]
   congr 1
   simp [List.getD, show a < s.length by omega]
  rw [e2]; simp
theorem K4h : ∀ (ps : List Ja4) (a n : Nat), a + ps.length ≤ n → okP n (wrS a ps) = true
 | [], _, _, _ => rfl
 | p :: ps, a, n, h => by
  rw [List.length_cons] at h
  show (decide (0 ≤ (a : Int) ∧ (a : Int) < (n : Int)) && okP n (wrS ((a : Int) + 1) ps)) = true
  rw [tt (by omega), Jwc, K4h ps (a + 1) n (by omega)]; rfl
def Ja8 (s : List Ja4) : DK := (s, ([], ()))
theorem Jwk {s : List Ja4} (h1 : 1 ≤ s.length) (h2 : s.length ≤ 8192) : okD (Ja8 s) = true := Jod.2 ⟨⟨h1, h2⟩, rfl⟩
theorem K2o {s : List Ja4} {a : Nat} {ps : List Ja4} (h : a + ps.length ≤ s.length) (l : List DOp) (i : Int) :
  goD (Ja8 s) (wrO a ps :: syO :: l) i = goD (Ja8 (s.take a ++ ps ++ s.drop (a + ps.length))) l (i + 1 + 1) := by
 have hf : Kac (Ja8 s) (a : Int) (ps.length : Int) = true := tt (by show (0 : Int) ≤ a ∧ (0 : Int) ≤ (ps.length : Int) ∧ (a : Int) + (ps.length : Int) ≤ (s.length : Int); omega)
 have e1 : Jjg (Ja8 s) (wrO a ps) = ((s, (wrS a ps, ())), 0) := by
  show (if (0 : Int) = 0 then (if Kac (Ja8 s) (a : Int) (ps.length : Int) then _ else _) else _) = _
  rw [if_pos rfl, hf]; rfl
 have e2 : Jjg ((s, (wrS a ps, ())) : DK) syO = (Ja8 (Kpd s (wrS a ps)), 0) := rfl
 rw [goD, e1, if_pos rfl, goD, e2, if_pos rfl, Kxx ps s a h]
theorem Jiy {s : List Ja4} (h1 : 1 ≤ s.length) (h2 : s.length ≤ 8192) (l : List DOp) : Jo3 (Ja8 s) l = goD (Ja8 s) l 0 := if_pos (Jwk h1 h2)
theorem K6q {s : List Ja4} {n : Nat} (hs : s.length = n) (h1 : 2 ≤ n) (h2 : n ≤ 8192) : Jo3 (Ja8 s) (K0g n) = (Ja8 (Jhe :: List.replicate (n - 1) z16), (4, 0)) := by
 rw [Jiy (by omega) (by omega), show K0g n = [wrO 0 (List.replicate (n : Int).toNat z16), syO, wrO 0 [Jhe], syO] from if_pos (by omega), Int.toNat_natCast]
 have e1 := K2o (s := s) (a := 0) (ps := List.replicate n z16) (by rw [List.length_replicate]; omega) [wrO 0 [Jhe], syO] 0
 rw [show wrO ((0 : Nat) : Int) (List.replicate n z16) = wrO 0 (List.replicate n z16) from rfl] at e1
 rw [e1, List.length_replicate, List.take_zero, List.nil_append, List.drop_eq_nil_of_le (by omega), List.append_nil]
 have e2 := K2o (s := List.replicate n z16) (a := 0) (ps := [Jhe]) (by rw [List.length_replicate]; show 0 + 1 ≤ n; omega) [] (0 + 1 + 1)
 rw [show wrO ((0 : Nat) : Int) [Jhe] = wrO 0 [Jhe] from rfl] at e2
 rw [e2, List.take_zero, List.nil_append, show (0 : Nat) + [Jhe].length = 1 from rfl, List.drop_replicate]; rfl
end Go.AI
