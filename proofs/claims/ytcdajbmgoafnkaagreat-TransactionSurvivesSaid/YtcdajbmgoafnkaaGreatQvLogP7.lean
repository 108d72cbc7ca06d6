/- Texts of the proof, joined: LogP7. Names of our own are shortened by program; the long ones stand in wip/. -/
import Derived.Test.YtcdajbmgoafnkaaGreatQvLogP6
namespace Go.AI
open Go
theorem Kyz : ∀ (ps s : List Jbe) (a : Nat), a + ps.length ≤ s.length → Kp4 s (wrS a ps) = s.take a ++ ps ++ s.drop (a + ps.length)
 | [], s, a, _ => by simp [wrS, Kp4]
 | p :: ps, s, a, h => by
  rw [List.length_cons] at h
  have e : Kp4 s (wrS a (p :: ps)) = Kp4 (s.set a p) (wrS ((a + 1 : Nat) : Int) ps) := by
   show Kp4 (s.set (a : Int).toNat p) (wrS ((a : Int) + 1) ps) = _
   rw [Int.toNat_natCast, Juu]
  rw [e, Kyz ps _ (a + 1) (by rw [List.length_set]; omega), List.drop_set_of_lt (by omega), List.length_cons, show a + 1 + ps.length = a + (ps.length + 1) by omega]
  have e2 : (s.set a p).take (a + 1) = s.take a ++ [p] := by
   rw [Jfe _ a z16 (by rw [List.length_set]; omega), List.take_set_of_le (Nat.le_refl _)]
   congr 1
   simp [List.getD, show a < s.length by omega]
  rw [e2]; simp
theorem K5z : ∀ (ps : List Jbe) (a n : Nat), a + ps.length ≤ n → okP n (wrS a ps) = true
 | [], _, _, _ => rfl
 | p :: ps, a, n, h => by
  rw [List.length_cons] at h
  show (decide (0 ≤ (a : Int) ∧ (a : Int) < (n : Int)) && okP n (wrS ((a : Int) + 1) ps)) = true
  rw [tt (by omega), Juu, K5z ps (a + 1) n (by omega)]; rfl
def Jbp (s : List Jbe) : DK := (s, ([], ()))
theorem Jw2 {s : List Jbe} (h1 : 1 ≤ s.length) (h2 : s.length ≤ 8192) : okD (Jbp s) = true := Joy.2 ⟨⟨h1, h2⟩, rfl⟩
theorem K32 {s : List Jbe} {a : Nat} {ps : List Jbe} (h : a + ps.length ≤ s.length) (l : List DOp) (i : Int) :
  goD (Jbp s) (wrO a ps :: syO :: l) i = goD (Jbp (s.take a ++ ps ++ s.drop (a + ps.length))) l (i + 1 + 1) := by
 have hf : Ka6 (Jbp s) (a : Int) (ps.length : Int) = true := tt (by show (0 : Int) ≤ a ∧ (0 : Int) ≤ (ps.length : Int) ∧ (a : Int) + (ps.length : Int) ≤ (s.length : Int); omega)
 have e1 : Jjw (Jbp s) (wrO a ps) = ((s, (wrS a ps, ())), 0) := by
  show (if (0 : Int) = 0 then (if Ka6 (Jbp s) (a : Int) (ps.length : Int) then _ else _) else _) = _
  rw [if_pos rfl, hf]; rfl
 have e2 : Jjw ((s, (wrS a ps, ())) : DK) syO = (Jbp (Kp4 s (wrS a ps)), 0) := rfl
 rw [goD, e1, if_pos rfl, goD, e2, if_pos rfl, Kyz ps s a h]
theorem Jjb {s : List Jbe} (h1 : 1 ≤ s.length) (h2 : s.length ≤ 8192) (l : List DOp) : Jpp (Jbp s) l = goD (Jbp s) l 0 := if_pos (Jw2 h1 h2)
theorem K76 {s : List Jbe} {n : Nat} (hs : s.length = n) (h1 : 2 ≤ n) (h2 : n ≤ 8192) : Jpp (Jbp s) (K1x n) = (Jbp (Jhr :: List.replicate (n - 1) z16), (4, 0)) := by
 rw [Jjb (by omega) (by omega), show K1x n = [wrO 0 (List.replicate (n : Int).toNat z16), syO, wrO 0 [Jhr], syO] from if_pos (by omega), Int.toNat_natCast]
 have e1 := K32 (s := s) (a := 0) (ps := List.replicate n z16) (by rw [List.length_replicate]; omega) [wrO 0 [Jhr], syO] 0
 rw [show wrO ((0 : Nat) : Int) (List.replicate n z16) = wrO 0 (List.replicate n z16) from rfl] at e1
 rw [e1, List.length_replicate, List.take_zero, List.nil_append, List.drop_eq_nil_of_le (by omega), List.append_nil]
 have e2 := K32 (s := List.replicate n z16) (a := 0) (ps := [Jhr]) (by rw [List.length_replicate]; show 0 + 1 ≤ n; omega) [] (0 + 1 + 1)
 rw [show wrO ((0 : Nat) : Int) [Jhr] = wrO 0 [Jhr] from rfl] at e2
 rw [e2, List.take_zero, List.nil_append, show (0 : Nat) + [Jhr].length = 1 from rfl, List.drop_replicate]; rfl
end Go.AI
