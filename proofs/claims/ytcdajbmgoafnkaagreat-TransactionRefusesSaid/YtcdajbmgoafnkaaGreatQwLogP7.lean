/- Texts of the proof, joined: LogP7. Names of our own are shortened by program; the long ones stand in wip/. -/
import Derived.Test.YtcdajbmgoafnkaaGreatQwLogP6
namespace Go.AI
open Go
theorem K6l : ∀ (ps s : List Ja7) (a : Nat), a + ps.length ≤ s.length → Kwt s (wrS a ps) = s.take a ++ ps ++ s.drop (a + ps.length)
 | [], s, a, _ => by simp [wrS, Kwt]
 | p :: ps, s, a, h => by
  rw [List.length_cons] at h
  have e : Kwt s (wrS a (p :: ps)) = Kwt (s.set a p) (wrS ((a + 1 : Nat) : Int) ps) := by
   show Kwt (s.set (a : Int).toNat p) (wrS ((a : Int) + 1) ps) = _
   rw [Int.toNat_natCast, J0e]
  rw [e, K6l ps _ (a + 1) (by rw [List.length_set]; omega), List.drop_set_of_lt (by omega), List.length_cons, show a + 1 + ps.length = a + (ps.length + 1) by omega]
  have e2 : (s.set a p).take (a + 1) = s.take a ++ [p] := by
   rw [Jdx _ a z16 (by rw [List.length_set]; omega), List.take_set_of_le (Nat.le_refl _)]
   congr 1
   simp [List.getD, show a < s.length by omega]
  rw [e2]; simp
theorem Qd0 : ∀ (ps : List Ja7) (a n : Nat), a + ps.length ≤ n → okP n (wrS a ps) = true
 | [], _, _, _ => rfl
 | p :: ps, a, n, h => by
  rw [List.length_cons] at h
  show (decide (0 ≤ (a : Int) ∧ (a : Int) < (n : Int)) && okP n (wrS ((a : Int) + 1) ps)) = true
  rw [tt (by omega), J0e, Qd0 ps (a + 1) n (by omega)]; rfl
def Jba (s : List Ja7) : DK := (s, ([], ()))
theorem Jy8 {s : List Ja7} (h1 : 1 ≤ s.length) (h2 : s.length ≤ 8192) : okD (Jba s) = true := Jsa.2 ⟨⟨h1, h2⟩, rfl⟩
theorem Qb0 {s : List Ja7} {a : Nat} {ps : List Ja7} (h : a + ps.length ≤ s.length) (l : List DOp) (i : Int) :
  goD (Jba s) (wrO a ps :: syO :: l) i = goD (Jba (s.take a ++ ps ++ s.drop (a + ps.length))) l (i + 1 + 1) := by
 have hf : Kfi (Jba s) (a : Int) (ps.length : Int) = true := tt (by show (0 : Int) ≤ a ∧ (0 : Int) ≤ (ps.length : Int) ∧ (a : Int) + (ps.length : Int) ≤ (s.length : Int); omega)
 have e1 : Jm6 (Jba s) (wrO a ps) = ((s, (wrS a ps, ())), 0) := by
  show (if (0 : Int) = 0 then (if Kfi (Jba s) (a : Int) (ps.length : Int) then _ else _) else _) = _
  rw [if_pos rfl, hf]; rfl
 have e2 : Jm6 ((s, (wrS a ps, ())) : DK) syO = (Jba (Kwt s (wrS a ps)), 0) := rfl
 rw [goD, e1, if_pos rfl, goD, e2, if_pos rfl, K6l ps s a h]
theorem Jjz {s : List Ja7} (h1 : 1 ≤ s.length) (h2 : s.length ≤ 8192) (l : List DOp) : J3l (Jba s) l = goD (Jba s) l 0 := if_pos (Jy8 h1 h2)
theorem Qgj {s : List Ja7} {n : Nat} (hs : s.length = n) (h1 : 2 ≤ n) (h2 : n ≤ 8192) : J3l (Jba s) (K9p n) = (Jba (Jh3 :: List.replicate (n - 1) z16), (4, 0)) := by
 rw [Jjz (by omega) (by omega), show K9p n = [wrO 0 (List.replicate (n : Int).toNat z16), syO, wrO 0 [Jh3], syO] from if_pos (by omega), Int.toNat_natCast]
 have e1 := Qb0 (s := s) (a := 0) (ps := List.replicate n z16) (by rw [List.length_replicate]; omega) [wrO 0 [Jh3], syO] 0
 rw [show wrO ((0 : Nat) : Int) (List.replicate n z16) = wrO 0 (List.replicate n z16) from rfl] at e1
 rw [e1, List.length_replicate, List.take_zero, List.nil_append, List.drop_eq_nil_of_le (by omega), List.append_nil]
 have e2 := Qb0 (s := List.replicate n z16) (a := 0) (ps := [Jh3]) (by rw [List.length_replicate]; show 0 + 1 ≤ n; omega) [] (0 + 1 + 1)
 rw [show wrO ((0 : Nat) : Int) [Jh3] = wrO 0 [Jh3] from rfl] at e2
 rw [e2, List.take_zero, List.nil_append, show (0 : Nat) + [Jh3].length = 1 from rfl, List.drop_replicate]; rfl
end Go.AI
