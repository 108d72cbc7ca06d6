/- Texts of the proof, joined: TransP5. Names of our own are shortened by program; the long ones stand in wip/. -/
import Derived.Test.YtcdajbmgoafnkaaGreatQwG
import Derived.Test.YtcdajbmgoafnkaaGreatQwTransP2
import Derived.Test.YtcdajbmgoafnkaaGreatQwLogP7
namespace Go.AI
open Go
theorem K6w (d : DK) : (opB d).length ≤ d.1.length := by
 unfold opB
 split
 ·have := (Kme (Jxd d).tail 1).2
  have h2 := J04 d
  rw [List.length_tail] at this; omega
 ·exact Nat.zero_le _
def repK {X : Type} (ret : Jf6 → List (List Rec) → Int → X) (l : Jf6) (x : List (List Rec) × Int) : X := if x.2 = 0 then ret l x.1 0 else ret Kqa [] x.2
theorem Kho {X : Type} (ret : Jf6 → List (List Rec) → Int → X) (l : Jf6) {e : Int} (h : e ≠ 0) : repK ret l ([], e) = ret Kqa [] e := if_neg h
theorem J1e (i : Int) (b : Bys) : unB [] i b = Kah b := if_pos rfl
theorem Kmj {key : Bys} (h : key ≠ []) {i : Int} {b : Bys} (h2 : J4o key i b = 0) : unB key i b = Kah (K9o key i b) := by unfold unB; rw [if_neg h, if_pos h2]
theorem Khp {key : Bys} (h : key ≠ []) {i : Int} {b : Bys} (h2 : J4o key i b ≠ 0) : unB key i b = ([], J4o key i b) := by unfold unB; rw [if_neg h, if_neg h2]
theorem J1f {key : Bys} {i : Int} {b : Bys} {bs : List Bys} {out : List (List Rec)} (h : (unB key i b).2 = 0) : J6t key i (b :: bs) out = J6t key (i + 1) bs (out ++ [(unB key i b).1]) := by rw [J6t, if_pos h]
theorem Jqf {key : Bys} {i : Int} {b : Bys} {bs : List Bys} {out : List (List Rec)} (h : (unB key i b).2 ≠ 0) : J6t key i (b :: bs) out = ([], (unB key i b).2) := by rw [J6t, if_neg h]
theorem Kx4 {X : Type} (F : Nat) (fail : X) (ret : Jf6 → List (List Rec) → Int → X) (ex0 ex1 : List Bys → Int → Int → Bys → Jf6 → Int → List (List Rec) → Bys → Jf6 → X) (h0 : ∀ p a i k s e out k2 l, ex0 p a i k s e out k2 l = ret s [] e) (h1 : ∀ p a i k s e out k2 l, ex1 p a i k s e out k2 l = ret l out 0)
  (p : List Bys) (hp : p.length ≤ 1000000) (key k2 : Bys) (l s4 : Jf6) (s6 : Int) : ∀ (j m i : Nat) (out : List (List Rec)), i + j = p.length → j ≤ m → out.length ≤ i →
  Jgy F fail ex0 ex1 (m + 1) p (p.length : Nat) i k2 s4 s6 out key l = repK ret l (J6t key ((i : Int) + 1) (p.drop i) out)
 | 0, m, i, out, hi, _, _ => by
  rw [Jgy, Juk, Jab (ff (by omega)), h1, List.drop_eq_nil_of_le (by omega), J6t]; rfl
 | j + 1, 0, i, _, _, hm, _ => absurd hm (by omega)
 | j + 1, m + 1, i, out, hi, hm, ho => by
  have ih := fun x => Kx4 F fail ret ex0 ex1 h0 h1 p hp key k2 l s4 s6 j m (i + 1) (out ++ [x]) (by omega) (by omega) (by rw [List.length_append, List.length_singleton]; omega)
  have hbig : ∀ x : List Rec, decide ((out ++ [x]).length ≤ big) = true := fun x => Jcg (by rw [List.length_append, List.length_singleton]; omega)
  rw [Jgy, Juk, Int.toNat_natCast, Jak (by omega) (by omega), Jaa (tt (by omega)), Jaa (tt2 (by omega) (by omega)), Jcu ([] : Bys) (show i < p.length by omega)]
  rw [← J0e] at ih
  rw [J0e]
  rw [J0e] at ih
  generalize p.getD i [] = b
  by_cases ck : key = []
  ·subst ck
   rw [Jab (ff (by simp)), Jaa (c := Jjv b) rfl, show Jej b = (Kah b).2 from rfl, show Jei b = (Kah b).1 from rfl]
   by_cases c : (Kah b).2 = 0
   ·rw [Jab (Jgh c), Jaa (hbig _), J1f (by rw [J1e]; exact c), J1e]
    exact ih _
   ·rw [Jaa (Jj8 c), h0, Jqf (by rw [J1e]; exact c), J1e, Kho _ _ c]; rfl
  ·have hk : 0 < key.length := List.length_pos_iff.2 ck
   rw [Jaa (tt (by omega)), Jaa (c := J0u _ _ _) rfl, show ∀ n, Jkn key n b = J4o key n b from fun _ => rfl, show ∀ n, Jh9 key n b = K9o key n b from fun _ => rfl]
   by_cases c : J4o key ((i + 1 : Nat) : Int) b = 0
   ·rw [Jaa (Jnv c), Jaa (c := Jjv _) rfl, show ∀ x, Jej x = (Kah x).2 from fun _ => rfl, show ∀ x, Jei x = (Kah x).1 from fun _ => rfl]
    by_cases c2 : (Kah (K9o key ((i + 1 : Nat) : Int) b)).2 = 0
    ·rw [Jab (Jgh c2), Jaa (hbig _), J1f (by rw [Kmj ck c]; exact c2), Kmj ck c]
     exact ih _
    ·rw [Jaa (Jj8 c2), h0, Jqf (by rw [Kmj ck c]; exact c2), Kmj ck c, Kho _ _ c2]; rfl
   ·rw [Jab (Jkj c), Jaa (Jj8 c), h0, Jqf (by rw [Khp ck c]; exact c), Khp ck c, Kho _ _ c]; rfl
theorem Qgp {d : DK} (h : opE d ≠ 0) (key : Bys) : Krh d key = opE d ∧ Qa0 d key = Kqa ∧ Kk6 d key = [] := by
 have e : Krh d key = opE d := if_neg h
 exact ⟨e, if_neg (by rw [e]; exact h), if_neg (by rw [e]; exact h)⟩
theorem Qb4 {d : DK} (h : opE d = 0) {key : Bys} (hk : key.length > 64) : Krh d key = 1 ∧ Qa0 d key = Kqa ∧ Kk6 d key = [] := by
 have e : Krh d key = 1 := by unfold Krh; rw [if_pos h, if_pos hk]
 exact ⟨e, if_neg (by rw [e]; decide), if_neg (by rw [e]; decide)⟩
theorem Khq {d : DK} (h : opE d = 0) {key : Bys} (hk : ¬ key.length > 64) : Krh d key = (J6t key 1 (opB d) []).2 := by unfold Krh; rw [if_pos h, if_neg hk]
theorem Qgq {X : Type} (ret : Jf6 → List (List Rec) → Int → X) {d : DK} (h : opE d = 0) {key : Bys} (hk : ¬ key.length > 64) : repK ret (opL d) (J6t key 1 (opB d) []) = ret (Qa0 d key) (Kk6 d key) (Krh d key) := by
 have e := Khq h hk
 unfold repK
 by_cases c : (J6t key 1 (opB d) []).2 = 0
 ·rw [if_pos c]
  have e2 : Qa0 d key = opL d := if_pos (by rw [e]; exact c)
  have e3 : Kk6 d key = (J6t key 1 (opB d) []).1 := if_pos (by rw [e]; exact c)
  rw [e2, e3, e, c]
 ·rw [if_neg c]
  have e2 : Qa0 d key = Kqa := if_neg (by rw [e]; exact c)
  have e3 : Kk6 d key = [] := if_neg (by rw [e]; exact c)
  rw [e2, e3, e]
theorem Khr (d : DK) (key : Bys) (h : Jl8 d key = true) : ∃ F, ∀ {X : Type} (fail : X) (ret : Jf6 → List (List Rec) → Int → X), Kr1 F d key fail ret = ret (Joj d key) (Je6 d key) (Jty d key) := ⟨(opB d).length + 1, fun fail ret => by
 have hlen := K6w d
 have hs : d.1.length ≤ 1000000 := by
  have h := h
  unfold Jl8 Ji1 at h
  rw [Bool.and_eq_true] at h
  exact (Jie.1 h.1).1
 unfold Kr1 Joj Je6 Jty
 rw [Jaa (c := Ji1 d) h, show Jkv d = opE d from rfl, show Jfc d = opB d from rfl, show Jpr d = opL d from rfl]
 by_cases c : opE d = 0
 ·rw [Jab (Jgh c)]
  by_cases c2 : (key.length : Int) > 64
  ·obtain ⟨e1, e2, e3⟩ := Qb4 (key := key) c (by omega)
   rw [Jaa (tt c2), e1, e2, e3]; rfl
  ·rw [Jab (ff c2)]
   refine (Kx4 ((opB d).length + 1) fail ret _ _ (fun _ _ _ _ _ _ _ _ _ => rfl) (fun _ _ _ _ _ _ _ _ _ => rfl) (opB d) (by omega) key key (opL d) _ 0 (opB d).length (opB d).length 0 [] (by omega) (by omega) (by simp)).trans ?_
   rw [List.drop_zero]
   exact Qgq ret c (by omega)
 ·obtain ⟨e1, e2, e3⟩ := Qgp c key
  rw [Jaa (Jj8 c), e1, e2, e3]; rfl⟩
theorem Kmk : ∀ (n : Nat) (b : List UInt8) (out : List Rec), (Krg n b out).1.length ≤ out.length + n
 | 0, b, out => by
  rw [Krg]
  split
  ·exact Nat.le_refl _
  ·exact Nat.zero_le _
 | n + 1, b, out => by
  rw [Krg]
  split
  ·exact Nat.zero_le _
  split
  ·split
   ·exact Nat.zero_le _
   ·have := Kmk n (Jay (Jbc b).2.1).2.1 (out ++ [((Jbc b).1, ((Jay (Jbc b).2.1).1, ()))])
    rw [List.length_append, List.length_singleton] at this; omega
  ·exact Nat.zero_le _
theorem Kx5 (b : List UInt8) : (Kah b).1.length ≤ 1024 := by
 unfold Kah
 split
 ·exact Nat.zero_le _
 split
 ·exact Nat.zero_le _
 split
 ·exact Nat.zero_le _
 ·have := Kmk (Jbc b).1.toNat (Jbc b).2.1 []
  rw [List.length_nil] at this; omega
theorem Qgr (key : Bys) (i : Int) (b : Bys) : (unB key i b).1.length ≤ 1024 := by
 unfold unB
 split
 ·exact Kx5 _
 split
 ·exact Kx5 _
 ·exact Nat.zero_le _
theorem Kx6 (key : Bys) : ∀ (bs : List Bys) (i : Int) (out : List (List Rec)), (∀ x, x ∈ out → K9q x = true) → (∀ x, x ∈ (J6t key i bs out).1 → K9q x = true) ∧ (J6t key i bs out).1.length ≤ out.length + bs.length
 | [], i, out, h => by rw [J6t]; exact ⟨h, Nat.le_refl _⟩
 | b :: bs, i, out, h => by
  by_cases c : (unB key i b).2 = 0
  ·rw [J1f c]
   obtain ⟨h1, h2⟩ := Kx6 key bs (i + 1) (out ++ [(unB key i b).1]) fun x hx => by
    rcases List.mem_append.1 hx with hx | hx
    ·exact h x hx
    ·rw [List.mem_singleton.1 hx]
     have := Qgr key i b
     exact tt (by omega)
   refine ⟨h1, ?_⟩
   rw [List.length_append, List.length_singleton] at h2
   rw [List.length_cons]; omega
  ·rw [Jqf c]
   exact ⟨(fun _ hx => nomatch hx), Nat.zero_le _⟩
theorem Qb5 (d : DK) (key : Bys) (h : d.1.length ≤ 1000000) : K18 (Kk6 d key) = true := by
 have hl := K6w d
 unfold Kk6
 split
 ·obtain ⟨h1, h2⟩ := Kx6 key (opB d) 1 [] fun _ hx => nomatch hx
  rw [List.length_nil] at h2
  unfold K18
  rw [Bool.and_eq_true, decide_eq_true_eq]
  exact ⟨by omega, List.all_eq_true.2 h1⟩
 ·rfl
end Go.AI
