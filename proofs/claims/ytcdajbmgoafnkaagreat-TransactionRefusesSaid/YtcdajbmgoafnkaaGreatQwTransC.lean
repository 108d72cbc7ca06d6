/- Texts of the proof, joined: TransC. Names of our own are shortened by program; the long ones stand in wip/. -/
import Derived.Test.YtcdajbmgoafnkaaGreatQwLogU
import Derived.Test.YtcdajbmgoafnkaaGreatQwCipherT
import Derived.Test.YtcdajbmgoafnkaaGreatQwTransP5
namespace Go.AI
open Go
def Kao (key : Bys) : Nat → List (List Rec) → List Bys
 | _, [] => []
 | c, r :: l => J0d key (c : Int) r :: Kao key (c + 1) l
structure Kx9 (key : Bys) (r : List Rec) : Prop where
 enc : Kcu r = 0
 small : key = [] ∨ ((1 ≤ key.length ∧ key.length ≤ 64) ∧ (Jr2 r).length ≤ 65520)
theorem J49 (key : Bys) : ∀ (l : List (List Rec)) (c : Nat), (Kao key c l).length = l.length
 | [], _ => rfl
 | _ :: l, c => congrArg (· + 1) (J49 key l (c + 1))
theorem J68 (key : Bys) (r : List Rec) : ∀ (l : List (List Rec)) (c : Nat), Kao key c (l ++ [r]) = Kao key c l ++ [J0d key ((c + l.length : Nat) : Int) r]
 | [], c => by simp [Kao]
 | x :: l, c => by
  rw [List.cons_append, Kao, Kao, J68 key r l (c + 1), List.length_cons, show c + 1 + l.length = c + (l.length + 1) by omega]; rfl
theorem Qix {r : List Rec} (h : Kcu r = 0) : Kct r = 0 ∧ (Jr2 r).length ≤ 65536 := by
 unfold Kcu at h
 by_cases k : Kct r = 0
 ·rw [if_pos k] at h
  by_cases k2 : (Jr2 r).length > 65536
  ·rw [if_pos k2] at h; cases h
  ·exact ⟨k, by omega⟩
 ·rw [if_neg k] at h; exact absurd h k
theorem Kx9.pay {key : Bys} {r : List Rec} (h : Kx9 key r) {c : Int} (hc : 0 ≤ c ∧ c ≤ 9007199254740991) : Kw4 key c r = 0 ∧ (J0d key c r).length ≤ 65536 ∧ unB key c (J0d key c r) = (r, 0) := by
 obtain ⟨h1, h2⟩ := Qix h.enc
 by_cases ck : key = []
 ·subst ck
  exact ⟨Khl h.enc, by rw [J47]; exact h2, by rw [J47, J1e]; exact K6o h1 h2⟩
 ·rcases h.small with k | ⟨k, kl⟩
  ·exact absurd k ck
  obtain ⟨s1, s2, s3, s4⟩ := Kmm key c (Jr2 r) k (Jqd.2 hc) kl
  refine ⟨(Juv ck h.enc).trans s1, by rw [Jy9 ck]; omega, ?_⟩
  rw [Jy9 ck, Kmj ck s3, s4]
  exact K6o h1 h2
theorem Kx9.of {key : Bys} {r : List Rec} {c : Int} (h : Kw4 key c r = 0) : Kx9 key r := by
 by_cases he : Kcu r = 0
 ·refine ⟨he, ?_⟩
  by_cases ck : key = []
  ·exact .inl ck
  ·right
   rw [Juv ck he] at h
   unfold Kji at h
   by_cases c1 : Kaf key = true
   ·rw [if_pos c1] at h
    by_cases c2 : ((Jr2 r).length : Int) > 65520
    ·rw [if_pos c2] at h; cases h
    ·exact ⟨Ks1.1 c1, by omega⟩
   ·rw [if_neg c1] at h; cases h
 ·rw [Khm he] at h; exact absurd h he
theorem Kmn (key : Bys) : ∀ (l : List (List Rec)) (c : Nat) (out : List (List Rec)), (∀ r, r ∈ l → Kx9 key r) → c + l.length ≤ 9007199254740991 → J6t key (c : Int) (Kao key c l) out = (out ++ l, 0)
 | [], c, out, _, _ => by rw [Kao, J6t, List.append_nil]
 | r :: l, c, out, h, hc => by
  rw [List.length_cons] at hc
  obtain ⟨_, _, e⟩ := (h r List.mem_cons_self).pay (c := (c : Int)) (by omega)
  rw [Kao, J1f (by rw [e]), e, J0e, Kmn key l (c + 1) _ (fun x hx => h x (List.mem_cons_of_mem _ hx)) (by omega), List.append_assoc]; rfl
abbrev lgT (key : Bys) (done : List (List Rec)) (n : Nat) : Jf6 := Jcj (Kao key 1 done) n
structure Jiq (key : Bys) (n : Nat) (s : List Ja7) (done : List (List Rec)) : Prop where
 log : ∃ rest, Jgb n s (Kao key 1 done) rest
 ok : ∀ r, r ∈ done → Kx9 key r
theorem Jiq.few {key : Bys} {n : Nat} {s : List Ja7} {done : List (List Rec)} (h : Jiq key n s done) : done.length < n ∧ s.length = n := by
 obtain ⟨rest, h⟩ := h.log
 have hz := h.size
 have hl := Jzb (Kao key 1 done) 1
 rw [J49] at hl
 exact ⟨by omega, h.len⟩
theorem Jiq.replay {key : Bys} {n : Nat} {s : List Ja7} {done : List (List Rec)} (h : Jiq key n s done) (hk : key.length ≤ 64) (h1 : 2 ≤ n) (h2 : n ≤ 8192) :
  Ji1 (Jba s) = true ∧ Krh (Jba s) key = 0 ∧ Qa0 (Jba s) key = lgT key done n ∧ Kk6 (Jba s) key = done := by
 have hf := h.few
 obtain ⟨rest, hl⟩ := h.log
 obtain ⟨o1, o2, o3⟩ := hl.opens h1 h2
 have e : J6t key 1 (opB (Jba s)) [] = (done, 0) := by
  rw [o3]
  exact Kmn key done 1 [] h.ok (by omega)
 have eE : Krh (Jba s) key = 0 := by rw [Khq o1 (by omega), e]
 refine ⟨hl.opP h2, eE, ?_, ?_⟩
 ·unfold Qa0; rw [if_pos eE, o2]
 ·unfold Kk6; rw [if_pos eE, e]
theorem Jiq.com {key : Bys} {n : Nat} {s : List Ja7} {done : List (List Rec)} (h : Jiq key n s done) (h1 : 2 ≤ n) (h2 : n ≤ 8192) {r : List Rec} (hr : Kx9 key r) :
  (Kqb (lgT key done n) key r = appE (lgT key done n) (J0d key ((1 + done.length : Nat) : Int) r)) ∧ J2r (lgT key done n) key r = K4e (lgT key done n) (J0d key ((1 + done.length : Nat) : Int) r) ∧ K19 (lgT key done n) key r = Qdb (lgT key done n) (J0d key ((1 + done.length : Nat) : Int) r) := by
 have hf := h.few
 obtain ⟨rest, hl⟩ := h.log
 have hc := hl.chk h1 h2
 have e : (lgT key done n).2.1 + 1 = ((1 + done.length : Nat) : Int) := by
  show ((Kao key 1 done).length : Int) + 1 = _
  rw [J49]; omega
 have hp := (hr.pay (c := ((1 + done.length : Nat) : Int)) (by omega)).1
 obtain ⟨e1, e2, e3⟩ := Kmi (key := key) (r := r) hc (by rw [e]; exact hp)
 rw [e] at e1 e2 e3
 exact ⟨e3, e2, e1⟩
theorem Jiq.err {key : Bys} {n : Nat} {s : List Ja7} {done : List (List Rec)} (h : Jiq key n s done) (h1 : 2 ≤ n) (h2 : n ≤ 8192) {r : List Rec} (hr : Kx9 key r) :
  (Kqb (lgT key done n) key r = 0 ∧ (Jbv (Kao key 1 done) 1).length + Jar (J0d key ((1 + done.length : Nat) : Int) r).length + 2 ≤ n) ∨ (Kqb (lgT key done n) key r = 11 ∧ n < (Jbv (Kao key 1 done) 1).length + Jar (J0d key ((1 + done.length : Nat) : Int) r).length + 2) := by
 have hf := h.few
 obtain ⟨e1, _, _⟩ := h.com h1 h2 hr
 obtain ⟨rest, hl⟩ := h.log
 have hz := hl.size
 have hb := (hr.pay (c := ((1 + done.length : Nat) : Int)) (by omega)).2.1
 rw [e1]
 rcases hl.appE h1 h2 hb with ⟨a, b⟩ | ⟨a, b⟩
 ·exact .inl ⟨a, by omega⟩
 ·exact .inr ⟨a, by omega⟩
theorem Jiq.snoc {key : Bys} {n : Nat} {s : List Ja7} {done : List (List Rec)} {r : List Rec} (hr : Kx9 key r) (hd : ∀ x, x ∈ done → Kx9 key x) (h : ∃ rest, Jgb n s (Kao key 1 done ++ [J0d key ((1 + done.length : Nat) : Int) r]) rest) : Jiq key n s (done ++ [r]) :=
 ⟨by rw [J68]; exact h, fun x hx => by
  rcases List.mem_append.1 hx with hx | hx
  ·exact hd x hx
  ·rw [List.mem_singleton.1 hx]; exact hr⟩
theorem Jiq.run {key : Bys} {n : Nat} {s : List Ja7} {done : List (List Rec)} (h : Jiq key n s done) (h1 : 2 ≤ n) (h2 : n ≤ 8192) {r : List Rec} (hr : Kx9 key r) (he : Kqb (lgT key done n) key r = 0) :
  Qg7 (Jba s) (J2r (lgT key done n) key r) = true ∧ K19 (lgT key done n) key r = lgT key (done ++ [r]) n ∧ ∃ s' i, J3l (Jba s) (J2r (lgT key done n) key r) = (Jba s', (i, 0)) ∧ Jiq key n s' (done ++ [r]) := by
 have hf := h.few
 obtain ⟨e1, e2, e3⟩ := h.com h1 h2 hr
 obtain ⟨rest, hl⟩ := h.log
 have hb := (hr.pay (c := ((1 + done.length : Nat) : Int)) (by omega)).2.1
 rw [e1] at he
 obtain ⟨a1, _, a3, s', rest', i, a4, a5⟩ := K62 hl h1 h2 hb he
 rw [e2, e3]
 refine ⟨a1, ?_, s', i, a4, Jiq.snoc hr h.ok ⟨rest', a5⟩⟩
 rw [a3, ← J68]
theorem Qca {s : List Ja7} (h1 : 1 ≤ s.length) (h2 : s.length ≤ 8192) (l : List DOp) (ch : List Int) : Qe0 (Jba s) l 0 ch = (Jba s, (ch, 0)) := by
 have e := J67 (d := Jba s) (d' := Jba s) (l := l) (k := 0) (i := 0) (ch := ch) (Jy8 h1 h2) (Nat.zero_le _) (by rw [List.take_zero]; exact Jjz h1 h2 [])
 exact e.trans (Jqh h1 h2 ch)
theorem Jiq.int {key : Bys} {n : Nat} {s : List Ja7} {done : List (List Rec)} (h : Jiq key n s done) (h1 : 2 ≤ n) (h2 : n ≤ 8192) {r : List Rec} (hr : Kx9 key r) (he : Kqb (lgT key done n) key r = 0) (k : Nat) (hk : k ≤ (J2r (lgT key done n) key r).length) (ch : List Int) :
  ∃ s' ch', Qe0 (Jba s) (J2r (lgT key done n) key r) (k : Int) ch = (Jba s', (ch', 0)) ∧ ch'.length ≤ ch.length ∧ ((Jiq key n s' done ∧ k ≠ (J2r (lgT key done n) key r).length) ∨ (Jiq key n s' (done ++ [r]) ∧ k ≠ 0)) := by
 have hf := h.few
 obtain ⟨e1, e2, e3⟩ := h.com h1 h2 hr
 obtain ⟨rest, hl⟩ := h.log
 have hb := (hr.pay (c := ((1 + done.length : Nat) : Int)) (by omega)).2.1
 rw [e1] at he
 have hroom : Jar (J0d key ((1 + done.length : Nat) : Int) r).length + 1 ≤ rest.length := by
  rcases hl.appE h1 h2 hb with ⟨_, b⟩ | ⟨a, _⟩
  ·exact b
  ·rw [a] at he; cases he
 obtain ⟨_, a2, _, _⟩ := K62 hl h1 h2 hb he
 rw [e2, a2] at hk ⊢
 by_cases c0 : k = 0
 ·subst c0
  refine ⟨s, ch, Qca (by omega) (by omega) _ _, Nat.le_refl _, .inl ⟨h, ?_⟩⟩
  unfold Jxf
  rw [List.length_append]
  simp
 obtain ⟨s', ch', g1, g2, g3⟩ := Qgt hl h1 h2 hb hroom k hk ch
 refine ⟨s', ch', g1, g2, ?_⟩
 rcases g3 with ⟨⟨rest', g⟩, hne⟩ | g
 ·exact .inl ⟨⟨⟨rest', g⟩, h.ok⟩, hne⟩
 ·exact .inr ⟨Jiq.snoc hr h.ok g, c0⟩
theorem Jiq.fresh (key : Bys) (n : Nat) (h : 1 ≤ n) : Jiq key n (Jh3 :: List.replicate (n - 1) z16) [] := ⟨⟨_, K61 n h⟩, fun _ hx => nomatch hx⟩
theorem Ks4 (x : Rec) (r : List Rec) : wR (x :: r) = 20 + x.2.1.length + wR r := rfl
theorem Khv (r : List Rec) (l : List (List Rec)) : wS (r :: l) = wR r + wS l := rfl
theorem Qgu (l : List (List Rec)) (r : List Rec) : wS (l ++ [r]) = wS l + wR r := by unfold wS; rw [List.map_append, List.sum_append]; simp
theorem Qd4 : ∀ r : List Rec, (r.flatMap Jka).length ≤ wR r
 | [] => Nat.le_refl _
 | x :: r => by
  have h1 := Jfp (Jfk x.1)
  have h2 := Jfp (Jfk x.2.1.length)
  have h3 := Qd4 r
  have h4 : (Jka x).length = (J3m (Jfk x.1)).length + ((J3m (Jfk x.2.1.length)).length + x.2.1.length) := by unfold Jka; rw [List.length_append, List.length_append]
  rw [List.flatMap_cons, List.length_append, Ks4, h4]; omega
theorem Qiy (r : List Rec) : (Jr2 r).length ≤ 8 + wR r := by
 have h1 := Jfp (Jfk r.length)
 have h2 := Qd4 r
 unfold Jr2
 rw [List.length_append]; omega
theorem Qd5 (key : Bys) (c : Int) (r : List Rec) : (J0d key c r).length ≤ 24 + wR r := by
 have h1 := Qiy r
 unfold J0d
 split
 ·omega
 ·unfold Kfn
  split
  ·rw [List.length_append, Jih, Jus]; omega
  ·exact Nat.zero_le _
theorem Qd6 (key : Bys) : ∀ (l : List (List Rec)) (c c' : Nat), 15 * (Jbv (Kao key c l) c').length ≤ 53 * l.length + wS l
 | [], _, _ => Nat.zero_le _
 | r :: l, c, c' => by
  have h1 := Qd6 key l (c + 1) (c' + 1)
  have h2 := Qd5 key (c : Int) r
  rw [Kao, Jbv, List.length_append, Khs, Khv, List.length_cons]
  unfold Jar
  omega
end Go.AI
