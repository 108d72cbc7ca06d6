/- Texts of the proof, joined: TransC. Names of our own are shortened by program; the long ones stand in wip/. -/
import Derived.Test.YtnmidfcefljafaaGreatQpLogU
import Derived.Test.YtnmidfcefljafaaGreatQpCipherT
import Derived.Test.YtnmidfcefljafaaGreatQpTransP5
namespace Go.AI
open Go
def Kh5 (key : Bys) : Nat → List (List Rec) → List Bys
 | _, [] => []
 | c, r :: l => Kbv key (c : Int) r :: Kh5 key (c + 1) l
structure Ke6 (key : Bys) (r : List Rec) : Prop where
 enc : Ke5 r = 0
 small : key = [] ∨ ((1 ≤ key.length ∧ key.length ≤ 64) ∧ (Jyk r).length ≤ 65520)
theorem Kdo (key : Bys) : ∀ (l : List (List Rec)) (c : Nat), (Kh5 key c l).length = l.length
 | [], _ => rfl
 | _ :: l, c => congrArg (· + 1) (Kdo key l (c + 1))
theorem J4f (key : Bys) (r : List Rec) : ∀ (l : List (List Rec)) (c : Nat), Kh5 key c (l ++ [r]) = Kh5 key c l ++ [Kbv key ((c + l.length : Nat) : Int) r]
 | [], c => by simp [Kh5]
 | x :: l, c => by
  rw [List.cons_append, Kh5, Kh5, J4f key r l (c + 1), List.length_cons, show c + 1 + l.length = c + (l.length + 1) by omega]; rfl
theorem K6i {r : List Rec} (h : Ke5 r = 0) : Ke4 r = 0 ∧ (Jyk r).length ≤ 65536 := by
 unfold Ke5 at h
 by_cases k : Ke4 r = 0
 ·rw [if_pos k] at h
  by_cases k2 : (Jyk r).length > 65536
  ·rw [if_pos k2] at h; cases h
  ·exact ⟨k, by omega⟩
 ·rw [if_neg k] at h; exact absurd h k
theorem Ke6.pay {key : Bys} {r : List Rec} (h : Ke6 key r) {c : Int} (hc : 0 ≤ c ∧ c ≤ 9007199254740991) : Kra key c r = 0 ∧ (Kbv key c r).length ≤ 65536 ∧ unB key c (Kbv key c r) = (r, 0) := by
 obtain ⟨h1, h2⟩ := K6i h.enc
 by_cases ck : key = []
 ·subst ck
  exact ⟨Ksb h.enc, by rw [Kdg]; exact h2, by rw [Kdg, J4d]; exact Kzy h1 h2⟩
 ·rcases h.small with k | ⟨k, kl⟩
  ·exact absurd k ck
  obtain ⟨s1, s2, s3, s4⟩ := K0h key c (Jyk r) k (Kcv.2 hc) kl
  refine ⟨(Jwy ck h.enc).trans s1, by rw [Kdh ck]; omega, ?_⟩
  rw [Kdh ck, Kh2 ck s3, s4]
  exact Kzy h1 h2
theorem Ke6.of {key : Bys} {r : List Rec} {c : Int} (h : Kra key c r = 0) : Ke6 key r := by
 by_cases he : Ke5 r = 0
 ·refine ⟨he, ?_⟩
  by_cases ck : key = []
  ·exact .inl ck
  ·right
   rw [Jwy ck he] at h
   unfold Kl5 at h
   by_cases c1 : J61 key = true
   ·rw [if_pos c1] at h
    by_cases c2 : ((Jyk r).length : Int) > 65520
    ·rw [if_pos c2] at h; cases h
    ·exact ⟨K8u.1 c1, by omega⟩
   ·rw [if_neg c1] at h; cases h
 ·rw [Kdf he] at h; exact absurd h he
theorem Kh6 (key : Bys) : ∀ (l : List (List Rec)) (c : Nat) (out : List (List Rec)), (∀ r, r ∈ l → Ke6 key r) → c + l.length ≤ 9007199254740991 → J87 key (c : Int) (Kh5 key c l) out = (out ++ l, 0)
 | [], c, out, _, _ => by rw [Kh5, J87, List.append_nil]
 | r :: l, c, out, h, hc => by
  rw [List.length_cons] at hc
  obtain ⟨_, _, e⟩ := (h r List.mem_cons_self).pay (c := (c : Int)) (by omega)
  rw [Kh5, Kdk (by rw [e]), e, Jte, Kh6 key l (c + 1) _ (fun x hx => h x (List.mem_cons_of_mem _ hx)) (by omega), List.append_assoc]; rfl
abbrev lgT (key : Bys) (done : List (List Rec)) (n : Nat) : Jf9 := Jck (Kh5 key 1 done) n
structure Jhh (key : Bys) (n : Nat) (s : List Ja4) (done : List (List Rec)) : Prop where
 log : ∃ rest, Jf1 n s (Kh5 key 1 done) rest
 ok : ∀ r, r ∈ done → Ke6 key r
theorem Jhh.few {key : Bys} {n : Nat} {s : List Ja4} {done : List (List Rec)} (h : Jhh key n s done) : done.length < n ∧ s.length = n := by
 obtain ⟨rest, h⟩ := h.log
 have hz := h.size
 have hl := Jw0 (Kh5 key 1 done) 1
 rw [Kdo] at hl
 exact ⟨by omega, h.len⟩
theorem Jhh.replay {key : Bys} {n : Nat} {s : List Ja4} {done : List (List Rec)} (h : Jhh key n s done) (hk : key.length ≤ 64) (h1 : 2 ≤ n) (h2 : n ≤ 8192) :
  Jeu (Ja5 s) = true ∧ J63 (Ja5 s) key = 0 ∧ Jl6 (Ja5 s) key = lgT key done n ∧ Js2 (Ja5 s) key = done := by
 have hf := h.few
 obtain ⟨rest, hl⟩ := h.log
 obtain ⟨o1, o2, o3⟩ := hl.opens h1 h2
 have e : J87 key 1 (opB (Ja5 s)) [] = (done, 0) := by
  rw [o3]
  exact Kh6 key done 1 [] h.ok (by omega)
 have eE : J63 (Ja5 s) key = 0 := by rw [Kz7 o1 (by omega), e]
 refine ⟨hl.opP h2, eE, ?_, ?_⟩
 ·unfold Jl6; rw [if_pos eE, o2]
 ·unfold Js2; rw [if_pos eE, e]
theorem Jhh.com {key : Bys} {n : Nat} {s : List Ja4} {done : List (List Rec)} (h : Jhh key n s done) (h1 : 2 ≤ n) (h2 : n ≤ 8192) {r : List Rec} (hr : Ke6 key r) :
  (J6q (lgT key done n) key r = appE (lgT key done n) (Kbv key ((1 + done.length : Nat) : Int) r)) ∧ J30 (lgT key done n) key r = K2k (lgT key done n) (Kbv key ((1 + done.length : Nat) : Int) r) ∧ Kl7 (lgT key done n) key r = K7i (lgT key done n) (Kbv key ((1 + done.length : Nat) : Int) r) := by
 have hf := h.few
 obtain ⟨rest, hl⟩ := h.log
 have hc := hl.chk h1 h2
 have e : (lgT key done n).2.1 + 1 = ((1 + done.length : Nat) : Int) := by
  show ((Kh5 key 1 done).length : Int) + 1 = _
  rw [Kdo]; omega
 have hp := (hr.pay (c := ((1 + done.length : Nat) : Int)) (by omega)).1
 obtain ⟨e1, e2, e3⟩ := Kz4 (key := key) (r := r) hc (by rw [e]; exact hp)
 rw [e] at e1 e2 e3
 exact ⟨e3, e2, e1⟩
theorem Jhh.err {key : Bys} {n : Nat} {s : List Ja4} {done : List (List Rec)} (h : Jhh key n s done) (h1 : 2 ≤ n) (h2 : n ≤ 8192) {r : List Rec} (hr : Ke6 key r) :
  (J6q (lgT key done n) key r = 0 ∧ (Jb1 (Kh5 key 1 done) 1).length + Jau (Kbv key ((1 + done.length : Nat) : Int) r).length + 2 ≤ n) ∨ (J6q (lgT key done n) key r = 11 ∧ n < (Jb1 (Kh5 key 1 done) 1).length + Jau (Kbv key ((1 + done.length : Nat) : Int) r).length + 2) := by
 have hf := h.few
 obtain ⟨e1, _, _⟩ := h.com h1 h2 hr
 obtain ⟨rest, hl⟩ := h.log
 have hz := hl.size
 have hb := (hr.pay (c := ((1 + done.length : Nat) : Int)) (by omega)).2.1
 rw [e1]
 rcases hl.appE h1 h2 hb with ⟨a, b⟩ | ⟨a, b⟩
 ·exact .inl ⟨a, by omega⟩
 ·exact .inr ⟨a, by omega⟩
theorem Jhh.snoc {key : Bys} {n : Nat} {s : List Ja4} {done : List (List Rec)} {r : List Rec} (hr : Ke6 key r) (hd : ∀ x, x ∈ done → Ke6 key x) (h : ∃ rest, Jf1 n s (Kh5 key 1 done ++ [Kbv key ((1 + done.length : Nat) : Int) r]) rest) : Jhh key n s (done ++ [r]) :=
 ⟨by rw [J4f]; exact h, fun x hx => by
  rcases List.mem_append.1 hx with hx | hx
  ·exact hd x hx
  ·rw [List.mem_singleton.1 hx]; exact hr⟩
theorem Jhh.run {key : Bys} {n : Nat} {s : List Ja4} {done : List (List Rec)} (h : Jhh key n s done) (h1 : 2 ≤ n) (h2 : n ≤ 8192) {r : List Rec} (hr : Ke6 key r) (he : J6q (lgT key done n) key r = 0) :
  Kts (Ja5 s) (J30 (lgT key done n) key r) = true ∧ Kl7 (lgT key done n) key r = lgT key (done ++ [r]) n ∧ ∃ s' i, Jn4 (Ja5 s) (J30 (lgT key done n) key r) = (Ja5 s', (i, 0)) ∧ Jhh key n s' (done ++ [r]) := by
 have hf := h.few
 obtain ⟨e1, e2, e3⟩ := h.com h1 h2 hr
 obtain ⟨rest, hl⟩ := h.log
 have hb := (hr.pay (c := ((1 + done.length : Nat) : Int)) (by omega)).2.1
 rw [e1] at he
 obtain ⟨a1, _, a3, s', rest', i, a4, a5⟩ := K0d hl h1 h2 hb he
 rw [e2, e3]
 refine ⟨a1, ?_, s', i, a4, Jhh.snoc hr h.ok ⟨rest', a5⟩⟩
 rw [a3, ← J4f]
theorem K4x {s : List Ja4} (h1 : 1 ≤ s.length) (h2 : s.length ≤ 8192) (l : List DOp) (ch : List Int) : Kvw (Ja5 s) l 0 ch = (Ja5 s, (ch, 0)) := by
 have e := J4e (d := Ja5 s) (d' := Ja5 s) (l := l) (k := 0) (i := 0) (ch := ch) (Jwx h1 h2) (Nat.zero_le _) (by rw [List.take_zero]; exact Ji3 h1 h2 [])
 exact e.trans (Jo1 h1 h2 ch)
theorem Jhh.int {key : Bys} {n : Nat} {s : List Ja4} {done : List (List Rec)} (h : Jhh key n s done) (h1 : 2 ≤ n) (h2 : n ≤ 8192) {r : List Rec} (hr : Ke6 key r) (he : J6q (lgT key done n) key r = 0) (k : Nat) (hk : k ≤ (J30 (lgT key done n) key r).length) (ch : List Int) :
  ∃ s' ch', Kvw (Ja5 s) (J30 (lgT key done n) key r) (k : Int) ch = (Ja5 s', (ch', 0)) ∧ ch'.length ≤ ch.length ∧ ((Jhh key n s' done ∧ k ≠ (J30 (lgT key done n) key r).length) ∨ (Jhh key n s' (done ++ [r]) ∧ k ≠ 0)) := by
 have hf := h.few
 obtain ⟨e1, e2, e3⟩ := h.com h1 h2 hr
 obtain ⟨rest, hl⟩ := h.log
 have hb := (hr.pay (c := ((1 + done.length : Nat) : Int)) (by omega)).2.1
 rw [e1] at he
 have hroom : Jau (Kbv key ((1 + done.length : Nat) : Int) r).length + 1 ≤ rest.length := by
  rcases hl.appE h1 h2 hb with ⟨_, b⟩ | ⟨a, _⟩
  ·exact b
  ·rw [a] at he; cases he
 obtain ⟨_, a2, _, _⟩ := K0d hl h1 h2 hb he
 rw [e2, a2] at hk ⊢
 by_cases c0 : k = 0
 ·subst c0
  refine ⟨s, ch, K4x (by omega) (by omega) _ _, Nat.le_refl _, .inl ⟨h, ?_⟩⟩
  unfold Ju9
  rw [List.length_append]
  simp
 obtain ⟨s', ch', g1, g2, g3⟩ := K8z hl h1 h2 hb hroom k hk ch
 refine ⟨s', ch', g1, g2, ?_⟩
 rcases g3 with ⟨⟨rest', g⟩, hne⟩ | g
 ·exact .inl ⟨⟨⟨rest', g⟩, h.ok⟩, hne⟩
 ·exact .inr ⟨Jhh.snoc hr h.ok g, c0⟩
theorem Jhh.fresh (key : Bys) (n : Nat) (h : 1 ≤ n) : Jhh key n (Jh2 :: List.replicate (n - 1) z16) [] := ⟨⟨_, K0c n h⟩, fun _ hx => nomatch hx⟩
theorem K4y (l : Jf9) (key : Bys) (r : List Rec) : (J30 l key r).length ≤ 4 := by
 unfold J30
 split
 ·unfold K2k
  split
  ·unfold Ju9
   split <;> simp
  ·exact Nat.zero_le _
 ·exact Nat.zero_le _
theorem K80 (a : Jf9) : Jct (.pair (.int .i64) (.pair (.int .i64) (.pair (.int .i64) .unit))) a a = true := K4u a
theorem K0i (x : Rec) (r : List Rec) : wR (x :: r) = 20 + x.2.1.length + wR r := rfl
theorem K6j : ∀ r : List Rec, (r.flatMap Jmh).length ≤ wR r
 | [] => Nat.le_refl _
 | x :: r => by
  have h1 := Jfm (Jfy x.1)
  have h2 := Jfm (Jfy x.2.1.length)
  have h3 := K6j r
  have h4 : (Jmh x).length = (J6z (Jfy x.1)).length + ((J6z (Jfy x.2.1.length)).length + x.2.1.length) := by unfold Jmh; rw [List.length_append, List.length_append]
  rw [List.flatMap_cons, List.length_append, K0i, h4]; omega
theorem enc_w (r : List Rec) : (Jyk r).length ≤ 8 + wR r := by
 have h1 := Jfm (Jfy r.length)
 have h2 := K6j r
 unfold Jyk
 rw [List.length_append]; omega
end Go.AI
