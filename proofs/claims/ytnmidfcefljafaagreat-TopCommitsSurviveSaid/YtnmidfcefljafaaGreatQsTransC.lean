/- Texts of the proof, joined: TransC. Names of our own are shortened by program; the long ones stand in wip/. -/
import Derived.Test.YtnmidfcefljafaaGreatQsLogU
import Derived.Test.YtnmidfcefljafaaGreatQsCipherT
import Derived.Test.YtnmidfcefljafaaGreatQsTransP5
namespace Go.AI
open Go
def Kcf (key : Bys) : Nat → List (List Rec) → List Bys
 | _, [] => []
 | c, r :: l => J5y key (c : Int) r :: Kcf key (c + 1) l
structure Kdx (key : Bys) (r : List Rec) : Prop where
 enc : Kfh r = 0
 small : key = [] ∨ ((1 ≤ key.length ∧ key.length ≤ 64) ∧ (Jx4 r).length ≤ 65520)
theorem Kcg (key : Bys) : ∀ (l : List (List Rec)) (c : Nat), (Kcf key c l).length = l.length
 | [], _ => rfl
 | _ :: l, c => congrArg (· + 1) (Kcg key l (c + 1))
theorem Jwo (key : Bys) (r : List Rec) : ∀ (l : List (List Rec)) (c : Nat), Kcf key c (l ++ [r]) = Kcf key c l ++ [J5y key ((c + l.length : Nat) : Int) r]
 | [], c => by simp [Kcf]
 | x :: l, c => by
  rw [List.cons_append, Kcf, Kcf, Jwo key r l (c + 1), List.length_cons, show c + 1 + l.length = c + (l.length + 1) by omega]; rfl
theorem K4l {r : List Rec} (h : Kfh r = 0) : Kpk r = 0 ∧ (Jx4 r).length ≤ 65536 := by
 unfold Kfh at h
 by_cases k : Kpk r = 0
 ·rw [if_pos k] at h
  by_cases k2 : (Jx4 r).length > 65536
  ·rw [if_pos k2] at h; cases h
  ·exact ⟨k, by omega⟩
 ·rw [if_neg k] at h; exact absurd h k
theorem Kdx.pay {key : Bys} {r : List Rec} (h : Kdx key r) {c : Int} (hc : 0 ≤ c ∧ c ≤ 9007199254740991) : Kkx key c r = 0 ∧ (J5y key c r).length ≤ 65536 ∧ unB key c (J5y key c r) = (r, 0) := by
 obtain ⟨h1, h2⟩ := K4l h.enc
 by_cases ck : key = []
 ·subst ck
  exact ⟨Kqn h.enc, by rw [Kb6]; exact h2, by rw [Kb6, J3c]; exact Kxz h1 h2⟩
 ·rcases h.small with k | ⟨k, kl⟩
  ·exact absurd k ck
  obtain ⟨s1, s2, s3, s4⟩ := Kyi key c (Jx4 r) k (Kbl.2 hc) kl
  refine ⟨(Jwl ck h.enc).trans s1, by rw [Kb7 ck]; omega, ?_⟩
  rw [Kb7 ck, Kgu ck s3, s4]
  exact Kxz h1 h2
theorem Kdx.of {key : Bys} {r : List Rec} {c : Int} (h : Kkx key c r = 0) : Kdx key r := by
 by_cases he : Kfh r = 0
 ·refine ⟨he, ?_⟩
  by_cases ck : key = []
  ·exact .inl ck
  ·right
   rw [Jwl ck he] at h
   unfold Kku at h
   by_cases c1 : J5v key = true
   ·rw [if_pos c1] at h
    by_cases c2 : ((Jx4 r).length : Int) > 65520
    ·rw [if_pos c2] at h; cases h
    ·exact ⟨K6v.1 c1, by omega⟩
   ·rw [if_neg c1] at h; cases h
 ·rw [Kb5 he] at h; exact absurd h he
theorem Kgw (key : Bys) : ∀ (l : List (List Rec)) (c : Nat) (out : List (List Rec)), (∀ r, r ∈ l → Kdx key r) → c + l.length ≤ 9007199254740991 → Kfl key (c : Int) (Kcf key c l) out = (out ++ l, 0)
 | [], c, out, _, _ => by rw [Kcf, Kfl, List.append_nil]
 | r :: l, c, out, h, hc => by
  rw [List.length_cons] at hc
  obtain ⟨_, _, e⟩ := (h r List.mem_cons_self).pay (c := (c : Int)) (by omega)
  rw [Kcf, Kma (by rw [e]), e, Jwc, Kgw key l (c + 1) _ (fun x hx => h x (List.mem_cons_of_mem _ hx)) (by omega), List.append_assoc]; rfl
abbrev lgT (key : Bys) (done : List (List Rec)) (n : Nat) : Jf5 := Jb7 (Kcf key 1 done) n
structure Jh0 (key : Bys) (n : Nat) (s : List Ja4) (done : List (List Rec)) : Prop where
 log : ∃ rest, Jf0 n s (Kcf key 1 done) rest
 ok : ∀ r, r ∈ done → Kdx key r
theorem Jh0.few {key : Bys} {n : Nat} {s : List Ja4} {done : List (List Rec)} (h : Jh0 key n s done) : done.length < n ∧ s.length = n := by
 obtain ⟨rest, h⟩ := h.log
 have hz := h.size
 have hl := Jwn (Kcf key 1 done) 1
 rw [Kcg] at hl
 exact ⟨by omega, h.len⟩
theorem Jh0.replay {key : Bys} {n : Nat} {s : List Ja4} {done : List (List Rec)} (h : Jh0 key n s done) (hk : key.length ≤ 64) (h1 : 2 ≤ n) (h2 : n ≤ 8192) :
  Ji7 (Ja8 s) = true ∧ Kpm (Ja8 s) key = 0 ∧ Kt3 (Ja8 s) key = lgT key done n ∧ K0j (Ja8 s) key = done := by
 have hf := h.few
 obtain ⟨rest, hl⟩ := h.log
 obtain ⟨o1, o2, o3⟩ := hl.opens h1 h2
 have e : Kfl key 1 (opB (Ja8 s)) [] = (done, 0) := by
  rw [o3]
  exact Kgw key done 1 [] h.ok (by omega)
 have eE : Kpm (Ja8 s) key = 0 := by rw [Kx8 o1 (by omega), e]
 refine ⟨hl.opP h2, eE, ?_, ?_⟩
 ·unfold Kt3; rw [if_pos eE, o2]
 ·unfold K0j; rw [if_pos eE, e]
theorem Jh0.com {key : Bys} {n : Nat} {s : List Ja4} {done : List (List Rec)} (h : Jh0 key n s done) (h1 : 2 ≤ n) (h2 : n ≤ 8192) {r : List Rec} (hr : Kdx key r) :
  (Kfk (lgT key done n) key r = appE (lgT key done n) (J5y key ((1 + done.length : Nat) : Int) r)) ∧ J7z (lgT key done n) key r = K0h (lgT key done n) (J5y key ((1 + done.length : Nat) : Int) r) ∧ K3v (lgT key done n) key r = K5k (lgT key done n) (J5y key ((1 + done.length : Nat) : Int) r) := by
 have hf := h.few
 obtain ⟨rest, hl⟩ := h.log
 have hc := hl.chk h1 h2
 have e : (lgT key done n).2.1 + 1 = ((1 + done.length : Nat) : Int) := by
  show ((Kcf key 1 done).length : Int) + 1 = _
  rw [Kcg]; omega
 have hp := (hr.pay (c := ((1 + done.length : Nat) : Int)) (by omega)).1
 obtain ⟨e1, e2, e3⟩ := Kx6 (key := key) (r := r) hc (by rw [e]; exact hp)
 rw [e] at e1 e2 e3
 exact ⟨e3, e2, e1⟩
theorem Jh0.err {key : Bys} {n : Nat} {s : List Ja4} {done : List (List Rec)} (h : Jh0 key n s done) (h1 : 2 ≤ n) (h2 : n ≤ 8192) {r : List Rec} (hr : Kdx key r) :
  (Kfk (lgT key done n) key r = 0 ∧ (Jbw (Kcf key 1 done) 1).length + Jas (J5y key ((1 + done.length : Nat) : Int) r).length + 2 ≤ n) ∨ (Kfk (lgT key done n) key r = 11 ∧ n < (Jbw (Kcf key 1 done) 1).length + Jas (J5y key ((1 + done.length : Nat) : Int) r).length + 2) := by
 have hf := h.few
 obtain ⟨e1, _, _⟩ := h.com h1 h2 hr
 obtain ⟨rest, hl⟩ := h.log
 have hz := hl.size
 have hb := (hr.pay (c := ((1 + done.length : Nat) : Int)) (by omega)).2.1
 rw [e1]
 rcases hl.appE h1 h2 hb with ⟨a, b⟩ | ⟨a, b⟩
 ·exact .inl ⟨a, by omega⟩
 ·exact .inr ⟨a, by omega⟩
theorem Jh0.snoc {key : Bys} {n : Nat} {s : List Ja4} {done : List (List Rec)} {r : List Rec} (hr : Kdx key r) (hd : ∀ x, x ∈ done → Kdx key x) (h : ∃ rest, Jf0 n s (Kcf key 1 done ++ [J5y key ((1 + done.length : Nat) : Int) r]) rest) : Jh0 key n s (done ++ [r]) :=
 ⟨by rw [Jwo]; exact h, fun x hx => by
  rcases List.mem_append.1 hx with hx | hx
  ·exact hd x hx
  ·rw [List.mem_singleton.1 hx]; exact hr⟩
theorem Jh0.run {key : Bys} {n : Nat} {s : List Ja4} {done : List (List Rec)} (h : Jh0 key n s done) (h1 : 2 ≤ n) (h2 : n ≤ 8192) {r : List Rec} (hr : Kdx key r) (he : Kfk (lgT key done n) key r = 0) :
  Ktz (Ja8 s) (J7z (lgT key done n) key r) = true ∧ K3v (lgT key done n) key r = lgT key (done ++ [r]) n ∧ ∃ s' i, Jo3 (Ja8 s) (J7z (lgT key done n) key r) = (Ja8 s', (i, 0)) ∧ Jh0 key n s' (done ++ [r]) := by
 have hf := h.few
 obtain ⟨e1, e2, e3⟩ := h.com h1 h2 hr
 obtain ⟨rest, hl⟩ := h.log
 have hb := (hr.pay (c := ((1 + done.length : Nat) : Int)) (by omega)).2.1
 rw [e1] at he
 obtain ⟨a1, _, a3, s', rest', i, a4, a5⟩ := Kye hl h1 h2 hb he
 rw [e2, e3]
 refine ⟨a1, ?_, s', i, a4, Jh0.snoc hr h.ok ⟨rest', a5⟩⟩
 rw [a3, ← Jwo]
theorem K2x {s : List Ja4} (h1 : 1 ≤ s.length) (h2 : s.length ≤ 8192) (l : List DOp) (ch : List Int) : Kkr (Ja8 s) l 0 ch = (Ja8 s, (ch, 0)) := by
 have e := J3d (d := Ja8 s) (d' := Ja8 s) (l := l) (k := 0) (i := 0) (ch := ch) (Jwk h1 h2) (Nat.zero_le _) (by rw [List.take_zero]; exact Jiy h1 h2 [])
 exact e.trans (Jok h1 h2 ch)
theorem Jh0.int {key : Bys} {n : Nat} {s : List Ja4} {done : List (List Rec)} (h : Jh0 key n s done) (h1 : 2 ≤ n) (h2 : n ≤ 8192) {r : List Rec} (hr : Kdx key r) (he : Kfk (lgT key done n) key r = 0) (k : Nat) (hk : k ≤ (J7z (lgT key done n) key r).length) (ch : List Int) :
  ∃ s' ch', Kkr (Ja8 s) (J7z (lgT key done n) key r) (k : Int) ch = (Ja8 s', (ch', 0)) ∧ ch'.length ≤ ch.length ∧ ((Jh0 key n s' done ∧ k ≠ (J7z (lgT key done n) key r).length) ∨ (Jh0 key n s' (done ++ [r]) ∧ k ≠ 0)) := by
 have hf := h.few
 obtain ⟨e1, e2, e3⟩ := h.com h1 h2 hr
 obtain ⟨rest, hl⟩ := h.log
 have hb := (hr.pay (c := ((1 + done.length : Nat) : Int)) (by omega)).2.1
 rw [e1] at he
 have hroom : Jas (J5y key ((1 + done.length : Nat) : Int) r).length + 1 ≤ rest.length := by
  rcases hl.appE h1 h2 hb with ⟨_, b⟩ | ⟨a, _⟩
  ·exact b
  ·rw [a] at he; cases he
 obtain ⟨_, a2, _, _⟩ := Kye hl h1 h2 hb he
 rw [e2, a2] at hk ⊢
 by_cases c0 : k = 0
 ·subst c0
  refine ⟨s, ch, K2x (by omega) (by omega) _ _, Nat.le_refl _, .inl ⟨h, ?_⟩⟩
  unfold Juu
  rw [List.length_append]
  simp
 obtain ⟨s', ch', g1, g2, g3⟩ := K60 hl h1 h2 hb hroom k hk ch
 refine ⟨s', ch', g1, g2, ?_⟩
 rcases g3 with ⟨⟨rest', g⟩, hne⟩ | g
 ·exact .inl ⟨⟨⟨rest', g⟩, h.ok⟩, hne⟩
 ·exact .inr ⟨Jh0.snoc hr h.ok g, c0⟩
theorem Jh0.fresh (key : Bys) (n : Nat) (h : 1 ≤ n) : Jh0 key n (Jhe :: List.replicate (n - 1) z16) [] := ⟨⟨_, Kyd n h⟩, fun _ hx => nomatch hx⟩
theorem K2y (l : Jf5) (key : Bys) (r : List Rec) : (J7z l key r).length ≤ 4 := by
 unfold J7z
 split
 ·unfold K0h
  split
  ·unfold Juu
   split <;> simp
  ·exact Nat.zero_le _
 ·exact Nat.zero_le _
theorem Kch (a : Jf5) : Jcu (.pair (.int .i64) (.pair (.int .i64) (.pair (.int .i64) .unit))) a a = true := K2t a
theorem K84 (key : Bys) (done : List (List Rec)) (r : List Rec) (n : Nat) : Jcu (.pair (.int .i64) (.pair (.int .i64) (.pair (.int .i64) .unit))) (lgT key done n) (lgT key (done ++ [r]) n) = false := by
 unfold lgT
 rw [Jwo]
 exact K2w _ _ _
theorem K61 (x : Rec) (r : List Rec) : wR (x :: r) = 20 + x.2.1.length + wR r := rfl
theorem K62 (r : List Rec) (l : List (List Rec)) : wS (r :: l) = wR r + wS l := rfl
theorem K4m : ∀ r : List Rec, (r.flatMap Jl8).length ≤ wR r
 | [] => Nat.le_refl _
 | x :: r => by
  have h1 := Jfl (Jfx x.1)
  have h2 := Jfl (Jfx x.2.1.length)
  have h3 := K4m r
  have h4 : (Jl8 x).length = (J5t (Jfx x.1)).length + ((J5t (Jfx x.2.1.length)).length + x.2.1.length) := by unfold Jl8; rw [List.length_append, List.length_append]
  rw [List.flatMap_cons, List.length_append, K61, h4]; omega
theorem enc_w (r : List Rec) : (Jx4 r).length ≤ 8 + wR r := by
 have h1 := Jfl (Jfx r.length)
 have h2 := K4m r
 unfold Jx4
 rw [List.length_append]; omega
theorem K4n (key : Bys) (c : Int) (r : List Rec) : (J5y key c r).length ≤ 24 + wR r := by
 have h1 := enc_w r
 unfold J5y
 split
 ·omega
 ·unfold Kkv
  split
  ·rw [List.length_append, Jlz, Jwi]; omega
  ·exact Nat.zero_le _
theorem K4o (key : Bys) : ∀ (l : List (List Rec)) (c c' : Nat), 15 * (Jbw (Kcf key c l) c').length ≤ 53 * l.length + wS l
 | [], _, _ => Nat.zero_le _
 | r :: l, c, c' => by
  have h1 := K4o key l (c + 1) (c' + 1)
  have h2 := K4n key (c : Int) r
  rw [Kcf, Jbw, List.length_append, Kcc, K62, List.length_cons]
  unfold Jas
  omega
end Go.AI
