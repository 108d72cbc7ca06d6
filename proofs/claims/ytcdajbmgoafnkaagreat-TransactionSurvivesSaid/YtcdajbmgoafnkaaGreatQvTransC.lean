/- Texts of the proof, joined: TransC. Names of our own are shortened by program; the long ones stand in wip/. -/
import Derived.Test.YtcdajbmgoafnkaaGreatQvLogU
import Derived.Test.YtcdajbmgoafnkaaGreatQvCipherT
import Derived.Test.YtcdajbmgoafnkaaGreatQvTransP5
namespace Go.AI
open Go
def Kc9 (key : Bys) : Nat → List (List Rec) → List Bys
 | _, [] => []
 | c, r :: l => J6t key (c : Int) r :: Kc9 key (c + 1) l
structure Kri (key : Bys) (r : List Rec) : Prop where
 enc : J8t r = 0
 small : key = [] ∨ ((1 ≤ key.length ∧ key.length ≤ 64) ∧ (Jup r).length ≤ 65520)
theorem Kda (key : Bys) : ∀ (l : List (List Rec)) (c : Nat), (Kc9 key c l).length = l.length
 | [], _ => rfl
 | _ :: l, c => congrArg (· + 1) (Kda key l (c + 1))
theorem J34 (key : Bys) (r : List Rec) : ∀ (l : List (List Rec)) (c : Nat), Kc9 key c (l ++ [r]) = Kc9 key c l ++ [J6t key ((c + l.length : Nat) : Int) r]
 | [], c => by simp [Kc9]
 | x :: l, c => by
  rw [List.cons_append, Kc9, Kc9, J34 key r l (c + 1), List.length_cons, show c + 1 + l.length = c + (l.length + 1) by omega]; rfl
theorem Qaj {r : List Rec} (h : J8t r = 0) : Kep r = 0 ∧ (Jup r).length ≤ 65536 := by
 unfold J8t at h
 by_cases k : Kep r = 0
 ·rw [if_pos k] at h
  by_cases k2 : (Jup r).length > 65536
  ·rw [if_pos k2] at h; cases h
  ·exact ⟨k, by omega⟩
 ·rw [if_neg k] at h; exact absurd h k
theorem Kri.pay {key : Bys} {r : List Rec} (h : Kri key r) {c : Int} (hc : 0 ≤ c ∧ c ≤ 9007199254740991) : Kqe key c r = 0 ∧ (J6t key c r).length ≤ 65536 ∧ unB key c (J6t key c r) = (r, 0) := by
 obtain ⟨h1, h2⟩ := Qaj h.enc
 by_cases ck : key = []
 ·subst ck
  exact ⟨Kc0 h.enc, by rw [J17]; exact h2, by rw [J17, J32]; exact Ky1 h1 h2⟩
 ·rcases h.small with k | ⟨k, kl⟩
  ·exact absurd k ck
  obtain ⟨s1, s2, s3, s4⟩ := Kzl key c (Jup r) k (J3w.2 hc) kl
  refine ⟨(Js2 ck h.enc).trans s1, by rw [J18 ck]; omega, ?_⟩
  rw [J18 ck, Khk ck s3, s4]
  exact Ky1 h1 h2
theorem Kri.of {key : Bys} {r : List Rec} {c : Int} (h : Kqe key c r = 0) : Kri key r := by
 by_cases he : J8t r = 0
 ·refine ⟨he, ?_⟩
  by_cases ck : key = []
  ·exact .inl ck
  ·right
   rw [Js2 ck he] at h
   unfold Ken at h
   by_cases c1 : J6r key = true
   ·rw [if_pos c1] at h
    by_cases c2 : ((Jup r).length : Int) > 65520
    ·rw [if_pos c2] at h; cases h
    ·exact ⟨Ky9.1 c1, by omega⟩
   ·rw [if_neg c1] at h; cases h
 ·rw [Kc1 he] at h; exact absurd h he
theorem Khm (key : Bys) : ∀ (l : List (List Rec)) (c : Nat) (out : List (List Rec)), (∀ r, r ∈ l → Kri key r) → c + l.length ≤ 9007199254740991 → Kga key (c : Int) (Kc9 key c l) out = (out ++ l, 0)
 | [], c, out, _, _ => by rw [Kc9, Kga, List.append_nil]
 | r :: l, c, out, h, hc => by
  rw [List.length_cons] at hc
  obtain ⟨_, _, e⟩ := (h r List.mem_cons_self).pay (c := (c : Int)) (by omega)
  rw [Kc9, Kmx (by rw [e]), e, Juu, Khm key l (c + 1) _ (fun x hx => h x (List.mem_cons_of_mem _ hx)) (by omega), List.append_assoc]; rfl
abbrev lgT (key : Bys) (done : List (List Rec)) (n : Nat) : Jfp := Jcv (Kc9 key 1 done) n
structure Jh4 (key : Bys) (n : Nat) (s : List Jbe) (done : List (List Rec)) : Prop where
 log : ∃ rest, Jgc n s (Kc9 key 1 done) rest
 ok : ∀ r, r ∈ done → Kri key r
theorem Jh4.few {key : Bys} {n : Nat} {s : List Jbe} {done : List (List Rec)} (h : Jh4 key n s done) : done.length < n ∧ s.length = n := by
 obtain ⟨rest, h⟩ := h.log
 have hz := h.size
 have hl := Jw4 (Kc9 key 1 done) 1
 rw [Kda] at hl
 exact ⟨by omega, h.len⟩
theorem Jh4.replay {key : Bys} {n : Nat} {s : List Jbe} {done : List (List Rec)} (h : Jh4 key n s done) (hk : key.length ≤ 64) (h1 : 2 ≤ n) (h2 : n ≤ 8192) :
  Jjl (Jbp s) = true ∧ Ks0 (Jbp s) key = 0 ∧ K5d (Jbp s) key = lgT key done n ∧ K5c (Jbp s) key = done := by
 have hf := h.few
 obtain ⟨rest, hl⟩ := h.log
 obtain ⟨o1, o2, o3⟩ := hl.opens h1 h2
 have e : Kga key 1 (opB (Jbp s)) [] = (done, 0) := by
  rw [o3]
  exact Khm key done 1 [] h.ok (by omega)
 have eE : Ks0 (Jbp s) key = 0 := by rw [Kzb o1 (by omega), e]
 refine ⟨hl.opP h2, eE, ?_, ?_⟩
 ·unfold K5d; rw [if_pos eE, o2]
 ·unfold K5c; rw [if_pos eE, e]
theorem Jh4.com {key : Bys} {n : Nat} {s : List Jbe} {done : List (List Rec)} (h : Jh4 key n s done) (h1 : 2 ≤ n) (h2 : n ≤ 8192) {r : List Rec} (hr : Kri key r) :
  (Kf9 (lgT key done n) key r = appE (lgT key done n) (J6t key ((1 + done.length : Nat) : Int) r)) ∧ Jtl (lgT key done n) key r = Ku0 (lgT key done n) (J6t key ((1 + done.length : Nat) : Int) r) ∧ Ku2 (lgT key done n) key r = K49 (lgT key done n) (J6t key ((1 + done.length : Nat) : Int) r) := by
 have hf := h.few
 obtain ⟨rest, hl⟩ := h.log
 have hc := hl.chk h1 h2
 have e : (lgT key done n).2.1 + 1 = ((1 + done.length : Nat) : Int) := by
  show ((Kc9 key 1 done).length : Int) + 1 = _
  rw [Kda]; omega
 have hp := (hr.pay (c := ((1 + done.length : Nat) : Int)) (by omega)).1
 obtain ⟨e1, e2, e3⟩ := Khj (key := key) (r := r) hc (by rw [e]; exact hp)
 rw [e] at e1 e2 e3
 exact ⟨e3, e2, e1⟩
theorem Jh4.err {key : Bys} {n : Nat} {s : List Jbe} {done : List (List Rec)} (h : Jh4 key n s done) (h1 : 2 ≤ n) (h2 : n ≤ 8192) {r : List Rec} (hr : Kri key r) :
  (Kf9 (lgT key done n) key r = 0 ∧ (Jb7 (Kc9 key 1 done) 1).length + Jaq (J6t key ((1 + done.length : Nat) : Int) r).length + 2 ≤ n) ∨ (Kf9 (lgT key done n) key r = 11 ∧ n < (Jb7 (Kc9 key 1 done) 1).length + Jaq (J6t key ((1 + done.length : Nat) : Int) r).length + 2) := by
 have hf := h.few
 obtain ⟨e1, _, _⟩ := h.com h1 h2 hr
 obtain ⟨rest, hl⟩ := h.log
 have hz := hl.size
 have hb := (hr.pay (c := ((1 + done.length : Nat) : Int)) (by omega)).2.1
 rw [e1]
 rcases hl.appE h1 h2 hb with ⟨a, b⟩ | ⟨a, b⟩
 ·exact .inl ⟨a, by omega⟩
 ·exact .inr ⟨a, by omega⟩
theorem Jh4.snoc {key : Bys} {n : Nat} {s : List Jbe} {done : List (List Rec)} {r : List Rec} (hr : Kri key r) (hd : ∀ x, x ∈ done → Kri key x) (h : ∃ rest, Jgc n s (Kc9 key 1 done ++ [J6t key ((1 + done.length : Nat) : Int) r]) rest) : Jh4 key n s (done ++ [r]) :=
 ⟨by rw [J34]; exact h, fun x hx => by
  rcases List.mem_append.1 hx with hx | hx
  ·exact hd x hx
  ·rw [List.mem_singleton.1 hx]; exact hr⟩
theorem Jh4.run {key : Bys} {n : Nat} {s : List Jbe} {done : List (List Rec)} (h : Jh4 key n s done) (h1 : 2 ≤ n) (h2 : n ≤ 8192) {r : List Rec} (hr : Kri key r) (he : Kf9 (lgT key done n) key r = 0) :
  Kw5 (Jbp s) (Jtl (lgT key done n) key r) = true ∧ Ku2 (lgT key done n) key r = lgT key (done ++ [r]) n ∧ ∃ s' i, Jpp (Jbp s) (Jtl (lgT key done n) key r) = (Jbp s', (i, 0)) ∧ Jh4 key n s' (done ++ [r]) := by
 have hf := h.few
 obtain ⟨e1, e2, e3⟩ := h.com h1 h2 hr
 obtain ⟨rest, hl⟩ := h.log
 have hb := (hr.pay (c := ((1 + done.length : Nat) : Int)) (by omega)).2.1
 rw [e1] at he
 obtain ⟨a1, _, a3, s', rest', i, a4, a5⟩ := Kzh hl h1 h2 hb he
 rw [e2, e3]
 refine ⟨a1, ?_, s', i, a4, Jh4.snoc hr h.ok ⟨rest', a5⟩⟩
 rw [a3, ← J34]
theorem K4c {s : List Jbe} (h1 : 1 ≤ s.length) (h2 : s.length ≤ 8192) (l : List DOp) (ch : List Int) : Kst (Jbp s) l 0 ch = (Jbp s, (ch, 0)) := by
 have e := J33 (d := Jbp s) (d' := Jbp s) (l := l) (k := 0) (i := 0) (ch := ch) (Jw2 h1 h2) (Nat.zero_le _) (by rw [List.take_zero]; exact Jjb h1 h2 [])
 exact e.trans (Jo4 h1 h2 ch)
theorem Jh4.int {key : Bys} {n : Nat} {s : List Jbe} {done : List (List Rec)} (h : Jh4 key n s done) (h1 : 2 ≤ n) (h2 : n ≤ 8192) {r : List Rec} (hr : Kri key r) (he : Kf9 (lgT key done n) key r = 0) (k : Nat) (hk : k ≤ (Jtl (lgT key done n) key r).length) (ch : List Int) :
  ∃ s' ch', Kst (Jbp s) (Jtl (lgT key done n) key r) (k : Int) ch = (Jbp s', (ch', 0)) ∧ ch'.length ≤ ch.length ∧ ((Jh4 key n s' done ∧ k ≠ (Jtl (lgT key done n) key r).length) ∨ (Jh4 key n s' (done ++ [r]) ∧ k ≠ 0)) := by
 have hf := h.few
 obtain ⟨e1, e2, e3⟩ := h.com h1 h2 hr
 obtain ⟨rest, hl⟩ := h.log
 have hb := (hr.pay (c := ((1 + done.length : Nat) : Int)) (by omega)).2.1
 rw [e1] at he
 have hroom : Jaq (J6t key ((1 + done.length : Nat) : Int) r).length + 1 ≤ rest.length := by
  rcases hl.appE h1 h2 hb with ⟨_, b⟩ | ⟨a, _⟩
  ·exact b
  ·rw [a] at he; cases he
 obtain ⟨_, a2, _, _⟩ := Kzh hl h1 h2 hb he
 rw [e2, a2] at hk ⊢
 by_cases c0 : k = 0
 ·subst c0
  refine ⟨s, ch, K4c (by omega) (by omega) _ _, Nat.le_refl _, .inl ⟨h, ?_⟩⟩
  unfold Juo
  rw [List.length_append]
  simp
 obtain ⟨s', ch', g1, g2, g3⟩ := K8f hl h1 h2 hb hroom k hk ch
 refine ⟨s', ch', g1, g2, ?_⟩
 rcases g3 with ⟨⟨rest', g⟩, hne⟩ | g
 ·exact .inl ⟨⟨⟨rest', g⟩, h.ok⟩, hne⟩
 ·exact .inr ⟨Jh4.snoc hr h.ok g, c0⟩
theorem Jh4.fresh (key : Bys) (n : Nat) (h : 1 ≤ n) : Jh4 key n (Jhr :: List.replicate (n - 1) z16) [] := ⟨⟨_, Kzg n h⟩, fun _ hx => nomatch hx⟩
theorem K4d (l : Jfp) (key : Bys) (r : List Rec) : (Jtl l key r).length ≤ 4 := by
 unfold Jtl
 split
 ·unfold Ku0
  split
  ·unfold Juo
   split <;> simp
  ·exact Nat.zero_le _
 ·exact Nat.zero_le _
theorem Km0 (a : Jfp) : Jdc (.pair (.int .i64) (.pair (.int .i64) (.pair (.int .i64) .unit))) a a = true := K39 a
theorem Km1 (x : Rec) (r : List Rec) : wR (x :: r) = 20 + x.2.1.length + wR r := rfl
theorem Kdb (r : List Rec) (l : List (List Rec)) : wS (r :: l) = wR r + wS l := rfl
theorem Kzm (l : List (List Rec)) (r : List Rec) : wS (l ++ [r]) = wS l + wR r := by unfold wS; rw [List.map_append, List.sum_append]; simp
theorem K53 : ∀ r : List Rec, (r.flatMap Jmn).length ≤ wR r
 | [] => Nat.le_refl _
 | x :: r => by
  have h1 := Jfx (Jf9 x.1)
  have h2 := Jfx (Jf9 x.2.1.length)
  have h3 := K53 r
  have h4 : (Jmn x).length = (J6p (Jf9 x.1)).length + ((J6p (Jf9 x.2.1.length)).length + x.2.1.length) := by unfold Jmn; rw [List.length_append, List.length_append]
  rw [List.flatMap_cons, List.length_append, Km1, h4]; omega
theorem Qak (r : List Rec) : (Jup r).length ≤ 8 + wR r := by
 have h1 := Jfx (Jf9 r.length)
 have h2 := K53 r
 unfold Jup
 rw [List.length_append]; omega
theorem Kzn (key : Bys) (c : Int) (r : List Rec) : (J6t key c r).length ≤ 24 + wR r := by
 have h1 := Qak r
 unfold J6t
 split
 ·omega
 ·unfold Kbc
  split
  ·rw [List.length_append, Jkd, Jsz]; omega
  ·exact Nat.zero_le _
theorem Kzo (key : Bys) : ∀ (l : List (List Rec)) (c c' : Nat), 15 * (Jb7 (Kc9 key c l) c').length ≤ 53 * l.length + wS l
 | [], _, _ => Nat.zero_le _
 | r :: l, c, c' => by
  have h1 := Kzo key l (c + 1) (c' + 1)
  have h2 := Kzn key (c : Int) r
  rw [Kc9, Jb7, List.length_append, Kc6, Kdb, List.length_cons]
  unfold Jaq
  omega
end Go.AI
