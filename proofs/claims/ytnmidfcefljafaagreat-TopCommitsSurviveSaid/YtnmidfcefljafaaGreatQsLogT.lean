/- Texts of the proof, joined: Jf5. Names of our own are shortened by program; the long ones stand in wip/. -/
import Derived.Test.YtnmidfcefljafaaGreatQsLogP7
namespace Go.AI
open Go
def blk (b : Bys) (c : Nat) : List Ja4 := Jcs b ++ [Jrt b c]
def Jbw : List Bys → Nat → List Ja4
 | [], _ => []
 | b :: bs, c => blk b c ++ Jbw bs (c + 1)
def K4i (bs : List Bys) : Prop := ∀ b, b ∈ bs → b.length ≤ 65536
def J55 (l : List Ja4) : Bool := l.all fun p => decide ((p.getD 0 0).toNat ≠ 2)
theorem Jwm : ∀ k b p, p ∈ Kdw k b → Jet p = true ∧ p.length = 16
 | 0, _, _, h => by cases h
 | k + 1, b, p, h => by
  rcases List.mem_cons.1 h with rfl | h
  ·exact ⟨rfl, K2j b⟩
  ·exact Jwm k _ p h
theorem Kcc (b : Bys) (c : Nat) : (blk b c).length = Jas b.length + 1 := by unfold blk; rw [List.length_append, Jcb, List.length_singleton]
theorem J1m {a b : List Ja4} : Jp8 (a ++ b) = true ↔ Jp8 a = true ∧ Jp8 b = true := by unfold Jp8; rw [List.all_append, Bool.and_eq_true]
theorem Kmb (b : Bys) : Jp8 (Jcs b) = true := List.all_eq_true.2 fun p hp => tt (Jwm _ _ p hp).2
theorem K83 (b : Bys) (c : Nat) : Jp8 (blk b c) = true := J1m.2 ⟨Kmb b, by rw [Jix]; exact ⟨K4f b c, rfl⟩⟩
theorem Kqp : ∀ bs c, Jp8 (Jbw bs c) = true
 | [], _ => rfl
 | b :: bs, c => J1m.2 ⟨K83 b c, Kqp bs (c + 1)⟩
theorem Kx9 (b : Bys) (c : Nat) : Jet (Jrt b c) = false := rfl
theorem K4j : ∀ {a : List Ja4}, (∀ p, p ∈ a → Jet p = true) → ∀ {q : Ja4} {r : List Ja4}, Jet q = false → (a ++ q :: r).takeWhile Jet = a ∧ (a ++ q :: r).dropWhile Jet = q :: r
 | [], _, q, r, hq => by rw [List.nil_append, List.takeWhile_cons, List.dropWhile_cons, hq]; exact ⟨rfl, rfl⟩
 | p :: a, h, q, r, hq => by
  have hp := h p List.mem_cons_self
  obtain ⟨h1, h2⟩ := K4j (a := a) (fun x hx => h x (List.mem_cons_of_mem _ hx)) (q := q) (r := r) hq
  rw [List.cons_append, List.takeWhile_cons, List.dropWhile_cons, hp, if_pos rfl, if_pos rfl, h1, h2]; exact ⟨rfl, rfl⟩
theorem K2r {b : Bys} (hb : b.length ≤ 65536) {c : Nat} (hc : c < 4294967296) (rest : List Ja4) : Jx2 (blk b c ++ rest) c = some (b, rest) := by
 have hd : ∀ p, p ∈ Jcs b → Jet p = true := fun p hp => (Jwm _ _ p hp).1
 obtain ⟨h1, h2⟩ := K4j hd (Kx9 b c) (r := rest)
 have e : blk b c ++ rest = Jcs b ++ Jrt b c :: rest := by unfold blk; rw [List.append_assoc]; rfl
 obtain ⟨f1, f2, f3, f4⟩ := Kxt b c
 have hn : b.length ≤ 15 * Jas b.length ∧ Jas b.length ≤ 5000 := by unfold Jas; omega
 have f3' : fld (Jrt b c) 8 4 = b.length := by rw [f3]; omega
 have hpay : (Jhf (Jcs b)).take b.length = b := by
  unfold Jcs
  rw [Jyg _ _ hn.1, List.take_left' rfl]
 have hok : Jsn (Jrt b c) (c : Int) (Jcs b).length (Jhf (Jcs b)) = true := by
  rw [Kxv (K4f b c) (Kmb b) hd hc, f3', hpay, Jcb]
  exact ⟨hb, hn.1, rfl, by rw [f2]; omega, rfl⟩
 unfold Jx2
 rw [e, h2, h1]
 simp only [hok, if_true, f3', hpay]
theorem Kgv : ∀ (bs : List Bys) (n c : Nat) (rest : List Ja4), K4i bs → bs.length ≤ n → c + bs.length < 4294967296 → Ji6 n (Jbw bs c ++ rest) (c : Int) = (bs ++ (Ji6 (n - bs.length) rest ((c + bs.length : Nat) : Int)).1, (Ji6 (n - bs.length) rest ((c + bs.length : Nat) : Int)).2)
 | [], n, c, rest, _, _, _ => by simp [Jbw]
 | b :: bs, 0, _, _, _, h, _ => absurd h (by simp)
 | b :: bs, n + 1, c, rest, hs, h, hc => by
  rw [List.length_cons] at h hc
  have hb := hs b List.mem_cons_self
  have e : Jbw (b :: bs) c ++ rest = blk b c ++ (Jbw bs (c + 1) ++ rest) := by rw [Jbw, List.append_assoc]
  rw [e, Ji6, K2r hb (by omega)]
  simp only
  rw [Jwc, Kgv bs n (c + 1) rest (fun x hx => hs x (List.mem_cons_of_mem _ hx)) (by omega) (by omega), List.length_cons, show c + 1 + bs.length = c + (bs.length + 1) by omega, show n + 1 - (bs.length + 1) = n - bs.length by omega]; rfl
theorem K4k : ∀ (l : List Ja4) {p : Ja4} {r : List Ja4}, l.dropWhile Jet = p :: r → p ∈ l
 | [], _, _, h => by cases h
 | q :: l, p, r, h => by
  rw [List.dropWhile_cons] at h
  split at h
  ·exact List.mem_cons_of_mem _ (K4k l h)
  ·cases h; exact List.mem_cons_self
theorem Kst {l : List Ja4} (h : J55 l = true) (num : Int) : Jx2 l num = none := by
 rcases Joi l num with ⟨_, e⟩ | ⟨p, r, hd, ⟨hk, e⟩ | ⟨_, e⟩⟩
 ·exact e
 ·have := List.all_eq_true.1 h p (K4k l hd)
  have := of_decide_eq_true this
  unfold Jsn at hk
  rw [Bool.and_eq_true, decide_eq_true_eq] at hk
  exact absurd hk.1.1 this
 ·exact e
theorem Ksu {l : List Ja4} (h : J55 l = true) (num : Int) : ∀ n, Ji6 n l num = ([], l)
 | 0 => rfl
 | n + 1 => by rw [Ji6, Kst h]
theorem Jwn : ∀ bs c, bs.length ≤ (Jbw bs c).length
 | [], _ => Nat.le_refl _
 | b :: bs, c => by
  have := Jwn bs (c + 1)
  rw [Jbw, List.length_append, Kcc, List.length_cons]; omega
theorem Jyh : ∀ (bs : List Bys) (b : Bys) (c : Nat), Jbw (bs ++ [b]) c = Jbw bs c ++ blk b (c + bs.length)
 | [], b, c => by simp [Jbw]
 | a :: bs, b, c => by
  rw [List.cons_append, Jbw, Jbw, Jyh bs b (c + 1), List.append_assoc, List.length_cons, show c + 1 + bs.length = c + (bs.length + 1) by omega]
def Jd2 (done : List Bys) (rest : List Ja4) : List Ja4 := Jhe :: (Jbw done 1 ++ rest)
def Jb7 (done : List Bys) (n : Nat) : Jf5 := (1 + ((Jbw done 1).length : Int), ((done.length : Int), ((n : Int), ())))
structure Jf0 (n : Nat) (s : List Ja4) (done : List Bys) (rest : List Ja4) : Prop where
 eq : s = Jd2 done rest
 len : s.length = n
 short : K4i done
 quiet : J55 rest = true
 pg : Jp8 rest = true
theorem Jf0.size {n : Nat} {s : List Ja4} {done : List Bys} {rest : List Ja4} (h : Jf0 n s done rest) : 1 + (Jbw done 1).length + rest.length = n := by
 have := congrArg List.length h.eq
 rw [h.len] at this
 simp only [Jd2, List.length_cons, List.length_append] at this; omega
theorem Jf0.pg_all {n : Nat} {s : List Ja4} {done : List Bys} {rest : List Ja4} (h : Jf0 n s done rest) : Jp8 s = true := by
 rw [h.eq]
 exact Jix.2 ⟨rfl, J1m.2 ⟨Kqp done 1, h.pg⟩⟩
theorem Jf0.opens {n : Nat} {s : List Ja4} {done : List Bys} {rest : List Ja4} (h : Jf0 n s done rest) (h1 : 2 ≤ n) (h2 : n ≤ 8192) : opE (Ja8 s) = 0 ∧ opL (Ja8 s) = Jb7 done n ∧ opB (Ja8 s) = done := by
 have hl := h.len
 have hz := h.size
 have hdl := Jwn done 1
 have hok : okD (Ja8 s) = true := Jwk (by omega) (by omega)
 have hc := Kxw.1 hok
 have hcon : Jut (Ja8 s) = s := rfl
 have hsc : J5x s.tail 1 = (done, rest) := by
  unfold J5x
  rw [if_pos (by omega), h.eq]
  show Ji6 (Jbw done 1 ++ rest).length (Jbw done 1 ++ rest) ((1 : Nat) : Int) = _
  rw [Kgv done _ 1 rest h.short (by rw [List.length_append]; omega) (by omega), Ksu h.quiet, List.append_nil]
 have hE : opE (Ja8 s) = 0 := by
  unfold opE
  rw [if_pos hc, hcon, if_neg (by show ¬ s.length < 2; omega), if_pos (by rw [h.eq]; rfl)]
 refine ⟨hE, ?_, ?_⟩
 ·unfold opL Jjp
  rw [if_pos hE, hcon, hsc]
  unfold Jb7
  have : (s.tail.length : Int) - (rest.length : Int) = ((Jbw done 1).length : Int) := by rw [List.length_tail]; omega
  rw [this]
  show (_, (_, ((s.length : Int), ()))) = _
  rw [hl]
 ·unfold opB
  rw [if_pos hE, hcon, hsc]
theorem Jf0.chk {n : Nat} {s : List Ja4} {done : List Bys} {rest : List Ja4} (h : Jf0 n s done rest) (h1 : 2 ≤ n) (h2 : n ≤ 8192) : J5w (Jb7 done n) = 0 := by
 have hz := h.size
 have hdl := Jwn done 1
 unfold J5w Jb7
 simp only
 rw [if_neg (by omega), if_neg (by omega)]
theorem Jf0.appE {n : Nat} {s : List Ja4} {done : List Bys} {rest : List Ja4} (h : Jf0 n s done rest) (h1 : 2 ≤ n) (h2 : n ≤ 8192) {b : Bys} (hb : b.length ≤ 65536) :
  (appE (Jb7 done n) b = 0 ∧ Jas b.length + 1 ≤ rest.length) ∨ (appE (Jb7 done n) b = 11 ∧ rest.length < Jas b.length + 1) := by
 have hz := h.size
 unfold Go.AI.appE
 rw [if_pos (h.chk h1 h2), if_neg (by omega)]
 unfold Jb7
 simp only
 by_cases c : Jas b.length + 1 ≤ rest.length
 ·exact .inl ⟨if_neg (by omega), c⟩
 ·exact .inr ⟨if_pos (by omega), by omega⟩
theorem Jyi {l : List Ja4} (h : J55 l = true) (k : Nat) : J55 (l.drop k) = true := by
 unfold J55 at h ⊢
 rw [List.all_eq_true] at h ⊢
 exact fun x hx => h x (List.mem_of_mem_drop hx)
theorem K2s {done : List Bys} {n : Nat} (b : Bys) : K1q (Jb7 done n) b = Jb7 (done ++ [b]) n := by
 unfold K1q Jb7
 rw [Jyh, List.length_append, Kcc, List.length_append, List.length_singleton]
 simp only [Prod.mk.injEq, and_true]
 omega
theorem Joj (done : List Bys) (b : Bys) (rest : List Ja4) : Jd2 (done ++ [b]) rest = Jd2 done (blk b (done.length + 1) ++ rest) := by
 unfold Jd2
 rw [Jyh, List.append_assoc, Nat.add_comm 1]
theorem J8d (done : List Bys) (rest ps : List Ja4) (k : Nat) :
  (Jd2 done rest).take (1 + (Jbw done 1).length + k) ++ ps ++ (Jd2 done rest).drop (1 + (Jbw done 1).length + k + ps.length) = Jd2 done (rest.take k ++ ps ++ rest.drop (k + ps.length)) := by
 have e2 : ∀ r, Jd2 done r = (Jhe :: Jbw done 1) ++ r := fun _ => rfl
 have hl : (Jhe :: Jbw done 1).length = 1 + (Jbw done 1).length := by rw [List.length_cons]; omega
 rw [e2 rest, e2 (rest.take k ++ ps ++ rest.drop (k + ps.length)), ← hl, List.take_append, List.take_of_length_le (by omega), List.drop_append, List.drop_eq_nil_of_le (by omega), show (Jhe :: Jbw done 1).length + k - (Jhe :: Jbw done 1).length = k by omega, show (Jhe :: Jbw done 1).length + k + ps.length - (Jhe :: Jbw done 1).length = k + ps.length by omega, List.nil_append, List.append_assoc, List.append_assoc, List.append_assoc]
theorem Kcd {n : Nat} {s : List Ja4} {done : List Bys} {rest : List Ja4} (h : Jf0 n s done rest) {b : Bys} (hr : Jas b.length + 1 ≤ rest.length) (l : List DOp) (i : Int) :
  goD (Ja8 s) (wrO (Jb7 done n).1 (Jcs b) :: syO :: l) i = goD (Ja8 (Jd2 done (Jcs b ++ rest.drop (Jas b.length)))) l (i + 1 + 1) := by
 have hz := h.size
 have hl := h.len
 have e0 : (Jb7 done n).1 = ((1 + (Jbw done 1).length : Nat) : Int) := by show 1 + ((Jbw done 1).length : Int) = _; omega
 rw [e0, K2o (by rw [Jcb]; omega), h.eq]
 have := J8d done rest (Jcs b) 0
 rw [Nat.add_zero, Nat.zero_add, List.take_zero, List.nil_append, Jcb] at this
 rw [Jcb, this]
theorem Kya {n : Nat} {s : List Ja4} {done : List Bys} {rest : List Ja4} (hs : s = Jd2 done rest) (hl : s.length = n) {b : Bys} (hr : Jas b.length + 1 ≤ rest.length) (l : List DOp) (i : Int) :
  goD (Ja8 s) (wrO ((Jb7 done n).1 + Jas b.length) [Jrt b ((Jb7 done n).2.1 + 1).toNat] :: syO :: l) i = goD (Ja8 (Jd2 done (rest.take (Jas b.length) ++ [Jrt b (done.length + 1)] ++ rest.drop (Jas b.length + 1)))) l (i + 1 + 1) := by
 have hz := congrArg List.length hs
 simp only [Jd2, List.length_cons, List.length_append] at hz
 have e0 : (Jb7 done n).1 + (Jas b.length : Int) = ((1 + (Jbw done 1).length + Jas b.length : Nat) : Int) := by show 1 + ((Jbw done 1).length : Int) + _ = _; omega
 have e1 : ((Jb7 done n).2.1 + 1).toNat = done.length + 1 := by show ((done.length : Int) + 1).toNat = _; omega
 rw [e0, e1, K2o (by show _ + 1 ≤ _; omega), hs]
 have := J8d done rest [Jrt b (done.length + 1)] (Jas b.length)
 rw [this]; rfl
theorem Kyb {n : Nat} {s : List Ja4} {done : List Bys} {rest : List Ja4} (h : Jf0 n s done rest) (h1 : 2 ≤ n) (h2 : n ≤ 8192) {b : Bys} (hb : b.length ≤ 65536) (hr : Jas b.length + 1 ≤ rest.length) :
  ∃ i, Jo3 (Ja8 s) (Juu (Jb7 done n) b) = (Ja8 (Jd2 (done ++ [b]) (rest.drop (Jas b.length + 1))), (i, 0)) ∧ Jf0 n (Jd2 (done ++ [b]) (rest.drop (Jas b.length + 1))) (done ++ [b]) (rest.drop (Jas b.length + 1)) := by
 have hz := h.size
 have hl := h.len
 have hok : Jf0 n (Jd2 (done ++ [b]) (rest.drop (Jas b.length + 1))) (done ++ [b]) (rest.drop (Jas b.length + 1)) := by
  refine ⟨rfl, ?_, ?_, Jyi h.quiet _, Jsg h.pg _⟩
  ·rw [Joj]
   simp only [Jd2, List.length_cons, List.length_append, Kcc, List.length_drop]; omega
  ·intro x hx
   rcases List.mem_append.1 hx with hx | hx
   ·exact h.short x hx
   ·rw [List.mem_singleton.1 hx]; exact hb
 rw [Jiy (by omega) (by omega)]
 unfold Juu
 by_cases c : b = []
 ·subst c
  refine ⟨2, ?_, hok⟩
  rw [if_pos rfl, List.nil_append, Kya h.eq h.len hr]
  rw [Joj]; rfl
 ·refine ⟨4, ?_, hok⟩
  rw [if_neg c]
  show goD (Ja8 s) (wrO (Jb7 done n).1 (Jcs b) :: syO :: [wrO ((Jb7 done n).1 + Jas b.length) [Jrt b ((Jb7 done n).2.1 + 1).toNat], syO]) 0 = _
  have hlen2 : (Jd2 done (Jcs b ++ rest.drop (Jas b.length))).length = n := by
   simp only [Jd2, List.length_cons, List.length_append, Jcb, List.length_drop]; omega
  rw [Kcd h hr, Kya rfl hlen2 (by rw [List.length_append, Jcb, List.length_drop]; omega), Joj]
  have e1 : (Jcs b ++ rest.drop (Jas b.length)).take (Jas b.length) = Jcs b := List.take_left' (Jcb b)
  have e2 : (Jcs b ++ rest.drop (Jas b.length)).drop (Jas b.length + 1) = rest.drop (Jas b.length + 1) := by
   rw [List.drop_append, Jcb, List.drop_eq_nil_of_le (by rw [Jcb]; omega), List.nil_append, List.drop_drop]; congr 1; omega
  rw [e1, e2]; rfl
theorem K6z (l : Jf5) (b : Bys) (hb : b.length ≤ 65536) : (Juu l b).length ≤ 4 ∧ Kad (Juu l b) ≤ 5001 := by
 have hn : Jas b.length ≤ 5000 := by unfold Jas; omega
 unfold Juu Kad
 split
 ·refine ⟨by simp, ?_⟩
  show 1 + (0 + 0) ≤ _; omega
 ·refine ⟨by simp, ?_⟩
  show (Jcs b).length + (0 + (1 + (0 + 0))) ≤ _
  rw [Jcb]; omega
end Go.AI
