/- Texts of the proof, joined: Jfp. Names of our own are shortened by program; the long ones stand in wip/. -/
import Derived.Test.YtcdajbmgoafnkaaGreatQvLogP7
namespace Go.AI
open Go
def blk (b : Bys) (c : Nat) : List Jbe := Jc0 b ++ [Jsd b c]
def Jb7 : List Bys → Nat → List Jbe
 | [], _ => []
 | b :: bs, c => blk b c ++ Jb7 bs (c + 1)
def K50 (bs : List Bys) : Prop := ∀ b, b ∈ bs → b.length ≤ 65536
def J60 (l : List Jbe) : Bool := l.all fun p => decide ((p.getD 0 0).toNat ≠ 2)
theorem Jw3 : ∀ k b p, p ∈ Keo k b → Je5 p = true ∧ p.length = 16
 | 0, _, _, h => by cases h
 | k + 1, b, p, h => by
  rcases List.mem_cons.1 h with rfl | h
  ·exact ⟨rfl, K3x b⟩
  ·exact Jw3 k _ p h
theorem Kc6 (b : Bys) (c : Nat) : (blk b c).length = Jaq b.length + 1 := by unfold blk; rw [List.length_append, Jcl, List.length_singleton]
theorem J19 {a b : List Jbe} : Jqr (a ++ b) = true ↔ Jqr a = true ∧ Jqr b = true := by unfold Jqr; rw [List.all_append, Bool.and_eq_true]
theorem Kmy (b : Bys) : Jqr (Jc0 b) = true := List.all_eq_true.2 fun p hp => tt (Jw3 _ _ p hp).2
theorem Qai (b : Bys) (c : Nat) : Jqr (blk b c) = true := J19.2 ⟨Kmy b, by rw [Jja]; exact ⟨K5x b c, rfl⟩⟩
theorem Krg : ∀ bs c, Jqr (Jb7 bs c) = true
 | [], _ => rfl
 | b :: bs, c => J19.2 ⟨Qai b c, Krg bs (c + 1)⟩
theorem Kzc (b : Bys) (c : Nat) : Je5 (Jsd b c) = false := rfl
theorem K51 : ∀ {a : List Jbe}, (∀ p, p ∈ a → Je5 p = true) → ∀ {q : Jbe} {r : List Jbe}, Je5 q = false → (a ++ q :: r).takeWhile Je5 = a ∧ (a ++ q :: r).dropWhile Je5 = q :: r
 | [], _, q, r, hq => by rw [List.nil_append, List.takeWhile_cons, List.dropWhile_cons, hq]; exact ⟨rfl, rfl⟩
 | p :: a, h, q, r, hq => by
  have hp := h p List.mem_cons_self
  obtain ⟨h1, h2⟩ := K51 (a := a) (fun x hx => h x (List.mem_cons_of_mem _ hx)) (q := q) (r := r) hq
  rw [List.cons_append, List.takeWhile_cons, List.dropWhile_cons, hp, if_pos rfl, if_pos rfl, h1, h2]; exact ⟨rfl, rfl⟩
theorem K37 {b : Bys} (hb : b.length ≤ 65536) {c : Nat} (hc : c < 4294967296) (rest : List Jbe) : Jyn (blk b c ++ rest) c = some (b, rest) := by
 have hd : ∀ p, p ∈ Jc0 b → Je5 p = true := fun p hp => (Jw3 _ _ p hp).1
 obtain ⟨h1, h2⟩ := K51 hd (Kzc b c) (r := rest)
 have e : blk b c ++ rest = Jc0 b ++ Jsd b c :: rest := by unfold blk; rw [List.append_assoc]; rfl
 obtain ⟨f1, f2, f3, f4⟩ := Kyv b c
 have hn : b.length ≤ 15 * Jaq b.length ∧ Jaq b.length ≤ 5000 := by unfold Jaq; omega
 have f3' : fld (Jsd b c) 8 4 = b.length := by rw [f3]; omega
 have hpay : (Jhs (Jc0 b)).take b.length = b := by
  unfold Jc0
  rw [Jyz _ _ hn.1, List.take_left' rfl]
 have hok : Js9 (Jsd b c) (c : Int) (Jc0 b).length (Jhs (Jc0 b)) = true := by
  rw [Kyx (K5x b c) (Kmy b) hd hc, f3', hpay, Jcl]
  exact ⟨hb, hn.1, rfl, by rw [f2]; omega, rfl⟩
 unfold Jyn
 rw [e, h2, h1]
 simp only [hok, if_true, f3', hpay]
theorem Khl : ∀ (bs : List Bys) (n c : Nat) (rest : List Jbe), K50 bs → bs.length ≤ n → c + bs.length < 4294967296 → Jjk n (Jb7 bs c ++ rest) (c : Int) = (bs ++ (Jjk (n - bs.length) rest ((c + bs.length : Nat) : Int)).1, (Jjk (n - bs.length) rest ((c + bs.length : Nat) : Int)).2)
 | [], n, c, rest, _, _, _ => by simp [Jb7]
 | b :: bs, 0, _, _, _, h, _ => absurd h (by simp)
 | b :: bs, n + 1, c, rest, hs, h, hc => by
  rw [List.length_cons] at h hc
  have hb := hs b List.mem_cons_self
  have e : Jb7 (b :: bs) c ++ rest = blk b c ++ (Jb7 bs (c + 1) ++ rest) := by rw [Jb7, List.append_assoc]
  rw [e, Jjk, K37 hb (by omega)]
  simp only
  rw [Juu, Khl bs n (c + 1) rest (fun x hx => hs x (List.mem_cons_of_mem _ hx)) (by omega) (by omega), List.length_cons, show c + 1 + bs.length = c + (bs.length + 1) by omega, show n + 1 - (bs.length + 1) = n - bs.length by omega]; rfl
theorem K52 : ∀ (l : List Jbe) {p : Jbe} {r : List Jbe}, l.dropWhile Je5 = p :: r → p ∈ l
 | [], _, _, h => by cases h
 | q :: l, p, r, h => by
  rw [List.dropWhile_cons] at h
  split at h
  ·exact List.mem_cons_of_mem _ (K52 l h)
  ·cases h; exact List.mem_cons_self
theorem Ktq {l : List Jbe} (h : J60 l = true) (num : Int) : Jyn l num = none := by
 rcases Jo2 l num with ⟨_, e⟩ | ⟨p, r, hd, ⟨hk, e⟩ | ⟨_, e⟩⟩
 ·exact e
 ·have := List.all_eq_true.1 h p (K52 l hd)
  have := of_decide_eq_true this
  unfold Js9 at hk
  rw [Bool.and_eq_true, decide_eq_true_eq] at hk
  exact absurd hk.1.1 this
 ·exact e
theorem Ktr {l : List Jbe} (h : J60 l = true) (num : Int) : ∀ n, Jjk n l num = ([], l)
 | 0 => rfl
 | n + 1 => by rw [Jjk, Ktq h]
theorem Jw4 : ∀ bs c, bs.length ≤ (Jb7 bs c).length
 | [], _ => Nat.le_refl _
 | b :: bs, c => by
  have := Jw4 bs (c + 1)
  rw [Jb7, List.length_append, Kc6, List.length_cons]; omega
theorem Jy2 : ∀ (bs : List Bys) (b : Bys) (c : Nat), Jb7 (bs ++ [b]) c = Jb7 bs c ++ blk b (c + bs.length)
 | [], b, c => by simp [Jb7]
 | a :: bs, b, c => by
  rw [List.cons_append, Jb7, Jb7, Jy2 bs b (c + 1), List.append_assoc, List.length_cons, show c + 1 + bs.length = c + (bs.length + 1) by omega]
def Jeh (done : List Bys) (rest : List Jbe) : List Jbe := Jhr :: (Jb7 done 1 ++ rest)
def Jcv (done : List Bys) (n : Nat) : Jfp := (1 + ((Jb7 done 1).length : Int), ((done.length : Int), ((n : Int), ())))
structure Jgc (n : Nat) (s : List Jbe) (done : List Bys) (rest : List Jbe) : Prop where
 eq : s = Jeh done rest
 len : s.length = n
 short : K50 done
 quiet : J60 rest = true
 pg : Jqr rest = true
theorem Jgc.size {n : Nat} {s : List Jbe} {done : List Bys} {rest : List Jbe} (h : Jgc n s done rest) : 1 + (Jb7 done 1).length + rest.length = n := by
 have := congrArg List.length h.eq
 rw [h.len] at this
 simp only [Jeh, List.length_cons, List.length_append] at this; omega
theorem Jgc.pg_all {n : Nat} {s : List Jbe} {done : List Bys} {rest : List Jbe} (h : Jgc n s done rest) : Jqr s = true := by
 rw [h.eq]
 exact Jja.2 ⟨rfl, J19.2 ⟨Krg done 1, h.pg⟩⟩
theorem Jgc.opens {n : Nat} {s : List Jbe} {done : List Bys} {rest : List Jbe} (h : Jgc n s done rest) (h1 : 2 ≤ n) (h2 : n ≤ 8192) : opE (Jbp s) = 0 ∧ opL (Jbp s) = Jcv done n ∧ opB (Jbp s) = done := by
 have hl := h.len
 have hz := h.size
 have hdl := Jw4 done 1
 have hok : okD (Jbp s) = true := Jw2 (by omega) (by omega)
 have hc := Kyy.1 hok
 have hcon : Jvi (Jbp s) = s := rfl
 have hsc : J6s s.tail 1 = (done, rest) := by
  unfold J6s
  rw [if_pos (by omega), h.eq]
  show Jjk (Jb7 done 1 ++ rest).length (Jb7 done 1 ++ rest) ((1 : Nat) : Int) = _
  rw [Khl done _ 1 rest h.short (by rw [List.length_append]; omega) (by omega), Ktr h.quiet, List.append_nil]
 have hE : opE (Jbp s) = 0 := by
  unfold opE
  rw [if_pos hc, hcon, if_neg (by show ¬ s.length < 2; omega), if_pos (by rw [h.eq]; rfl)]
 refine ⟨hE, ?_, ?_⟩
 ·unfold opL Jj6
  rw [if_pos hE, hcon, hsc]
  unfold Jcv
  have : (s.tail.length : Int) - (rest.length : Int) = ((Jb7 done 1).length : Int) := by rw [List.length_tail]; omega
  rw [this]
  show (_, (_, ((s.length : Int), ()))) = _
  rw [hl]
 ·unfold opB
  rw [if_pos hE, hcon, hsc]
theorem Jgc.chk {n : Nat} {s : List Jbe} {done : List Bys} {rest : List Jbe} (h : Jgc n s done rest) (h1 : 2 ≤ n) (h2 : n ≤ 8192) : J6g (Jcv done n) = 0 := by
 have hz := h.size
 have hdl := Jw4 done 1
 unfold J6g Jcv
 simp only
 rw [if_neg (by omega), if_neg (by omega)]
theorem Jgc.appE {n : Nat} {s : List Jbe} {done : List Bys} {rest : List Jbe} (h : Jgc n s done rest) (h1 : 2 ≤ n) (h2 : n ≤ 8192) {b : Bys} (hb : b.length ≤ 65536) :
  (appE (Jcv done n) b = 0 ∧ Jaq b.length + 1 ≤ rest.length) ∨ (appE (Jcv done n) b = 11 ∧ rest.length < Jaq b.length + 1) := by
 have hz := h.size
 unfold Go.AI.appE
 rw [if_pos (h.chk h1 h2), if_neg (by omega)]
 unfold Jcv
 simp only
 by_cases c : Jaq b.length + 1 ≤ rest.length
 ·exact .inl ⟨if_neg (by omega), c⟩
 ·exact .inr ⟨if_pos (by omega), by omega⟩
theorem Jy3 {l : List Jbe} (h : J60 l = true) (k : Nat) : J60 (l.drop k) = true := by
 unfold J60 at h ⊢
 rw [List.all_eq_true] at h ⊢
 exact fun x hx => h x (List.mem_of_mem_drop hx)
theorem K38 {done : List Bys} {n : Nat} (b : Bys) : Kw9 (Jcv done n) b = Jcv (done ++ [b]) n := by
 unfold Kw9 Jcv
 rw [Jy2, List.length_append, Kc6, List.length_append, List.length_singleton]
 simp only [Prod.mk.injEq, and_true]
 omega
theorem Jo3 (done : List Bys) (b : Bys) (rest : List Jbe) : Jeh (done ++ [b]) rest = Jeh done (blk b (done.length + 1) ++ rest) := by
 unfold Jeh
 rw [Jy2, List.append_assoc, Nat.add_comm 1]
theorem J88 (done : List Bys) (rest ps : List Jbe) (k : Nat) :
  (Jeh done rest).take (1 + (Jb7 done 1).length + k) ++ ps ++ (Jeh done rest).drop (1 + (Jb7 done 1).length + k + ps.length) = Jeh done (rest.take k ++ ps ++ rest.drop (k + ps.length)) := by
 have e2 : ∀ r, Jeh done r = (Jhr :: Jb7 done 1) ++ r := fun _ => rfl
 have hl : (Jhr :: Jb7 done 1).length = 1 + (Jb7 done 1).length := by rw [List.length_cons]; omega
 rw [e2 rest, e2 (rest.take k ++ ps ++ rest.drop (k + ps.length)), ← hl, List.take_append, List.take_of_length_le (by omega), List.drop_append, List.drop_eq_nil_of_le (by omega), show (Jhr :: Jb7 done 1).length + k - (Jhr :: Jb7 done 1).length = k by omega, show (Jhr :: Jb7 done 1).length + k + ps.length - (Jhr :: Jb7 done 1).length = k + ps.length by omega, List.nil_append, List.append_assoc, List.append_assoc, List.append_assoc]
theorem Kc7 {n : Nat} {s : List Jbe} {done : List Bys} {rest : List Jbe} (h : Jgc n s done rest) {b : Bys} (hr : Jaq b.length + 1 ≤ rest.length) (l : List DOp) (i : Int) :
  goD (Jbp s) (wrO (Jcv done n).1 (Jc0 b) :: syO :: l) i = goD (Jbp (Jeh done (Jc0 b ++ rest.drop (Jaq b.length)))) l (i + 1 + 1) := by
 have hz := h.size
 have hl := h.len
 have e0 : (Jcv done n).1 = ((1 + (Jb7 done 1).length : Nat) : Int) := by show 1 + ((Jb7 done 1).length : Int) = _; omega
 rw [e0, K32 (by rw [Jcl]; omega), h.eq]
 have := J88 done rest (Jc0 b) 0
 rw [Nat.add_zero, Nat.zero_add, List.take_zero, List.nil_append, Jcl] at this
 rw [Jcl, this]
theorem Kzd {n : Nat} {s : List Jbe} {done : List Bys} {rest : List Jbe} (hs : s = Jeh done rest) (hl : s.length = n) {b : Bys} (hr : Jaq b.length + 1 ≤ rest.length) (l : List DOp) (i : Int) :
  goD (Jbp s) (wrO ((Jcv done n).1 + Jaq b.length) [Jsd b ((Jcv done n).2.1 + 1).toNat] :: syO :: l) i = goD (Jbp (Jeh done (rest.take (Jaq b.length) ++ [Jsd b (done.length + 1)] ++ rest.drop (Jaq b.length + 1)))) l (i + 1 + 1) := by
 have hz := congrArg List.length hs
 simp only [Jeh, List.length_cons, List.length_append] at hz
 have e0 : (Jcv done n).1 + (Jaq b.length : Int) = ((1 + (Jb7 done 1).length + Jaq b.length : Nat) : Int) := by show 1 + ((Jb7 done 1).length : Int) + _ = _; omega
 have e1 : ((Jcv done n).2.1 + 1).toNat = done.length + 1 := by show ((done.length : Int) + 1).toNat = _; omega
 rw [e0, e1, K32 (by show _ + 1 ≤ _; omega), hs]
 have := J88 done rest [Jsd b (done.length + 1)] (Jaq b.length)
 rw [this]; rfl
theorem Kze {n : Nat} {s : List Jbe} {done : List Bys} {rest : List Jbe} (h : Jgc n s done rest) (h1 : 2 ≤ n) (h2 : n ≤ 8192) {b : Bys} (hb : b.length ≤ 65536) (hr : Jaq b.length + 1 ≤ rest.length) :
  ∃ i, Jpp (Jbp s) (Juo (Jcv done n) b) = (Jbp (Jeh (done ++ [b]) (rest.drop (Jaq b.length + 1))), (i, 0)) ∧ Jgc n (Jeh (done ++ [b]) (rest.drop (Jaq b.length + 1))) (done ++ [b]) (rest.drop (Jaq b.length + 1)) := by
 have hz := h.size
 have hl := h.len
 have hok : Jgc n (Jeh (done ++ [b]) (rest.drop (Jaq b.length + 1))) (done ++ [b]) (rest.drop (Jaq b.length + 1)) := by
  refine ⟨rfl, ?_, ?_, Jy3 h.quiet _, Js1 h.pg _⟩
  ·rw [Jo3]
   simp only [Jeh, List.length_cons, List.length_append, Kc6, List.length_drop]; omega
  ·intro x hx
   rcases List.mem_append.1 hx with hx | hx
   ·exact h.short x hx
   ·rw [List.mem_singleton.1 hx]; exact hb
 rw [Jjb (by omega) (by omega)]
 unfold Juo
 by_cases c : b = []
 ·subst c
  refine ⟨2, ?_, hok⟩
  rw [if_pos rfl, List.nil_append, Kzd h.eq h.len hr]
  rw [Jo3]; rfl
 ·refine ⟨4, ?_, hok⟩
  rw [if_neg c]
  show goD (Jbp s) (wrO (Jcv done n).1 (Jc0 b) :: syO :: [wrO ((Jcv done n).1 + Jaq b.length) [Jsd b ((Jcv done n).2.1 + 1).toNat], syO]) 0 = _
  have hlen2 : (Jeh done (Jc0 b ++ rest.drop (Jaq b.length))).length = n := by
   simp only [Jeh, List.length_cons, List.length_append, Jcl, List.length_drop]; omega
  rw [Kc7 h hr, Kzd rfl hlen2 (by rw [List.length_append, Jcl, List.length_drop]; omega), Jo3]
  have e1 : (Jc0 b ++ rest.drop (Jaq b.length)).take (Jaq b.length) = Jc0 b := List.take_left' (Jcl b)
  have e2 : (Jc0 b ++ rest.drop (Jaq b.length)).drop (Jaq b.length + 1) = rest.drop (Jaq b.length + 1) := by
   rw [List.drop_append, Jcl, List.drop_eq_nil_of_le (by rw [Jcl]; omega), List.nil_append, List.drop_drop]; congr 1; omega
  rw [e1, e2]; rfl
theorem K8e (l : Jfp) (b : Bys) (hb : b.length ≤ 65536) : (Juo l b).length ≤ 4 ∧ Ka7 (Juo l b) ≤ 5001 := by
 have hn : Jaq b.length ≤ 5000 := by unfold Jaq; omega
 unfold Juo Ka7
 split
 ·refine ⟨by simp, ?_⟩
  show 1 + (0 + 0) ≤ _; omega
 ·refine ⟨by simp, ?_⟩
  show (Jc0 b).length + (0 + (1 + (0 + 0))) ≤ _
  rw [Jcl]; omega
end Go.AI
