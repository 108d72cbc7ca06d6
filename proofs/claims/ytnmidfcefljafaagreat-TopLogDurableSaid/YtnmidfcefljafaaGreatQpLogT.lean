/- Texts of the proof, joined: Jf9. Names of our own are shortened by program; the long ones stand in wip/. -/
import Derived.Test.YtnmidfcefljafaaGreatQpLogP7
namespace Go.AI
open Go
def blk (b : Bys) (c : Nat) : List Ja4 := Jcw b ++ [Jr7 b c]
def Jb1 : List Bys → Nat → List Ja4
 | [], _ => []
 | b :: bs, c => blk b c ++ Jb1 bs (c + 1)
def K6f (bs : List Bys) : Prop := ∀ b, b ∈ bs → b.length ≤ 65536
def J7b (l : List Ja4) : Bool := l.all fun p => decide ((p.getD 0 0).toNat ≠ 2)
theorem Jwz : ∀ k b p, p ∈ Ke3 k b → Jet p = true ∧ p.length = 16
 | 0, _, _, h => by cases h
 | k + 1, b, p, h => by
  rcases List.mem_cons.1 h with rfl | h
  ·exact ⟨rfl, K4k b⟩
  ·exact Jwz k _ p h
theorem Knn (b : Bys) (c : Nat) : (blk b c).length = Jau b.length + 1 := by unfold blk; rw [List.length_append, Jcc, List.length_singleton]
theorem J2h {a b : List Ja4} : Jql (a ++ b) = true ↔ Jql a = true ∧ Jql b = true := by unfold Jql; rw [List.all_append, Bool.and_eq_true]
theorem Kno (b : Bys) : Jql (Jcw b) = true := List.all_eq_true.2 fun p hp => tt (Jwz _ _ p hp).2
theorem Qa1 (b : Bys) (c : Nat) : Jql (blk b c) = true := J2h.2 ⟨Kno b, by rw [Ji2]; exact ⟨K6c b c, rfl⟩⟩
theorem Ksg : ∀ bs c, Jql (Jb1 bs c) = true
 | [], _ => rfl
 | b :: bs, c => J2h.2 ⟨Qa1 b c, Ksg bs (c + 1)⟩
theorem Kz8 (b : Bys) (c : Nat) : Jet (Jr7 b c) = false := rfl
theorem K6g : ∀ {a : List Ja4}, (∀ p, p ∈ a → Jet p = true) → ∀ {q : Ja4} {r : List Ja4}, Jet q = false → (a ++ q :: r).takeWhile Jet = a ∧ (a ++ q :: r).dropWhile Jet = q :: r
 | [], _, q, r, hq => by rw [List.nil_append, List.takeWhile_cons, List.dropWhile_cons, hq]; exact ⟨rfl, rfl⟩
 | p :: a, h, q, r, hq => by
  have hp := h p List.mem_cons_self
  obtain ⟨h1, h2⟩ := K6g (a := a) (fun x hx => h x (List.mem_cons_of_mem _ hx)) (q := q) (r := r) hq
  rw [List.cons_append, List.takeWhile_cons, List.dropWhile_cons, hp, if_pos rfl, if_pos rfl, h1, h2]; exact ⟨rfl, rfl⟩
theorem K4s {b : Bys} (hb : b.length ≤ 65536) {c : Nat} (hc : c < 4294967296) (rest : List Ja4) : Jyi (blk b c ++ rest) c = some (b, rest) := by
 have hd : ∀ p, p ∈ Jcw b → Jet p = true := fun p hp => (Jwz _ _ p hp).1
 obtain ⟨h1, h2⟩ := K6g hd (Kz8 b c) (r := rest)
 have e : blk b c ++ rest = Jcw b ++ Jr7 b c :: rest := by unfold blk; rw [List.append_assoc]; rfl
 obtain ⟨f1, f2, f3, f4⟩ := Kzs b c
 have hn : b.length ≤ 15 * Jau b.length ∧ Jau b.length ≤ 5000 := by unfold Jau; omega
 have f3' : fld (Jr7 b c) 8 4 = b.length := by rw [f3]; omega
 have hpay : (Jhg (Jcw b)).take b.length = b := by
  unfold Jcw
  rw [Jyu _ _ hn.1, List.take_left' rfl]
 have hok : Js1 (Jr7 b c) (c : Int) (Jcw b).length (Jhg (Jcw b)) = true := by
  rw [Kzu (K6c b c) (Kno b) hd hc, f3', hpay, Jcc]
  exact ⟨hb, hn.1, rfl, by rw [f2]; omega, rfl⟩
 unfold Jyi
 rw [e, h2, h1]
 simp only [hok, if_true, f3', hpay]
theorem Kh4 : ∀ (bs : List Bys) (n c : Nat) (rest : List Ja4), K6f bs → bs.length ≤ n → c + bs.length < 4294967296 → Jjb n (Jb1 bs c ++ rest) (c : Int) = (bs ++ (Jjb (n - bs.length) rest ((c + bs.length : Nat) : Int)).1, (Jjb (n - bs.length) rest ((c + bs.length : Nat) : Int)).2)
 | [], n, c, rest, _, _, _ => by simp [Jb1]
 | b :: bs, 0, _, _, _, h, _ => absurd h (by simp)
 | b :: bs, n + 1, c, rest, hs, h, hc => by
  rw [List.length_cons] at h hc
  have hb := hs b List.mem_cons_self
  have e : Jb1 (b :: bs) c ++ rest = blk b c ++ (Jb1 bs (c + 1) ++ rest) := by rw [Jb1, List.append_assoc]
  rw [e, Jjb, K4s hb (by omega)]
  simp only
  rw [Jte, Kh4 bs n (c + 1) rest (fun x hx => hs x (List.mem_cons_of_mem _ hx)) (by omega) (by omega), List.length_cons, show c + 1 + bs.length = c + (bs.length + 1) by omega, show n + 1 - (bs.length + 1) = n - bs.length by omega]; rfl
theorem K6h : ∀ (l : List Ja4) {p : Ja4} {r : List Ja4}, l.dropWhile Jet = p :: r → p ∈ l
 | [], _, _, h => by cases h
 | q :: l, p, r, h => by
  rw [List.dropWhile_cons] at h
  split at h
  ·exact List.mem_cons_of_mem _ (K6h l h)
  ·cases h; exact List.mem_cons_self
theorem Kuo {l : List Ja4} (h : J7b l = true) (num : Int) : Jyi l num = none := by
 rcases Joz l num with ⟨_, e⟩ | ⟨p, r, hd, ⟨hk, e⟩ | ⟨_, e⟩⟩
 ·exact e
 ·have := List.all_eq_true.1 h p (K6h l hd)
  have := of_decide_eq_true this
  unfold Js1 at hk
  rw [Bool.and_eq_true, decide_eq_true_eq] at hk
  exact absurd hk.1.1 this
 ·exact e
theorem Kup {l : List Ja4} (h : J7b l = true) (num : Int) : ∀ n, Jjb n l num = ([], l)
 | 0 => rfl
 | n + 1 => by rw [Jjb, Kuo h]
theorem Jw0 : ∀ bs c, bs.length ≤ (Jb1 bs c).length
 | [], _ => Nat.le_refl _
 | b :: bs, c => by
  have := Jw0 bs (c + 1)
  rw [Jb1, List.length_append, Knn, List.length_cons]; omega
theorem Jyv : ∀ (bs : List Bys) (b : Bys) (c : Nat), Jb1 (bs ++ [b]) c = Jb1 bs c ++ blk b (c + bs.length)
 | [], b, c => by simp [Jb1]
 | a :: bs, b, c => by
  rw [List.cons_append, Jb1, Jb1, Jyv bs b (c + 1), List.append_assoc, List.length_cons, show c + 1 + bs.length = c + (bs.length + 1) by omega]
def Jd5 (done : List Bys) (rest : List Ja4) : List Ja4 := Jh2 :: (Jb1 done 1 ++ rest)
def Jck (done : List Bys) (n : Nat) : Jf9 := (1 + ((Jb1 done 1).length : Int), ((done.length : Int), ((n : Int), ())))
structure Jf1 (n : Nat) (s : List Ja4) (done : List Bys) (rest : List Ja4) : Prop where
 eq : s = Jd5 done rest
 len : s.length = n
 short : K6f done
 quiet : J7b rest = true
 pg : Jql rest = true
theorem Jf1.size {n : Nat} {s : List Ja4} {done : List Bys} {rest : List Ja4} (h : Jf1 n s done rest) : 1 + (Jb1 done 1).length + rest.length = n := by
 have := congrArg List.length h.eq
 rw [h.len] at this
 simp only [Jd5, List.length_cons, List.length_append] at this; omega
theorem Jf1.pg_all {n : Nat} {s : List Ja4} {done : List Bys} {rest : List Ja4} (h : Jf1 n s done rest) : Jql s = true := by
 rw [h.eq]
 exact Ji2.2 ⟨rfl, J2h.2 ⟨Ksg done 1, h.pg⟩⟩
theorem Jf1.opens {n : Nat} {s : List Ja4} {done : List Bys} {rest : List Ja4} (h : Jf1 n s done rest) (h1 : 2 ≤ n) (h2 : n ≤ 8192) : opE (Ja5 s) = 0 ∧ opL (Ja5 s) = Jck done n ∧ opB (Ja5 s) = done := by
 have hl := h.len
 have hz := h.size
 have hdl := Jw0 done 1
 have hok : okD (Ja5 s) = true := Jwx (by omega) (by omega)
 have hc := Kzv.1 hok
 have hcon : Ju8 (Ja5 s) = s := rfl
 have hsc : J62 s.tail 1 = (done, rest) := by
  unfold J62
  rw [if_pos (by omega), h.eq]
  show Jjb (Jb1 done 1 ++ rest).length (Jb1 done 1 ++ rest) ((1 : Nat) : Int) = _
  rw [Kh4 done _ 1 rest h.short (by rw [List.length_append]; omega) (by omega), Kup h.quiet, List.append_nil]
 have hE : opE (Ja5 s) = 0 := by
  unfold opE
  rw [if_pos hc, hcon, if_neg (by show ¬ s.length < 2; omega), if_pos (by rw [h.eq]; rfl)]
 refine ⟨hE, ?_, ?_⟩
 ·unfold opL Jjy
  rw [if_pos hE, hcon, hsc]
  unfold Jck
  have : (s.tail.length : Int) - (rest.length : Int) = ((Jb1 done 1).length : Int) := by rw [List.length_tail]; omega
  rw [this]
  show (_, (_, ((s.length : Int), ()))) = _
  rw [hl]
 ·unfold opB
  rw [if_pos hE, hcon, hsc]
theorem Jf1.chk {n : Nat} {s : List Ja4} {done : List Bys} {rest : List Ja4} (h : Jf1 n s done rest) (h1 : 2 ≤ n) (h2 : n ≤ 8192) : J86 (Jck done n) = 0 := by
 have hz := h.size
 have hdl := Jw0 done 1
 unfold J86 Jck
 simp only
 rw [if_neg (by omega), if_neg (by omega)]
theorem Jf1.appE {n : Nat} {s : List Ja4} {done : List Bys} {rest : List Ja4} (h : Jf1 n s done rest) (h1 : 2 ≤ n) (h2 : n ≤ 8192) {b : Bys} (hb : b.length ≤ 65536) :
  (appE (Jck done n) b = 0 ∧ Jau b.length + 1 ≤ rest.length) ∨ (appE (Jck done n) b = 11 ∧ rest.length < Jau b.length + 1) := by
 have hz := h.size
 unfold Go.AI.appE
 rw [if_pos (h.chk h1 h2), if_neg (by omega)]
 unfold Jck
 simp only
 by_cases c : Jau b.length + 1 ≤ rest.length
 ·exact .inl ⟨if_neg (by omega), c⟩
 ·exact .inr ⟨if_pos (by omega), by omega⟩
theorem Jyw {l : List Ja4} (h : J7b l = true) (k : Nat) : J7b (l.drop k) = true := by
 unfold J7b at h ⊢
 rw [List.all_eq_true] at h ⊢
 exact fun x hx => h x (List.mem_of_mem_drop hx)
theorem K4t {done : List Bys} {n : Nat} (b : Bys) : K3r (Jck done n) b = Jck (done ++ [b]) n := by
 unfold K3r Jck
 rw [Jyv, List.length_append, Knn, List.length_append, List.length_singleton]
 simp only [Prod.mk.injEq, and_true]
 omega
theorem Jo0 (done : List Bys) (b : Bys) (rest : List Ja4) : Jd5 (done ++ [b]) rest = Jd5 done (blk b (done.length + 1) ++ rest) := by
 unfold Jd5
 rw [Jyv, List.append_assoc, Nat.add_comm 1]
theorem J9m (done : List Bys) (rest ps : List Ja4) (k : Nat) :
  (Jd5 done rest).take (1 + (Jb1 done 1).length + k) ++ ps ++ (Jd5 done rest).drop (1 + (Jb1 done 1).length + k + ps.length) = Jd5 done (rest.take k ++ ps ++ rest.drop (k + ps.length)) := by
 have e2 : ∀ r, Jd5 done r = (Jh2 :: Jb1 done 1) ++ r := fun _ => rfl
 have hl : (Jh2 :: Jb1 done 1).length = 1 + (Jb1 done 1).length := by rw [List.length_cons]; omega
 rw [e2 rest, e2 (rest.take k ++ ps ++ rest.drop (k + ps.length)), ← hl, List.take_append, List.take_of_length_le (by omega), List.drop_append, List.drop_eq_nil_of_le (by omega), show (Jh2 :: Jb1 done 1).length + k - (Jh2 :: Jb1 done 1).length = k by omega, show (Jh2 :: Jb1 done 1).length + k + ps.length - (Jh2 :: Jb1 done 1).length = k + ps.length by omega, List.nil_append, List.append_assoc, List.append_assoc, List.append_assoc]
theorem Kdm {n : Nat} {s : List Ja4} {done : List Bys} {rest : List Ja4} (h : Jf1 n s done rest) {b : Bys} (hr : Jau b.length + 1 ≤ rest.length) (l : List DOp) (i : Int) :
  goD (Ja5 s) (wrO (Jck done n).1 (Jcw b) :: syO :: l) i = goD (Ja5 (Jd5 done (Jcw b ++ rest.drop (Jau b.length)))) l (i + 1 + 1) := by
 have hz := h.size
 have hl := h.len
 have e0 : (Jck done n).1 = ((1 + (Jb1 done 1).length : Nat) : Int) := by show 1 + ((Jb1 done 1).length : Int) = _; omega
 rw [e0, K4p (by rw [Jcc]; omega), h.eq]
 have := J9m done rest (Jcw b) 0
 rw [Nat.add_zero, Nat.zero_add, List.take_zero, List.nil_append, Jcc] at this
 rw [Jcc, this]
theorem Kz9 {n : Nat} {s : List Ja4} {done : List Bys} {rest : List Ja4} (hs : s = Jd5 done rest) (hl : s.length = n) {b : Bys} (hr : Jau b.length + 1 ≤ rest.length) (l : List DOp) (i : Int) :
  goD (Ja5 s) (wrO ((Jck done n).1 + Jau b.length) [Jr7 b ((Jck done n).2.1 + 1).toNat] :: syO :: l) i = goD (Ja5 (Jd5 done (rest.take (Jau b.length) ++ [Jr7 b (done.length + 1)] ++ rest.drop (Jau b.length + 1)))) l (i + 1 + 1) := by
 have hz := congrArg List.length hs
 simp only [Jd5, List.length_cons, List.length_append] at hz
 have e0 : (Jck done n).1 + (Jau b.length : Int) = ((1 + (Jb1 done 1).length + Jau b.length : Nat) : Int) := by show 1 + ((Jb1 done 1).length : Int) + _ = _; omega
 have e1 : ((Jck done n).2.1 + 1).toNat = done.length + 1 := by show ((done.length : Int) + 1).toNat = _; omega
 rw [e0, e1, K4p (by show _ + 1 ≤ _; omega), hs]
 have := J9m done rest [Jr7 b (done.length + 1)] (Jau b.length)
 rw [this]; rfl
theorem K0a {n : Nat} {s : List Ja4} {done : List Bys} {rest : List Ja4} (h : Jf1 n s done rest) (h1 : 2 ≤ n) (h2 : n ≤ 8192) {b : Bys} (hb : b.length ≤ 65536) (hr : Jau b.length + 1 ≤ rest.length) :
  ∃ i, Jn4 (Ja5 s) (Ju9 (Jck done n) b) = (Ja5 (Jd5 (done ++ [b]) (rest.drop (Jau b.length + 1))), (i, 0)) ∧ Jf1 n (Jd5 (done ++ [b]) (rest.drop (Jau b.length + 1))) (done ++ [b]) (rest.drop (Jau b.length + 1)) := by
 have hz := h.size
 have hl := h.len
 have hok : Jf1 n (Jd5 (done ++ [b]) (rest.drop (Jau b.length + 1))) (done ++ [b]) (rest.drop (Jau b.length + 1)) := by
  refine ⟨rfl, ?_, ?_, Jyw h.quiet _, Jsu h.pg _⟩
  ·rw [Jo0]
   simp only [Jd5, List.length_cons, List.length_append, Knn, List.length_drop]; omega
  ·intro x hx
   rcases List.mem_append.1 hx with hx | hx
   ·exact h.short x hx
   ·rw [List.mem_singleton.1 hx]; exact hb
 rw [Ji3 (by omega) (by omega)]
 unfold Ju9
 by_cases c : b = []
 ·subst c
  refine ⟨2, ?_, hok⟩
  rw [if_pos rfl, List.nil_append, Kz9 h.eq h.len hr]
  rw [Jo0]; rfl
 ·refine ⟨4, ?_, hok⟩
  rw [if_neg c]
  show goD (Ja5 s) (wrO (Jck done n).1 (Jcw b) :: syO :: [wrO ((Jck done n).1 + Jau b.length) [Jr7 b ((Jck done n).2.1 + 1).toNat], syO]) 0 = _
  have hlen2 : (Jd5 done (Jcw b ++ rest.drop (Jau b.length))).length = n := by
   simp only [Jd5, List.length_cons, List.length_append, Jcc, List.length_drop]; omega
  rw [Kdm h hr, Kz9 rfl hlen2 (by rw [List.length_append, Jcc, List.length_drop]; omega), Jo0]
  have e1 : (Jcw b ++ rest.drop (Jau b.length)).take (Jau b.length) = Jcw b := List.take_left' (Jcc b)
  have e2 : (Jcw b ++ rest.drop (Jau b.length)).drop (Jau b.length + 1) = rest.drop (Jau b.length + 1) := by
   rw [List.drop_append, Jcc, List.drop_eq_nil_of_le (by rw [Jcc]; omega), List.nil_append, List.drop_drop]; congr 1; omega
  rw [e1, e2]; rfl
theorem K8y (l : Jf9) (b : Bys) (hb : b.length ≤ 65536) : (Ju9 l b).length ≤ 4 ∧ Kbn (Ju9 l b) ≤ 5001 := by
 have hn : Jau b.length ≤ 5000 := by unfold Jau; omega
 unfold Ju9 Kbn
 split
 ·refine ⟨by simp, ?_⟩
  show 1 + (0 + 0) ≤ _; omega
 ·refine ⟨by simp, ?_⟩
  show (Jcw b).length + (0 + (1 + (0 + 0))) ≤ _
  rw [Jcc]; omega
end Go.AI
