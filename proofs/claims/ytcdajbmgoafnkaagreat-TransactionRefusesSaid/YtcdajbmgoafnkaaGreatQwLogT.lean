/- Texts of the proof, joined: Jf6. Names of our own are shortened by program; the long ones stand in wip/. -/
import Derived.Test.YtcdajbmgoafnkaaGreatQwLogP7
namespace Go.AI
open Go
def blk (b : Bys) (c : Nat) : List Ja7 := Jcn b ++ [Jtx b c]
def Jbv : List Bys → Nat → List Ja7
 | [], _ => []
 | b :: bs, c => blk b c ++ Jbv bs (c + 1)
def Qd1 (bs : List Bys) : Prop := ∀ b, b ∈ bs → b.length ≤ 65536
def Kan (l : List Ja7) : Bool := l.all fun p => decide ((p.getD 0 0).toNat ≠ 2)
theorem Jza : ∀ k b p, p ∈ Kjj k b → Jew p = true ∧ p.length = 16
 | 0, _, _, h => by cases h
 | k + 1, b, p, h => by
  rcases List.mem_cons.1 h with rfl | h
  ·exact ⟨rfl, Qbv b⟩
  ·exact Jza k _ p h
theorem Khs (b : Bys) (c : Nat) : (blk b c).length = Jar b.length + 1 := by unfold blk; rw [List.length_append, Jb7, List.length_singleton]
theorem J48 {a b : List Ja7} : Jr1 (a ++ b) = true ↔ Jr1 a = true ∧ Jr1 b = true := by unfold Jr1; rw [List.all_append, Bool.and_eq_true]
theorem Ks2 (b : Bys) : Jr1 (Jcn b) = true := List.all_eq_true.2 fun p hp => tt (Jza _ _ p hp).2
theorem Qiw (b : Bys) (c : Nat) : Jr1 (blk b c) = true := J48.2 ⟨Ks2 b, by rw [Jjy]; exact ⟨Qdy b c, rfl⟩⟩
theorem Kx7 : ∀ bs c, Jr1 (Jbv bs c) = true
 | [], _ => rfl
 | b :: bs, c => J48.2 ⟨Qiw b c, Kx7 bs (c + 1)⟩
theorem K6x (b : Bys) (c : Nat) : Jew (Jtx b c) = false := rfl
theorem Qd2 : ∀ {a : List Ja7}, (∀ p, p ∈ a → Jew p = true) → ∀ {q : Ja7} {r : List Ja7}, Jew q = false → (a ++ q :: r).takeWhile Jew = a ∧ (a ++ q :: r).dropWhile Jew = q :: r
 | [], _, q, r, hq => by rw [List.nil_append, List.takeWhile_cons, List.dropWhile_cons, hq]; exact ⟨rfl, rfl⟩
 | p :: a, h, q, r, hq => by
  have hp := h p List.mem_cons_self
  obtain ⟨h1, h2⟩ := Qd2 (a := a) (fun x hx => h x (List.mem_cons_of_mem _ hx)) (q := q) (r := r) hq
  rw [List.cons_append, List.takeWhile_cons, List.dropWhile_cons, hp, if_pos rfl, if_pos rfl, h1, h2]; exact ⟨rfl, rfl⟩
theorem Qb6 {b : Bys} (hb : b.length ≤ 65536) {c : Nat} (hc : c < 4294967296) (rest : List Ja7) : J0x (blk b c ++ rest) c = some (b, rest) := by
 have hd : ∀ p, p ∈ Jcn b → Jew p = true := fun p hp => (Jza _ _ p hp).1
 obtain ⟨h1, h2⟩ := Qd2 hd (K6x b c) (r := rest)
 have e : blk b c ++ rest = Jcn b ++ Jtx b c :: rest := by unfold blk; rw [List.append_assoc]; rfl
 obtain ⟨f1, f2, f3, f4⟩ := K6h b c
 have hn : b.length ≤ 15 * Jar b.length ∧ Jar b.length ≤ 5000 := by unfold Jar; omega
 have f3' : fld (Jtx b c) 8 4 = b.length := by rw [f3]; omega
 have hpay : (Jh4 (Jcn b)).take b.length = b := by
  unfold Jcn
  rw [J1b _ _ hn.1, List.take_left' rfl]
 have hok : Ju5 (Jtx b c) (c : Int) (Jcn b).length (Jh4 (Jcn b)) = true := by
  rw [K6j (Qdy b c) (Ks2 b) hd hc, f3', hpay, Jb7]
  exact ⟨hb, hn.1, rfl, by rw [f2]; omega, rfl⟩
 unfold J0x
 rw [e, h2, h1]
 simp only [hok, if_true, f3', hpay]
theorem Kml : ∀ (bs : List Bys) (n c : Nat) (rest : List Ja7), Qd1 bs → bs.length ≤ n → c + bs.length < 4294967296 → Jj9 n (Jbv bs c ++ rest) (c : Int) = (bs ++ (Jj9 (n - bs.length) rest ((c + bs.length : Nat) : Int)).1, (Jj9 (n - bs.length) rest ((c + bs.length : Nat) : Int)).2)
 | [], n, c, rest, _, _, _ => by simp [Jbv]
 | b :: bs, 0, _, _, _, h, _ => absurd h (by simp)
 | b :: bs, n + 1, c, rest, hs, h, hc => by
  rw [List.length_cons] at h hc
  have hb := hs b List.mem_cons_self
  have e : Jbv (b :: bs) c ++ rest = blk b c ++ (Jbv bs (c + 1) ++ rest) := by rw [Jbv, List.append_assoc]
  rw [e, Jj9, Qb6 hb (by omega)]
  simp only
  rw [J0e, Kml bs n (c + 1) rest (fun x hx => hs x (List.mem_cons_of_mem _ hx)) (by omega) (by omega), List.length_cons, show c + 1 + bs.length = c + (bs.length + 1) by omega, show n + 1 - (bs.length + 1) = n - bs.length by omega]; rfl
theorem Qd3 : ∀ (l : List Ja7) {p : Ja7} {r : List Ja7}, l.dropWhile Jew = p :: r → p ∈ l
 | [], _, _, h => by cases h
 | q :: l, p, r, h => by
  rw [List.dropWhile_cons] at h
  split at h
  ·exact List.mem_cons_of_mem _ (Qd3 l h)
  ·cases h; exact List.mem_cons_self
theorem K0o {l : List Ja7} (h : Kan l = true) (num : Int) : J0x l num = none := by
 rcases Jqe l num with ⟨_, e⟩ | ⟨p, r, hd, ⟨hk, e⟩ | ⟨_, e⟩⟩
 ·exact e
 ·have := List.all_eq_true.1 h p (Qd3 l hd)
  have := of_decide_eq_true this
  unfold Ju5 at hk
  rw [Bool.and_eq_true, decide_eq_true_eq] at hk
  exact absurd hk.1.1 this
 ·exact e
theorem K0p {l : List Ja7} (h : Kan l = true) (num : Int) : ∀ n, Jj9 n l num = ([], l)
 | 0 => rfl
 | n + 1 => by rw [Jj9, K0o h]
theorem Jzb : ∀ bs c, bs.length ≤ (Jbv bs c).length
 | [], _ => Nat.le_refl _
 | b :: bs, c => by
  have := Jzb bs (c + 1)
  rw [Jbv, List.length_append, Khs, List.length_cons]; omega
theorem J1g : ∀ (bs : List Bys) (b : Bys) (c : Nat), Jbv (bs ++ [b]) c = Jbv bs c ++ blk b (c + bs.length)
 | [], b, c => by simp [Jbv]
 | a :: bs, b, c => by
  rw [List.cons_append, Jbv, Jbv, J1g bs b (c + 1), List.append_assoc, List.length_cons, show c + 1 + bs.length = c + (bs.length + 1) by omega]
def Jd4 (done : List Bys) (rest : List Ja7) : List Ja7 := Jh3 :: (Jbv done 1 ++ rest)
def Jcj (done : List Bys) (n : Nat) : Jf6 := (1 + ((Jbv done 1).length : Int), ((done.length : Int), ((n : Int), ())))
structure Jgb (n : Nat) (s : List Ja7) (done : List Bys) (rest : List Ja7) : Prop where
 eq : s = Jd4 done rest
 len : s.length = n
 short : Qd1 done
 quiet : Kan rest = true
 pg : Jr1 rest = true
theorem Jgb.size {n : Nat} {s : List Ja7} {done : List Bys} {rest : List Ja7} (h : Jgb n s done rest) : 1 + (Jbv done 1).length + rest.length = n := by
 have := congrArg List.length h.eq
 rw [h.len] at this
 simp only [Jd4, List.length_cons, List.length_append] at this; omega
theorem Jgb.pg_all {n : Nat} {s : List Ja7} {done : List Bys} {rest : List Ja7} (h : Jgb n s done rest) : Jr1 s = true := by
 rw [h.eq]
 exact Jjy.2 ⟨rfl, J48.2 ⟨Kx7 done 1, h.pg⟩⟩
theorem Jgb.opens {n : Nat} {s : List Ja7} {done : List Bys} {rest : List Ja7} (h : Jgb n s done rest) (h1 : 2 ≤ n) (h2 : n ≤ 8192) : opE (Jba s) = 0 ∧ opL (Jba s) = Jcj done n ∧ opB (Jba s) = done := by
 have hl := h.len
 have hz := h.size
 have hdl := Jzb done 1
 have hok : okD (Jba s) = true := Jy8 (by omega) (by omega)
 have hc := K6k.1 hok
 have hcon : Jxd (Jba s) = s := rfl
 have hsc : Kag s.tail 1 = (done, rest) := by
  unfold Kag
  rw [if_pos (by omega), h.eq]
  show Jj9 (Jbv done 1 ++ rest).length (Jbv done 1 ++ rest) ((1 : Nat) : Int) = _
  rw [Kml done _ 1 rest h.short (by rw [List.length_append]; omega) (by omega), K0p h.quiet, List.append_nil]
 have hE : opE (Jba s) = 0 := by
  unfold opE
  rw [if_pos hc, hcon, if_neg (by show ¬ s.length < 2; omega), if_pos (by rw [h.eq]; rfl)]
 refine ⟨hE, ?_, ?_⟩
 ·unfold opL Jku
  rw [if_pos hE, hcon, hsc]
  unfold Jcj
  have : (s.tail.length : Int) - (rest.length : Int) = ((Jbv done 1).length : Int) := by rw [List.length_tail]; omega
  rw [this]
  show (_, (_, ((s.length : Int), ()))) = _
  rw [hl]
 ·unfold opB
  rw [if_pos hE, hcon, hsc]
theorem Jgb.chk {n : Nat} {s : List Ja7} {done : List Bys} {rest : List Ja7} (h : Jgb n s done rest) (h1 : 2 ≤ n) (h2 : n ≤ 8192) : J96 (Jcj done n) = 0 := by
 have hz := h.size
 have hdl := Jzb done 1
 unfold J96 Jcj
 simp only
 rw [if_neg (by omega), if_neg (by omega)]
theorem Jgb.appE {n : Nat} {s : List Ja7} {done : List Bys} {rest : List Ja7} (h : Jgb n s done rest) (h1 : 2 ≤ n) (h2 : n ≤ 8192) {b : Bys} (hb : b.length ≤ 65536) :
  (appE (Jcj done n) b = 0 ∧ Jar b.length + 1 ≤ rest.length) ∨ (appE (Jcj done n) b = 11 ∧ rest.length < Jar b.length + 1) := by
 have hz := h.size
 unfold Go.AI.appE
 rw [if_pos (h.chk h1 h2), if_neg (by omega)]
 unfold Jcj
 simp only
 by_cases c : Jar b.length + 1 ≤ rest.length
 ·exact .inl ⟨if_neg (by omega), c⟩
 ·exact .inr ⟨if_pos (by omega), by omega⟩
theorem J1h {l : List Ja7} (h : Kan l = true) (k : Nat) : Kan (l.drop k) = true := by
 unfold Kan at h ⊢
 rw [List.all_eq_true] at h ⊢
 exact fun x hx => h x (List.mem_of_mem_drop hx)
theorem Qb7 {done : List Bys} {n : Nat} (b : Bys) : K4f (Jcj done n) b = Jcj (done ++ [b]) n := by
 unfold K4f Jcj
 rw [J1g, List.length_append, Khs, List.length_append, List.length_singleton]
 simp only [Prod.mk.injEq, and_true]
 omega
theorem Jqg (done : List Bys) (b : Bys) (rest : List Ja7) : Jd4 (done ++ [b]) rest = Jd4 done (blk b (done.length + 1) ++ rest) := by
 unfold Jd4
 rw [J1g, List.append_assoc, Nat.add_comm 1]
theorem Kda (done : List Bys) (rest ps : List Ja7) (k : Nat) :
  (Jd4 done rest).take (1 + (Jbv done 1).length + k) ++ ps ++ (Jd4 done rest).drop (1 + (Jbv done 1).length + k + ps.length) = Jd4 done (rest.take k ++ ps ++ rest.drop (k + ps.length)) := by
 have e2 : ∀ r, Jd4 done r = (Jh3 :: Jbv done 1) ++ r := fun _ => rfl
 have hl : (Jh3 :: Jbv done 1).length = 1 + (Jbv done 1).length := by rw [List.length_cons]; omega
 rw [e2 rest, e2 (rest.take k ++ ps ++ rest.drop (k + ps.length)), ← hl, List.take_append, List.take_of_length_le (by omega), List.drop_append, List.drop_eq_nil_of_le (by omega), show (Jh3 :: Jbv done 1).length + k - (Jh3 :: Jbv done 1).length = k by omega, show (Jh3 :: Jbv done 1).length + k + ps.length - (Jh3 :: Jbv done 1).length = k + ps.length by omega, List.nil_append, List.append_assoc, List.append_assoc, List.append_assoc]
theorem Kht {n : Nat} {s : List Ja7} {done : List Bys} {rest : List Ja7} (h : Jgb n s done rest) {b : Bys} (hr : Jar b.length + 1 ≤ rest.length) (l : List DOp) (i : Int) :
  goD (Jba s) (wrO (Jcj done n).1 (Jcn b) :: syO :: l) i = goD (Jba (Jd4 done (Jcn b ++ rest.drop (Jar b.length)))) l (i + 1 + 1) := by
 have hz := h.size
 have hl := h.len
 have e0 : (Jcj done n).1 = ((1 + (Jbv done 1).length : Nat) : Int) := by show 1 + ((Jbv done 1).length : Int) = _; omega
 rw [e0, Qb0 (by rw [Jb7]; omega), h.eq]
 have := Kda done rest (Jcn b) 0
 rw [Nat.add_zero, Nat.zero_add, List.take_zero, List.nil_append, Jb7] at this
 rw [Jb7, this]
theorem K6y {n : Nat} {s : List Ja7} {done : List Bys} {rest : List Ja7} (hs : s = Jd4 done rest) (hl : s.length = n) {b : Bys} (hr : Jar b.length + 1 ≤ rest.length) (l : List DOp) (i : Int) :
  goD (Jba s) (wrO ((Jcj done n).1 + Jar b.length) [Jtx b ((Jcj done n).2.1 + 1).toNat] :: syO :: l) i = goD (Jba (Jd4 done (rest.take (Jar b.length) ++ [Jtx b (done.length + 1)] ++ rest.drop (Jar b.length + 1)))) l (i + 1 + 1) := by
 have hz := congrArg List.length hs
 simp only [Jd4, List.length_cons, List.length_append] at hz
 have e0 : (Jcj done n).1 + (Jar b.length : Int) = ((1 + (Jbv done 1).length + Jar b.length : Nat) : Int) := by show 1 + ((Jbv done 1).length : Int) + _ = _; omega
 have e1 : ((Jcj done n).2.1 + 1).toNat = done.length + 1 := by show ((done.length : Int) + 1).toNat = _; omega
 rw [e0, e1, Qb0 (by show _ + 1 ≤ _; omega), hs]
 have := Kda done rest [Jtx b (done.length + 1)] (Jar b.length)
 rw [this]; rfl
theorem K6z {n : Nat} {s : List Ja7} {done : List Bys} {rest : List Ja7} (h : Jgb n s done rest) (h1 : 2 ≤ n) (h2 : n ≤ 8192) {b : Bys} (hb : b.length ≤ 65536) (hr : Jar b.length + 1 ≤ rest.length) :
  ∃ i, J3l (Jba s) (Jxf (Jcj done n) b) = (Jba (Jd4 (done ++ [b]) (rest.drop (Jar b.length + 1))), (i, 0)) ∧ Jgb n (Jd4 (done ++ [b]) (rest.drop (Jar b.length + 1))) (done ++ [b]) (rest.drop (Jar b.length + 1)) := by
 have hz := h.size
 have hl := h.len
 have hok : Jgb n (Jd4 (done ++ [b]) (rest.drop (Jar b.length + 1))) (done ++ [b]) (rest.drop (Jar b.length + 1)) := by
  refine ⟨rfl, ?_, ?_, J1h h.quiet _, Juu h.pg _⟩
  ·rw [Jqg]
   simp only [Jd4, List.length_cons, List.length_append, Khs, List.length_drop]; omega
  ·intro x hx
   rcases List.mem_append.1 hx with hx | hx
   ·exact h.short x hx
   ·rw [List.mem_singleton.1 hx]; exact hb
 rw [Jjz (by omega) (by omega)]
 unfold Jxf
 by_cases c : b = []
 ·subst c
  refine ⟨2, ?_, hok⟩
  rw [if_pos rfl, List.nil_append, K6y h.eq h.len hr]
  rw [Jqg]; rfl
 ·refine ⟨4, ?_, hok⟩
  rw [if_neg c]
  show goD (Jba s) (wrO (Jcj done n).1 (Jcn b) :: syO :: [wrO ((Jcj done n).1 + Jar b.length) [Jtx b ((Jcj done n).2.1 + 1).toNat], syO]) 0 = _
  have hlen2 : (Jd4 done (Jcn b ++ rest.drop (Jar b.length))).length = n := by
   simp only [Jd4, List.length_cons, List.length_append, Jb7, List.length_drop]; omega
  rw [Kht h hr, K6y rfl hlen2 (by rw [List.length_append, Jb7, List.length_drop]; omega), Jqg]
  have e1 : (Jcn b ++ rest.drop (Jar b.length)).take (Jar b.length) = Jcn b := List.take_left' (Jb7 b)
  have e2 : (Jcn b ++ rest.drop (Jar b.length)).drop (Jar b.length + 1) = rest.drop (Jar b.length + 1) := by
   rw [List.drop_append, Jb7, List.drop_eq_nil_of_le (by rw [Jb7]; omega), List.nil_append, List.drop_drop]; congr 1; omega
  rw [e1, e2]; rfl
theorem Qgs (l : Jf6) (b : Bys) (hb : b.length ≤ 65536) : (Jxf l b).length ≤ 4 ∧ K13 (Jxf l b) ≤ 5001 := by
 have hn : Jar b.length ≤ 5000 := by unfold Jar; omega
 unfold Jxf K13
 split
 ·refine ⟨by simp, ?_⟩
  show 1 + (0 + 0) ≤ _; omega
 ·refine ⟨by simp, ?_⟩
  show (Jcn b).length + (0 + (1 + (0 + 0))) ≤ _
  rw [Jb7]; omega
end Go.AI
