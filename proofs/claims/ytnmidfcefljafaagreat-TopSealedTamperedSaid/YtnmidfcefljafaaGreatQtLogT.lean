/- Texts of the proof, joined: LogT. -/
import Derived.Test.YtnmidfcefljafaaGreatQtLogP7
namespace Go.AI
open Go
def blk (b : Bys) (c : Nat) : List Page := dataPs b ++ [comP b c]
def logPs : List Bys → Nat → List Page
 | [], _ => []
 | b :: bs, c => blk b c ++ logPs bs (c + 1)
def shortB (bs : List Bys) : Prop := ∀ b, b ∈ bs → b.length ≤ 65536
def noCom (l : List Page) : Bool := l.all fun p => decide ((p.getD 0 0).toNat ≠ 2)
theorem datN_dat : ∀ k b p, p ∈ datN k b → isDat p = true ∧ p.length = 16
 | 0, _, _, h => by cases h
 | k + 1, b, p, h => by
  rcases List.mem_cons.1 h with rfl | h
  ·exact ⟨rfl, datP_len b⟩
  ·exact datN_dat k _ p h
theorem blk_len (b : Bys) (c : Nat) : (blk b c).length = needN b.length + 1 := by unfold blk; rw [List.length_append, dataPs_len, List.length_singleton]
theorem pg16_app {a b : List Page} : pg16 (a ++ b) = true ↔ pg16 a = true ∧ pg16 b = true := by unfold pg16; rw [List.all_append, Bool.and_eq_true]
theorem data_16 (b : Bys) : pg16 (dataPs b) = true := List.all_eq_true.2 fun p hp => tt (datN_dat _ _ p hp).2
theorem blk_16 (b : Bys) (c : Nat) : pg16 (blk b c) = true := pg16_app.2 ⟨data_16 b, by rw [pg16_cons]; exact ⟨com_16 b c, rfl⟩⟩
theorem logPs_16 : ∀ bs c, pg16 (logPs bs c) = true
 | [], _ => rfl
 | b :: bs, c => pg16_app.2 ⟨blk_16 b c, logPs_16 bs (c + 1)⟩
theorem com_nodat (b : Bys) (c : Nat) : isDat (comP b c) = false := rfl
theorem tw_app : ∀ {a : List Page}, (∀ p, p ∈ a → isDat p = true) → ∀ {q : Page} {r : List Page}, isDat q = false → (a ++ q :: r).takeWhile isDat = a ∧ (a ++ q :: r).dropWhile isDat = q :: r
 | [], _, q, r, hq => by rw [List.nil_append, List.takeWhile_cons, List.dropWhile_cons, hq]; exact ⟨rfl, rfl⟩
 | p :: a, h, q, r, hq => by
  have hp := h p List.mem_cons_self
  obtain ⟨h1, h2⟩ := tw_app (a := a) (fun x hx => h x (List.mem_cons_of_mem _ hx)) (q := q) (r := r) hq
  rw [List.cons_append, List.takeWhile_cons, List.dropWhile_cons, hp, if_pos rfl, if_pos rfl, h1, h2]; exact ⟨rfl, rfl⟩
theorem read_blk {b : Bys} (hb : b.length ≤ 65536) {c : Nat} (hc : c < 4294967296) (rest : List Page) : readP (blk b c ++ rest) c = some (b, rest) := by
 have hd : ∀ p, p ∈ dataPs b → isDat p = true := fun p hp => (datN_dat _ _ p hp).1
 obtain ⟨h1, h2⟩ := tw_app hd (com_nodat b c) (r := rest)
 have e : blk b c ++ rest = dataPs b ++ comP b c :: rest := by unfold blk; rw [List.append_assoc]; rfl
 obtain ⟨f1, f2, f3, f4⟩ := fld_com b c
 have hn : b.length ≤ 15 * needN b.length ∧ needN b.length ≤ 5000 := by unfold needN; omega
 have f3' : fld (comP b c) 8 4 = b.length := by rw [f3]; omega
 have hpay : (payOf (dataPs b)).take b.length = b := by
  unfold dataPs
  rw [payOf_datN _ _ hn.1, List.take_left' rfl]
 have hok : okCom (comP b c) (c : Int) (dataPs b).length (payOf (dataPs b)) = true := by
  rw [okCom_iff (com_16 b c) (data_16 b) hd hc, f3', hpay, dataPs_len]
  exact ⟨hb, hn.1, rfl, by rw [f2]; omega, rfl⟩
 unfold readP
 rw [e, h2, h1]
 simp only [hok, if_true, f3', hpay]
theorem scan_logs : ∀ (bs : List Bys) (n c : Nat) (rest : List Page), shortB bs → bs.length ≤ n → c + bs.length < 4294967296 → scanF n (logPs bs c ++ rest) (c : Int) = (bs ++ (scanF (n - bs.length) rest ((c + bs.length : Nat) : Int)).1, (scanF (n - bs.length) rest ((c + bs.length : Nat) : Int)).2)
 | [], n, c, rest, _, _, _ => by simp [logPs]
 | b :: bs, 0, _, _, _, h, _ => absurd h (by simp)
 | b :: bs, n + 1, c, rest, hs, h, hc => by
  rw [List.length_cons] at h hc
  have hb := hs b List.mem_cons_self
  have e : logPs (b :: bs) c ++ rest = blk b c ++ (logPs bs (c + 1) ++ rest) := by rw [logPs, List.append_assoc]
  rw [e, scanF, read_blk hb (by omega)]
  simp only
  rw [nat1, scan_logs bs n (c + 1) rest (fun x hx => hs x (List.mem_cons_of_mem _ hx)) (by omega) (by omega), List.length_cons, show c + 1 + bs.length = c + (bs.length + 1) by omega, show n + 1 - (bs.length + 1) = n - bs.length by omega]; rfl
theorem dw_mem : ∀ (l : List Page) {p : Page} {r : List Page}, l.dropWhile isDat = p :: r → p ∈ l
 | [], _, _, h => by cases h
 | q :: l, p, r, h => by
  rw [List.dropWhile_cons] at h
  split at h
  ·exact List.mem_cons_of_mem _ (dw_mem l h)
  ·cases h; exact List.mem_cons_self
theorem noCom_read {l : List Page} (h : noCom l = true) (num : Int) : readP l num = none := by
 rcases readP_cases l num with ⟨_, e⟩ | ⟨p, r, hd, ⟨hk, e⟩ | ⟨_, e⟩⟩
 ·exact e
 ·have := List.all_eq_true.1 h p (dw_mem l hd)
  have := of_decide_eq_true this
  unfold okCom at hk
  rw [Bool.and_eq_true, decide_eq_true_eq] at hk
  exact absurd hk.1.1 this
 ·exact e
theorem logPs_len : ∀ bs c, bs.length ≤ (logPs bs c).length
 | [], _ => Nat.le_refl _
 | b :: bs, c => by
  have := logPs_len bs (c + 1)
  rw [logPs, List.length_append, blk_len, List.length_cons]; omega
theorem logPs_snoc : ∀ (bs : List Bys) (b : Bys) (c : Nat), logPs (bs ++ [b]) c = logPs bs c ++ blk b (c + bs.length)
 | [], b, c => by simp [logPs]
 | a :: bs, b, c => by
  rw [List.cons_append, logPs, logPs, logPs_snoc bs b (c + 1), List.append_assoc, List.length_cons, show c + 1 + bs.length = c + (bs.length + 1) by omega]
def diskPs (done : List Bys) (rest : List Page) : List Page := headP :: (logPs done 1 ++ rest)
def logOf (done : List Bys) (n : Nat) : LogT := (1 + ((logPs done 1).length : Int), ((done.length : Int), ((n : Int), ())))
structure LogOk (n : Nat) (s : List Page) (done : List Bys) (rest : List Page) : Prop where
 eq : s = diskPs done rest
 len : s.length = n
 short : shortB done
 quiet : noCom rest = true
 pg : pg16 rest = true
theorem LogOk.size {n : Nat} {s : List Page} {done : List Bys} {rest : List Page} (h : LogOk n s done rest) : 1 + (logPs done 1).length + rest.length = n := by
 have := congrArg List.length h.eq
 rw [h.len] at this
 simp only [diskPs, List.length_cons, List.length_append] at this; omega
theorem LogOk.pg_all {n : Nat} {s : List Page} {done : List Bys} {rest : List Page} (h : LogOk n s done rest) : pg16 s = true := by
 rw [h.eq]
 exact pg16_cons.2 ⟨rfl, pg16_app.2 ⟨logPs_16 done 1, h.pg⟩⟩
theorem LogOk.chk {n : Nat} {s : List Page} {done : List Bys} {rest : List Page} (h : LogOk n s done rest) (h1 : 2 ≤ n) (h2 : n ≤ 8192) : chkL (logOf done n) = 0 := by
 have hz := h.size
 have hdl := logPs_len done 1
 unfold chkL logOf
 simp only
 rw [if_neg (by omega), if_neg (by omega)]
theorem LogOk.appE {n : Nat} {s : List Page} {done : List Bys} {rest : List Page} (h : LogOk n s done rest) (h1 : 2 ≤ n) (h2 : n ≤ 8192) {b : Bys} (hb : b.length ≤ 65536) :
  (appE (logOf done n) b = 0 ∧ needN b.length + 1 ≤ rest.length) ∨ (appE (logOf done n) b = 11 ∧ rest.length < needN b.length + 1) := by
 have hz := h.size
 unfold Go.AI.appE
 rw [if_pos (h.chk h1 h2), if_neg (by omega)]
 unfold logOf
 simp only
 by_cases c : needN b.length + 1 ≤ rest.length
 ·exact .inl ⟨if_neg (by omega), c⟩
 ·exact .inr ⟨if_pos (by omega), by omega⟩
theorem noCom_drop {l : List Page} (h : noCom l = true) (k : Nat) : noCom (l.drop k) = true := by
 unfold noCom at h ⊢
 rw [List.all_eq_true] at h ⊢
 exact fun x hx => h x (List.mem_of_mem_drop hx)
theorem nextL_of {done : List Bys} {n : Nat} (b : Bys) : nextL (logOf done n) b = logOf (done ++ [b]) n := by
 unfold nextL logOf
 rw [logPs_snoc, List.length_append, blk_len, List.length_append, List.length_singleton]
 simp only [Prod.mk.injEq, and_true]
 omega
theorem diskPs_snoc (done : List Bys) (b : Bys) (rest : List Page) : diskPs (done ++ [b]) rest = diskPs done (blk b (done.length + 1) ++ rest) := by
 unfold diskPs
 rw [logPs_snoc, List.append_assoc, Nat.add_comm 1]
theorem disk_write (done : List Bys) (rest ps : List Page) (k : Nat) :
  (diskPs done rest).take (1 + (logPs done 1).length + k) ++ ps ++ (diskPs done rest).drop (1 + (logPs done 1).length + k + ps.length) = diskPs done (rest.take k ++ ps ++ rest.drop (k + ps.length)) := by
 have e2 : ∀ r, diskPs done r = (headP :: logPs done 1) ++ r := fun _ => rfl
 have hl : (headP :: logPs done 1).length = 1 + (logPs done 1).length := by rw [List.length_cons]; omega
 rw [e2 rest, e2 (rest.take k ++ ps ++ rest.drop (k + ps.length)), ← hl, List.take_append, List.take_of_length_le (by omega), List.drop_append, List.drop_eq_nil_of_le (by omega), show (headP :: logPs done 1).length + k - (headP :: logPs done 1).length = k by omega, show (headP :: logPs done 1).length + k + ps.length - (headP :: logPs done 1).length = k + ps.length by omega, List.nil_append, List.append_assoc, List.append_assoc, List.append_assoc]
theorem run_data {n : Nat} {s : List Page} {done : List Bys} {rest : List Page} (h : LogOk n s done rest) {b : Bys} (hr : needN b.length + 1 ≤ rest.length) (l : List DOp) (i : Int) :
  goD (still s) (wrO (logOf done n).1 (dataPs b) :: syO :: l) i = goD (still (diskPs done (dataPs b ++ rest.drop (needN b.length)))) l (i + 1 + 1) := by
 have hz := h.size
 have hl := h.len
 have e0 : (logOf done n).1 = ((1 + (logPs done 1).length : Nat) : Int) := by show 1 + ((logPs done 1).length : Int) = _; omega
 rw [e0, go_wr (by rw [dataPs_len]; omega), h.eq]
 have := disk_write done rest (dataPs b) 0
 rw [Nat.add_zero, Nat.zero_add, List.take_zero, List.nil_append, dataPs_len] at this
 rw [dataPs_len, this]
theorem run_com {n : Nat} {s : List Page} {done : List Bys} {rest : List Page} (hs : s = diskPs done rest) (hl : s.length = n) {b : Bys} (hr : needN b.length + 1 ≤ rest.length) (l : List DOp) (i : Int) :
  goD (still s) (wrO ((logOf done n).1 + needN b.length) [comP b ((logOf done n).2.1 + 1).toNat] :: syO :: l) i = goD (still (diskPs done (rest.take (needN b.length) ++ [comP b (done.length + 1)] ++ rest.drop (needN b.length + 1)))) l (i + 1 + 1) := by
 have hz := congrArg List.length hs
 simp only [diskPs, List.length_cons, List.length_append] at hz
 have e0 : (logOf done n).1 + (needN b.length : Int) = ((1 + (logPs done 1).length + needN b.length : Nat) : Int) := by show 1 + ((logPs done 1).length : Int) + _ = _; omega
 have e1 : ((logOf done n).2.1 + 1).toNat = done.length + 1 := by show ((done.length : Int) + 1).toNat = _; omega
 rw [e0, e1, go_wr (by show _ + 1 ≤ _; omega), hs]
 have := disk_write done rest [comP b (done.length + 1)] (needN b.length)
 rw [this]; rfl
theorem run_app {n : Nat} {s : List Page} {done : List Bys} {rest : List Page} (h : LogOk n s done rest) (h1 : 2 ≤ n) (h2 : n ≤ 8192) {b : Bys} (hb : b.length ≤ 65536) (hr : needN b.length + 1 ≤ rest.length) :
  ∃ i, runD (still s) (appK (logOf done n) b) = (still (diskPs (done ++ [b]) (rest.drop (needN b.length + 1))), (i, 0)) ∧ LogOk n (diskPs (done ++ [b]) (rest.drop (needN b.length + 1))) (done ++ [b]) (rest.drop (needN b.length + 1)) := by
 have hz := h.size
 have hl := h.len
 have hok : LogOk n (diskPs (done ++ [b]) (rest.drop (needN b.length + 1))) (done ++ [b]) (rest.drop (needN b.length + 1)) := by
  refine ⟨rfl, ?_, ?_, noCom_drop h.quiet _, pg16_drops h.pg _⟩
  ·rw [diskPs_snoc]
   simp only [diskPs, List.length_cons, List.length_append, blk_len, List.length_drop]; omega
  ·intro x hx
   rcases List.mem_append.1 hx with hx | hx
   ·exact h.short x hx
   ·rw [List.mem_singleton.1 hx]; exact hb
 rw [run_still (by omega) (by omega)]
 unfold appK
 by_cases c : b = []
 ·subst c
  refine ⟨2, ?_, hok⟩
  rw [if_pos rfl, List.nil_append, run_com h.eq h.len hr]
  rw [diskPs_snoc]; rfl
 ·refine ⟨4, ?_, hok⟩
  rw [if_neg c]
  show goD (still s) (wrO (logOf done n).1 (dataPs b) :: syO :: [wrO ((logOf done n).1 + needN b.length) [comP b ((logOf done n).2.1 + 1).toNat], syO]) 0 = _
  have hlen2 : (diskPs done (dataPs b ++ rest.drop (needN b.length))).length = n := by
   simp only [diskPs, List.length_cons, List.length_append, dataPs_len, List.length_drop]; omega
  rw [run_data h hr, run_com rfl hlen2 (by rw [List.length_append, dataPs_len, List.length_drop]; omega), diskPs_snoc]
  have e1 : (dataPs b ++ rest.drop (needN b.length)).take (needN b.length) = dataPs b := List.take_left' (dataPs_len b)
  have e2 : (dataPs b ++ rest.drop (needN b.length)).drop (needN b.length + 1) = rest.drop (needN b.length + 1) := by
   rw [List.drop_append, dataPs_len, List.drop_eq_nil_of_le (by rw [dataPs_len]; omega), List.nil_append, List.drop_drop]; congr 1; omega
  rw [e1, e2]; rfl
theorem app_sum (l : LogT) (b : Bys) (hb : b.length ≤ 65536) : (appK l b).length ≤ 4 ∧ sumO (appK l b) ≤ 5001 := by
 have hn : needN b.length ≤ 5000 := by unfold needN; omega
 unfold appK sumO
 split
 ·refine ⟨by simp, ?_⟩
  show 1 + (0 + 0) ≤ _; omega
 ·refine ⟨by simp, ?_⟩
  show (dataPs b).length + (0 + (1 + (0 + 0))) ≤ _
  rw [dataPs_len]; omega
end Go.AI
