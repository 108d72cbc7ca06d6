/- Texts of the proof, joined: TransC. -/
import Derived.Test.YtnmidfcefljafaaGreatQtLogU
import Derived.Test.YtnmidfcefljafaaGreatQtCipherT
import Derived.Test.YtnmidfcefljafaaGreatQtTransP5
namespace Go.AI
open Go
def pays (key : Bys) : Nat → List (List Rec) → List Bys
 | _, [] => []
 | c, r :: l => payV key (c : Int) r :: pays key (c + 1) l
structure TrOk (key : Bys) (r : List Rec) : Prop where
 enc : encE r = 0
 small : key = [] ∨ ((1 ≤ key.length ∧ key.length ≤ 64) ∧ (encR r).length ≤ 65520)
theorem pays_len (key : Bys) : ∀ (l : List (List Rec)) (c : Nat), (pays key c l).length = l.length
 | [], _ => rfl
 | _ :: l, c => congrArg (· + 1) (pays_len key l (c + 1))
theorem pays_snoc (key : Bys) (r : List Rec) : ∀ (l : List (List Rec)) (c : Nat), pays key c (l ++ [r]) = pays key c l ++ [payV key ((c + l.length : Nat) : Int) r]
 | [], c => by simp [pays]
 | x :: l, c => by
  rw [List.cons_append, pays, pays, pays_snoc key r l (c + 1), List.length_cons, show c + 1 + l.length = c + (l.length + 1) by omega]; rfl
theorem enc_ok {r : List Rec} (h : encE r = 0) : chkR r = 0 ∧ (encR r).length ≤ 65536 := by
 unfold encE at h
 by_cases k : chkR r = 0
 ·rw [if_pos k] at h
  by_cases k2 : (encR r).length > 65536
  ·rw [if_pos k2] at h; cases h
  ·exact ⟨k, by omega⟩
 ·rw [if_neg k] at h; exact absurd h k
theorem TrOk.pay {key : Bys} {r : List Rec} (h : TrOk key r) {c : Int} (hc : 0 ≤ c ∧ c ≤ 9007199254740991) : payE key c r = 0 ∧ (payV key c r).length ≤ 65536 ∧ unB key c (payV key c r) = (r, 0) := by
 obtain ⟨h1, h2⟩ := enc_ok h.enc
 by_cases ck : key = []
 ·subst ck
  exact ⟨payE_nil h.enc, by rw [payV_nil]; exact h2, by rw [payV_nil, unB_nil]; exact dec_enc h1 h2⟩
 ·rcases h.small with k | ⟨k, kl⟩
  ·exact absurd k ck
  obtain ⟨s1, s2, s3, s4⟩ := seal_open key c (encR r) k (inR_iff.2 hc) kl
  refine ⟨(payE_key ck h.enc).trans s1, by rw [payV_key ck]; omega, ?_⟩
  rw [payV_key ck, unB_ok ck s3, s4]
  exact dec_enc h1 h2
theorem TrOk.of {key : Bys} {r : List Rec} {c : Int} (h : payE key c r = 0) : TrOk key r := by
 by_cases he : encE r = 0
 ·refine ⟨he, ?_⟩
  by_cases ck : key = []
  ·exact .inl ck
  ·right
   rw [payE_key ck he] at h
   unfold seaE at h
   by_cases c1 : useK key = true
   ·rw [if_pos c1] at h
    by_cases c2 : ((encR r).length : Int) > 65520
    ·rw [if_pos c2] at h; cases h
    ·exact ⟨use_iff.1 c1, by omega⟩
   ·rw [if_neg c1] at h; cases h
 ·rw [payE_err he] at h; exact absurd h he
theorem repG_pays (key : Bys) : ∀ (l : List (List Rec)) (c : Nat) (out : List (List Rec)), (∀ r, r ∈ l → TrOk key r) → c + l.length ≤ 9007199254740991 → repG key (c : Int) (pays key c l) out = (out ++ l, 0)
 | [], c, out, _, _ => by rw [pays, repG, List.append_nil]
 | r :: l, c, out, h, hc => by
  rw [List.length_cons] at hc
  obtain ⟨_, _, e⟩ := (h r List.mem_cons_self).pay (c := (c : Int)) (by omega)
  rw [pays, repG_ok (by rw [e]), e, nat1, repG_pays key l (c + 1) _ (fun x hx => h x (List.mem_cons_of_mem _ hx)) (by omega), List.append_assoc]; rfl
abbrev lgT (key : Bys) (done : List (List Rec)) (n : Nat) : LogT := logOf (pays key 1 done) n
structure TrLog (key : Bys) (n : Nat) (s : List Page) (done : List (List Rec)) : Prop where
 log : ∃ rest, LogOk n s (pays key 1 done) rest
 ok : ∀ r, r ∈ done → TrOk key r
theorem TrLog.few {key : Bys} {n : Nat} {s : List Page} {done : List (List Rec)} (h : TrLog key n s done) : done.length < n ∧ s.length = n := by
 obtain ⟨rest, h⟩ := h.log
 have hz := h.size
 have hl := logPs_len (pays key 1 done) 1
 rw [pays_len] at hl
 exact ⟨by omega, h.len⟩
theorem TrLog.com {key : Bys} {n : Nat} {s : List Page} {done : List (List Rec)} (h : TrLog key n s done) (h1 : 2 ≤ n) (h2 : n ≤ 8192) {r : List Rec} (hr : TrOk key r) :
  (comE (lgT key done n) key r = appE (lgT key done n) (payV key ((1 + done.length : Nat) : Int) r)) ∧ comO (lgT key done n) key r = appO (lgT key done n) (payV key ((1 + done.length : Nat) : Int) r) ∧ comL (lgT key done n) key r = appL (lgT key done n) (payV key ((1 + done.length : Nat) : Int) r) := by
 have hf := h.few
 obtain ⟨rest, hl⟩ := h.log
 have hc := hl.chk h1 h2
 have e : (lgT key done n).2.1 + 1 = ((1 + done.length : Nat) : Int) := by
  show ((pays key 1 done).length : Int) + 1 = _
  rw [pays_len]; omega
 have hp := (hr.pay (c := ((1 + done.length : Nat) : Int)) (by omega)).1
 obtain ⟨e1, e2, e3⟩ := com_ok (key := key) (r := r) hc (by rw [e]; exact hp)
 rw [e] at e1 e2 e3
 exact ⟨e3, e2, e1⟩
theorem TrLog.snoc {key : Bys} {n : Nat} {s : List Page} {done : List (List Rec)} {r : List Rec} (hr : TrOk key r) (hd : ∀ x, x ∈ done → TrOk key x) (h : ∃ rest, LogOk n s (pays key 1 done ++ [payV key ((1 + done.length : Nat) : Int) r]) rest) : TrLog key n s (done ++ [r]) :=
 ⟨by rw [pays_snoc]; exact h, fun x hx => by
  rcases List.mem_append.1 hx with hx | hx
  ·exact hd x hx
  ·rw [List.mem_singleton.1 hx]; exact hr⟩
theorem TrLog.run {key : Bys} {n : Nat} {s : List Page} {done : List (List Rec)} (h : TrLog key n s done) (h1 : 2 ≤ n) (h2 : n ≤ 8192) {r : List Rec} (hr : TrOk key r) (he : comE (lgT key done n) key r = 0) :
  runP (still s) (comO (lgT key done n) key r) = true ∧ comL (lgT key done n) key r = lgT key (done ++ [r]) n ∧ ∃ s' i, runD (still s) (comO (lgT key done n) key r) = (still s', (i, 0)) ∧ TrLog key n s' (done ++ [r]) := by
 have hf := h.few
 obtain ⟨e1, e2, e3⟩ := h.com h1 h2 hr
 obtain ⟨rest, hl⟩ := h.log
 have hb := (hr.pay (c := ((1 + done.length : Nat) : Int)) (by omega)).2.1
 rw [e1] at he
 obtain ⟨a1, _, a3, s', rest', i, a4, a5⟩ := app_run hl h1 h2 hb he
 rw [e2, e3]
 refine ⟨a1, ?_, s', i, a4, TrLog.snoc hr h.ok ⟨rest', a5⟩⟩
 rw [a3, ← pays_snoc]
theorem int_zero {s : List Page} (h1 : 1 ≤ s.length) (h2 : s.length ≤ 8192) (l : List DOp) (ch : List Int) : intD (still s) l 0 ch = (still s, (ch, 0)) := by
 have e := int_of (d := still s) (d' := still s) (l := l) (k := 0) (i := 0) (ch := ch) (still_ok h1 h2) (Nat.zero_le _) (by rw [List.take_zero]; exact run_still h1 h2 [])
 exact e.trans (crash_still h1 h2 ch)
theorem TrLog.int {key : Bys} {n : Nat} {s : List Page} {done : List (List Rec)} (h : TrLog key n s done) (h1 : 2 ≤ n) (h2 : n ≤ 8192) {r : List Rec} (hr : TrOk key r) (he : comE (lgT key done n) key r = 0) (k : Nat) (hk : k ≤ (comO (lgT key done n) key r).length) (ch : List Int) :
  ∃ s' ch', intD (still s) (comO (lgT key done n) key r) (k : Int) ch = (still s', (ch', 0)) ∧ ch'.length ≤ ch.length ∧ ((TrLog key n s' done ∧ k ≠ (comO (lgT key done n) key r).length) ∨ (TrLog key n s' (done ++ [r]) ∧ k ≠ 0)) := by
 have hf := h.few
 obtain ⟨e1, e2, e3⟩ := h.com h1 h2 hr
 obtain ⟨rest, hl⟩ := h.log
 have hb := (hr.pay (c := ((1 + done.length : Nat) : Int)) (by omega)).2.1
 rw [e1] at he
 have hroom : needN (payV key ((1 + done.length : Nat) : Int) r).length + 1 ≤ rest.length := by
  rcases hl.appE h1 h2 hb with ⟨_, b⟩ | ⟨a, _⟩
  ·exact b
  ·rw [a] at he; cases he
 obtain ⟨_, a2, _, _⟩ := app_run hl h1 h2 hb he
 rw [e2, a2] at hk ⊢
 by_cases c0 : k = 0
 ·subst c0
  refine ⟨s, ch, int_zero (by omega) (by omega) _ _, Nat.le_refl _, .inl ⟨h, ?_⟩⟩
  unfold appK
  rw [List.length_append]
  simp
 obtain ⟨s', ch', g1, g2, g3⟩ := int_app hl h1 h2 hb hroom k hk ch
 refine ⟨s', ch', g1, g2, ?_⟩
 rcases g3 with ⟨⟨rest', g⟩, hne⟩ | g
 ·exact .inl ⟨⟨⟨rest', g⟩, h.ok⟩, hne⟩
 ·exact .inr ⟨TrLog.snoc hr h.ok g, c0⟩
theorem TrLog.fresh (key : Bys) (n : Nat) (h : 1 ≤ n) : TrLog key n (headP :: List.replicate (n - 1) z16) [] := ⟨⟨_, fresh_log n h⟩, fun _ hx => nomatch hx⟩
end Go.AI
