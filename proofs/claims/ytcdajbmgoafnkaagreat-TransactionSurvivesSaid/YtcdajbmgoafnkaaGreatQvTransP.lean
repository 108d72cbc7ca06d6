/- Texts of the proof, joined: TransP. Names of our own are shortened by program; the long ones stand in wip/. -/
import Derived.Test.YtcdajbmgoafnkaaGreatQvG
import Derived.Test.YtcdajbmgoafnkaaGreatQvTransT
import Derived.Test.YtcdajbmgoafnkaaGreatQvWireP2
import Derived.Test.YtcdajbmgoafnkaaGreatQvDiskP
namespace Go.AI
open Go
theorem Jbn {X : Type} {c : Bool} {a b x : X} (h1 : c = true) (h2 : a = x) : (bif c then a else b) = x := (Jaa h1 _ _).trans h2
theorem Jde {X : Type} {c : Bool} {a b x : X} (h1 : c = false) (h2 : b = x) : (bif c then a else b) = x := (Jab h1 _ _).trans h2
abbrev rc0 : Rec := ((0 : Int), (([] : List UInt8), ()))
theorem Ktl {r : Rec} : Jlc r = 0 ↔ (1 ≤ r.1 ∧ r.1 ≤ 4) ∧ r.2.1.length ≤ 65536 := by
 unfold Jlc
 by_cases c : 1 ≤ r.1 ∧ r.1 ≤ 4
 ·rw [if_pos c]
  by_cases c2 : r.2.1.length > 65536
  ·rw [if_pos c2]; exact ⟨(fun h => nomatch h), fun h => by omega⟩
  ·rw [if_neg c2]; exact ⟨fun _ => ⟨c, by omega⟩, fun _ => rfl⟩
 ·rw [if_neg c]; exact ⟨(fun h => nomatch h), fun h => absurd h.1 c⟩
theorem Ky2 (r : Rec) (l : List Rec) : Ku1 (r :: l) = if Jlc r = 0 then Ku1 l else Jlc r := by rw [Ku1]
theorem Krb {X : Type} (F : Nat) (fail : X) (ex0 ex1 : Int → List Rec → Int → Int → X) (K : Int → X) (l : List Rec) (hl : l.length ≤ 1024) (h0 : ∀ e a i, ex0 e l a i = K e) (h1 : ∀ e a i, ex1 e l a i = K 0) : ∀ (j m i : Nat) (s2 : Int), i + j = l.length → j ≤ m →
  Jkt F fail ex0 ex1 (m + 1) s2 l (l.length : Nat) i = K (Ku1 (l.drop i))
 | 0, m, i, s2, hi, _ => by
  rw [Jkt, Jwv, Jab (ff (by omega)), h1, List.drop_eq_nil_of_le (by omega)]; rfl
 | j + 1, 0, i, _, _, hm => absurd hm (by omega)
 | j + 1, m + 1, i, s2, hi, hm => by
  have ih := Krb F fail ex0 ex1 K l hl h0 h1 j m (i + 1) s2 (by omega) (by omega)
  rw [Jkt, Jwv, Int.toNat_natCast, Jaa (tt (by omega)), Jaa (tt2 (by omega) (by omega)), Jcu rc0 (show i < l.length by omega), Ky2, Jam (by omega) (by omega), Juu]
  show _ = K (if Jlc (l.getD i rc0) = 0 then _ else _)
  change (bif decide ((l.getD i rc0).1 ≥ 1) then _ else _) = _
  generalize l.getD i rc0 = r
  by_cases c1 : r.1 ≥ 1
  ·rw [Jaa (tt c1)]
   by_cases c2 : r.1 ≤ 4
   ·rw [tt c2, Jab (c := !true) rfl]
    by_cases c3 : (r.2.1.length : Int) > 65536
    ·rw [Jaa (tt c3), h0]
     have : Jlc r = 5 := by unfold Jlc; rw [if_pos ⟨c1, c2⟩, if_pos (by omega)]
     rw [this]; rfl
    ·rw [Jab (ff c3), if_pos (Ktl.2 ⟨⟨c1, c2⟩, by omega⟩)]
     exact ih
   ·rw [ff c2, Jaa (c := !false) rfl, h0]
    have : Jlc r = 1 := by unfold Jlc; rw [if_neg (fun h => c2 h.2)]
    rw [this]; rfl
  ·rw [Jab (ff c1), h0]
   have : Jlc r = 1 := by unfold Jlc; rw [if_neg (fun h => c1 h.1)]
   rw [this]; rfl
theorem Khg (l : List Rec) (_ : Jmf l = true) : ∃ F, ∀ {X : Type} (fail : X) (ret : Int → X), Kxp F l fail ret = ret (Jiy l) := ⟨l.length + 1, fun fail ret => by
 unfold Kxp Jiy Kep
 by_cases c : l.length > 1024
 ·rw [Jaa (tt (by omega)), if_pos c]
 ·rw [Jab (ff (by omega)), if_neg c]
  refine (Krb (l.length + 1) fail _ _ ret l (by omega) (fun _ _ _ => rfl) (fun _ _ _ => rfl) l.length l.length 0 0 (by omega) (by omega)).trans ?_
  rw [List.drop_zero]⟩
theorem K33 {l : List Rec} (h : Kep l = 0) : l.length ≤ 1024 ∧ Ku1 l = 0 := by
 unfold Kep at h
 by_cases c : l.length > 1024
 ·rw [if_pos c] at h; cases h
 ·rw [if_neg c] at h; exact ⟨by omega, h⟩
theorem Ky3 {r : Rec} (h : (1 ≤ r.1 ∧ r.1 ≤ 4) ∧ r.2.1.length ≤ 65536) : (Jmn r).length ≤ 65552 := by
 have h1 := Jfx (Jf9 r.1)
 have h2 := Jfx (Jf9 r.2.1.length)
 unfold Jmn
 rw [List.length_append, List.length_append]; omega
theorem Khh : ∀ {l : List Rec}, (∀ r, r ∈ l → (1 ≤ r.1 ∧ r.1 ≤ 4) ∧ r.2.1.length ≤ 65536) → (l.flatMap Jmn).length ≤ 65552 * l.length
 | [], _ => Nat.zero_le _
 | r :: l, h => by
  have h1 := Ky3 (h r List.mem_cons_self)
  have h2 := Khh (l := l) fun x hx => h x (List.mem_cons_of_mem _ hx)
  rw [List.flatMap_cons, List.length_append, List.length_cons]; omega
theorem Ktm (l : List Rec) (i : Nat) (h : i < l.length) : (l.take (i + 1)).flatMap Jmn = (l.take i).flatMap Jmn ++ Jmn (l.getD i rc0) := by
 rw [Jfe l i rc0 h, List.flatMap_append]; simp
def Jq1 (l : List Rec) (i : Nat) : List UInt8 := J6p (Jf9 l.length) ++ (l.take i).flatMap Jmn
theorem Ktn (l : List Rec) : Jq1 l 0 = J6p (Jf9 l.length) := by unfold Jq1; simp
theorem Ky4 (l : List Rec) : Jq1 l l.length = Jup l := by unfold Jq1 Jup; rw [List.take_length]
theorem Kto (l : List Rec) (i : Nat) (h : i < l.length) : Jq1 l (i + 1) = Jq1 l i ++ Jmn (l.getD i rc0) := by unfold Jq1; rw [Ktm l i h, List.append_assoc]
theorem Ky5 {l : List Rec} (hl : l.length ≤ 1024) (h : Ku1 l = 0) (i : Nat) : (Jq1 l i).length ≤ 68000000 := by
 have h1 := Jfx (Jf9 l.length)
 have h2 := Khh (l := l.take i) fun r hr => J16 h r (List.mem_of_mem_take hr)
 have h3 : (l.take i).length ≤ l.length := by rw [List.length_take]; omega
 unfold Jq1
 rw [List.length_append]; omega
theorem Ky6 (b : List UInt8) (r : Rec) : b ++ J6p (Jf9 r.1) ++ J6p (Jf9 r.2.1.length) ++ r.2.1 = b ++ Jmn r := by
 unfold Jmn; rw [List.append_assoc, List.append_assoc]
theorem K77 {l : List Rec} (h : Ku1 l = 0) {i : Nat} (hi : i < l.length) : (1 ≤ (l.getD i rc0).1 ∧ (l.getD i rc0).1 ≤ 4) ∧ (l.getD i rc0).2.1.length ≤ 65536 := by
 rw [Jdw hi]; exact J16 h _ (List.getElem_mem _)
theorem Kcv (b : List UInt8) (x : Int) (h : Joj b 51 x = true) : ∃ F, ∀ {X : Type} (fail : X) (ret : List UInt8 → X), Klu F b x fail ret = ret (Jjm b 51 x) := ⟨0, fun fail ret => by
 unfold Klu
 rw [Jaa (c := Jga b x) h]; rfl⟩
theorem Kcw (b : List UInt8) (x : List UInt8) (h : Juq b 53 x = true) : ∃ F, ∀ {X : Type} (fail : X) (ret : List UInt8 → X), Klv F b x fail ret = ret (Jqs b 53 x) := ⟨0, fun fail ret => by
 unfold Klv
 rw [Jaa (c := Jev b x) h]; rfl⟩
theorem Krc {X : Type} (F : Nat) (fail : X) (ex0 : List Rec → Int → Int → List UInt8 → X) (K : List UInt8 → X) (l : List Rec) (hl : l.length ≤ 1024) (hg : Ku1 l = 0) (h0 : ∀ a i b, ex0 l a i b = K b) : ∀ (j m i : Nat), i + j = l.length → j ≤ m →
  Jfw F fail ex0 (m + 1) l (l.length : Nat) i (Jq1 l i) = K (Jup l)
 | 0, m, i, hi, _ => by
  rw [Jfw, Jso, Jab (ff (by omega)), h0, show i = l.length by omega, Ky4]
 | j + 1, 0, i, _, hm => absurd hm (by omega)
 | j + 1, m + 1, i, hi, hm => by
  have ih := Krc F fail ex0 K l hl hg h0 j m (i + 1) (by omega) (by omega)
  have hr := K77 hg (show i < l.length by omega)
  have hb := Ky5 hl hg i
  have hs := Kto l i (by omega)
  rw [Jfw, Jso, Int.toNat_natCast, Jam (by omega) (by omega), Juu]
  change (bif _ then bif _ then bif Joj (Jq1 l i) _ (l.getD i rc0).1 then bif Juq (Jjm (Jq1 l i) _ (l.getD i rc0).1) _ (l.getD i rc0).2.1 then Jfw F fail ex0 (m + 1) l _ _ (Jqs (Jjm (Jq1 l i) _ (l.getD i rc0).1) _ (l.getD i rc0).2.1) else _ else _ else _ else _) = _
  generalize l.getD i rc0 = r at hr hs
  have e : ∀ a b, Jqs (Jjm (Jq1 l i) a r.1) b r.2.1 = Jq1 l (i + 1) := fun _ _ => (Ky6 _ _).trans hs.symm
  have h1 := Jfx (Jf9 r.1)
  refine Jbn (tt (by omega)) (Jbn (tt2 (by omega) (by omega)) (Jbn (tt (by omega)) (Jbn (tt ?_) ?_)))
  ·show (Jq1 l i ++ J6p (Jf9 r.1)).length + r.2.1.length ≤ _
   rw [List.length_append]; omega
  ·rw [e]; exact ih
theorem Ky7 {l : List Rec} (h : J8t l = 0) : K9s l = Jup l := if_pos h
theorem Kcx (l : List Rec) (_ : Jqt l = true) : ∃ F, ∀ {X : Type} (fail : X) (ret : List UInt8 → Int → X), Klw F l fail ret = ret (Jcy l) (Jim l) := ⟨l.length + 1, fun fail ret => by
 unfold Klw Jcy Jim K9s
 rw [Jaa (c := Jmf l) rfl, show Jiy l = Kep l from rfl]
 by_cases c : Kep l = 0
 ·obtain ⟨hl, hg⟩ := K33 c
  rw [Jab (Jf8 c), Jaa (c := Joj _ _ _) (tt ⟨by simp, by omega, by omega⟩)]
  have e0 : ∀ a, Jjm ([] : List UInt8) a ((l.length : Nat) : Int) = Jq1 l 0 := fun _ => by rw [Ktn]; rfl
  rw [e0]
  refine (Krc (l.length + 1) fail _ (fun b => bif decide ((b.length : Int) > 65536) then ret [] 5 else ret b 0) l hl hg (fun _ _ _ => rfl) l.length l.length 0 (by omega) (by omega)).trans ?_
  unfold J8t
  rw [if_pos c]
  by_cases c2 : (Jup l).length > 65536
  ·rw [Jaa (tt (by omega)), if_pos c2, if_neg (by decide)]
  ·rw [Jab (ff (by omega)), if_neg c2, if_pos rfl]
 ·have : J8t l = Kep l := if_neg c
  rw [Jaa (Jjj c), this, if_neg c]⟩
theorem Kcy {b : List UInt8} : (Jb9 b).2.1.length ≤ b.length := by
 have h := Kcf b
 unfold Jb9
 simp only
 split
 ·simp
 ·split
  ·simp
  ·rw [List.length_drop]; omega
theorem Krd {X : Type} (F : Nat) (fail : X) (ex0 ex1 : Int → Int → Int → List UInt8 → List Rec → X) (K : List Rec → Int → X) (n : Nat) (hn : n ≤ 1024) (h0 : ∀ e i b out, ex0 e n i b out = K [] e) (h1 : ∀ e i b out, ex1 e n i b out = if b.length = 0 then K out 0 else K [] 3) : ∀ (j m i : Nat) (s3 : Int) (b : List UInt8) (out : List Rec), i + j = n → j ≤ m → b.length ≤ 65536 → out.length ≤ i →
  Je7 F fail ex0 ex1 (m + 1) s3 n i b out = K (K5a j b out).1 (K5a j b out).2
 | 0, m, i, s3, b, out, hi, _, _, _ => by
  rw [Je7, Jsp, Jab (ff (by omega)), h1, K5a]
  by_cases c : b.length = 0
  ·rw [if_pos c, if_pos c]
  ·rw [if_neg c, if_neg c]
 | j + 1, 0, i, _, _, _, _, hm, _, _ => absurd hm (by omega)
 | j + 1, m + 1, i, s3, b, out, hi, hm, hb, ho => by
  have ih := fun s3 b out => Krd F fail ex0 ex1 K n hn h0 h1 j m (i + 1) s3 b out (by omega) (by omega)
  have hN := Jo1 b
  rw [Je7, Jsp, Jam (by omega) (by omega), Juu, Jaa (tt (by omega)), Jaa (c := Jeu b) (tt (by omega)), K5a]
  rw [show Jbi b = (Jcc b).2.2 from rfl, show Jal b = (Jcc b).2.1 from rfl, show Jao b = (Jcc b).1 from rfl]
  by_cases c1 : (Jcc b).2.2 = 0
  ·rw [Jaa (Jju c1), Jab (Jf8 c1), if_neg (by omega)]
   by_cases c2 : (Jcc b).1 ≥ 1
   ·by_cases c3 : (Jcc b).1 ≤ 4
    ·have hB := Kcy (b := (Jcc b).2.1)
     rw [Jaa (tt c2), tt c3, Jab (c := !true) rfl, Jaa (c := Jfu _) (tt (by omega)), if_pos ⟨c2, c3⟩]
     rw [show Jct (Jcc b).2.1 = (Jb9 (Jcc b).2.1).2.2 from rfl, show Jeg (Jcc b).2.1 = (Jb9 (Jcc b).2.1).2.1 from rfl, show Jef (Jcc b).2.1 = (Jb9 (Jcc b).2.1).1 from rfl]
     by_cases c4 : (Jb9 (Jcc b).2.1).2.2 = 0
     ·have hlen : (out ++ [((Jcc b).1, ((Jb9 (Jcc b).2.1).1, ()))]).length = out.length + 1 := by rw [List.length_append, List.length_singleton]
      rw [Jaa (Jju c4), Jab (Jf8 c4), if_neg (by omega), Jaa (Jem (by omega))]
      exact ih _ _ _ (by omega) (by omega)
     ·rw [Jab (Jjv c4), Jaa (Jjj c4), if_pos c4, h0]
    ·rw [Jaa (tt c2), ff c3, Jaa (c := !false) rfl, if_neg (fun h => c3 h.2), h0]
   ·rw [Jab (ff c2), if_neg (fun h => c2 h.1), h0]
  ·rw [Jab (Jjv c1), Jaa (Jjj c1), if_pos c1, h0]
theorem K78 {X : Type} (b : List UInt8) (out : List Rec) (K : List Rec → Int → X) : (bif decide ((b.length : Int) > 0) then K [] 3 else K out 0) = if b.length = 0 then K out 0 else K [] 3 := by
 by_cases c : b.length = 0
 ·rw [Jab (ff (by omega)), if_pos c]
 ·rw [Jaa (tt (by omega)), if_neg c]
theorem Kcz (b : List UInt8) (_ : Ji8 b = true) : ∃ F, ∀ {X : Type} (fail : X) (ret : List Rec → Int → X), Klx F b fail ret = ret (Jex b) (Jey b) := ⟨1025, fun fail ret => by
 unfold Klx Jex Jey Klj
 by_cases c : b.length > 65536
 ·rw [Jaa (tt (by omega)), if_pos c]
 have hN := Jo1 b
 rw [Jab (ff (by omega)), if_neg c, Jaa (c := Jeu b) (tt (by omega))]
 rw [show Jbi b = (Jcc b).2.2 from rfl, show Jal b = (Jcc b).2.1 from rfl, show Jao b = (Jcc b).1 from rfl]
 by_cases c1 : (Jcc b).2.2 = 0
 ·rw [Jaa (Jju c1), Jab (Jf8 c1), if_neg (by omega)]
  by_cases c2 : (Jcc b).1 > 1024
  ·rw [Jaa (tt c2), if_pos c2]
  ·rw [Jab (ff c2), if_neg c2]
   have hn : (Jcc b).1 = (((Jcc b).1.toNat : Nat) : Int) := by omega
   rw [hn]
   refine (Krd 1025 fail _ _ ret _ (by omega) (fun _ _ _ _ => rfl) (fun _ _ b out => K78 b out ret) (Jcc b).1.toNat 1024 0 0 _ _ (by omega) (by omega) (by omega) (by simp)).trans ?_
   rw [Int.toNat_natCast]
 ·rw [Jab (Jjv c1), Jaa (Jjj c1), if_pos c1]⟩
theorem Kre {X : Type} (F : Nat) (fail : X) (ex0 ex1 : List Rec → Bool → Int → X) (K : Bool → X) (l : List Rec) (h0 : ∀ i, ex0 l false i = K false) (h1 : ∀ e i, ex1 l e i = K (decide ((l.length : Int) ≤ 60))) : ∀ (j m i : Nat) (s2 : Bool), i + j = 60 → j ≤ m →
  Jsq F fail ex0 ex1 (m + 1) l s2 i = K (((l.drop i).take j).all (fun r => decide (r.2.1.length ≤ 300)) && decide (l.length ≤ 60))
 | 0, m, i, s2, hi, _ => by
  have e : decide ((l.length : Int) ≤ 60) = decide (l.length ≤ 60) := decide_eq_decide.2 (by omega)
  rw [Jsq, Kbx, List.take_zero, List.all_nil, Bool.true_and, ← e]
  by_cases c : (i : Int) < (l.length : Int)
  ·rw [Jaa (tt c), Jab (ff (by omega)), h1]
  ·rw [Jab (ff c), h1]
 | j + 1, 0, i, _, _, hm => absurd hm (by omega)
 | j + 1, m + 1, i, s2, hi, hm => by
  have ih := Kre F fail ex0 ex1 K l h0 h1 j m (i + 1) s2 (by omega) (by omega)
  have e : decide ((l.length : Int) ≤ 60) = decide (l.length ≤ 60) := decide_eq_decide.2 (by omega)
  rw [Jsq, Kbx, Int.toNat_natCast, Jam (by omega) (by omega), Juu]
  by_cases c : i < l.length
  ·rw [Jaa (tt (by omega)), Jaa (tt (by omega)), Jaa (tt2 (by omega) (by omega)), Jcu rc0 c, List.take_succ_cons, List.all_cons]
   change (bif decide (((l.getD i rc0).2.1.length : Int) > 300) then _ else _) = _
   generalize l.getD i rc0 = r
   by_cases c2 : (r.2.1.length : Int) > 300
   ·rw [Jaa (tt c2), h0, ff (show ¬ r.2.1.length ≤ 300 by omega), Bool.false_and, Bool.false_and]
   ·rw [Jab (ff c2), tt (show r.2.1.length ≤ 300 by omega), Bool.true_and]
    exact ih
  ·rw [Jab (ff (by omega)), h1, List.drop_eq_nil_of_le (by omega), e]; rfl
theorem Ktp (l : List Rec) (_ : Kqc l = true) : ∃ F, ∀ {X : Type} (fail : X) (ret : Bool → X), uFew F l fail ret = ret (J8u l) := ⟨61, fun fail ret => by
 unfold uFew J8u
 refine (Kre 61 fail _ _ ret l (fun _ => rfl) (fun _ _ => rfl) 60 60 0 false (by omega) (by omega)).trans ?_
 unfold K5b
 rw [List.drop_zero]
 by_cases c : l.length ≤ 60
 ·rw [List.take_of_length_le c]
 ·rw [ff c, Bool.and_false, Bool.and_false]⟩
theorem Qaf {a b : Rec} : a = b ↔ a.1 = b.1 ∧ a.2.1 = b.2.1 := ⟨fun h => by rw [h]; exact ⟨rfl, rfl⟩, fun h => by
 obtain ⟨a1, a2, a3⟩ := a
 obtain ⟨b1, b2, b3⟩ := b
 obtain ⟨h1, h2⟩ := h
 cases h1; cases h2; rfl⟩
theorem Khi {X : Type} (F : Nat) (fail : X) (ex0 ex1 : List Rec → List Rec → Bool → Int → X) (K : Bool → X) (a b : List Rec) (hab : a.length = b.length) (ha : a.length ≤ 1000000000000) (h0 : ∀ i, ex0 a b false i = K false) (h1 : ∀ e i, ex1 a b e i = K true) : ∀ (j m i : Nat) (s4 : Bool), i + j = a.length → j ≤ m →
  Jnh F fail ex0 ex1 (m + 1) a b s4 i = K (decide (a.drop i = b.drop i))
 | 0, m, i, s4, hi, _ => by
  rw [Jnh, J12, Jab (ff (by omega)), h1, List.drop_eq_nil_of_le (by omega), List.drop_eq_nil_of_le (by omega)]; rfl
 | j + 1, 0, i, _, _, hm => absurd hm (by omega)
 | j + 1, m + 1, i, s4, hi, hm => by
  have ih := Khi F fail ex0 ex1 K a b hab ha h0 h1 j m (i + 1) s4 (by omega) (by omega)
  have ba : (decide ((0 : Int) ≤ (i : Int)) && decide ((i : Int) < ((a.length : Nat) : Int))) = true := tt2 (by omega) (by omega)
  have bb : (decide ((0 : Int) ≤ (i : Int)) && decide ((i : Int) < ((b.length : Nat) : Int))) = true := tt2 (by omega) (by omega)
  rw [Jnh, J12, Int.toNat_natCast, Jam (by omega) (by omega), Juu, Jcu rc0 (show i < a.length by omega), Jcu rc0 (show i < b.length by omega)]
  refine Jbn (tt (by omega)) (Jbn ba (Jbn bb ?_))
  change (bif (a.getD i rc0).1 != (b.getD i rc0).1 then _ else bif _ then bif _ then bif !((a.getD i rc0).2.1 == (b.getD i rc0).2.1) then _ else _ else _ else _) = _
  generalize a.getD i rc0 = x
  generalize b.getD i rc0 = y
  by_cases c1 : x.1 = y.1
  ·rw [Jab (Jf8 c1)]
   refine Jbn ba (Jbn bb ?_)
   by_cases c2 : x.2.1 = y.2.1
   ·have e : x = y := Qaf.2 ⟨c1, c2⟩
    rw [show (x.2.1 == y.2.1) = true by simpa using c2, Jab (c := !true) rfl, ih]
    congr 1
    exact decide_eq_decide.2 ⟨fun h => by rw [e, h], fun h => (List.cons.inj h).2⟩
   ·rw [show (x.2.1 == y.2.1) = false by simpa using c2, Jaa (c := !false) rfl, h0, ff (fun h => c2 (by rw [(List.cons.inj h).1]))]
  ·rw [Jaa (Jjj c1), h0, ff (fun h => c1 (by rw [(List.cons.inj h).1]))]
theorem Kmw (a b : List Rec) (h : Kbf a b = true) : ∃ F, ∀ {X : Type} (fail : X) (ret : Bool → X), K7b F a b fail ret = ret (J3o a b) := ⟨a.length + 1, fun fail ret => by
 simp only [Kbf, K1y, Bool.and_eq_true, decide_eq_true_eq] at h
 unfold K7b J3o
 by_cases c : a.length = b.length
 ·rw [Jab (Jf8 (by omega))]
  refine (Khi (a.length + 1) fail _ _ ret a b c h.1 (fun _ => rfl) (fun _ _ => rfl) a.length a.length 0 false (by omega) (by omega)).trans ?_
  rw [List.drop_zero, List.drop_zero]
 ·rw [Jaa (Jjj (by omega)), ff (fun h => c (by rw [h]))]⟩
theorem J87 {X : Type} (F : Nat) (fail : X) (ex0 ex1 : List (List Rec) → List (List Rec) → Bool → Int → X) (K : Bool → X) (a b : List (List Rec)) (hab : a.length = b.length) (ha : Kqd a = true) (hb : Kqd b = true) (h0 : ∀ i, ex0 a b false i = K false) (h1 : ∀ e i, ex1 a b e i = K true) : ∀ (j m i : Nat) (s4 : Bool), i + j = a.length → j ≤ m →
  Jhm F fail ex0 ex1 (m + 1) a b s4 i = K (decide (a.drop i = b.drop i))
 | 0, m, i, s4, hi, _ => by
  rw [Jhm, Jov, Jab (ff (by omega)), h1, List.drop_eq_nil_of_le (by omega), List.drop_eq_nil_of_le (by omega)]; rfl
 | j + 1, 0, i, _, _, hm => absurd hm (by omega)
 | j + 1, m + 1, i, s4, hi, hm => by
  have ih := J87 F fail ex0 ex1 K a b hab ha hb h0 h1 j m (i + 1) s4 (by omega) (by omega)
  simp only [Kqd, Bool.and_eq_true, decide_eq_true_eq] at ha hb
  have ba : (decide ((0 : Int) ≤ (i : Int)) && decide ((i : Int) < ((a.length : Nat) : Int))) = true := tt2 (by omega) (by omega)
  have bb : (decide ((0 : Int) ≤ (i : Int)) && decide ((i : Int) < ((b.length : Nat) : Int))) = true := tt2 (by omega) (by omega)
  have pa : K1y (a.getD i []) = true := by rw [Jdw (show i < a.length by omega)]; exact List.all_eq_true.1 ha.2 _ (List.getElem_mem _)
  have pb : K1y (b.getD i []) = true := by rw [Jdw (show i < b.length by omega)]; exact List.all_eq_true.1 hb.2 _ (List.getElem_mem _)
  rw [Jhm, Jov, Int.toNat_natCast, Jam (by omega) (by omega), Juu, Jcu ([] : List Rec) (show i < a.length by omega), Jcu ([] : List Rec) (show i < b.length by omega)]
  refine Jbn (tt (by omega)) (Jbn ba (Jbn bb ?_))
  generalize a.getD i [] = x at pa
  generalize b.getD i [] = y at pb
  refine Jbn (show (K1y x && K1y y) = true by rw [pa, pb]; rfl) ?_
  rw [show J3o x y = decide (x = y) from rfl]
  by_cases c : x = y
  ·rw [tt c, Jab (c := !true) rfl, ih]
   congr 1
   exact decide_eq_decide.2 ⟨fun h => by rw [c, h], fun h => (List.cons.inj h).2⟩
  ·rw [ff c, Jaa (c := !false) rfl, h0, ff (fun h => c (List.cons.inj h).1)]
theorem J6z (a b : List (List Rec)) (h : Jm6 a b = true) : ∃ F, ∀ {X : Type} (fail : X) (ret : Bool → X), Kby F a b fail ret = ret (Jin a b) := ⟨a.length + 1, fun fail ret => by
 rw [Jm6, Bool.and_eq_true] at h
 unfold Kby Jin
 by_cases c : a.length = b.length
 ·rw [Jab (Jf8 (by omega))]
  refine (J87 (a.length + 1) fail _ _ ret a b c h.1 h.2 (fun _ => rfl) (fun _ _ => rfl) a.length a.length 0 false (by omega) (by omega)).trans ?_
  rw [List.drop_zero, List.drop_zero]
 ·rw [Jaa (Jjj (by omega)), ff (fun h => c (by rw [h]))]⟩
end Go.AI
