/- Texts of the proof, joined: LogP6. Names of our own are shortened by program; the long ones stand in wip/. -/
import Derived.Test.YtcdajbmgoafnkaaGreatQrLogP5
namespace Go.AI
open Go
theorem Qdz (l : List Jbw) : l.drop (l.takeWhile Jdp).length = l.dropWhile Jdp := by
 have h := List.takeWhile_append_dropWhile (p := Jdp) (l := l)
 have : (l.takeWhile Jdp ++ l.dropWhile Jdp).drop (l.takeWhile Jdp).length = l.dropWhile Jdp := List.drop_left' rfl
 rwa [h] at this
theorem Qnh (l : List Jbw) : l.take (l.takeWhile Jdp).length = l.takeWhile Jdp := by
 have h := List.takeWhile_append_dropWhile (p := Jdp) (l := l)
 have : (l.takeWhile Jdp ++ l.dropWhile Jdp).take (l.takeWhile Jdp).length = l.takeWhile Jdp := List.take_left' rfl
 rwa [h] at this
theorem Qd0 {l : List Jbw} {k : Nat} {p : Jbw} {r : List Jbw} (h : l.drop k = p :: r) : l.getD k z16 = p := by
 have := congrArg (fun x : List Jbw => x[0]?) h
 simp only [List.getElem?_drop, Nat.add_zero, List.getElem?_cons_zero] at this
 simp [List.getD, this]
theorem Kbp (l : List Jbw) (num : Int) (h : Jf2 l num = true) : ∃ F, ∀ {X : Type} (fail : X) (ret : Bys → Int → Bool → X), Kbb F l num fail ret = ret (Jgv l num) (Jgw l num) (Jgx l num) := ⟨65536 + l.length + 1, fun fail ret => by
 simp only [Jf2, Bool.and_eq_true, decide_eq_true_eq] at h
 obtain ⟨⟨hl, hn0, hn1⟩, h16⟩ := h
 obtain ⟨n, rfl⟩ := Int.eq_ofNat_of_zero_le hn0
 have hdw := K40 l
 have tk16 := Kbl h16
 have hall := Qkx l
 have hdd := Qdz l
 have htt := Qnh l
 unfold Kbb Jgv Jgw Jgx
 refine (Jus (65536 + l.length + 1) fail _ l n hl l.length (65536 + l.length) 0 (by omega) (by omega)).trans ?_
 rw [List.drop_zero, Nat.zero_add]
 rcases Jnr l n with ⟨hd, e⟩ | ⟨p, r, hd, hc⟩
 ·rw [e]
  rw [hd, List.length_nil] at hdw
  exact Jbf (Jk8 (by omega)) rfl
 rw [hd, List.length_cons] at hdw
 have d16 := Kbm h16
 rw [hd] at d16 hdd
 have hp16 := (Jlk.1 d16).1
 have hg : l.getD (l.takeWhile Jdp).length z16 = p := Qd0 hdd
 have iff := Qdy hp16 tk16 hall (num := n) (by omega)
 have hrl : r.length = l.length - (l.takeWhile Jdp).length - 1 := by omega
 generalize hps : l.takeWhile Jdp = ps at *
 have hgp : Ka1 p 8 4 = true := tt ⟨hp16, by omega, by omega, by omega, by omega⟩
 have hgp5 : Ka1 p 5 3 = true := tt ⟨hp16, by omega, by omega, by omega, by omega⟩
 have hg8 : J1l p 8 4 = ((fld p 8 4 : Nat) : Int) := rfl
 have hg5 : J1l p 5 3 = ((fld p 5 3 : Nat) : Int) := rfl
 refine Jex (Jl3 (by omega)) (Jbf (tt2 (by omega) (by omega)) ?_)
 rw [Int.toNat_natCast, hg, hg8]
 have dead : ¬ Jzi p n ps.length (Jf1 ps) = true → Jx1 l n = none := fun hk => by
  rcases hc with ⟨hk', _⟩ | ⟨_, e⟩
  ·exact absurd hk' hk
  ·exact e
 refine Jbf hgp ?_
 by_cases c1 : fld p 8 4 ≤ 65536
 case neg => exact Jbf (tt (by omega)) (by rw [dead (fun h => c1 (iff.1 h).1)]; rfl)
 refine Jex (ff (by omega)) ?_
 have hm15 : Je6 15 ((ps.length : Nat) : Int) = 15 * (ps.length : Int) := Jff (by omega) (by omega)
 by_cases c2 : fld p 8 4 ≤ 15 * ps.length
 case neg => exact Jbf (tt (by rw [hm15]; omega)) (by rw [dead (fun h => c2 (iff.1 h).2.1)]; rfl)
 refine Jex (ff (by rw [hm15]; omega)) ?_
 refine (Jut (65536 + l.length + 1) fail _ l n ps.length (fld p 8 4) (by omega) hl c2 c1 (by rw [htt]; exact tk16) (fld p 8 4) (65536 + l.length) 0 (by omega) (by omega)).trans ?_
 rw [htt]
 have hplen : ((Jf1 ps).take (fld p 8 4)).length ≤ 65536 := by rw [List.length_take]; omega
 generalize hpay : (Jf1 ps).take (fld p 8 4) = pay at *
 have hcP : Juf pay n = true := tt (by omega)
 have hdP : Ka2 pay = true := tt (by omega)
 have hcr : Jug pay n = K6z pay n := rfl
 refine Jbf (tt2 (by omega) (by omega)) (Jbf hcP ?_)
 rw [Int.toNat_natCast, hg, hcr, hg5, J9c (.arr 16 (.int .u8)) rfl]
 by_cases c3 : p = K6z pay n
 case neg => exact Jbf (by rw [ff c3]; rfl) (by rw [dead (fun h => c3 (iff.1 h).2.2.1)]; rfl)
 refine Jex (by rw [tt c3]; rfl) (Jbf (tt2 (by omega) (by omega)) (Jbf hgp5 ?_))
 by_cases c4 : fld p 5 3 = ps.length
 case neg => exact Jbf (Jhl (by omega)) (by rw [dead (fun h => c4 (iff.1 h).2.2.2.1)]; rfl)
 refine Jex (Jgm (by omega)) (Jbf (tt2 (by omega) (by omega)) (Jbf hdP ?_))
 rw [htt]
 have hpd : (Jqa pay).length ≤ 65536 := by rw [J4t]; unfold Jco; omega
 have hsP : Jk9 ps (Jzf pay) = true := tt ⟨by omega, by show (Jqa pay).length ≤ _; omega⟩
 have hsr : Jla ps (Jzf pay) = decide (ps = Jqa pay) := rfl
 refine Jbf hsP ?_
 rw [hsr]
 by_cases c5 : ps = Jqa pay
 case neg => exact Jbf (by rw [ff c5]; rfl) (by rw [dead (fun h => c5 (iff.1 h).2.2.2.2)]; rfl)
 refine Jex (by rw [tt c5]; rfl) ?_
 rcases hc with ⟨_, e⟩ | ⟨hk, _⟩
 ·rw [e, Jai (by omega) (by omega)]
  congr 1
  show (ps.length : Int) + 1 = (l.length : Int) - (r.length : Int)
  omega
 ·rw [iff.2 ⟨c1, c2, c3, c4, c5⟩] at hk; cases hk⟩
theorem Ksn {l : List Jbw} {num : Int} {b : Bys} {r : List Jbw} (h : Jx1 l num = some (b, r)) : l.drop (l.length - r.length) = r := by
 rcases Jnr l num with ⟨_, e⟩ | ⟨p, r', hd, ⟨_, e⟩ | ⟨_, e⟩⟩
 ·rw [e] at h; cases h
 ·rw [e] at h; cases h
  have h1 := K40 l
  have h2 := Qdz l
  rw [hd] at h2
  rw [hd, List.length_cons] at h1
  rw [show l.length - r.length = (l.takeWhile Jdp).length + 1 by omega, ← List.drop_drop, h2]; rfl
 ·rw [e] at h; cases h
theorem Ki1 {l : List Jbw} (h : J1o l = true) (n : Nat) : J1o (l.drop n) = true := by
 unfold J1o at h ⊢
 rw [List.all_eq_true] at h ⊢
 exact fun x hx => h x (List.mem_of_mem_drop hx)
theorem K7v {X : Type} (F : Nat) (fail : X) (ex0 : List Jbw → Int → Int → Bys → Int → Bool → List Bys → X) (K : List Bys → Int → X) (l : List Jbw) (first : Int) (hf : 1 ≤ first ∧ first ≤ 8192) (hl : l.length ≤ 1000000) (h16 : J1o l = true) (h0 : ∀ n b k ok out, ex0 l first n b k ok out = K out n) :
  ∀ (f m n : Nat) (out : List Bys), (l.drop n).length ≤ f → f ≤ m → n ≤ l.length → out.length ≤ n →
  Jqt F fail ex0 (m + 1) l first n (Jgv (l.drop n) (first + out.length)) (Jgw (l.drop n) (first + out.length)) (Jgx (l.drop n) (first + out.length)) out =
   K (out ++ (Jnl f (l.drop n) (first + out.length)).1) ((l.length : Int) - ((Jnl f (l.drop n) (first + out.length)).2.length : Int)) := by
 intro f
 induction f with
 | zero =>
  intro m n out hn _ hnl _
  have e : l.drop n = [] := List.length_eq_zero_iff.1 (by omega)
  rw [e]
  rw [Jqt, J89]
  rw [List.length_drop] at hn
  refine Jex rfl ?_
  rw [h0, show Jnl 0 [] (first + out.length) = ([], []) from rfl, List.append_nil]
  congr 1
  show (n : Int) = (l.length : Int) - 0
  omega
 | succ f ih =>
  intro m n out hn hm hnl ho
  obtain ⟨m', rfl⟩ : ∃ m', m = m' + 1 := ⟨m - 1, by omega⟩
  rw [Jqt, J89]
  unfold Jgv Jgw Jgx
  rw [List.length_drop] at hn
  cases e : Jx1 (l.drop n) (first + out.length) with
  | none =>
   refine Jex rfl ?_
   rw [h0, Jnl, e]
   simp only [List.append_nil, List.length_drop]
   congr 1
   omega
  | some br =>
   obtain ⟨b, r⟩ := br
   have hr := Ksl e
   have hs := Ksn e
   rw [List.length_drop] at hr hs
   have hsub : ((l.drop n).length : Int) - (r.length : Int) = ((l.length - n - r.length : Nat) : Int) := by rw [List.length_drop]; omega
   refine Jbf rfl ?_
   simp only [hsub]
   rw [Jai (a := (n : Int)) (by omega) (by omega), show (n : Int) + ((l.length - n - r.length : Nat) : Int) = ((n + (l.length - n - r.length) : Nat) : Int) by omega, Int.toNat_natCast]
   rw [List.drop_drop] at hs
   have ho2 : (out ++ [b]).length = out.length + 1 := by rw [List.length_append, List.length_singleton]
   have hnum : Jag first ((out ++ [b]).length : Int) = first + ((out ++ [b]).length : Int) := Jai (by omega) (by omega)
   have := ih m' (n + (l.length - n - r.length)) (out ++ [b]) (by rw [hs]; omega) (by omega) (by omega) (by omega)
   have hcP : Jf2 (l.drop (n + (l.length - n - r.length))) (first + ((out ++ [b]).length : Int)) = true := by
    unfold Jf2
    rw [Ki1 h16, tt (by rw [List.length_drop]; omega)]; rfl
   refine Jbf (Jch (by omega)) (Jbf (tt2 (by omega) (by omega)) ?_)
   rw [hnum]
   refine Jbf hcP (this.trans ?_)
   rw [hs, Jnl, e, ho2, List.append_assoc, show first + ((out.length + 1 : Nat) : Int) = first + out.length + 1 by omega]; rfl
theorem Kzv (l : List Jbw) (first : Int) (h : Ka3 l first = true) : ∃ F, ∀ {X : Type} (fail : X) (ret : List Bys → Int → X), Qmg F l first fail ret = ret (J1q l first) (J8z l first) := ⟨l.length + 1, fun fail ret => by
 simp only [Ka3, Juh, Bool.and_eq_true, decide_eq_true_eq] at h
 unfold Qmg J1q J8z Jgk Kfd
 by_cases c1 : first < 1
 ·rw [Jaa (tt c1), if_neg (by omega), Int.sub_self]
 by_cases c2 : first > 8192
 ·rw [Jab (ff c1), Jaa (tt c2), if_neg (by omega), Int.sub_self]
 have hcP : Jf2 l first = true := by
  unfold Jf2
  rw [h.2, tt (by omega)]; rfl
 rw [Jab (ff c1), Jab (ff c2), hcP, cond_true, if_pos (by omega)]
 have := K7v (l.length + 1) fail (fun _ _ n _ _ _ out => ret out n) (fun out n => ret out n) l first (by omega) h.1 h.2 (fun _ _ _ _ _ => rfl) l.length l.length 0 [] (by rw [List.drop_zero]; exact Nat.le_refl _) (Nat.le_refl _) (Nat.zero_le _) (Nat.le_refl _)
 simp only [List.length_nil, List.nil_append, List.drop_zero] at this
 rw [show first + ((0 : Nat) : Int) = first by omega] at this
 exact this⟩
theorem Qja {s : List Jbw} (h : J1o s = true) (k : Nat) {p : Jbw} (hp : p.length = 16) : J1o (s.set k p) = true := by
 unfold J1o at h ⊢
 rw [List.all_eq_true] at h ⊢
 intro x hx
 rcases List.mem_or_eq_of_mem_set hx with hx | rfl
 ·exact h x hx
 ·exact tt hp
theorem Qky : ∀ (l : List Kx8) {s : List Jbw}, J1o s = true → (l.all fun p => decide (p.2.1.length = 16)) = true → J1o (Qib s l) = true
 | [], _, h, _ => h
 | p :: l, s, h, hl => by
  rw [List.all_cons, Bool.and_eq_true, decide_eq_true_eq] at hl
  exact Qky l (Qja h p.1.toNat hl.1) hl.2
theorem Qpi {d : DK} (h : Qlx d = true) : J1o (Jq9 d) = true := by
 unfold Qlx at h
 rw [Bool.and_eq_true] at h
 exact Qky d.2.1 h.1 h.2
theorem Kso : ∀ (n : Nat) (l : List Jbw) (num : Int), (Jnl n l num).2.length ≤ l.length ∧ (Jnl n l num).1.length ≤ l.length
 | 0, l, _ => ⟨Nat.le_refl _, Nat.zero_le _⟩
 | n + 1, l, num => by
  rw [Jnl]
  cases e : Jx1 l num with
  | none => exact ⟨Nat.le_refl _, Nat.zero_le _⟩
  | some br =>
   obtain ⟨b, r⟩ := br
   have := Ksl e
   obtain ⟨h1, h2⟩ := Kso n r (num + 1)
   exact ⟨by show (Jnl n r (num + 1)).2.length ≤ _; omega, by show (Jnl n r (num + 1)).1.length + 1 ≤ _; omega⟩
theorem Kbq (l : List Jbw) (f : Int) : (Kfd l f).2.length ≤ l.length ∧ (Kfd l f).1.length ≤ l.length := by
 unfold Kfd
 split
 ·exact Kso _ _ _
 ·exact ⟨Nat.le_refl _, Nat.zero_le _⟩
theorem K42 {d : DK} (h : okD d = true) : K6v d 0 (d.1.length : Int) = Jq9 d ∧ Kq3 d 0 (d.1.length : Int) = 0 := by
 have hf : Kq2 d 0 (d.1.length : Int) = true := tt (by omega)
 unfold K6v Kq3
 rw [h, hf]
 refine ⟨?_, rfl⟩
 show ((Jq9 d).drop 0).take (d.1.length : Int).toNat = _
 rw [List.drop_zero, Int.toNat_natCast, List.take_of_length_le (by rw [Jzq]; exact Nat.le_refl _)]
theorem Qd1 {d : DK} : okD d = true ↔ Kq1 d = 0 := by
 unfold Kq1
 cases okD d <;> simp
theorem Ki2 {d : DK} (h1 : Jng d = true) (h2 : Qlx d = true) (hk : okD d = true) (h : 2 ≤ d.1.length) :
  List.take ((Jq9 d).length - 1) (List.drop 1 (Jq9 d)) = (Jq9 d).tail ∧ Juh (Jq9 d).tail 1 = true ∧ (Jq9 d).length = d.1.length ∧ d.1.length ≤ 8192 := by
 have hl : (Jq9 d).length = d.1.length := Jzq d
 have hs := Jgb.1 h1
 have h8 : d.1.length ≤ 8192 := by
  unfold okD at hk
  rw [Bool.and_eq_true, decide_eq_true_eq] at hk
  exact hk.1.2
 refine ⟨by rw [List.drop_one, List.take_of_length_le (by rw [List.length_tail]; exact Nat.le_refl _)], ?_, hl, h8⟩
 unfold Juh
 rw [← List.drop_one, Ki1 (Qpi h2), tt (by rw [List.length_drop]; omega)]; rfl
theorem Kzw (d : DK) (h : Jj9 d = true) : ∃ F, ∀ {X : Type} (fail : X) (ret : Jic → List Bys → Int → X), Qme F d fail ret = ret (Jry d) (Jo2 d) (Jo3 d) := ⟨0, fun fail ret => by
 unfold Jj9 at h
 rw [Bool.and_eq_true] at h
 unfold Qme Jry Jo2 Jo3 opL opB Jep Jwf
 rw [Jaa (c := Kli _ _ _) h.1]
 cases hk : okD d with
 | false =>
  have he : Kq3 d 0 (d.1.length : Int) = 2 := by unfold Kq3; rw [hk]; rfl
  have ho : opE d = 2 := by unfold opE Kq1; rw [hk]; rfl
  rw [he, ho]; rfl
 | true =>
  obtain ⟨r1, r2⟩ := K42 hk
  have hc := Qd1.1 hk
  have hl : (Jq9 d).length = d.1.length := Jzq d
  rw [r1, r2, Jab (c := (0 : Int) != 0) rfl]
  have ho : opE d = if d.1.length < 2 then 2 else if (Jq9 d).getD 0 z16 = Klr then 0 else 3 := if_pos hc
  by_cases c1 : d.1.length < 2
  ·rw [if_pos c1] at ho
   rw [Jaa (tt (by omega)), ho]; rfl
  rw [if_neg c1] at ho
  obtain ⟨p1, p2, p3, p4⟩ := Ki2 h.1 h.2 hk (by omega)
  have hsl := Kbq (Jq9 d).tail 1
  rw [List.length_tail] at hsl
  rw [Jab (ff (by omega)), Jaa (tt (by omega)), Jaa (c := Kls) rfl, J9c (.arr 16 (.int .u8)) rfl, show Klt = Klr from rfl]
  by_cases c2 : (Jq9 d).getD 0 z16 = Klr
  ·rw [if_pos c2] at ho
   have ha : Jag 1 (Jgk (Jq9 d).tail 1) = 1 + Jgk (Jq9 d).tail 1 := by
    unfold Jgk
    rw [Jai]
    ·rw [List.length_tail]; omega
    ·rw [List.length_tail]; omega
   refine Jex (by rw [tt c2]; rfl) (Jbf (tt (by omega)) ?_)
   rw [p1, p2, cond_true, ho, if_pos rfl, if_pos rfl, ha, hl]; rfl
  ·rw [if_neg c2] at ho
   refine Jbf (by rw [ff c2]; rfl) ?_
   rw [ho]; rfl⟩
theorem Kzx (d : DK) (h : Jzj d = true) : ∃ F, ∀ {X : Type} (fail : X) (ret : Jic → List Bys → Int → X), Qmh F d fail ret = ret (Jrz d) (Jr0 d) (Jl8 d) := ⟨0, fun fail ret => by
 unfold Jzj at h
 rw [Bool.and_eq_true] at h
 unfold Qmh Jrz Jr0 Jl8 opL opB Jf0 Joy
 rw [Jaa (c := Jwg _) h.1]
 cases hk : okD d with
 | false =>
  have he : Kq1 d = 2 := by unfold Kq1; rw [hk]; rfl
  have ho : opE d = 2 := by unfold opE; rw [he]; rfl
  rw [he, ho]; rfl
 | true =>
  obtain ⟨r1, r2⟩ := K42 hk
  have hc := Qd1.1 hk
  have hl : (Jq9 d).length = d.1.length := Jzq d
  rw [hc, Jab (c := (0 : Int) != 0) rfl]
  have ho : opE d = if d.1.length < 2 then 2 else if (Jq9 d).getD 0 z16 = Klr then 0 else 3 := if_pos hc
  by_cases c1 : d.1.length < 2
  ·rw [if_pos c1] at ho
   rw [Jaa (tt (by omega)), ho]; rfl
  rw [if_neg c1] at ho
  obtain ⟨p1, p2, p3, p4⟩ := Ki2 h.1 h.2 hk (by omega)
  have hsl := Kbq (Jq9 d).tail 1
  rw [List.length_tail] at hsl
  rw [Jab (ff (by omega)), Jaa (c := Klk _ _ _) h.1, r1, Jaa (tt (by omega)), Jaa (c := J1h) rfl, J9c (.arr 16 (.int .u8)) rfl, show J1i = Klr from rfl]
  by_cases c2 : (Jq9 d).getD 0 z16 = Klr
  ·rw [if_pos c2] at ho
   have ha : Jag 1 (Jgk (Jq9 d).tail 1) = 1 + Jgk (Jq9 d).tail 1 := by
    unfold Jgk
    rw [Jai]
    ·rw [List.length_tail]; omega
    ·rw [List.length_tail]; omega
   refine Jex (by rw [tt c2]; rfl) (Jbf (tt (by omega)) ?_)
   have p2' : Ka3 (Jq9 d).tail 1 = true := p2
   rw [p1, p2', cond_true, ho, if_pos rfl, if_pos rfl]
   show ret (Jag 1 (Jgk (Jq9 d).tail 1), _) _ _ = _
   rw [ha]; rfl
  ·rw [if_neg c2] at ho
   refine Jbf (by rw [ff c2]; rfl) ?_
   rw [ho]; rfl⟩
end Go.AI
