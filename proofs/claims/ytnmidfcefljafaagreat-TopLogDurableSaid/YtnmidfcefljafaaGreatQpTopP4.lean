/- Texts of the proof, joined: TopP4. Names of our own are shortened by program; the long ones stand in wip/. -/
import Derived.Test.YtnmidfcefljafaaGreatQpG
import Derived.Test.YtnmidfcefljafaaGreatQpTopP2
namespace Go.AI
open Go
def TopLogPrefix_P (_ : List TcT) (_ : Bys) (_ : List Int) : Bool := true
def TopLogPrefix_r (_ : List TcT) (_ : Bys) (_ : List Int) : Bool := true
def TopLogDurable_P (_ : List TcT) (_ : Bys) (_ : List Int) : Bool := true
def TopLogDurable_r (_ : List TcT) (_ : Bys) (_ : List Int) : Bool := true
theorem Kh9 {l : List TcT} {key : Bys} {ch : List Int} : Jjz l key ch = true ↔ (∀ x, x ∈ l → okT x.1 = true) ∧ l.length ≤ 16 ∧ key.length ≤ 64 ∧ ch.length ≤ 200 := by
 unfold Jjz
 simp only [Bool.and_eq_true, List.all_eq_true, decide_eq_true_eq]
theorem Ksj {X : Type} (F : Nat) (fail : X) (ex0 : List TcT → Bys → List Int → Bool → Int → TlT → X) (K : X) (l : List TcT) (key : Bys) (hl : l.length ≤ 16) (hx : ∀ x, x ∈ l → Ke6 key x.1) (hk : key.length ≤ 64) (h0 : ∀ ch i s, ex0 l key ch true i s = K) : ∀ (j m i : Nat) (ch : List Int) (s : List Ja4) (done : List (List Rec)), i + j = l.length → j ≤ m → ch.length ≤ 200 → Jhh key 300 s done →
  Jdd F fail ex0 (m + 1) l key ch true i (Ja5 s, (lgT key done 300, (done, ()))) = K
 | 0, m, i, ch, s, done, hi, _, _, _ => by
  rw [Jdd, Jht, Jab (ff (by omega)), h0]
 | j + 1, 0, i, _, _, _, _, hm, _, _ => absurd hm (by omega)
 | j + 1, m + 1, i, ch, s, done, hi, hm, hch, ht => by
  have hlt : i < l.length := by omega
  have hmem : l.getD i tc0 ∈ l := by rw [Jdx hlt]; exact List.getElem_mem _
  obtain ⟨p, s', done', ch', e, h', hc', _⟩ := Qa2 ht hk (l.getD i tc0) (hx _ hmem) ch (by omega)
  obtain ⟨p1, p2, p3, p4⟩ := h'.replay hk (by omega) (by omega)
  rw [Jdd, Jht, Int.toNat_natCast, Jao (by omega) (by omega), Jte, Jaa (tt (by omega)), cond_true, Jaa (tt2 (by omega) (by omega))]
  change (bif Je4 _ key (l.getD i tc0) ch then bif Jb6 _ key (l.getD i tc0) ch then bif Jog (Jan _ key (l.getD i tc0) ch) key then Jdd F fail ex0 (m + 1) l key (Jcn _ key (l.getD i tc0) ch) (Joh (Jan _ key (l.getD i tc0) ch) key) _ (Jan _ key (l.getD i tc0) ch) else _ else _ else _) = _
  have e0 : Jan (Ja5 s, (lgT key done 300, (done, ()))) key (l.getD i tc0) ch = (Ja5 s', (lgT key done' 300, (done', ()))) := by unfold Jan; rw [e]
  have e1 : Jcn (Ja5 s, (lgT key done 300, (done, ()))) key (l.getD i tc0) ch = ch' := by unfold Jcn; rw [e]
  have e2 : Jb6 (Ja5 s, (lgT key done 300, (done, ()))) key (l.getD i tc0) ch = true := by unfold Jb6; rw [e]
  have eR : Joh (Ja5 s', (lgT key done' 300, (done', ()))) key = true := tt ⟨p2, p3, p4⟩
  have eP : Jog (Ja5 s', (lgT key done' 300, (done', ()))) key = true := by
   show (Jeu (Ja5 s') && Jva done') = true
   rw [p1, h'.sam (by omega)]; rfl
  rw [p, e0, e1, e2, eR, eP]
  exact Ksj F fail ex0 K l key hl hx hk h0 j m (i + 1) ch' s' done' (by omega) (by omega) (by omega) h'
theorem Jw1 (l : List TcT) (key : Bys) (ch : List Int) (_ : TopLogPrefix_P l key ch = true) : ∃ F, ∀ {X : Type} (fail : X) (ret : Bool → X), TopLogPrefix F l key ch fail ret = ret (TopLogPrefix_r l key ch) := ⟨l.length + 1, fun fail ret => by
 unfold TopLogPrefix
 refine Jbv rfl ?_
 cases hf : Jjz l key ch with
 | false => rfl
 | true =>
 obtain ⟨h1, h2, h3, h4⟩ := Kh9.1 hf
 refine Jmj rfl (Jbv rfl ?_)
 exact Ksj (l.length + 1) fail _ (ret true) l key h2 (fun x hx => K6l h3 (h1 x hx)) h3 (fun _ _ _ => rfl) l.length l.length 0 ch _ [] (by omega) (by omega) h4 (Jhh.fresh key 300 (by omega))⟩
theorem Ksk {X : Type} (F : Nat) (fail : X) (ex0 ex1 : List TcT → Bys → List Int → Bool → Bool → List (List Rec) → Int → TlT → X) (K : X) (l : List TcT) (key : Bys) (hl : l.length ≤ 16) (hx : ∀ x, x ∈ l → Ke6 key x.1) (hk : key.length ≤ 64) (s6 : Bool) (h1 : ∀ ch b i s, ex1 l key ch s6 true b i s = K) : ∀ (j m i : Nat) (ch : List Int) (s : List Ja4) (done : List (List Rec)), i + j = l.length → j ≤ m → ch.length ≤ 200 → Jhh key 300 s done →
  Jc2 F fail ex0 ex1 (m + 1) l key ch s6 true done i (Ja5 s, (lgT key done 300, (done, ()))) = K
 | 0, m, i, ch, s, done, hi, _, _, _ => by
  rw [Jc2, Jgd, Jab (ff (by omega)), h1]
 | j + 1, 0, i, _, _, _, _, hm, _, _ => absurd hm (by omega)
 | j + 1, m + 1, i, ch, s, done, hi, hm, hch, ht => by
  have hlt : i < l.length := by omega
  have hmem : l.getD i tc0 ∈ l := by rw [Jdx hlt]; exact List.getElem_mem _
  obtain ⟨p, s', done', ch', e, h', hc', hd⟩ := Qa2 ht hk (l.getD i tc0) (hx _ hmem) ch (by omega)
  obtain ⟨p1, p2, p3, p4⟩ := h'.replay hk (by omega) (by omega)
  have hle : done.length ≤ done'.length ∧ done'.take done.length = done := by
   rcases hd with e | e
   ·rw [e]; exact ⟨Nat.le_refl _, List.take_length⟩
   ·rw [e]; exact ⟨by rw [List.length_append]; omega, List.take_left' rfl⟩
  rw [Jc2, Jgd, Int.toNat_natCast, Jao (by omega) (by omega), Jte]
  have e0 : Jan (Ja5 s, (lgT key done 300, (done, ()))) key (l.getD i tc0) ch = (Ja5 s', (lgT key done' 300, (done', ()))) := by unfold Jan; rw [e]
  have e1 : Jcn (Ja5 s, (lgT key done 300, (done, ()))) key (l.getD i tc0) ch = ch' := by unfold Jcn; rw [e]
  have e2 : Jb6 (Ja5 s, (lgT key done 300, (done, ()))) key (l.getD i tc0) ch = true := by unfold Jb6; rw [e]
  have e3 : ∀ d : DK, Jbg d key = Js2 d key := fun _ => rfl
  refine Jbv (tt (by omega)) (Jbv rfl (Jbv (tt2 (by omega) (by omega)) (Jbv p ?_)))
  change (bif Ji1 (Jan _ key (l.getD i tc0) ch).1 key then bif !(Jb6 _ key (l.getD i tc0) ch) then _ else bif Jg6 (Jan _ key (l.getD i tc0) ch).1 key != 0 then _ else bif decide (((Jbg (Jan _ key (l.getD i tc0) ch).1 key).length : Int) < (done.length : Int)) then _ else bif _ then bif Je8 (List.take done.length (Jbg (Jan _ key (l.getD i tc0) ch).1 key)) done then bif !(Je9 (List.take done.length (Jbg (Jan _ key (l.getD i tc0) ch).1 key)) done) then _ else
   Jc2 F fail ex0 ex1 (m + 1) l key (Jcn _ key (l.getD i tc0) ch) s6 (Jb6 _ key (l.getD i tc0) ch) (Jbg (Jan _ key (l.getD i tc0) ch).1 key) _ (Jan _ key (l.getD i tc0) ch) else _ else _ else _) = _
  rw [e0, e1, e2, e3, p4, hle.2]
  refine Jbv p1 (Jmj rfl (Jmj (Jgi p2) (Jmj (ff (by omega)) (Jbv ?_ (Jbv (show (Jva done && Jva done) = true by rw [ht.sam (by omega)]; rfl) (Jmj (show (!decide (done = done)) = false by rw [tt rfl]; rfl) ?_))))))
  ·exact tt2 (by omega) (by omega)
  ·exact Ksk F fail ex0 ex1 K l key hl hx hk s6 h1 j m (i + 1) ch' s' done' (by omega) (by omega) (by omega) h'
theorem Juo (l : List TcT) (key : Bys) (ch : List Int) (_ : TopLogDurable_P l key ch = true) : ∃ F, ∀ {X : Type} (fail : X) (ret : Bool → X), TopLogDurable F l key ch fail ret = ret (TopLogDurable_r l key ch) := ⟨l.length + 1, fun fail ret => by
 unfold TopLogDurable
 refine Jbv rfl ?_
 cases hf : Jjz l key ch with
 | false => rfl
 | true =>
 obtain ⟨h1, h2, h3, h4⟩ := Kh9.1 hf
 refine Jmj rfl (Jbv rfl ?_)
 exact Ksk (l.length + 1) fail _ _ (ret true) l key h2 (fun x hx => K6l h3 (h1 x hx)) h3 false (fun _ _ _ _ => rfl) l.length l.length 0 ch _ [] (by omega) (by omega) h4 (Jhh.fresh key 300 (by omega))⟩
end Go.AI
