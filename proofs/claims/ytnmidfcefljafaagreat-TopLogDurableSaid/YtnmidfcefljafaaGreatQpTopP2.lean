/- Texts of the proof, joined: TopP2. Names of our own are shortened by program; the long ones stand in wip/. -/
import Derived.Test.YtnmidfcefljafaaGreatQpG
import Derived.Test.YtnmidfcefljafaaGreatQpTopC
namespace Go.AI
open Go
theorem Kdp (_ : Jqo = true) : ∃ F, ∀ {X : Type} (fail : X) (ret : TlT → Bool → X), Kmn F fail ret = ret Jen Jm1 := ⟨0, fun fail ret => by
 obtain ⟨b1, b2, b3, b4, b5, b6⟩ := Knq 300 (by omega) (by omega)
 rw [show ((300 : Nat) : Int) = 300 from rfl] at b1 b2 b3 b4 b5 b6
 unfold Kmn
 rw [b1, b2, b3, b4, b5, b6]; rfl⟩
theorem Kh7 (s : TlT) (key : Bys) (h : Jog s key = true) : ∃ F, ∀ {X : Type} (fail : X) (ret : Bool → X), Kyl F s key fail ret = ret (Joh s key) := ⟨0, fun fail ret => by
 unfold Jog at h
 rw [Bool.and_eq_true] at h
 have hd : s.1.1.length ≤ 1000000 := by
  have h1 := h.1
  unfold Jeu at h1
  rw [Bool.and_eq_true] at h1
  exact (Jdq.1 h1.1).1
 have hs := Ksf s.1 key hd
 unfold Kyl Joh
 rw [Jaa (c := Ji1 s.1 key) h.1, show Jg6 s.1 key = J63 s.1 key from rfl, show Jb5 s.1 key = Jl6 s.1 key from rfl, show Jbg s.1 key = Js2 s.1 key from rfl, K0j]
 by_cases c1 : J63 s.1 key = 0
 ·rw [Jaa (Jmg c1)]
  by_cases c2 : Jl6 s.1 key = s.2.1
  ·rw [Jaa (tt c2)]
   refine Jbv (show (Jva (Js2 s.1 key) && Jva s.2.2.1) = true by rw [hs, h.2]; rfl) (congrArg ret ?_)
   exact decide_eq_decide.2 ⟨fun c3 => ⟨c1, c2, c3⟩, fun c => c.2.2⟩
  ·rw [Jab (ff c2), ff (fun c => c2 c.2.1)]
 ·rw [Jab (Jmt c1), ff (fun c => c1 c.1)]⟩
abbrev tc0 : TcT := ([], (false, ((0 : UInt8), ())))
theorem Ksi {X : Type} (F : Nat) (fail : X) (ex0 ex1 : List TcT → Bys → List Int → Bool → Int → X) (K : Bool → X) (l : List TcT) (key : Bys) (ch : List Int) (h0 : ∀ i, ex0 l key ch false i = K false) (h1 : ∀ e i, ex1 l key ch e i = K (decide (l.length ≤ 16) && (decide (key.length ≤ 64) && decide (ch.length ≤ 200)))) : ∀ (j m i : Nat) (s2 : Bool), i + j = 20 → j ≤ m →
  Jkm F fail ex0 ex1 (m + 1) l key ch s2 i = K (((l.drop i).take j).all (fun x => okT x.1) && (decide (l.length ≤ 16) && (decide (key.length ≤ 64) && decide (ch.length ≤ 200))))
 | 0, m, i, s2, hi, _ => by
  rw [Jkm, Jwq, List.take_zero, List.all_nil, Bool.true_and]
  by_cases c : (i : Int) < (l.length : Int)
  ·rw [Jaa (tt c), Jab (ff (by omega)), h1]
  ·rw [Jab (ff c), h1]
 | j + 1, 0, i, _, _, hm => absurd hm (by omega)
 | j + 1, m + 1, i, s2, hi, hm => by
  have ih := Ksi F fail ex0 ex1 K l key ch h0 h1 j m (i + 1) s2 (by omega) (by omega)
  rw [Jkm, Jwq, Int.toNat_natCast, Jao (by omega) (by omega), Jte]
  by_cases c : i < l.length
  ·rw [Jaa (tt (by omega)), Jaa (tt (by omega)), Jaa (tt2 (by omega) (by omega)), Jcx tc0 c, List.take_succ_cons, List.all_cons]
   change (bif Kq9 (l.getD i tc0).1 then bif !(J3y (l.getD i tc0).1) then _ else bif _ then bif J14 (l.getD i tc0).1 then bif Joe (l.getD i tc0).1 != 0 then _ else _ else _ else _ else _) = _
   generalize (l.getD i tc0).1 = r
   refine Jbv rfl ?_
   cases hf : K9i r with
   | false =>
    have e : okT r = false := by unfold okT; rw [hf]; rfl
    rw [show J3y r = false from hf, Jaa (c := !false) rfl, h0, e]; rfl
   | true =>
    rw [show J3y r = true from hf, Jab (c := !true) rfl]
    refine Jbv (tt2 (by omega) (by omega)) (Jbv rfl ?_)
    by_cases cc : Ke4 r = 0
    ·have e : okT r = true := by unfold okT; rw [hf, tt cc]; rfl
     rw [Jab (Jgi (show Joe r = 0 from cc)), e, ih]; rfl
    ·have e : okT r = false := by unfold okT; rw [ff cc, Bool.and_false]
     rw [Jaa (Jh9 (show Joe r ≠ 0 from cc)), h0, e]; rfl
  ·rw [Jab (ff (by omega)), h1, List.drop_eq_nil_of_le (by omega)]; rfl
theorem Kh8 (l : List TcT) (key : Bys) (ch : List Int) (_ : J15 l key ch = true) : ∃ F, ∀ {X : Type} (fail : X) (ret : Bool → X), Kym F l key ch fail ret = ret (Jjz l key ch) := ⟨21, fun fail ret => by
 unfold Kym Jjz
 refine (Ksi 21 fail _ _ ret l key ch (fun _ => rfl) (fun _ _ => ?_) 20 20 0 false (by omega) (by omega)).trans ?_
 ·by_cases c1 : l.length ≤ 16
  ·rw [Jaa (tt (by omega)), tt c1]
   by_cases c2 : key.length ≤ 64
   ·rw [Jaa (tt (by omega)), tt c2]
    congr 1
    exact decide_eq_decide.2 (by omega)
   ·rw [Jab (ff (by omega)), ff c2]; rfl
  ·rw [Jab (ff (by omega)), ff c1]; rfl
 ·rw [List.drop_zero]
  by_cases c1 : l.length ≤ 16
  ·rw [List.take_of_length_le (by omega)]
  ·rw [ff c1, Bool.false_and, Bool.and_false, Bool.and_false]⟩
theorem Kdq (s : TlT) (key : Bys) (x : TcT) (ch : List Int) (h : Je4 s key x ch = true) : ∃ F, ∀ {X : Type} (fail : X) (ret : TlT → List Int → Bool → X), Kmo F s key x ch fail ret = ret (Jan s key x ch) (Jcn s key x ch) (Jb6 s key x ch) := ⟨0, fun fail ret => by
 unfold Kmo Jan Jcn Jb6
 refine Jbv rfl ?_
 by_cases c0 : J6q s.2.1 key x.1 = 0
 case neg =>
  have e : hC s key x ch = (s, (ch, decide (J6q s.2.1 key x.1 = 11))) := if_pos c0
  rw [e]
  refine Jbv (Jh9 c0) (congrArg (ret s ch) ?_)
  by_cases c : J6q s.2.1 key x.1 = 11
  ·rw [tt c]; exact Jmg c
  ·rw [ff c]; exact Jmt c
 unfold Je4 at h
 rw [tt c0, Bool.not_true, Bool.false_or] at h
 simp only [Bool.and_eq_true, decide_eq_true_eq] at h
 obtain ⟨⟨l1, l2⟩, sw, sx, hr, hi, ho⟩ := h
 have hw : Jva (s.2.2.1 ++ [x.1]) = true := by
  unfold Jva at sw ⊢
  rw [Bool.and_eq_true, decide_eq_true_eq] at sw ⊢
  refine ⟨by rw [List.length_append, List.length_singleton]; omega, ?_⟩
  rw [List.all_append, sw.2]
  show (true && (Kl6 _ && true)) = true
  rw [sx]; rfl
 have hlen : (s.2.2.1 ++ [x.1]).length = s.2.2.1.length + 1 := by rw [List.length_append, List.length_singleton]
 refine Jmj (Jgi c0) (Jbv (Jea (by omega)) (Jbv (Jea (by omega)) ?_))
 rw [show Jac s.2.1 key x.1 = J64 s key x from rfl, show Jkc s.2.1 key x.1 = Kl7 s.2.1 key x.1 from rfl]
 cases c1 : x.2.1 with
 | false =>
  have e : hC s key x ch = (((Jn4 s.1 (J64 s key x)).1, (Kl7 s.2.1 key x.1, (s.2.2.1 ++ [x.1], ()))), (ch, decide ((Jn4 s.1 (J64 s key x)).2.2 = 0))) := by unfold hC; rw [if_neg (by simpa using c0), if_pos c1]
  rw [e]
  refine Jbv rfl (Jbv hr ?_)
  refine congrArg (ret _ ch) ?_
  by_cases c : (Jn4 s.1 (J64 s key x)).2.2 = 0
  ·rw [tt c]; exact Jmg c
  ·rw [ff c]; exact Jmt c
 | true =>
  refine Jmj rfl (Jbv (by rw [Jao (by omega) (by omega)]; exact Jh9 (by omega)) ?_)
  change (bif K7e s.1 (J64 s key x) ch then bif Jeu (hI s key x ch).1 then bif (hI s key x ch).2.2 != 0 then ret s (hI s key x ch).2.1 false else bif J63 (hI s key x ch).1 key != 0 then ret s (hI s key x ch).2.1 false else
   bif Jva (Js2 (hI s key x ch).1 key) && Jva (s.2.2.1 ++ [x.1]) then bif decide (Js2 (hI s key x ch).1 key = s.2.2.1 ++ [x.1]) then bif decide (hK s key x > 0) then
    bif Jct (.pair (.int .i64) (.pair (.int .i64) (.pair (.int .i64) .unit))) (Jl6 (hI s key x ch).1 key) (Kl7 s.2.1 key x.1) then ret ((hI s key x ch).1, (Jl6 (hI s key x ch).1 key, (s.2.2.1 ++ [x.1], ()))) (hI s key x ch).2.1 true
    else bif Jva (Js2 (hI s key x ch).1 key) && Jva s.2.2.1 then bif decide (Js2 (hI s key x ch).1 key = s.2.2.1) then bif decide (hK s key x < (J64 s key x).length) then ret ((hI s key x ch).1, (Jl6 (hI s key x ch).1 key, (s.2.2.1, ()))) (hI s key x ch).2.1 (Jct (.pair (.int .i64) (.pair (.int .i64) (.pair (.int .i64) .unit))) (Jl6 (hI s key x ch).1 key) s.2.1) else ret ((hI s key x ch).1, (Jl6 (hI s key x ch).1 key, (s.2.2.1, ()))) (hI s key x ch).2.1 false else ret ((hI s key x ch).1, (Jl6 (hI s key x ch).1 key, (s.2.2.1, ()))) (hI s key x ch).2.1 false else fail
    else bif Jva (Js2 (hI s key x ch).1 key) && Jva s.2.2.1 then bif decide (Js2 (hI s key x ch).1 key = s.2.2.1) then bif decide (hK s key x < (J64 s key x).length) then ret ((hI s key x ch).1, (Jl6 (hI s key x ch).1 key, (s.2.2.1, ()))) (hI s key x ch).2.1 (Jct (.pair (.int .i64) (.pair (.int .i64) (.pair (.int .i64) .unit))) (Jl6 (hI s key x ch).1 key) s.2.1) else ret ((hI s key x ch).1, (Jl6 (hI s key x ch).1 key, (s.2.2.1, ()))) (hI s key x ch).2.1 false else ret ((hI s key x ch).1, (Jl6 (hI s key x ch).1 key, (s.2.2.1, ()))) (hI s key x ch).2.1 false else fail
    else bif Jva (Js2 (hI s key x ch).1 key) && Jva s.2.2.1 then bif decide (Js2 (hI s key x ch).1 key = s.2.2.1) then bif decide (hK s key x < (J64 s key x).length) then ret ((hI s key x ch).1, (Jl6 (hI s key x ch).1 key, (s.2.2.1, ()))) (hI s key x ch).2.1 (Jct (.pair (.int .i64) (.pair (.int .i64) (.pair (.int .i64) .unit))) (Jl6 (hI s key x ch).1 key) s.2.1) else ret ((hI s key x ch).1, (Jl6 (hI s key x ch).1 key, (s.2.2.1, ()))) (hI s key x ch).2.1 false else ret ((hI s key x ch).1, (Jl6 (hI s key x ch).1 key, (s.2.2.1, ()))) (hI s key x ch).2.1 false else fail
    else fail else fail else fail) = _
  have hd : (hI s key x ch).1.1.length ≤ 1000000 := by
   have h1 := ho
   unfold Jeu at h1
   rw [Bool.and_eq_true] at h1
   exact (Jdq.1 h1.1).1
  have hs := Ksf (hI s key x ch).1 key hd
  have e0 : hC s key x ch = if (hI s key x ch).2.2 ≠ 0 ∨ J63 (hI s key x ch).1 key ≠ 0 then (s, ((hI s key x ch).2.1, false))
    else if Js2 (hI s key x ch).1 key = s.2.2.1 ++ [x.1] ∧ hK s key x > 0 ∧ Jl6 (hI s key x ch).1 key = Kl7 s.2.1 key x.1 then (((hI s key x ch).1, (Jl6 (hI s key x ch).1 key, (s.2.2.1 ++ [x.1], ()))), ((hI s key x ch).2.1, true))
    else (((hI s key x ch).1, (Jl6 (hI s key x ch).1 key, (s.2.2.1, ()))), ((hI s key x ch).2.1, decide (Js2 (hI s key x ch).1 key = s.2.2.1 ∧ hK s key x < (J64 s key x).length ∧ Jl6 (hI s key x ch).1 key = s.2.1))) := by
   unfold hC; rw [if_neg (by simpa using c0), if_neg (by rw [c1]; decide)]
  rw [e0]
  refine Jbv hi (Jbv ho ?_)
  by_cases k1 : (hI s key x ch).2.2 = 0
  case neg => rw [Jaa (Jh9 k1), if_pos (.inl k1)]
  by_cases k2 : J63 (hI s key x ch).1 key = 0
  case neg => rw [Jab (Jgi k1), Jaa (Jh9 k2), if_pos (.inr k2)]
  rw [if_neg (fun c => c.elim (fun c => c k1) (fun c => c k2))]
  refine Jmj (Jgi k1) (Jmj (Jgi k2) (Jbv (by rw [hs, hw]; rfl) ?_))
  simp only [K0j, show (Jva (Js2 (hI s key x ch).1 key) && Jva s.2.2.1) = true by rw [hs, sw]; rfl, cond_true]
  have tail : (bif decide (Js2 (hI s key x ch).1 key = s.2.2.1) then bif decide (hK s key x < (J64 s key x).length) then ret ((hI s key x ch).1, (Jl6 (hI s key x ch).1 key, (s.2.2.1, ()))) (hI s key x ch).2.1 (decide (Jl6 (hI s key x ch).1 key = s.2.1)) else ret ((hI s key x ch).1, (Jl6 (hI s key x ch).1 key, (s.2.2.1, ()))) (hI s key x ch).2.1 false else ret ((hI s key x ch).1, (Jl6 (hI s key x ch).1 key, (s.2.2.1, ()))) (hI s key x ch).2.1 false) =
    ret ((hI s key x ch).1, (Jl6 (hI s key x ch).1 key, (s.2.2.1, ()))) (hI s key x ch).2.1 (decide (Js2 (hI s key x ch).1 key = s.2.2.1 ∧ hK s key x < (J64 s key x).length ∧ Jl6 (hI s key x ch).1 key = s.2.1)) := by
   by_cases q1 : Js2 (hI s key x ch).1 key = s.2.2.1
   ·rw [Jaa (tt q1)]
    by_cases q2 : hK s key x < (J64 s key x).length
    ·rw [Jaa (tt q2)]
     congr 1
     exact decide_eq_decide.2 ⟨fun q3 => ⟨q1, q2, q3⟩, fun q => q.2.2⟩
    ·rw [Jab (ff q2), ff (fun q => q2 q.2.1)]
   ·rw [Jab (ff q1), ff (fun q => q1 q.1)]
  by_cases k3 : Js2 (hI s key x ch).1 key = s.2.2.1 ++ [x.1]
  ·rw [Jaa (tt k3)]
   by_cases k4 : hK s key x > 0
   ·rw [Jaa (tt k4)]
    by_cases k5 : Jl6 (hI s key x ch).1 key = Kl7 s.2.1 key x.1
    ·rw [Jaa (tt k5), if_pos ⟨k3, k4, k5⟩]
    ·rw [Jab (ff k5), if_neg (fun c => k5 c.2.2)]; exact tail
   ·rw [Jab (ff k4), if_neg (fun c => k4 c.2.1)]; exact tail
  ·rw [Jab (ff k3), if_neg (fun c => k3 c.1)]; exact tail⟩
theorem Qa2 {key : Bys} {s : List Ja4} {done : List (List Rec)} (ht : Jhh key 300 s done) (hk : key.length ≤ 64) (x : TcT) (hx : Ke6 key x.1) (ch : List Int) (hch : ch.length ≤ 1000000) :
  Je4 (Ja5 s, (lgT key done 300, (done, ()))) key x ch = true ∧ ∃ s' done' ch', hC (Ja5 s, (lgT key done 300, (done, ()))) key x ch = ((Ja5 s', (lgT key done' 300, (done', ()))), (ch', true)) ∧ Jhh key 300 s' done' ∧ ch'.length ≤ ch.length ∧ (done' = done ∨ done' = done ++ [x.1]) := by
 have hfew := ht.few
 by_cases c0 : J6q (lgT key done 300) key x.1 = 0
 case neg =>
  have e11 : J6q (lgT key done 300) key x.1 = 11 := by
   rcases ht.err (by omega) (by omega) hx with ⟨e, _⟩ | ⟨e, _⟩
   ·exact absurd e c0
   ·exact e
  refine ⟨?_, s, done, ch, ?_, ht, Nat.le_refl _, .inl rfl⟩
  ·unfold Je4
   rw [ff c0]; rfl
  ·unfold hC
   rw [if_pos c0, tt e11]
 obtain ⟨r1, r2, s1, i, r3, r4⟩ := ht.run (by omega) (by omega) hx c0
 have h4 := K4y (lgT key done 300) key x.1
 generalize hS : ((Ja5 s, (lgT key done 300, (done, ()))) : TlT) = S
 have eo : J64 S key x = J30 (lgT key done 300) key x.1 := by rw [← hS]; rfl
 have eK : hK S key x = ((x.2.2.1.toNat % ((J30 (lgT key done 300) key x.1).length + 1) : Nat) : Int) := by
  unfold hK
  rw [eo, Jyd, Jao (by omega) (by omega), J3o (by omega), Jte]; rfl
 have hkle : x.2.2.1.toNat % ((J30 (lgT key done 300) key x.1).length + 1) ≤ (J30 (lgT key done 300) key x.1).length := Nat.le_of_lt_succ (Nat.mod_lt _ (by omega))
 generalize x.2.2.1.toNat % ((J30 (lgT key done 300) key x.1).length + 1) = k at eK hkle
 obtain ⟨s', ch', g1, g2, g3⟩ := ht.int (by omega) (by omega) hx c0 k hkle ch
 have eI : hI S key x ch = (Ja5 s', (ch', 0)) := by
  unfold hI
  rw [eo, eK, ← hS]
  exact g1
 have hm : ∃ m, Jhh key 300 s' m ∧ ((m = done ∧ k ≠ (J30 (lgT key done 300) key x.1).length) ∨ (m = done ++ [x.1] ∧ k ≠ 0)) := by
  rcases g3 with ⟨g, q⟩ | ⟨g, q⟩
  ·exact ⟨_, g, .inl ⟨rfl, q⟩⟩
  ·exact ⟨_, g, .inr ⟨rfl, q⟩⟩
 obtain ⟨m, hm, hc⟩ := hm
 obtain ⟨p1, p2, p3, p4⟩ := hm.replay hk (by omega) (by omega)
 have hP : Je4 S key x ch = true := by
  unfold Je4
  rw [eo, eI, ← hS]
  show (!decide (J6q (lgT key done 300) key x.1 = 0) || (decide (done.length ≤ 1000000 ∧ _) && (Jva done && (Kl6 x.1 && (Kts (Ja5 s) _ && (K7e (Ja5 s) _ ch && Jeu (Ja5 s'))))))) = true
  rw [tt (⟨by omega, by omega⟩ : done.length ≤ 1000000 ∧ (J30 (lgT key done 300) key x.1).length ≤ 1000000), ht.sam (by omega), hx.sam, r1, p1]
  unfold K7e
  rw [r1, tt (show ch.length ≤ 1000000000 by omega), tt c0]; rfl
 refine ⟨hP, ?_⟩
 by_cases c1 : x.2.1 = false
 ·refine ⟨s1, done ++ [x.1], ch, ?_, r4, Nat.le_refl _, .inr rfl⟩
  unfold hC
  rw [eo, ← hS]
  show (if J6q (lgT key done 300) key x.1 ≠ 0 then _ else if x.2.1 = false then (((Jn4 (Ja5 s) (J30 (lgT key done 300) key x.1)).1, (Kl7 (lgT key done 300) key x.1, (done ++ [x.1], ()))), (ch, decide ((Jn4 (Ja5 s) (J30 (lgT key done 300) key x.1)).2.2 = 0))) else _) = _
  rw [if_neg (by simpa using c0), if_pos c1, r3, r2]; rfl
 ·refine ⟨s', m, ch', ?_, hm, g2, ?_⟩
  ·unfold hC
   rw [eo, eI, eK, ← hS]
   show (if J6q (lgT key done 300) key x.1 ≠ 0 then _ else if x.2.1 = false then _ else if (0 : Int) ≠ 0 ∨ J63 (Ja5 s') key ≠ 0 then _ else
    if Js2 (Ja5 s') key = done ++ [x.1] ∧ (k : Int) > 0 ∧ Jl6 (Ja5 s') key = Kl7 (lgT key done 300) key x.1 then ((Ja5 s', (Jl6 (Ja5 s') key, (done ++ [x.1], ()))), (ch', true))
    else ((Ja5 s', (Jl6 (Ja5 s') key, (done, ()))), (ch', decide (Js2 (Ja5 s') key = done ∧ (k : Int) < (J30 (lgT key done 300) key x.1).length ∧ Jl6 (Ja5 s') key = lgT key done 300)))) = _
   rw [if_neg (by simpa using c0), if_neg c1, if_neg (by rw [p2]; simp), p3, p4, r2]
   rcases hc with ⟨e, q⟩ | ⟨e, q⟩
   ·rw [e, if_neg (fun c => K83 done x.1 c.1), tt ⟨rfl, by omega, rfl⟩]
   ·rw [e, if_pos ⟨rfl, by omega, rfl⟩]
  ·rcases hc with ⟨e, _⟩ | ⟨e, _⟩
   ·exact .inl e
   ·exact .inr e
end Go.AI
