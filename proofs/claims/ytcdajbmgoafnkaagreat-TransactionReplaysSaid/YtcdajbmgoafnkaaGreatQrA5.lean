/- Texts of the proof, joined: A5. Names of our own are shortened by program; the long ones stand in wip/. -/
import Derived.Test.YtcdajbmgoafnkaaGreatQrA4
import Derived.Orders
import Derived.DeepKeys
import Derived.DeepKeys3
import Derived.Test.YtcdajbmgoafnkaaGreatQrA2
import Derived.OpenShut
import Derived.Carry
import Derived.ChangeArms
import Derived.Below
import Derived.ChangeSame
import Derived.Test.YtcdajbmgoafnkaaGreatQrA1
namespace Go.AI
open Go Go.RowKit
def Jcw (H H' : List Jaj) (l : List Nat) : Prop := ∀ n, n ∈ l → ASt.obj H n = ASt.obj H' n
section
variable {Γ : Gam} {H H' : List Jaj} {cur cur' : List AV} {nid : Nat}
theorem Jcw.mono {l l' : List Nat} (h : Jcw H H' l) (hl : ∀ n, n ∈ l' → n ∈ l) : Jcw H H' l' := fun n hn => h n (hl n hn)
theorem Kai {v : AV} (h : Jcw H H' v.refs) : Jfw H v = Jfw H' v := by
 cases v with
 | row o => simp only [Jfw, h o (by simp [AV.refs])]
 | sl o i n => simp only [Jfw, h o (by simp [AV.refs])]
 | dat s x => cases s <;> rfl
 | _ => rfl
theorem Jnf {s : Sch} {v : AV} (h : Jcw H H' v.refs) : Jh6 H s v = Jh6 H' s v := by
 have := Kai h
 cases v <;> simp only [Jh6, this]
theorem J57 {s : Sch} {v : AV} (h : Jcw H H' v.refs) : Jhj H s v = Jhj H' s v := by
 unfold Jhj
 split
 ·exact Jnf (fun n hn => by simp [AV.refs] at hn)
 ·exact Jnf h
theorem Qa8 {v : AV} (h : Jcw H H' v.refs) : lenOf H v = lenOf H' v := by
 have := Kai h
 cases v with
 | sl o i n => simp only [lenOf, h o (by simp [AV.refs])]
 | dat s x => cases s <;> simp only [lenOf, this]
 | _ => simp only [lenOf, this]
theorem Kqn (b : Bool) : ∀ (v : AV) (s : Sch), Jcw H H' v.refs → Jb8 b H s v = Jb8 b H' s v := by
 intro v
 induction v with
 | row o =>
  intro s h
  cases s <;> simp only [Jb8]
  rw [h o (by simp [AV.refs]), Jnf (v := .row o) h]
 | sl o i n =>
  intro s h
  cases s <;> simp only [Jb8]
  rw [h o (by simp [AV.refs]), Jnf (v := .sl o i n) h]
 | pr a c iha ihc =>
  intro s h
  cases s <;> simp only [Jb8]
  rw [iha _ (h.mono fun n hn => by simp [AV.refs, hn]), ihc _ (h.mono fun n hn => by simp [AV.refs, hn])]
 | dat t x => intro s h; simp only [Jb8]
 | _ => intro s h; cases s <;> simp only [Jb8]
theorem Kaj {v : AV} (h : Jcw H H' v.refs) : freezes H v = freezes H' v := by
 unfold freezes
 apply List.map_congr_left
 intro o ho
 rw [h o ho]
theorem Kak {s : Sch} {v : AV} (h : Jcw H H' v.refs) : Jj3 H s v = Jj3 H' s v := by
 unfold Jj3
 rw [Kqn false v s h, Kaj h]
theorem Jwa {n : Nat} {ob : Jaj} (h : ASt.obj H n = ASt.obj H' n) (hl : H.length = H'.length) : Jbv H n ob = Jbv H' n ob := by
 unfold Jbv
 rw [h, hl]
def Kh3 (cur : List AV) (l : List Operand) : List Nat := l.flatMap fun x => (Jcq cur x).refs
theorem Ji1 {l : List Operand} {x : Operand} (hx : x ∈ l) {n : Nat} (hn : n ∈ (Jcq cur x).refs) : n ∈ Kh3 cur l := List.mem_flatMap.2 ⟨x, hx, hn⟩
theorem Jt6 (s : Sch) : ∀ (parts : List (Nat × Operand)) (xs : List s.T) (U : Upd), (∀ x, x ∈ parts.map (·.2) → Jcq cur x = Jcq cur' x) → Jcw H H' (Kh3 cur (parts.map (·.2))) → Jh2 s cur H parts xs U = Jh2 s cur' H' parts xs U
 | [], _, _, _, _ => rfl
 | (i, x) :: r, xs, U, hc, h => by
  have hx := hc x (by simp)
  simp only [Jh2, ← hx]
  rw [Kak (H := H) (H' := H') (h.mono fun n hn => Ji1 (x := x) (by simp) hn)]
  cases Jj3 H' s (Jcq cur x) with
  | none => rfl
  | some y =>
   obtain ⟨y, V⟩ := y
   simp only
   split
   ·exact Jt6 s r _ _ (fun z hz => hc z (by simp at hz ⊢; exact .inr hz)) (h.mono fun n hn => by
     obtain ⟨z, hz, hn⟩ := List.mem_flatMap.1 hn
     exact Ji1 (x := z) (by simp at hz ⊢; exact .inr hz) hn)
   ·rfl
theorem J07 (fs : List (Nat × TypeId)) : ∀ (parts : List (Nat × Operand)) (v : AV), (∀ x, x ∈ parts.map (·.2) → Jcq cur x = Jcq cur' x) → Jgn Γ cur fs parts v = Jgn Γ cur' fs parts v
 | [], _, _ => rfl
 | (k, x) :: r, v, hc => by
  have hx := hc x (by simp)
  simp only [Jgn, ← hx]
  have ih := fun v => J07 fs r v (fun z hz => hc z (by simp at hz ⊢; exact .inr hz))
  have : Jgn Γ cur fs r = Jgn Γ cur' fs r := funext ih
  rw [this]
theorem Kxt {t : TypeId} {x y : AV} (hx : Jcw H H' x.refs) (hy : Jcw H H' y.refs) (hn : ASt.obj H nid = ASt.obj H' nid) (hl : H.length = H'.length) : J3v Γ t x y H nid = J3v Γ t x y H' nid := by
 unfold J3v
 cases Γ.elem t with
 | none => rfl
 | some es =>
  obtain ⟨E, s⟩ := es
  simp only
  rw [J57 hy]
  cases Jhj H' s y with
  | none => rfl
  | some ys =>
   simp only
   have hnew : ∀ ob, Jbv H nid ob = Jbv H' nid ob := fun ob => Jwa hn hl
   cases x with
   | row o =>
    simp only [hx o (by simp [AV.refs]), hnew]
   | _ => simp only [hnew]
theorem Qa9 {t : TypeId} {x y : AV} (hx : Jcw H H' x.refs) (hy : Jcw H H' y.refs) : K53 Γ t x y H = K53 Γ t x y H' := by
 unfold K53
 cases Γ.elem t with
 | none => rfl
 | some es =>
  obtain ⟨E, s⟩ := es
  simp only
  rw [J57 hy]
  cases Jhj H' s y with
  | none => rfl
  | some ys =>
   cases x with
   | row o => simp only [hx o (by simp [AV.refs])]
   | sl o i n => simp only [hx o (by simp [AV.refs])]
   | _ => rfl
theorem Qba {t : TypeId} {x : AV} (hx : Jcw H H' x.refs) : Kpp Γ t x H = Kpp Γ t x H' := by
 cases x with
 | ptr o p => simp only [Kpp, hx o (by simp [AV.refs])]
 | _ => rfl
theorem K6l {t : TypeId} {x u : AV} (hx : Jcw H H' x.refs) (hu : Jcw H H' u.refs) : J9q Γ t x u H = J9q Γ t x u H' := by
 cases x with
 | ptr o p => simp only [J9q, hx o (by simp [AV.refs]), Kak hu]
 | _ => rfl
theorem Ke9 {t : TypeId} {x i : AV} (hx : Jcw H H' x.refs) : Jgd Γ t x i H = Jgd Γ t x i H' := by
 cases x with
 | ptr o p => simp only [Jgd, hx o (by simp [AV.refs])]
 | row o => simp only [Jgd, hx o (by simp [AV.refs])]
 | sl o a n => simp only [Jgd, hx o (by simp [AV.refs])]
 | dat s x => cases s <;> simp only [Jgd]
 | vptr s x => cases s <;> simp only [Jgd]
 | _ => rfl
theorem Kfa {t : TypeId} {x : AV} {f : Nat} (hx : Jcw H H' x.refs) : Jmm Γ t x f H = Jmm Γ t x f H' := by
 cases x with
 | ptr o p => simp only [Jmm, hx o (by simp [AV.refs])]
 | _ => rfl
theorem Kqo {s d : TypeId} {x : AV} (hx : Jcw H H' x.refs) (hn : ASt.obj H nid = ASt.obj H' nid) (hl : H.length = H'.length) : Jv0 Γ s d x H nid = Jv0 Γ s d x H' nid := by
 have hnew : ∀ ob, Jbv H nid ob = Jbv H' nid ob := fun ob => Jwa hn hl
 have he := fun s => Jnf (s := s) hx
 unfold Jv0
 cases Γ.at_ d with
 | none => rfl
 | some td =>
  simp only
  split
  ·rfl
  ·split
   ·rfl
   ·rfl
   ·simp only [hnew]
   ·rename_i o _
    rw [hx o (by simp [AV.refs])]
   ·simp only [he]
   ·rfl
theorem K6m {t : TypeId} {x : AV} {lo hi mx : Option AV} (hx : Jcw H H' x.refs) : J52 Γ H t x lo hi mx = J52 Γ H' t x lo hi mx := by
 cases x with
 | row o => simp only [J52, hx o (by simp [AV.refs])]
 | sl o a n => simp only [J52, hx o (by simp [AV.refs])]
 | dat s x => cases s <;> simp only [J52]
 | _ => rfl
theorem Kxu {t : TypeId} {z : Bool} {x hi mx : AV} {lo : Option AV} (hx : Jcw H H' x.refs) : Jtx Γ H t z x lo hi mx = Jtx Γ H' t z x lo hi mx := by
 cases x with
 | row o => simp only [Jtx, hx o (by simp [AV.refs])]
 | sl o a n => simp only [Jtx, hx o (by simp [AV.refs])]
 | dat s x => cases s <;> simp only [Jtx]
 | _ => rfl
theorem Kxv {t : TypeId} {z : Bool} {x : AV} {lo hi mx : Option AV} (hx : Jcw H H' x.refs) : Jyx Γ H t z x lo hi mx = Jyx Γ H' t z x lo hi mx := by
 unfold Jyx
 cases mx with
 | some m =>
  cases hi with
  | none => rfl
  | some h => exact Kxu hx
 | none =>
  simp only
  split
  ·rename_i o
   simp only [Kkn, hx o (by simp [AV.refs])]
  ·exact K6m hx
theorem K6n {t : TypeId} {x : AV} (hx : Jcw H H' x.refs) : Khm Γ t x H = Khm Γ t x H' := by
 unfold Khm
 cases Γ.elem t with
 | none => rfl
 | some es =>
  obtain ⟨E, s⟩ := es
  simp only
  cases x with
  | row o => simp only [hx o (by simp [AV.refs])]
  | sl o i n => simp only [hx o (by simp [AV.refs])]
  | _ => rfl
theorem Jgp {vs : List AV} {v : AV} (hv : v ∈ vs) {n : Nat} (hn : n ∈ v.refs) : n ∈ vs.flatMap AV.refs := List.mem_flatMap.2 ⟨v, hv, hn⟩
theorem Kqp {b : Builtin} {ts : List TypeId} {xs : List AV} (hx : Jcw H H' (xs.flatMap AV.refs)) (hn : b = .append → ASt.obj H nid = ASt.obj H' nid) (hl : H.length = H'.length) : Jv1 Γ b ts xs H nid = Jv1 Γ b ts xs H' nid := by
 unfold Jv1
 split
 ·rename_i x
  rw [Qa8 (hx.mono fun n hn => Jgp (by simp) hn)]
 ·rename_i x y
  rw [Kxt (hx.mono fun n hn => Jgp (by simp) hn) (hx.mono fun n hn => Jgp (v := y) (by simp) hn) (hn rfl) hl]
 ·rename_i x y
  exact Qa9 (hx.mono fun n hn => Jgp (by simp) hn) (hx.mono fun n hn => Jgp (v := y) (by simp) hn)
 ·rename_i x
  exact K6n (hx.mono fun n hn => Jgp (by simp) hn)
 ·rfl
 ·rfl
 ·rfl
theorem Qbb {fresh : Bool} {m : PM} {v : AV} (h : Jcw H H' v.refs) : Jrb fresh H m v = Jrb fresh H' m v := by
 cases m with
 | d s => simp only [Jrb, Kqn fresh v s h, Kaj h]
 | o E s =>
  cases v with
  | row o => simp only [Jrb, h o (by simp [AV.refs])]
  | _ => rfl
 | f => cases v with
  | fn g cp => cases cp <;> rfl
  | _ => rfl
theorem Kh4 {fresh : Bool} : ∀ (ms : List PM) (vs : List AV), Jcw H H' (vs.flatMap AV.refs) → Jj0 fresh H ms vs = Jj0 fresh H' ms vs
 | [], [], _ => rfl
 | [], _ :: _, _ => rfl
 | _ :: _, [], _ => rfl
 | m :: ms, v :: vs, h => by
  simp only [Jj0]
  rw [Qbb (h.mono fun n hn => Jgp (by simp) hn), Kh4 ms vs (h.mono fun n hn => by
   obtain ⟨x, hx, hn⟩ := List.mem_flatMap.1 hn
   exact Jgp (List.mem_cons_of_mem _ hx) hn)]
theorem Jwb (hl : H.length = H'.length) : ∀ (rs : List BV) (nid : Nat), (∀ j, j < K24 rs → ASt.obj H (nid + j) = ASt.obj H' (nid + j)) → Jj1 H rs nid = Jj1 H' rs nid
 | [], _, _ => rfl
 | .d s x :: rs, nid, h => by simp only [Jj1, Jwb hl rs nid h]
 | .f g :: rs, nid, h => by simp only [Jj1, Jwb hl rs nid h]
 | .o E s xs :: rs, nid, h => by
  simp only [Jj1]
  have h0 : ASt.obj H nid = ASt.obj H' nid := h 0 (by simp [K24])
  rw [Jwa h0 hl, Jwb hl rs (nid + 1) (fun j hj => by
   have := h (j + 1) (by simp only [K24, List.filter_cons_of_pos, List.length_cons] at hj ⊢; omega)
   rwa [show nid + (j + 1) = nid + 1 + j by omega] at this)]
theorem Qh2 {k : Orc} {as : List AV} (h : Jcw H H' (as.flatMap AV.refs)) (hn : ∀ j, j < k.rows → ASt.obj H (nid + j) = ASt.obj H' (nid + j)) (hl : H.length = H'.length) : Qnw k as H nid = Qnw k as H' nid := by
 unfold Qnw
 rw [Kh4 k.ps as h]
 split
 ·split
  ·split
   ·rename_i pre rs _
    split
    ·rename_i hc
     rw [Jwb hl rs nid (fun j hj => hn j (by omega))]
    ·rfl
   ·rfl
  ·rfl
 ·rfl
theorem Kh5 : ∀ (parts : List (Nat × Operand)) (fs : List (Option FuncId)), (∀ x, x ∈ parts.map (·.2) → Jcq cur x = Jcq cur' x) → J0j cur parts fs = J0j cur' parts fs
 | [], _, _ => rfl
 | (i, x) :: r, fs, h => by
  simp only [J0j, h x (by simp)]
  split
  ·split
   ·exact Kh5 r _ (fun y hy => h y (by simp only [List.map_cons, List.mem_cons]; exact .inr hy))
   ·rfl
  ·rfl
theorem Klb {l : List Operand} (h : ∀ x, x ∈ l → Jcq cur x = Jcq cur' x) : l.map (Jcq cur) = l.map (Jcq cur') := List.map_congr_left h
set_option linter.unusedVariables false in
theorem Kxw {mv : Bool} {t : TypeId} {m x : AV} {ok : Bool} (h : Jcw H H' m.refs) (hn : ∀ ob, Jbv H nid ob = Jbv H' nid ob) : J9r mv Γ t m x ok H nid = J9r mv Γ t m x ok H' nid := rfl
set_option linter.unusedVariables false in
theorem Kfb {t : TypeId} {m x u : AV} (h : Jcw H H' m.refs) (hu : Jcw H H' u.refs) : Jpz Γ t m x u H = Jpz Γ t m x u H' := rfl
theorem Qle {mv : Bool} {o : Op} (hc : ∀ x, x ∈ o.operands.toList → Jcq cur x = Jcq cur' x) (hr : Jcw H H' (Kh3 cur o.operands.toList)) {orc : Joq} (hn : 0 < Jh7 orc o → ASt.obj H nid = ASt.obj H' nid) (hl : H.length = H'.length) : aop mv Γ o cur H nid = aop mv Γ o cur' H' nid := by
 have one : ∀ x, x ∈ o.operands.toList → Jcw H H' (Jcq cur x).refs := fun x hx => hr.mono fun n hn => Ji1 hx hn
 have hnew : 0 < Jh7 orc o → ∀ ob, Jbv H nid ob = Jbv H' nid ob := fun h ob => Jwa (hn h) hl
 cases o with
 | move x => simp only [aop, hc x (by simp [Op.operands])]
 | assign x => simp only [aop, hc x (by simp [Op.operands])]
 | pick p x y => simp only [aop, hc p (by simp [Op.operands]), hc x (by simp [Op.operands]), hc y (by simp [Op.operands])]
 | alloc t => simp only [aop, hnew (by simp [Jh7])]
 | box t x => simp only [aop, hc x (by simp [Op.operands]), hnew (by simp [Jh7])]
 | build t parts =>
  have hp : ∀ x, x ∈ parts.toList.map (·.2) → Jcq cur x = Jcq cur' x := fun x hx => hc x (by simpa [Op.operands] using hx)
  have hb := fun fs z => J07 (Γ := Γ) fs parts.toList z hp
  have hs : Jcw H H' (Kh3 cur (parts.toList.map (·.2))) := by simpa [Op.operands] using hr
  have ha := fun s xs U => Jt6 s parts.toList xs U hp hs
  have hf := fun fs => Kh5 parts.toList fs hp
  simp only [aop, hb, ha, hf]
 | buildSlice t n parts =>
  have hp : ∀ x, x ∈ parts.toList.map (·.2) → Jcq cur x = Jcq cur' x := fun x hx => hc x (by simpa [Op.operands] using hx)
  have hs : Jcw H H' (Kh3 cur (parts.toList.map (·.2))) := by simpa [Op.operands] using hr
  have ha := fun s xs U => Jt6 s parts.toList xs U hp hs
  simp only [aop, ha, hnew (by simp [Jh7])]
 | load t x => simp only [aop, ← hc x (by simp [Op.operands])]; exact Qba (one x (by simp [Op.operands]))
 | store t x y => simp only [aop, ← hc x (by simp [Op.operands]), ← hc y (by simp [Op.operands])]; exact K6l (one x (by simp [Op.operands])) (one y (by simp [Op.operands]))
 | nilCheck x =>
  have h1 := one x (by simp [Op.operands])
  simp only [aop, ← hc x (by simp [Op.operands])]
  generalize Jcq cur x = v at h1
  cases v with
  | ptr o p => simp only [h1 o (by simp [AV.refs])]
  | _ => rfl
 | binOp op t x y z => simp only [aop, hc x (by simp [Op.operands]), hc y (by simp [Op.operands])]
 | unOp op t x => simp only [aop, hc x (by simp [Op.operands])]
 | convert s d x => simp only [aop, ← hc x (by simp [Op.operands])]; exact Kqo (one x (by simp [Op.operands])) (hn (by simp [Jh7])) hl
 | makeFunc f first caps =>
  cases f with
  | func f =>
   have hp : ∀ x, x ∈ caps.toList → Jcq cur x = Jcq cur' x := fun x hx => hc x (by simp [Op.operands]; exact .inr (by simpa using hx))
   have e1 : caps.toList.all (fun x => !(Jcq cur x).isTup) = caps.toList.all (fun x => !(Jcq cur' x).isTup) := by
    rw [Bool.eq_iff_iff, List.all_eq_true, List.all_eq_true]
    constructor <;> (intro h x hx; have := h x hx; rw [hp x hx] at *; exact this)
   have hq : ∀ x, x ∈ first.toList → Jcq cur x = Jcq cur' x := fun x hx => hc x (by simp [Op.operands]; exact .inl (by simpa using hx))
   have e3 : first.toList.all (fun x => !(Jcq cur x).isTup) = first.toList.all (fun x => !(Jcq cur' x).isTup) := by
    rw [Bool.eq_iff_iff, List.all_eq_true, List.all_eq_true]
    constructor <;> (intro h x hx; have := h x hx; rw [hq x hx] at *; exact this)
   have e4 : first.toList.foldr (fun x r => AV.pr (Jcq cur x) r) .un = first.toList.foldr (fun x r => AV.pr (Jcq cur' x) r) .un := by
    have := Klb hq
    have k : ∀ c, first.toList.foldr (fun x r => AV.pr (Jcq c x) r) .un = (first.toList.map (Jcq c)).foldr .pr .un := fun c => by rw [List.foldr_map]
    rw [k, k, this]
   have e2 : caps.toList.foldr (fun x r => AV.pr (Jcq cur x) r) .un = caps.toList.foldr (fun x r => AV.pr (Jcq cur' x) r) .un := by
    have := Klb hp
    have k : ∀ c, caps.toList.foldr (fun x r => AV.pr (Jcq c x) r) .un = (caps.toList.map (Jcq c)).foldr .pr .un := fun c => by rw [List.foldr_map]
    rw [k, k, this]
   simp only [aop, e1, e2, e3, e4]
  | _ => rfl
 | makeInterface t x => simp only [aop, hc x (by simp [Op.operands])]
 | range t x => simp only [aop, hc x (by simp [Op.operands]), hnew (by simp [Jh7])]
 | makeSlice t l cp => simp only [aop, Qg6, hc l (by simp [Op.operands]), hc cp (by simp [Op.operands]), hnew (by simp [Jh7])]
 | slice t x lo hi mx =>
  have h1 : ∀ y : Option Operand, (∀ z, y = some z → Jcq cur z = Jcq cur' z) → y.map (Jcq cur) = y.map (Jcq cur') := by
   intro y hy
   cases y with
   | none => rfl
   | some z => simp [hy z rfl]
  simp only [aop, ← hc x (by simp [Op.operands]), ← h1 lo (fun z hz => hc z (by simp [Op.operands, hz])), ← h1 hi (fun z hz => hc z (by simp [Op.operands, hz])), ← h1 mx (fun z hz => hc z (by simp [Op.operands, hz]))]
  rw [Kxv (one x (by simp [Op.operands]))]
 | fieldAddr t x f => simp only [aop, ← hc x (by simp [Op.operands])]; rw [Kfa (one x (by simp [Op.operands]))]
 | field t x f => simp only [aop, hc x (by simp [Op.operands])]
 | indexAddr t x i => simp only [aop, ← hc x (by simp [Op.operands]), ← hc i (by simp [Op.operands])]; exact Ke9 (one x (by simp [Op.operands]))
 | index t x i => simp only [aop, hc x (by simp [Op.operands]), hc i (by simp [Op.operands])]
 | extract x i => simp only [aop, hc x (by simp [Op.operands])]
 | makeMap t r =>
  cases r with
  | none => rfl
  | some _ => rfl
 | lookup t m x ok =>
  simp only [aop, ← hc m (by simp [Op.operands]), ← hc x (by simp [Op.operands])]
  exact Kxw (one m (by simp [Op.operands])) (hnew (by simp [Jh7]))
 | mapUpdate t m x u =>
  simp only [aop, ← hc m (by simp [Op.operands]), ← hc x (by simp [Op.operands]), ← hc u (by simp [Op.operands])]
  exact Kfb (one m (by simp [Op.operands])) (one u (by simp [Op.operands]))
 | call cl =>
  obtain ⟨callee, args, ts⟩ := cl
  cases callee with
  | builtin b =>
   have hp : ∀ x, x ∈ args.toList → Jcq cur x = Jcq cur' x := fun x hx => hc x (by simp [Op.operands, Call.operands]; simpa using hx)
   simp only [aop, ← Klb hp]
   refine Kqp (hr.mono fun n hn => ?_) (fun e => hn (by subst e; simp [Jh7])) hl
   obtain ⟨v, hv, hn⟩ := List.mem_flatMap.1 hn
   obtain ⟨x, hx, rfl⟩ := List.mem_map.1 hv
   exact Ji1 (x := x) (by simp [Op.operands, Call.operands]; simpa using hx) hn
  | _ => rfl
 | _ => rfl
theorem Jt7 : ∀ {c : AV} {vs : List AV}, unchain c = some vs → ∀ n, n ∈ vs.flatMap AV.refs → n ∈ c.refs
 | .un, vs, h, n, hn => by simp only [unchain, Option.some.injEq] at h; subst h; simp at hn
 | .pr a b, vs, h, n, hn => by
  simp only [unchain] at h
  cases hb : unchain b with
  | none => rw [hb] at h; cases h
  | some l =>
   rw [hb] at h; cases h
   rw [List.flatMap_cons, List.mem_append] at hn
   rcases hn with hn | hn
   ·exact List.mem_append_left _ hn
   ·exact List.mem_append_right _ (Jt7 hb n hn)
 | .dat _ _, _, h, _, _ => by simp [unchain] at h
 | .slx _ _, _, h, _, _ => by simp [unchain] at h
 | .nils, _, h, _, _ => by simp [unchain] at h
 | .emp, _, h, _, _ => by simp [unchain] at h
 | .row _, _, h, _, _ => by simp [unchain] at h
 | .sl _ _ _, _, h, _, _ => by simp [unchain] at h
 | .vptr _ _, _, h, _, _ => by simp [unchain] at h
 | .ptr _ _, _, h, _, _ => by simp [unchain] at h
 | .fn _ _, _, h, _, _ => by simp [unchain] at h
 | .nilfn, _, h, _, _ => by simp [unchain] at h
 | .hnd _ _, _, h, _, _ => by simp [unchain] at h
 | .mv _ _, _, h, _, _ => by simp [unchain] at h
 | .ifc _, _, h, _, _ => by simp [unchain] at h
 | .nilp, _, h, _, _ => by simp [unchain] at h
 | .nilm, _, h, _, _ => by simp [unchain] at h
 | .fns _, _, h, _, _ => by simp [unchain] at h
 | .fsel _ _, _, h, _, _ => by simp [unchain] at h
 | .pk _ _, _, h, _, _ => by simp [unchain] at h
 | .tup _, _, h, _, _ => by simp [unchain] at h
 | .dead, _, h, _, _ => by simp [unchain] at h
theorem Qbc {mv : Bool} {o : Op} {orc : Joq} (hc : ∀ x, x ∈ o.operands.toList → Jcq cur x = Jcq cur' x) (hr : Jcw H H' (Kh3 cur o.operands.toList)) (hn : ∀ j, j < Jh7 orc o → ASt.obj H (nid + j) = ASt.obj H' (nid + j)) (hl : H.length = H'.length) : Jl0 mv Γ orc o cur H nid = Jl0 mv Γ orc o cur' H' nid := by
 have hn0 : 0 < Jh7 orc o → ASt.obj H nid = ASt.obj H' nid := fun h => hn 0 h
 unfold Jl0
 split
 ·rename_i f args ts
  have hp : ∀ x, x ∈ args.toList → Jcq cur x = Jcq cur' x := fun x hx => hc x (by simp [Op.operands, Call.operands]; exact .inr (by simpa using hx))
  have hf : Jcq cur f = Jcq cur' f := hc f (by simp [Op.operands, Call.operands])
  have e : Jlz cur f (args.toList.map (Jcq cur)) = Jlz cur' f (args.toList.map (Jcq cur')) := by
   unfold Jlz
   rw [← hf, Klb hp]
  rw [← e]
  split
  ·rename_i g as hca
   split
   ·rename_i k hk
    split
    ·rename_i hrows
     refine Qh2 (hr.mono fun n hn => ?_) (fun j hj => hn j (by omega)) hl
     unfold Jlz at hca
     split at hca
     ·rename_i g' caps hfc
      cases hu : unchain caps with
      | none => rw [hu] at hca; cases hca
      | some cs =>
       rw [hu] at hca
       cases hca
       rw [List.flatMap_append, List.mem_append] at hn
       rcases hn with hn | hn
       ·obtain ⟨v, hv, hn⟩ := List.mem_flatMap.1 hn
        obtain ⟨x, hx, rfl⟩ := List.mem_map.1 hv
        exact Ji1 (x := x) (by simp [Op.operands, Call.operands]; exact .inr (by simpa using hx)) hn
       ·exact Ji1 (x := f) (by simp [Op.operands, Call.operands]) (by rw [hfc]; exact Jt7 hu n hn)
     ·rename_i g' fst hfc
      cases hu : unchain fst with
      | none => rw [hu] at hca; cases hca
      | some cs =>
       rw [hu] at hca
       cases hca
       rw [List.flatMap_append, List.mem_append] at hn
       rcases hn with hn | hn
       ·exact Ji1 (x := f) (by simp [Op.operands, Call.operands]) (by rw [hfc]; exact Jt7 hu n hn)
       ·obtain ⟨v, hv, hn⟩ := List.mem_flatMap.1 hn
        obtain ⟨x, hx, rfl⟩ := List.mem_map.1 hv
        exact Ji1 (x := x) (by simp [Op.operands, Call.operands]; exact .inr (by simpa using hx)) hn
     ·cases hca
    ·rfl
   ·rfl
  ·rfl
 ·exact Qle hc hr hn0 hl
theorem Kxx {o : Op} (hc : ∀ x, x ∈ o.operands.toList → Jcq cur x = Jcq cur' x) : J0m cur o = J0m cur' o := by
 unfold J0m
 split
 ·rfl
 ·rfl
 ·rw [List.flatMap_def, List.flatMap_def, List.map_congr_left (fun x hx => by rw [hc x hx])]
theorem K6o {mv : Bool} {o : Op} {orc : Joq} (hc : ∀ x, x ∈ o.operands.toList → Jcq cur x = Jcq cur' x) (hr : Jcw H H' (J0m cur o)) (hn : ∀ j, j < Jh7 orc o → ASt.obj H (nid + j) = ASt.obj H' (nid + j)) (hl : H.length = H'.length) : Jl0 mv Γ orc o cur H nid = Jl0 mv Γ orc o cur' H' nid := by
 cases o with
 | move x => simp only [Jl0, aop, hc x (by simp [Op.operands])]
 | assign x => simp only [Jl0, aop, hc x (by simp [Op.operands])]
 | _ => exact Qbc hc hr hn hl
end
end Go.AI
namespace Go.AI
open Go Go.RowKit
structure Eff where
 dst : Option Tmp
 v : AV
 U : Upd
 deriving Inhabited
def Eff.app (e : Eff) (s : List AV × List Jaj) : List AV × List Jaj := (Jc0 s.1 e.dst e.v, upd s.2 e.U)
def Jgl : List Eff → (Nat → Bool) → Nat → List AV × List Jaj → List AV × List Jaj
 | [], _, _, s => s
 | e :: es, D, i, s => Jgl es D (i + 1) (if D i then e.app s else s)
theorem Kal (e : Eff) (s : List AV × List Jaj) : (e.app s).1.length = s.1.length ∧ (e.app s).2.length = s.2.length := by
 refine ⟨?_, Jrl _ _⟩
 unfold Eff.app Jc0
 cases e.dst <;> simp
theorem Kam : ∀ (es : List Eff) (D : Nat → Bool) (i : Nat) (s : List AV × List Jaj), (Jgl es D i s).1.length = s.1.length ∧ (Jgl es D i s).2.length = s.2.length
 | [], _, _, _ => ⟨rfl, rfl⟩
 | e :: es, D, i, s => by
  simp only [Jgl]
  obtain ⟨h1, h2⟩ := Kam es D (i + 1) (if D i then e.app s else s)
  obtain ⟨g1, g2⟩ := Kal e s
  rw [h1, h2]
  split <;> simp [g1, g2]
def Qh3 (e f : Eff) : Prop := (∀ d, e.dst = some d → f.dst ≠ some d) ∧ ∀ x, x ∈ e.U → ∀ y, y ∈ f.U → x.1 ≠ y.1
theorem Qbd (o : Nat) (ob : Jaj) : ∀ (U : Upd) (H : List Jaj), (∀ y, y ∈ U → o ≠ y.1) → upd (H.set o ob) U = (upd H U).set o ob
 | [], _, _ => rfl
 | y :: U, H, h => by
  show upd ((H.set o ob).set y.1 y.2) U = (upd (H.set y.1 y.2) U).set o ob
  rw [List.set_comm _ _ (h y List.mem_cons_self)]
  exact Qbd o ob U _ (fun z hz => h z (List.mem_cons_of_mem _ hz))
theorem K3s : ∀ (U V : Upd) (H : List Jaj), (∀ x, x ∈ U → ∀ y, y ∈ V → x.1 ≠ y.1) → upd (upd H U) V = upd (upd H V) U
 | [], _, _, _ => rfl
 | x :: U, V, H, h => by
  show upd (upd (H.set x.1 x.2) U) V = upd ((upd H V).set x.1 x.2) U
  rw [K3s U V _ (fun z hz => h z (List.mem_cons_of_mem _ hz)), Qbd x.1 x.2 V H (h x List.mem_cons_self)]
theorem Qh4 {e f : Eff} (h : Qh3 e f) (s : List AV × List Jaj) : f.app (e.app s) = e.app (f.app s) := by
 unfold Eff.app
 simp only
 rw [K3s _ _ _ h.2]
 congr 1
 unfold Jc0
 cases he : e.dst with
 | none => rfl
 | some d =>
  cases hf : f.dst with
  | none => rfl
  | some d' =>
   simp only
   exact List.set_comm _ _ (fun e1 => h.1 d he (by rw [hf, e1]))
theorem Kh6 {e0 : Eff} : ∀ (es : List Eff) (D : Nat → Bool) (i : Nat) (s : List AV × List Jaj), (∀ j e, es[j]? = some e → D (i + j) = true → Qh3 e0 e) → Jgl es D i (e0.app s) = e0.app (Jgl es D i s)
 | [], _, _, _, _ => rfl
 | e :: es, D, i, s, h => by
  simp only [Jgl]
  have ih := fun s => Kh6 es D (i + 1) s (fun j f hj hD => h (j + 1) f (by simpa using hj) (by rwa [show i + (j + 1) = i + 1 + j by omega]))
  cases hD : D i with
  | false => simp only [Bool.false_eq_true, if_false]; exact ih s
  | true =>
   simp only [if_true]
   rw [Qh4 (h 0 e rfl (by simpa using hD)), ih]
theorem Kqq {e0 : Eff} {D D' : Nat → Bool} {k : Nat} (hD : D k = false) (hD' : ∀ j, D' j = (D j || j == k)) : ∀ (es : List Eff) (i : Nat) (s : List AV × List Jaj), i ≤ k → es[k - i]? = some e0 → (∀ j e, es[j]? = some e → k < i + j → D (i + j) = true → Qh3 e0 e) →
    Jgl es D' i s = e0.app (Jgl es D i s)
  | [], i, s, _, h0, _ => by simp at h0
  | e :: es, i, s, hik, h0, ha => by
    simp only [Jgl]
    by_cases h : i = k
    · subst h
      rw [Nat.sub_self] at h0
      simp only [List.getElem?_cons_zero, Option.some.injEq] at h0
      subst h0
      have h1 : D' i = true := by rw [hD']; simp
      rw [h1, hD]
      simp only [if_true, Bool.false_eq_true, if_false]
      have same : ∀ (es : List Eff) (m : Nat) (s : List AV × List Jaj), i < m → Jgl es D' m s = Jgl es D m s := by
        intro es
        induction es with
        | nil => intro m s _; rfl
        | cons f es ih =>
          intro m s hm
          have : D' m = D m := by rw [hD']; have : (m == i) = false := by simpa using Nat.ne_of_gt hm
                                  rw [this, Bool.or_false]
          simp only [Jgl, this]
          exact ih (m + 1) _ (by omega)
      rw [same es (i + 1) _ (by omega)]
      exact Kh6 es D (i + 1) s (fun j f hj hDj => ha (j + 1) f (by simpa using hj) (by omega) (by rwa [show i + (j + 1) = i + 1 + j by omega]))
    · have h1 : D' i = D i := by
        rw [hD']
        have : (i == k) = false := by simpa using h
        rw [this, Bool.or_false]
      rw [h1]
      refine Kqq hD hD' es (i + 1) _ (by omega) ?_ (fun j f hj hlt hDj => ha (j + 1) f (by simpa using hj) (by omega) (by rwa [show i + (j + 1) = i + 1 + j by omega]))
      have e1 : k - i = (k - (i + 1)) + 1 := by omega
      rw [e1] at h0
      simpa using h0
theorem Kh7 {t : Nat} : ∀ (es : List Eff) (D D' : Nat → Bool) (i : Nat) (s s' : List AV × List Jaj), s.1.length = s'.1.length → s.1.getD t .dead = s'.1.getD t .dead → (∀ j e, es[j]? = some e → e.dst = some t → D (i + j) = D' (i + j)) → (Jgl es D i s).1.getD t .dead = (Jgl es D' i s').1.getD t .dead
 | [], _, _, _, _, _, _, h, _ => h
 | e :: es, D, D', i, s, s', hl, h, hd => by
  simp only [Jgl]
  have other : ∀ (u : List AV × List Jaj), e.dst ≠ some t → (e.app u).1.getD t .dead = u.1.getD t .dead := by
   intro u hne
   unfold Eff.app Jc0
   cases hdst : e.dst with
   | none => rfl
   | some d =>
    have : d ≠ t := fun e1 => hne (by rw [hdst, e1])
    simp [List.getD, List.getElem?_set_ne this]
  refine Kh7 es D D' (i + 1) _ _ ?_ ?_ (fun j f hj hf => by
   have := hd (j + 1) f (by simpa using hj) hf
   rwa [show i + (j + 1) = i + 1 + j by omega] at this)
  ·have h1 := (Kal e s).1
   have h2 := (Kal e s').1
   split <;> split <;> omega
  ·by_cases hdst : e.dst = some t
   ·have := hd 0 e rfl hdst
    simp only [Nat.add_zero] at this
    rw [this]
    split
    ·unfold Eff.app Jc0
     simp only [hdst, List.getD, List.getElem?_set, hl, if_true]
    ·exact h
   ·have a1 := other s hdst
    have a2 := other s' hdst
    split <;> split <;> simp only [a1, a2, h]
theorem Kqr {o : Nat} : ∀ (es : List Eff) (D D' : Nat → Bool) (i : Nat) (s s' : List AV × List Jaj), s.2.length = s'.2.length → ASt.obj s.2 o = ASt.obj s'.2 o → (∀ j e, es[j]? = some e → (∃ x, x ∈ e.U ∧ x.1 = o) → D (i + j) = D' (i + j)) → ASt.obj (Jgl es D i s).2 o = ASt.obj (Jgl es D' i s').2 o
 | [], _, _, _, _, _, _, h, _ => h
 | e :: es, D, D', i, s, s', hl, h, hd => by
  simp only [Jgl]
  refine Kqr es D D' (i + 1) _ _ ?_ ?_ (fun j f hj hf => by
   have := hd (j + 1) f (by simpa using hj) hf
   rwa [show i + (j + 1) = i + 1 + j by omega] at this)
  ·have h1 := (Kal e s).2
   have h2 := (Kal e s').2
   split <;> split <;> omega
  ·by_cases hk : ∃ x, x ∈ e.U ∧ x.1 = o
   ·have := hd 0 e rfl hk
    simp only [Nat.add_zero] at this
    rw [this]
    split
    ·have key : ∀ (U : Upd) (H H' : List Jaj), H.length = H'.length → ASt.obj H o = ASt.obj H' o → ASt.obj (upd H U) o = ASt.obj (upd H' U) o := by
      intro U
      induction U with
      | nil => intro H H' _ h; exact h
      | cons x U ih =>
       intro H H' hl h
       refine ih _ _ (by simpa using hl) ?_
       show ASt.obj (H.set x.1 x.2) o = ASt.obj (H'.set x.1 x.2) o
       by_cases hx : x.1 = o
       ·subst hx
        rcases Nat.lt_or_ge x.1 H.length with hlt | hge
        ·rw [Jax hlt, Jax (by omega)]
        ·rw [List.set_eq_of_length_le hge, List.set_eq_of_length_le (by omega)]; exact h
       ·rw [Ja8 hx, Ja8 hx]; exact h
     exact key _ _ _ hl h
    ·exact h
   ·have a1 : ASt.obj (e.app s).2 o = ASt.obj s.2 o := Jjj e.U s.2 (fun x hx hxo => hk ⟨x, hx, hxo⟩)
    have a2 : ASt.obj (e.app s').2 o = ASt.obj s'.2 o := Jjj e.U s'.2 (fun x hx hxo => hk ⟨x, hx, hxo⟩)
    split <;> split <;> simp only [a1, a2, h]
end Go.AI
namespace Go.AI
open Go Go.RowKit
def dstep (Γ : Gam) (orc : Joq) (all : List Oper) (o : Oper) (nid : Nat) (cur : List AV) (H : List Jaj) : Option (Eff × FP) :=
 let go : Option (Eff × FP) := match Jl0 true Γ orc o.op cur H nid with
  | some (true, v, U) => some (⟨o.dst, v, U⟩, Kw3 orc o cur nid U)
  | _ => none
 bif Jos all cur o then some (⟨o.dst, und, []⟩, ⟨[], []⟩) else
 match o.guard with
 | none => go
 | some (j, want) => match Jh8 all cur j with
  | none => none
  | some (_, b) => if b == want then go else some (⟨o.dst, und, []⟩, ⟨[], []⟩)
inductive K6p (Γ : Gam) (orc : Joq) (all : List Oper) : List Oper → Nat → List AV × List Jaj → List Eff → List FP → Prop
 | nil {nid : Nat} {s : List AV × List Jaj} : K6p Γ orc all [] nid s [] []
 | cons {o : Oper} {rest : List Oper} {nid : Nat} {s : List AV × List Jaj} {e : Eff} {fp : FP} {es : List Eff} {fps : List FP} :
   dstep Γ orc all o nid s.1 s.2 = some (e, fp) → K6p Γ orc all rest (nid + Jh7 orc o.op) (e.app s) es fps → K6p Γ orc all (o :: rest) nid s (e :: es) (fp :: fps)
section
variable {P : Program} {Γ : Gam} {orc : Joq} {all : List Oper} {R : Type}
theorem Qbe {cur : List AV} {j d : Nat} {b : Bool} (h : Jh8 all cur j = some (d, b)) : cur.set d (.dat .bool b) = cur := by
 unfold Jh8 at h
 split at h
 ·split at h
  ·rename_i hb
   cases h
   exact Kk9 hb
  ·cases h
 ·cases h
theorem Jrn {k : List AV → List Jaj → List FP → Option R} {r : R} : ∀ (rest : List Oper) (nid : Nat) (cur : List AV) (H : List Jaj) (fps : List FP), Jor Γ orc all rest nid cur H fps k = some r →
  ∃ es fs, K6p Γ orc all rest nid (cur, H) es fs ∧ k (es.foldl (fun s e => e.app s) (cur, H)).1 (es.foldl (fun s e => e.app s) (cur, H)).2 (fps ++ fs) = some r
 | [], nid, cur, H, fps, h => ⟨[], [], .nil, by simpa [Jor] using h⟩
 | o :: rest, nid, cur, H, fps, h => by
  have go : (match Jl0 true Γ orc o.op cur H nid with
   | some (c, v, U) => bif c then Jor Γ orc all rest (nid + Jh7 orc o.op) (Jc0 cur o.dst v) (upd H U) (fps ++ [Kw3 orc o cur nid U]) k else none
   | none => none) = some r → ∃ v U, Jl0 true Γ orc o.op cur H nid = some (true, v, U) ∧ ∃ es fs, K6p Γ orc all rest (nid + Jh7 orc o.op) (Jc0 cur o.dst v, upd H U) es fs ∧
    k (es.foldl (fun s e => e.app s) (Jc0 cur o.dst v, upd H U)).1 (es.foldl (fun s e => e.app s) (Jc0 cur o.dst v, upd H U)).2 (fps ++ Kw3 orc o cur nid U :: fs) = some r := by
   intro h
   split at h
   ·rename_i c v U ha
    cases c with
    | false => cases h
    | true =>
     obtain ⟨es, fs, h1, h2⟩ := Jrn rest _ _ _ _ h
     exact ⟨v, U, ha, es, fs, h1, by simpa using h2⟩
   ·cases h
  simp only [Jor] at h
  rcases Jjk h with ⟨hoff, h⟩ | ⟨hoff, h⟩
  ·obtain ⟨es, fs, h1, h2⟩ := Jrn rest _ _ _ _ h
   exact ⟨⟨o.dst, und, []⟩ :: es, ⟨[], []⟩ :: fs, .cons (by simp only [dstep, hoff]; rfl) h1, by
    have e1 : (⟨o.dst, und, []⟩ : Eff).app (cur, H) = (Jc0 cur o.dst und, H) := rfl
    rw [List.foldl_cons, e1]
    simpa using h2⟩
  split at h
  ·rename_i hg
   obtain ⟨v, U, ha, es, fs, h1, h2⟩ := go h
   exact ⟨⟨o.dst, v, U⟩ :: es, Kw3 orc o cur nid U :: fs, .cons (by simp [dstep, hoff, hg, ha]) h1, h2⟩
  ·rename_i j want hg
   split at h
   ·cases h
   ·rename_i d b hgd
    have hs := Qbe hgd
    have h' : (if (b == want) = true then (match Jl0 true Γ orc o.op (cur.set d (.dat .bool b)) H nid with
      | some (c, v, U) => bif c then Jor Γ orc all rest (nid + Jh7 orc o.op) (Jc0 (cur.set d (.dat .bool b)) o.dst v) (upd H U) (fps ++ [Kw3 orc o (cur.set d (.dat .bool b)) nid U]) k else none
      | none => none)
     else Jor Γ orc all rest (nid + Jh7 orc o.op) (Jc0 (cur.set d (.dat .bool b)) o.dst und) H (fps ++ [⟨[], []⟩]) k) = some r := by
     cases b <;> exact h
    rw [hs] at h'
    split at h'
    ·rename_i hbw
     obtain ⟨v, U, ha, es, fs, h1, h2⟩ := go h'
     exact ⟨⟨o.dst, v, U⟩ :: es, Kw3 orc o cur nid U :: fs, .cons (by simp only [dstep, hoff, cond_false, hg, hgd, hbw, if_true, ha]) h1, h2⟩
    ·rename_i hbw
     obtain ⟨es, fs, h1, h2⟩ := Jrn rest _ _ _ _ h'
     exact ⟨⟨o.dst, und, []⟩ :: es, ⟨[], []⟩ :: fs, .cons (by simp only [dstep, hoff, cond_false, hg, hgd, hbw]; rfl) h1, by
      have e1 : (⟨o.dst, und, []⟩ : Eff).app (cur, H) = (Jc0 cur o.dst und, H) := rfl
      rw [List.foldl_cons, e1]
      simpa using h2⟩
theorem J34 : ∀ (es : List Eff) (D : Nat → Bool) (i : Nat) (s : List AV × List Jaj), (∀ j, i ≤ j → D j = false) → Jgl es D i s = s
 | [], _, _, _, _ => rfl
 | e :: es, D, i, s, h => by
  simp only [Jgl, h i (Nat.le_refl _), Bool.false_eq_true, if_false]
  exact J34 es D (i + 1) s (fun j hj => h j (by omega))
theorem Kqs : ∀ (es : List Eff) (D : Nat → Bool) (i : Nat) (s : List AV × List Jaj), (∀ j, i ≤ j → j < i + es.length → D j = true) → Jgl es D i s = es.foldl (fun s e => e.app s) s
 | [], _, _, _, _ => rfl
 | e :: es, D, i, s, h => by
  simp only [Jgl, h i (Nat.le_refl _) (by simp), if_true, List.foldl_cons]
  exact Kqs es D (i + 1) _ (fun j hj hlt => h j (by omega) (by simp only [List.length_cons]; omega))
theorem Qbf : ∀ {rest : List Oper} {nid : Nat} {s : List AV × List Jaj} {es : List Eff} {fs : List FP}, K6p Γ orc all rest nid s es fs → es.length = rest.length ∧ fs.length = rest.length ∧
  ∀ i o, rest[i]? = some o → ∃ e fp, es[i]? = some e ∧ fs[i]? = some fp ∧ ∀ b, dstep Γ orc all o (nid + Jrd orc (rest.take i)) (Jgl es (fun j => decide (j < b + i)) b s).1 (Jgl es (fun j => decide (j < b + i)) b s).2 = some (e, fp) := by
 intro rest nid s es fs h
 induction h with
 | nil => exact ⟨rfl, rfl, fun i o hi => by simp at hi⟩
 | @cons o rest nid s e fp es fs h1 _ ih =>
  obtain ⟨l1, l2, ih⟩ := ih
  refine ⟨by simp [l1], by simp [l2], fun i o' hi => ?_⟩
  cases i with
  | zero =>
   simp only [List.getElem?_cons_zero, Option.some.injEq] at hi
   subst hi
   refine ⟨e, fp, rfl, rfl, fun b => ?_⟩
   rw [J34 _ _ _ _ (fun j hj => by simp only [decide_eq_false_iff_not]; omega)]
   simpa [Jrd] using h1
  | succ i =>
   obtain ⟨e', fp', g1, g2, g3⟩ := ih i o' (by simpa using hi)
   refine ⟨e', fp', by simpa using g1, by simpa using g2, fun b => ?_⟩
   have := g3 (b + 1)
   simp only [Jgl]
   rw [if_pos (by simp only [decide_eq_true_eq]; omega)]
   have e1 : (fun j => decide (j < b + 1 + i)) = (fun j => decide (j < b + (i + 1))) := by funext j; congr 2; omega
   rw [e1] at this
   simpa [Jrd, Nat.add_assoc] using this
theorem K6q {o : Oper} {cur cur' : List AV} (h : ∀ t, t ∈ Jpm all o → cur.getD t .dead = cur'.getD t .dead) : ∀ x, x ∈ o.op.operands.toList → Jcq cur x = Jcq cur' x := by
 intro x hx
 cases x with
 | tmp t =>
  refine h t (List.mem_append_left _ (List.mem_filterMap.2 ⟨.tmp t, hx, rfl⟩))
 | _ => rfl
theorem Kxy {o : Oper} {j : Nat} {want : Bool} {cur cur' : List AV} (hg : o.guard = some (j, want)) (h : ∀ t, t ∈ Jpm all o → cur.getD t .dead = cur'.getD t .dead) : Jh8 all cur j = Jh8 all cur' j := by
 unfold Jh8
 cases hd : (all[j]?).bind (·.dst) with
 | none => rfl
 | some d =>
  have : d ∈ Jpm all o := List.mem_append_right _ (by simp [hg, hd])
  simp only [h d this]
theorem Qbg {o : Oper} {cur cur' : List AV} (h : ∀ t, t ∈ Jpm all o → cur.getD t .dead = cur'.getD t .dead) : Jos all cur o = Jos all cur' o := by
 unfold Jos
 cases hg : o.guard with
 | none => rfl
 | some jw =>
  obtain ⟨j, want⟩ := jw
  simp only
  cases hd : (all[j]?).bind (·.dst) with
  | none => rfl
  | some d =>
   have : d ∈ Jpm all o := List.mem_append_right _ (by simp [hg, hd])
   simp only [h d this]
theorem Qbh {o : Oper} {nid : Nat} {cur cur' : List AV} {H H' : List Jaj} {e : Eff} {fp : FP} (hd : dstep Γ orc all o nid cur H = some (e, fp)) (h : ∀ t, t ∈ Jpm all o → cur.getD t .dead = cur'.getD t .dead) (hr : Jcw H H' fp.rd) (hl : H.length = H'.length) :
  dstep Γ orc all o nid cur' H' = some (e, fp) := by
 have hc := K6q h
 have run : ∀ {e : Eff} {fp : FP}, (match Jl0 true Γ orc o.op cur H nid with
   | some (true, v, U) => some ((⟨o.dst, v, U⟩ : Eff), Kw3 orc o cur nid U)
   | _ => none) = some (e, fp) → Jcw H H' fp.rd → (match Jl0 true Γ orc o.op cur' H' nid with
   | some (true, v, U) => some ((⟨o.dst, v, U⟩ : Eff), Kw3 orc o cur' nid U)
   | _ => none) = some (e, fp) := by
  intro e fp hm hr
  split at hm
  ·rename_i v U ha
   cases hm
   have hl' := K6o (mv := true) (Γ := Γ) (orc := orc) (nid := nid) hc (hr.mono fun n hn => List.mem_append_left _ hn) (fun j hj => hr _ (List.mem_append_right _ (List.mem_map.2 ⟨j, List.mem_range.2 hj, rfl⟩))) hl
   rw [← hl', ha]
   simp only [Kw3]
   rw [Kxx hc]
  ·cases hm
 unfold dstep at hd ⊢
 rw [← Qbg h]
 rcases Jjk hd with ⟨hoff, hd⟩ | ⟨hoff, hd⟩
 ·simp only [hoff, cond_true]; exact hd
 simp only [hoff, cond_false]
 cases hg : o.guard with
 | none =>
  rw [hg] at hd
  exact run hd hr
 | some jw =>
  obtain ⟨j, want⟩ := jw
  rw [hg] at hd
  simp only at hd ⊢
  rw [← Kxy hg h]
  cases hgd : Jh8 all cur j with
  | none => rw [hgd] at hd; cases hd
  | some db =>
   obtain ⟨d, b⟩ := db
   rw [hgd] at hd
   simp only at hd ⊢
   cases hbw : b == want with
   | true =>
    rw [hbw] at hd
    exact run hd hr
   | false =>
    rw [hbw] at hd
    exact hd
theorem Qbi {o : Oper} {nid : Nat} {cur : List AV} {H : List Jaj} {e : Eff} {fp : FP} (hd : dstep Γ orc all o nid cur H = some (e, fp)) : e.dst = o.dst ∧ ∀ x, x ∈ e.U → x.1 ∈ fp.wr := by
 have run : ∀ {e : Eff} {fp : FP}, (match Jl0 true Γ orc o.op cur H nid with
   | some (true, v, U) => some ((⟨o.dst, v, U⟩ : Eff), Kw3 orc o cur nid U)
   | _ => none) = some (e, fp) → e.dst = o.dst ∧ ∀ x, x ∈ e.U → x.1 ∈ fp.wr := by
  intro e fp hm
  split at hm
  ·cases hm
   exact ⟨rfl, fun x hx => List.mem_map.2 ⟨x, hx, rfl⟩⟩
  ·cases hm
 unfold dstep at hd
 rcases Jjk hd with ⟨hoff, hd⟩ | ⟨hoff, hd⟩
 ·cases hd
  exact ⟨rfl, fun x hx => by cases hx⟩
 cases hg : o.guard with
 | none =>
  rw [hg] at hd
  exact run hd
 | some jw =>
  obtain ⟨j, want⟩ := jw
  rw [hg] at hd
  simp only at hd
  cases hgd : Jh8 all cur j with
  | none => rw [hgd] at hd; cases hd
  | some db =>
   obtain ⟨d, b⟩ := db
   rw [hgd] at hd
   simp only at hd
   cases hbw : b == want with
   | true =>
    rw [hbw] at hd
    exact run hd
   | false =>
    rw [hbw] at hd
    cases hd
    exact ⟨rfl, fun x hx => by cases hx⟩
theorem Qh5 (hΓ : Jcv P Γ) (hO : Jnd P orc) {rd : Option Nat} {c : Ctx P} {w : World} {ρ : Rho} {st : ASt} {a : Act} {TS : Cal} {ops : Array Oper} (hops : ops.toList = all) {i nid : Nat} {o : Oper} (hi : ops[i]? = some o) {e : Eff} {fp : FP}
  (hd : dstep Γ orc all o nid st.cur st.heap = some (e, fp)) (h : Jdh c w ρ st a TS) {K : Act → World → Prop} {Q : Exit → Act → World → Prop}
  (hK : ∀ a' w' ρ', Jdh c w' ρ' { st with cur := (e.app (st.cur, st.heap)).1, heap := (e.app (st.cur, st.heap)).2 } a' TS → K a' w') : wpOpIn (Fe rd) 0 P ops Q i K a w := by
 have run : Region.wanted o (yielded ops a.tmps) = true → (match Jl0 true Γ orc o.op st.cur st.heap nid with
   | some (true, v, U) => some ((⟨o.dst, v, U⟩ : Eff), Kw3 orc o st.cur nid U)
   | _ => none) = some (e, fp) → wpOpIn (Fe rd) 0 P ops Q i K a w := by
  intro hw hm
  split at hm
  ·rename_i v U ha
   cases hm
   unfold wpOpIn
   rw [hi]
   simp only [hw, if_true]
   exact K3o hΓ hO h.ok h.cur ha (J04 ha) rd K Q (fun val w' ρ' hv T => hK _ w' ρ' (h.step T hv))
  ·cases hm
 unfold dstep at hd
 rcases Jjk hd with ⟨hoff, hd⟩ | ⟨hoff, hd⟩
 ·cases hd
  unfold wpOpIn
  rw [hi]
  simp only [Qa4 (w := w) (H := st.heap) (ρ := ρ) hops hoff h.cur, Bool.false_eq_true, if_false]
  exact ⟨fun _ _ => trivial, hK _ w ρ ⟨h.ok, h.cur.put K3p, h.stk, by rw [Jj5]; exact h.defers⟩⟩
 cases hg : o.guard with
 | none =>
  rw [hg] at hd
  exact run (by simp [Region.wanted, hg]) hd
 | some jw =>
  obtain ⟨j, want⟩ := jw
  rw [hg] at hd
  simp only at hd
  cases hgd : Jh8 all st.cur j with
  | none => rw [hgd] at hd; cases hd
  | some db =>
   obtain ⟨d, b⟩ := db
   rw [hgd] at hd
   simp only at hd
   obtain ⟨hy, _, _⟩ := Kqg (w := w) (H := st.heap) (ρ := ρ) hops hgd h.cur
   have hw : Region.wanted o (yielded ops a.tmps) = (b == want) := by simp [Region.wanted, hg, hy]
   cases hbw : b == want with
   | true =>
    rw [hbw] at hd
    exact run (by rw [hw, hbw]) hd
   | false =>
    rw [hbw] at hd
    cases hd
    unfold wpOpIn
    rw [hi]
    simp only [hw, hbw, Bool.false_eq_true, if_false]
    exact ⟨fun _ _ => trivial, hK _ w ρ ⟨h.ok, h.cur.put K3p, h.stk, by rw [Jj5]; exact h.defers⟩⟩
end
end Go.AI
namespace Go.AI
open Go Go.RowKit
theorem J58 (acc : List Nat) (i : Nat) : ∀ (l : List Edge) (s : Nat), (l.foldl (fun s e => if Region.binds .any e then s ||| 2 ^ e.on ||| acc.getD e.on 0 else s) s).testBit i = true → s.testBit i = true ∨ ∃ e, e ∈ l ∧ Region.binds .any e = true ∧ (e.on = i ∨ (acc.getD e.on 0).testBit i = true)
 | [], s, h => .inl h
 | e :: l, s, h => by
  simp only [List.foldl_cons] at h
  rcases J58 acc i l _ h with h | ⟨f, hf, h⟩
  ·split at h
   ·rename_i hb
    simp only [Nat.testBit_or, Bool.or_eq_true, Nat.testBit_two_pow, decide_eq_true_eq] at h
    rcases h with (h | h) | h
    ·exact .inl h
    ·exact .inr ⟨e, List.mem_cons_self, hb, .inl h⟩
    ·exact .inr ⟨e, List.mem_cons_self, hb, .inr h⟩
   ·exact .inl h
  ·exact .inr ⟨f, List.mem_cons_of_mem _ hf, h⟩
theorem J59 : ∀ (l : List Oper) (acc : List Nat), (∀ j, j < acc.length → (Jfx l acc).getD j 0 = acc.getD j 0) ∧
  ∀ j o i, l[j]? = some o → ((Jfx l acc).getD (acc.length + j) 0).testBit i = true → ∃ e, e ∈ o.after.toList ∧ Region.binds .any e = true ∧ (e.on = i ∨ ((Jfx l acc).getD e.on 0).testBit i = true)
 | [], acc => ⟨fun j _ => rfl, fun j o i h => by simp at h⟩
 | o :: l, acc => by
  obtain ⟨h1, h2⟩ := J59 l (acc ++ [o.after.toList.foldl (fun s e => if Region.binds .any e then s ||| 2 ^ e.on ||| acc.getD e.on 0 else s) 0])
  refine ⟨fun j hj => ?_, fun j o' i hj hb => ?_⟩
  ·simp only [Jfx]
   rw [h1 j (by simp; omega)]
   simp [List.getD, List.getElem?_append_left hj]
  ·simp only [Jfx] at hb ⊢
   cases j with
   | zero =>
    simp only [List.getElem?_cons_zero, Option.some.injEq] at hj
    subst hj
    rw [Nat.add_zero, h1 acc.length (by simp)] at hb
    have e1 : (acc ++ [o.after.toList.foldl (fun s e => if Region.binds .any e then s ||| 2 ^ e.on ||| acc.getD e.on 0 else s) 0]).getD acc.length 0 = o.after.toList.foldl (fun s e => if Region.binds .any e then s ||| 2 ^ e.on ||| acc.getD e.on 0 else s) 0 := by simp [List.getD]
    rw [e1] at hb
    rcases J58 acc i _ _ hb with hz | ⟨e, he, hbd, hor⟩
    ·simp at hz
    ·refine ⟨e, he, hbd, hor.imp id fun ht => ?_⟩
     have hlt : e.on < acc.length := by
      rcases Nat.lt_or_ge e.on acc.length with h | h
      ·exact h
      ·simp [List.getD, List.getElem?_eq_none h] at ht
     rw [h1 e.on (by simp; omega)]
     simpa [List.getD, List.getElem?_append_left hlt] using ht
   | succ j =>
    refine h2 j o' i (by simpa using hj) ?_
    simpa [Nat.add_assoc, Nat.add_comm 1 j] using hb
section
variable {P : Program} {Γ : Gam} {orc : Joq}
theorem Kan {ops : Array Oper} {listed : Array Bool} {i : Nat} (h : i ∈ Region.ready .any ops listed) : ∃ o, ops[i]? = some o ∧ listed.getD i true = false ∧ ∀ e, e ∈ o.after.toList → Region.binds .any e = true → listed.getD e.on false = true := by
 unfold Region.ready at h
 rw [List.mem_filter] at h
 obtain ⟨hr, hc⟩ := h
 have hlt := List.mem_range.1 hr
 simp only [Bool.and_eq_true, Bool.not_eq_true', Array.getElem?_eq_getElem hlt, Option.map_some, Option.getD_some] at hc
 refine ⟨ops[i], Array.getElem?_eq_getElem hlt, hc.1, fun e he hb => ?_⟩
 have := Array.all_eq_true'.1 hc.2 e (by simpa using he)
 simpa [hb] using this
structure Qny (Γ : Gam) (orc : Joq) (all : List Oper) (b nid : Nat) (s : List AV × List Jaj) (es : List Eff) (fs : List FP) : Prop where
 len : es.length = b
 le : b ≤ all.length
 at_ : ∀ i o, i < b → all[i]? = some o → ∃ e fp, es[i]? = some e ∧ fs[i]? = some fp ∧ dstep Γ orc all o (nid + Jrd orc (all.take i)) (Jgl es (fun j => decide (j < i)) 0 s).1 (Jgl es (fun j => decide (j < i)) 0 s).2 = some (e, fp)
 indep : Kkt b all (Jfx all []) fs = true
theorem Qny.pair {all : List Oper} {b nid : Nat} {s : List AV × List Jaj} {es : List Eff} {fs : List FP} (h : Qny Γ orc all b nid s es fs) {i j : Nat} (hij : i < j) (hj : j < b) (hb : ((Jfx all []).getD j 0).testBit i = false) :
  apart all (all.getD i default) (all.getD j default) = true ∧ (fs.getD i default).indep (fs.getD j default) = true := by
 have h1 := List.all_eq_true.1 h.indep j (List.mem_range.2 hj)
 have h2 := List.all_eq_true.1 h1 i (List.mem_range.2 hij)
 rw [hb, Bool.false_or, Bool.and_eq_true] at h2
 exact h2
structure Free (all : List Oper) (o o' : Oper) (fp fp' : FP) (e e' : Eff) : Prop where
 apart : Qh3 e e'
 slot : ∀ t, e'.dst = some t → t ∉ Jpm all o
 obj : ∀ x, x ∈ e'.U → x.1 ∉ fp.rd
theorem Qny.free {all : List Oper} {b nid : Nat} {s : List AV × List Jaj} {es : List Eff} {fs : List FP} (h : Qny Γ orc all b nid s es fs) {i j : Nat} {o o' : Oper} {e e' : Eff} {fp fp' : FP} (hi : all[i]? = some o) (hj : all[j]? = some o')
  (he : es[i]? = some e) (he' : es[j]? = some e') (hf : fs[i]? = some fp) (hf' : fs[j]? = some fp')
  (hij : (i < j ∧ ((Jfx all []).getD j 0).testBit i = false) ∨ (j < i ∧ ((Jfx all []).getD i 0).testBit j = false)) : Free all o o' fp fp' e e' := by
 have hil : i < b := by have := (List.getElem?_eq_some_iff.1 he).1; have := h.len; omega
 have hjl : j < b := by have := (List.getElem?_eq_some_iff.1 he').1; have := h.len; omega
 have eff : ∀ {i : Nat} {o : Oper} {e : Eff} {fp : FP}, all[i]? = some o → es[i]? = some e → fs[i]? = some fp → e.dst = o.dst ∧ ∀ x, x ∈ e.U → x.1 ∈ fp.wr := by
  intro i o e fp h1 h2 h3
  obtain ⟨e1, fp1, g1, g2, g3⟩ := h.at_ i o (by have := (List.getElem?_eq_some_iff.1 h2).1; have := h.len; omega) h1
  rw [h2] at g1; rw [h3] at g2
  cases g1; cases g2
  exact Qbi g3
 obtain ⟨d1, w1⟩ := eff hi he hf
 obtain ⟨d2, w2⟩ := eff hj he' hf'
 have gi : all.getD i default = o := by simp [List.getD, hi]
 have gj : all.getD j default = o' := by simp [List.getD, hj]
 have fi : fs.getD i default = fp := by simp [List.getD, hf]
 have fj : fs.getD j default = fp' := by simp [List.getD, hf']
 rcases hij with ⟨hlt, hb⟩ | ⟨hlt, hb⟩
 ·obtain ⟨p1, p2⟩ := h.pair hlt hjl hb
  rw [gi, gj] at p1
  rw [fi, fj] at p2
  simp only [AI.apart, FP.indep, Bool.and_eq_true, List.all_eq_true, Bool.not_eq_true', Bool.or_eq_false_iff] at p1 p2
  refine ⟨⟨fun d hd => ?_, fun x hx y hy hxy => ?_⟩, fun t ht hl => ?_, fun x hx hr => ?_⟩
  ·rw [d1] at hd
   rw [hd] at p1
   rw [d2]
   have := p1.1
   simp only [Bool.and_eq_true, bne_iff_ne] at this
   exact this.2
  ·have := (p2.1 x.1 (w1 x hx)).2
   rw [hxy] at this
   simp [w2 y hy] at this
  ·rw [d2] at ht
   rw [ht] at p1
   have := p1.2
   simp [hl] at this
  ·have := p2.2 x.1 (w2 x hx)
   simp [hr] at this
 ·obtain ⟨p1, p2⟩ := h.pair hlt hil hb
  rw [gi, gj] at p1
  rw [fi, fj] at p2
  simp only [AI.apart, FP.indep, Bool.and_eq_true, List.all_eq_true, Bool.not_eq_true', Bool.or_eq_false_iff] at p1 p2
  refine ⟨⟨fun d hd e2 => ?_, fun x hx y hy hxy => ?_⟩, fun t ht hl => ?_, fun x hx hr => ?_⟩
  ·rw [d1] at hd
   rw [d2] at e2
   rw [e2] at p1
   have := p1.1
   simp only [Bool.and_eq_true, bne_iff_ne] at this
   exact this.2 hd
  ·have := (p2.1 y.1 (w2 y hy)).2
   rw [← hxy] at this
   simp [w1 x hx] at this
  ·rw [d2] at ht
   rw [ht] at p1
   have := p1.1
   simp [hl] at this
  ·have := (p2.1 x.1 (w2 x hx)).1
   simp [hr] at this
theorem J35 {b : Nat} {all : List Oper} (ht : Jx6 b all = true) : b < all.length ∧ (∀ i, i < b → ((Jfx all []).getD b 0).testBit i = true) ∧ ∀ j o, b < j → all[j]? = some o → ∃ e, e ∈ o.after.toList ∧ Region.binds .any e = true ∧ e.on + 1 = j := by
 simp only [Jx6, Bool.and_eq_true, decide_eq_true_eq, List.all_eq_true] at ht
 obtain ⟨⟨h1, h2⟩, h3⟩ := ht
 refine ⟨h1, fun i hi => h2 i (List.mem_range.2 hi), fun j o hj ho => ?_⟩
 have hjl := (List.getElem?_eq_some_iff.1 ho).1
 have := h3 j (List.mem_range.2 hjl)
 have e1 : all.getD j default = o := by simp [List.getD, ho]
 rw [e1, Bool.or_eq_true, decide_eq_true_eq] at this
 rcases this with h | h
 ·omega
 ·obtain ⟨e, he, hb⟩ := List.any_eq_true.1 h
  rw [Bool.and_eq_true, decide_eq_true_eq] at hb
  exact ⟨e, he, hb.1, hb.2⟩
theorem Kh8 {ops : Array Oper} (hE : Jy0 ops.toList = true) : ∀ (listed : Array Bool), listed.size = ops.size → Region.ready .any ops listed = [] → ∀ i, i < ops.size → listed.getD i false = true := by
 intro listed hsz hr i
 induction i using Nat.strongRecOn with
 | _ i ih =>
  intro hi
  cases hl : listed.getD i false with
  | true => rfl
  | false =>
   exfalso
   have hin : i ∈ Region.ready .any ops listed := by
    unfold Region.ready
    rw [List.mem_filter]
    refine ⟨List.mem_range.2 hi, ?_⟩
    have hlt : i < listed.size := by omega
    have e1 : listed.getD i true = false := by
     simp only [Array.getD, hlt, dif_pos] at hl ⊢; exact hl
    simp only [e1, Bool.not_false, Bool.true_and, Array.getElem?_eq_getElem hi, Option.map_some, Option.getD_some]
    rw [Array.all_eq_true']
    intro e he
    have hlast : Region.binds .any e = false ∨ e.on < i := by
     unfold Jy0 at hE
     have := List.all_eq_true.1 hE i (List.mem_range.2 (by simpa using hi))
     have e2 : ops.toList.getD i default = ops[i] := by simp [List.getD, hi]
     rw [e2] at this
     have := List.all_eq_true.1 this e (by simpa using he)
     simpa using this
    rcases hlast with hlast | hlast
    ·rw [hlast]; rfl
    rw [ih e.on hlast (by omega)]
    simp
   rw [hr] at hin; cases hin
theorem Jlr {listed : Array Bool} {n i : Nat} (hsz : listed.size = n) (hi : i < n) (hl : listed.getD i true = false) : 0 < listed.toList.count false := by
 have hlt : i < listed.size := by omega
 simp only [Array.getD, hlt, dif_pos] at hl
 have hm : false ∈ listed.toList := by
  rw [← hl]; simp
 exact List.count_pos_iff.2 hm
theorem count_set {listed : Array Bool} {i : Nat} (hlt : i < listed.size) (hlf : listed.getD i false = false) : (listed.setIfInBounds i true).toList.count false + 1 = listed.toList.count false := by
 have hp : 0 < listed.toList.count false := Jlr rfl hlt (by simp only [Array.getD, hlt, dif_pos] at hlf ⊢; exact hlf)
 rw [Array.toList_setIfInBounds, List.count_set (by simpa using hlt)]
 have e1 : listed.toList[i]'(by simpa using hlt) = false := by
  simp only [Array.getD, hlt, dif_pos] at hlf; simpa using hlf
 rw [e1, if_pos (show (false == false) = true from rfl), if_neg (show ¬ (true == false) = true by decide)]
 omega
theorem Qbj {listed : Array Bool} {i : Nat} (hlt : i < listed.size) (j : Nat) : (listed.setIfInBounds i true).getD j false = (listed.getD j false || j == i) := by
 simp only [Array.getD_eq_getD_getElem?, Array.getElem?_setIfInBounds]
 by_cases hji : i = j
 ·subst hji; simp [hlt]
 ·have : (j == i) = false := by simpa using Ne.symm hji
  simp [hji, this]
theorem Qlf {rd : Option Nat} {ops : Array Oper} (hE : Jy0 ops.toList = true) {b : Nat} (hb : b = ops.size ∨ Jx6 b ops.toList = true) {Q : Exit → Act → World → Prop} :
  ∀ (fuel j : Nat) (listed : Array Bool) (a : Act) (w : World), listed.size = ops.size → listed.toList.count false ≤ fuel → b ≤ j → (∀ i, i < ops.size → listed.getD i false = decide (i < j)) →
   wpListIn (Fe rd) 0 P ops Q (ops.toList.drop j) a w → wpAnyIn (Fe rd) 0 P .any ops Q fuel listed a w := by
 have fin : ∀ (j : Nat) (listed : Array Bool) (a : Act) (w : World), listed.size = ops.size → (∀ i, i < ops.size → listed.getD i false = decide (i < j)) → Region.ready .any ops listed = [] → wpListIn (Fe rd) 0 P ops Q (ops.toList.drop j) a w → Q .normal a w := by
  intro j listed a w hsz hl hr hw
  have : ops.size ≤ j := by
   rcases Nat.lt_or_ge j ops.size with h | h
   ·have h1 := Kh8 hE listed hsz hr j h
    rw [hl j h] at h1; simp at h1
   ·exact h
  rw [List.drop_eq_nil_of_le (by simpa using this)] at hw
  exact hw
 intro fuel
 induction fuel with
 | zero =>
  intro j listed a w hsz hcnt hbj hl hw
  have hr : Region.ready .any ops listed = [] := by
   cases hr : Region.ready .any ops listed with
   | nil => rfl
   | cons i r =>
    exfalso
    obtain ⟨o, ho, hl, _⟩ := Kan (i := i) (listed := listed) (ops := ops) (by rw [hr]; exact List.mem_cons_self)
    have := Jlr hsz (Array.getElem?_eq_some_iff.1 ho).1 hl
    omega
  exact ⟨hr, fin j listed a w hsz hl hr hw⟩
 | succ fuel ih =>
  intro j listed a w hsz hcnt hbj hl hw
  refine ⟨fun hr => fin j listed a w hsz hl hr hw, fun i hi => ?_⟩
  obtain ⟨o, ho, hlt', hedge⟩ := Kan hi
  have hin := (Array.getElem?_eq_some_iff.1 ho).1
  have hlt : i < listed.size := by omega
  have hlf : listed.getD i false = false := by simp only [Array.getD, hlt, dif_pos] at hlt' ⊢; exact hlt'
  have hji : j ≤ i := by rw [hl i hin] at hlf; simpa using hlf
  have hij : i = j := by
   rcases Nat.lt_or_ge j i with h | h
   ·exfalso
    rcases hb with rfl | hb
    ·omega
    ·obtain ⟨e, he, hbd, hon⟩ := (J35 hb).2.2 i o (by omega) (by simpa using ho)
     have := hedge e he hbd
     rw [hl e.on (by omega)] at this
     simp at this; omega
   ·omega
  subst hij
  have hdrop : ops.toList.drop i = o :: ops.toList.drop (i + 1) := by
   rw [List.drop_eq_getElem_cons (by simpa using hin)]
   congr 1
   have := (Array.getElem?_eq_some_iff.1 ho).2
   simpa using this
  rw [hdrop] at hw
  have next : ∀ a w, wpListIn (Fe rd) 0 P ops Q (ops.toList.drop (i + 1)) a w → wpAnyIn (Fe rd) 0 P .any ops Q fuel (listed.setIfInBounds i true) a w := fun a w hw => by
   have := count_set hlt hlf
   refine ih (i + 1) _ a w (by simpa using hsz) (by omega) (by omega) (fun k hk => ?_) hw
   rw [Qbj hlt, hl k hk]
   by_cases h1 : k < i
   ·simp [h1, Nat.lt_succ_of_lt h1]
   ·by_cases h2 : k = i
    ·subst h2; simp
    ·have : ¬ k < i + 1 := by omega
     simp [h1, h2, this]
  unfold wpListIn at hw
  unfold wpOpIn
  rw [ho]
  simp only
  split at hw
  ·rename_i hwt
   rw [if_pos hwt]
   exact Oper.wpIn_mono next hw
  ·rename_i hwt
   rw [if_neg hwt]
   exact ⟨hw.1, next _ _ hw.2⟩
theorem Qoj (hΓ : Jcv P Γ) (hO : Jnd P orc) {rd : Option Nat} {c : Ctx P} {TS : Cal} {st : ASt} {ops : Array Oper} (hE : Jy0 ops.toList = true) {b nid : Nat} (hb : b = ops.size ∨ Jx6 b ops.toList = true) {s0 : List AV × List Jaj} {es : List Eff} {fs : List FP} (hL : Qny Γ orc ops.toList b nid s0 es fs) {Q : Exit → Act → World → Prop}
  (hQ : ∀ a w ρ, Jdh c w ρ { st with cur := (es.foldl (fun s e => e.app s) s0).1, heap := (es.foldl (fun s e => e.app s) s0).2 } a TS → wpListIn (Fe rd) 0 P ops Q (ops.toList.drop b) a w) :
  ∀ (fuel : Nat) (listed : Array Bool) (a : Act) (w : World) (ρ : Rho), listed.size = ops.size → listed.toList.count false ≤ fuel → (∀ j, listed.getD j false = true → j < b) →
   (∀ j, listed.getD j false = true → ∀ i, ((Jfx ops.toList []).getD j 0).testBit i = true → listed.getD i false = true) →
   Jdh c w ρ { st with cur := (Jgl es (fun j => listed.getD j false) 0 s0).1, heap := (Jgl es (fun j => listed.getD j false) 0 s0).2 } a TS → wpAnyIn (Fe rd) 0 P .any ops Q fuel listed a w := by
 have hbs : b ≤ ops.size := by have := hL.le; simpa using this
 have done : ∀ (fuel : Nat) (listed : Array Bool) (a : Act) (w : World) (ρ : Rho), listed.size = ops.size → listed.toList.count false ≤ fuel → (∀ j, listed.getD j false = true → j < b) → (∀ j, j < b → listed.getD j false = true) →
   Jdh c w ρ { st with cur := (Jgl es (fun j => listed.getD j false) 0 s0).1, heap := (Jgl es (fun j => listed.getD j false) 0 s0).2 } a TS → wpAnyIn (Fe rd) 0 P .any ops Q fuel listed a w := by
  intro fuel listed a w ρ hsz hcnt hlow hall h
  refine Qlf hE hb fuel b listed a w hsz hcnt (Nat.le_refl _) (fun i _ => ?_) (hQ a w ρ ?_)
  ·cases hl : listed.getD i false with
   | true => simp [hlow i hl]
   | false =>
    have : ¬ i < b := fun hi => by rw [hall i hi] at hl; cases hl
    simp [this]
  ·have e1 := Kqs es (fun j => listed.getD j false) 0 s0 (fun j _ hj => hall j (by have := hL.len; omega))
   rw [e1] at h
   exact h
 intro fuel
 induction fuel with
 | zero =>
  intro listed a w ρ hsz hcnt hlow hcl h
  refine done 0 listed a w ρ hsz hcnt hlow (fun j hj => ?_) h
  have hjl : j < listed.size := by omega
  cases hl : listed.getD j false with
  | true => rfl
  | false =>
   have := Jlr rfl hjl (by simp only [Array.getD, hjl, dif_pos] at hl ⊢; exact hl)
   omega
 | succ fuel ih =>
  intro listed a w ρ hsz hcnt hlow hcl h
  by_cases hall : ∀ j, j < b → listed.getD j false = true
  ·exact done (fuel + 1) listed a w ρ hsz hcnt hlow hall h
  refine ⟨fun hr => absurd (fun j hj => Kh8 hE listed hsz hr j (by omega)) hall, fun i hi => ?_⟩
  obtain ⟨o, ho, hl, hedge⟩ := Kan hi
  have hio : ops.toList[i]? = some o := by simpa using ho
  have hin := (Array.getElem?_eq_some_iff.1 ho).1
  have hlt : i < listed.size := by omega
  have hlf : listed.getD i false = false := by simp only [Array.getD, hlt, dif_pos] at hl ⊢; exact hl
  have hbef : ∀ k, ((Jfx ops.toList []).getD i 0).testBit k = true → listed.getD k false = true := by
   intro k hk
   obtain ⟨ed, h1, h2, h3⟩ := (J59 ops.toList []).2 i o k hio (by simpa using hk)
   rcases h3 with h3 | h3
   ·rw [← h3]; exact hedge ed h1 h2
   ·exact hcl ed.on (hedge ed h1 h2) k h3
  have hib : i < b := by
   rcases Nat.lt_or_ge i b with h | hge
   ·exact h
   ·exfalso
    rcases hb with hb | hb
    ·omega
    ·obtain ⟨_, t2, t3⟩ := J35 hb
     rcases Nat.lt_or_ge b i with hlt2 | hge2
     ·obtain ⟨e, he, hbd, hon⟩ := t3 i o hlt2 hio
      have := hlow e.on (hedge e he hbd)
      omega
     ·have : i = b := by omega
      subst this
      exact hall fun j hj => hbef j (t2 j hj)
  obtain ⟨e, fp, he, hf, hd⟩ := hL.at_ i o hib hio
  -- what differs from the text's order does not matter to the operation
  have free : ∀ j e', es[j]? = some e' → (j < i ∧ listed.getD j false = false) ∨ (i < j ∧ listed.getD j false = true) → ∃ o' fp', Free ops.toList o o' fp fp' e e' := by
   intro j e' he' hj
   have hjb : j < b := by have := (List.getElem?_eq_some_iff.1 he').1; have := hL.len; omega
   have hjl : j < ops.toList.length := by have := hL.le; omega
   have hoj := List.getElem?_eq_getElem hjl
   obtain ⟨e2, fp', g1, g2, _⟩ := hL.at_ j _ hjb hoj
   refine ⟨_, fp', hL.free hio hoj he he' hf g2 ?_⟩
   rcases hj with ⟨h1, h2⟩ | ⟨h1, h2⟩
   ·refine .inr ⟨h1, ?_⟩
    cases hb : ((Jfx ops.toList []).getD i 0).testBit j with
    | false => rfl
    | true => rw [hbef j hb] at h2; cases h2
   ·refine .inl ⟨h1, ?_⟩
    cases hb : ((Jfx ops.toList []).getD j 0).testBit i with
    | false => rfl
    | true => rw [hcl j h2 i hb] at hlf; cases hlf
  have agree : ∀ j e', es[j]? = some e' → (∃ t, e'.dst = some t ∧ t ∈ Jpm ops.toList o) ∨ (∃ x, x ∈ e'.U ∧ x.1 ∈ fp.rd) → decide (j < i) = listed.getD j false := by
   intro j e' he' hor
   have no : ¬ ((j < i ∧ listed.getD j false = false) ∨ (i < j ∧ listed.getD j false = true)) := fun hj => by
    obtain ⟨o', fp', hF⟩ := free j e' he' hj
    rcases hor with ⟨t, h1, h2⟩ | ⟨x, h1, h2⟩
    ·exact hF.slot t h1 h2
    ·exact hF.obj x h1 h2
   rcases Nat.lt_trichotomy j i with h1 | h1 | h1
   ·cases hb : listed.getD j false with
    | true => simp [h1]
    | false => exact absurd (.inl ⟨h1, hb⟩) no
   ·subst h1; rw [hlf]; simp
   ·cases hb : listed.getD j false with
    | false => simp; omega
    | true => exact absurd (.inr ⟨h1, hb⟩) no
  have hd' := Qbh (cur' := (Jgl es (fun j => listed.getD j false) 0 s0).1) (H' := (Jgl es (fun j => listed.getD j false) 0 s0).2) hd
   (fun t ht => Kh7 es _ _ 0 s0 s0 rfl rfl (fun j e' he' hdt => by rw [Nat.zero_add]; exact agree j e' he' (.inl ⟨t, hdt, ht⟩)))
   (fun n hn => Kqr es _ _ 0 s0 s0 rfl rfl (fun j e' he' hx => by
    obtain ⟨x, h1, rfl⟩ := hx
    rw [Nat.zero_add]; exact agree j e' he' (.inr ⟨x, h1, hn⟩)))
   (by rw [(Kam _ _ _ _).2, (Kam _ _ _ _).2])
  have hget := Qbj hlt
  refine Qh5 (st := { st with cur := _, heap := _ }) hΓ hO rfl ho hd' h (fun a' w' ρ' h' => ih _ a' w' ρ' (by simpa using hsz) ?_ ?_ ?_ ?_)
  ·have := count_set hlt hlf
   omega
  ·intro j hj
   rw [hget, Bool.or_eq_true] at hj
   rcases hj with hj | hj
   ·exact hlow j hj
   ·have : j = i := by simpa using hj
    omega
  ·intro j hj k hk
   rw [hget] at hj ⊢
   rw [Bool.or_eq_true] at hj ⊢
   left
   rcases hj with hj | hj
   ·exact hcl j hj k hk
   ·have : j = i := by simpa using hj
    subst this
    exact hbef k hk
  ·have e2 : Jgl es (fun j => (listed.setIfInBounds i true).getD j false) 0 s0 = e.app (Jgl es (fun j => listed.getD j false) 0 s0) :=
    Kqq (k := i) hlf hget es 0 s0 (Nat.zero_le _) (by simpa using he) (fun j e' he' hlt hDj => by
     rw [Nat.zero_add] at hlt hDj
     obtain ⟨_, _, hF⟩ := free j e' he' (.inr ⟨hlt, hDj⟩)
     exact hF.apart)
   rw [e2]
   exact h'
theorem Qok (all : List Oper) : Jp0 all ≤ all.length ∧ (Jp0 all = all.length ∨ Jx6 (Jp0 all) all = true) := by
 unfold Jp0
 split
 ·rename_i b hb
  cases ht : Jx6 b all with
  | true => exact ⟨Nat.le_of_lt (J35 ht).1, .inr ht⟩
  | false => exact ⟨Nat.le_refl _, .inl rfl⟩
 ·cases ht : (K26 all && Jx6 (all.length - 1) all) with
  | true =>
   rw [Bool.and_eq_true] at ht
   exact ⟨Nat.sub_le _ _, .inr ht.2⟩
  | false => exact ⟨Nat.le_refl _, .inl rfl⟩
theorem Qh6 (hm : P.follows .mixedOrders = true) (hΓ : Jcv P Γ) (hO : Jnd P orc) : Jza P Γ orc := by
 intro R id ops c w ρ st a TS rd k r Q hE hx h hn
 obtain ⟨es, fs, hT, hk⟩ := Jrn _ _ _ _ _ hx
 obtain ⟨hi, hk⟩ := Jbd hk
 obtain ⟨l1, _, hat⟩ := Qbf hT
 obtain ⟨c1, c2⟩ := Qok ops.toList
 have c2 : Jp0 ops.toList = ops.size ∨ Jx6 (Jp0 ops.toList) ops.toList = true := by simpa using c2
 generalize Jp0 ops.toList = b at *
 have hL : Qny Γ orc ops.toList b st.heap.length (st.cur, pad orc (ops.toList.take b) st.heap) es fs := ⟨by rw [l1, List.length_take]; omega, c1, fun i o hib hi => by
  obtain ⟨e, fp, g1, g2, g3⟩ := hat i o (by rw [List.getElem?_take_of_lt hib]; exact hi)
  have := g3 0
  simp only [Nat.zero_add, List.take_take, Nat.min_eq_left (Nat.le_of_lt hib)] at this
  exact ⟨e, fp, g1, g2, this⟩, by simpa using hi⟩
 have h1 := h.heap (Tr.pad h.ok (Jrd orc (ops.toList.take b)))
 have h2 : Jdh c w.drew ρ { st with heap := pad orc (ops.toList.take b) st.heap } a TS := h1.heap (Tr.drew h1.ok)
 refine wpIn_region_any hm (Qoj (st := st) hΓ hO hE c2 hL (fun a w ρ h' => hn _ a w ρ hk h') ops.size _ a _ ρ (by simp) (by simp) (fun j hj => ?_) (fun j hj => ?_) ?_)
 ·simp [Array.getD_eq_getD_getElem?, Array.getElem?_replicate] at hj
  split at hj <;> simp at hj
 ·simp [Array.getD_eq_getD_getElem?, Array.getElem?_replicate] at hj
  split at hj <;> simp at hj
 ·rw [J34 es _ 0 _ (fun j _ => by simp only [Array.getD_eq_getD_getElem?, Array.getElem?_replicate]; split <;> rfl)]
  exact h2
end
end Go.AI
namespace Go.AI
open Go Go.RowKit
mutual
/-- Does a type read as plain data of a shape? -/
def rdB (P : Program) : Sch → TypeId → Bool
 | .int k, t => P.cellsOf t == 1 && match P.underlying t with | some (.int j) => j == k | _ => false
 | .bool, t => P.cellsOf t == 1 && match P.underlying t with | some .bool => true | _ => false
 | .str, t => P.cellsOf t == 1 && match P.underlying t with | some .string => true | _ => false
 | .slc s, t => P.cellsOf t == 1 && match P.underlying t with | some (.slice e) => rdB P s e && decide (0 < s.cells) | _ => false
 | .arr n s, t => P.cellsOf t == n * s.cells && match P.underlying t with | some (.array m e) => m == n && rdB P s e | _ => false
 | .pair a b, t => P.cellsOf t == a.cells + b.cells && match P.underlying t with
  | some (.struct fs) => match fs.toList with
   | f :: r => f.offset == 0 && rdB P a f.type && rdF P b r a.cells
   | [] => false
  | _ => false
 | .unit, t => P.cellsOf t == 0 && match P.underlying t with | some (.struct fs) => fs.size == 0 | _ => false
def rdF (P : Program) : Sch → List Field → Nat → Bool
 | .pair a b, f :: r, off => f.offset == off && rdB P a f.type && rdF P b r (off + a.cells)
 | .unit, [], _ => true
 | _, _, _ => false
end
theorem Jk7 {P : Program} : ∀ {s : Sch} {t : TypeId}, rdB P s t = true → P.cellsOf t = s.cells
 | .int _, t, h => by simp only [rdB, Bool.and_eq_true, beq_iff_eq] at h; exact h.1
 | .bool, t, h => by simp only [rdB, Bool.and_eq_true, beq_iff_eq] at h; exact h.1
 | .str, t, h => by simp only [rdB, Bool.and_eq_true, beq_iff_eq] at h; exact h.1
 | .slc _, t, h => by simp only [rdB, Bool.and_eq_true, beq_iff_eq] at h; exact h.1
 | .arr _ _, t, h => by simp only [rdB, Bool.and_eq_true, beq_iff_eq] at h; exact h.1
 | .pair _ _, t, h => by simp only [rdB, Bool.and_eq_true, beq_iff_eq] at h; exact h.1
 | .unit, t, h => by simp only [rdB, Bool.and_eq_true, beq_iff_eq] at h; exact h.1
def Jdc : (s : Sch) → s.T → List Lit
 | .int k, x => [.int k (toI k x)]
 | .bool, x => [.bool x]
 | .str, x => [.string x]
 | .slc _, _ => []
 | .arr _ s, x => (x.map (Jdc s)).flatten
 | .pair a b, x => Jdc a x.1 ++ Jdc b x.2
 | .unit, _ => []
def Sch.cmp : Sch → Bool
 | .slc _ => false
 | .arr _ s => s.cmp
 | .pair a b => a.cmp && b.cmp
 | _ => true
def Sch.dep : Sch → Nat
 | .arr _ s => s.dep + 1
 | .pair a b => max (a.dep + 1) b.dep
 | _ => 0
section
variable {P : Program} {w : World} {A : Nat → Prop}
theorem Kqt {α β : Type} (f : α → Option β) (g : α → β) : ∀ (l : List α), (∀ x, x ∈ l → f x = some (g x)) → l.mapM f = some (l.map g)
 | [], _ => rfl
 | x :: l, h => by
  rw [List.mapM_cons, h x List.mem_cons_self, Kqt f g l fun y hy => h y (List.mem_cons_of_mem _ hy)]
  rfl
def Sch.parts : Sch → Nat
 | .arr n s => n * s.parts
 | .pair a b => a.parts + b.parts
 | .slc _ => 0
 | .unit => 0
 | _ => 1
theorem Jia : ∀ (s : Sch) {x : s.T} {cs : List Value}, Jau w A s x cs → (Jdc s x).length = s.parts
 | .int _, _, _, _ => rfl
 | .bool, _, _, _ => rfl
 | .str, _, _, _ => rfl
 | .slc _, _, _, _ => rfl
 | .unit, _, _, _ => rfl
 | .pair a b, x, cs, h => by
  obtain ⟨c, r, _, h1, h2⟩ := h
  show (Jdc a x.1 ++ Jdc b x.2).length = _
  rw [List.length_append, Jia a h1, Jia b h2]; rfl
 | .arr n s, xs, cs, h => by
  obtain ⟨hl, h⟩ := h
  have key : ∀ (ys : List s.T) (L : List Value), Jbs (Jau w A s) ys L → ((ys.map (Jdc s)).flatten).length = ys.length * s.parts := by
   intro ys
   induction ys with
   | nil => intro L _; simp
   | cons y ys ih =>
    intro L h
    obtain ⟨c, r, _, h1, h2⟩ := h
    simp only [List.map_cons, List.flatten_cons, List.length_append, List.length_cons]
    rw [Jia s h1, ih r h2, Nat.add_mul, Nat.one_mul, Nat.add_comm]
  show ((xs.map (Jdc s)).flatten).length = n * s.parts
  rw [key xs cs h, hl]
theorem Kxz (k : IntKind) {a b : IT k} (h : toI k a = toI k b) : a = b := by
 cases k <;> simp only [toI] at h <;> first
  | exact h
  | exact UInt8.toNat_inj.1 (by exact_mod_cast h)
  | exact UInt32.toNat_inj.1 (by exact_mod_cast h)
theorem Kao : ∀ (s : Sch), s.cmp = true → ∀ {x y : s.T} {cs ds : List Value}, Jau w A s x cs → Jau w A s y ds → (Jdc s x = Jdc s y ↔ Jtw s x y = true)
 | .int k, _, x, y, _, _, _, _ => by simp [Jdc, Jtw]
 | .bool, _, x, y, _, _, _, _ => by simp [Jdc, Jtw]
 | .str, _, x, y, _, _, _, _ => by simp [Jdc, Jtw]
 | .unit, _, x, y, _, _, _, _ => by simp [Jdc, Jtw]
 | .pair a b, hc, x, y, cs, ds, h, k => by
  simp only [Sch.cmp, Bool.and_eq_true] at hc
  obtain ⟨c, r, _, h1, h2⟩ := h
  obtain ⟨c', r', _, k1, k2⟩ := k
  have e1 := Kao a hc.1 h1 k1
  have e2 := Kao b hc.2 h2 k2
  show Jdc a x.1 ++ Jdc b x.2 = Jdc a y.1 ++ Jdc b y.2 ↔ (Jtw a x.1 y.1 && Jtw b x.2 y.2) = true
  rw [Bool.and_eq_true, ← e1, ← e2]
  exact ⟨fun e => List.append_inj e (by rw [Jia a h1, Jia a k1]), fun e => by rw [e.1, e.2]⟩
 | .arr n s, hc, xs, ys, cs, ds, h, k => by
  have key : ∀ (xs ys : List s.T) (L M : List Value), xs.length = ys.length → Jbs (Jau w A s) xs L → Jbs (Jau w A s) ys M → ((xs.map (Jdc s)).flatten = (ys.map (Jdc s)).flatten ↔ Kw7 (Jtw s) xs ys = true) := by
   intro xs
   induction xs with
   | nil => intro ys L M hl _ _; cases ys <;> simp_all [Kw7]
   | cons x xs ih =>
    intro ys L M hl h k
    cases ys with
    | nil => simp at hl
    | cons y ys =>
     obtain ⟨c, r, _, h1, h2⟩ := h
     obtain ⟨c', r', _, k1, k2⟩ := k
     have e1 := Kao s hc h1 k1
     have e2 := ih ys r r' (by simpa using hl) h2 k2
     simp only [List.map_cons, List.flatten_cons, Kw7, Bool.and_eq_true]
     rw [← e1, ← e2]
     exact ⟨fun e => List.append_inj e (by rw [Jia s h1, Jia s k1]), fun e => by rw [e.1, e.2]⟩
  exact key xs ys cs ds (by rw [h.1, k.1]) h.2 k.2
mutual
theorem Ji2 : ∀ (s : Sch), s.cmp = true → ∀ {t : TypeId} {m : Nat}, rdB P s t = true → P.keyTypeAt m t = true → ∀ {x : s.T} {cs : List Value}, Jau w A s x cs → ∀ {D : Nat}, s.dep < D → P.keyLits D t cs = some (Jdc s x)
 | .slc _, hc, _, _, _, _, _, _, _, _, _ => by cases hc
 | .int k, _, t, m, hr, _, x, cs, h, D, hD => by
  cases D with
  | zero => omega
  | succ D =>
   simp only [rdB, Bool.and_eq_true] at hr
   obtain ⟨rfl, hw⟩ := h
   have h2 := hr.2
   split at h2
   ·rename_i j hj
    simp only [beq_iff_eq] at h2
    subst h2
    simp [Program.keyLits, hj, hw, Jdc]
   ·cases h2
 | .bool, _, t, m, hr, _, x, cs, h, D, hD => by
  cases D with
  | zero => omega
  | succ D =>
   simp only [rdB, Bool.and_eq_true] at hr
   obtain rfl := h
   have h2 := hr.2
   split at h2
   ·rename_i hj
    simp [Program.keyLits, hj, Jdc]
   ·cases h2
 | .str, _, t, m, hr, _, x, cs, h, D, hD => by
  cases D with
  | zero => omega
  | succ D =>
   simp only [rdB, Bool.and_eq_true] at hr
   obtain ⟨rfl, hm⟩ := h
   have h2 := hr.2
   split at h2
   ·rename_i hj
    have hs : (⟨x.toArray⟩ : ByteArray).size ≤ maxLen := by simpa [ByteArray.size] using hm
    simp [Program.keyLits, hj, hs, Jdc]
   ·cases h2
 | .arr n s, hc, t, m, hr, hk, x, cs, h, D, hD => by
  cases D with
  | zero => omega
  | succ D =>
   have hlen := Jau.length (.arr n s) h
   have hct := Jk7 hr
   simp only [rdB, Bool.and_eq_true] at hr
   have h2 := hr.2
   split at h2
   ·rename_i m' e hj
    simp only [Bool.and_eq_true, beq_iff_eq] at h2
    obtain ⟨rfl, hre⟩ := h2
    have hce := Jk7 hre
    cases m with
    | zero => simp [Program.keyTypeAt] at hk
    | succ m =>
     have hke : P.keyTypeAt m e = true := by simpa [Program.keyTypeAt, hj] using hk
     obtain ⟨hl, hL⟩ := h
     have key : ∀ i, i < m' → P.keyLits D e ((cs.drop (i * P.cellsOf e)).take (P.cellsOf e)) = some (Jdc s (x.getD i s.dflt)) := by
      intro i hi
      have hi' : i < x.length := by omega
      have hrep : Jau w A s (x.getD i s.dflt) ((cs.drop (i * s.cells)).take s.cells) := Jbs.at_ (fun _ _ => Jau.length s) hL (by simp [List.getD, List.getElem?_eq_getElem hi'])
      rw [hce]
      exact Ji2 s hc hre hke hrep (by simp only [Sch.dep] at hD; omega)
     simp only [Program.keyLits, hj]
     rw [if_pos (by rw [hlen, hct]), Kqt _ (fun i => Jdc s (x.getD i s.dflt)) _ (fun i hi => key i (List.mem_range.1 hi))]
     simp only [Option.map_some, Jdc]
     congr 2
     apply List.ext_getElem
     ·simp [hl]
     ·intro i h1 h2
      simp only [List.length_map] at h2
      simp [List.getD, List.getElem?_eq_getElem h2]
   ·cases h2
 | .unit, _, t, m, hr, hk, x, cs, h, D, hD => by
  cases D with
  | zero => omega
  | succ D =>
   have hct := Jk7 hr
   simp only [rdB, Bool.and_eq_true] at hr
   obtain rfl := h
   have h2 := hr.2
   split at h2
   ·rename_i fs hj
    have e : fs = #[] := Array.eq_empty_of_size_eq_zero (by simpa using h2)
    subst e
    have hc0 : P.cellsOf t = 0 := hct
    simp [Program.keyLits, hj, Jdc, hc0]
   ·cases h2
 | .pair a b, hc, t, m, hr, hk, x, cs, h, D, hD => by
  cases D with
  | zero => omega
  | succ D =>
   have hlen := Jau.length (.pair a b) h
   have hct := Jk7 hr
   simp only [Sch.cmp, Bool.and_eq_true] at hc
   simp only [rdB, Bool.and_eq_true] at hr
   have h2 := hr.2
   split at h2
   ·rename_i fs hj
    split at h2
    ·rename_i f r hf
     simp only [Bool.and_eq_true, beq_iff_eq] at h2
     obtain ⟨⟨ho, h3⟩, h4⟩ := h2
     cases m with
     | zero => simp [Program.keyTypeAt] at hk
     | succ m =>
      simp only [Program.keyTypeAt, hj, Bool.and_eq_true] at hk
      have hall : ∀ g, g ∈ fs.toList → (g.name != "_") = true ∧ P.keyTypeAt m g.type = true := by
       intro g hg
       have := Array.all_eq_true_iff_forall_mem.1 hk.1.1 g (Array.mem_toList_iff.1 hg)
       simpa only [Bool.and_eq_true] using this
      rw [hf] at hall
      obtain ⟨c, q, rfl, h5, h6⟩ := h
      have hcl := Jau.length a h5
      have hca := Jk7 h3
      simp only [Sch.dep] at hD
      have k1 : P.keyLits D f.type (((c ++ q).drop f.offset).take (P.cellsOf f.type)) = some (Jdc a x.1) := by
       rw [ho, hca, ← hcl]
       simpa using Ji2 a hc.1 h3 (hall f List.mem_cons_self).2 h5 (D := D) (by omega)
      obtain ⟨L, k2, k3⟩ := Kqu b hc.2 h4 (fun g hg => (hall g (List.mem_cons_of_mem _ hg)).2) h6 (D := D) (by omega) c hcl
      simp only [Program.keyLits, hj]
      rw [if_pos ⟨by rw [hlen, hct], by
       rw [Array.all_eq_true_iff_forall_mem]
       intro g hg
       exact (hall g (by rw [← hf]; exact Array.mem_toList_iff.2 hg)).1⟩, hf, List.mapM_cons, k1]
      simp only [Option.bind_eq_bind, Option.bind_some, k2, Option.pure_def, Option.map_some, Jdc, List.flatten_cons, k3]
    ·cases h2
   ·cases h2
theorem Kqu : ∀ (s : Sch), s.cmp = true → ∀ {r : List Field} {off m : Nat}, rdF P s r off = true → (∀ g, g ∈ r → P.keyTypeAt m g.type = true) → ∀ {x : s.T} {q : List Value}, Jau w A s x q → ∀ {D : Nat}, s.dep ≤ D →
  ∀ (p : List Value), p.length = off → ∃ L, (r.mapM fun f => P.keyLits D f.type (((p ++ q).drop f.offset).take (P.cellsOf f.type))) = some L ∧ L.flatten = Jdc s x
 | .unit, _, [], off, m, _, _, x, q, h, D, _, p, _ => ⟨[], rfl, rfl⟩
 | .pair a b, hc, f :: r, off, m, hr, hall, x, q, h, D, hD, p, hp => by
  simp only [Sch.cmp, Bool.and_eq_true] at hc
  simp only [rdF, Bool.and_eq_true, beq_iff_eq] at hr
  obtain ⟨⟨ho, h3⟩, h4⟩ := hr
  obtain ⟨c, q', rfl, h5, h6⟩ := h
  have hcl := Jau.length a h5
  have hca := Jk7 h3
  simp only [Sch.dep] at hD
  have k1 : P.keyLits D f.type (((p ++ (c ++ q')).drop f.offset).take (P.cellsOf f.type)) = some (Jdc a x.1) := by
   rw [ho, hca, ← hcl, ← hp]
   simpa using Ji2 a hc.1 h3 (hall f List.mem_cons_self) h5 (D := D) (by omega)
  obtain ⟨L, k2, k3⟩ := Kqu b hc.2 h4 (fun g hg => hall g (List.mem_cons_of_mem _ hg)) h6 (D := D) (by omega) (p ++ c) (by rw [List.length_append, hp, hcl])
  rw [List.append_assoc] at k2
  refine ⟨Jdc a x.1 :: L, ?_, by simp only [List.flatten_cons, k3, Jdc]⟩
  rw [List.mapM_cons, k1]
  simp only [Option.bind_eq_bind, Option.bind_some, k2, Option.pure_def]
 | .int _, _, [], _, _, hr, _, _, _, _, _, _, _, _ => by simp [rdF] at hr
 | .int _, _, _ :: _, _, _, hr, _, _, _, _, _, _, _, _ => by simp [rdF] at hr
 | .bool, _, [], _, _, hr, _, _, _, _, _, _, _, _ => by simp [rdF] at hr
 | .bool, _, _ :: _, _, _, hr, _, _, _, _, _, _, _, _ => by simp [rdF] at hr
 | .str, _, [], _, _, hr, _, _, _, _, _, _, _, _ => by simp [rdF] at hr
 | .str, _, _ :: _, _, _, hr, _, _, _, _, _, _, _, _ => by simp [rdF] at hr
 | .slc _, hc, _, _, _, _, _, _, _, _, _, _, _, _ => by cases hc
 | .arr _ _, _, [], _, _, hr, _, _, _, _, _, _, _, _ => by simp [rdF] at hr
 | .arr _ _, _, _ :: _, _, _, hr, _, _, _, _, _, _, _, _ => by simp [rdF] at hr
 | .pair _ _, _, [], _, _, hr, _, _, _, _, _, _, _, _ => by simp [rdF] at hr
 | .unit, _, _ :: _, _, _, hr, _, _, _, _, _, _, _, _ => by simp [rdF] at hr
end
def Kap (P : Program) (t : TypeId) : Bool := match P.underlying t with
 | some (.array _ _) => true
 | some (.struct _) => true
 | _ => false
def eqB (P : Program) (s : Sch) (t : TypeId) : Bool := s.cmp && s.agg && decide (s.dep < 20) && rdB P s t && P.keyTypeAt 20 t && Kap P t && !P.eqGuardType P.depth t
theorem Qol {s : Sch} {t : TypeId} (h : eqB P s t = true) : EqOk P t s := by
 simp only [eqB, Bool.and_eq_true, decide_eq_true_eq, Bool.not_eq_true'] at h
 obtain ⟨⟨⟨⟨⟨⟨hc, ha⟩, hd⟩, hr⟩, hk⟩, hw⟩, hg⟩ := h
 refine ⟨ha, fun w A x y cs ds hx hy => ?_⟩
 have hcells := Jk7 hr
 have form : ∀ {z : s.T} {L : List Value}, Jau w A s z L → (Value.agg L.toArray).formed P t = true := by
  intro z L hz
  have hl := Jau.length s hz
  unfold Value.formed
  unfold Kap at hw
  split at hw
  ·rename_i n e he; simp [he, hl, hcells]
  ·rename_i fs he; simp [he, hl, hcells]
  ·cases hw
 obtain ⟨r, h1, h2⟩ := run_equalIn_deep 9980 20 t hk w 20 20 (.agg cs.toArray) (.agg ds.toArray) (Jdc s x) (Jdc s y) (form hx) (form hy)
  (Ji2 s hc hr hk hx hd) (Ji2 s hc hr hk hy hd)
 have e : r = Jtw s x y := by
  have := h2.trans (Kao s hc hx hy)
  cases r <;> cases hb : Jtw s x y <;> simp_all
 refine ⟨by rw [← e]; exact h1, fun op xo yo => ?_⟩
 unfold eqGuard
 cases op <;> first
  | rfl
  | simp [hg]
end
def keyB (P : Program) (s : Sch) (t : TypeId) : Bool :=
 match s with
 | .int q => (match P.underlying t with | some (.int j) => j == q | _ => false)
 | s => s.cmp && s.agg && decide (s.dep < P.types.size + 1) && rdB P s t && P.keyType t && Kap P t && P.tiled (P.types.size + 1) t && decide (P.types.size + 2 ≤ 10000)
theorem K3t {α : Type} {f : α → α → Bool} (hf : ∀ a b, f a b = true ↔ a = b) : ∀ a b : List α, Kw7 f a b = true ↔ a = b
 | [], [] => by simp [Kw7]
 | [], _ :: _ => by simp [Kw7]
 | _ :: _, [] => by simp [Kw7]
 | a :: l, b :: m => by simp only [Kw7, Bool.and_eq_true, hf, K3t hf l m, List.cons.injEq]
theorem Jwc : ∀ (s : Sch), s.cmp = true → ∀ a b : s.T, Jtw s a b = true ↔ a = b
 | .int k, _, a, b => by
  show (toI k a == toI k b) = true ↔ _
  rw [beq_iff_eq]; exact ⟨Kxz k, fun h => by rw [h]⟩
 | .bool, _, a, b => by show ((a : Bool) == b) = true ↔ _; exact beq_iff_eq
 | .str, _, a, b => by show ((a : List UInt8) == b) = true ↔ _; exact beq_iff_eq
 | .slc _, h, _, _ => by cases h
 | .arr _ s, h, a, b => K3t (Jwc s h) a b
 | .pair s t, h, a, b => by
  have h : s.cmp = true ∧ t.cmp = true := by simpa [Sch.cmp] using h
  show (Jtw s a.1 b.1 && Jtw t a.2 b.2) = true ↔ _
  rw [Bool.and_eq_true, Jwc s h.1, Jwc t h.2]
  exact ⟨fun e => Prod.ext e.1 e.2, fun e => by rw [e]; exact ⟨rfl, rfl⟩⟩
 | .unit, _, a, b => by show true = true ↔ _; simp
theorem J8o {w : World} {A : Nat → Prop} : ∀ (s : Sch), s.cmp = true → ∀ {x : s.T} {cs ds : List Value}, Jau w A s x cs → Jau w A s x ds → cs = ds
 | .int _, _, _, _, _, h, k => h.1.trans k.1.symm
 | .bool, _, _, _, _, h, k => (show _ = _ from h).trans (show _ = _ from k).symm
 | .str, _, _, _, _, h, k => h.1.trans k.1.symm
 | .slc _, hc, _, _, _, _, _ => by cases hc
 | .unit, _, _, _, _, h, k => (show _ = _ from h).trans (show _ = _ from k).symm
 | .pair a b, hc, _, _, _, h, k => by
  simp only [Sch.cmp, Bool.and_eq_true] at hc
  obtain ⟨c, r, rfl, h1, h2⟩ := h
  obtain ⟨c', r', rfl, k1, k2⟩ := k
  rw [J8o a hc.1 h1 k1, J8o b hc.2 h2 k2]
 | .arr _ s, hc, xs, cs, ds, h, k => by
  have key : ∀ (xs : List s.T) (L M : List Value), Jbs (Jau w A s) xs L → Jbs (Jau w A s) xs M → L = M := by
   intro xs
   induction xs with
   | nil => intro L M h k; exact (show L = [] from h).trans (show M = [] from k).symm
   | cons x xs ih =>
    rintro L M ⟨c, r, rfl, h1, h2⟩ ⟨c', r', rfl, k1, k2⟩
    rw [J8o s hc h1 k1, ih _ _ h2 k2]
  exact key xs cs ds h.2 k.2
theorem Qlg {P : Program} {t : TypeId} {q : IntKind} (h : P.underlying t = some (.int q)) : Qhd P t (.int q) where
 keyed := Maps.int_keyed h
 isKey hr := by
  obtain ⟨rfl, hw⟩ := J69.key hr
  exact ⟨_, Maps.keyOf_int_mk h hw⟩
 eqv h1 h2 := (J69.key h1).1.trans (J69.key h2).1.symm
 inj h1 h2 := by
  have e := (J69.key h1).1.symm.trans (J69.key h2).1
  simp only [Value.int.injEq, true_and] at e
  exact Kxz q e
 beq x y := Jwc (.int q) rfl x y
theorem Qh7 {P : Program} {s : Sch} {t : TypeId} (hc : s.cmp = true) (ha : s.agg = true) (hd : s.dep < P.types.size + 1) (hr : rdB P s t = true) (hk : P.keyType t = true) (hw : Kap P t = true) (ht : P.tiled (P.types.size + 1) t = true) (hs : P.types.size + 2 ≤ 10000) : Qhd P t s := by
 have hcells := Jk7 hr
 have form : ∀ {w A} {z : s.T} {L : List Value}, Jau w A s z L → (Value.agg L.toArray).formed P t = true := by
  intro w A z L hz
  have hl := Jau.length s hz
  unfold Value.formed
  unfold Kap at hw
  split at hw
  ·rename_i n e he; simp [he, hl, hcells]
  ·rename_i fs he; simp [he, hl, hcells]
  ·cases hw
 have rep : ∀ {w A} {x : s.T} {u : Value}, J69 w A s x u → ∃ cs, u = .agg cs.toArray ∧ Jau w A s x cs := by
  intro w A x u h
  unfold J69 at h
  rwa [if_pos ha] at h
 have hk' : P.keyTypeAt (P.types.size + 1) t = true := hk
 refine ⟨Maps.Keyed.of_law (deep_law hs hk' ht (by unfold Kap at hw; split at hw <;> simp_all)), fun {w A x u} h => ?_, fun h1 h2 => ?_, fun h1 h2 => ?_, Jwc s hc⟩
 ·obtain ⟨cs, rfl, hC⟩ := rep h
  have hl := Ji2 s hc hr hk' hC (D := P.types.size + 1) hd
  refine ⟨.string (keyBytes (Jdc s x)), ?_⟩
  unfold keyOf
  unfold Kap at hw
  split at hw
  ·rename_i n e he
   simp only [he, hk, form hC, Bool.and_self, if_true]
   show Option.map _ (P.keyLits _ t cs) = _
   rw [hl]; rfl
  ·rename_i fs he
   simp only [he, hk, form hC, Bool.and_self, if_true]
   show Option.map _ (P.keyLits _ t cs) = _
   rw [hl]; rfl
  ·cases hw
 ·obtain ⟨cs, e1, c1⟩ := rep h1
  obtain ⟨ds, e2, c2⟩ := rep h2
  rw [e1, e2, J8o s hc c1 c2]
 ·obtain ⟨cs, e1, c1⟩ := rep h1
  obtain ⟨ds, e2, c2⟩ := rep h2
  have e : cs = ds := by rw [e1] at e2; simpa using e2
  subst e
  have l1 := Ji2 s hc hr hk' c1 (D := P.types.size + 1) hd
  have l2 := Ji2 s hc hr hk' c2 (D := P.types.size + 1) hd
  rw [l1] at l2
  exact (Jwc s hc _ _).1 ((Kao s hc c1 c2).1 (by simpa using l2))
theorem Qlh {P : Program} {s : Sch} {t : TypeId} (h : keyB P s t = true) : Qhd P t s := by
 unfold keyB at h
 split at h
 ·rename_i q
  split at h
  ·rename_i j hj
   rw [beq_iff_eq] at h
   subst h; exact Qlg hj
  ·cases h
 ·simp only [Bool.and_eq_true, decide_eq_true_eq] at h
  obtain ⟨⟨⟨⟨⟨⟨⟨hc, ha⟩, hd⟩, hr⟩, hk⟩, hw⟩, ht⟩, hs⟩ := h
  exact Qh7 hc ha hd hr hk hw ht hs
end Go.AI
namespace Go.AI
open Go Go.RowKit
def zB : Value → Value → Bool
 | .int j m, .int k n => j == k && m == n
 | .bool a, .bool b => a == b
 | .string s, .string t => s.size == 0 && t.size == 0
 | .slice none 0 0, .slice none 0 0 => true
 | .nilFunc, .nilFunc => true
 | .pointer none, .pointer none => true
 | .map none, .map none => true
 | _, _ => false
def zlB : List Value → List Value → Bool
 | [], [] => true
 | a :: l, b :: m => zB a b && zlB l m
 | _, _ => false
theorem zB_ok {a b : Value} (h : zB a b = true) : a = b := by
 unfold zB at h
 split at h
 ·simp only [Bool.and_eq_true, beq_iff_eq] at h; rw [h.1, h.2]
 ·simp only [beq_iff_eq] at h; rw [h]
 ·rename_i s t
  simp only [Bool.and_eq_true, beq_iff_eq] at h
  have key : ∀ s : ByteArray, s.size = 0 → s = ⟨#[]⟩ := fun s hs => by
   obtain ⟨d⟩ := s
   have : d = #[] := Array.eq_empty_of_size_eq_zero hs
   rw [this]
  rw [key s h.1, key t h.2]
 ·rfl
 ·rfl
 ·rfl
 ·rfl
 ·cases h
theorem K3u : ∀ {l m : List Value}, zlB l m = true → l = m
 | [], [], _ => rfl
 | [], _ :: _, h => by cases h
 | _ :: _, [], h => by cases h
 | a :: l, b :: m, h => by
  simp only [zlB, Bool.and_eq_true] at h
  rw [zB_ok h.1, K3u h.2]
def Klc (P : Program) (t : TypeId) (s : Sch) : Bool :=
 match P.info? t with
 | some i => match i.zero with
  | some z => zlB z.cells.toList (Jk1 s) && i.size == s.cells && decide (i.bytes ≤ 65536) && decide (0 < i.bytes)
  | none => false
 | none => false
theorem Jro {P : Program} {t : TypeId} {s : Sch} (h : Klc P t s = true) : ∃ i z, P.info? t = some i ∧ i.zero = some z ∧ z.cells.toList = Jk1 s ∧ i.size = s.cells ∧ i.bytes ≤ 65536 ∧ 0 < i.bytes := by
 unfold Klc at h
 split at h
 ·rename_i i hi
  split at h
  ·rename_i z hz
   simp only [Bool.and_eq_true, beq_iff_eq, decide_eq_true_eq] at h
   exact ⟨i, z, hi, hz, K3u h.1.1.1, h.1.1.2, h.1.2, h.2⟩
  ·cases h
 ·cases h
def J8p : Option TypeDesc → Bool
 | some (.struct _) => true
 | _ => false
theorem Kaq {d : Option TypeDesc} (h : J8p d = true) : ∃ fs, d = some (.struct fs) := by
 unfold J8p at h
 split at h
 ·exact ⟨_, rfl⟩
 ·cases h
def Qbk (P : Program) : Sch → TypeId → Bool
 | .int k, t => Klc P t (.int k) && match P.underlying t with | some (.int j) => j == k | _ => false
 | .bool, t => Klc P t .bool && match P.underlying t with | some .bool => true | _ => false
 | .str, t => Klc P t .str && match P.underlying t with | some .string => true | _ => false
 | .slc s, t => Klc P t (.slc s) && match P.underlying t with | some (.slice e) => Qbk P s e | _ => false
 | .arr n s, t => Klc P t (.arr n s) && match P.underlying t with | some (.array m e) => m == n && Qbk P s e | _ => false
 | .pair a b, t => Klc P t (.pair a b) && J8p (P.underlying t)
 | .unit, t => Klc P t .unit && J8p (P.underlying t)
theorem Kx0 {P : Program} : ∀ (s : Sch) {t : TypeId}, Qbk P s t = true → Jt2 P t s
 | .int k, t, h => by
  simp only [Qbk, Bool.and_eq_true] at h
  refine ⟨Jro h.1, ?_⟩
  have h2 := h.2
  split at h2
  ·rename_i j e; rw [e]; simp only [beq_iff_eq] at h2; rw [h2]
  ·cases h2
 | .bool, t, h => by
  simp only [Qbk, Bool.and_eq_true] at h
  refine ⟨Jro h.1, ?_⟩
  have h2 := h.2
  split at h2
  ·assumption
  ·cases h2
 | .str, t, h => by
  simp only [Qbk, Bool.and_eq_true] at h
  refine ⟨Jro h.1, ?_⟩
  have h2 := h.2
  split at h2
  ·assumption
  ·cases h2
 | .slc s, t, h => by
  simp only [Qbk, Bool.and_eq_true] at h
  refine ⟨Jro h.1, ?_⟩
  have h2 := h.2
  split at h2
  ·rename_i e he; exact ⟨e, he, Kx0 s h2⟩
  ·cases h2
 | .arr n s, t, h => by
  simp only [Qbk, Bool.and_eq_true] at h
  refine ⟨Jro h.1, ?_⟩
  have h2 := h.2
  split at h2
  ·rename_i m e he
   simp only [Bool.and_eq_true, beq_iff_eq] at h2
   exact ⟨e, by rw [he, h2.1], Kx0 s h2.2⟩
  ·cases h2
 | .pair a b, t, h => by
  simp only [Qbk, Bool.and_eq_true] at h
  exact ⟨Jro h.1, Kaq h.2⟩
 | .unit, t, h => by
  simp only [Qbk, Bool.and_eq_true] at h
  exact ⟨Jro h.1, Kaq h.2⟩
def Qli (d : TypeDesc) : TK → Bool
 | .other => match d with | .array _ _ => false | .struct _ => false | .slice _ => false | _ => true
 | .func => match d with | .func _ _ _ => true | _ => false
 | .slice e => match d with | .slice e' => e' == e | _ => false
 | .array n e => match d with | .array m e' => m == n && e' == e | _ => false
 | .struct fs => match d with | .struct gs => decide (fs = gs.toList.map fun f => (f.offset, f.type)) | _ => false
 | .ptr e => match d with | .pointer e' => e' == e | _ => false
 | .map k v => match d with | .map k' v' => k' == k && v' == v | _ => false
theorem Qh8 {d : TypeDesc} {k : TK} (h : Qli d k = true) : Qad d k := by
 cases k <;> cases d <;> simp only [Qli, Bool.false_eq_true, Bool.and_eq_true, beq_iff_eq, decide_eq_true_eq] at h <;> simp_all [Qad]
def tiB (P : Program) (Γ : Gam) (t : TypeId) (ti : TI) : Bool :=
 match P.info? t, P.underlying t with
 | some i, some d => i.size == ti.cells && Qli d ti.kind && (ti.agg || ti.cells == 1 && (match i.zero with | some v => v.oneCell' | none => true)) &&
   (match ti.sch with
    | none => true
    | some s => Qbk P s t && s.agg == ti.agg) &&
   (match ti.kind with
    | .struct fs => match Jml Γ fs with
     | some (_, L) => match i.zero with
      | some v => zlB v.cells.toList L
      | none => false
     | none => true
    | _ => true) &&
   (match J3u Γ ti with
    | some (_, L) => match i.zero with
     | some v => zlB v.cells.toList L
     | none => false
    | none => true) &&
   (!ti.eq || match ti.sch with
    | none => true
    | some s => eqB P s t) &&
   (!ti.eq || match ti.kind with
    | .map k _ => match Γ.sch k with
     | none => true
     | some s => keyB P s k
    | _ => true)
 | _, _ => false
theorem Qom {P : Program} {Γ : Gam} {t : TypeId} {ti : TI} (h : tiB P Γ t ti = true) : Kxe P Γ t ti := by
 unfold tiB at h
 split at h
 ·rename_i i d hi hd
  simp only [Bool.and_eq_true, beq_iff_eq, Bool.or_eq_true] at h
  obtain ⟨⟨⟨⟨⟨⟨⟨h1, h2⟩, h3⟩, h4⟩, h5⟩, h7⟩, h6⟩, h8⟩ := h
  refine ⟨⟨i, d, hi, hd, h1, Qh8 h2⟩, fun ha => ?_, fun ha i' v hi' hv => ?_, fun s hs => ?_, fun fs z L hk hz => ?_, fun z L hz => ?_, fun he s hs => ?_, fun he k v s hm hs => ?_⟩
  ·rcases h3 with h3 | h3
   ·rw [ha] at h3; cases h3
   ·exact h3.1
  ·rcases h3 with h3 | h3
   ·rw [ha] at h3; cases h3
   ·rw [hi] at hi'; cases hi'
    have := h3.2
    rw [hv] at this; exact this
  ·rw [hs] at h4
   simp only [Bool.and_eq_true, beq_iff_eq] at h4
   exact ⟨Kx0 s h4.1, h4.2⟩
  ·rw [hk] at h5
   simp only [hz] at h5
   split at h5
   ·rename_i v hv
    exact ⟨i, v, hi, hv, K3u h5⟩
   ·cases h5
  ·simp only [hz] at h7
   split at h7
   ·rename_i v hv
    exact ⟨i, v, hi, hv, K3u h7⟩
   ·cases h7
  ·rw [hs, he] at h6
   exact Qol (by simpa using h6)
  ·rw [hm, he] at h8
   simp only [hs] at h8
   exact Qlh (by simpa using h8)
 ·cases h
def gamB (P : Program) (Γ : Gam) : Bool := (List.range Γ.length).all fun t => match Γ.at_ t with
 | none => true
 | some ti => tiB P Γ t ti
theorem Qlj {P : Program} {Γ : Gam} (h : gamB P Γ = true) : Jcv P Γ := by
 intro t ti ht
 have hlt : t < Γ.length := by
  rcases Nat.lt_or_ge t Γ.length with h' | h'
  ·exact h'
  ·simp [Gam.at_, List.getElem?_eq_none h'] at ht
 have := List.all_eq_true.1 h t (List.mem_range.2 hlt)
 rw [ht] at this
 exact Qom this
def Qj7 (P : Program) : Bool := P.funcs.toList.all fun fn => fn.body.isNone || !(fn.name == "runtime.NumGoroutine")
theorem Qbl {P : Program} (h : Qj7 P = true) : K6k P := by
 intro f fn hf hb
 have hm : fn ∈ P.funcs.toList := by
  rw [← Array.getElem?_toList] at hf
  exact List.mem_of_getElem? hf
 have := List.all_eq_true.1 h fn hm
 simpa [hb] using this
def Qbm (P : Program) : Bool := P.funcs.toList.all fun fn => match fn.body with
 | some c => J53 ((Jb2 c).map (·.1))
 | none => true
theorem Kh9 {α : Type} : ∀ {l : List (Nat × α)} {x : Nat × α}, x ∈ l → (l.map (·.1)).Nodup → l.find? (fun y => Nat.beq y.1 x.1) = some x
 | [], _, h, _ => by cases h
 | y :: l, x, h, hn => by
  simp only [List.map_cons, List.nodup_cons] at hn
  rw [List.find?_cons]
  rcases List.mem_cons.1 h with rfl | h
  ·simp
  ·have : Nat.beq y.1 x.1 = false := by
    cases hb : Nat.beq y.1 x.1 with
    | false => rfl
    | true => exact absurd (List.mem_map.2 ⟨x, h, (Nat.eq_of_beq_eq_true hb).symm⟩) hn.1
   rw [this]
   exact Kh9 h hn.2
theorem K6r {P : Program} (h : Qbm P = true) : Jou P := by
 intro f x hx
 have hc : J53 ((Jb2 (Jdv P f)).map (·.1)) = true := by
  unfold Jdv
  cases hf : P.funcs[f]? with
  | none => rfl
  | some fn =>
   have := List.all_eq_true.1 h fn (by
    rw [← Array.getElem?_toList] at hf
    exact List.mem_of_getElem? hf)
   simp only [Option.bind_some]
   cases hb : fn.body with
   | none => rfl
   | some c => rw [hb] at this; exact this
 unfold Jrf
 rw [Kh9 hx (J05 hc)]
 rfl
end Go.AI
namespace Go.AI
open Go Go.RowKit
@[reducible] def PM.T : PM → Type
 | .d s => s.T
 | .o _ s => List s.T
 | .f => Nat
@[reducible] def Jaz : List PM → Type
 | [] => Unit
 | m :: ms => m.T × Jaz ms
def PM.take : (m : PM) → BV → Option m.T
 | .d s, .d t x => if h : t = s then some (Jd6 h x) else none
 | .o E s, .o E' t xs => if h : t = s then (if E' = E then some (Jd6 (s := .slc t) (t := .slc s) (by rw [h]) xs) else none) else none
 | .f, .f g => some g
 | _, _ => none
def PM.inst : (m : PM) → m.T → BV
 | .d s, x => .d s x
 | .o E s, x => .o E s x
 | .f, g => .f g
theorem PM.take_eq : ∀ (m : PM) {b : BV} {x : m.T}, m.take b = some x → b = m.inst x
 | .d s, b, x, h => by
  cases b <;> simp only [PM.take] at h <;> try cases h
  split at h
  ·rename_i hs; subst hs; cases h; rfl
  ·cases h
 | .o E s, b, x, h => by
  cases b <;> simp only [PM.take] at h <;> try cases h
  split at h
  ·rename_i hs; subst hs
   split at h
   ·rename_i he; subst he; cases h; rfl
   ·cases h
  ·cases h
 | .f, b, x, h => by cases b <;> simp only [PM.take] at h <;> first | (cases h; rfl) | cases h
def Jov : (ms : List PM) → List BV → Option (Jaz ms)
 | [], [] => some ()
 | m :: ms, b :: bs => match m.take b, Jov ms bs with
  | some x, some y => some (x, y)
  | _, _ => none
 | _, _ => none
def Jae : (ms : List PM) → Jaz ms → List BV
 | [], _ => []
 | m :: ms, x => m.inst x.1 :: Jae ms x.2
theorem Kar : ∀ (ms : List PM) {bs : List BV} {x : Jaz ms}, Jov ms bs = some x → bs = Jae ms x
 | [], bs, x, h => by cases bs <;> simp only [Jov] at h <;> first | rfl | cases h
 | m :: ms, bs, x, h => by
  cases bs with
  | nil => simp [Jov] at h
  | cons b bs =>
   simp only [Jov] at h
   split at h
   ·rename_i y z h1 h2; cases h
    rw [PM.take_eq m h1, Kar ms h2]; rfl
   ·cases h
def Orc.of (ps : List PM) (fresh : Bool) (rows : Nat) (f : Jaz ps → Bool × List BV) : Orc := { ps := ps, fresh := fresh, rows := rows, fn := fun bs => (Jov ps bs).map f }
def Jbc : List (FuncId × Orc) → Joq
 | [], _ => none
 | p :: l, g => bif Nat.beq p.1 g then some p.2 else Jbc l g
theorem Jac {P : Program} : ∀ {l : List (FuncId × Orc)}, (∀ p, p ∈ l → Jad P p.1 p.2) → Jnd P (Jbc l)
 | [], _ => fun f k h => by cases h
 | p :: l, hl => fun f k h => by
  simp only [Jbc] at h
  rcases Jef h with ⟨hb, h⟩ | ⟨_, h⟩
  ·cases h
   rw [← Nat.eq_of_beq_eq_true hb]
   exact hl p List.mem_cons_self
  ·exact Jac (fun q hq => hl q (List.mem_cons_of_mem _ hq)) f k h
def Jav : List (FuncId × Kpm) → FuncId → Kpm
 | [], _ => {}
 | p :: l, g => bif Nat.beq p.1 g then p.2 else Jav l g
def Jaw : List (FuncId × Nat) → FuncId → Nat
 | [], _ => 0
 | p :: l, g => bif Nat.beq p.1 g then p.2 else Jaw l g
structure LoE (R : Type) where
 f : FuncId
 key : Nat
 o : LO R
def Jcf {R : Type} : List (LoE R) → FuncId → LOs R
 | [], _ => fun _ => none
 | p :: l, g => fun key => bif Nat.beq p.f g && Nat.beq p.key key then some p.o else Jcf l g key
def LO.orT {R : Type} (t : Tpl) (f : t.T → (Jhi → ASt → Option R) → Option R) (b : LO R) : LO R := fun st k => match t.take st with
 | some x => f x k
 | none => b st k
section
variable {R : Type} {P : Program} {B : Jbu R} {F : Nat}
def K6s (P : Program) (B : Jbu R) (F d : Nat) (f : FuncId) (body : Code) : ASt → (Jhi → ASt → Option R) → Option R :=
 fun st k => Jji B.Γ B.orc (Jk4 P B F (d + B.need f)) f (B.lo f) (Jm7 P B.toBook f) F body st k
def Qlk (P : Program) (B : Jbu R) (F : Nat) (e : LoE R) (body : Code) : Prop :=
 ∀ d st k r, e.o st k = some r → Jy1 (K6s P B F d e.f body) (Jm7 P B.toBook e.f e.key) F st k = some r
def Qll (P : Program) (B : Jbu R) (F : Nat) (e : LoE R) : Prop := ∀ body, body ∈ Jda (Jdv P e.f) → Jc9 body = e.key → Qlk P B F e body
theorem Ja0 {l : List (LoE R)} (hB : B.lo = Jcf l) (h : ∀ e, e ∈ l → Qll P B F e) : Jhk P B F := by
 intro f body hb o ho d st k r hr
 have key : ∀ (l : List (LoE R)), (∀ e, e ∈ l → Qll P B F e) → Jcf l f (Jc9 body) = some o → ∃ e, e ∈ l ∧ e.f = f ∧ e.key = Jc9 body ∧ e.o = o := by
  intro l
  induction l with
  | nil => intro _ h; cases h
  | cons p l ih =>
   intro hl h
   simp only [Jcf] at h
   rcases Jef h with ⟨hc, h⟩ | ⟨_, h⟩
   ·cases h
    simp only [Bool.and_eq_true] at hc
    exact ⟨p, List.mem_cons_self, Nat.eq_of_beq_eq_true hc.1, Nat.eq_of_beq_eq_true hc.2, rfl⟩
   ·obtain ⟨e, h1, h2⟩ := ih (fun q hq => hl q (List.mem_cons_of_mem _ hq)) h
    exact ⟨e, List.mem_cons_of_mem _ h1, h2⟩
 rw [hB] at ho
 obtain ⟨e, h1, rfl, h3, rfl⟩ := key l h ho
 rw [← h3]
 exact h e h1 body hb h3.symm d st k r hr
theorem K6t {l : List Nat} (h : J53 l = true) {i j : Nat} {x : Nat} (hi : l[i]? = some x) (hj : l[j]? = some x) : i = j := by
 rcases Nat.lt_or_ge i l.length with h' | h'
 ·exact (List.getElem?_inj h' (J05 h)).1 (hi.trans hj.symm)
 ·rw [List.getElem?_eq_none h'] at hi; cases hi
theorem Jal {e : LoE R} (j : Nat) (hn : J53 ((Jda (Jdv P e.f)).map Jc9) = true) (hj : ((Jda (Jdv P e.f)).map Jc9)[j]? = some e.key) (h : Qlk P B F e ((Jda (Jdv P e.f)).getD j .skip)) : Qll P B F e := by
 intro body hb hk
 obtain ⟨i, hi⟩ := List.mem_iff_getElem?.1 hb
 have h1 : ((Jda (Jdv P e.f)).map Jc9)[i]? = some e.key := by rw [List.getElem?_map, hi, Option.map_some, hk]
 have := K6t hn h1 hj
 subst this
 have h2 : (Jda (Jdv P e.f)).getD i .skip = body := by simp only [List.getD, hi, Option.getD_some]
 rwa [h2] at h
theorem Qlm {f : FuncId} {key : Nat} {t : Tpl} {g : t.T → (Jhi → ASt → Option R) → Option R} {body : Code} (h : ∀ d x k, Jy1 (K6s P B F d f body) (Jm7 P B.toBook f key) F (t.inst x) k = g x k) : Qlk P B F ⟨f, key, LO.of t g⟩ body := by
 intro d st k r hr
 obtain ⟨x, rfl, hx⟩ := LO.of_some hr
 rw [h]; exact hx
theorem Kld {f : FuncId} {key : Nat} {t : Tpl} {g : t.T → (Jhi → ASt → Option R) → Option R} {b : LO R} {body : Code} (ha : Qlk P B F ⟨f, key, LO.of t g⟩ body) (hb : Qlk P B F ⟨f, key, b⟩ body) : Qlk P B F ⟨f, key, LO.orT t g b⟩ body := by
 intro d st k r hr
 simp only [LO.orT] at hr
 split at hr
 ·rename_i x h'
  refine ha d st k _ ?_
  simp only [LO.of, h']; exact hr
 ·exact hb d st k r hr
end
theorem Jem {P : Program} (hN : K6k P) (hG : Jou P) (hm : P.follows .mixedOrders = true) {B0 : Book} (hΓ : Jcv P B0.Γ) (hO : Jnd P B0.orc) {f : FuncId} (hthere : (P.funcs[f]?.map fun fn => fn.body.isNone) = some false)
  {ps : List PM} {fresh : Bool} {rows : Nat} {g : Jaz ps → Bool × List BV} {ms : List PM}
  (h : ∀ x, (g x).1 = true → ∃ (F d : Nat) (B : Jbu Unit), B.toBook = B0 ∧ Jhk P B F ∧ ∀ kend, Jam P B F d f (Jae ps x) ms kend = kend (g x).2) (hR : K6j P B0.rcv := by exact Kh2) : Jad P f (Orc.of ps fresh rows g) := by
 have ht : ∃ fn, P.funcs[f]? = some fn ∧ fn.body.isNone = false := by
  cases hf : P.funcs[f]? with
  | none => rw [hf] at hthere; cases hthere
  | some fn => rw [hf] at hthere; exact ⟨fn, rfl, by simpa using hthere⟩
 refine Kah (ms := ms) hN hΓ hG hO (Qh6 hm hΓ hO) hR ht (fun bs rs hk _ => ?_)
 simp only [Orc.of, Option.map_eq_some_iff] at hk
 obtain ⟨x, hx, hg⟩ := hk
 have hbs := Kar ps hx
 subst hbs
 obtain ⟨F, d, B, h1, h3, h4⟩ := h x (by rw [hg])
 have hrs : rs = (g x).2 := by rw [hg]
 subst hrs
 refine ⟨F, d, fun kend hk => ?_⟩
 have hr := K99 h3 ((h4 kend).trans hk)
 rwa [h1] at hr
theorem Jkt {P : Program} {f : FuncId} {ps : List PM} {fresh : Bool} {rows : Nat} {g : Jaz ps → Bool × List BV} (h0 : Qoe P f)
  (h : ∀ x, (g x).1 = true → ∃ g', Jad P f (Orc.of ps fresh rows g') ∧ g' x = g x) : Jad P f (Orc.of ps fresh rows g) := by
 refine ⟨h0, fun bs rs hk hm => ?_⟩
 have hk' := hk
 simp only [Orc.of, Option.map_eq_some_iff] at hk'
 obtain ⟨x, hx, hg⟩ := hk'
 obtain ⟨g', hc, he⟩ := h x (by rw [hg])
 refine hc.2 bs rs ?_ hm
 simp only [Orc.of, hx, Option.map_some, he, hg]
theorem Kqv (x : Option Unit) : J67 x x = x := by cases x <;> rfl
def Jbn {R : Type} (P : Program) (B : Jbu R) (F : Nat) (f : FuncId) (j key : Nat) (t : Tpl) (G : (t.T → Option R) → (Jhi → ASt → Option R) → t.T → Option R) : Prop :=
 ∀ d x KQ, K6s P B F d f ((Jda (Jdv P f)).getD j .skip) (t.inst x) (fun e s => KQ e (Jm7 P B.toBook f key s)) = G (fun x => KQ .normal (t.inst x)) KQ x
theorem Jah {R : Type} {P : Program} {B : Jbu R} {F : Nat} {f : FuncId} {j key : Nat} {t : Tpl} {G : (t.T → Option R) → (Jhi → ASt → Option R) → t.T → Option R} {g : Nat → t.T → (Jhi → ASt → Option R) → Option R}
  (h : Jbn P B F f j key t G) (h0 : ∀ x k, g 0 x k = none) (h1 : ∀ (N : ASt → Option R) m x k, g (m + 1) x k = G (fun x => g m x k) (fun e s => match e with | .normal => N s | e => k e s) x) :
  Qlk P B F ⟨f, key, LO.of t (g F)⟩ ((Jda (Jdv P f)).getD j .skip) := by
 refine Qlm fun d x k => ?_
 have key : ∀ m x, Jy1 (K6s P B F d f ((Jda (Jdv P f)).getD j .skip)) (Jm7 P B.toBook f key) m (t.inst x) k = g m x k := by
  intro m
  induction m with
  | zero => exact fun x => (h0 x k).symm
  | succ m ih =>
   intro x
   refine (h d x (fun e s => match e with | .normal => Jy1 (K6s P B F d f ((Jda (Jdv P f)).getD j .skip)) (Jm7 P B.toBook f key) m s k | e => k e s)).trans ?_
   rw [h1 (fun s => Jy1 (K6s P B F d f ((Jda (Jdv P f)).getD j .skip)) (Jm7 P B.toBook f key) m s k) m x k]
   exact congrArg (fun nx => G nx _ x) (funext ih)
 exact key F x
theorem fz {α : Type _} {p : α → Prop} : ∀ x, x ∈ ([] : List α) → p x := fun _ h => nomatch h
theorem fa {α : Type _} {p : α → Prop} {a : α} {l : List α} (h : p a) (k : ∀ x, x ∈ l → p x) : ∀ x, x ∈ a :: l → p x := List.forall_mem_cons.2 ⟨h, k⟩
theorem Jap {P : Program} (hN : K6k P) (hG : Jou P) (hm : P.follows .mixedOrders = true) {B0 : Book} (hΓ : Jcv P B0.Γ) {f : FuncId} {ps : List PM} {fresh : Bool} {rows : Nat} {g : Jaz ps → Bool × List BV} {ms : List PM} {B : Nat → Jbu Unit} {q : Nat → Jaz ps → (List BV → Option Unit) → Option Unit}
  (hrun : ∀ F x kend, Jam P (B F) F 20 f (Jae ps x) ms kend = q F x kend) (hO : Jnd P B0.orc) (hthere : (P.funcs[f]?.map fun fn => fn.body.isNone) = some false) (hB : ∀ F, (B F).toBook = B0) (hL : ∀ F, Jhk P (B F) F)
  (h : ∀ x, (g x).1 = true → ∃ F, ∀ kend, q F x kend = kend (g x).2) (hR : K6j P B0.rcv := by exact Kh2) : Jad P f (Orc.of ps fresh rows g) :=
 Jem hN hG hm hΓ hO hthere (fun x hx => (h x hx).elim fun F hF => ⟨F, 20, B F, hB F, hL F, fun kend => (hrun F x kend).trans (hF kend)⟩) (hR := hR)
end Go.AI
namespace Go.AI
open Go Go.RowKit Go.WideShapes Go.ChangeShapes
def Sch.Wf : (s : Sch) → s.T → Prop
 | .int k, x => (Lit.int k (toI k x)).wf = true
 | .bool, _ => True
 | .str, x => x.length ≤ maxLen
 | .slc s, xs => xs.length ≤ maxLen ∧ ∀ x, x ∈ xs → s.Wf x
 | .arr n s, xs => xs.length = n ∧ ∀ x, x ∈ xs → s.Wf x
 | .pair a b, x => a.Wf x.1 ∧ b.Wf x.2
 | .unit, _ => True
theorem Jbs.all {α : Type} {R : α → List Value → Prop} {Q : α → Prop} (hR : ∀ x c, R x c → Q x) : ∀ {xs : List α} {L : List Value}, Jbs R xs L → ∀ x, x ∈ xs → Q x
 | [], _, _, x, hx => by cases hx
 | y :: ys, L, h, x, hx => by
  obtain ⟨c, r, rfl, h1, h2⟩ := h
  rcases List.mem_cons.1 hx with rfl | hx
  ·exact hR _ _ h1
  ·exact Jbs.all hR h2 x hx
theorem Jau.wf {w : World} {A : Nat → Prop} : ∀ (s : Sch) {x : s.T} {cs : List Value}, Jau w A s x cs → s.Wf x
 | .int k, _, _, h => h.2
 | .bool, _, _, _ => trivial
 | .str, _, _, h => h.2
 | .slc s, xs, cs, h => by
  obtain ⟨a, cap, _, h1, h2, h3⟩ := h
  refine ⟨by omega, ?_⟩
  rcases h3 with rfl | ⟨_, L, _, _, _, hr, _⟩
  ·intro x hx; cases hx
  ·exact Jbs.all (fun x c hc => Jau.wf s hc) hr
 | .arr n s, xs, cs, h => ⟨h.1, Jbs.all (fun x c hc => Jau.wf s hc) h.2⟩
 | .pair a b, x, cs, h => by
  obtain ⟨c, r, _, h1, h2⟩ := h
  exact ⟨Jau.wf a h1, Jau.wf b h2⟩
 | .unit, _, _, _ => trivial
section
variable {H : Type} {enc : TypeId × Value → H} {P : Program} {w : World} {base : Nat} {sp : Nat → Bool} {held : Bool}
theorem Qj8 (k : IntKind) (n : Int) (h : (Lit.int k n).wf = true) : toI k (ofI k n) = n := by
 have h' := h
 simp only [Lit.wf, Bool.and_eq_true, decide_eq_true_eq] at h'
 cases k <;> simp_all [toI, ofI, IntKind.min, IntKind.max, IntKind.signed, IntKind.bits] <;> omega
theorem Kx1 {α : Type} {R : α → List Value → Prop} : ∀ (n : Nat) (f : Nat → List Value), (∀ i, i < n → ∃ y, R y (f i)) → ∃ ys : List α, ys.length = n ∧ Jbs R ys ((List.range n).flatMap f)
 | 0, f, _ => ⟨[], rfl, by simp [Jbs]⟩
 | n + 1, f, h => by
  obtain ⟨ys, hl, hr⟩ := Kx1 n f (fun i hi => h i (by omega))
  obtain ⟨y, hy⟩ := h n (by omega)
  refine ⟨ys ++ [y], by simp [hl], ?_⟩
  rw [List.range_succ, List.flatMap_append]
  exact Jbs.append hr (by simpa using Jbs.one hy)
theorem Kqw (k : Nat) : ∀ (n : Nat) (cs : List Value), cs.length = n * k → (List.range n).flatMap (fun i => (cs.drop (i * k)).take k) = cs
 | 0, cs, h => by simp at h; simp [h]
 | n + 1, cs, h => by
  rw [List.range_succ, List.flatMap_append]
  have ih := Kqw k n (cs.take (n * k)) (by rw [List.length_take, h, Nat.add_mul]; omega)
  have e : (List.range n).flatMap (fun i => (cs.drop (i * k)).take k) = cs.take (n * k) := by
   rw [← ih, List.flatMap_def, List.flatMap_def]
   congr 1
   apply List.map_congr_left
   intro i hi
   have hi := List.mem_range.1 hi
   rw [List.drop_take, List.take_take]
   congr 1
   have : (i + 1) * k ≤ n * k := Nat.mul_le_mul_right _ (by omega)
   rw [Nat.add_mul] at this
   omega
  rw [e]
  simp only [List.flatMap_cons, List.flatMap_nil, List.append_nil]
  rw [List.take_of_length_le (l := cs.drop (n * k)) (by rw [List.length_drop, h, Nat.add_mul]; omega), List.take_append_drop]
theorem K3v (k : Nat) (f : Nat → List Value) : ∀ (n : Nat), (∀ i, i < n → (f i).length = k) → ∀ j u, ((List.range n).flatMap f)[j]? = some u → ∃ i, i < n ∧ i * k ≤ j ∧ j < i * k + k ∧ (f i)[j - i * k]? = some u
 | 0, _, j, u, h => by simp at h
 | n + 1, hf, j, u, h => by
  rw [List.range_succ, List.flatMap_append] at h
  have hl : ((List.range n).flatMap f).length = n * k := by
   clear h
   induction n with
   | zero => simp
   | succ n ih => rw [List.range_succ, List.flatMap_append, List.length_append, ih (fun i hi => hf i (by omega))]; simp [hf n (by omega), Nat.add_mul]
  rcases Nat.lt_or_ge j (n * k) with hj | hj
  ·rw [List.getElem?_append_left (by omega)] at h
   obtain ⟨i, h1, h2⟩ := K3v k f n (fun i hi => hf i (by omega)) j u h
   exact ⟨i, by omega, h2⟩
  ·rw [List.getElem?_append_right (by omega), hl] at h
   simp only [List.flatMap_cons, List.flatMap_nil, List.append_nil] at h
   refine ⟨n, by omega, hj, ?_, h⟩
   have := (List.getElem?_eq_some_iff.1 h).1
   rw [hf n (by omega)] at this; omega
theorem Qh9 {t e : TypeId} {n fuel : Nat} {cs : List Value} {x : DataW H × List MemPlace} (ht : P.underlying t = some (.array n e)) (h : DataW.trod enc P w base sp held fuel t cs = some x) :
  cs.length = P.cellsOf t ∧ ∃ m, ∀ i, i < n → ∃ y, DataW.trod enc P w base sp held m e ((cs.drop (i * P.cellsOf e)).take (P.cellsOf e)) = some y := by
 cases fuel with
 | zero => simp [DataW.trod] at h
 | succ m =>
  unfold DataW.trod at h
  rw [ht] at h
  split at h <;> simp_all
  obtain ⟨_, xs, hp, _⟩ := h
  refine ⟨m, fun i hi => ?_⟩
  have hl := mapM_some_length hp
  rw [List.length_range] at hl
  have := mapM_some_get hp i i (by simp [hi])
  exact ⟨(xs[i]'(by omega)).1, (xs[i]'(by omega)).2, by rw [this]; simp [show i < xs.length by omega]⟩
mutual
theorem Jwd : ∀ (s : Sch) (t : TypeId) (fuel : Nat) (cs : List Value) (x : DataW H × List MemPlace), rdB P s t = true → DataW.trod enc P w base sp held fuel t cs = some x → ∃ y : s.T, Jau w (fun _ => False) s y cs ∧ P.cellsOf t = s.cells
 | .int k, t, fuel, cs, x, hr, h => by
  simp only [rdB, Bool.and_eq_true, beq_iff_eq] at hr
  obtain ⟨hc, hr⟩ := hr
  split at hr
  ·rename_i j hj
   obtain rfl : j = k := by simpa using hr
   obtain ⟨n, rfl, _, hw⟩ := DataW.trod_int hj h
   exact ⟨ofI j n, ⟨by rw [Qj8 j n hw], by rw [Qj8 j n hw]; exact hw⟩, hc⟩
  ·cases hr
 | .bool, t, fuel, cs, x, hr, h => by
  simp only [rdB, Bool.and_eq_true, beq_iff_eq] at hr
  obtain ⟨hc, hr⟩ := hr
  split at hr
  ·rename_i hj
   obtain ⟨b, rfl, _⟩ := DataW.trod_bool hj h
   exact ⟨b, rfl, hc⟩
  ·cases hr
 | .str, t, fuel, cs, x, hr, h => by
  simp only [rdB, Bool.and_eq_true, beq_iff_eq] at hr
  obtain ⟨hc, hr⟩ := hr
  split at hr
  ·rename_i hj
   obtain ⟨b, rfl, _, hs⟩ := DataW.trod_string hj h
   exact ⟨b.data.toList, ⟨rfl, by rw [Array.length_toList]; exact hs⟩, hc⟩
  ·cases hr
 | .slc s, t, fuel, cs, x, hr, h => by
  simp only [rdB, Bool.and_eq_true, beq_iff_eq] at hr
  obtain ⟨hc, hr⟩ := hr
  split at hr
  ·rename_i e hj
   simp only [Bool.and_eq_true, decide_eq_true_eq] at hr
   rcases DataW.trod_slice hj h with ⟨rfl, _⟩ | ⟨a, len, cap, elems, rest, n, _, rfl, _, _, hl, hm, hlen, hel, _⟩
   ·exact ⟨[], ⟨none, 0, rfl, Nat.le_refl _, Nat.zero_le _, .inl rfl⟩, hc⟩
   ·have hcell : ∀ i, i < len → ∃ L y, w.cells? base (a.add (i * P.cellsOf e)) (P.cellsOf e) = some L ∧ Jau w (fun _ => False) s y L ∧ P.cellsOf e = s.cells := by
     intro i hi
     have h1 := hel i hi
     rw [List.getElem?_eq_getElem (by omega)] at h1
     obtain ⟨L, h2, h3⟩ := Option.bind_eq_some_iff.1 h1
     obtain ⟨y, h4, h5⟩ := Jwd s e n L _ hr.1 h3
     exact ⟨L, y, h2, h4, h5⟩
    rcases Nat.eq_zero_or_pos len with h0 | hpos
    ·subst h0
     exact ⟨[], ⟨some a, cap, rfl, Nat.zero_le _, hm, .inl rfl⟩, hc⟩
    ·obtain ⟨L0, y0, k1, k2, k3⟩ := hcell 0 hpos
     let f : Nat → List Value := fun i => (w.cells? base (a.add (i * P.cellsOf e)) (P.cellsOf e)).getD []
     have hf : ∀ i, i < len → ∃ y, Jau w (fun _ => False) s y (f i) ∧ w.cells? base (a.add (i * P.cellsOf e)) (P.cellsOf e) = some (f i) := by
      intro i hi
      obtain ⟨L, y, q1, q2, _⟩ := hcell i hi
      have e1 : f i = L := by simp only [f, q1]; rfl
      exact ⟨y, by rw [e1]; exact q2, by rw [e1]; exact q1⟩
     obtain ⟨ys, hyl, hyr⟩ := Kx1 len f (fun i hi => ⟨(hf i hi).choose, (hf i hi).choose_spec.1⟩)
     refine ⟨ys, ⟨some a, cap, by rw [hyl], by rw [hyl]; exact hl, hm, .inr ⟨a, _, rfl, ?_, fun h => h, hyr, ?_⟩⟩, hc⟩
     ·have := World.cells?_block k1 (by rw [k3]; exact hr.2)
      rwa [Addr.add_block] at this
     ·intro j u hu
      have hfl : ∀ i, i < len → (f i).length = s.cells := fun i hi => Jau.length s (hf i hi).choose_spec.1
      obtain ⟨i, hi, hij, hij2, hu⟩ := K3v s.cells f len hfl j u hu
      obtain ⟨_, _, hc'⟩ := World.cells?_some (hf i hi).choose_spec.2
      have := hc' (j - i * s.cells) (by rw [k3]; omega)
      rw [hu, k3, Jk5] at this
      rwa [show i * s.cells + (j - i * s.cells) = j by omega] at this
  ·cases hr
 | .arr n s, t, fuel, cs, x, hr, h => by
  simp only [rdB, Bool.and_eq_true, beq_iff_eq] at hr
  obtain ⟨hc, hr⟩ := hr
  split at hr
  ·rename_i m e hj
   simp only [Bool.and_eq_true, beq_iff_eq] at hr
   obtain ⟨rfl, hr⟩ := hr
   obtain ⟨hlen, q, hall⟩ := Qh9 hj h
   rcases Nat.eq_zero_or_pos m with h0 | hpos
   ·subst h0
    rw [hc] at hlen
    have : cs = [] := by simpa using hlen
    subst this
    exact ⟨[], ⟨rfl, by simp [Jbs]⟩, hc⟩
   ·have hce : P.cellsOf e = s.cells := by
     obtain ⟨y, hy⟩ := hall 0 hpos
     obtain ⟨_, _, h3⟩ := Jwd s e q _ _ hr hy
     exact h3
    obtain ⟨ys, hyl, hyr⟩ := Kx1 (R := Jau w (fun _ => False) s) m (fun i => (cs.drop (i * s.cells)).take s.cells) (fun i hi => by
     obtain ⟨y, hy⟩ := hall i hi
     obtain ⟨z, h2, _⟩ := Jwd s e q _ _ hr hy
     rw [hce] at h2
     exact ⟨z, h2⟩)
    rw [Kqw s.cells m cs (by rw [hlen, hc])] at hyr
    exact ⟨ys, ⟨hyl, hyr⟩, hc⟩
  ·cases hr
 | .pair a b, t, fuel, cs, x, hr, h => by
  simp only [rdB, Bool.and_eq_true, beq_iff_eq] at hr
  obtain ⟨hc, hr⟩ := hr
  split at hr
  ·rename_i fs hj
   split at hr
   ·rename_i f r hfs
    simp only [Bool.and_eq_true, beq_iff_eq] at hr
    obtain ⟨⟨h0, h1⟩, h2⟩ := hr
    obtain ⟨xs, n, _, _, hlen, hxl, hall⟩ := DataW.trod_struct hj h
    have hall' : ∀ (i : Nat) (g : Field), fs.toList[i]? = some g → ∃ y, DataW.trod enc P w base sp held n g.type ((cs.drop g.offset).take (P.cellsOf g.type)) = some y := by
     intro i g hg
     have hi : i < fs.size := by
      have := (List.getElem?_eq_some_iff.1 hg).1
      simpa using this
     have := hall i g (by rw [← Array.getElem?_toList]; exact hg)
     exact ⟨xs[i]'(by omega), by rw [this]; simp [show i < xs.length by omega]⟩
    rw [hfs] at hall'
    obtain ⟨y0, hy0⟩ := hall' 0 f rfl
    obtain ⟨ya, ha, hca⟩ := Jwd a f.type n _ _ h1 hy0
    obtain ⟨yb, hb⟩ := Kas b r a.cells n cs h2 (by rw [hlen, hc]) (fun i g hg => hall' (i + 1) g (by simpa using hg))
    refine ⟨(ya, yb), ⟨_, _, ?_, ha, hb⟩, hc⟩
    rw [h0, hca, List.drop_zero, List.take_append_drop]
   ·cases hr
  ·cases hr
 | .unit, t, fuel, cs, x, hr, h => by
  simp only [rdB, Bool.and_eq_true, beq_iff_eq] at hr
  obtain ⟨hc, hr⟩ := hr
  split at hr
  ·rename_i fs hj
   obtain ⟨_, _, _, _, hlen, _, _⟩ := DataW.trod_struct hj h
   rw [hc] at hlen
   exact ⟨(), by simpa [Jau] using hlen, hc⟩
  ·cases hr
theorem Kas : ∀ (s : Sch) (fs : List Field) (off n : Nat) (cs : List Value), rdF P s fs off = true → cs.length = off + s.cells →
  (∀ (i : Nat) (g : Field), fs[i]? = some g → ∃ y, DataW.trod enc P w base sp held n g.type ((cs.drop g.offset).take (P.cellsOf g.type)) = some y) → ∃ y : s.T, Jau w (fun _ => False) s y (cs.drop off)
 | .pair a b, f :: r, off, n, cs, hr, hl, hall => by
  simp only [rdF, Bool.and_eq_true, beq_iff_eq] at hr
  obtain ⟨⟨h0, h1⟩, h2⟩ := hr
  obtain ⟨y0, hy0⟩ := hall 0 f rfl
  obtain ⟨ya, ha, hca⟩ := Jwd a f.type n _ _ h1 hy0
  obtain ⟨yb, hb⟩ := Kas b r (off + a.cells) n cs h2 (by rw [hl]; simp only [Sch.cells]; omega) (fun i g hg => hall (i + 1) g (by simpa using hg))
  refine ⟨(ya, yb), _, _, ?_, ha, hb⟩
  rw [h0, hca, ← List.drop_drop, List.take_append_drop]
 | .unit, [], off, n, cs, hr, hl, _ => ⟨(), by simp only [Jau]; exact List.drop_eq_nil_of_le (by rw [hl]; simp [Sch.cells])⟩
 | .pair _ _, [], _, _, _, hr, _, _ => by simp [rdF] at hr
 | .unit, _ :: _, _, _, _, hr, _, _ => by simp [rdF] at hr
 | .int _, _, _, _, _, hr, _, _ => by simp [rdF] at hr
 | .bool, _, _, _, _, hr, _, _ => by simp [rdF] at hr
 | .str, _, _, _, _, hr, _, _ => by simp [rdF] at hr
 | .slc _, _, _, _, _, hr, _, _ => by simp [rdF] at hr
 | .arr _ _, _, _, _, _, hr, _, _ => by simp [rdF] at hr
end
theorem Qia {r : Reach} {b0 : Nat} {s : Sch} {t : TypeId} {v : Value} {d : DataW H} {ps : List MemPlace} (hr : rdB P s t = true) (hval : Value.okWide P w r b0 t v) (hd : DataW.Trod enc P w base sp held t v d ps) :
  ∃ y : s.T, RV w (fun _ => False) [] (fun _ => none) (.dat s y) v ∧ s.Wf y := by
 obtain ⟨fuel, hf⟩ := hd
 obtain ⟨y, hy, _⟩ := Jwd s t fuel _ _ hr hf
 refine ⟨y, ?_, Jau.wf s hy⟩
 have one : (∀ cs, v ≠ .agg cs) → s.agg = false → RV w (fun _ => False) [] (fun _ => none) (.dat s y) v := by
  intro hne hag
  have hc : v.cells.toList = [v] := by
   cases v <;> first | rfl | exact absurd rfl (hne _)
  rw [hc] at hy
  simp only [RV, RV1, AV.agg, hag, Bool.false_eq_true, if_false, RX]
  exact hy
 have many : s.agg = true → (∃ cs, v = .agg cs) → RV w (fun _ => False) [] (fun _ => none) (.dat s y) v := by
  rintro hag ⟨cs, rfl⟩
  simp only [RV, RV1, AV.agg, hag, if_true, RX]
  exact ⟨cs.toList, by simp, hy⟩
 cases s with
 | int k =>
  simp only [rdB, Bool.and_eq_true] at hr
  have h2 := hr.2
  split at h2
  ·rename_i j hj
   obtain ⟨n, rfl⟩ := okWide_int hj hval
   exact one (by simp) rfl
  ·cases h2
 | bool =>
  simp only [rdB, Bool.and_eq_true] at hr
  have h2 := hr.2
  split at h2
  ·rename_i hj
   obtain ⟨n, rfl⟩ := okWide_bool hj hval
   exact one (by simp) rfl
  ·cases h2
 | str =>
  simp only [rdB, Bool.and_eq_true] at hr
  have h2 := hr.2
  split at h2
  ·rename_i hj
   obtain ⟨n, rfl⟩ := okWide_string hj hval
   exact one (by simp) rfl
  ·cases h2
 | slc s =>
  simp only [rdB, Bool.and_eq_true] at hr
  have h2 := hr.2
  split at h2
  ·rename_i e hj
   obtain ⟨a, len, cap, rfl⟩ := okWide_slice hj hval
   exact one (by simp) rfl
  ·cases h2
 | arr n s =>
  simp only [rdB, Bool.and_eq_true] at hr
  have h2 := hr.2
  split at h2
  ·rename_i m e hj
   simp only [Value.okWide, hj] at hval
   obtain ⟨cs, rfl, _⟩ := hval
   exact many rfl ⟨cs, rfl⟩
  ·cases h2
 | pair a b =>
  simp only [rdB, Bool.and_eq_true] at hr
  have h2 := hr.2
  split at h2
  ·rename_i fs hj
   obtain ⟨cs, rfl, _⟩ := okWide_struct hj hval
   exact many rfl ⟨cs, rfl⟩
  ·cases h2
 | unit =>
  simp only [rdB, Bool.and_eq_true] at hr
  have h2 := hr.2
  split at h2
  ·rename_i fs hj
   obtain ⟨cs, rfl, _⟩ := okWide_struct hj hval
   exact many rfl ⟨cs, rfl⟩
  ·cases h2
abbrev LawT (ss : List Sch) : Type := Jaz (ss.map PM.d)
def WfArgs : (ss : List Sch) → LawT ss → Prop
 | [], _ => True
 | s :: ss, x => s.Wf x.1 ∧ WfArgs ss x.2
def Kx2 (P : Program) : List Sch → List TypeId → Bool
 | [], [] => true
 | s :: ss, t :: ts => rdB P s t && Kx2 P ss ts
 | _, _ => false
theorem Kqx {b0 : Nat} : ∀ (ss : List Sch) (ts : List TypeId) (vs : List Value) (ds : List (DataW H)) (ps : List MemPlace), Kx2 P ss ts = true → (∀ (j : Nat) t v, ts[j]? = some t → vs[j]? = some v → Value.okWide P w .any b0 t v) →
  DataW.TrodAll enc P w base sp held ts vs ds ps → ∃ x : LawT ss, WfArgs ss x ∧ Jb3 w (fun _ => False) [] (fun _ => none) (Khx (Jae (ss.map PM.d) x) 0) vs ∧ Jb9 (Jae (ss.map PM.d) x) = [] ∧ (Jae (ss.map PM.d) x).map BV.mode = ss.map PM.d
 | [], [], vs, ds, ps, _, _, h => by
  cases vs with
  | nil => exact ⟨(), trivial, rfl, rfl, rfl⟩
  | cons v vs => cases ds <;> exact h.elim
 | s :: ss, t :: ts, vs, ds, ps, hr, hv, h => by
  simp only [Kx2, Bool.and_eq_true] at hr
  obtain ⟨v, vs', d, ds', p, q, rfl, rfl, rfl, h1, h2⟩ := trodAll_cons h
  obtain ⟨y, hy, hw⟩ := Qia hr.1 (hv 0 t v rfl rfl) h1
  obtain ⟨x, hx, ha, hrow, hm⟩ := Kqx ss ts vs' ds' q hr.2 (fun j t v ht hv' => hv (j + 1) t v (by simpa using ht) (by simpa using hv')) h2
  exact ⟨(y, x), ⟨hw, hx⟩, ⟨v, vs', rfl, hy, ha⟩, hrow, congrArg (PM.d s :: ·) hm⟩
 | [], _ :: _, _, _, _, hr, _, _ => by simp [Kx2] at hr
 | _ :: _, [], _, _, _, hr, _, _ => by simp [Kx2] at hr
end
theorem Qbn {H : Type} {enc : TypeId × Value → H} {P : Program} {f : FuncId} {ss : List Sch} {fr : Bool} {g : LawT ss → Bool × List BV} (hc : Jad P f (Orc.of (ss.map PM.d) fr 0 g)) {ts : List TypeId} (hr : Kx2 P ss ts = true)
  (hg : ∀ x, WfArgs ss x → g x = (true, [.d .bool true])) {W : World} {args : Array Value} {ds : List (DataW H)} {ps : List MemPlace} {sp : Nat → Bool} {held : Bool} {b0 : Nat} (hval : ∀ (j : Nat) t v, ts[j]? = some t → args.toList[j]? = some v → Value.okWide P W .any b0 t v)
  (h : DataW.TrodAll enc P W 0 sp held ts args.toList ds ps) : Calls P f args W fun e W' => e = .returned (.bool true) ∧ Below W.heap.size W W' := by
 obtain ⟨x, hx, ha, hrow, hm⟩ := Kqx ss ts _ _ _ hr hval h
 have hfn : (Orc.of (ss.map PM.d) fr 0 g).fn (Jae (ss.map PM.d) x) = some (true, [.d .bool true]) := by
  have : ∀ (ms : List PM) (y : Jaz ms), Jov ms (Jae ms y) = some y := by
   intro ms
   induction ms with
   | nil => intro y; rfl
   | cons m ms ih =>
    intro y
    have h1 : m.take (m.inst y.1) = some y.1 := by cases m <;> simp [PM.take, PM.inst, Jd6]
    simp only [Jov, Jae, h1, ih]
  simp only [Orc.of, this, Option.map_some, hg x hx]
 have key := hc.2 _ _ hfn hm ⟨W, [], fun _ => False⟩ (fun _ => none) args.toList
 rw [hrow] at key
 have hA : Jaf (fun _ => False) [] (fun _ => none) = fun _ => False := by
  funext b
  simp only [Jaf, false_or, eq_iff_iff, iff_false]
  rintro ⟨o, C, _, h⟩
  exact h.none
 have hst : Jdg (⟨W, [], fun _ => False⟩ : Ctx P) W [] (fun _ => none) := ⟨fun o => by simp [ASt.obj, J7a], fun o o' g C C' _ _ h => h.none.elim, ⟨rfl, rfl, rfl, Nat.le_refl _, fun _ _ _ => rfl⟩, fun b h => h.elim⟩
 simp only [hA] at key
 refine key hst ha _ (fun v us w' ρ' h1 h2 h3 => ?_)
 obtain ⟨u, r, rfl, hu, hr'⟩ := h2
 have hr' : r = [] := hr'
 subst hr'
 have hv : v = u := h3
 subst hv
 have := RV.bool hu
 subst this
 exact ⟨rfl, h1.fr.os, h1.fr.tape, h1.fr.output, h1.fr.size, fun k hk => h1.fr.block k hk (by simp)⟩
section
variable {H : Type} {enc : TypeId × Value → H} {P : Program}
theorem K6u {f : Func} {s : ChangeSpec} {apart fresh handsOn again : Bool} {W W' : World} {args : Array Value} {v : Value} {ds gs : List (DataW H)} {before pa pv : List MemPlace}
  (hW : DataW.Whole enc P f.params.toList s.vars apart W args.toList ds gs before)
  (hres : ∀ (b : Nat) (sp : Nat → Bool) (hd : Bool), DataW.TrodAll enc P W' b sp hd f.resultTypes.toList (v.resultList f.resultTypes.size) (s.fn H (ds ++ gs)).results [])
  (hargs : ∀ sp : Nat → Bool, (∀ p ∈ before, sp p.block = true) → DataW.TrodAll enc P W' 0 sp true f.params.toList args.toList (s.fn H (ds ++ gs)).args pa)
  (hvars : ∀ sp : Nat → Bool, (∀ p ∈ before, sp p.block = true) → DataW.TrodVars enc P W' sp s.vars (s.fn H (ds ++ gs)).vars pv)
  (hps : before = pa ++ pv) (hb : Below W.heap.size W W')
  (hok : ∀ (j : Nat) (t : TypeId) (r : Value), f.resultTypes[j]? = some t → (v.resultList f.resultTypes.size)[j]? = some r → Value.okWide P W' .any 0 t r) :
  s.post enc P f apart fresh handsOn again W args v W' := by
 have hlt : ∀ p ∈ before, p.block < W.heap.size := fun p hp => hW.lt p hp
 have hold : ∀ p ∈ before, (fun b => decide (b < W.heap.size)) p.block = true := fun p hp => by simpa using hlt p hp
 refine ⟨ds, gs, before, [], pa, pv, hW, hres _ _ _, hargs _ hold, hvars _ hold, World.keptBut_mono (fun p hp => ⟨hp, ?_⟩) (hb.frame (· ∈ before)), fun _ => ?_⟩
 ·rw [hps, List.mem_append] at hp
  exact Or.inr hp
 ·obtain ⟨_, _, _, _, _, hz, hn⟩ := hW
  refine ⟨hok, _, _, ([] ++ pa) ++ pv, ⟨[] ++ pa, pv, trodAll_append (hargs _ (fun _ _ => rfl)) (hres _ _ _), hvars _ (fun _ _ => rfl), rfl, ?_, ?_⟩, ?_⟩
  ·intro b off hp
   have hin : MemPlace.cell b off ∈ before := by rw [hps]; simpa using hp
   rw [hb.frozen (hlt _ hin)]
   exact hz b off hin
  ·intro ha
   have := hn ha
   rw [hps] at this
   simpa using this
  ·intro p hp _
   rw [hps]
   simpa using hp
theorem Kqy (hl : laidOutB P = true) {W W' : World} (hb : Below W.heap.size W W') : ∀ (ts : List TypeId) (vs : List Value) (ds : List (DataW H)) (ps : List MemPlace), (ts.all fun t => P.readableRec t && decide (t < P.types.size)) = true → (∀ p ∈ ps, p.block < W.heap.size) →
  DataW.TrodAll enc P W 0 (fun _ => true) true ts vs ds ps → ∀ sp : Nat → Bool, (∀ p ∈ ps, sp p.block = true) → DataW.TrodAll enc P W' 0 sp true ts vs ds ps
 | [], vs, ds, ps, _, _, h, sp, _ => by
  cases vs <;> cases ds <;> exact h
 | t :: ts, vs, ds, ps, ht, hlt, h, sp, hsp => by
  obtain ⟨v, vs', d, ds', p, q, rfl, rfl, rfl, h1, h2⟩ := trodAll_cons h
  simp only [List.all_cons, Bool.and_eq_true, decide_eq_true_eq] at ht
  refine ⟨p, q, ?_, Kqy hl hb ts vs' ds' q ht.2 (fun x hx => hlt x (List.mem_append_right _ hx)) h2 sp (fun x hx => hsp x (List.mem_append_right _ hx)), rfl⟩
  exact WideElems.Trod_stays hl ht.1.1 ht.1.2 h1 (fun x hx => hb.same (hlt x (List.mem_append_left _ hx))) (fun x hx => hsp x (List.mem_append_left _ hx))
end
theorem law_post {H : Type} {enc : TypeId × Value → H} {P : Program} {f : FuncId} {fn : Func} {s : ChangeSpec} {ss : List Sch} {fr : Bool} {g : LawT ss → Bool × List BV} (hc : Jad P f (Orc.of (ss.map PM.d) fr 0 g)) {apart fresh handsOn again : Bool} {tb : TypeId}
  (hr : Kx2 P ss fn.params.toList = true) (hread : (fn.params.toList.all fun t => P.readableRec t && decide (t < P.types.size)) = true) (hl : laidOutB P = true) (hres : fn.resultTypes = #[tb]) (hb : P.underlying tb = some .bool)
  (hvars : s.vars = []) (hs : ∀ ds : List (DataW H), ds.length = fn.params.toList.length → s.fn H (ds ++ []) = { results := [.lit (.bool true)], args := ds })
  (hg : ∀ x, WfArgs ss x → g x = (true, [.d .bool true])) {W : World} {base : Nat} {args : Array Value} {ds gs : List (DataW H)} {before : List MemPlace}
  (hval : ∀ (j : Nat) t v, fn.params[j]? = some t → args[j]? = some v → Value.okWide P W .any base t v) (hW : DataW.Whole enc P fn.params.toList s.vars apart W args.toList ds gs before) :
  Calls P f args W fun e W' => ∃ v, e = .returned v ∧ s.post enc P fn apart fresh handsOn again W args v W' := by
 have hW' := hW
 obtain ⟨p, q, hA, hV, rfl, hfz, hnd⟩ := hW
 rw [hvars] at hV
 obtain ⟨rfl, rfl⟩ := trodVars_none hV
 have hval' : ∀ (j : Nat) t v, fn.params.toList[j]? = some t → args.toList[j]? = some v → Value.okWide P W .any base t v := by
  intro j t v h1 h2
  exact hval j t v (by rw [← Array.getElem?_toList]; exact h1) (by rw [← Array.getElem?_toList]; exact h2)
 refine (Qbn hc hr hg hval' hA).mono fun e W' ⟨he, hbel⟩ => ?_
 subst he
 have hlen : ds.length = fn.params.toList.length := by
  have : ∀ (ts : List TypeId) (vs : List Value) (ds : List (DataW H)) (ps : List MemPlace), DataW.TrodAll enc P W 0 (fun _ => true) true ts vs ds ps → ds.length = ts.length := by
   intro ts
   induction ts with
   | nil => intro vs ds ps h; cases vs <;> cases ds <;> first | rfl | exact h.elim
   | cons t ts ih =>
    intro vs ds ps h
    obtain ⟨v, vs', d, ds', p, q, rfl, rfl, rfl, _, h2⟩ := trodAll_cons h
    simp [ih _ _ _ h2]
  exact this _ _ _ _ hA
 have hfn := hs ds hlen
 refine ⟨_, rfl, K6u (pa := p) (pv := []) hW' (fun b sp hd => ?_) (fun sp hsp => ?_) (fun sp _ => ?_) rfl hbel (ok_one hres rfl (okWide_bool_mk hb _))⟩
 ·rw [hfn, hres]
  exact trodAll_cons_mk (shut_bool hb _) trodAll_mk0
 ·rw [hfn]
  exact Kqy hl hbel _ _ _ _ hread (fun x hx => hW'.lt x (by simpa using hx)) hA sp (fun x hx => hsp x (by simpa using hx))
 ·rw [hfn, hvars]
  exact rfl
end Go.AI
namespace Go.AI
open Go
def Jag (a b : Int) : Int := wAdd .i64 a b
def Jby (a b : Int) : Int := wSub .i64 a b
def Je6 (a b : Int) : Int := wMul .i64 a b
def Jzd (a b : Int) : Int := wQuo .i64 a b
def Jcg (a b : Int) : Int := wRem .i64 a b
def orI (a b : Int) : Int := wOr .i64 a b
@[reducible] def z16 : List UInt8 := [0, 0, 0, 0, 0, 0, 0, 0, 0, 0, 0, 0, 0, 0, 0, 0]
def Kle (a b : Int) : Int := Qnu .i64 a b
def maxI (a b : Int) : Int := Qnv .i64 a b
def Qln (a : Int) (n : Int) : Int := Qn3 .i64 a n
def Kqz (a : Int) (n : Int) : Int := Qnt .i64 a n
def andB (a b : UInt8) : UInt8 := wAnd .u8 a b
def orB (a b : UInt8) : UInt8 := wOr .u8 a b
def Jtq (a b : UInt8) : UInt8 := wXor .u8 a b
def shlB (a : UInt8) (n : Int) : UInt8 := Qn3 .u8 a n
def shrB (a : UInt8) (n : Int) : UInt8 := Qnt .u8 a n
def Qg1 (a : UInt8) : UInt8 := wNot .u8 a
def Jbp (a b : UInt32) : UInt32 := wAdd .u32 a b
def K9l (a b : UInt32) : UInt32 := wMul .u32 a b
def quoW (a b : UInt32) : UInt32 := wQuo .u32 a b
def remW (a b : UInt32) : UInt32 := wRem .u32 a b
def J0h (a b : UInt32) : UInt32 := wAnd .u32 a b
def orW (a b : UInt32) : UInt32 := wOr .u32 a b
def Jgq (a b : UInt32) : UInt32 := wXor .u32 a b
def Jze (a : UInt32) (n : Int) : UInt32 := Qn3 .u32 a n
def Jpy (a : UInt32) (n : Int) : UInt32 := Qnt .u32 a n
def Kx3 (a : UInt32) : UInt32 := wNot .u32 a
def subU (a b : Int) : Int := wSub .u64 a b
def Qbo (a b : Int) : Int := wMul .u64 a b
def Qon (a b : Int) : Int := wAnd .u64 a b
def Jls (a : Int) (n : Int) : Int := Qnt .u64 a n
def Kfc (a : Int) : UInt8 := Kkm .i64 .u8 a
def Kia (a : Int) : UInt32 := Kkm .i64 .u32 a
def Kib (a : Int) : Int := Kkm .i64 .u64 a
def Ke2 (a : UInt8) : Int := Kkm .u8 .i64 a
def Jow (a : UInt8) : UInt32 := Kkm .u8 .u32 a
def Qbp (a : UInt32) : Int := Kkm .u32 .i64 a
def J7d (a : UInt32) : UInt8 := Kkm .u32 .u8 a
def Jt8 (a : Int) : UInt8 := Kkm .u64 .u8 a
theorem Jgr {n : Int} (h1 : -9223372036854775808 ≤ n) (h2 : n < 9223372036854775808) : IntKind.i64.wrap n = n := by
 rw [IntKind.wrap_i64]; omega
theorem Kx4 {n : Int} (h1 : 0 ≤ n) (h2 : n < 18446744073709551616) : IntKind.u64.wrap n = n := by
 simp only [IntKind.wrap, IntKind.signed, IntKind.bits]; simp; omega
theorem Jai {a b : Int} (h1 : -9223372036854775808 ≤ a + b) (h2 : a + b < 9223372036854775808) : Jag a b = a + b := Jgr h1 h2
theorem Jca {a b : Int} (h1 : -9223372036854775808 ≤ a - b) (h2 : a - b < 9223372036854775808) : Jby a b = a - b := Jgr h1 h2
theorem Jff {a b : Int} (h1 : -9223372036854775808 ≤ a * b) (h2 : a * b < 9223372036854775808) : Je6 a b = a * b := Jgr h1 h2
theorem Jrp {a b : Int} (h1 : 0 ≤ a) (h2 : 0 < b) (h3 : a < 9223372036854775808) : Jzd a b = a / b := by
 have h := Int.tdiv_eq_ediv_of_nonneg h1 (b := b)
 have h4 : a / b ≤ a := Int.ediv_le_self b h1
 have h5 : 0 ≤ a / b := Int.ediv_nonneg h1 (by omega)
 show IntKind.i64.wrap (a.tdiv b) = a / b
 rw [h, Jgr (by omega) (by omega)]
theorem Jj6 {a b : Int} (h1 : 0 ≤ a) : Jcg a b = a % b := Int.tmod_eq_emod_of_nonneg h1
theorem Qbq {a n : Int} (h0 : 0 ≤ n) (h1 : n < 64) (h2 : -9223372036854775808 ≤ a * 2 ^ n.toNat) (h3 : a * 2 ^ n.toNat < 9223372036854775808) : Qln a n = a * 2 ^ n.toNat := by
 have : min n.toNat IntKind.i64.bits = n.toNat := Nat.min_eq_left (by show n.toNat ≤ 64; omega)
 show IntKind.i64.wrap (a * 2 ^ (min n.toNat IntKind.i64.bits)) = _
 rw [this, Jgr h2 h3]
theorem Klf {a n : Int} (h0 : 0 ≤ n) (h1 : n ≤ 64) : Kqz a n = a / 2 ^ n.toNat := by
 have : min n.toNat IntKind.i64.bits = n.toNat := Nat.min_eq_left (by show n.toNat ≤ 64; omega)
 show a.fdiv (2 ^ (min n.toNat IntKind.i64.bits)) = _
 rw [this, Int.fdiv_eq_ediv_of_nonneg _ (Int.le_of_lt (Int.pow_pos (by omega)))]
theorem Kat {a n : Int} (h0 : 0 ≤ n) (h1 : n ≤ 64) : Jls a n = a / 2 ^ n.toNat := by
 have : min n.toNat IntKind.u64.bits = n.toNat := Nat.min_eq_left (by show n.toNat ≤ 64; omega)
 show a.fdiv (2 ^ (min n.toNat IntKind.u64.bits)) = _
 rw [this, Int.fdiv_eq_ediv_of_nonneg _ (Int.le_of_lt (Int.pow_pos (by omega)))]
theorem Qlo (a b : Int) : maxI a b = max a b := by
 show (if b > a then b else a) = _; omega
theorem Qbr (a b : Int) : Kle a b = min a b := by
 show (if b < a then b else a) = _; omega
theorem Jt9 (x : UInt8) : Ke2 x = (x.toNat : Int) := by
 have := x.toNat_lt
 show IntKind.i64.wrap (x.toNat : Int) = _
 rw [Jgr (by omega) (by omega)]
theorem Kx5 (x : UInt32) : Qbp x = (x.toNat : Int) := by
 have := x.toNat_lt
 show IntKind.i64.wrap (x.toNat : Int) = _
 rw [Jgr (by omega) (by omega)]
theorem Klg (n : Int) : IntKind.u8.wrap n = n % 256 := by simp only [IntKind.wrap, IntKind.signed, IntKind.bits]; simp
theorem Jox (n : Int) : IntKind.u32.wrap n = n % 4294967296 := by simp only [IntKind.wrap, IntKind.signed, IntKind.bits]; simp
theorem K3w (n : Int) : IntKind.u64.wrap n = n % 18446744073709551616 := by simp only [IntKind.wrap, IntKind.signed, IntKind.bits]; simp
theorem Kau (a : Int) : Kfc a = UInt8.ofNat (a % 256).toNat := by
 show UInt8.ofNat (IntKind.u8.wrap a).toNat = _
 rw [Klg]
theorem Kx6 (a : Int) : Jt8 a = UInt8.ofNat (a % 256).toNat := by
 show UInt8.ofNat (IntKind.u8.wrap a).toNat = _
 rw [Klg]
theorem Kx7 {a : Int} (h : 0 ≤ a) (h2 : a < 9223372036854775808) : Kib a = a := by
 show IntKind.u64.wrap a = a
 exact Kx4 h (by omega)
theorem Kq0 (a : Nat) (ha : a < 9223372036854775808) : (BitVec.ofInt 64 (a : Int)).toNat = a := by
 rw [BitVec.ofInt_natCast, BitVec.toNat_ofNat]; exact Nat.mod_eq_of_lt (by omega)
theorem Qj9 {a b : Nat} (ha : a < 9223372036854775808) (hb : b < 9223372036854775808) : orI (a : Int) (b : Int) = ((a ||| b : Nat) : Int) := by
 have hx : a ||| b < 2 ^ 63 := Nat.or_lt_two_pow (by omega) (by omega)
 show IntKind.i64.wrap ((BitVec.ofInt 64 (a : Int) ||| BitVec.ofInt 64 (b : Int)).toNat : Int) = _
 rw [BitVec.toNat_or, Kq0 a ha, Kq0 b hb, Jgr (by omega) (by omega)]
theorem Jaa {X : Type} {c : Bool} (h : c = true) (a b : X) : (bif c then a else b) = a := by rw [h]; rfl
theorem Jab {X : Type} {c : Bool} (h : c = false) (a b : X) : (bif c then a else b) = b := by rw [h]; rfl
theorem Qlp {X : Type} {p : Prop} [Decidable p] (a b : X) : (bif decide p then a else b) = if p then a else b := by by_cases h : p <;> simp [h]
theorem Jk8 {a b : Int} (h : a = b) : (a == b) = true := by simpa using h
theorem Jl3 {a b : Int} (h : a ≠ b) : (a == b) = false := by simpa using h
theorem Jhl {a b : Int} (h : a ≠ b) : (a != b) = true := by simpa using h
theorem Jgm {a b : Int} (h : a = b) : (a != b) = false := by simpa using h
theorem tt {p : Prop} [Decidable p] (h : p) : decide p = true := decide_eq_true h
theorem ff {p : Prop} [Decidable p] (h : ¬ p) : decide p = false := decide_eq_false h
theorem tt2 {p q : Prop} [Decidable p] [Decidable q] (h : p) (k : q) : (decide p && decide q) = true := by simp [h, k]
theorem tt3 {p q r : Prop} [Decidable p] [Decidable q] [Decidable r] (h : p) (k : q) (l : r) : (decide p && decide q && decide r) = true := by simp [h, k, l]
theorem Jch {n : Nat} (h : n ≤ 2147483648) : decide (n ≤ big) = true := decide_eq_true (by unfold big; exact h)
theorem Jd9 {α : Type} (l : List α) (k : Nat) (d : α) (h : k < l.length) : l.take (k + 1) = l.take k ++ [l.getD k d] := by
 rw [List.take_succ_eq_append_getElem h]; simp [List.getD, h]
end Go.AI
