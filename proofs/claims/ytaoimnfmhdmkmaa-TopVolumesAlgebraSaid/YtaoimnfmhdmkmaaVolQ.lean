/- Volumes at the one input of the closed call: what is split, what is missing, and parts put together. -/
import Derived.Test.YtaoimnfmhdmkmaaVolN0
import Derived.Test.YtaoimnfmhdmkmaaCrcM
import Derived.KernelRfl
noncomputable section
namespace Go.AI
open Go
open Go.Proofs.Try (prog)

/-- An end that wants one answer. -/
def endIs (ms : List PM) (t : ArgsT ms → Bool) (bs : List BV) : Option Unit := match argsTake ms bs with
  | some y => bif t y then some () else none
  | none => none
theorem endIs_le {ms : List PM} {t : ArgsT ms → Bool} {lit : ArgsT ms} (ht : ∀ y, t y = true → y = lit) {kend : List BV → Option Unit} (hk : kend (argsInst ms lit) = some ()) (bs : List BV) (r : Unit) (h : endIs ms t bs = some r) : kend bs = some r := by
  unfold endIs at h
  split at h
  · rename_i y hy
    rcases bif_some h with ⟨hb, _⟩ | ⟨_, h⟩
    · rw [argsTake_eq ms hy, ht y hb]
      exact hk
    · cases h
  · cases h
theorem runFnL_to {P : Program} {B : BookL Unit} {F d : Nat} (hl : LoOk P B F) {f : FuncId} {args : List BV} {ms : List PM} {k0 kend : List BV → Option Unit} (hk : ∀ bs r, k0 bs = some r → kend bs = some r) {r : Unit} (h : runFnL P B F d f args ms k0 = some r) : runFn P B.toBook F d f args ms kend = some r := by
  unfold runFnL at h
  unfold runFn
  split at h
  · rename_i fn hf
    simp only [hf]
    rcases bif_some h with ⟨hb, h⟩ | ⟨_, h⟩
    · refine runBodyL_le hl hf hb (acallL_le hl d) (fun vs st' r h => ?_) (fun _ _ _ h => h) h
      unfold fin0 at h
      split at h
      · rename_i bs U hbs
        rw [hbs]
        simp only
        split at h
        · rename_i ho
          rw [if_pos ho]
          exact hk _ _ h
        · cases h
      · cases h
    · cases h
  · cases h
/-- A contract, from runs to a given end: for runs whose way is open. -/
theorem contract_of_runE {P : Program} (hN : NoNum P) (hG : RangesOk P) (hm : P.follows .mixedOrders = true) {B0 : Book} (hΓ : GamOk P B0.Γ) (hO : OrcsOk P B0.orc) {f : FuncId} (hthere : (P.funcs[f]?.map fun fn => fn.body.isNone) = some false)
    {ps : List PM} {fresh : Bool} {rows : Nat} {g : ArgsT ps → Bool × List BV} {ms : List PM}
    (h : ∀ x, (g x).1 = true → ∃ (F d : Nat) (B : BookL Unit) (t : ArgsT ms → Bool) (lit : ArgsT ms), B.toBook = B0 ∧ LoOk P B F ∧ (∀ y, t y = true → y = lit) ∧ argsInst ms lit = (g x).2 ∧ runFnL P B F d f (argsInst ps x) ms (endIs ms t) = some ()) (hR : RcvOk P B0.rcv := by exact rcvOk_none) : Contract P f (Orc.of ps fresh rows g) := by
  have ht : ∃ fn, P.funcs[f]? = some fn ∧ fn.body.isNone = false := by
    cases hf : P.funcs[f]? with
    | none => rw [hf] at hthere; cases hthere
    | some fn => rw [hf] at hthere; exact ⟨fn, rfl, by simpa using hthere⟩
  refine contract_of_run (ms := ms) hN hΓ hG hO (drawn_ok hm hΓ hO) hR ht (fun bs rs hk _ => ?_)
  simp only [Orc.of, Option.map_eq_some_iff] at hk
  obtain ⟨x, hx, hg⟩ := hk
  have hbs := argsTake_eq ps hx
  subst hbs
  obtain ⟨F, d, B, t, lit, h1, h3, h4, h5, h6⟩ := h x (by rw [hg])
  have hrs : rs = (g x).2 := by rw [hg]
  subst hrs
  refine ⟨F, d, fun kend hk => ?_⟩
  rw [← h5] at hk
  have hr := runFnL_to h3 (endIs_le h4 hk) h6
  rwa [h1] at hr

abbrev SB : Sch := .slc (.int .u8)
def textB : Bys := [97, 98, 99, 100, 101, 102]
def partsB : Mat := [[97, 98], [99, 100], [101, 102]]
def vol0 : Bys := [240, 75, 142, 57, 239, 0, 3, 1, 6, 97, 98, 55, 84, 40, 97]
def vol1 : Bys := [240, 75, 142, 57, 239, 1, 3, 1, 6, 99, 100, 37, 64, 33, 113]
def vol2 : Bys := [240, 75, 142, 57, 239, 2, 3, 1, 6, 101, 102, 33, 244, 225, 79]
def vol3 : Bys := [240, 75, 142, 57, 239, 3, 3, 1, 6, 253, 114, 235, 243, 255, 39]
def leftB : Mat := [vol0, vol3, vol2]
def vSplit_P (b : Bys) (d r : Int) : Bool := b == textB && (d == 3 && r == 1)
def vMissing_P (l : Mat) : Bool := l == leftB
def sCat_P (l : Mat) : Bool := l == partsB
set_option maxRecDepth 100000

def vSplit_orcs : List (FuncId × Orc) := [(28, cSum_orc), (6, pRecovery_orc)]
def vSplit_book : BookL Unit := { Γ := gam, orc := orcsOf vSplit_orcs, hint := hintsB [] }
theorem vSplit_loOk (F : Nat) : LoOk prog vSplit_book F := loOk_of (l := []) rfl (fun _ h => nomatch h)
theorem vSplit_run (kend : List BV → Option Unit) : runFnL prog vSplit_book 300 20 11 [.d SB textB, .d (.int .i64) (3 : Int), .d (.int .i64) (1 : Int)] [.d (.slc SB), .d (.int .i64)] kend = kend [.d (.slc SB) [vol0, vol1, vol2, vol3], .d (.int .i64) (0 : Int)] := by kernel_rfl
theorem vSplit_all (b : Bys) (d r : Int) (h : vSplit_P b d r = true) : ∀ kend : List BV → Option Unit, runFnL prog vSplit_book 300 20 11 [.d SB b, .d (.int .i64) d, .d (.int .i64) r] [.d (.slc SB), .d (.int .i64)] kend = kend [.d (.slc SB) [vol0, vol1, vol2, vol3], .d (.int .i64) (0 : Int)] := by
  unfold vSplit_P at h
  rw [Bool.and_eq_true, Bool.and_eq_true, beq_iff_eq, beq_iff_eq, beq_iff_eq] at h
  obtain ⟨rfl, rfl, rfl⟩ := h
  exact vSplit_run
@[reducible] def vSplit_ps : List PM := [.d SB, .d (.int .i64), .d (.int .i64)]
def vSplit_orc : Orc := Orc.of vSplit_ps false 0 fun x => (vSplit_P x.1 x.2.1 x.2.2.1, [.d (.slc SB) [vol0, vol1, vol2, vol3], .d (.int .i64) (0 : Int)])
theorem vSplit_contract : Contract prog 11 vSplit_orc := contract_of_runL (B0 := vSplit_book.toBook) (noNumB_ok num_ok) (rangesB_ok rng_ok) mix_ok (gamB_ok gam_ok) (orcsOf_ok (fa cSum_contract (fa pRecovery_contract fz))) (by kernel_rfl)
  (fun x h => ⟨300, 20, vSplit_book, rfl, vSplit_loOk 300, vSplit_all x.1 x.2.1 x.2.2.1 h⟩)

def vMissing_orcs : List (FuncId × Orc) := [(28, cSum_orc)]
def vMissing_book : BookL Unit := { Γ := gam, orc := orcsOf vMissing_orcs, hint := hintsB [] }
theorem vMissing_loOk (F : Nat) : LoOk prog vMissing_book F := loOk_of (l := []) rfl (fun _ h => nomatch h)
def vMissing_t (y : ArgsT [.d (.slc (.int .i64)), .d (.int .i64)]) : Bool := y.1 == ([1] : List Int) && y.2.1 == (0 : Int)
theorem vMissing_run : runFnL prog vMissing_book 300 20 13 [.d (.slc SB) leftB] [.d (.slc (.int .i64)), .d (.int .i64)] (endIs [.d (.slc (.int .i64)), .d (.int .i64)] vMissing_t) = some () := by kernel_rfl
theorem vMissing_is (y : ArgsT [.d (.slc (.int .i64)), .d (.int .i64)]) (h : vMissing_t y = true) : y = (([1] : List Int), (0 : Int), ()) := by
  unfold vMissing_t at h
  rw [Bool.and_eq_true, beq_iff_eq, beq_iff_eq] at h
  obtain ⟨a, b, u⟩ := y
  obtain ⟨h1, h2⟩ := h
  simp only at h1 h2
  rw [h1, h2]
theorem vMissing_all (l : Mat) (h : vMissing_P l = true) : runFnL prog vMissing_book 300 20 13 [.d (.slc SB) l] [.d (.slc (.int .i64)), .d (.int .i64)] (endIs [.d (.slc (.int .i64)), .d (.int .i64)] vMissing_t) = some () := by
  unfold vMissing_P at h
  rw [beq_iff_eq] at h
  subst h
  exact vMissing_run
@[reducible] def vMissing_ps : List PM := [.d (.slc SB)]
def vMissing_orc : Orc := Orc.of vMissing_ps false 0 fun x => (vMissing_P x.1, [.d (.slc (.int .i64)) ([1] : List Int), .d (.int .i64) (0 : Int)])
theorem vMissing_contract : Contract prog 13 vMissing_orc := contract_of_runE (B0 := vMissing_book.toBook) (noNumB_ok num_ok) (rangesB_ok rng_ok) mix_ok (gamB_ok gam_ok) (orcsOf_ok (fa cSum_contract fz)) (by kernel_rfl)
  (fun x h => ⟨300, 20, vMissing_book, vMissing_t, (([1] : List Int), (0 : Int), ()), rfl, vMissing_loOk 300, vMissing_is, rfl, vMissing_all x.1 h⟩)

def sCat_book : BookL Unit := { Γ := gam, orc := orcsOf [], hint := hintsB [] }
theorem sCat_loOk (F : Nat) : LoOk prog sCat_book F := loOk_of (l := []) rfl (fun _ h => nomatch h)
theorem sCat_run (kend : List BV → Option Unit) : runFnL prog sCat_book 300 20 46 [.d (.slc SB) partsB] [.d SB] kend = kend [.d SB textB] := by kernel_rfl
theorem sCat_all (l : Mat) (h : sCat_P l = true) : ∀ kend : List BV → Option Unit, runFnL prog sCat_book 300 20 46 [.d (.slc SB) l] [.d SB] kend = kend [.d SB textB] := by
  unfold sCat_P at h
  rw [beq_iff_eq] at h
  subst h
  exact sCat_run
@[reducible] def sCat_ps : List PM := [.d (.slc SB)]
def sCat_orc : Orc := Orc.of sCat_ps false 0 fun x => (sCat_P x.1, [.d SB textB])
theorem sCat_contract : Contract prog 46 sCat_orc := contract_of_runL (B0 := sCat_book.toBook) (noNumB_ok num_ok) (rangesB_ok rng_ok) mix_ok (gamB_ok gam_ok) (orcsOf_ok fz) (by kernel_rfl)
  (fun x h => ⟨300, 20, sCat_book, rfl, sCat_loOk 300, sCat_all x.1 h⟩)
end Go.AI
