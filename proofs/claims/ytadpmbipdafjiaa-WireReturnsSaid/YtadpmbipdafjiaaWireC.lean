/- bytes.Compare: it is walked once, as what it calls has no body. -/
import Derived.Test.YtadpmbipdafjiaaWireS
import Derived.Test.YtadpmbipdafjiaaA5
import Derived.Lib.BytesEntry
import Derived.Laws.Externs
import Derived.Lib.Hide
import Derived.Test.YtadpmbipdafjiaaProg
import Derived.KernelRfl
namespace Go.AI
open Go Go.RowKit

theorem repL_u8s {w : World} {A : Nat → Prop} : ∀ {xs : List UInt8} {L : List Value}, RepL (RepC w A (.int .u8)) xs L → L = xs.map fun x => .int .u8 x.toNat
  | [], L, h => by simpa [RepL] using h
  | x :: xs, L, h => by
    obtain ⟨c, r, rfl, h1, h2⟩ := h
    obtain ⟨rfl, _⟩ := h1
    rw [repL_u8s h2]; rfl
theorem bytesOf_nats (xs : List UInt8) : Lib.bytesOf (xs.map fun x => (x.toNat : Int)) = xs := by
  simp [Lib.bytesOf, Function.comp_def]
theorem run_bytesS {P : Program} {w : World} {A : Nat → Prop} {xs : List UInt8} {v : Value} (h : RepC w A (.slc (.int .u8)) xs [v]) : (Extern.Bytes.bytesOf v).run P w = .ok ⟨xs.toArray⟩ w := by
  obtain ⟨a, cap, hc, _, _, hx⟩ := h
  simp only [List.cons.injEq, and_true] at hc
  subst hc
  rcases hx with rfl | ⟨ad, L, rfl, _, _, hr, hcl⟩
  · cases a with
    | none => rfl
    | some a => rfl
  · have hL := repL_u8s hr
    subst hL
    have := Lib.run_loadBytesX (P := P) w (xs.map fun x => (x.toNat : Int)) ad .empty (fun j x hj => by
      refine hcl j _ ?_
      simp only [List.getElem?_map, Option.map_eq_some_iff] at hj ⊢
      obtain ⟨y, h1, rfl⟩ := hj
      exact ⟨y, h1, rfl⟩)
    rw [List.length_map, bytesOf_nats] at this
    show (Extern.Bytes.loadBytes ad xs.length .empty).run P w = _
    rw [this]
    simp
theorem cmpB_eq : ∀ (a b : List UInt8), Lib.compareBytes a b = cmpB a b
  | [], [] => rfl
  | [], _ :: _ => rfl
  | _ :: _, [] => rfl
  | a :: l, b :: bs => by simp only [Lib.compareBytes, cmpB, cmpB_eq l bs]
theorem run_compareS {P : Program} {w : World} {A : Nat → Prop} {xs ys : List UInt8} {u v : Value} (h : RepC w A (.slc (.int .u8)) xs [u]) (k : RepC w A (.slc (.int .u8)) ys [v]) : (Extern.BytealgCompare.compare #[u, v]).run P w = .ok (.int .i64 (cmpB xs ys)) w := by
  change Sem.run P (do pure (goInt (Extern.BytealgCompare.cmp (← Extern.Bytes.bytesOf u) (← Extern.Bytes.bytesOf v)))) w = _
  simp only [Sem.run_bind, run_bytesS h, run_bytesS k, Sem.run_pure, Result.andThen]
  rw [Lib.cmp_eq, cmpB_eq]
  rfl
theorem cmpB_range : ∀ (a b : List UInt8), cmpB a b = -1 ∨ cmpB a b = 0 ∨ cmpB a b = 1
  | [], [] => .inr (.inl rfl)
  | [], _ :: _ => .inl rfl
  | _ :: _, [] => .inr (.inr rfl)
  | a :: l, b :: bs => by
    simp only [cmpB]
    split
    · exact .inl rfl
    · split
      · exact .inr (.inr rfl)
      · exact cmpB_range l bs

def bytes_Compare_orc : Orc := Orc.of [.d (.slc (.int .u8)), .d (.slc (.int .u8))] true 0 fun x => (true, [.d (.int .i64) (bytes_Compare_r x.1 x.2.1)])

theorem compare_walk {A : Nat → Prop} {xs ys : List UInt8} {u v : Value} (w : World) (h : RepC w A (.slc (.int .u8)) xs [u]) (k : RepC w A (.slc (.int .u8)) ys [v]) :
    Calls Go.Proofs.Try.prog 14 #[u, v] w fun e w' => e = .returned (.int .i64 (cmpB xs ys)) ∧ w' = w := by
  have H := Lib.hid h
  have K := Lib.hid k
  clear h k
  go_enter Go.Proofs.Try.func14, Go.Proofs.Try.ntmps14
  go_wp2
  rw [run_callFunc_extern (e := Extern.BytealgCompare.compare) Go.Proofs.Try.func38 (by kernel_rfl) (by kernel_rfl) (by kernel_rfl) (by kernel_rfl), run_compareS H.out K.out]
  simp only [Result.andThen]
  rw [Oper.upon_value]
  go_wp2
  go_ret
  exact ⟨rfl, rfl⟩
theorem bytes_Compare_contract : Contract Go.Proofs.Try.prog 14 bytes_Compare_orc := by
  refine ⟨⟨_, Go.Proofs.Try.func14, by kernel_rfl, by kernel_rfl⟩, fun bs rs hk hm c ρ vals hst hv R hR => ?_⟩
  simp only [bytes_Compare_orc, Orc.of, Option.map_eq_some_iff] at hk
  obtain ⟨x, hx, hg⟩ := hk
  have hbs := argsTake_eq _ hx
  subst hbs
  obtain ⟨xs, ys, z⟩ := x
  simp only [Prod.mk.injEq, true_and] at hg
  subst hg
  obtain ⟨u, r, rfl, hu, hr⟩ := hv
  obtain ⟨v, r', rfl, hv, hr'⟩ := hr
  have hr' : r' = [] := hr'
  subst hr'
  refine (compare_walk c.w0 (hu : RepC c.w0 _ (.slc (.int .u8)) xs [u]) (hv : RepC c.w0 _ (.slc (.int .u8)) ys [v])).mono fun e w' ⟨he, hw⟩ => ?_
  subst he; subst hw
  refine hR _ [.int .i64 (cmpB xs ys)] _ ρ hst ⟨_, [], rfl, RV.mk_int (k := .i64) (a := cmpB xs ys) ?_, rfl⟩ rfl
  rcases cmpB_range xs ys with h | h | h <;> rw [h] <;> decide
end Go.AI
