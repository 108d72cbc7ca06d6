/- Plain laws of the operations on numbers. -/
import Derived.Test.YtadpmbipdafjiaaOps
namespace Go.AI
open Go

-- the operations at each kind
def addI (a b : Int) : Int := wAdd .i64 a b
def subI (a b : Int) : Int := wSub .i64 a b
def mulI (a b : Int) : Int := wMul .i64 a b
def quoI (a b : Int) : Int := wQuo .i64 a b
def remI (a b : Int) : Int := wRem .i64 a b
def andI (a b : Int) : Int := wAnd .i64 a b
def orI (a b : Int) : Int := wOr .i64 a b
def xorI (a b : Int) : Int := wXor .i64 a b
def andNotI (a b : Int) : Int := wAndNot .i64 a b
def minI (a b : Int) : Int := wMin .i64 a b
def maxI (a b : Int) : Int := wMax .i64 a b
def shlI (a : Int) (n : Int) : Int := wShl .i64 a n
def shrI (a : Int) (n : Int) : Int := wShr .i64 a n
def negI (a : Int) : Int := wNeg .i64 a
def notI (a : Int) : Int := wNot .i64 a
def addB (a b : UInt8) : UInt8 := wAdd .u8 a b
def subB (a b : UInt8) : UInt8 := wSub .u8 a b
def mulB (a b : UInt8) : UInt8 := wMul .u8 a b
def quoB (a b : UInt8) : UInt8 := wQuo .u8 a b
def remB (a b : UInt8) : UInt8 := wRem .u8 a b
def andB (a b : UInt8) : UInt8 := wAnd .u8 a b
def orB (a b : UInt8) : UInt8 := wOr .u8 a b
def xorB (a b : UInt8) : UInt8 := wXor .u8 a b
def andNotB (a b : UInt8) : UInt8 := wAndNot .u8 a b
def minB (a b : UInt8) : UInt8 := wMin .u8 a b
def maxB (a b : UInt8) : UInt8 := wMax .u8 a b
def shlB (a : UInt8) (n : Int) : UInt8 := wShl .u8 a n
def shrB (a : UInt8) (n : Int) : UInt8 := wShr .u8 a n
def negB (a : UInt8) : UInt8 := wNeg .u8 a
def notB (a : UInt8) : UInt8 := wNot .u8 a
def addW (a b : UInt32) : UInt32 := wAdd .u32 a b
def subW (a b : UInt32) : UInt32 := wSub .u32 a b
def mulW (a b : UInt32) : UInt32 := wMul .u32 a b
def quoW (a b : UInt32) : UInt32 := wQuo .u32 a b
def remW (a b : UInt32) : UInt32 := wRem .u32 a b
def andW (a b : UInt32) : UInt32 := wAnd .u32 a b
def orW (a b : UInt32) : UInt32 := wOr .u32 a b
def xorW (a b : UInt32) : UInt32 := wXor .u32 a b
def andNotW (a b : UInt32) : UInt32 := wAndNot .u32 a b
def minW (a b : UInt32) : UInt32 := wMin .u32 a b
def maxW (a b : UInt32) : UInt32 := wMax .u32 a b
def shlW (a : UInt32) (n : Int) : UInt32 := wShl .u32 a n
def shrW (a : UInt32) (n : Int) : UInt32 := wShr .u32 a n
def negW (a : UInt32) : UInt32 := wNeg .u32 a
def notW (a : UInt32) : UInt32 := wNot .u32 a
def addU (a b : Int) : Int := wAdd .u64 a b
def subU (a b : Int) : Int := wSub .u64 a b
def mulU (a b : Int) : Int := wMul .u64 a b
def quoU (a b : Int) : Int := wQuo .u64 a b
def remU (a b : Int) : Int := wRem .u64 a b
def andU (a b : Int) : Int := wAnd .u64 a b
def orU (a b : Int) : Int := wOr .u64 a b
def xorU (a b : Int) : Int := wXor .u64 a b
def andNotU (a b : Int) : Int := wAndNot .u64 a b
def minU (a b : Int) : Int := wMin .u64 a b
def maxU (a b : Int) : Int := wMax .u64 a b
def shlU (a : Int) (n : Int) : Int := wShl .u64 a n
def shrU (a : Int) (n : Int) : Int := wShr .u64 a n
def negU (a : Int) : Int := wNeg .u64 a
def notU (a : Int) : Int := wNot .u64 a
def addH (a b : Int) : Int := wAdd .u16 a b
def subH (a b : Int) : Int := wSub .u16 a b
def mulH (a b : Int) : Int := wMul .u16 a b
def quoH (a b : Int) : Int := wQuo .u16 a b
def remH (a b : Int) : Int := wRem .u16 a b
def andH (a b : Int) : Int := wAnd .u16 a b
def orH (a b : Int) : Int := wOr .u16 a b
def xorH (a b : Int) : Int := wXor .u16 a b
def andNotH (a b : Int) : Int := wAndNot .u16 a b
def minH (a b : Int) : Int := wMin .u16 a b
def maxH (a b : Int) : Int := wMax .u16 a b
def shlH (a : Int) (n : Int) : Int := wShl .u16 a n
def shrH (a : Int) (n : Int) : Int := wShr .u16 a n
def negH (a : Int) : Int := wNeg .u16 a
def notH (a : Int) : Int := wNot .u16 a
def addR (a b : Int) : Int := wAdd .i32 a b
def subR (a b : Int) : Int := wSub .i32 a b
def mulR (a b : Int) : Int := wMul .i32 a b
def quoR (a b : Int) : Int := wQuo .i32 a b
def remR (a b : Int) : Int := wRem .i32 a b
def andR (a b : Int) : Int := wAnd .i32 a b
def orR (a b : Int) : Int := wOr .i32 a b
def xorR (a b : Int) : Int := wXor .i32 a b
def andNotR (a b : Int) : Int := wAndNot .i32 a b
def minR (a b : Int) : Int := wMin .i32 a b
def maxR (a b : Int) : Int := wMax .i32 a b
def shlR (a : Int) (n : Int) : Int := wShl .i32 a n
def shrR (a : Int) (n : Int) : Int := wShr .i32 a n
def negR (a : Int) : Int := wNeg .i32 a
def notR (a : Int) : Int := wNot .i32 a
def cvII (a : Int) : Int := wConv .i64 .i64 a
def cvIB (a : Int) : UInt8 := wConv .i64 .u8 a
def cvIW (a : Int) : UInt32 := wConv .i64 .u32 a
def cvIU (a : Int) : Int := wConv .i64 .u64 a
def cvIH (a : Int) : Int := wConv .i64 .u16 a
def cvIR (a : Int) : Int := wConv .i64 .i32 a
def cvBI (a : UInt8) : Int := wConv .u8 .i64 a
def cvBB (a : UInt8) : UInt8 := wConv .u8 .u8 a
def cvBW (a : UInt8) : UInt32 := wConv .u8 .u32 a
def cvBU (a : UInt8) : Int := wConv .u8 .u64 a
def cvBH (a : UInt8) : Int := wConv .u8 .u16 a
def cvBR (a : UInt8) : Int := wConv .u8 .i32 a
def cvWI (a : UInt32) : Int := wConv .u32 .i64 a
def cvWB (a : UInt32) : UInt8 := wConv .u32 .u8 a
def cvWW (a : UInt32) : UInt32 := wConv .u32 .u32 a
def cvWU (a : UInt32) : Int := wConv .u32 .u64 a
def cvWH (a : UInt32) : Int := wConv .u32 .u16 a
def cvWR (a : UInt32) : Int := wConv .u32 .i32 a
def cvUI (a : Int) : Int := wConv .u64 .i64 a
def cvUB (a : Int) : UInt8 := wConv .u64 .u8 a
def cvUW (a : Int) : UInt32 := wConv .u64 .u32 a
def cvUU (a : Int) : Int := wConv .u64 .u64 a
def cvUH (a : Int) : Int := wConv .u64 .u16 a
def cvUR (a : Int) : Int := wConv .u64 .i32 a
def cvHI (a : Int) : Int := wConv .u16 .i64 a
def cvHB (a : Int) : UInt8 := wConv .u16 .u8 a
def cvHW (a : Int) : UInt32 := wConv .u16 .u32 a
def cvHU (a : Int) : Int := wConv .u16 .u64 a
def cvHH (a : Int) : Int := wConv .u16 .u16 a
def cvHR (a : Int) : Int := wConv .u16 .i32 a
def cvRI (a : Int) : Int := wConv .i32 .i64 a
def cvRB (a : Int) : UInt8 := wConv .i32 .u8 a
def cvRW (a : Int) : UInt32 := wConv .i32 .u32 a
def cvRU (a : Int) : Int := wConv .i32 .u64 a
def cvRH (a : Int) : Int := wConv .i32 .u16 a
def cvRR (a : Int) : Int := wConv .i32 .i32 a


theorem wrap_i64_id {n : Int} (h1 : -9223372036854775808 ≤ n) (h2 : n < 9223372036854775808) : IntKind.i64.wrap n = n := by
  rw [IntKind.wrap_i64]; omega
theorem wrap_u64_id {n : Int} (h1 : 0 ≤ n) (h2 : n < 18446744073709551616) : IntKind.u64.wrap n = n := by
  simp only [IntKind.wrap, IntKind.signed, IntKind.bits]; simp; omega
theorem addI_eq {a b : Int} (h1 : -9223372036854775808 ≤ a + b) (h2 : a + b < 9223372036854775808) : addI a b = a + b := wrap_i64_id h1 h2
theorem subI_eq {a b : Int} (h1 : -9223372036854775808 ≤ a - b) (h2 : a - b < 9223372036854775808) : subI a b = a - b := wrap_i64_id h1 h2
theorem mulI_eq {a b : Int} (h1 : -9223372036854775808 ≤ a * b) (h2 : a * b < 9223372036854775808) : mulI a b = a * b := wrap_i64_id h1 h2
theorem quoI_eq {a b : Int} (h1 : 0 ≤ a) (h2 : 0 < b) (h3 : a < 9223372036854775808) : quoI a b = a / b := by
  have h := Int.tdiv_eq_ediv_of_nonneg h1 (b := b)
  have h4 : a / b ≤ a := Int.ediv_le_self b h1
  have h5 : 0 ≤ a / b := Int.ediv_nonneg h1 (by omega)
  show IntKind.i64.wrap (a.tdiv b) = a / b
  rw [h, wrap_i64_id (by omega) (by omega)]
theorem remI_eq {a b : Int} (h1 : 0 ≤ a) : remI a b = a % b := Int.tmod_eq_emod_of_nonneg h1
theorem shlI_eq {a n : Int} (h0 : 0 ≤ n) (h1 : n < 64) (h2 : -9223372036854775808 ≤ a * 2 ^ n.toNat) (h3 : a * 2 ^ n.toNat < 9223372036854775808) : shlI a n = a * 2 ^ n.toNat := by
  have : min n.toNat IntKind.i64.bits = n.toNat := Nat.min_eq_left (by show n.toNat ≤ 64; omega)
  show IntKind.i64.wrap (a * 2 ^ (min n.toNat IntKind.i64.bits)) = _
  rw [this, wrap_i64_id h2 h3]
theorem shrI_eq {a n : Int} (h0 : 0 ≤ n) (h1 : n ≤ 64) : shrI a n = a / 2 ^ n.toNat := by
  have : min n.toNat IntKind.i64.bits = n.toNat := Nat.min_eq_left (by show n.toNat ≤ 64; omega)
  show a.fdiv (2 ^ (min n.toNat IntKind.i64.bits)) = _
  rw [this, Int.fdiv_eq_ediv_of_nonneg _ (Int.le_of_lt (Int.pow_pos (by omega)))]
theorem shrU_eq {a n : Int} (h0 : 0 ≤ n) (h1 : n ≤ 64) : shrU a n = a / 2 ^ n.toNat := by
  have : min n.toNat IntKind.u64.bits = n.toNat := Nat.min_eq_left (by show n.toNat ≤ 64; omega)
  show a.fdiv (2 ^ (min n.toNat IntKind.u64.bits)) = _
  rw [this, Int.fdiv_eq_ediv_of_nonneg _ (Int.le_of_lt (Int.pow_pos (by omega)))]
theorem maxI_eq (a b : Int) : maxI a b = max a b := by
  show (if b > a then b else a) = _; omega
theorem minI_eq (a b : Int) : minI a b = min a b := by
  show (if b < a then b else a) = _; omega
theorem cvBI_eq (x : UInt8) : cvBI x = (x.toNat : Int) := by
  have := x.toNat_lt
  show IntKind.i64.wrap (x.toNat : Int) = _
  rw [wrap_i64_id (by omega) (by omega)]
theorem cvWI_eq (x : UInt32) : cvWI x = (x.toNat : Int) := by
  have := x.toNat_lt
  show IntKind.i64.wrap (x.toNat : Int) = _
  rw [wrap_i64_id (by omega) (by omega)]
theorem wrap_u8 (n : Int) : IntKind.u8.wrap n = n % 256 := by simp only [IntKind.wrap, IntKind.signed, IntKind.bits]; simp
theorem wrap_u32 (n : Int) : IntKind.u32.wrap n = n % 4294967296 := by simp only [IntKind.wrap, IntKind.signed, IntKind.bits]; simp
theorem wrap_u64 (n : Int) : IntKind.u64.wrap n = n % 18446744073709551616 := by simp only [IntKind.wrap, IntKind.signed, IntKind.bits]; simp
theorem cvIB_eq (a : Int) : cvIB a = UInt8.ofNat (a % 256).toNat := by
  show UInt8.ofNat (IntKind.u8.wrap a).toNat = _
  rw [wrap_u8]
theorem cvUB_eq (a : Int) : cvUB a = UInt8.ofNat (a % 256).toNat := by
  show UInt8.ofNat (IntKind.u8.wrap a).toNat = _
  rw [wrap_u8]
theorem cvIU_eq {a : Int} (h : 0 ≤ a) (h2 : a < 9223372036854775808) : cvIU a = a := by
  show IntKind.u64.wrap a = a
  exact wrap_u64_id h (by omega)
theorem cvII_eq {a : Int} (h1 : -9223372036854775808 ≤ a) (h2 : a < 9223372036854775808) : cvII a = a := wrap_i64_id h1 h2
theorem ofInt_i64 (a : Nat) (ha : a < 9223372036854775808) : (BitVec.ofInt 64 (a : Int)).toNat = a := by
  rw [BitVec.ofInt_natCast, BitVec.toNat_ofNat]; exact Nat.mod_eq_of_lt (by omega)
theorem orI_eq {a b : Nat} (ha : a < 9223372036854775808) (hb : b < 9223372036854775808) : orI (a : Int) (b : Int) = ((a ||| b : Nat) : Int) := by
  have hx : a ||| b < 2 ^ 63 := Nat.or_lt_two_pow (by omega) (by omega)
  show IntKind.i64.wrap ((BitVec.ofInt 64 (a : Int) ||| BitVec.ofInt 64 (b : Int)).toNat : Int) = _
  rw [BitVec.toNat_or, ofInt_i64 a ha, ofInt_i64 b hb, wrap_i64_id (by omega) (by omega)]
theorem bif_true {X : Type} {c : Bool} (h : c = true) (a b : X) : (bif c then a else b) = a := by rw [h]; rfl
theorem bif_false {X : Type} {c : Bool} (h : c = false) (a b : X) : (bif c then a else b) = b := by rw [h]; rfl
theorem bif_dec {X : Type} {p : Prop} [Decidable p] (a b : X) : (bif decide p then a else b) = if p then a else b := by by_cases h : p <;> simp [h]
theorem beq_t {a b : Int} (h : a = b) : (a == b) = true := by simpa using h
theorem beq_f {a b : Int} (h : a ≠ b) : (a == b) = false := by simpa using h
theorem bne_t {a b : Int} (h : a ≠ b) : (a != b) = true := by simpa using h
theorem bne_f {a b : Int} (h : a = b) : (a != b) = false := by simpa using h
theorem tt {p : Prop} [Decidable p] (h : p) : decide p = true := decide_eq_true h
theorem ff {p : Prop} [Decidable p] (h : ¬ p) : decide p = false := decide_eq_false h
theorem tt2 {p q : Prop} [Decidable p] [Decidable q] (h : p) (k : q) : (decide p && decide q) = true := by simp [h, k]
theorem tt3 {p q r : Prop} [Decidable p] [Decidable q] [Decidable r] (h : p) (k : q) (l : r) : (decide p && decide q && decide r) = true := by simp [h, k, l]
theorem le_big {n : Nat} (h : n ≤ 2147483648) : decide (n ≤ big) = true := decide_eq_true (by unfold big; exact h)
theorem take_snoc {α : Type} (l : List α) (k : Nat) (d : α) (h : k < l.length) : l.take (k + 1) = l.take k ++ [l.getD k d] := by
  rw [List.take_succ_eq_append_getElem h]; simp [List.getD, h]
end Go.AI
