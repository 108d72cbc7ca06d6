/- The reference's Groups: its regions. -/
import Derived.Test.YtlilfooddecabaaFragR5
namespace Go.AI
open Go Go.RowKit
open Go.Proofs.Try (prog)
set_option maxRecDepth 100000

/-- A region's operations. -/
def regOf : Code → Nat → List Oper
  | .region i ops _, id => bif Nat.beq i id then ops.toList else []
  | .seq x y, id => regOf x id ++ regOf y id
  | .cond _ x y, id => regOf x id ++ regOf y id
  | .block _ x, id => regOf x id
  | .loop x, id => regOf x id
  | _, _ => []
abbrev qG : FuncId := 21
def rg (P : Program) (id : Nat) : List Oper := regOf (codeOf P qG) id
abbrev rgn (P : Program) (id : Nat) : Code := .region id (rg P id).toArray false
def loop1B (P : Program) : Code := .seq (.seq (rgn P 6) (.cond (.tmp 23) .skip (.exit 0))) (.seq (.block 1 (.seq (rgn P 8) (.cond (.tmp 37) (.seq (rgn P 9) .ret) .skip))) (rgn P 7))
def loop2B (P : Program) : Code := .seq (.seq (rgn P 13) (.cond (.tmp 41) .skip (.exit 2))) (.seq (.block 3 (.seq (rgn P 15) (.seq (.seq (rgn P 16) (.cond (.tmp 57) (.seq (rgn P 17) (.seq (rgn P 18) (.exit 3))) .skip)) (.seq (rgn P 19) (rgn P 20))))) (rgn P 14))
def qG_code (P : Program) : Code :=
  .seq (rgn P 0) (.seq (.seq (rgn P 1) (.cond (.tmp 13) (.seq (rgn P 2) .ret) .skip)) (.seq (.seq (rgn P 3) (.cond (.tmp 19) (.seq (rgn P 4) .ret) .skip))
    (.seq (.seq (rgn P 5) (.block 0 (.loop (loop1B P)))) (.seq (rgn P 10) (.seq (rgn P 11) (.seq (.seq (rgn P 12) (.block 2 (.loop (loop2B P)))) (.seq (rgn P 21) .ret)))))))
theorem qG_body : (prog.funcs[qG]?).bind (·.body) = some (qG_code prog) := by kernel_rfl
theorem qG_res : ((prog.funcs[qG]?).map fun fn => (fn.results.toList, fn.ntmps, fn.body.isNone)) = some ([.tmp 4, .tmp 5], 86, false) := by kernel_rfl

def StG (l : List Int) (m : Int) (v4 v5 v6 v7 v8 v9 v10 : AV) : List AV := [.dat rowS l, .dat (.int .i64) m, .dead, .dead, v4, v5, v6, v7, v8, v9, v10] ++ List.replicate 75 .dead
abbrev kS : List Nat := [0, 1, 4, 5, 6, 7, 8, 9, 10]
abbrev dI (n : Int) : AV := .dat (.int .i64) n
abbrev dB (b : Bool) : AV := .dat .bool b
/-- What a region does. -/
abbrev run (P : Program) (id : Nat) (cur : List AV) (x : Nat) : Option (List AV × AV) := fops gam (rg P id) (rg P id) cur fun c => some (keepOnly kS c, c.getD x .dead)

variable (l : List Int) (m : Int) (v4 v5 v6 v7 v8 v9 v10 : AV) (i n s : Int)
theorem run0 : run prog 0 (StG l m v4 v5 v6 v7 v8 v9 v10) 0 = some (StG l m .nils (dI 0) v6 v7 v8 v9 v10, .dat rowS l) := by kernel_rfl
theorem run1 : run prog 1 (StG l m v4 v5 v6 v7 v8 v9 v10) 13 = some (StG l m v4 v5 v6 v7 v8 v9 v10, dB (decide ((l.length : Int) > 4096))) := by kernel_rfl
theorem run2 : run prog 2 (StG l m v4 v5 v6 v7 v8 v9 v10) 0 = some (StG l m .nils (dI 6) v6 v7 v8 v9 v10, .dat rowS l) := by kernel_rfl
theorem run3 : run prog 3 (StG l m v4 v5 v6 v7 v8 v9 v10) 19 = bif decide (m < 1) then some (StG l m v4 v5 v6 v7 v8 v9 v10, dB true) else some (StG l m v4 v5 v6 v7 v8 v9 v10, dB (decide (m > 65536))) := by kernel_rfl
theorem run4 : run prog 4 (StG l m v4 v5 v6 v7 v8 v9 v10) 0 = some (StG l m .nils (dI 2) v6 v7 v8 v9 v10, .dat rowS l) := by kernel_rfl
theorem run5 : run prog 5 (StG l m v4 v5 v6 v7 v8 v9 v10) 0 = some (StG l m v4 v5 (dI 0) v7 v8 v9 v10, .dat rowS l) := by kernel_rfl
theorem run6 : run prog 6 (StG l m v4 v5 (dI i) v7 v8 v9 v10) 23 = some (StG l m v4 v5 (dI i) v7 v8 v9 v10, dB (decide (i < (l.length : Int)))) := by kernel_rfl
theorem run8 : run prog 8 (StG l m v4 v5 (dI i) v7 v8 v9 v10) 37 = bif decide (0 ≤ i) && decide (i < (l.length : Int)) then (bif decide (l.getD i.toNat 0 < 1) then some (StG l m v4 v5 (dI i) v7 v8 v9 v10, dB true) else
    bif decide (0 ≤ i) && decide (i < (l.length : Int)) then some (StG l m v4 v5 (dI i) v7 v8 v9 v10, dB (decide (l.getD i.toNat 0 > 65536))) else none) else none := by kernel_rfl
theorem run9 : run prog 9 (StG l m v4 v5 v6 v7 v8 v9 v10) 0 = some (StG l m .nils (dI 2) v6 v7 v8 v9 v10, .dat rowS l) := by kernel_rfl
theorem run7 : run prog 7 (StG l m v4 v5 (dI i) v7 v8 v9 v10) 0 = some (StG l m v4 v5 (dI (addI i 1)) v7 v8 v9 v10, .dat rowS l) := by kernel_rfl
theorem run10 : run prog 10 (StG l m v4 v5 v6 v7 v8 v9 v10) 0 = some (StG l m v4 v5 v6 .nils v8 v9 v10, .dat rowS l) := by kernel_rfl
theorem run11 : run prog 11 (StG l m v4 v5 v6 v7 v8 v9 v10) 0 = some (StG l m v4 v5 v6 v7 (dI 0) v9 v10, .dat rowS l) := by kernel_rfl
theorem run12 : run prog 12 (StG l m v4 v5 v6 v7 v8 v9 v10) 0 = some (StG l m v4 v5 v6 v7 v8 (dI 0) v10, .dat rowS l) := by kernel_rfl
theorem run13 : run prog 13 (StG l m v4 v5 v6 v7 v8 (dI i) v10) 41 = some (StG l m v4 v5 v6 v7 v8 (dI i) v10, dB (decide (i < (l.length : Int)))) := by kernel_rfl
theorem run15 (b : Bool) (k : Nat) : run prog 15 (StG l m v4 v5 v6 (.pk b k) v8 v9 v10) 0 = some (StG l m v4 v5 v6 (.pk b k) v8 v9 (dI (k : Nat)), .dat rowS l) := by kernel_rfl
theorem run16 : run prog 16 (StG l m v4 v5 v6 v7 (dI s) (dI i) (dI n)) 57 = bif decide (n > 0) then (bif decide (0 ≤ i) && decide (i < (l.length : Int)) then some (StG l m v4 v5 v6 v7 (dI s) (dI i) (dI n), dB (decide (addI s (l.getD i.toNat 0) ≤ m))) else none) else
    some (StG l m v4 v5 v6 v7 (dI s) (dI i) (dI n), dB false) := by kernel_rfl
theorem run18 : run prog 18 (StG l m v4 v5 v6 v7 (dI s) (dI i) v10) 0 = bif decide (0 ≤ i) && decide (i < (l.length : Int)) then some (StG l m v4 v5 v6 v7 (dI (addI s (l.getD i.toNat 0))) (dI i) v10, .dat rowS l) else none := by kernel_rfl
theorem run20 : run prog 20 (StG l m v4 v5 v6 v7 v8 (dI i) v10) 0 = bif decide (0 ≤ i) && decide (i < (l.length : Int)) then some (StG l m v4 v5 v6 v7 (dI (l.getD i.toNat 0)) (dI i) v10, .dat rowS l) else none := by kernel_rfl
theorem run14 : run prog 14 (StG l m v4 v5 v6 v7 v8 (dI i) v10) 0 = some (StG l m v4 v5 v6 v7 v8 (dI (addI i 1)) v10, .dat rowS l) := by kernel_rfl
theorem run21 : run prog 21 (StG l m v4 v5 v6 v7 v8 v9 v10) 0 = some (StG l m v7 (dI 0) v6 v7 v8 v9 v10, .dat rowS l) := by kernel_rfl
end Go.AI
