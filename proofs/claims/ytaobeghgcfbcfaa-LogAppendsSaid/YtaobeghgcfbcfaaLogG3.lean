/- Plain functions, printed by running the machine on symbols. -/
import Derived.Test.YtaobeghgcfbcfaaLogS
namespace Go.AI
open Go
set_option linter.unusedVariables false

def LogFormats {X : Type} (F : Nat) (l : (Int × (Int × (Int × Unit)))) (n : Int) (fail : X) (ret : Bool → X) : X :=
  bif (decide (n > (500 : Int))) then
    bif (decide (n ≤ (8192 : Int))) then
      ret (law49_awake_r)
    else
    bif (lFormat_P n) then
    bif (qFormat_P n) then
    bif (law49_awake_r) then
      bif (lPages_P n) then
      bif (qPages_P n) then
      bif ((lPages_r n) == (qPages_r n)) then
        bif ((lCheck_r l) == (qLCheck_r l)) then
          bif (beqT (.pair (.int .i64) (.pair (.int .i64) (.pair (.int .i64) .unit))) (lFormat_r0 n) (qFormat_r0 n)) then
            bif (rSameOps_P (lFormat_r1 n) (qFormat_r1 n)) then
            bif (rSameOps_r (lFormat_r1 n) (qFormat_r1 n)) then
              ret ((lFormat_r2 n) == (qFormat_r2 n))
            else
            ret false
            else fail
          else
          ret false
        else
        ret false
      else
      ret false
      else fail
      else fail
    else
    ret false
    else fail
    else fail
  else
  bif (lFormat_P n) then
  bif (qFormat_P n) then
  bif (law49_awake_r) then
    bif (lPages_P n) then
    bif (qPages_P n) then
    bif ((lPages_r n) == (qPages_r n)) then
      bif ((lCheck_r l) == (qLCheck_r l)) then
        bif (beqT (.pair (.int .i64) (.pair (.int .i64) (.pair (.int .i64) .unit))) (lFormat_r0 n) (qFormat_r0 n)) then
          bif (rSameOps_P (lFormat_r1 n) (qFormat_r1 n)) then
          bif (rSameOps_r (lFormat_r1 n) (qFormat_r1 n)) then
            ret ((lFormat_r2 n) == (qFormat_r2 n))
          else
          ret false
          else fail
        else
        ret false
      else
      ret false
    else
    ret false
    else fail
    else fail
  else
  ret false
  else fail
  else fail

def LogAppends {X : Type} (F : Nat) (l : (Int × (Int × (Int × Unit)))) (payload : List UInt8) (fail : X) (ret : Bool → X) : X :=
  bif (decide (((payload.length : Nat) : Int) > (2000 : Int))) then
    bif (decide (((payload.length : Nat) : Int) ≤ (65536 : Int))) then
      ret (law49_awake_r)
    else
    bif (lAppend_P l payload) then
    bif (qAppend_P l payload) then
    bif (law49_awake_r) then
      bif (beqT (.pair (.int .i64) (.pair (.int .i64) (.pair (.int .i64) .unit))) (lAppend_r0 l payload) (qAppend_r0 l payload)) then
        bif (rSameOps_P (lAppend_r1 l payload) (qAppend_r1 l payload)) then
        bif (rSameOps_r (lAppend_r1 l payload) (qAppend_r1 l payload)) then
          ret ((lAppend_r2 l payload) == (qAppend_r2 l payload))
        else
        ret false
        else fail
      else
      ret false
    else
    ret false
    else fail
    else fail
  else
  bif (lAppend_P l payload) then
  bif (qAppend_P l payload) then
  bif (law49_awake_r) then
    bif (beqT (.pair (.int .i64) (.pair (.int .i64) (.pair (.int .i64) .unit))) (lAppend_r0 l payload) (qAppend_r0 l payload)) then
      bif (rSameOps_P (lAppend_r1 l payload) (qAppend_r1 l payload)) then
      bif (rSameOps_r (lAppend_r1 l payload) (qAppend_r1 l payload)) then
        ret ((lAppend_r2 l payload) == (qAppend_r2 l payload))
      else
      ret false
      else fail
    else
    ret false
  else
  ret false
  else fail
  else fail

def LogScans {X : Type} (F : Nat) (l : List (List UInt8)) (first : Int) (fail : X) (ret : Bool → X) : X :=
  bif (decide (((l.length : Nat) : Int) > (500 : Int))) then
    ret (law49_awake_r)
  else
  bif (lScan_P l first) then
  bif (qScan_P l first) then
  bif (law49_awake_r) then
    bif (qSameB_P (lScan_r0 l first) (qScan_r0 l first)) then
    bif (qSameB_r (lScan_r0 l first) (qScan_r0 l first)) then
      ret ((lScan_r1 l first) == (qScan_r1 l first))
    else
    ret false
    else fail
  else
  ret false
  else fail
  else fail

def LogOpens {X : Type} (F : Nat) (d_ : ((List (List UInt8)) × ((List (Int × ((List UInt8) × Unit))) × Unit))) (fail : X) (ret : Bool → X) : X :=
  bif (!(rFew_r d_)) then
    ret (law49_awake_r)
  else
  bif (lOpen_P d_) then
  bif (qOpen_P d_) then
  bif (law49_awake_r) then
    bif (beqT (.pair (.int .i64) (.pair (.int .i64) (.pair (.int .i64) .unit))) (lOpen_r0 d_) (qOpen_r0 d_)) then
      bif (qSameB_P (lOpen_r1 d_) (qOpen_r1 d_)) then
      bif (qSameB_r (lOpen_r1 d_) (qOpen_r1 d_)) then
        ret ((lOpen_r2 d_) == (qOpen_r2 d_))
      else
      ret false
      else fail
    else
    ret false
  else
  ret false
  else fail
  else fail

end Go.AI
