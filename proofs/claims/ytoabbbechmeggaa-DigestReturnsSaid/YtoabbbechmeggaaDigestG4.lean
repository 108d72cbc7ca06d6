/- Plain functions, printed by running the machine on symbols. -/
import Derived.Test.YtoabbbechmeggaaDigestS
namespace Go.AI
open Go
set_option linter.unusedVariables false

def tab_10de52 : List UInt8 := [119, 104, 97, 116, 32, 100, 111, 32, 121, 97, 32, 119, 97, 110, 116, 32, 102, 111, 114, 32, 110, 111, 116, 104, 105, 110, 103, 63]
def tab_4f5787 : List UInt8 := [97, 101, 52, 100, 48, 99, 57, 53, 97, 102, 54, 98, 52, 54, 100, 51, 50, 100, 48, 97, 100, 102, 102, 57, 50, 56, 102, 48, 54, 100, 100, 48, 50, 97, 51, 48, 51, 102, 56, 101, 102, 51, 99, 50, 53, 49, 100, 102, 100, 54, 101, 50, 100, 56, 53, 97, 57, 53, 52, 55, 52, 99, 52, 51]
def tab_6874b3 : List UInt8 := [53, 98, 100, 99, 99, 49, 52, 54, 98, 102, 54, 48, 55, 53, 52, 101, 54, 97, 48, 52, 50, 52, 50, 54, 48, 56, 57, 53, 55, 53, 99, 55, 53, 97, 48, 48, 51, 102, 48, 56, 57, 100, 50, 55, 51, 57, 56, 51, 57, 100, 101, 99, 53, 56, 98, 57, 54, 52, 101, 99, 51, 56, 52, 51]
def tab_9f041f : List UInt8 := [98, 97, 55, 56, 49, 54, 98, 102, 56, 102, 48, 49, 99, 102, 101, 97, 52, 49, 52, 49, 52, 48, 100, 101, 53, 100, 97, 101, 50, 50, 50, 51, 98, 48, 48, 51, 54, 49, 97, 51, 57, 54, 49, 55, 55, 97, 57, 99, 98, 52, 49, 48, 102, 102, 54, 49, 102, 50, 48, 48, 49, 53, 97, 100]
def tab_d096eb : List UInt8 := [49, 50, 48, 102, 98, 54, 99, 102, 102, 99, 102, 56, 98, 51, 50, 99, 52, 51, 101, 55, 50, 50, 53, 50, 53, 54, 99, 52, 102, 56, 51, 55, 97, 56, 54, 53, 52, 56, 99, 57, 50, 99, 99, 99, 51, 53, 52, 56, 48, 56, 48, 53, 57, 56, 55, 99, 98, 55, 48, 98, 101, 49, 55, 98]
def tab_de1770 : List UInt8 := [101, 51, 98, 48, 99, 52, 52, 50, 57, 56, 102, 99, 49, 99, 49, 52, 57, 97, 102, 98, 102, 52, 99, 56, 57, 57, 54, 102, 98, 57, 50, 52, 50, 55, 97, 101, 52, 49, 101, 52, 54, 52, 57, 98, 57, 51, 52, 99, 97, 52, 57, 53, 57, 57, 49, 98, 55, 56, 53, 50, 98, 56, 53, 53]
def law04_awake {X : Type} (F : Nat)  (fail : X) (ret : Bool → X) : X :=
  bif (dDerive_P ([(112 : UInt8), (97 : UInt8), (115 : UInt8), (115 : UInt8), (119 : UInt8), (111 : UInt8), (114 : UInt8), (100 : UInt8)] : List UInt8) ([(115 : UInt8), (97 : UInt8), (108 : UInt8), (116 : UInt8)] : List UInt8) (1 : Int)) then
  bif (dDerive_P ([(112 : UInt8), (97 : UInt8), (115 : UInt8), (115 : UInt8), (119 : UInt8), (111 : UInt8), (114 : UInt8), (100 : UInt8)] : List UInt8) ([(115 : UInt8), (97 : UInt8), (108 : UInt8), (116 : UInt8)] : List UInt8) (2 : Int)) then
  bif ((dDerive_r1 ([(112 : UInt8), (97 : UInt8), (115 : UInt8), (115 : UInt8), (119 : UInt8), (111 : UInt8), (114 : UInt8), (100 : UInt8)] : List UInt8) ([(115 : UInt8), (97 : UInt8), (108 : UInt8), (116 : UInt8)] : List UInt8) (1 : Int)) != (0 : Int)) then
    ret false
  else
  bif ((dDerive_r1 ([(112 : UInt8), (97 : UInt8), (115 : UInt8), (115 : UInt8), (119 : UInt8), (111 : UInt8), (114 : UInt8), (100 : UInt8)] : List UInt8) ([(115 : UInt8), (97 : UInt8), (108 : UInt8), (116 : UInt8)] : List UInt8) (2 : Int)) != (0 : Int)) then
    ret false
  else
  bif (dHex_P (dDerive_r0 ([(112 : UInt8), (97 : UInt8), (115 : UInt8), (115 : UInt8), (119 : UInt8), (111 : UInt8), (114 : UInt8), (100 : UInt8)] : List UInt8) ([(115 : UInt8), (97 : UInt8), (108 : UInt8), (116 : UInt8)] : List UInt8) (1 : Int))) then
  bif (!((dHex_r (dDerive_r0 ([(112 : UInt8), (97 : UInt8), (115 : UInt8), (115 : UInt8), (119 : UInt8), (111 : UInt8), (114 : UInt8), (100 : UInt8)] : List UInt8) ([(115 : UInt8), (97 : UInt8), (108 : UInt8), (116 : UInt8)] : List UInt8) (1 : Int))) == tab_d096eb)) then
    ret false
  else
  bif (dHex_P (dDerive_r0 ([(112 : UInt8), (97 : UInt8), (115 : UInt8), (115 : UInt8), (119 : UInt8), (111 : UInt8), (114 : UInt8), (100 : UInt8)] : List UInt8) ([(115 : UInt8), (97 : UInt8), (108 : UInt8), (116 : UInt8)] : List UInt8) (2 : Int))) then
  bif (!((dHex_r (dDerive_r0 ([(112 : UInt8), (97 : UInt8), (115 : UInt8), (115 : UInt8), (119 : UInt8), (111 : UInt8), (114 : UInt8), (100 : UInt8)] : List UInt8) ([(115 : UInt8), (97 : UInt8), (108 : UInt8), (116 : UInt8)] : List UInt8) (2 : Int))) == tab_4f5787)) then
    ret false
  else
  bif (dMac_P ([(74 : UInt8), (101 : UInt8), (102 : UInt8), (101 : UInt8)] : List UInt8) tab_10de52) then
  bif (dSum_P ([] : List UInt8)) then
  bif (dHex_P (dSum_r ([] : List UInt8))) then
  bif ((dHex_r (dSum_r ([] : List UInt8))) == tab_de1770) then
    bif (dSum_P ([(97 : UInt8), (98 : UInt8), (99 : UInt8)] : List UInt8)) then
    bif (dHex_P (dSum_r ([(97 : UInt8), (98 : UInt8), (99 : UInt8)] : List UInt8))) then
    bif ((dHex_r (dSum_r ([(97 : UInt8), (98 : UInt8), (99 : UInt8)] : List UInt8))) == tab_9f041f) then
      bif (dHex_P (dMac_r ([(74 : UInt8), (101 : UInt8), (102 : UInt8), (101 : UInt8)] : List UInt8) tab_10de52)) then
      ret ((dHex_r (dMac_r ([(74 : UInt8), (101 : UInt8), (102 : UInt8), (101 : UInt8)] : List UInt8) tab_10de52)) == tab_6874b3)
      else fail
    else
    ret false
    else fail
    else fail
  else
  ret false
  else fail
  else fail
  else fail
  else fail
  else fail
  else fail
  else fail

end Go.AI
