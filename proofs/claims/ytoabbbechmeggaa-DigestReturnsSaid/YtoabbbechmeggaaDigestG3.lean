/- Plain functions, printed by running the machine on symbols. -/
import Derived.Test.YtoabbbechmeggaaDigestS
namespace Go.AI
open Go
set_option linter.unusedVariables false

def DigestSums {X : Type} (F : Nat) (b : List UInt8) (fail : X) (ret : Bool → X) : X :=
  bif (law04_awake_r) then
    bif (decide (((b.length : Nat) : Int) > (2000 : Int))) then
      ret true
    else
    bif (dSum_P b) then
    bif (rSum_P b) then
    ret (beqT (.arr 32 (.int .u8)) (dSum_r b) (rSum_r b))
    else fail
    else fail
  else
  ret false

def DigestWrites {X : Type} (F : Nat) (h : ((List UInt32) × ((List UInt8) × (Int × Unit)))) (b : List UInt8) (fail : X) (ret : Bool → X) : X :=
  bif (decide (((h.2.1.length : Nat) : Int) > (200 : Int))) then
    ret (law04_awake_r)
  else
  bif (decide (((b.length : Nat) : Int) > (2000 : Int))) then
    bif (decide (((b.length : Nat) : Int) ≤ (65536 : Int))) then
      ret (law04_awake_r)
    else
    bif (hWrite_P h b) then
    bif (rWrite_P h b) then
    bif (hFinish_P h) then
    bif (rFinish_P h) then
    bif (law04_awake_r) then
      bif (rSame_r (hWrite_r0 h b) (rWrite_r0 h b)) then
        bif ((hWrite_r1 h b) == (rWrite_r1 h b)) then
          bif (beqT (.arr 32 (.int .u8)) (hFinish_r0 h) (rFinish_r0 h)) then
            bif ((hFinish_r1 h) == (rFinish_r1 h)) then
              bif ((hCheck_r h) == (rCheck_r h)) then
                bif (hNew_P) then
                bif (rNew_P) then
                ret (rSame_r (hNew_r) (rNew_r))
                else fail
                else fail
              else
              ret false
            else
            ret false
          else
          ret false
        else
        ret false
      else
      ret false
    else
    ret false
    else fail
    else fail
    else fail
    else fail
  else
  bif (hWrite_P h b) then
  bif (rWrite_P h b) then
  bif (hFinish_P h) then
  bif (rFinish_P h) then
  bif (law04_awake_r) then
    bif (rSame_r (hWrite_r0 h b) (rWrite_r0 h b)) then
      bif ((hWrite_r1 h b) == (rWrite_r1 h b)) then
        bif (beqT (.arr 32 (.int .u8)) (hFinish_r0 h) (rFinish_r0 h)) then
          bif ((hFinish_r1 h) == (rFinish_r1 h)) then
            bif ((hCheck_r h) == (rCheck_r h)) then
              bif (hNew_P) then
              bif (rNew_P) then
              ret (rSame_r (hNew_r) (rNew_r))
              else fail
              else fail
            else
            ret false
          else
          ret false
        else
        ret false
      else
      ret false
    else
    ret false
  else
  ret false
  else fail
  else fail
  else fail
  else fail

def DigestMacs {X : Type} (F : Nat) (key : List UInt8) (b : List UInt8) (rounds : Int) (fail : X) (ret : Bool → X) : X :=
  bif (decide (((key.length : Nat) : Int) > (300 : Int))) then
    ret (law04_awake_r)
  else
  bif (decide (((b.length : Nat) : Int) > (2000 : Int))) then
    ret (law04_awake_r)
  else
  bif (decide (rounds > (20 : Int))) then
    bif (decide (rounds ≤ (1024 : Int))) then
      bif (dDerive_P key b (20 : Int)) then
      bif (rDerive_P key b (20 : Int)) then
      bif (law04_awake_r) then
        bif (dMac_P key b) then
        bif (rMac_P key b) then
        bif (beqT (.arr 32 (.int .u8)) (dMac_r key b) (rMac_r key b)) then
          bif (beqT (.arr 32 (.int .u8)) (dDerive_r0 key b (20 : Int)) (rDerive_r0 key b (20 : Int))) then
            ret ((dDerive_r1 key b (20 : Int)) == (rDerive_r1 key b (20 : Int)))
          else
          ret false
        else
        ret false
        else fail
        else fail
      else
      ret false
      else fail
      else fail
    else
    bif (dDerive_P key b rounds) then
    bif (rDerive_P key b rounds) then
    bif (law04_awake_r) then
      bif (dMac_P key b) then
      bif (rMac_P key b) then
      bif (beqT (.arr 32 (.int .u8)) (dMac_r key b) (rMac_r key b)) then
        bif (beqT (.arr 32 (.int .u8)) (dDerive_r0 key b rounds) (rDerive_r0 key b rounds)) then
          ret ((dDerive_r1 key b rounds) == (rDerive_r1 key b rounds))
        else
        ret false
      else
      ret false
      else fail
      else fail
    else
    ret false
    else fail
    else fail
  else
  bif (dDerive_P key b rounds) then
  bif (rDerive_P key b rounds) then
  bif (law04_awake_r) then
    bif (dMac_P key b) then
    bif (rMac_P key b) then
    bif (beqT (.arr 32 (.int .u8)) (dMac_r key b) (rMac_r key b)) then
      bif (beqT (.arr 32 (.int .u8)) (dDerive_r0 key b rounds) (rDerive_r0 key b rounds)) then
        ret ((dDerive_r1 key b rounds) == (rDerive_r1 key b rounds))
      else
      ret false
    else
    ret false
    else fail
    else fail
  else
  ret false
  else fail
  else fail

def DigestTexts {X : Type} (F : Nat) (d_ : List UInt8) (s : List UInt8) (fail : X) (ret : Bool → X) : X :=
  bif (decide (((s.length : Nat) : Int) > (1000 : Int))) then
    ret (law04_awake_r)
  else
  bif (dParse_P s) then
  bif (rParse_P s) then
  bif (law04_awake_r) then
    bif (dHex_P d_) then
    bif (rHex_P d_) then
    bif ((dHex_r d_) == (rHex_r d_)) then
      bif (beqT (.arr 32 (.int .u8)) (dParse_r0 s) (rParse_r0 s)) then
        ret ((dParse_r1 s) == (rParse_r1 s))
      else
      ret false
    else
    ret false
    else fail
    else fail
  else
  ret false
  else fail
  else fail

def DigestParts_l1 {X : Type} (F : Nat) (fail : X) (next : List UInt8 → List UInt8 → Bool → List UInt8 → Int → ((List UInt32) × ((List UInt8) × (Int × Unit))) → X) (ex0 : List UInt8 → List UInt8 → Bool → List UInt8 → Int → ((List UInt32) × ((List UInt8) × (Int × Unit))) → X) (ex1 : List UInt8 → List UInt8 → Bool → List UInt8 → Int → ((List UInt32) × ((List UInt8) × (Int × Unit))) → X) (b : List UInt8) (cuts : List UInt8) (s4 : Bool) (left : List UInt8) (i : Int) (h : ((List UInt32) × ((List UInt8) × (Int × Unit)))) : X :=
  bif (decide (i < ((cuts.length : Nat) : Int))) then
    bif ((decide ((0 : Int) ≤ i)) && (decide (i < ((cuts.length : Nat) : Int)))) then
    bif ((addI ((left.length : Nat) : Int) (1 : Int)) != (0 : Int)) then
    bif ((decide ((0 : Int) ≤ (remI (cvBI (List.getD cuts (i).toNat (0 : UInt8))) (addI ((left.length : Nat) : Int) (1 : Int))))) && (decide ((remI (cvBI (List.getD cuts (i).toNat (0 : UInt8))) (addI ((left.length : Nat) : Int) (1 : Int))) ≤ ((left.length : Nat) : Int)))) then
    bif (hWrite_P h (List.take ((remI (cvBI (List.getD cuts (i).toNat (0 : UInt8))) (addI ((left.length : Nat) : Int) (1 : Int)))).toNat left)) then
    bif ((hWrite_r1 h (List.take ((remI (cvBI (List.getD cuts (i).toNat (0 : UInt8))) (addI ((left.length : Nat) : Int) (1 : Int)))).toNat left)) != (0 : Int)) then
      ex0 b cuts false left i h
    else
    bif ((decide ((0 : Int) ≤ (remI (cvBI (List.getD cuts (i).toNat (0 : UInt8))) (addI ((left.length : Nat) : Int) (1 : Int))))) && (decide ((remI (cvBI (List.getD cuts (i).toNat (0 : UInt8))) (addI ((left.length : Nat) : Int) (1 : Int))) ≤ ((left.length : Nat) : Int)))) then
    next b cuts s4 (List.drop ((remI (cvBI (List.getD cuts (i).toNat (0 : UInt8))) (addI ((left.length : Nat) : Int) (1 : Int)))).toNat left) (addI i (1 : Int)) (hWrite_r0 h (List.take ((remI (cvBI (List.getD cuts (i).toNat (0 : UInt8))) (addI ((left.length : Nat) : Int) (1 : Int)))).toNat left))
    else fail
    else fail
    else fail
    else fail
    else fail
  else
  ex1 b cuts s4 left i h
def DigestParts_l1F {X : Type} (F : Nat) (fail : X) (ex0 : List UInt8 → List UInt8 → Bool → List UInt8 → Int → ((List UInt32) × ((List UInt8) × (Int × Unit))) → X) (ex1 : List UInt8 → List UInt8 → Bool → List UInt8 → Int → ((List UInt32) × ((List UInt8) × (Int × Unit))) → X) : Nat → List UInt8 → List UInt8 → Bool → List UInt8 → Int → ((List UInt32) × ((List UInt8) × (Int × Unit))) → X
  | 0, _, _, _, _, _, _ => fail
  | m + 1, b, cuts, s4, left, i, h => DigestParts_l1 F fail (DigestParts_l1F F fail ex0 ex1 m) ex0 ex1 b cuts s4 left i h

def DigestParts {X : Type} (F : Nat) (b : List UInt8) (cuts : List UInt8) (fail : X) (ret : Bool → X) : X :=
  bif (decide (((b.length : Nat) : Int) > (1000 : Int))) then
    ret (law04_awake_r)
  else
  bif (decide (((cuts.length : Nat) : Int) > (40 : Int))) then
    ret (law04_awake_r)
  else
  bif (hNew_P) then
  DigestParts_l1F F fail
    (fun (b1 : List UInt8) (cuts1 : List UInt8) (s4 : Bool) (left : List UInt8) (i : Int) (h : ((List UInt32) × ((List UInt8) × (Int × Unit)))) =>
      ret s4)
    (fun (b2 : List UInt8) (cuts2 : List UInt8) (s41 : Bool) (left1 : List UInt8) (i1 : Int) (h1 : ((List UInt32) × ((List UInt8) × (Int × Unit)))) =>
      bif (hWrite_P h1 left1) then
      bif (hFinish_P (hWrite_r0 h1 left1)) then
      bif (law04_awake_r) then
        bif ((hWrite_r1 h1 left1) == (0 : Int)) then
          bif ((hFinish_r1 (hWrite_r0 h1 left1)) == (0 : Int)) then
            bif (dSum_P b2) then
            bif (beqT (.arr 32 (.int .u8)) (hFinish_r0 (hWrite_r0 h1 left1)) (dSum_r b2)) then
              ret ((hWrite_r0 h1 left1).2.2.1 == ((b2.length : Nat) : Int))
            else
            ret false
            else fail
          else
          ret false
        else
        ret false
      else
      ret false
      else fail
      else fail)
    F b cuts false b (0 : Int) (hNew_r)
  else fail

def DigestKeys_l1 {X : Type} (F : Nat) (fail : X) (next : List UInt8 → List UInt8 → UInt8 → Int → List UInt8 → X) (ex0 : List UInt8 → List UInt8 → UInt8 → Int → List UInt8 → X) (key : List UInt8) (b : List UInt8) (zeros : UInt8) (i : Int) (other : List UInt8) : X :=
  bif (decide (i < (cvBI zeros))) then
    bif (decide (((other.length : Nat) : Int) < (64 : Int))) then
      bif (decide ((other ++ ([(0 : UInt8)] : List UInt8)).length ≤ big)) then
      next key b zeros (addI i (1 : Int)) (other ++ ([(0 : UInt8)] : List UInt8))
      else fail
    else
    ex0 key b zeros i other
  else
  ex0 key b zeros i other
def DigestKeys_l1F {X : Type} (F : Nat) (fail : X) (ex0 : List UInt8 → List UInt8 → UInt8 → Int → List UInt8 → X) : Nat → List UInt8 → List UInt8 → UInt8 → Int → List UInt8 → X
  | 0, _, _, _, _, _ => fail
  | m + 1, key, b, zeros, i, other => DigestKeys_l1 F fail (DigestKeys_l1F F fail ex0 m) ex0 key b zeros i other

def DigestKeys {X : Type} (F : Nat) (key : List UInt8) (b : List UInt8) (zeros : UInt8) (fail : X) (ret : Bool → X) : X :=
  bif (decide (((key.length : Nat) : Int) > (300 : Int))) then
    ret (law04_awake_r)
  else
  bif (decide (((b.length : Nat) : Int) > (500 : Int))) then
    ret (law04_awake_r)
  else
  bif (decide (key.length ≤ big)) then
  bif (decide (((key.length : Nat) : Int) > (64 : Int))) then
    bif (dSum_P key) then
    bif (law04_awake_r) then
      bif (dMac_P key b) then
      bif (dMac_P (List.take 32 (dSum_r key)) b) then
      ret (beqT (.arr 32 (.int .u8)) (dMac_r key b) (dMac_r (List.take 32 (dSum_r key)) b))
      else fail
      else fail
    else
    ret false
    else fail
  else
  DigestKeys_l1F F fail
    (fun (key1 : List UInt8) (b1 : List UInt8) (zeros1 : UInt8) (i : Int) (other : List UInt8) =>
      bif (law04_awake_r) then
        bif (dMac_P key1 b1) then
        bif (dMac_P other b1) then
        ret (beqT (.arr 32 (.int .u8)) (dMac_r key1 b1) (dMac_r other b1))
        else fail
        else fail
      else
      ret false)
    F key b zeros (0 : Int) key
  else fail

def DigestRounds_l2 {X : Type} (F : Nat) (fail : X) (next : List UInt8 → List UInt8 → Int → Int → Int → List UInt8 → List UInt8 → X) (ex0 : List UInt8 → List UInt8 → Int → Int → Int → List UInt8 → List UInt8 → X) (password : List UInt8) (salt : List UInt8) (n : Int) (i : Int) (k : Int) (u : List UInt8) (want : List UInt8) : X :=
  bif (decide (k < (32 : Int))) then
    bif ((decide ((0 : Int) ≤ k)) && (decide (k < ((32 : Nat) : Int)))) then
    bif ((decide ((0 : Int) ≤ k)) && (decide (k < ((32 : Nat) : Int)))) then
    bif ((decide ((0 : Int) ≤ k)) && (decide (k < ((32 : Nat) : Int)))) then
    next password salt n i (addI k (1 : Int)) u (List.set want (k).toNat (xorB (List.getD want (k).toNat (0 : UInt8)) (List.getD u (k).toNat (0 : UInt8))))
    else fail
    else fail
    else fail
  else
  ex0 password salt n i k u want
def DigestRounds_l2F {X : Type} (F : Nat) (fail : X) (ex0 : List UInt8 → List UInt8 → Int → Int → Int → List UInt8 → List UInt8 → X) : Nat → List UInt8 → List UInt8 → Int → Int → Int → List UInt8 → List UInt8 → X
  | 0, _, _, _, _, _, _, _ => fail
  | m + 1, password, salt, n, i, k, u, want => DigestRounds_l2 F fail (DigestRounds_l2F F fail ex0 m) ex0 password salt n i k u want

def DigestRounds_l1 {X : Type} (F : Nat) (fail : X) (next : List UInt8 → List UInt8 → Int → Int → List UInt8 → List UInt8 → X) (ex0 : List UInt8 → List UInt8 → Int → Int → List UInt8 → List UInt8 → X) (password : List UInt8) (salt : List UInt8) (n : Int) (i : Int) (u : List UInt8) (want : List UInt8) : X :=
  bif (decide (i < n)) then
    bif (dMac_P password (List.take 32 u)) then
    DigestRounds_l2F F fail
      (fun (password1 : List UInt8) (salt1 : List UInt8) (n1 : Int) (i1 : Int) (k : Int) (u1 : List UInt8) (want1 : List UInt8) =>
        next password1 salt1 n1 (addI i1 (1 : Int)) u1 want1)
      F password salt n i (0 : Int) (dMac_r password (List.take 32 u)) want
    else fail
  else
  ex0 password salt n i u want
def DigestRounds_l1F {X : Type} (F : Nat) (fail : X) (ex0 : List UInt8 → List UInt8 → Int → Int → List UInt8 → List UInt8 → X) : Nat → List UInt8 → List UInt8 → Int → Int → List UInt8 → List UInt8 → X
  | 0, _, _, _, _, _, _ => fail
  | m + 1, password, salt, n, i, u, want => DigestRounds_l1 F fail (DigestRounds_l1F F fail ex0 m) ex0 password salt n i u want

def DigestRounds {X : Type} (F : Nat) (password : List UInt8) (salt : List UInt8) (rounds : UInt8) (fail : X) (ret : Bool → X) : X :=
  bif (decide (((password.length : Nat) : Int) > (200 : Int))) then
    ret (law04_awake_r)
  else
  bif (decide (((salt.length : Nat) : Int) > (200 : Int))) then
    ret (law04_awake_r)
  else
  bif (decide (salt.length ≤ big)) then
  bif (decide ((salt ++ ([(0 : UInt8), (0 : UInt8), (0 : UInt8), (1 : UInt8)] : List UInt8)).length ≤ big)) then
  bif (dMac_P password (salt ++ ([(0 : UInt8), (0 : UInt8), (0 : UInt8), (1 : UInt8)] : List UInt8))) then
  DigestRounds_l1F F fail
    (fun (password1 : List UInt8) (salt1 : List UInt8) (n : Int) (i : Int) (u : List UInt8) (want : List UInt8) =>
      bif (dDerive_P password1 salt1 n) then
      bif (law04_awake_r) then
        bif ((dDerive_r1 password1 salt1 n) == (0 : Int)) then
          ret (beqT (.arr 32 (.int .u8)) (dDerive_r0 password1 salt1 n) want)
        else
        ret false
      else
      ret false
      else fail)
    F password salt (addI (2 : Int) (cvBI (remB rounds (6 : UInt8)))) (1 : Int) (dMac_r password (salt ++ ([(0 : UInt8), (0 : UInt8), (0 : UInt8), (1 : UInt8)] : List UInt8))) (dMac_r password (salt ++ ([(0 : UInt8), (0 : UInt8), (0 : UInt8), (1 : UInt8)] : List UInt8)))
  else fail
  else fail
  else fail

def DigestReturns {X : Type} (F : Nat) (d_ : List UInt8) (s : List UInt8) (fail : X) (ret : Bool → X) : X :=
  bif (decide (((s.length : Nat) : Int) > (1000 : Int))) then
    ret (law04_awake_r)
  else
  bif (dHex_P d_) then
  bif (dParse_P (dHex_r d_)) then
  bif ((dParse_r1 (dHex_r d_)) != (0 : Int)) then
    ret false
  else
  bif (!(beqT (.arr 32 (.int .u8)) (dParse_r0 (dHex_r d_)) d_)) then
    ret false
  else
  bif (dHex_P d_) then
  bif ((((dHex_r d_).length : Nat) : Int) != (64 : Int)) then
    ret false
  else
  bif (dParse_P s) then
  bif (law04_awake_r) then
    bif ((dParse_r1 s) != (0 : Int)) then
      ret true
    else
    bif (dHex_P (dParse_r0 s)) then
    ret ((dHex_r (dParse_r0 s)) == s)
    else fail
  else
  ret false
  else fail
  else fail
  else fail
  else fail

end Go.AI
