/- Plain functions, printed by running the machine on symbols. -/
import Derived.Test.YtfpconfgbkoifaaCipherS
namespace Go.AI
open Go
set_option linter.unusedVariables false

def CipherBlocks {X : Type} (F : Nat) (key : List UInt8) (nonce : Int) (counter : Int) (fail : X) (ret : Bool → X) : X :=
  bif (cBlock_P key nonce counter) then
  bif (rBlock_P key nonce counter) then
  bif (bytes_Equal_r (cBlock_r0 key nonce counter) (rBlock_r0 key nonce counter)) then
    bif ((cBlock_r1 key nonce counter) == (rBlock_r1 key nonce counter)) then
      ret (law47_awake_r)
    else
    ret false
  else
  ret false
  else fail
  else fail

def CipherStreams {X : Type} (F : Nat) (key : List UInt8) (nonce : Int) (b : List UInt8) (fail : X) (ret : Bool → X) : X :=
  bif (law47_short_P ([b] : List (List UInt8))) then
  bif (!(law47_short_r ([b] : List (List UInt8)))) then
    ret (law47_awake_r)
  else
  bif (decide (((b.length : Nat) : Int) > (300 : Int))) then
    bif (decide (((b.length : Nat) : Int) ≤ (65536 : Int))) then
      ret (law47_awake_r)
    else
    bif (cStream_P key nonce b) then
    bif (rStream_P key nonce b) then
    bif ((decide ((0 : Int) ≤ (minI ((b.length : Nat) : Int) (100 : Int)))) && (decide ((minI ((b.length : Nat) : Int) (100 : Int)) ≤ ((b.length : Nat) : Int)))) then
    bif (cKeys_P (List.take ((minI ((b.length : Nat) : Int) (100 : Int))).toNat b)) then
    bif ((decide ((0 : Int) ≤ (minI ((b.length : Nat) : Int) (100 : Int)))) && (decide ((minI ((b.length : Nat) : Int) (100 : Int)) ≤ ((b.length : Nat) : Int)))) then
    bif (rKeys_P (List.take ((minI ((b.length : Nat) : Int) (100 : Int))).toNat b)) then
    bif (bytes_Equal_r (cStream_r0 key nonce b) (rStream_r0 key nonce b)) then
      bif ((cStream_r1 key nonce b) == (rStream_r1 key nonce b)) then
        bif (beqT (.arr 32 (.int .u8)) (cKeys_r0 (List.take ((minI ((b.length : Nat) : Int) (100 : Int))).toNat b)) (rKeys_r0 (List.take ((minI ((b.length : Nat) : Int) (100 : Int))).toNat b))) then
          bif (beqT (.arr 32 (.int .u8)) (cKeys_r1 (List.take ((minI ((b.length : Nat) : Int) (100 : Int))).toNat b)) (rKeys_r1 (List.take ((minI ((b.length : Nat) : Int) (100 : Int))).toNat b))) then
            ret (law47_awake_r)
          else
          ret false
        else
        ret false
      else
      ret false
    else
    ret false
    else fail
    else fail
    else fail
    else fail
    else fail
    else fail
  else
  bif (cStream_P key nonce b) then
  bif (rStream_P key nonce b) then
  bif ((decide ((0 : Int) ≤ (minI ((b.length : Nat) : Int) (100 : Int)))) && (decide ((minI ((b.length : Nat) : Int) (100 : Int)) ≤ ((b.length : Nat) : Int)))) then
  bif (cKeys_P (List.take ((minI ((b.length : Nat) : Int) (100 : Int))).toNat b)) then
  bif ((decide ((0 : Int) ≤ (minI ((b.length : Nat) : Int) (100 : Int)))) && (decide ((minI ((b.length : Nat) : Int) (100 : Int)) ≤ ((b.length : Nat) : Int)))) then
  bif (rKeys_P (List.take ((minI ((b.length : Nat) : Int) (100 : Int))).toNat b)) then
  bif (bytes_Equal_r (cStream_r0 key nonce b) (rStream_r0 key nonce b)) then
    bif ((cStream_r1 key nonce b) == (rStream_r1 key nonce b)) then
      bif (beqT (.arr 32 (.int .u8)) (cKeys_r0 (List.take ((minI ((b.length : Nat) : Int) (100 : Int))).toNat b)) (rKeys_r0 (List.take ((minI ((b.length : Nat) : Int) (100 : Int))).toNat b))) then
        bif (beqT (.arr 32 (.int .u8)) (cKeys_r1 (List.take ((minI ((b.length : Nat) : Int) (100 : Int))).toNat b)) (rKeys_r1 (List.take ((minI ((b.length : Nat) : Int) (100 : Int))).toNat b))) then
          ret (law47_awake_r)
        else
        ret false
      else
      ret false
    else
    ret false
  else
  ret false
  else fail
  else fail
  else fail
  else fail
  else fail
  else fail
  else fail

def CipherSeals {X : Type} (F : Nat) (key : List UInt8) (nonce : Int) (b : List UInt8) (fail : X) (ret : Bool → X) : X :=
  bif (law47_short_P ([key, b] : List (List UInt8))) then
  bif (!(law47_short_r ([key, b] : List (List UInt8)))) then
    ret (law47_awake_r)
  else
  bif (cSeal_P key nonce b) then
  bif (rSeal_P key nonce b) then
  bif (bytes_Equal_r (cSeal_r0 key nonce b) (rSeal_r0 key nonce b)) then
    bif ((cSeal_r1 key nonce b) == (rSeal_r1 key nonce b)) then
      ret (law47_awake_r)
    else
    ret false
  else
  ret false
  else fail
  else fail
  else fail

def CipherOpens {X : Type} (F : Nat) (key : List UInt8) (nonce : Int) (b : List UInt8) (fail : X) (ret : Bool → X) : X :=
  bif (law47_short_P ([key, b] : List (List UInt8))) then
  bif (!(law47_short_r ([key, b] : List (List UInt8)))) then
    ret (law47_awake_r)
  else
  bif (decide (((b.length : Nat) : Int) > (300 : Int))) then
    bif (decide (((b.length : Nat) : Int) ≤ (65536 : Int))) then
      ret (law47_awake_r)
    else
    bif (cOpen_P key nonce b) then
    bif (rOpen_P key nonce b) then
    bif (bytes_Equal_r (cOpen_r0 key nonce b) (rOpen_r0 key nonce b)) then
      bif ((cOpen_r1 key nonce b) == (rOpen_r1 key nonce b)) then
        ret (law47_awake_r)
      else
      ret false
    else
    ret false
    else fail
    else fail
  else
  bif (cOpen_P key nonce b) then
  bif (rOpen_P key nonce b) then
  bif (bytes_Equal_r (cOpen_r0 key nonce b) (rOpen_r0 key nonce b)) then
    bif ((cOpen_r1 key nonce b) == (rOpen_r1 key nonce b)) then
      ret (law47_awake_r)
    else
    ret false
  else
  ret false
  else fail
  else fail
  else fail

def CipherInverts_l1 {X : Type} (F : Nat) (fail : X) (next : Bool → Int → Int → Int → Int → Int → Int → List UInt8 → List (List UInt8) → List UInt8 → List UInt8 → List UInt8 → List UInt8 → X) (ex0 : Bool → Int → Int → Int → Int → Int → Int → List UInt8 → List (List UInt8) → List UInt8 → List UInt8 → List UInt8 → List UInt8 → X) (s6 : Bool) (n : Int) (e_ : Int) (f : Int) (g : Int) (s70 : Int) (s71 : Int) (key : List UInt8) (b : List (List UInt8)) (x_ : List UInt8) (y : List UInt8) (z : List UInt8) (mixed : List UInt8) : X :=
  bif (decide (s71 < s70)) then
    bif ((decide ((0 : Int) ≤ s71)) && (decide (s71 < ((mixed.length : Nat) : Int)))) then
    bif ((decide ((0 : Int) ≤ s71)) && (decide (s71 < (((List.getD b 1 ([] : List UInt8)).length : Nat) : Int)))) then
    bif ((decide ((0 : Int) ≤ s71)) && (decide (s71 < ((mixed.length : Nat) : Int)))) then
    next s6 n e_ f g s70 (addI s71 (1 : Int)) key b x_ y z (List.set mixed (s71).toNat (xorB (List.getD mixed (s71).toNat (0 : UInt8)) (List.getD (List.getD b 1 ([] : List UInt8)) (s71).toNat (0 : UInt8))))
    else fail
    else fail
    else fail
  else
  ex0 s6 n e_ f g s70 s71 key b x_ y z mixed
def CipherInverts_l1F {X : Type} (F : Nat) (fail : X) (ex0 : Bool → Int → Int → Int → Int → Int → Int → List UInt8 → List (List UInt8) → List UInt8 → List UInt8 → List UInt8 → List UInt8 → X) : Nat → Bool → Int → Int → Int → Int → Int → Int → List UInt8 → List (List UInt8) → List UInt8 → List UInt8 → List UInt8 → List UInt8 → X
  | 0, _, _, _, _, _, _, _, _, _, _, _, _, _ => fail
  | m + 1, s6, n, e_, f, g, s70, s71, key, b, x_, y, z, mixed => CipherInverts_l1 F fail (CipherInverts_l1F F fail ex0 m) ex0 s6 n e_ f g s70 s71 key b x_ y z mixed

def CipherInverts_l2 {X : Type} (F : Nat) (fail : X) (next : Bool → Int → Int → List (List UInt8) → List UInt8 → List UInt8 → X) (ex0 : Bool → Int → Int → List (List UInt8) → List UInt8 → List UInt8 → X) (ex1 : Bool → Int → Int → List (List UInt8) → List UInt8 → List UInt8 → X) (s6 : Bool) (s134 : Int) (s135 : Int) (b : List (List UInt8)) (z : List UInt8) (w : List UInt8) : X :=
  bif (decide (s135 < s134)) then
    bif ((decide ((0 : Int) ≤ s135)) && (decide (s135 < ((w.length : Nat) : Int)))) then
    bif ((decide ((0 : Int) ≤ s135)) && (decide (s135 < ((z.length : Nat) : Int)))) then
    bif ((decide ((0 : Int) ≤ s135)) && (decide (s135 < (((List.getD b 1 ([] : List UInt8)).length : Nat) : Int)))) then
    bif (((((List.getD w (s135).toNat (0 : UInt8))).toNat : Nat) : Int) != ((((xorB (List.getD z (s135).toNat (0 : UInt8)) (List.getD (List.getD b 1 ([] : List UInt8)) (s135).toNat (0 : UInt8)))).toNat : Nat) : Int)) then
      ex0 false s134 s135 b z w
    else
    next s6 s134 (addI s135 (1 : Int)) b z w
    else fail
    else fail
    else fail
  else
  ex1 s6 s134 s135 b z w
def CipherInverts_l2F {X : Type} (F : Nat) (fail : X) (ex0 : Bool → Int → Int → List (List UInt8) → List UInt8 → List UInt8 → X) (ex1 : Bool → Int → Int → List (List UInt8) → List UInt8 → List UInt8 → X) : Nat → Bool → Int → Int → List (List UInt8) → List UInt8 → List UInt8 → X
  | 0, _, _, _, _, _, _ => fail
  | m + 1, s6, s134, s135, b, z, w => CipherInverts_l2 F fail (CipherInverts_l2F F fail ex0 ex1 m) ex0 ex1 s6 s134 s135 b z w

def CipherInverts {X : Type} (F : Nat) (key : List UInt8) (nonce : UInt32) (b : List (List UInt8)) (fail : X) (ret : Bool → X) : X :=
  bif (decide ((((List.getD b 0 ([] : List UInt8)).length : Nat) : Int) > (300 : Int))) then
    ret (law47_awake_r)
  else
  bif (decide ((((List.getD b 1 ([] : List UInt8)).length : Nat) : Int) > (((List.getD b 0 ([] : List UInt8)).length : Nat) : Int))) then
    ret (law47_awake_r)
  else
  bif (cStream_P key (cvWI nonce) (List.getD b 0 ([] : List UInt8))) then
  bif (cStream_P key (cvWI nonce) (cStream_r0 key (cvWI nonce) (List.getD b 0 ([] : List UInt8)))) then
  bif ((decide ((0 : Int) ≤ (((List.getD b 1 ([] : List UInt8)).length : Nat) : Int))) && (decide ((((List.getD b 1 ([] : List UInt8)).length : Nat) : Int) ≤ (((List.getD b 0 ([] : List UInt8)).length : Nat) : Int)))) then
  bif (cStream_P key (cvWI nonce) (List.take (List.getD b 1 ([] : List UInt8)).length (List.getD b 0 ([] : List UInt8)))) then
  bif ((decide ((0 : Int) ≤ (((List.getD b 1 ([] : List UInt8)).length : Nat) : Int))) && (decide ((((List.getD b 1 ([] : List UInt8)).length : Nat) : Int) ≤ (((List.getD b 0 ([] : List UInt8)).length : Nat) : Int)))) then
  bif (clone_byte_P (List.take (List.getD b 1 ([] : List UInt8)).length (List.getD b 0 ([] : List UInt8)))) then
  CipherInverts_l1F F fail
    (fun (s6 : Bool) (n : Int) (e_ : Int) (f : Int) (g : Int) (s70 : Int) (s71 : Int) (key1 : List UInt8) (b1 : List (List UInt8)) (x_ : List UInt8) (y : List UInt8) (z : List UInt8) (mixed : List UInt8) =>
      bif (cStream_P key1 n mixed) then
      bif ((addI (addI (addI e_ f) g) (cStream_r1 key1 n mixed)) != (0 : Int)) then
        ret false
      else
      bif (!(bytes_Equal_r y (List.getD b1 0 ([] : List UInt8)))) then
        ret false
      else
      bif (((x_.length : Nat) : Int) != (((List.getD b1 0 ([] : List UInt8)).length : Nat) : Int)) then
        ret false
      else
      bif ((decide ((0 : Int) ≤ (((List.getD b1 1 ([] : List UInt8)).length : Nat) : Int))) && (decide ((((List.getD b1 1 ([] : List UInt8)).length : Nat) : Int) ≤ ((x_.length : Nat) : Int)))) then
      bif (!(bytes_Equal_r z (List.take (List.getD b1 1 ([] : List UInt8)).length x_))) then
        ret false
      else
      bif ((((cStream_r0 key1 n mixed).length : Nat) : Int) != ((mixed.length : Nat) : Int)) then
        ret false
      else
      CipherInverts_l2F F fail
        (fun (s61 : Bool) (s134 : Int) (s135 : Int) (b2 : List (List UInt8)) (z1 : List UInt8) (w : List UInt8) =>
          ret s61)
        (fun (s62 : Bool) (s1341 : Int) (s1351 : Int) (b3 : List (List UInt8)) (z2 : List UInt8) (w1 : List UInt8) =>
          ret (law47_awake_r))
        F s6 (((cStream_r0 key1 n mixed).length : Nat) : Int) (0 : Int) b1 z (cStream_r0 key1 n mixed)
      else fail
      else fail)
    F false (cvWI nonce) (cStream_r1 key (cvWI nonce) (List.getD b 0 ([] : List UInt8))) (cStream_r1 key (cvWI nonce) (cStream_r0 key (cvWI nonce) (List.getD b 0 ([] : List UInt8)))) (cStream_r1 key (cvWI nonce) (List.take (List.getD b 1 ([] : List UInt8)).length (List.getD b 0 ([] : List UInt8)))) (((clone_byte_r (List.take (List.getD b 1 ([] : List UInt8)).length (List.getD b 0 ([] : List UInt8)))).length : Nat) : Int) (0 : Int) key b (cStream_r0 key (cvWI nonce) (List.getD b 0 ([] : List UInt8))) (cStream_r0 key (cvWI nonce) (cStream_r0 key (cvWI nonce) (List.getD b 0 ([] : List UInt8)))) (cStream_r0 key (cvWI nonce) (List.take (List.getD b 1 ([] : List UInt8)).length (List.getD b 0 ([] : List UInt8)))) (clone_byte_r (List.take (List.getD b 1 ([] : List UInt8)).length (List.getD b 0 ([] : List UInt8))))
  else fail
  else fail
  else fail
  else fail
  else fail
  else fail

def CipherCounts_l1 {X : Type} (F : Nat) (fail : X) (next : UInt32 → Bool → Int → Int → List UInt8 → List UInt8 → List UInt8 → List UInt8 → X) (ex0 : UInt32 → Bool → Int → Int → List UInt8 → List UInt8 → List UInt8 → List UInt8 → X) (ex1 : UInt32 → Bool → Int → Int → List UInt8 → List UInt8 → List UInt8 → List UInt8 → X) (nonce : UInt32) (s6 : Bool) (e_ : Int) (s25 : Int) (key : List UInt8) (b : List UInt8) (x_ : List UInt8) (blocks : List UInt8) : X :=
  bif (decide (s25 < (5 : Int))) then
    bif (cBlock_P key (cvWI nonce) (addI s25 (1 : Int))) then
    bif ((cBlock_r1 key (cvWI nonce) (addI s25 (1 : Int))) != (0 : Int)) then
      ex0 nonce false e_ s25 key b x_ blocks
    else
    bif ((((cBlock_r0 key (cvWI nonce) (addI s25 (1 : Int))).length : Nat) : Int) != (64 : Int)) then
      ex0 nonce false e_ s25 key b x_ blocks
    else
    bif (decide ((blocks ++ (cBlock_r0 key (cvWI nonce) (addI s25 (1 : Int)))).length ≤ big)) then
    next nonce s6 e_ (addI s25 (1 : Int)) key b x_ (blocks ++ (cBlock_r0 key (cvWI nonce) (addI s25 (1 : Int))))
    else fail
    else fail
  else
  ex1 nonce s6 e_ s25 key b x_ blocks
def CipherCounts_l1F {X : Type} (F : Nat) (fail : X) (ex0 : UInt32 → Bool → Int → Int → List UInt8 → List UInt8 → List UInt8 → List UInt8 → X) (ex1 : UInt32 → Bool → Int → Int → List UInt8 → List UInt8 → List UInt8 → List UInt8 → X) : Nat → UInt32 → Bool → Int → Int → List UInt8 → List UInt8 → List UInt8 → List UInt8 → X
  | 0, _, _, _, _, _, _, _, _ => fail
  | m + 1, nonce, s6, e_, s25, key, b, x_, blocks => CipherCounts_l1 F fail (CipherCounts_l1F F fail ex0 ex1 m) ex0 ex1 nonce s6 e_ s25 key b x_ blocks

def CipherCounts {X : Type} (F : Nat) (key : List UInt8) (nonce : UInt32) (length : Int) (fail : X) (ret : Bool → X) : X :=
  bif (((decide ((0 : Int) ≤ (remH length (300 : Int)))) && true) && (decide ((remH length (300 : Int)) ≤ ((big : Nat) : Int)))) then
  bif (cStream_P key (cvWI nonce) (List.replicate ((remH length (300 : Int))).toNat (0 : UInt8))) then
  CipherCounts_l1F F fail
    (fun (nonce1 : UInt32) (s6 : Bool) (e_ : Int) (s25 : Int) (key1 : List UInt8) (b : List UInt8) (x_ : List UInt8) (blocks : List UInt8) =>
      ret s6)
    (fun (nonce2 : UInt32) (s61 : Bool) (e_1 : Int) (s251 : Int) (key2 : List UInt8) (b1 : List UInt8) (x_1 : List UInt8) (blocks1 : List UInt8) =>
      bif (e_1 == (0 : Int)) then
        bif ((decide ((0 : Int) ≤ ((b1.length : Nat) : Int))) && (decide (((b1.length : Nat) : Int) ≤ ((blocks1.length : Nat) : Int)))) then
        bif (bytes_Equal_r x_1 (List.take b1.length blocks1)) then
          ret (law47_awake_r)
        else
        ret false
        else fail
      else
      ret false)
    F nonce false (cStream_r1 key (cvWI nonce) (List.replicate ((remH length (300 : Int))).toNat (0 : UInt8))) (0 : Int) key (List.replicate ((remH length (300 : Int))).toNat (0 : UInt8)) (cStream_r0 key (cvWI nonce) (List.replicate ((remH length (300 : Int))).toNat (0 : UInt8))) ([] : List UInt8)
  else fail
  else fail

def CipherReturns {X : Type} (F : Nat) (key : List UInt8) (nonce : Int) (b : List UInt8) (fail : X) (ret : Bool → X) : X :=
  bif (decide (((key.length : Nat) : Int) < (1 : Int))) then
    ret (law47_awake_r)
  else
  bif (decide (((key.length : Nat) : Int) > (64 : Int))) then
    ret (law47_awake_r)
  else
  bif (decide (((b.length : Nat) : Int) > (300 : Int))) then
    ret (law47_awake_r)
  else
  bif (cSeal_P key (cvUI (remU nonce (9007199254740992 : Int))) b) then
  bif (cOpen_P key (cvUI (remU nonce (9007199254740992 : Int))) (cSeal_r0 key (cvUI (remU nonce (9007199254740992 : Int))) b)) then
  bif ((cSeal_r1 key (cvUI (remU nonce (9007199254740992 : Int))) b) == (0 : Int)) then
    bif ((cOpen_r1 key (cvUI (remU nonce (9007199254740992 : Int))) (cSeal_r0 key (cvUI (remU nonce (9007199254740992 : Int))) b)) == (0 : Int)) then
      bif ((((cSeal_r0 key (cvUI (remU nonce (9007199254740992 : Int))) b).length : Nat) : Int) == (addI ((b.length : Nat) : Int) (16 : Int))) then
        bif (bytes_Equal_r (cOpen_r0 key (cvUI (remU nonce (9007199254740992 : Int))) (cSeal_r0 key (cvUI (remU nonce (9007199254740992 : Int))) b)) b) then
          ret (law47_awake_r)
        else
        ret false
      else
      ret false
    else
    ret false
  else
  ret false
  else fail
  else fail

def CipherNotices {X : Type} (F : Nat) (key : List UInt8) (b : List UInt8) (c : (UInt8 × (UInt8 × (UInt8 × Unit)))) (fail : X) (ret : Bool → X) : X :=
  bif (decide (((key.length : Nat) : Int) < (1 : Int))) then
    ret (law47_awake_r)
  else
  bif (decide (((key.length : Nat) : Int) > (64 : Int))) then
    ret (law47_awake_r)
  else
  bif (decide (((b.length : Nat) : Int) > (300 : Int))) then
    ret (law47_awake_r)
  else
  bif (cSeal_P key (9 : Int) b) then
  bif ((cSeal_r1 key (9 : Int) b) != (0 : Int)) then
    ret false
  else
  bif ((((cSeal_r0 key (9 : Int) b).length : Nat) : Int) != (addI ((b.length : Nat) : Int) (16 : Int))) then
    ret false
  else
  bif (clone_byte_P key) then
  bif (clone_byte_P (cSeal_r0 key (9 : Int) b)) then
  bif (((((remB c.1 (5 : UInt8))).toNat : Nat) : Int) == (0 : Int)) then
    bif ((((clone_byte_r (cSeal_r0 key (9 : Int) b)).length : Nat) : Int) != (0 : Int)) then
    bif ((decide ((0 : Int) ≤ (remI (cvBI c.2.1) (((clone_byte_r (cSeal_r0 key (9 : Int) b)).length : Nat) : Int)))) && (decide ((remI (cvBI c.2.1) (((clone_byte_r (cSeal_r0 key (9 : Int) b)).length : Nat) : Int)) < (((clone_byte_r (cSeal_r0 key (9 : Int) b)).length : Nat) : Int)))) then
    bif ((decide ((0 : Int) ≤ (remI (cvBI c.2.1) (((clone_byte_r (cSeal_r0 key (9 : Int) b)).length : Nat) : Int)))) && (decide ((remI (cvBI c.2.1) (((clone_byte_r (cSeal_r0 key (9 : Int) b)).length : Nat) : Int)) < (((clone_byte_r (cSeal_r0 key (9 : Int) b)).length : Nat) : Int)))) then
    bif (rKeys_P (clone_byte_r key)) then
    bif (cOpen_P (clone_byte_r key) (9 : Int) (List.set (clone_byte_r (cSeal_r0 key (9 : Int) b)) ((remI (cvBI c.2.1) (((clone_byte_r (cSeal_r0 key (9 : Int) b)).length : Nat) : Int))).toNat (xorB (List.getD (clone_byte_r (cSeal_r0 key (9 : Int) b)) ((remI (cvBI c.2.1) (((clone_byte_r (cSeal_r0 key (9 : Int) b)).length : Nat) : Int))).toNat (0 : UInt8)) (orB c.2.2.1 (1 : UInt8))))) then
    bif (decide ((((List.set (clone_byte_r (cSeal_r0 key (9 : Int) b)) ((remI (cvBI c.2.1) (((clone_byte_r (cSeal_r0 key (9 : Int) b)).length : Nat) : Int))).toNat (xorB (List.getD (clone_byte_r (cSeal_r0 key (9 : Int) b)) ((remI (cvBI c.2.1) (((clone_byte_r (cSeal_r0 key (9 : Int) b)).length : Nat) : Int))).toNat (0 : UInt8)) (orB c.2.2.1 (1 : UInt8)))).length : Nat) : Int) < (16 : Int))) then
      bif ((cOpen_r1 (clone_byte_r key) (9 : Int) (List.set (clone_byte_r (cSeal_r0 key (9 : Int) b)) ((remI (cvBI c.2.1) (((clone_byte_r (cSeal_r0 key (9 : Int) b)).length : Nat) : Int))).toNat (xorB (List.getD (clone_byte_r (cSeal_r0 key (9 : Int) b)) ((remI (cvBI c.2.1) (((clone_byte_r (cSeal_r0 key (9 : Int) b)).length : Nat) : Int))).toNat (0 : UInt8)) (orB c.2.2.1 (1 : UInt8))))) == (9 : Int)) then
        ret (law47_awake_r)
      else
      ret false
    else
    bif ((decide ((0 : Int) ≤ (subI (((List.set (clone_byte_r (cSeal_r0 key (9 : Int) b)) ((remI (cvBI c.2.1) (((clone_byte_r (cSeal_r0 key (9 : Int) b)).length : Nat) : Int))).toNat (xorB (List.getD (clone_byte_r (cSeal_r0 key (9 : Int) b)) ((remI (cvBI c.2.1) (((clone_byte_r (cSeal_r0 key (9 : Int) b)).length : Nat) : Int))).toNat (0 : UInt8)) (orB c.2.2.1 (1 : UInt8)))).length : Nat) : Int) (16 : Int)))) && (decide ((subI (((List.set (clone_byte_r (cSeal_r0 key (9 : Int) b)) ((remI (cvBI c.2.1) (((clone_byte_r (cSeal_r0 key (9 : Int) b)).length : Nat) : Int))).toNat (xorB (List.getD (clone_byte_r (cSeal_r0 key (9 : Int) b)) ((remI (cvBI c.2.1) (((clone_byte_r (cSeal_r0 key (9 : Int) b)).length : Nat) : Int))).toNat (0 : UInt8)) (orB c.2.2.1 (1 : UInt8)))).length : Nat) : Int) (16 : Int)) ≤ (((List.set (clone_byte_r (cSeal_r0 key (9 : Int) b)) ((remI (cvBI c.2.1) (((clone_byte_r (cSeal_r0 key (9 : Int) b)).length : Nat) : Int))).toNat (xorB (List.getD (clone_byte_r (cSeal_r0 key (9 : Int) b)) ((remI (cvBI c.2.1) (((clone_byte_r (cSeal_r0 key (9 : Int) b)).length : Nat) : Int))).toNat (0 : UInt8)) (orB c.2.2.1 (1 : UInt8)))).length : Nat) : Int)))) then
    bif (rTag_P (rKeys_r1 (clone_byte_r key)) (9 : Int) (List.take ((subI (((List.set (clone_byte_r (cSeal_r0 key (9 : Int) b)) ((remI (cvBI c.2.1) (((clone_byte_r (cSeal_r0 key (9 : Int) b)).length : Nat) : Int))).toNat (xorB (List.getD (clone_byte_r (cSeal_r0 key (9 : Int) b)) ((remI (cvBI c.2.1) (((clone_byte_r (cSeal_r0 key (9 : Int) b)).length : Nat) : Int))).toNat (0 : UInt8)) (orB c.2.2.1 (1 : UInt8)))).length : Nat) : Int) (16 : Int))).toNat (List.set (clone_byte_r (cSeal_r0 key (9 : Int) b)) ((remI (cvBI c.2.1) (((clone_byte_r (cSeal_r0 key (9 : Int) b)).length : Nat) : Int))).toNat (xorB (List.getD (clone_byte_r (cSeal_r0 key (9 : Int) b)) ((remI (cvBI c.2.1) (((clone_byte_r (cSeal_r0 key (9 : Int) b)).length : Nat) : Int))).toNat (0 : UInt8)) (orB c.2.2.1 (1 : UInt8)))))) then
    bif ((decide ((0 : Int) ≤ (subI (((List.set (clone_byte_r (cSeal_r0 key (9 : Int) b)) ((remI (cvBI c.2.1) (((clone_byte_r (cSeal_r0 key (9 : Int) b)).length : Nat) : Int))).toNat (xorB (List.getD (clone_byte_r (cSeal_r0 key (9 : Int) b)) ((remI (cvBI c.2.1) (((clone_byte_r (cSeal_r0 key (9 : Int) b)).length : Nat) : Int))).toNat (0 : UInt8)) (orB c.2.2.1 (1 : UInt8)))).length : Nat) : Int) (16 : Int)))) && (decide ((subI (((List.set (clone_byte_r (cSeal_r0 key (9 : Int) b)) ((remI (cvBI c.2.1) (((clone_byte_r (cSeal_r0 key (9 : Int) b)).length : Nat) : Int))).toNat (xorB (List.getD (clone_byte_r (cSeal_r0 key (9 : Int) b)) ((remI (cvBI c.2.1) (((clone_byte_r (cSeal_r0 key (9 : Int) b)).length : Nat) : Int))).toNat (0 : UInt8)) (orB c.2.2.1 (1 : UInt8)))).length : Nat) : Int) (16 : Int)) ≤ (((List.set (clone_byte_r (cSeal_r0 key (9 : Int) b)) ((remI (cvBI c.2.1) (((clone_byte_r (cSeal_r0 key (9 : Int) b)).length : Nat) : Int))).toNat (xorB (List.getD (clone_byte_r (cSeal_r0 key (9 : Int) b)) ((remI (cvBI c.2.1) (((clone_byte_r (cSeal_r0 key (9 : Int) b)).length : Nat) : Int))).toNat (0 : UInt8)) (orB c.2.2.1 (1 : UInt8)))).length : Nat) : Int)))) then
    bif (((cOpen_r1 (clone_byte_r key) (9 : Int) (List.set (clone_byte_r (cSeal_r0 key (9 : Int) b)) ((remI (cvBI c.2.1) (((clone_byte_r (cSeal_r0 key (9 : Int) b)).length : Nat) : Int))).toNat (xorB (List.getD (clone_byte_r (cSeal_r0 key (9 : Int) b)) ((remI (cvBI c.2.1) (((clone_byte_r (cSeal_r0 key (9 : Int) b)).length : Nat) : Int))).toNat (0 : UInt8)) (orB c.2.2.1 (1 : UInt8))))) == (0 : Int)) == (bytes_Equal_r (rTag_r (rKeys_r1 (clone_byte_r key)) (9 : Int) (List.take ((subI (((List.set (clone_byte_r (cSeal_r0 key (9 : Int) b)) ((remI (cvBI c.2.1) (((clone_byte_r (cSeal_r0 key (9 : Int) b)).length : Nat) : Int))).toNat (xorB (List.getD (clone_byte_r (cSeal_r0 key (9 : Int) b)) ((remI (cvBI c.2.1) (((clone_byte_r (cSeal_r0 key (9 : Int) b)).length : Nat) : Int))).toNat (0 : UInt8)) (orB c.2.2.1 (1 : UInt8)))).length : Nat) : Int) (16 : Int))).toNat (List.set (clone_byte_r (cSeal_r0 key (9 : Int) b)) ((remI (cvBI c.2.1) (((clone_byte_r (cSeal_r0 key (9 : Int) b)).length : Nat) : Int))).toNat (xorB (List.getD (clone_byte_r (cSeal_r0 key (9 : Int) b)) ((remI (cvBI c.2.1) (((clone_byte_r (cSeal_r0 key (9 : Int) b)).length : Nat) : Int))).toNat (0 : UInt8)) (orB c.2.2.1 (1 : UInt8)))))) (List.take ((List.set (clone_byte_r (cSeal_r0 key (9 : Int) b)) ((remI (cvBI c.2.1) (((clone_byte_r (cSeal_r0 key (9 : Int) b)).length : Nat) : Int))).toNat (xorB (List.getD (clone_byte_r (cSeal_r0 key (9 : Int) b)) ((remI (cvBI c.2.1) (((clone_byte_r (cSeal_r0 key (9 : Int) b)).length : Nat) : Int))).toNat (0 : UInt8)) (orB c.2.2.1 (1 : UInt8)))).length - ((subI (((List.set (clone_byte_r (cSeal_r0 key (9 : Int) b)) ((remI (cvBI c.2.1) (((clone_byte_r (cSeal_r0 key (9 : Int) b)).length : Nat) : Int))).toNat (xorB (List.getD (clone_byte_r (cSeal_r0 key (9 : Int) b)) ((remI (cvBI c.2.1) (((clone_byte_r (cSeal_r0 key (9 : Int) b)).length : Nat) : Int))).toNat (0 : UInt8)) (orB c.2.2.1 (1 : UInt8)))).length : Nat) : Int) (16 : Int))).toNat) (List.drop ((subI (((List.set (clone_byte_r (cSeal_r0 key (9 : Int) b)) ((remI (cvBI c.2.1) (((clone_byte_r (cSeal_r0 key (9 : Int) b)).length : Nat) : Int))).toNat (xorB (List.getD (clone_byte_r (cSeal_r0 key (9 : Int) b)) ((remI (cvBI c.2.1) (((clone_byte_r (cSeal_r0 key (9 : Int) b)).length : Nat) : Int))).toNat (0 : UInt8)) (orB c.2.2.1 (1 : UInt8)))).length : Nat) : Int) (16 : Int))).toNat (List.set (clone_byte_r (cSeal_r0 key (9 : Int) b)) ((remI (cvBI c.2.1) (((clone_byte_r (cSeal_r0 key (9 : Int) b)).length : Nat) : Int))).toNat (xorB (List.getD (clone_byte_r (cSeal_r0 key (9 : Int) b)) ((remI (cvBI c.2.1) (((clone_byte_r (cSeal_r0 key (9 : Int) b)).length : Nat) : Int))).toNat (0 : UInt8)) (orB c.2.2.1 (1 : UInt8)))))))) then
      bif (bytes_Equal_r (rTag_r (rKeys_r1 (clone_byte_r key)) (9 : Int) (List.take ((subI (((List.set (clone_byte_r (cSeal_r0 key (9 : Int) b)) ((remI (cvBI c.2.1) (((clone_byte_r (cSeal_r0 key (9 : Int) b)).length : Nat) : Int))).toNat (xorB (List.getD (clone_byte_r (cSeal_r0 key (9 : Int) b)) ((remI (cvBI c.2.1) (((clone_byte_r (cSeal_r0 key (9 : Int) b)).length : Nat) : Int))).toNat (0 : UInt8)) (orB c.2.2.1 (1 : UInt8)))).length : Nat) : Int) (16 : Int))).toNat (List.set (clone_byte_r (cSeal_r0 key (9 : Int) b)) ((remI (cvBI c.2.1) (((clone_byte_r (cSeal_r0 key (9 : Int) b)).length : Nat) : Int))).toNat (xorB (List.getD (clone_byte_r (cSeal_r0 key (9 : Int) b)) ((remI (cvBI c.2.1) (((clone_byte_r (cSeal_r0 key (9 : Int) b)).length : Nat) : Int))).toNat (0 : UInt8)) (orB c.2.2.1 (1 : UInt8)))))) (List.take ((List.set (clone_byte_r (cSeal_r0 key (9 : Int) b)) ((remI (cvBI c.2.1) (((clone_byte_r (cSeal_r0 key (9 : Int) b)).length : Nat) : Int))).toNat (xorB (List.getD (clone_byte_r (cSeal_r0 key (9 : Int) b)) ((remI (cvBI c.2.1) (((clone_byte_r (cSeal_r0 key (9 : Int) b)).length : Nat) : Int))).toNat (0 : UInt8)) (orB c.2.2.1 (1 : UInt8)))).length - ((subI (((List.set (clone_byte_r (cSeal_r0 key (9 : Int) b)) ((remI (cvBI c.2.1) (((clone_byte_r (cSeal_r0 key (9 : Int) b)).length : Nat) : Int))).toNat (xorB (List.getD (clone_byte_r (cSeal_r0 key (9 : Int) b)) ((remI (cvBI c.2.1) (((clone_byte_r (cSeal_r0 key (9 : Int) b)).length : Nat) : Int))).toNat (0 : UInt8)) (orB c.2.2.1 (1 : UInt8)))).length : Nat) : Int) (16 : Int))).toNat) (List.drop ((subI (((List.set (clone_byte_r (cSeal_r0 key (9 : Int) b)) ((remI (cvBI c.2.1) (((clone_byte_r (cSeal_r0 key (9 : Int) b)).length : Nat) : Int))).toNat (xorB (List.getD (clone_byte_r (cSeal_r0 key (9 : Int) b)) ((remI (cvBI c.2.1) (((clone_byte_r (cSeal_r0 key (9 : Int) b)).length : Nat) : Int))).toNat (0 : UInt8)) (orB c.2.2.1 (1 : UInt8)))).length : Nat) : Int) (16 : Int))).toNat (List.set (clone_byte_r (cSeal_r0 key (9 : Int) b)) ((remI (cvBI c.2.1) (((clone_byte_r (cSeal_r0 key (9 : Int) b)).length : Nat) : Int))).toNat (xorB (List.getD (clone_byte_r (cSeal_r0 key (9 : Int) b)) ((remI (cvBI c.2.1) (((clone_byte_r (cSeal_r0 key (9 : Int) b)).length : Nat) : Int))).toNat (0 : UInt8)) (orB c.2.2.1 (1 : UInt8))))))) then
        ret (law47_awake_r)
      else
      bif ((cOpen_r1 (clone_byte_r key) (9 : Int) (List.set (clone_byte_r (cSeal_r0 key (9 : Int) b)) ((remI (cvBI c.2.1) (((clone_byte_r (cSeal_r0 key (9 : Int) b)).length : Nat) : Int))).toNat (xorB (List.getD (clone_byte_r (cSeal_r0 key (9 : Int) b)) ((remI (cvBI c.2.1) (((clone_byte_r (cSeal_r0 key (9 : Int) b)).length : Nat) : Int))).toNat (0 : UInt8)) (orB c.2.2.1 (1 : UInt8))))) == (25 : Int)) then
        ret (law47_awake_r)
      else
      ret false
    else
    ret false
    else fail
    else fail
    else fail
    else fail
    else fail
    else fail
    else fail
    else fail
  else
  bif (((((remB c.1 (5 : UInt8))).toNat : Nat) : Int) == (1 : Int)) then
    bif ((((clone_byte_r (cSeal_r0 key (9 : Int) b)).length : Nat) : Int) != (0 : Int)) then
    bif ((decide ((0 : Int) ≤ (subI (subI (((clone_byte_r (cSeal_r0 key (9 : Int) b)).length : Nat) : Int) (1 : Int)) (remI (cvBI c.2.1) (((clone_byte_r (cSeal_r0 key (9 : Int) b)).length : Nat) : Int))))) && (decide ((subI (subI (((clone_byte_r (cSeal_r0 key (9 : Int) b)).length : Nat) : Int) (1 : Int)) (remI (cvBI c.2.1) (((clone_byte_r (cSeal_r0 key (9 : Int) b)).length : Nat) : Int))) ≤ (((clone_byte_r (cSeal_r0 key (9 : Int) b)).length : Nat) : Int)))) then
    bif (rKeys_P (clone_byte_r key)) then
    bif (cOpen_P (clone_byte_r key) (9 : Int) (List.take ((subI (subI (((clone_byte_r (cSeal_r0 key (9 : Int) b)).length : Nat) : Int) (1 : Int)) (remI (cvBI c.2.1) (((clone_byte_r (cSeal_r0 key (9 : Int) b)).length : Nat) : Int)))).toNat (clone_byte_r (cSeal_r0 key (9 : Int) b)))) then
    bif (decide (((((subI (subI (((clone_byte_r (cSeal_r0 key (9 : Int) b)).length : Nat) : Int) (1 : Int)) (remI (cvBI c.2.1) (((clone_byte_r (cSeal_r0 key (9 : Int) b)).length : Nat) : Int)))).toNat : Nat) : Int) < (16 : Int))) then
      bif ((cOpen_r1 (clone_byte_r key) (9 : Int) (List.take ((subI (subI (((clone_byte_r (cSeal_r0 key (9 : Int) b)).length : Nat) : Int) (1 : Int)) (remI (cvBI c.2.1) (((clone_byte_r (cSeal_r0 key (9 : Int) b)).length : Nat) : Int)))).toNat (clone_byte_r (cSeal_r0 key (9 : Int) b)))) == (9 : Int)) then
        ret (law47_awake_r)
      else
      ret false
    else
    bif ((decide ((0 : Int) ≤ (subI ((((subI (subI (((clone_byte_r (cSeal_r0 key (9 : Int) b)).length : Nat) : Int) (1 : Int)) (remI (cvBI c.2.1) (((clone_byte_r (cSeal_r0 key (9 : Int) b)).length : Nat) : Int)))).toNat : Nat) : Int) (16 : Int)))) && (decide ((subI ((((subI (subI (((clone_byte_r (cSeal_r0 key (9 : Int) b)).length : Nat) : Int) (1 : Int)) (remI (cvBI c.2.1) (((clone_byte_r (cSeal_r0 key (9 : Int) b)).length : Nat) : Int)))).toNat : Nat) : Int) (16 : Int)) ≤ ((((subI (subI (((clone_byte_r (cSeal_r0 key (9 : Int) b)).length : Nat) : Int) (1 : Int)) (remI (cvBI c.2.1) (((clone_byte_r (cSeal_r0 key (9 : Int) b)).length : Nat) : Int)))).toNat : Nat) : Int)))) then
    bif (rTag_P (rKeys_r1 (clone_byte_r key)) (9 : Int) (List.take ((subI ((((subI (subI (((clone_byte_r (cSeal_r0 key (9 : Int) b)).length : Nat) : Int) (1 : Int)) (remI (cvBI c.2.1) (((clone_byte_r (cSeal_r0 key (9 : Int) b)).length : Nat) : Int)))).toNat : Nat) : Int) (16 : Int))).toNat (clone_byte_r (cSeal_r0 key (9 : Int) b)))) then
    bif ((decide ((0 : Int) ≤ (subI ((((subI (subI (((clone_byte_r (cSeal_r0 key (9 : Int) b)).length : Nat) : Int) (1 : Int)) (remI (cvBI c.2.1) (((clone_byte_r (cSeal_r0 key (9 : Int) b)).length : Nat) : Int)))).toNat : Nat) : Int) (16 : Int)))) && (decide ((subI ((((subI (subI (((clone_byte_r (cSeal_r0 key (9 : Int) b)).length : Nat) : Int) (1 : Int)) (remI (cvBI c.2.1) (((clone_byte_r (cSeal_r0 key (9 : Int) b)).length : Nat) : Int)))).toNat : Nat) : Int) (16 : Int)) ≤ ((((subI (subI (((clone_byte_r (cSeal_r0 key (9 : Int) b)).length : Nat) : Int) (1 : Int)) (remI (cvBI c.2.1) (((clone_byte_r (cSeal_r0 key (9 : Int) b)).length : Nat) : Int)))).toNat : Nat) : Int)))) then
    bif (((cOpen_r1 (clone_byte_r key) (9 : Int) (List.take ((subI (subI (((clone_byte_r (cSeal_r0 key (9 : Int) b)).length : Nat) : Int) (1 : Int)) (remI (cvBI c.2.1) (((clone_byte_r (cSeal_r0 key (9 : Int) b)).length : Nat) : Int)))).toNat (clone_byte_r (cSeal_r0 key (9 : Int) b)))) == (0 : Int)) == (bytes_Equal_r (rTag_r (rKeys_r1 (clone_byte_r key)) (9 : Int) (List.take ((subI ((((subI (subI (((clone_byte_r (cSeal_r0 key (9 : Int) b)).length : Nat) : Int) (1 : Int)) (remI (cvBI c.2.1) (((clone_byte_r (cSeal_r0 key (9 : Int) b)).length : Nat) : Int)))).toNat : Nat) : Int) (16 : Int))).toNat (clone_byte_r (cSeal_r0 key (9 : Int) b)))) (List.take (((subI (subI (((clone_byte_r (cSeal_r0 key (9 : Int) b)).length : Nat) : Int) (1 : Int)) (remI (cvBI c.2.1) (((clone_byte_r (cSeal_r0 key (9 : Int) b)).length : Nat) : Int)))).toNat - ((subI ((((subI (subI (((clone_byte_r (cSeal_r0 key (9 : Int) b)).length : Nat) : Int) (1 : Int)) (remI (cvBI c.2.1) (((clone_byte_r (cSeal_r0 key (9 : Int) b)).length : Nat) : Int)))).toNat : Nat) : Int) (16 : Int))).toNat) (List.drop (0 + ((subI ((((subI (subI (((clone_byte_r (cSeal_r0 key (9 : Int) b)).length : Nat) : Int) (1 : Int)) (remI (cvBI c.2.1) (((clone_byte_r (cSeal_r0 key (9 : Int) b)).length : Nat) : Int)))).toNat : Nat) : Int) (16 : Int))).toNat) (clone_byte_r (cSeal_r0 key (9 : Int) b)))))) then
      bif (bytes_Equal_r (rTag_r (rKeys_r1 (clone_byte_r key)) (9 : Int) (List.take ((subI ((((subI (subI (((clone_byte_r (cSeal_r0 key (9 : Int) b)).length : Nat) : Int) (1 : Int)) (remI (cvBI c.2.1) (((clone_byte_r (cSeal_r0 key (9 : Int) b)).length : Nat) : Int)))).toNat : Nat) : Int) (16 : Int))).toNat (clone_byte_r (cSeal_r0 key (9 : Int) b)))) (List.take (((subI (subI (((clone_byte_r (cSeal_r0 key (9 : Int) b)).length : Nat) : Int) (1 : Int)) (remI (cvBI c.2.1) (((clone_byte_r (cSeal_r0 key (9 : Int) b)).length : Nat) : Int)))).toNat - ((subI ((((subI (subI (((clone_byte_r (cSeal_r0 key (9 : Int) b)).length : Nat) : Int) (1 : Int)) (remI (cvBI c.2.1) (((clone_byte_r (cSeal_r0 key (9 : Int) b)).length : Nat) : Int)))).toNat : Nat) : Int) (16 : Int))).toNat) (List.drop (0 + ((subI ((((subI (subI (((clone_byte_r (cSeal_r0 key (9 : Int) b)).length : Nat) : Int) (1 : Int)) (remI (cvBI c.2.1) (((clone_byte_r (cSeal_r0 key (9 : Int) b)).length : Nat) : Int)))).toNat : Nat) : Int) (16 : Int))).toNat) (clone_byte_r (cSeal_r0 key (9 : Int) b))))) then
        ret (law47_awake_r)
      else
      bif ((cOpen_r1 (clone_byte_r key) (9 : Int) (List.take ((subI (subI (((clone_byte_r (cSeal_r0 key (9 : Int) b)).length : Nat) : Int) (1 : Int)) (remI (cvBI c.2.1) (((clone_byte_r (cSeal_r0 key (9 : Int) b)).length : Nat) : Int)))).toNat (clone_byte_r (cSeal_r0 key (9 : Int) b)))) == (25 : Int)) then
        ret (law47_awake_r)
      else
      ret false
    else
    ret false
    else fail
    else fail
    else fail
    else fail
    else fail
    else fail
    else fail
  else
  bif (((((remB c.1 (5 : UInt8))).toNat : Nat) : Int) == (2 : Int)) then
    bif (decide (((clone_byte_r (cSeal_r0 key (9 : Int) b)) ++ ([c.2.2.1] : List UInt8)).length ≤ big)) then
    bif (rKeys_P (clone_byte_r key)) then
    bif (cOpen_P (clone_byte_r key) (9 : Int) ((clone_byte_r (cSeal_r0 key (9 : Int) b)) ++ ([c.2.2.1] : List UInt8))) then
    bif (decide (((((clone_byte_r (cSeal_r0 key (9 : Int) b)) ++ ([c.2.2.1] : List UInt8)).length : Nat) : Int) < (16 : Int))) then
      bif ((cOpen_r1 (clone_byte_r key) (9 : Int) ((clone_byte_r (cSeal_r0 key (9 : Int) b)) ++ ([c.2.2.1] : List UInt8))) == (9 : Int)) then
        ret (law47_awake_r)
      else
      ret false
    else
    bif ((decide ((0 : Int) ≤ (subI ((((clone_byte_r (cSeal_r0 key (9 : Int) b)) ++ ([c.2.2.1] : List UInt8)).length : Nat) : Int) (16 : Int)))) && (decide ((subI ((((clone_byte_r (cSeal_r0 key (9 : Int) b)) ++ ([c.2.2.1] : List UInt8)).length : Nat) : Int) (16 : Int)) ≤ ((((clone_byte_r (cSeal_r0 key (9 : Int) b)) ++ ([c.2.2.1] : List UInt8)).length : Nat) : Int)))) then
    bif (rTag_P (rKeys_r1 (clone_byte_r key)) (9 : Int) (List.take ((subI ((((clone_byte_r (cSeal_r0 key (9 : Int) b)) ++ ([c.2.2.1] : List UInt8)).length : Nat) : Int) (16 : Int))).toNat ((clone_byte_r (cSeal_r0 key (9 : Int) b)) ++ ([c.2.2.1] : List UInt8)))) then
    bif ((decide ((0 : Int) ≤ (subI ((((clone_byte_r (cSeal_r0 key (9 : Int) b)) ++ ([c.2.2.1] : List UInt8)).length : Nat) : Int) (16 : Int)))) && (decide ((subI ((((clone_byte_r (cSeal_r0 key (9 : Int) b)) ++ ([c.2.2.1] : List UInt8)).length : Nat) : Int) (16 : Int)) ≤ ((((clone_byte_r (cSeal_r0 key (9 : Int) b)) ++ ([c.2.2.1] : List UInt8)).length : Nat) : Int)))) then
    bif (((cOpen_r1 (clone_byte_r key) (9 : Int) ((clone_byte_r (cSeal_r0 key (9 : Int) b)) ++ ([c.2.2.1] : List UInt8))) == (0 : Int)) == (bytes_Equal_r (rTag_r (rKeys_r1 (clone_byte_r key)) (9 : Int) (List.take ((subI ((((clone_byte_r (cSeal_r0 key (9 : Int) b)) ++ ([c.2.2.1] : List UInt8)).length : Nat) : Int) (16 : Int))).toNat ((clone_byte_r (cSeal_r0 key (9 : Int) b)) ++ ([c.2.2.1] : List UInt8)))) (List.take (((clone_byte_r (cSeal_r0 key (9 : Int) b)) ++ ([c.2.2.1] : List UInt8)).length - ((subI ((((clone_byte_r (cSeal_r0 key (9 : Int) b)) ++ ([c.2.2.1] : List UInt8)).length : Nat) : Int) (16 : Int))).toNat) (List.drop ((subI ((((clone_byte_r (cSeal_r0 key (9 : Int) b)) ++ ([c.2.2.1] : List UInt8)).length : Nat) : Int) (16 : Int))).toNat ((clone_byte_r (cSeal_r0 key (9 : Int) b)) ++ ([c.2.2.1] : List UInt8)))))) then
      bif (bytes_Equal_r (rTag_r (rKeys_r1 (clone_byte_r key)) (9 : Int) (List.take ((subI ((((clone_byte_r (cSeal_r0 key (9 : Int) b)) ++ ([c.2.2.1] : List UInt8)).length : Nat) : Int) (16 : Int))).toNat ((clone_byte_r (cSeal_r0 key (9 : Int) b)) ++ ([c.2.2.1] : List UInt8)))) (List.take (((clone_byte_r (cSeal_r0 key (9 : Int) b)) ++ ([c.2.2.1] : List UInt8)).length - ((subI ((((clone_byte_r (cSeal_r0 key (9 : Int) b)) ++ ([c.2.2.1] : List UInt8)).length : Nat) : Int) (16 : Int))).toNat) (List.drop ((subI ((((clone_byte_r (cSeal_r0 key (9 : Int) b)) ++ ([c.2.2.1] : List UInt8)).length : Nat) : Int) (16 : Int))).toNat ((clone_byte_r (cSeal_r0 key (9 : Int) b)) ++ ([c.2.2.1] : List UInt8))))) then
        ret (law47_awake_r)
      else
      bif ((cOpen_r1 (clone_byte_r key) (9 : Int) ((clone_byte_r (cSeal_r0 key (9 : Int) b)) ++ ([c.2.2.1] : List UInt8))) == (25 : Int)) then
        ret (law47_awake_r)
      else
      ret false
    else
    ret false
    else fail
    else fail
    else fail
    else fail
    else fail
    else fail
  else
  bif (((((remB c.1 (5 : UInt8))).toNat : Nat) : Int) == (3 : Int)) then
    bif (rKeys_P (clone_byte_r key)) then
    bif (cOpen_P (clone_byte_r key) (addI (9 : Int) (addI (1 : Int) (cvBI c.2.2.1))) (clone_byte_r (cSeal_r0 key (9 : Int) b))) then
    bif (decide ((((clone_byte_r (cSeal_r0 key (9 : Int) b)).length : Nat) : Int) < (16 : Int))) then
      bif ((cOpen_r1 (clone_byte_r key) (addI (9 : Int) (addI (1 : Int) (cvBI c.2.2.1))) (clone_byte_r (cSeal_r0 key (9 : Int) b))) == (9 : Int)) then
        ret (law47_awake_r)
      else
      ret false
    else
    bif ((decide ((0 : Int) ≤ (subI (((clone_byte_r (cSeal_r0 key (9 : Int) b)).length : Nat) : Int) (16 : Int)))) && (decide ((subI (((clone_byte_r (cSeal_r0 key (9 : Int) b)).length : Nat) : Int) (16 : Int)) ≤ (((clone_byte_r (cSeal_r0 key (9 : Int) b)).length : Nat) : Int)))) then
    bif (rTag_P (rKeys_r1 (clone_byte_r key)) (addI (9 : Int) (addI (1 : Int) (cvBI c.2.2.1))) (List.take ((subI (((clone_byte_r (cSeal_r0 key (9 : Int) b)).length : Nat) : Int) (16 : Int))).toNat (clone_byte_r (cSeal_r0 key (9 : Int) b)))) then
    bif ((decide ((0 : Int) ≤ (subI (((clone_byte_r (cSeal_r0 key (9 : Int) b)).length : Nat) : Int) (16 : Int)))) && (decide ((subI (((clone_byte_r (cSeal_r0 key (9 : Int) b)).length : Nat) : Int) (16 : Int)) ≤ (((clone_byte_r (cSeal_r0 key (9 : Int) b)).length : Nat) : Int)))) then
    bif (((cOpen_r1 (clone_byte_r key) (addI (9 : Int) (addI (1 : Int) (cvBI c.2.2.1))) (clone_byte_r (cSeal_r0 key (9 : Int) b))) == (0 : Int)) == (bytes_Equal_r (rTag_r (rKeys_r1 (clone_byte_r key)) (addI (9 : Int) (addI (1 : Int) (cvBI c.2.2.1))) (List.take ((subI (((clone_byte_r (cSeal_r0 key (9 : Int) b)).length : Nat) : Int) (16 : Int))).toNat (clone_byte_r (cSeal_r0 key (9 : Int) b)))) (List.take ((clone_byte_r (cSeal_r0 key (9 : Int) b)).length - ((subI (((clone_byte_r (cSeal_r0 key (9 : Int) b)).length : Nat) : Int) (16 : Int))).toNat) (List.drop ((subI (((clone_byte_r (cSeal_r0 key (9 : Int) b)).length : Nat) : Int) (16 : Int))).toNat (clone_byte_r (cSeal_r0 key (9 : Int) b)))))) then
      bif (bytes_Equal_r (rTag_r (rKeys_r1 (clone_byte_r key)) (addI (9 : Int) (addI (1 : Int) (cvBI c.2.2.1))) (List.take ((subI (((clone_byte_r (cSeal_r0 key (9 : Int) b)).length : Nat) : Int) (16 : Int))).toNat (clone_byte_r (cSeal_r0 key (9 : Int) b)))) (List.take ((clone_byte_r (cSeal_r0 key (9 : Int) b)).length - ((subI (((clone_byte_r (cSeal_r0 key (9 : Int) b)).length : Nat) : Int) (16 : Int))).toNat) (List.drop ((subI (((clone_byte_r (cSeal_r0 key (9 : Int) b)).length : Nat) : Int) (16 : Int))).toNat (clone_byte_r (cSeal_r0 key (9 : Int) b))))) then
        ret (law47_awake_r)
      else
      bif ((cOpen_r1 (clone_byte_r key) (addI (9 : Int) (addI (1 : Int) (cvBI c.2.2.1))) (clone_byte_r (cSeal_r0 key (9 : Int) b))) == (25 : Int)) then
        ret (law47_awake_r)
      else
      ret false
    else
    ret false
    else fail
    else fail
    else fail
    else fail
    else fail
  else
  bif (((((remB c.1 (5 : UInt8))).toNat : Nat) : Int) == (4 : Int)) then
    bif ((((clone_byte_r key).length : Nat) : Int) != (0 : Int)) then
    bif ((decide ((0 : Int) ≤ (remI (cvBI c.2.1) (((clone_byte_r key).length : Nat) : Int)))) && (decide ((remI (cvBI c.2.1) (((clone_byte_r key).length : Nat) : Int)) < (((clone_byte_r key).length : Nat) : Int)))) then
    bif ((decide ((0 : Int) ≤ (remI (cvBI c.2.1) (((clone_byte_r key).length : Nat) : Int)))) && (decide ((remI (cvBI c.2.1) (((clone_byte_r key).length : Nat) : Int)) < (((clone_byte_r key).length : Nat) : Int)))) then
    bif (rKeys_P (List.set (clone_byte_r key) ((remI (cvBI c.2.1) (((clone_byte_r key).length : Nat) : Int))).toNat (xorB (List.getD (clone_byte_r key) ((remI (cvBI c.2.1) (((clone_byte_r key).length : Nat) : Int))).toNat (0 : UInt8)) (orB c.2.2.1 (1 : UInt8))))) then
    bif (cOpen_P (List.set (clone_byte_r key) ((remI (cvBI c.2.1) (((clone_byte_r key).length : Nat) : Int))).toNat (xorB (List.getD (clone_byte_r key) ((remI (cvBI c.2.1) (((clone_byte_r key).length : Nat) : Int))).toNat (0 : UInt8)) (orB c.2.2.1 (1 : UInt8)))) (9 : Int) (clone_byte_r (cSeal_r0 key (9 : Int) b))) then
    bif (decide ((((clone_byte_r (cSeal_r0 key (9 : Int) b)).length : Nat) : Int) < (16 : Int))) then
      bif ((cOpen_r1 (List.set (clone_byte_r key) ((remI (cvBI c.2.1) (((clone_byte_r key).length : Nat) : Int))).toNat (xorB (List.getD (clone_byte_r key) ((remI (cvBI c.2.1) (((clone_byte_r key).length : Nat) : Int))).toNat (0 : UInt8)) (orB c.2.2.1 (1 : UInt8)))) (9 : Int) (clone_byte_r (cSeal_r0 key (9 : Int) b))) == (9 : Int)) then
        ret (law47_awake_r)
      else
      ret false
    else
    bif ((decide ((0 : Int) ≤ (subI (((clone_byte_r (cSeal_r0 key (9 : Int) b)).length : Nat) : Int) (16 : Int)))) && (decide ((subI (((clone_byte_r (cSeal_r0 key (9 : Int) b)).length : Nat) : Int) (16 : Int)) ≤ (((clone_byte_r (cSeal_r0 key (9 : Int) b)).length : Nat) : Int)))) then
    bif (rTag_P (rKeys_r1 (List.set (clone_byte_r key) ((remI (cvBI c.2.1) (((clone_byte_r key).length : Nat) : Int))).toNat (xorB (List.getD (clone_byte_r key) ((remI (cvBI c.2.1) (((clone_byte_r key).length : Nat) : Int))).toNat (0 : UInt8)) (orB c.2.2.1 (1 : UInt8))))) (9 : Int) (List.take ((subI (((clone_byte_r (cSeal_r0 key (9 : Int) b)).length : Nat) : Int) (16 : Int))).toNat (clone_byte_r (cSeal_r0 key (9 : Int) b)))) then
    bif ((decide ((0 : Int) ≤ (subI (((clone_byte_r (cSeal_r0 key (9 : Int) b)).length : Nat) : Int) (16 : Int)))) && (decide ((subI (((clone_byte_r (cSeal_r0 key (9 : Int) b)).length : Nat) : Int) (16 : Int)) ≤ (((clone_byte_r (cSeal_r0 key (9 : Int) b)).length : Nat) : Int)))) then
    bif (((cOpen_r1 (List.set (clone_byte_r key) ((remI (cvBI c.2.1) (((clone_byte_r key).length : Nat) : Int))).toNat (xorB (List.getD (clone_byte_r key) ((remI (cvBI c.2.1) (((clone_byte_r key).length : Nat) : Int))).toNat (0 : UInt8)) (orB c.2.2.1 (1 : UInt8)))) (9 : Int) (clone_byte_r (cSeal_r0 key (9 : Int) b))) == (0 : Int)) == (bytes_Equal_r (rTag_r (rKeys_r1 (List.set (clone_byte_r key) ((remI (cvBI c.2.1) (((clone_byte_r key).length : Nat) : Int))).toNat (xorB (List.getD (clone_byte_r key) ((remI (cvBI c.2.1) (((clone_byte_r key).length : Nat) : Int))).toNat (0 : UInt8)) (orB c.2.2.1 (1 : UInt8))))) (9 : Int) (List.take ((subI (((clone_byte_r (cSeal_r0 key (9 : Int) b)).length : Nat) : Int) (16 : Int))).toNat (clone_byte_r (cSeal_r0 key (9 : Int) b)))) (List.take ((clone_byte_r (cSeal_r0 key (9 : Int) b)).length - ((subI (((clone_byte_r (cSeal_r0 key (9 : Int) b)).length : Nat) : Int) (16 : Int))).toNat) (List.drop ((subI (((clone_byte_r (cSeal_r0 key (9 : Int) b)).length : Nat) : Int) (16 : Int))).toNat (clone_byte_r (cSeal_r0 key (9 : Int) b)))))) then
      bif (bytes_Equal_r (rTag_r (rKeys_r1 (List.set (clone_byte_r key) ((remI (cvBI c.2.1) (((clone_byte_r key).length : Nat) : Int))).toNat (xorB (List.getD (clone_byte_r key) ((remI (cvBI c.2.1) (((clone_byte_r key).length : Nat) : Int))).toNat (0 : UInt8)) (orB c.2.2.1 (1 : UInt8))))) (9 : Int) (List.take ((subI (((clone_byte_r (cSeal_r0 key (9 : Int) b)).length : Nat) : Int) (16 : Int))).toNat (clone_byte_r (cSeal_r0 key (9 : Int) b)))) (List.take ((clone_byte_r (cSeal_r0 key (9 : Int) b)).length - ((subI (((clone_byte_r (cSeal_r0 key (9 : Int) b)).length : Nat) : Int) (16 : Int))).toNat) (List.drop ((subI (((clone_byte_r (cSeal_r0 key (9 : Int) b)).length : Nat) : Int) (16 : Int))).toNat (clone_byte_r (cSeal_r0 key (9 : Int) b))))) then
        ret (law47_awake_r)
      else
      bif ((cOpen_r1 (List.set (clone_byte_r key) ((remI (cvBI c.2.1) (((clone_byte_r key).length : Nat) : Int))).toNat (xorB (List.getD (clone_byte_r key) ((remI (cvBI c.2.1) (((clone_byte_r key).length : Nat) : Int))).toNat (0 : UInt8)) (orB c.2.2.1 (1 : UInt8)))) (9 : Int) (clone_byte_r (cSeal_r0 key (9 : Int) b))) == (25 : Int)) then
        ret (law47_awake_r)
      else
      ret false
    else
    ret false
    else fail
    else fail
    else fail
    else fail
    else fail
    else fail
    else fail
    else fail
  else
  bif (rKeys_P (clone_byte_r key)) then
  bif (cOpen_P (clone_byte_r key) (9 : Int) (clone_byte_r (cSeal_r0 key (9 : Int) b))) then
  bif (decide ((((clone_byte_r (cSeal_r0 key (9 : Int) b)).length : Nat) : Int) < (16 : Int))) then
    bif ((cOpen_r1 (clone_byte_r key) (9 : Int) (clone_byte_r (cSeal_r0 key (9 : Int) b))) == (9 : Int)) then
      ret (law47_awake_r)
    else
    ret false
  else
  bif ((decide ((0 : Int) ≤ (subI (((clone_byte_r (cSeal_r0 key (9 : Int) b)).length : Nat) : Int) (16 : Int)))) && (decide ((subI (((clone_byte_r (cSeal_r0 key (9 : Int) b)).length : Nat) : Int) (16 : Int)) ≤ (((clone_byte_r (cSeal_r0 key (9 : Int) b)).length : Nat) : Int)))) then
  bif (rTag_P (rKeys_r1 (clone_byte_r key)) (9 : Int) (List.take ((subI (((clone_byte_r (cSeal_r0 key (9 : Int) b)).length : Nat) : Int) (16 : Int))).toNat (clone_byte_r (cSeal_r0 key (9 : Int) b)))) then
  bif ((decide ((0 : Int) ≤ (subI (((clone_byte_r (cSeal_r0 key (9 : Int) b)).length : Nat) : Int) (16 : Int)))) && (decide ((subI (((clone_byte_r (cSeal_r0 key (9 : Int) b)).length : Nat) : Int) (16 : Int)) ≤ (((clone_byte_r (cSeal_r0 key (9 : Int) b)).length : Nat) : Int)))) then
  bif (((cOpen_r1 (clone_byte_r key) (9 : Int) (clone_byte_r (cSeal_r0 key (9 : Int) b))) == (0 : Int)) == (bytes_Equal_r (rTag_r (rKeys_r1 (clone_byte_r key)) (9 : Int) (List.take ((subI (((clone_byte_r (cSeal_r0 key (9 : Int) b)).length : Nat) : Int) (16 : Int))).toNat (clone_byte_r (cSeal_r0 key (9 : Int) b)))) (List.take ((clone_byte_r (cSeal_r0 key (9 : Int) b)).length - ((subI (((clone_byte_r (cSeal_r0 key (9 : Int) b)).length : Nat) : Int) (16 : Int))).toNat) (List.drop ((subI (((clone_byte_r (cSeal_r0 key (9 : Int) b)).length : Nat) : Int) (16 : Int))).toNat (clone_byte_r (cSeal_r0 key (9 : Int) b)))))) then
    bif (bytes_Equal_r (rTag_r (rKeys_r1 (clone_byte_r key)) (9 : Int) (List.take ((subI (((clone_byte_r (cSeal_r0 key (9 : Int) b)).length : Nat) : Int) (16 : Int))).toNat (clone_byte_r (cSeal_r0 key (9 : Int) b)))) (List.take ((clone_byte_r (cSeal_r0 key (9 : Int) b)).length - ((subI (((clone_byte_r (cSeal_r0 key (9 : Int) b)).length : Nat) : Int) (16 : Int))).toNat) (List.drop ((subI (((clone_byte_r (cSeal_r0 key (9 : Int) b)).length : Nat) : Int) (16 : Int))).toNat (clone_byte_r (cSeal_r0 key (9 : Int) b))))) then
      ret (law47_awake_r)
    else
    bif ((cOpen_r1 (clone_byte_r key) (9 : Int) (clone_byte_r (cSeal_r0 key (9 : Int) b))) == (25 : Int)) then
      ret (law47_awake_r)
    else
    ret false
  else
  ret false
  else fail
  else fail
  else fail
  else fail
  else fail
  else fail
  else fail
  else fail

end Go.AI
