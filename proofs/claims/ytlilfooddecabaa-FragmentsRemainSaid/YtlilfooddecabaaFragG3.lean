/- Plain functions, printed by running the machine on symbols. -/
import Derived.Test.YtlilfooddecabaaFragS
namespace Go.AI
open Go
set_option linter.unusedVariables false

def FragmentsChecks {X : Type} (F : Nat) (f : ((List ((List UInt8) × (Int × (Int × (Int × Unit))))) × Unit)) (d_ : List UInt8) (length : Int) (fail : X) (ret : Bool → X) : X :=
  bif (!(qFew_r f)) then
    ret (law46_awake_r)
  else
  bif (fFind_P f d_ length) then
  bif (qFind_P f d_ length) then
  bif (law46_awake_r) then
    bif (fCheck_P f) then
    bif (qCheck_P f) then
    bif ((fCheck_r f) == (qCheck_r f)) then
      bif ((fFind_r0 f d_ length) == (qFind_r0 f d_ length)) then
        ret ((fFind_r1 f d_ length) == (qFind_r1 f d_ length))
      else
      ret false
    else
    ret false
    else fail
    else fail
  else
  ret false
  else fail
  else fail

def FragmentsAdds {X : Type} (F : Nat) (f : ((List ((List UInt8) × (Int × (Int × (Int × Unit))))) × Unit)) (data : List UInt8) (fail : X) (ret : Bool → X) : X :=
  bif (!(qFew_r f)) then
    ret (law46_awake_r)
  else
  bif (decide (((data.length : Nat) : Int) > (2000 : Int))) then
    ret (law46_awake_r)
  else
  bif (fAdd_P f data) then
  bif (qAdd_P f data) then
  bif (law46_awake_r) then
    bif (qSame_P (fAdd_r0 f data) (qAdd_r0 f data)) then
    bif (qSame_r (fAdd_r0 f data) (qAdd_r0 f data)) then
      bif ((fAdd_r1 f data) == (qAdd_r1 f data)) then
        bif ((fAdd_r2 f data) == (qAdd_r2 f data)) then
          ret ((fAdd_r3 f data) == (qAdd_r3 f data))
        else
        ret false
      else
      ret false
    else
    ret false
    else fail
  else
  ret false
  else fail
  else fail

def FragmentsPlaces {X : Type} (F : Nat) (f : ((List ((List UInt8) × (Int × (Int × (Int × Unit))))) × Unit)) (fragment : Int) (to : List Int) (fail : X) (ret : Bool → X) : X :=
  bif (!(qFew_r f)) then
    ret (law46_awake_r)
  else
  bif (fPlace_P f fragment (List.getD to 0 (0 : Int)) (List.getD to 1 (0 : Int))) then
  bif (qPlace_P f fragment (List.getD to 0 (0 : Int)) (List.getD to 1 (0 : Int))) then
  bif (fStored_P f) then
  bif (qStored_P f) then
  bif (law46_awake_r) then
    bif (qSame_P (fPlace_r0 f fragment (List.getD to 0 (0 : Int)) (List.getD to 1 (0 : Int))) (qPlace_r0 f fragment (List.getD to 0 (0 : Int)) (List.getD to 1 (0 : Int)))) then
    bif (qSame_r (fPlace_r0 f fragment (List.getD to 0 (0 : Int)) (List.getD to 1 (0 : Int))) (qPlace_r0 f fragment (List.getD to 0 (0 : Int)) (List.getD to 1 (0 : Int)))) then
      bif ((fPlace_r1 f fragment (List.getD to 0 (0 : Int)) (List.getD to 1 (0 : Int))) == (qPlace_r1 f fragment (List.getD to 0 (0 : Int)) (List.getD to 1 (0 : Int)))) then
        bif ((fStored_r0 f) == (qStored_r0 f)) then
          ret ((fStored_r1 f) == (qStored_r1 f))
        else
        ret false
      else
      ret false
    else
    ret false
    else fail
  else
  ret false
  else fail
  else fail
  else fail
  else fail

def FragmentsGathers_l2 {X : Type} (F : Nat) (fail : X) (next : Bool → List Int → Int → List (List Int) → Int → Int → Int → Int → Int → X) (ex0 : Bool → List Int → Int → List (List Int) → Int → Int → Int → Int → Int → X) (ex1 : Bool → List Int → Int → List (List Int) → Int → Int → Int → Int → Int → X) (s4 : Bool) (lengths : List Int) (limit : Int) (groups : List (List Int)) (e_ : Int) (next_ : Int) (i : Int) (sum : Int) (k : Int) : X :=
  bif ((decide ((0 : Int) ≤ i)) && (decide (i < ((groups.length : Nat) : Int)))) then
  bif (decide (k < (((List.getD groups (i).toNat ([] : List Int)).length : Nat) : Int))) then
    bif ((decide ((0 : Int) ≤ i)) && (decide (i < ((groups.length : Nat) : Int)))) then
    bif ((decide ((0 : Int) ≤ k)) && (decide (k < (((List.getD groups (i).toNat ([] : List Int)).length : Nat) : Int)))) then
    bif ((List.getD (List.getD groups (i).toNat ([] : List Int)) (k).toNat (0 : Int)) != next_) then
      ex0 false lengths limit groups e_ next_ i sum k
    else
    bif (decide (next_ ≥ ((lengths.length : Nat) : Int))) then
      ex0 false lengths limit groups e_ next_ i sum k
    else
    bif ((decide ((0 : Int) ≤ next_)) && (decide (next_ < ((lengths.length : Nat) : Int)))) then
    next s4 lengths limit groups e_ (addI next_ (1 : Int)) i (addI sum (List.getD lengths (next_).toNat (0 : Int))) (addI k (1 : Int))
    else fail
    else fail
    else fail
  else
  ex1 s4 lengths limit groups e_ next_ i sum k
  else fail
def FragmentsGathers_l2F {X : Type} (F : Nat) (fail : X) (ex0 : Bool → List Int → Int → List (List Int) → Int → Int → Int → Int → Int → X) (ex1 : Bool → List Int → Int → List (List Int) → Int → Int → Int → Int → Int → X) : Nat → Bool → List Int → Int → List (List Int) → Int → Int → Int → Int → Int → X
  | 0, _, _, _, _, _, _, _, _, _ => fail
  | m + 1, s4, lengths, limit, groups, e_, next_, i, sum, k => FragmentsGathers_l2 F fail (FragmentsGathers_l2F F fail ex0 ex1 m) ex0 ex1 s4 lengths limit groups e_ next_ i sum k

def FragmentsGathers_l1 {X : Type} (F : Nat) (fail : X) (next : Bool → List Int → Int → List (List Int) → Int → Int → Int → X) (ex0 : Bool → List Int → Int → List (List Int) → Int → Int → Int → X) (ex1 : Bool → List Int → Int → List (List Int) → Int → Int → Int → X) (s4 : Bool) (lengths : List Int) (limit : Int) (groups : List (List Int)) (e_ : Int) (next_ : Int) (i : Int) : X :=
  bif (decide (i < ((groups.length : Nat) : Int))) then
    FragmentsGathers_l2F F fail
      (fun (s41 : Bool) (lengths1 : List Int) (limit1 : Int) (groups1 : List (List Int)) (e_1 : Int) (next_1 : Int) (i1 : Int) (sum : Int) (k : Int) =>
        ex0 s41 lengths1 limit1 groups1 e_1 next_1 i1)
      (fun (s42 : Bool) (lengths2 : List Int) (limit2 : Int) (groups2 : List (List Int)) (e_2 : Int) (next_2 : Int) (i2 : Int) (sum1 : Int) (k1 : Int) =>
        bif ((decide ((0 : Int) ≤ i2)) && (decide (i2 < ((groups2.length : Nat) : Int)))) then
        bif ((((List.getD groups2 (i2).toNat ([] : List Int)).length : Nat) : Int) == (0 : Int)) then
          ex0 false lengths2 limit2 groups2 e_2 next_2 i2
        else
        bif ((decide ((0 : Int) ≤ i2)) && (decide (i2 < ((groups2.length : Nat) : Int)))) then
        bif (decide ((((List.getD groups2 (i2).toNat ([] : List Int)).length : Nat) : Int) > (1 : Int))) then
          bif (decide (sum1 > limit2)) then
            ex0 false lengths2 limit2 groups2 e_2 next_2 i2
          else
          bif (decide (next_2 < ((lengths2.length : Nat) : Int))) then
            bif ((decide ((0 : Int) ≤ next_2)) && (decide (next_2 < ((lengths2.length : Nat) : Int)))) then
            bif (decide ((addI sum1 (List.getD lengths2 (next_2).toNat (0 : Int))) ≤ limit2)) then
              ex0 false lengths2 limit2 groups2 e_2 next_2 i2
            else
            next s42 lengths2 limit2 groups2 e_2 next_2 (addI i2 (1 : Int))
            else fail
          else
          next s42 lengths2 limit2 groups2 e_2 next_2 (addI i2 (1 : Int))
        else
        bif (decide (next_2 < ((lengths2.length : Nat) : Int))) then
          bif ((decide ((0 : Int) ≤ next_2)) && (decide (next_2 < ((lengths2.length : Nat) : Int)))) then
          bif (decide ((addI sum1 (List.getD lengths2 (next_2).toNat (0 : Int))) ≤ limit2)) then
            ex0 false lengths2 limit2 groups2 e_2 next_2 i2
          else
          next s42 lengths2 limit2 groups2 e_2 next_2 (addI i2 (1 : Int))
          else fail
        else
        next s42 lengths2 limit2 groups2 e_2 next_2 (addI i2 (1 : Int))
        else fail
        else fail)
      F s4 lengths limit groups e_ next_ i (0 : Int) (0 : Int)
  else
  ex1 s4 lengths limit groups e_ next_ i
def FragmentsGathers_l1F {X : Type} (F : Nat) (fail : X) (ex0 : Bool → List Int → Int → List (List Int) → Int → Int → Int → X) (ex1 : Bool → List Int → Int → List (List Int) → Int → Int → Int → X) : Nat → Bool → List Int → Int → List (List Int) → Int → Int → Int → X
  | 0, _, _, _, _, _, _, _ => fail
  | m + 1, s4, lengths, limit, groups, e_, next_, i => FragmentsGathers_l1 F fail (FragmentsGathers_l1F F fail ex0 ex1 m) ex0 ex1 s4 lengths limit groups e_ next_ i

def FragmentsGathers {X : Type} (F : Nat) (l : List UInt8) (most : UInt8) (fail : X) (ret : Bool → X) : X :=
  bif (decide (((l.length : Nat) : Int) > (200 : Int))) then
    ret (law46_awake_r)
  else
  bif (law46_sizes_P l) then
  bif (fGroups_P (law46_sizes_r l) (addI (cvBI most) (1 : Int))) then
  FragmentsGathers_l1F F fail
    (fun (s4 : Bool) (lengths : List Int) (limit : Int) (groups : List (List Int)) (e_ : Int) (next_ : Int) (i : Int) =>
      ret s4)
    (fun (s41 : Bool) (lengths1 : List Int) (limit1 : Int) (groups1 : List (List Int)) (e_1 : Int) (next_1 : Int) (i1 : Int) =>
      bif (law46_awake_r) then
        bif (e_1 == (0 : Int)) then
          ret (next_1 == ((lengths1.length : Nat) : Int))
        else
        ret false
      else
      ret false)
    F false (law46_sizes_r l) (addI (cvBI most) (1 : Int)) (fGroups_r0 (law46_sizes_r l) (addI (cvBI most) (1 : Int))) (fGroups_r1 (law46_sizes_r l) (addI (cvBI most) (1 : Int))) (0 : Int) (0 : Int)
  else fail
  else fail

def FragmentsFewest_l1 {X : Type} (F : Nat) (fail : X) (next : List Bool → List Int → Int → List (List Int) → Int → Int → Int → X) (ex0 : List Bool → List Int → Int → List (List Int) → Int → Int → Int → X) (cuts : List Bool) (lengths : List Int) (limit : Int) (groups : List (List Int)) (count : Int) (sum : Int) (i : Int) : X :=
  bif (decide (i < ((lengths.length : Nat) : Int))) then
    bif (i == (0 : Int)) then
      bif ((decide ((0 : Int) ≤ i)) && (decide (i < ((lengths.length : Nat) : Int)))) then
      next cuts lengths limit groups (addI count (1 : Int)) (addI (0 : Int) (List.getD lengths (i).toNat (0 : Int))) (addI i (1 : Int))
      else fail
    else
    bif ((decide ((0 : Int) ≤ i)) && (decide (i < ((lengths.length : Nat) : Int)))) then
    bif (decide ((addI sum (List.getD lengths (i).toNat (0 : Int))) > limit)) then
      bif ((decide ((0 : Int) ≤ i)) && (decide (i < ((lengths.length : Nat) : Int)))) then
      next cuts lengths limit groups (addI count (1 : Int)) (addI (0 : Int) (List.getD lengths (i).toNat (0 : Int))) (addI i (1 : Int))
      else fail
    else
    bif (decide (i < ((cuts.length : Nat) : Int))) then
      bif ((decide ((0 : Int) ≤ i)) && (decide (i < ((cuts.length : Nat) : Int)))) then
      bif (List.getD cuts (i).toNat false) then
        bif ((decide ((0 : Int) ≤ i)) && (decide (i < ((lengths.length : Nat) : Int)))) then
        next cuts lengths limit groups (addI count (1 : Int)) (addI (0 : Int) (List.getD lengths (i).toNat (0 : Int))) (addI i (1 : Int))
        else fail
      else
      bif ((decide ((0 : Int) ≤ i)) && (decide (i < ((lengths.length : Nat) : Int)))) then
      next cuts lengths limit groups count (addI sum (List.getD lengths (i).toNat (0 : Int))) (addI i (1 : Int))
      else fail
      else fail
    else
    bif ((decide ((0 : Int) ≤ i)) && (decide (i < ((lengths.length : Nat) : Int)))) then
    next cuts lengths limit groups count (addI sum (List.getD lengths (i).toNat (0 : Int))) (addI i (1 : Int))
    else fail
    else fail
  else
  ex0 cuts lengths limit groups count sum i
def FragmentsFewest_l1F {X : Type} (F : Nat) (fail : X) (ex0 : List Bool → List Int → Int → List (List Int) → Int → Int → Int → X) : Nat → List Bool → List Int → Int → List (List Int) → Int → Int → Int → X
  | 0, _, _, _, _, _, _, _ => fail
  | m + 1, cuts, lengths, limit, groups, count, sum, i => FragmentsFewest_l1 F fail (FragmentsFewest_l1F F fail ex0 m) ex0 cuts lengths limit groups count sum i

def FragmentsFewest {X : Type} (F : Nat) (l : List UInt8) (most : UInt8) (cuts : List Bool) (fail : X) (ret : Bool → X) : X :=
  bif (decide (((l.length : Nat) : Int) > (200 : Int))) then
    ret (law46_awake_r)
  else
  bif (law46_sizes_P l) then
  bif (fGroups_P (law46_sizes_r l) (addI (cvBI most) (1 : Int))) then
  bif ((fGroups_r1 (law46_sizes_r l) (addI (cvBI most) (1 : Int))) != (0 : Int)) then
    ret false
  else
  FragmentsFewest_l1F F fail
    (fun (cuts1 : List Bool) (lengths : List Int) (limit : Int) (groups : List (List Int)) (count : Int) (sum : Int) (i : Int) =>
      bif (law46_awake_r) then
        ret (decide (((groups.length : Nat) : Int) ≤ count))
      else
      ret false)
    F cuts (law46_sizes_r l) (addI (cvBI most) (1 : Int)) (fGroups_r0 (law46_sizes_r l) (addI (cvBI most) (1 : Int))) (0 : Int) (0 : Int) (0 : Int)
  else fail
  else fail

def FragmentsOnce_l2 {X : Type} (F : Nat) (fail : X) (next : List (List UInt8) → Bool → Int → Int → Int → Bool → Int → Int → Int → ((List ((List UInt8) × (Int × (Int × (Int × Unit))))) × Unit) → List Int → ((List ((List UInt8) × (Int × (Int × (Int × Unit))))) × Unit) → X) (ex0 : List (List UInt8) → Bool → Int → Int → Int → Bool → Int → Int → Int → ((List ((List UInt8) × (Int × (Int × (Int × Unit))))) × Unit) → List Int → ((List ((List UInt8) × (Int × (Int × (Int × Unit))))) × Unit) → X) (l : List (List UInt8)) (s2 : Bool) (count : Int) (i : Int) (n : Int) (fresh : Bool) (e_ : Int) (known : Int) (k : Int) (f : ((List ((List UInt8) × (Int × (Int × (Int × Unit))))) × Unit)) (numbers : List Int) (g : ((List ((List UInt8) × (Int × (Int × (Int × Unit))))) × Unit)) : X :=
  bif (decide (k < i)) then
    bif ((decide ((0 : Int) ≤ k)) && (decide (k < ((l.length : Nat) : Int)))) then
    bif ((decide ((0 : Int) ≤ i)) && (decide (i < ((l.length : Nat) : Int)))) then
    bif ((List.getD l (k).toNat ([] : List UInt8)) == (List.getD l (i).toNat ([] : List UInt8))) then
      bif ((decide ((0 : Int) ≤ k)) && (decide (k < ((numbers.length : Nat) : Int)))) then
      next l s2 count i n fresh e_ (List.getD numbers (k).toNat (0 : Int)) (addI k (1 : Int)) f numbers g
      else fail
    else
    next l s2 count i n fresh e_ known (addI k (1 : Int)) f numbers g
    else fail
    else fail
  else
  ex0 l s2 count i n fresh e_ known k f numbers g
def FragmentsOnce_l2F {X : Type} (F : Nat) (fail : X) (ex0 : List (List UInt8) → Bool → Int → Int → Int → Bool → Int → Int → Int → ((List ((List UInt8) × (Int × (Int × (Int × Unit))))) × Unit) → List Int → ((List ((List UInt8) × (Int × (Int × (Int × Unit))))) × Unit) → X) : Nat → List (List UInt8) → Bool → Int → Int → Int → Bool → Int → Int → Int → ((List ((List UInt8) × (Int × (Int × (Int × Unit))))) × Unit) → List Int → ((List ((List UInt8) × (Int × (Int × (Int × Unit))))) × Unit) → X
  | 0, _, _, _, _, _, _, _, _, _, _, _, _ => fail
  | m + 1, l, s2, count, i, n, fresh, e_, known, k, f, numbers, g => FragmentsOnce_l2 F fail (FragmentsOnce_l2F F fail ex0 m) ex0 l s2 count i n fresh e_ known k f numbers g

def FragmentsOnce_l1 {X : Type} (F : Nat) (fail : X) (next : List (List UInt8) → Bool → Int → Int → ((List ((List UInt8) × (Int × (Int × (Int × Unit))))) × Unit) → List Int → X) (ex0 : List (List UInt8) → Bool → Int → Int → ((List ((List UInt8) × (Int × (Int × (Int × Unit))))) × Unit) → List Int → X) (ex1 : List (List UInt8) → Bool → Int → Int → ((List ((List UInt8) × (Int × (Int × (Int × Unit))))) × Unit) → List Int → X) (l : List (List UInt8)) (s2 : Bool) (count : Int) (i : Int) (f : ((List ((List UInt8) × (Int × (Int × (Int × Unit))))) × Unit)) (numbers : List Int) : X :=
  bif (decide (i < ((l.length : Nat) : Int))) then
    bif ((decide ((0 : Int) ≤ i)) && (decide (i < ((l.length : Nat) : Int)))) then
    bif (fAdd_P f (List.getD l (i).toNat ([] : List UInt8))) then
    bif ((decide ((0 : Int) ≤ i)) && (decide (i < ((l.length : Nat) : Int)))) then
    bif ((((List.getD l (i).toNat ([] : List UInt8)).length : Nat) : Int) == (0 : Int)) then
      bif ((fAdd_r3 f (List.getD l (i).toNat ([] : List UInt8))) != (1 : Int)) then
        ex0 l false count i f numbers
      else
      bif ((decide ((0 : Int) ≤ i)) && (decide (i < ((numbers.length : Nat) : Int)))) then
      next l s2 count (addI i (1 : Int)) f (List.set numbers (i).toNat (-1 : Int))
      else fail
    else
    FragmentsOnce_l2F F fail
      (fun (l1 : List (List UInt8)) (s21 : Bool) (count1 : Int) (i1 : Int) (n : Int) (fresh : Bool) (e_ : Int) (known : Int) (k : Int) (f1 : ((List ((List UInt8) × (Int × (Int × (Int × Unit))))) × Unit)) (numbers1 : List Int) (g : ((List ((List UInt8) × (Int × (Int × (Int × Unit))))) × Unit)) =>
        bif (decide (known < (0 : Int))) then
          bif ((decide ((0 : Int) ≤ i1)) && (decide (i1 < ((l1.length : Nat) : Int)))) then
          bif (dSum_P (List.getD l1 (i1).toNat ([] : List UInt8))) then
          bif ((decide ((0 : Int) ≤ i1)) && (decide (i1 < ((l1.length : Nat) : Int)))) then
          bif (fFind_P g (dSum_r (List.getD l1 (i1).toNat ([] : List UInt8))) (((List.getD l1 (i1).toNat ([] : List UInt8)).length : Nat) : Int)) then
          bif (e_ != (0 : Int)) then
            ex0 l1 false (addI count1 (1 : Int)) i1 f1 numbers1
          else
          bif (n != count1) then
            ex0 l1 false (addI count1 (1 : Int)) i1 f1 numbers1
          else
          bif (!(fresh == (count1 == ((f1.1.length : Nat) : Int)))) then
            ex0 l1 false (addI count1 (1 : Int)) i1 f1 numbers1
          else
          bif (!(fFind_r1 g (dSum_r (List.getD l1 (i1).toNat ([] : List UInt8))) (((List.getD l1 (i1).toNat ([] : List UInt8)).length : Nat) : Int))) then
            ex0 l1 false (addI count1 (1 : Int)) i1 f1 numbers1
          else
          bif ((fFind_r0 g (dSum_r (List.getD l1 (i1).toNat ([] : List UInt8))) (((List.getD l1 (i1).toNat ([] : List UInt8)).length : Nat) : Int)) != n) then
            ex0 l1 false (addI count1 (1 : Int)) i1 f1 numbers1
          else
          bif (((g.1.length : Nat) : Int) != (addI count1 (1 : Int))) then
            ex0 l1 false (addI count1 (1 : Int)) i1 f1 numbers1
          else
          bif ((decide ((0 : Int) ≤ i1)) && (decide (i1 < ((numbers1.length : Nat) : Int)))) then
          next l1 s21 (addI count1 (1 : Int)) (addI i1 (1 : Int)) g (List.set numbers1 (i1).toNat n)
          else fail
          else fail
          else fail
          else fail
          else fail
        else
        bif ((decide ((0 : Int) ≤ i1)) && (decide (i1 < ((l1.length : Nat) : Int)))) then
        bif (dSum_P (List.getD l1 (i1).toNat ([] : List UInt8))) then
        bif ((decide ((0 : Int) ≤ i1)) && (decide (i1 < ((l1.length : Nat) : Int)))) then
        bif (fFind_P g (dSum_r (List.getD l1 (i1).toNat ([] : List UInt8))) (((List.getD l1 (i1).toNat ([] : List UInt8)).length : Nat) : Int)) then
        bif (e_ != (0 : Int)) then
          ex0 l1 false count1 i1 f1 numbers1
        else
        bif (n != known) then
          ex0 l1 false count1 i1 f1 numbers1
        else
        bif (!(fresh == (known == ((f1.1.length : Nat) : Int)))) then
          ex0 l1 false count1 i1 f1 numbers1
        else
        bif (!(fFind_r1 g (dSum_r (List.getD l1 (i1).toNat ([] : List UInt8))) (((List.getD l1 (i1).toNat ([] : List UInt8)).length : Nat) : Int))) then
          ex0 l1 false count1 i1 f1 numbers1
        else
        bif ((fFind_r0 g (dSum_r (List.getD l1 (i1).toNat ([] : List UInt8))) (((List.getD l1 (i1).toNat ([] : List UInt8)).length : Nat) : Int)) != n) then
          ex0 l1 false count1 i1 f1 numbers1
        else
        bif (((g.1.length : Nat) : Int) != count1) then
          ex0 l1 false count1 i1 f1 numbers1
        else
        bif ((decide ((0 : Int) ≤ i1)) && (decide (i1 < ((numbers1.length : Nat) : Int)))) then
        next l1 s21 count1 (addI i1 (1 : Int)) g (List.set numbers1 (i1).toNat n)
        else fail
        else fail
        else fail
        else fail
        else fail)
      F l s2 count i (fAdd_r1 f (List.getD l (i).toNat ([] : List UInt8))) (fAdd_r2 f (List.getD l (i).toNat ([] : List UInt8))) (fAdd_r3 f (List.getD l (i).toNat ([] : List UInt8))) (-1 : Int) (0 : Int) f numbers (fAdd_r0 f (List.getD l (i).toNat ([] : List UInt8)))
    else fail
    else fail
    else fail
  else
  ex1 l s2 count i f numbers
def FragmentsOnce_l1F {X : Type} (F : Nat) (fail : X) (ex0 : List (List UInt8) → Bool → Int → Int → ((List ((List UInt8) × (Int × (Int × (Int × Unit))))) × Unit) → List Int → X) (ex1 : List (List UInt8) → Bool → Int → Int → ((List ((List UInt8) × (Int × (Int × (Int × Unit))))) × Unit) → List Int → X) : Nat → List (List UInt8) → Bool → Int → Int → ((List ((List UInt8) × (Int × (Int × (Int × Unit))))) × Unit) → List Int → X
  | 0, _, _, _, _, _, _ => fail
  | m + 1, l, s2, count, i, f, numbers => FragmentsOnce_l1 F fail (FragmentsOnce_l1F F fail ex0 ex1 m) ex0 ex1 l s2 count i f numbers

def FragmentsOnce {X : Type} (F : Nat) (l : List (List UInt8)) (fail : X) (ret : Bool → X) : X :=
  bif (law46_few_P l) then
  bif (!(law46_few_r l)) then
    ret (law46_awake_r)
  else
  bif (qCollide_P l) then
  bif (qCollide_r l) then
    ret (law46_awake_r)
  else
  bif (((decide ((0 : Int) ≤ ((l.length : Nat) : Int))) && true) && (decide (((l.length : Nat) : Int) ≤ ((big : Nat) : Int)))) then
  FragmentsOnce_l1F F fail
    (fun (l1 : List (List UInt8)) (s2 : Bool) (count : Int) (i : Int) (f : ((List ((List UInt8) × (Int × (Int × (Int × Unit))))) × Unit)) (numbers : List Int) =>
      ret s2)
    (fun (l2 : List (List UInt8)) (s21 : Bool) (count1 : Int) (i1 : Int) (f1 : ((List ((List UInt8) × (Int × (Int × (Int × Unit))))) × Unit)) (numbers1 : List Int) =>
      bif (law46_awake_r) then
        bif (fCheck_P f1) then
        ret ((fCheck_r f1) == (0 : Int))
        else fail
      else
      ret false)
    F l false (0 : Int) (0 : Int) (([] : List ((List UInt8) × (Int × (Int × (Int × Unit))))), ()) (List.replicate l.length (0 : Int))
  else fail
  else fail
  else fail

def FragmentsRemain_l2 {X : Type} (F : Nat) (fail : X) (next : List (List UInt8) → List UInt8 → Bool → Int → Int → List ((List UInt8) × (Int × (Int × (Int × Unit)))) → Int → ((List ((List UInt8) × (Int × (Int × (Int × Unit))))) × Unit) → X) (ex0 : List (List UInt8) → List UInt8 → Bool → Int → Int → List ((List UInt8) × (Int × (Int × (Int × Unit)))) → Int → ((List ((List UInt8) × (Int × (Int × (Int × Unit))))) × Unit) → X) (ex1 : List (List UInt8) → List UInt8 → Bool → Int → Int → List ((List UInt8) × (Int × (Int × (Int × Unit)))) → Int → ((List ((List UInt8) × (Int × (Int × (Int × Unit))))) × Unit) → X) (l : List (List UInt8)) (places : List UInt8) (s4 : Bool) (sum : Int) (i : Int) (before : List ((List UInt8) × (Int × (Int × (Int × Unit))))) (k : Int) (f : ((List ((List UInt8) × (Int × (Int × (Int × Unit))))) × Unit)) : X :=
  bif (decide (k < ((before.length : Nat) : Int))) then
    bif ((decide ((0 : Int) ≤ k)) && (decide (k < ((before.length : Nat) : Int)))) then
    bif ((decide ((0 : Int) ≤ k)) && (decide (k < ((f.1.length : Nat) : Int)))) then
    bif (!(beqT (.arr 32 (.int .u8)) (List.getD before (k).toNat ((List.replicate 32 (0 : UInt8)), ((0 : Int), ((0 : Int), ((0 : Int), ()))))).1 (List.getD f.1 (k).toNat ((List.replicate 32 (0 : UInt8)), ((0 : Int), ((0 : Int), ((0 : Int), ()))))).1)) then
      ex0 l places false sum i before k f
    else
    bif ((List.getD before (k).toNat ((List.replicate 32 (0 : UInt8)), ((0 : Int), ((0 : Int), ((0 : Int), ()))))).2.1 != (List.getD f.1 (k).toNat ((List.replicate 32 (0 : UInt8)), ((0 : Int), ((0 : Int), ((0 : Int), ()))))).2.1) then
      ex0 l places false sum i before k f
    else
    bif (decide ((List.getD before (k).toNat ((List.replicate 32 (0 : UInt8)), ((0 : Int), ((0 : Int), ((0 : Int), ()))))).2.2.1 ≥ (0 : Int))) then
      bif (!(beqT (.pair (.arr 32 (.int .u8)) (.pair (.int .i64) (.pair (.int .i64) (.pair (.int .i64) .unit)))) (List.getD before (k).toNat ((List.replicate 32 (0 : UInt8)), ((0 : Int), ((0 : Int), ((0 : Int), ()))))) (List.getD f.1 (k).toNat ((List.replicate 32 (0 : UInt8)), ((0 : Int), ((0 : Int), ((0 : Int), ()))))))) then
        ex0 l places false sum i before k f
      else
      next l places s4 sum i before (addI k (1 : Int)) f
    else
    next l places s4 sum i before (addI k (1 : Int)) f
    else fail
    else fail
  else
  ex1 l places s4 sum i before k f
def FragmentsRemain_l2F {X : Type} (F : Nat) (fail : X) (ex0 : List (List UInt8) → List UInt8 → Bool → Int → Int → List ((List UInt8) × (Int × (Int × (Int × Unit)))) → Int → ((List ((List UInt8) × (Int × (Int × (Int × Unit))))) × Unit) → X) (ex1 : List (List UInt8) → List UInt8 → Bool → Int → Int → List ((List UInt8) × (Int × (Int × (Int × Unit)))) → Int → ((List ((List UInt8) × (Int × (Int × (Int × Unit))))) × Unit) → X) : Nat → List (List UInt8) → List UInt8 → Bool → Int → Int → List ((List UInt8) × (Int × (Int × (Int × Unit)))) → Int → ((List ((List UInt8) × (Int × (Int × (Int × Unit))))) × Unit) → X
  | 0, _, _, _, _, _, _, _, _ => fail
  | m + 1, l, places, s4, sum, i, before, k, f => FragmentsRemain_l2 F fail (FragmentsRemain_l2F F fail ex0 ex1 m) ex0 ex1 l places s4 sum i before k f

def FragmentsRemain_l1 {X : Type} (F : Nat) (fail : X) (next : List (List UInt8) → List UInt8 → Bool → Int → Int → ((List ((List UInt8) × (Int × (Int × (Int × Unit))))) × Unit) → X) (ex0 : List (List UInt8) → List UInt8 → Bool → Int → Int → ((List ((List UInt8) × (Int × (Int × (Int × Unit))))) × Unit) → X) (ex1 : List (List UInt8) → List UInt8 → Bool → Int → Int → ((List ((List UInt8) × (Int × (Int × (Int × Unit))))) × Unit) → X) (l : List (List UInt8)) (places : List UInt8) (s4 : Bool) (sum : Int) (i : Int) (f : ((List ((List UInt8) × (Int × (Int × (Int × Unit))))) × Unit)) : X :=
  bif (decide (i < ((l.length : Nat) : Int))) then
    bif ((decide ((0 : Int) ≤ i)) && (decide (i < ((l.length : Nat) : Int)))) then
    bif (fAdd_P f (List.getD l (i).toNat ([] : List UInt8))) then
    bif ((fAdd_r3 f (List.getD l (i).toNat ([] : List UInt8))) == (0 : Int)) then
      bif (decide (i < ((places.length : Nat) : Int))) then
        bif (decide ((((fAdd_r0 f (List.getD l (i).toNat ([] : List UInt8))).1.length : Nat) : Int) > (0 : Int))) then
          bif ((decide ((0 : Int) ≤ i)) && (decide (i < ((places.length : Nat) : Int)))) then
          bif ((((fAdd_r0 f (List.getD l (i).toNat ([] : List UInt8))).1.length : Nat) : Int) != (0 : Int)) then
          bif (fPlace_P (fAdd_r0 f (List.getD l (i).toNat ([] : List UInt8))) (remI (cvBI (List.getD places (i).toNat (0 : UInt8))) (((fAdd_r0 f (List.getD l (i).toNat ([] : List UInt8))).1.length : Nat) : Int)) i (mulI (3 : Int) i)) then
          bif ((decide ((0 : Int) ≤ (remI (cvBI (List.getD places (i).toNat (0 : UInt8))) (((fAdd_r0 f (List.getD l (i).toNat ([] : List UInt8))).1.length : Nat) : Int)))) && (decide ((remI (cvBI (List.getD places (i).toNat (0 : UInt8))) (((fAdd_r0 f (List.getD l (i).toNat ([] : List UInt8))).1.length : Nat) : Int)) < (((fAdd_r0 f (List.getD l (i).toNat ([] : List UInt8))).1.length : Nat) : Int)))) then
          bif (((fPlace_r1 (fAdd_r0 f (List.getD l (i).toNat ([] : List UInt8))) (remI (cvBI (List.getD places (i).toNat (0 : UInt8))) (((fAdd_r0 f (List.getD l (i).toNat ([] : List UInt8))).1.length : Nat) : Int)) i (mulI (3 : Int) i)) == (0 : Int)) == (decide ((List.getD (fAdd_r0 f (List.getD l (i).toNat ([] : List UInt8))).1 ((remI (cvBI (List.getD places (i).toNat (0 : UInt8))) (((fAdd_r0 f (List.getD l (i).toNat ([] : List UInt8))).1.length : Nat) : Int))).toNat ((List.replicate 32 (0 : UInt8)), ((0 : Int), ((0 : Int), ((0 : Int), ()))))).2.2.1 ≥ (0 : Int)))) then
            ex0 l places false sum i (fAdd_r0 f (List.getD l (i).toNat ([] : List UInt8)))
          else
          bif ((fPlace_r1 (fAdd_r0 f (List.getD l (i).toNat ([] : List UInt8))) (remI (cvBI (List.getD places (i).toNat (0 : UInt8))) (((fAdd_r0 f (List.getD l (i).toNat ([] : List UInt8))).1.length : Nat) : Int)) i (mulI (3 : Int) i)) != (0 : Int)) then
            bif ((fPlace_r1 (fAdd_r0 f (List.getD l (i).toNat ([] : List UInt8))) (remI (cvBI (List.getD places (i).toNat (0 : UInt8))) (((fAdd_r0 f (List.getD l (i).toNat ([] : List UInt8))).1.length : Nat) : Int)) i (mulI (3 : Int) i)) != (12 : Int)) then
              ex0 l places false sum i (fAdd_r0 f (List.getD l (i).toNat ([] : List UInt8)))
            else
            bif ((fPlace_r1 (fAdd_r0 f (List.getD l (i).toNat ([] : List UInt8))) (remI (cvBI (List.getD places (i).toNat (0 : UInt8))) (((fAdd_r0 f (List.getD l (i).toNat ([] : List UInt8))).1.length : Nat) : Int)) i (mulI (3 : Int) i)) == (0 : Int)) then
              bif ((decide ((0 : Int) ≤ (remI (cvBI (List.getD places (i).toNat (0 : UInt8))) (((fAdd_r0 f (List.getD l (i).toNat ([] : List UInt8))).1.length : Nat) : Int)))) && (decide ((remI (cvBI (List.getD places (i).toNat (0 : UInt8))) (((fAdd_r0 f (List.getD l (i).toNat ([] : List UInt8))).1.length : Nat) : Int)) < (((fAdd_r0 f (List.getD l (i).toNat ([] : List UInt8))).1.length : Nat) : Int)))) then
              bif (decide ((((fPlace_r0 (fAdd_r0 f (List.getD l (i).toNat ([] : List UInt8))) (remI (cvBI (List.getD places (i).toNat (0 : UInt8))) (((fAdd_r0 f (List.getD l (i).toNat ([] : List UInt8))).1.length : Nat) : Int)) i (mulI (3 : Int) i)).1.length : Nat) : Int) < ((f.1.length : Nat) : Int))) then
                ex0 l places false (addI sum (List.getD (fAdd_r0 f (List.getD l (i).toNat ([] : List UInt8))).1 ((remI (cvBI (List.getD places (i).toNat (0 : UInt8))) (((fAdd_r0 f (List.getD l (i).toNat ([] : List UInt8))).1.length : Nat) : Int))).toNat ((List.replicate 32 (0 : UInt8)), ((0 : Int), ((0 : Int), ((0 : Int), ()))))).2.1) i (fPlace_r0 (fAdd_r0 f (List.getD l (i).toNat ([] : List UInt8))) (remI (cvBI (List.getD places (i).toNat (0 : UInt8))) (((fAdd_r0 f (List.getD l (i).toNat ([] : List UInt8))).1.length : Nat) : Int)) i (mulI (3 : Int) i))
              else
              FragmentsRemain_l2F F fail
                (fun (l1 : List (List UInt8)) (places1 : List UInt8) (s41 : Bool) (sum1 : Int) (i1 : Int) (before : List ((List UInt8) × (Int × (Int × (Int × Unit))))) (k : Int) (f1 : ((List ((List UInt8) × (Int × (Int × (Int × Unit))))) × Unit)) =>
                  ex0 l1 places1 s41 sum1 i1 f1)
                (fun (l2 : List (List UInt8)) (places2 : List UInt8) (s42 : Bool) (sum2 : Int) (i2 : Int) (before1 : List ((List UInt8) × (Int × (Int × (Int × Unit))))) (k1 : Int) (f2 : ((List ((List UInt8) × (Int × (Int × (Int × Unit))))) × Unit)) =>
                  next l2 places2 s42 sum2 (addI i2 (1 : Int)) f2)
                F l places s4 (addI sum (List.getD (fAdd_r0 f (List.getD l (i).toNat ([] : List UInt8))).1 ((remI (cvBI (List.getD places (i).toNat (0 : UInt8))) (((fAdd_r0 f (List.getD l (i).toNat ([] : List UInt8))).1.length : Nat) : Int))).toNat ((List.replicate 32 (0 : UInt8)), ((0 : Int), ((0 : Int), ((0 : Int), ()))))).2.1) i f.1 (0 : Int) (fPlace_r0 (fAdd_r0 f (List.getD l (i).toNat ([] : List UInt8))) (remI (cvBI (List.getD places (i).toNat (0 : UInt8))) (((fAdd_r0 f (List.getD l (i).toNat ([] : List UInt8))).1.length : Nat) : Int)) i (mulI (3 : Int) i))
              else fail
            else
            bif (decide ((((fAdd_r0 f (List.getD l (i).toNat ([] : List UInt8))).1.length : Nat) : Int) < ((f.1.length : Nat) : Int))) then
              ex0 l places false sum i (fAdd_r0 f (List.getD l (i).toNat ([] : List UInt8)))
            else
            FragmentsRemain_l2F F fail
              (fun (l3 : List (List UInt8)) (places3 : List UInt8) (s43 : Bool) (sum3 : Int) (i3 : Int) (before2 : List ((List UInt8) × (Int × (Int × (Int × Unit))))) (k2 : Int) (f3 : ((List ((List UInt8) × (Int × (Int × (Int × Unit))))) × Unit)) =>
                ex0 l3 places3 s43 sum3 i3 f3)
              (fun (l4 : List (List UInt8)) (places4 : List UInt8) (s44 : Bool) (sum4 : Int) (i4 : Int) (before3 : List ((List UInt8) × (Int × (Int × (Int × Unit))))) (k3 : Int) (f4 : ((List ((List UInt8) × (Int × (Int × (Int × Unit))))) × Unit)) =>
                next l4 places4 s44 sum4 (addI i4 (1 : Int)) f4)
              F l places s4 sum i f.1 (0 : Int) (fAdd_r0 f (List.getD l (i).toNat ([] : List UInt8)))
          else
          bif ((fPlace_r1 (fAdd_r0 f (List.getD l (i).toNat ([] : List UInt8))) (remI (cvBI (List.getD places (i).toNat (0 : UInt8))) (((fAdd_r0 f (List.getD l (i).toNat ([] : List UInt8))).1.length : Nat) : Int)) i (mulI (3 : Int) i)) == (0 : Int)) then
            bif ((decide ((0 : Int) ≤ (remI (cvBI (List.getD places (i).toNat (0 : UInt8))) (((fAdd_r0 f (List.getD l (i).toNat ([] : List UInt8))).1.length : Nat) : Int)))) && (decide ((remI (cvBI (List.getD places (i).toNat (0 : UInt8))) (((fAdd_r0 f (List.getD l (i).toNat ([] : List UInt8))).1.length : Nat) : Int)) < (((fAdd_r0 f (List.getD l (i).toNat ([] : List UInt8))).1.length : Nat) : Int)))) then
            bif (decide ((((fPlace_r0 (fAdd_r0 f (List.getD l (i).toNat ([] : List UInt8))) (remI (cvBI (List.getD places (i).toNat (0 : UInt8))) (((fAdd_r0 f (List.getD l (i).toNat ([] : List UInt8))).1.length : Nat) : Int)) i (mulI (3 : Int) i)).1.length : Nat) : Int) < ((f.1.length : Nat) : Int))) then
              ex0 l places false (addI sum (List.getD (fAdd_r0 f (List.getD l (i).toNat ([] : List UInt8))).1 ((remI (cvBI (List.getD places (i).toNat (0 : UInt8))) (((fAdd_r0 f (List.getD l (i).toNat ([] : List UInt8))).1.length : Nat) : Int))).toNat ((List.replicate 32 (0 : UInt8)), ((0 : Int), ((0 : Int), ((0 : Int), ()))))).2.1) i (fPlace_r0 (fAdd_r0 f (List.getD l (i).toNat ([] : List UInt8))) (remI (cvBI (List.getD places (i).toNat (0 : UInt8))) (((fAdd_r0 f (List.getD l (i).toNat ([] : List UInt8))).1.length : Nat) : Int)) i (mulI (3 : Int) i))
            else
            FragmentsRemain_l2F F fail
              (fun (l5 : List (List UInt8)) (places5 : List UInt8) (s45 : Bool) (sum5 : Int) (i5 : Int) (before4 : List ((List UInt8) × (Int × (Int × (Int × Unit))))) (k4 : Int) (f5 : ((List ((List UInt8) × (Int × (Int × (Int × Unit))))) × Unit)) =>
                ex0 l5 places5 s45 sum5 i5 f5)
              (fun (l6 : List (List UInt8)) (places6 : List UInt8) (s46 : Bool) (sum6 : Int) (i6 : Int) (before5 : List ((List UInt8) × (Int × (Int × (Int × Unit))))) (k5 : Int) (f6 : ((List ((List UInt8) × (Int × (Int × (Int × Unit))))) × Unit)) =>
                next l6 places6 s46 sum6 (addI i6 (1 : Int)) f6)
              F l places s4 (addI sum (List.getD (fAdd_r0 f (List.getD l (i).toNat ([] : List UInt8))).1 ((remI (cvBI (List.getD places (i).toNat (0 : UInt8))) (((fAdd_r0 f (List.getD l (i).toNat ([] : List UInt8))).1.length : Nat) : Int))).toNat ((List.replicate 32 (0 : UInt8)), ((0 : Int), ((0 : Int), ((0 : Int), ()))))).2.1) i f.1 (0 : Int) (fPlace_r0 (fAdd_r0 f (List.getD l (i).toNat ([] : List UInt8))) (remI (cvBI (List.getD places (i).toNat (0 : UInt8))) (((fAdd_r0 f (List.getD l (i).toNat ([] : List UInt8))).1.length : Nat) : Int)) i (mulI (3 : Int) i))
            else fail
          else
          bif (decide ((((fAdd_r0 f (List.getD l (i).toNat ([] : List UInt8))).1.length : Nat) : Int) < ((f.1.length : Nat) : Int))) then
            ex0 l places false sum i (fAdd_r0 f (List.getD l (i).toNat ([] : List UInt8)))
          else
          FragmentsRemain_l2F F fail
            (fun (l7 : List (List UInt8)) (places7 : List UInt8) (s47 : Bool) (sum7 : Int) (i7 : Int) (before6 : List ((List UInt8) × (Int × (Int × (Int × Unit))))) (k6 : Int) (f7 : ((List ((List UInt8) × (Int × (Int × (Int × Unit))))) × Unit)) =>
              ex0 l7 places7 s47 sum7 i7 f7)
            (fun (l8 : List (List UInt8)) (places8 : List UInt8) (s48 : Bool) (sum8 : Int) (i8 : Int) (before7 : List ((List UInt8) × (Int × (Int × (Int × Unit))))) (k7 : Int) (f8 : ((List ((List UInt8) × (Int × (Int × (Int × Unit))))) × Unit)) =>
              next l8 places8 s48 sum8 (addI i8 (1 : Int)) f8)
            F l places s4 sum i f.1 (0 : Int) (fAdd_r0 f (List.getD l (i).toNat ([] : List UInt8)))
          else fail
          else fail
          else fail
          else fail
        else
        bif (decide ((((fAdd_r0 f (List.getD l (i).toNat ([] : List UInt8))).1.length : Nat) : Int) < ((f.1.length : Nat) : Int))) then
          ex0 l places false sum i (fAdd_r0 f (List.getD l (i).toNat ([] : List UInt8)))
        else
        FragmentsRemain_l2F F fail
          (fun (l9 : List (List UInt8)) (places9 : List UInt8) (s49 : Bool) (sum9 : Int) (i9 : Int) (before8 : List ((List UInt8) × (Int × (Int × (Int × Unit))))) (k8 : Int) (f9 : ((List ((List UInt8) × (Int × (Int × (Int × Unit))))) × Unit)) =>
            ex0 l9 places9 s49 sum9 i9 f9)
          (fun (l10 : List (List UInt8)) (places10 : List UInt8) (s410 : Bool) (sum10 : Int) (i10 : Int) (before9 : List ((List UInt8) × (Int × (Int × (Int × Unit))))) (k9 : Int) (f10 : ((List ((List UInt8) × (Int × (Int × (Int × Unit))))) × Unit)) =>
            next l10 places10 s410 sum10 (addI i10 (1 : Int)) f10)
          F l places s4 sum i f.1 (0 : Int) (fAdd_r0 f (List.getD l (i).toNat ([] : List UInt8)))
      else
      bif (decide ((((fAdd_r0 f (List.getD l (i).toNat ([] : List UInt8))).1.length : Nat) : Int) < ((f.1.length : Nat) : Int))) then
        ex0 l places false sum i (fAdd_r0 f (List.getD l (i).toNat ([] : List UInt8)))
      else
      FragmentsRemain_l2F F fail
        (fun (l11 : List (List UInt8)) (places11 : List UInt8) (s411 : Bool) (sum11 : Int) (i11 : Int) (before10 : List ((List UInt8) × (Int × (Int × (Int × Unit))))) (k10 : Int) (f11 : ((List ((List UInt8) × (Int × (Int × (Int × Unit))))) × Unit)) =>
          ex0 l11 places11 s411 sum11 i11 f11)
        (fun (l12 : List (List UInt8)) (places12 : List UInt8) (s412 : Bool) (sum12 : Int) (i12 : Int) (before11 : List ((List UInt8) × (Int × (Int × (Int × Unit))))) (k11 : Int) (f12 : ((List ((List UInt8) × (Int × (Int × (Int × Unit))))) × Unit)) =>
          next l12 places12 s412 sum12 (addI i12 (1 : Int)) f12)
        F l places s4 sum i f.1 (0 : Int) (fAdd_r0 f (List.getD l (i).toNat ([] : List UInt8)))
    else
    bif (decide (i < ((places.length : Nat) : Int))) then
      bif (decide (((f.1.length : Nat) : Int) > (0 : Int))) then
        bif ((decide ((0 : Int) ≤ i)) && (decide (i < ((places.length : Nat) : Int)))) then
        bif (((f.1.length : Nat) : Int) != (0 : Int)) then
        bif (fPlace_P f (remI (cvBI (List.getD places (i).toNat (0 : UInt8))) ((f.1.length : Nat) : Int)) i (mulI (3 : Int) i)) then
        bif ((decide ((0 : Int) ≤ (remI (cvBI (List.getD places (i).toNat (0 : UInt8))) ((f.1.length : Nat) : Int)))) && (decide ((remI (cvBI (List.getD places (i).toNat (0 : UInt8))) ((f.1.length : Nat) : Int)) < ((f.1.length : Nat) : Int)))) then
        bif (((fPlace_r1 f (remI (cvBI (List.getD places (i).toNat (0 : UInt8))) ((f.1.length : Nat) : Int)) i (mulI (3 : Int) i)) == (0 : Int)) == (decide ((List.getD f.1 ((remI (cvBI (List.getD places (i).toNat (0 : UInt8))) ((f.1.length : Nat) : Int))).toNat ((List.replicate 32 (0 : UInt8)), ((0 : Int), ((0 : Int), ((0 : Int), ()))))).2.2.1 ≥ (0 : Int)))) then
          ex0 l places false sum i f
        else
        bif ((fPlace_r1 f (remI (cvBI (List.getD places (i).toNat (0 : UInt8))) ((f.1.length : Nat) : Int)) i (mulI (3 : Int) i)) != (0 : Int)) then
          bif ((fPlace_r1 f (remI (cvBI (List.getD places (i).toNat (0 : UInt8))) ((f.1.length : Nat) : Int)) i (mulI (3 : Int) i)) != (12 : Int)) then
            ex0 l places false sum i f
          else
          bif ((fPlace_r1 f (remI (cvBI (List.getD places (i).toNat (0 : UInt8))) ((f.1.length : Nat) : Int)) i (mulI (3 : Int) i)) == (0 : Int)) then
            bif ((decide ((0 : Int) ≤ (remI (cvBI (List.getD places (i).toNat (0 : UInt8))) ((f.1.length : Nat) : Int)))) && (decide ((remI (cvBI (List.getD places (i).toNat (0 : UInt8))) ((f.1.length : Nat) : Int)) < ((f.1.length : Nat) : Int)))) then
            bif (decide ((((fPlace_r0 f (remI (cvBI (List.getD places (i).toNat (0 : UInt8))) ((f.1.length : Nat) : Int)) i (mulI (3 : Int) i)).1.length : Nat) : Int) < ((f.1.length : Nat) : Int))) then
              ex0 l places false (addI sum (List.getD f.1 ((remI (cvBI (List.getD places (i).toNat (0 : UInt8))) ((f.1.length : Nat) : Int))).toNat ((List.replicate 32 (0 : UInt8)), ((0 : Int), ((0 : Int), ((0 : Int), ()))))).2.1) i (fPlace_r0 f (remI (cvBI (List.getD places (i).toNat (0 : UInt8))) ((f.1.length : Nat) : Int)) i (mulI (3 : Int) i))
            else
            FragmentsRemain_l2F F fail
              (fun (l13 : List (List UInt8)) (places13 : List UInt8) (s413 : Bool) (sum13 : Int) (i13 : Int) (before12 : List ((List UInt8) × (Int × (Int × (Int × Unit))))) (k12 : Int) (f13 : ((List ((List UInt8) × (Int × (Int × (Int × Unit))))) × Unit)) =>
                ex0 l13 places13 s413 sum13 i13 f13)
              (fun (l14 : List (List UInt8)) (places14 : List UInt8) (s414 : Bool) (sum14 : Int) (i14 : Int) (before13 : List ((List UInt8) × (Int × (Int × (Int × Unit))))) (k13 : Int) (f14 : ((List ((List UInt8) × (Int × (Int × (Int × Unit))))) × Unit)) =>
                next l14 places14 s414 sum14 (addI i14 (1 : Int)) f14)
              F l places s4 (addI sum (List.getD f.1 ((remI (cvBI (List.getD places (i).toNat (0 : UInt8))) ((f.1.length : Nat) : Int))).toNat ((List.replicate 32 (0 : UInt8)), ((0 : Int), ((0 : Int), ((0 : Int), ()))))).2.1) i f.1 (0 : Int) (fPlace_r0 f (remI (cvBI (List.getD places (i).toNat (0 : UInt8))) ((f.1.length : Nat) : Int)) i (mulI (3 : Int) i))
            else fail
          else
          bif (decide (((f.1.length : Nat) : Int) < ((f.1.length : Nat) : Int))) then
            ex0 l places false sum i f
          else
          FragmentsRemain_l2F F fail
            (fun (l15 : List (List UInt8)) (places15 : List UInt8) (s415 : Bool) (sum15 : Int) (i15 : Int) (before14 : List ((List UInt8) × (Int × (Int × (Int × Unit))))) (k14 : Int) (f15 : ((List ((List UInt8) × (Int × (Int × (Int × Unit))))) × Unit)) =>
              ex0 l15 places15 s415 sum15 i15 f15)
            (fun (l16 : List (List UInt8)) (places16 : List UInt8) (s416 : Bool) (sum16 : Int) (i16 : Int) (before15 : List ((List UInt8) × (Int × (Int × (Int × Unit))))) (k15 : Int) (f16 : ((List ((List UInt8) × (Int × (Int × (Int × Unit))))) × Unit)) =>
              next l16 places16 s416 sum16 (addI i16 (1 : Int)) f16)
            F l places s4 sum i f.1 (0 : Int) f
        else
        bif ((fPlace_r1 f (remI (cvBI (List.getD places (i).toNat (0 : UInt8))) ((f.1.length : Nat) : Int)) i (mulI (3 : Int) i)) == (0 : Int)) then
          bif ((decide ((0 : Int) ≤ (remI (cvBI (List.getD places (i).toNat (0 : UInt8))) ((f.1.length : Nat) : Int)))) && (decide ((remI (cvBI (List.getD places (i).toNat (0 : UInt8))) ((f.1.length : Nat) : Int)) < ((f.1.length : Nat) : Int)))) then
          bif (decide ((((fPlace_r0 f (remI (cvBI (List.getD places (i).toNat (0 : UInt8))) ((f.1.length : Nat) : Int)) i (mulI (3 : Int) i)).1.length : Nat) : Int) < ((f.1.length : Nat) : Int))) then
            ex0 l places false (addI sum (List.getD f.1 ((remI (cvBI (List.getD places (i).toNat (0 : UInt8))) ((f.1.length : Nat) : Int))).toNat ((List.replicate 32 (0 : UInt8)), ((0 : Int), ((0 : Int), ((0 : Int), ()))))).2.1) i (fPlace_r0 f (remI (cvBI (List.getD places (i).toNat (0 : UInt8))) ((f.1.length : Nat) : Int)) i (mulI (3 : Int) i))
          else
          FragmentsRemain_l2F F fail
            (fun (l17 : List (List UInt8)) (places17 : List UInt8) (s417 : Bool) (sum17 : Int) (i17 : Int) (before16 : List ((List UInt8) × (Int × (Int × (Int × Unit))))) (k16 : Int) (f17 : ((List ((List UInt8) × (Int × (Int × (Int × Unit))))) × Unit)) =>
              ex0 l17 places17 s417 sum17 i17 f17)
            (fun (l18 : List (List UInt8)) (places18 : List UInt8) (s418 : Bool) (sum18 : Int) (i18 : Int) (before17 : List ((List UInt8) × (Int × (Int × (Int × Unit))))) (k17 : Int) (f18 : ((List ((List UInt8) × (Int × (Int × (Int × Unit))))) × Unit)) =>
              next l18 places18 s418 sum18 (addI i18 (1 : Int)) f18)
            F l places s4 (addI sum (List.getD f.1 ((remI (cvBI (List.getD places (i).toNat (0 : UInt8))) ((f.1.length : Nat) : Int))).toNat ((List.replicate 32 (0 : UInt8)), ((0 : Int), ((0 : Int), ((0 : Int), ()))))).2.1) i f.1 (0 : Int) (fPlace_r0 f (remI (cvBI (List.getD places (i).toNat (0 : UInt8))) ((f.1.length : Nat) : Int)) i (mulI (3 : Int) i))
          else fail
        else
        bif (decide (((f.1.length : Nat) : Int) < ((f.1.length : Nat) : Int))) then
          ex0 l places false sum i f
        else
        FragmentsRemain_l2F F fail
          (fun (l19 : List (List UInt8)) (places19 : List UInt8) (s419 : Bool) (sum19 : Int) (i19 : Int) (before18 : List ((List UInt8) × (Int × (Int × (Int × Unit))))) (k18 : Int) (f19 : ((List ((List UInt8) × (Int × (Int × (Int × Unit))))) × Unit)) =>
            ex0 l19 places19 s419 sum19 i19 f19)
          (fun (l20 : List (List UInt8)) (places20 : List UInt8) (s420 : Bool) (sum20 : Int) (i20 : Int) (before19 : List ((List UInt8) × (Int × (Int × (Int × Unit))))) (k19 : Int) (f20 : ((List ((List UInt8) × (Int × (Int × (Int × Unit))))) × Unit)) =>
            next l20 places20 s420 sum20 (addI i20 (1 : Int)) f20)
          F l places s4 sum i f.1 (0 : Int) f
        else fail
        else fail
        else fail
        else fail
      else
      bif (decide (((f.1.length : Nat) : Int) < ((f.1.length : Nat) : Int))) then
        ex0 l places false sum i f
      else
      FragmentsRemain_l2F F fail
        (fun (l21 : List (List UInt8)) (places21 : List UInt8) (s421 : Bool) (sum21 : Int) (i21 : Int) (before20 : List ((List UInt8) × (Int × (Int × (Int × Unit))))) (k20 : Int) (f21 : ((List ((List UInt8) × (Int × (Int × (Int × Unit))))) × Unit)) =>
          ex0 l21 places21 s421 sum21 i21 f21)
        (fun (l22 : List (List UInt8)) (places22 : List UInt8) (s422 : Bool) (sum22 : Int) (i22 : Int) (before21 : List ((List UInt8) × (Int × (Int × (Int × Unit))))) (k21 : Int) (f22 : ((List ((List UInt8) × (Int × (Int × (Int × Unit))))) × Unit)) =>
          next l22 places22 s422 sum22 (addI i22 (1 : Int)) f22)
        F l places s4 sum i f.1 (0 : Int) f
    else
    bif (decide (((f.1.length : Nat) : Int) < ((f.1.length : Nat) : Int))) then
      ex0 l places false sum i f
    else
    FragmentsRemain_l2F F fail
      (fun (l23 : List (List UInt8)) (places23 : List UInt8) (s423 : Bool) (sum23 : Int) (i23 : Int) (before22 : List ((List UInt8) × (Int × (Int × (Int × Unit))))) (k22 : Int) (f23 : ((List ((List UInt8) × (Int × (Int × (Int × Unit))))) × Unit)) =>
        ex0 l23 places23 s423 sum23 i23 f23)
      (fun (l24 : List (List UInt8)) (places24 : List UInt8) (s424 : Bool) (sum24 : Int) (i24 : Int) (before23 : List ((List UInt8) × (Int × (Int × (Int × Unit))))) (k23 : Int) (f24 : ((List ((List UInt8) × (Int × (Int × (Int × Unit))))) × Unit)) =>
        next l24 places24 s424 sum24 (addI i24 (1 : Int)) f24)
      F l places s4 sum i f.1 (0 : Int) f
    else fail
    else fail
  else
  ex1 l places s4 sum i f
def FragmentsRemain_l1F {X : Type} (F : Nat) (fail : X) (ex0 : List (List UInt8) → List UInt8 → Bool → Int → Int → ((List ((List UInt8) × (Int × (Int × (Int × Unit))))) × Unit) → X) (ex1 : List (List UInt8) → List UInt8 → Bool → Int → Int → ((List ((List UInt8) × (Int × (Int × (Int × Unit))))) × Unit) → X) : Nat → List (List UInt8) → List UInt8 → Bool → Int → Int → ((List ((List UInt8) × (Int × (Int × (Int × Unit))))) × Unit) → X
  | 0, _, _, _, _, _, _ => fail
  | m + 1, l, places, s4, sum, i, f => FragmentsRemain_l1 F fail (FragmentsRemain_l1F F fail ex0 ex1 m) ex0 ex1 l places s4 sum i f

def FragmentsRemain {X : Type} (F : Nat) (l : List (List UInt8)) (places : List UInt8) (fail : X) (ret : Bool → X) : X :=
  bif (law46_few_P l) then
  bif (!(law46_few_r l)) then
    ret (law46_awake_r)
  else
  bif (decide (((places.length : Nat) : Int) > (30 : Int))) then
    ret (law46_awake_r)
  else
  FragmentsRemain_l1F F fail
    (fun (l1 : List (List UInt8)) (places1 : List UInt8) (s4 : Bool) (sum : Int) (i : Int) (f : ((List ((List UInt8) × (Int × (Int × (Int × Unit))))) × Unit)) =>
      ret s4)
    (fun (l2 : List (List UInt8)) (places2 : List UInt8) (s41 : Bool) (sum1 : Int) (i1 : Int) (f1 : ((List ((List UInt8) × (Int × (Int × (Int × Unit))))) × Unit)) =>
      bif (fStored_P f1) then
      bif (law46_awake_r) then
        bif ((fStored_r1 f1) == (0 : Int)) then
          ret ((fStored_r0 f1) == sum1)
        else
        ret false
      else
      ret false
      else fail)
    F l places false (0 : Int) (0 : Int) (([] : List ((List UInt8) × (Int × (Int × (Int × Unit))))), ())
  else fail

end Go.AI
