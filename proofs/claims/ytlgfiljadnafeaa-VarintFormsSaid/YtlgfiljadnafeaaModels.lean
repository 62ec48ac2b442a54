/- The plain models of the functions. Written by program. -/
import Derived.Test.YtlgfiljadnafeaaEngD
set_option linter.unusedVariables false
set_option linter.unusedSimpArgs false
namespace Go.Proofs.Ytlgfiljadnafeaa
open Go.Eng
def slices_Grow_byte (F : Nat) (x0 : (List Int)) (x1 : Int) : Option ((List Int) × Unit) := slices_Grow 1 x0 x1
/- 15: tscodec/tscodecmade.Mod -/
def made_Mod (F : Nat) (x0 : Int) (x1 : Int) : Option (Int × Unit) :=
  bif ltI x1 1 then
    some (0, ())
  else
    bif eqI x1 0 then
      none
    else
      bif ltI (remI x0 x1) 0 then
        some (addI .i64 (remI x0 x1) x1, ())
      else
        some (remI x0 x1, ())
/- 18: tscodec/buckets.Bounds -/
def buckets_Bounds_l5 (F : Nat) {R : Type} (k0 : (List Int) → Option R) : Nat → Int → Int → (List Int) → Int → Int → Option R
  | 0, _, _, _, _, _ => none
  | n + 1, x0, x1, x6, x23, x24 =>
    bif ltI x24 x23 then
      bif eqI (subI .i64 x1 2) 0 then
        none
      else
        bif inI x24 (List.length x6) then
          buckets_Bounds_l5 F k0 n x0 x1 (setL x6 x24 (addI .i64 1 (quoI .i64 (mulI .i64 x24 (subI .i64 x0 2)) (subI .i64 x1 2)))) x23 (addI .i64 x24 1)
        else
          none
    else
      k0 x6
def buckets_Bounds (F : Nat) (x0 : Int) (x1 : Int) : Option ((List Int) × Bool × Unit) :=
  bif ltI x1 3 then
    some ([], (false, ()))
  else
    bif ltI x0 x1 then
      some ([], (false, ()))
    else
      bif ltI 1073741824 x0 then
        some ([], (false, ()))
      else
        bif makeB (subI .i64 x1 1) (subI .i64 x1 1) 8 then
          buckets_Bounds_l5 F
            (fun z15 =>
              some (z15, (true, ())))
            F x0 x1 (replI (subI .i64 x1 1) (0 : Int)) (lenI (replI (subI .i64 x1 1) (0 : Int))) 0
        else
          none
/- 16: tscodec/tscodeclaw24.known -/
def law24_known (F : Nat)  : Option (Bool × Unit) :=
  (buckets_Bounds F 10 5).bind fun r1 =>
  bif r1.2.1 then
    bif eqI (lenI r1.1) 4 then
      bif inI 0 (List.length r1.1) then
        bif eqI (getL 0 r1.1 0) 1 then
          bif inI 1 (List.length r1.1) then
            bif eqI (getL 0 r1.1 1) 3 then
              bif inI 2 (List.length r1.1) then
                bif eqI (getL 0 r1.1 2) 6 then
                  bif inI 3 (List.length r1.1) then
                    some (eqI (getL 0 r1.1 3) 9, ())
                  else
                    none
                else
                  some (false, ())
              else
                none
            else
              some (false, ())
          else
            none
        else
          some (false, ())
      else
        none
    else
      some (false, ())
  else
    some (false, ())
/- 56: tscodec/tscodecref24.Bounds -/
def ref24_Bounds_l5 (F : Nat) {R : Type} (k0 : (List Int) → Option R) : Nat → Int → Int → (List Int) → Int → Option R
  | 0, _, _, _, _ => none
  | n + 1, x0, x1, x6, x7 =>
    bif leI x7 (subI .i64 x1 2) then
      bif eqI (subI .i64 x1 2) 0 then
        none
      else
        bif roomB ((List.length x6) + 1) 8 then
          ref24_Bounds_l5 F k0 n x0 x1 (x6 ++ [addI .i64 1 (quoI .i64 (mulI .i64 x7 (subI .i64 x0 2)) (subI .i64 x1 2))]) (addI .i64 x7 1)
        else
          none
    else
      k0 x6
def ref24_Bounds (F : Nat) (x0 : Int) (x1 : Int) : Option ((List Int) × Bool × Unit) :=
  bif ltI x1 3 then
    some ([], (false, ()))
  else
    bif ltI x0 x1 then
      some ([], (false, ()))
    else
      bif ltI 1073741824 x0 then
        some ([], (false, ()))
      else
        ref24_Bounds_l5 F
          (fun z13 =>
            some (z13, (true, ())))
          F x0 x1 [] 0
/- 17: tscodec/tscodeclaw24.alike -/
def law24_alike_l6 (F : Nat) {R : Type} (k0 : Option R) (kret : Bool → Option R) : Nat → (List Int) → (List Int) → Int → Option R
  | 0, _, _, _ => none
  | n + 1, x5, x7, x9 =>
    bif ltI x9 (lenI x5) then
      bif inI x9 (List.length x5) then
        bif inI x9 (List.length x7) then
          bif not (eqI (getL 0 x5 x9) (getL 0 x7 x9)) then
            kret false
          else
            law24_alike_l6 F k0 kret n x5 x7 (addI .i64 x9 1)
        else
          none
      else
        none
    else
      k0
def law24_alike (F : Nat) (x0 : Int) (x1 : Int) : Option (Bool × Unit) :=
  (buckets_Bounds F x0 x1).bind fun r1 =>
  (ref24_Bounds F x0 x1).bind fun r2 =>
  bif not (eqT .bool r1.2.1 r2.2.1) then
    some (false, ())
  else
    bif not (eqI (lenI r1.1) (lenI r2.1)) then
      some (false, ())
    else
      law24_alike_l6 F
        (
          some (true, ()))
        (fun z13 =>
          some (z13, ()))
        F r1.1 r2.1 0
/- 3: tscodec/tscodeclaw24.BucketsForms -/
def law24_BucketsForms_j7 (F : Nat) {R : Type} (kret : Bool → Option R) (x0 : Int) (x1 : Int) (x5 : Int) (x6 : Int) : Option R :=
    (law24_known F).bind fun r8 =>
    bif r8.1 then
      (law24_alike F x0 x1).bind fun r9 =>
      bif r9.1 then
        (law24_alike F x5 x6).bind fun r10 =>
        bif r10.1 then
          (law24_alike F x0 x6).bind fun r11 =>
          bif r11.1 then
            (law24_alike F x5 x5).bind fun r12 =>
            kret r12.1
          else
            kret false
        else
          kret false
      else
        kret false
    else
      kret false
def law24_BucketsForms_j5 (F : Nat) {R : Type} (kret : Bool → Option R) (x0 : Int) (x1 : Int) (x5 : Int) (x6 : Int) : Option R :=
    bif ltI 5000 x1 then
      law24_BucketsForms_j7 F
        (fun z13 =>
          kret z13)
        x0 5000 x5 x6
    else
      law24_BucketsForms_j7 F
        (fun z14 =>
          kret z14)
        x0 x1 x5 x6
def law24_BucketsForms (F : Nat) (x0 : Int) (x1 : Int) : Option (Bool × Unit) :=
  (made_Mod F x0 400).bind fun r1 =>
  (made_Mod F x1 300).bind fun r2 =>
  bif ltI 5000 x1 then
    (made_Mod F x1 2).bind fun r5 =>
    law24_BucketsForms_j5 F
      (fun z15 =>
        some (z15, ()))
      x0 (subI .i64 (addI .i64 x0 1) r5.1) r1.1 r2.1
  else
    law24_BucketsForms_j5 F
      (fun z16 =>
        some (z16, ()))
      x0 x1 r1.1 r2.1
/- 19: tscodec/tscodecmade.New -/
def made_New (F : Nat) (x0 : (List Int)) : Option (((List Int) × (Int × Unit)) × Unit) :=
  some ((x0, (0, ())), ())
/- 24: (*tscodec/tscodecmade.Tape).Next -/
def made_Tape_Next (F : Nat) (x0 : ((List Int) × (Int × Unit))) (x1 : Int) : Option (((List Int) × (Int × Unit)) × Int × Unit) :=
  bif leI (lenI x0.1) x0.2.1 then
    some (x0, (0, ()))
  else
    let x19v3 := addI .i64 x0.2.1 1
    bif inI (subI .i64 x19v3 1) (List.length x0.1) then
      (made_Mod F (getL 0 x0.1 (subI .i64 x19v3 1)) x1).bind fun r6 =>
      some ((x0.1, (x19v3, x0.2.2)), (r6.1, ()))
    else
      none
/- 48: (*tscodec/tscodecmade.Tape).Word -/
def made_Tape_Word_l3 (F : Nat) {R : Type} (k0 : ((List Int) × (Int × Unit)) → Int → Option R) : Nat → ((List Int) × (Int × Unit)) → Int → Int → Option R
  | 0, _, _, _ => none
  | n + 1, x0, x3, x4 =>
    bif ltI x4 4 then
      (made_Tape_Next F x0 65536).bind fun r3 =>
      made_Tape_Word_l3 F k0 n r3.1 (addI .u64 (shlI .u64 x3 16) (IntKind.wrap .u64 r3.2.1)) (addI .i64 x4 1)
    else
      k0 x0 x3
def made_Tape_Word (F : Nat) (x0 : ((List Int) × (Int × Unit))) : Option (((List Int) × (Int × Unit)) × Int × Unit) :=
  made_Tape_Word_l3 F
    (fun z7 z8 =>
      some (z7, (z8, ())))
    F x0 0 0
/- 20: tscodec/tscodeclaw08.list -/
def law08_list_l4 (F : Nat) {R : Type} (k0 : ((List Int) × (Int × Unit)) → (List Int) → Option R) : Nat → ((List Int) × (Int × Unit)) → (List Int) → Int → Int → Option R
  | 0, _, _, _, _ => none
  | n + 1, x0, x3, x4, x5 =>
    bif ltI 0 x5 then
      (made_Tape_Word F x0).bind fun r5 =>
      bif ltI x4 0 then
        none
      else
        bif roomB ((List.length x3) + 1) 8 then
          law08_list_l4 F k0 n r5.1 (x3 ++ [shrI .u64 r5.2.1 x4]) x4 (subI .i64 x5 1)
        else
          none
    else
      k0 x0 x3
def law08_list (F : Nat) (x0 : ((List Int) × (Int × Unit))) : Option (((List Int) × (Int × Unit)) × (List Int) × Unit) :=
  (made_Tape_Next F x0 65).bind fun r1 =>
  (made_Tape_Next F r1.1 30).bind fun r3 =>
  law08_list_l4 F
    (fun z9 z10 =>
      some (z9, (z10, ())))
    F r3.1 [] (IntKind.wrap .u64 r1.2.1) r3.2.1
/- 30: tscodec/bitpack.Width -/
def bitpack_Width_l3 (F : Nat) {R : Type} (k0 : Int → Option R) : Nat → Int → (List Int) → Int → Int → Option R
  | 0, _, _, _, _ => none
  | n + 1, x3, x6, x7, x8 =>
    bif ltI x8 x7 then
      bif inI x8 (List.length x6) then
        bitpack_Width_l3 F k0 n (orI .u64 x3 (getL 0 x6 x8)) x6 x7 (addI .i64 x8 1)
      else
        none
    else
      k0 x3
def bitpack_Width (F : Nat) (x0 : (List Int)) : Option (Int × Unit) :=
  bitpack_Width_l3 F
    (fun z6 =>
      (bits_Len64 F z6).bind fun r7 =>
      some (r7.1, ()))
    F 0 x0 (lenI x0) 0
/- 25: tscodec/bitpack.Bytes -/
def bitpack_Bytes (F : Nat) (x0 : Int) (x1 : Int) : Option (Int × Unit) :=
  bif ltI x0 0 then
    some ((-1), ())
  else
    bif ltI 65536 x0 then
      some ((-1), ())
    else
      bif ltI x1 0 then
        some ((-1), ())
      else
        bif ltI 64 x1 then
          some ((-1), ())
        else
          some (quoI .i64 (addI .i64 (mulI .i64 x0 x1) 7) 8, ())
/- 31: tscodec/bitpack.Pack -/
def bitpack_Pack_l10 (F : Nat) {R : Type} (k2 : Int → (List Int) → Int → (List Int) → Int → Int → Option R) : Nat → Int → (List Int) → Int → Int → Int → (List Int) → Int → Int → Option R
  | 0, _, _, _, _, _, _, _, _ => none
  | n + 1, x1, x7, x8, x10, x11, x27, x28, x29 =>
    bif ltI 0 x11 then
      bif inI (quoI .i64 x8 8) (List.length x7) then
        bif ltI (remI x8 8) 0 then
          none
        else
          bif inI (quoI .i64 x8 8) (List.length x7) then
            bif ltI (minI (subI .i64 8 (remI x8 8)) x11) 0 then
              none
            else
              bitpack_Pack_l10 F k2 n x1 (setL x7 (quoI .i64 x8 8) (orI .u8 (getL 0 x7 (quoI .i64 x8 8)) (shlI .u8 (IntKind.wrap .u8 x10) (remI x8 8)))) (addI .i64 x8 (minI (subI .i64 8 (remI x8 8)) x11)) (shrI .u64 x10 (minI (subI .i64 8 (remI x8 8)) x11)) (subI .i64 x11 (minI (subI .i64 8 (remI x8 8)) x11)) x27 x28 x29
          else
            none
      else
        none
    else
      k2 x1 x7 x8 x27 x28 x29
def bitpack_Pack_l7 (F : Nat) {R : Type} (k0 : (List Int) → Option R) : Nat → Int → (List Int) → Int → (List Int) → Int → Int → Option R
  | 0, _, _, _, _, _, _ => none
  | n + 1, x1, x7, x8, x27, x28, x29 =>
    bif ltI x29 x28 then
      bif inI x29 (List.length x27) then
        bitpack_Pack_l10 F
          (fun z24 z25 z26 z27 z28 z29 =>
            bitpack_Pack_l7 F k0 n z24 z25 z26 z27 z28 (addI .i64 z29 1))
          F x1 x7 x8 (getL 0 x27 x29) x1 x27 x28 x29
      else
        none
    else
      k0 x7
def bitpack_Pack (F : Nat) (x0 : (List Int)) (x1 : Int) : Option ((List Int) × Bool × Unit) :=
  (bitpack_Bytes F (lenI x0) x1).bind fun r2 =>
  bif ltI r2.1 0 then
    some ([], (false, ()))
  else
    (bitpack_Width F x0).bind fun r4 =>
    bif ltI x1 r4.1 then
      some ([], (false, ()))
    else
      bif makeB r2.1 r2.1 1 then
        bitpack_Pack_l7 F
          (fun z31 =>
            some (z31, (true, ())))
          F x1 (replI r2.1 (0 : Int)) 0 x0 (lenI x0) 0
      else
        none
/- 32: tscodec/bitpack.Unpack -/
def bitpack_Unpack_l9 (F : Nat) {R : Type} (k2 : (List Int) → Int → (List Int) → Int → Int → Int → Option R) : Nat → (List Int) → Int → (List Int) → Int → Int → Int → Int → Int → Option R
  | 0, _, _, _, _, _, _, _, _ => none
  | n + 1, x0, x2, x8, x9, x10, x11, x23, x24 =>
    bif ltI x11 x2 then
      bif inI (quoI .i64 x9 8) (List.length x0) then
        bif ltI (remI x9 8) 0 then
          none
        else
          bif ltI (minI (subI .i64 8 (remI x9 8)) (subI .i64 x2 x11)) 0 then
            none
          else
            bif inI x10 (List.length x8) then
              bif ltI x11 0 then
                none
              else
                bif inI x10 (List.length x8) then
                  bitpack_Unpack_l9 F k2 n x0 x2 (setL x8 x10 (orI .u64 (getL 0 x8 x10) (shlI .u64 (andI .u64 (IntKind.wrap .u64 (shrI .u8 (getL 0 x0 (quoI .i64 x9 8)) (remI x9 8))) (subI .u64 (shlI .u64 1 (minI (subI .i64 8 (remI x9 8)) (subI .i64 x2 x11))) 1)) x11))) (addI .i64 x9 (minI (subI .i64 8 (remI x9 8)) (subI .i64 x2 x11))) x10 (addI .i64 x11 (minI (subI .i64 8 (remI x9 8)) (subI .i64 x2 x11))) x23 x24
                else
                  none
            else
              none
      else
        none
    else
      k2 x0 x2 x8 x9 x23 x24
def bitpack_Unpack_l6 (F : Nat) {R : Type} (k0 : (List Int) → (List Int) → Int → Option R) : Nat → (List Int) → Int → (List Int) → Int → Int → Int → Option R
  | 0, _, _, _, _, _, _ => none
  | n + 1, x0, x2, x8, x9, x23, x24 =>
    bif ltI x24 x23 then
      bitpack_Unpack_l9 F
        (fun z26 z27 z28 z29 z30 z31 =>
          bitpack_Unpack_l6 F k0 n z26 z27 z28 z29 z30 (addI .i64 z31 1))
        F x0 x2 x8 x9 x24 0 x23 x24
    else
      k0 x0 x8 x9
def bitpack_Unpack (F : Nat) (x0 : (List Int)) (x1 : Int) (x2 : Int) : Option ((List Int) × Bool × Unit) :=
  (bitpack_Bytes F x1 x2).bind fun r1 =>
  bif not (eqI r1.1 (lenI x0)) then
    some ([], (false, ()))
  else
    bif makeB x1 x1 8 then
      bitpack_Unpack_l6 F
        (fun z33 z34 z35 =>
          bif ltI 0 (remI z35 8) then
            bif inI (quoI .i64 z35 8) (List.length z33) then
              bif ltI (remI z35 8) 0 then
                none
              else
                bif not (eqI (shrI .u8 (getL 0 z33 (quoI .i64 z35 8)) (remI z35 8)) 0) then
                  some ([], (false, ()))
                else
                  some (z34, (true, ()))
            else
              none
          else
            some (z34, (true, ())))
        F x0 x2 (replI x1 (0 : Int)) 0 (lenI (replI x1 (0 : Int))) 0
    else
      none
/- 34: tscodec/tscodecref06.Same -/
def ref06_Same_l4 (F : Nat) {R : Type} (k0 : Option R) (kret : Bool → Option R) : Nat → (List Int) → (List Int) → Int → Option R
  | 0, _, _, _ => none
  | n + 1, x0, x1, x5 =>
    bif ltI x5 (lenI x0) then
      bif inI x5 (List.length x0) then
        bif inI x5 (List.length x1) then
          bif not (eqI (getL 0 x0 x5) (getL 0 x1 x5)) then
            kret false
          else
            ref06_Same_l4 F k0 kret n x0 x1 (addI .i64 x5 1)
        else
          none
      else
        none
    else
      k0
def ref06_Same (F : Nat) (x0 : (List Int)) (x1 : (List Int)) : Option (Bool × Unit) :=
  bif not (eqI (lenI x0) (lenI x1)) then
    some (false, ())
  else
    ref06_Same_l4 F
      (
        some (true, ()))
      (fun z10 =>
        some (z10, ()))
      F x0 x1 0
/- 33: tscodec/tscodecref08.Same -/
def ref08_Same_l4 (F : Nat) {R : Type} (k0 : Option R) (kret : Bool → Option R) : Nat → (List Int) → (List Int) → Int → Option R
  | 0, _, _, _ => none
  | n + 1, x0, x1, x5 =>
    bif ltI x5 (lenI x0) then
      bif inI x5 (List.length x0) then
        bif inI x5 (List.length x1) then
          bif not (eqI (getL 0 x0 x5) (getL 0 x1 x5)) then
            kret false
          else
            ref08_Same_l4 F k0 kret n x0 x1 (addI .i64 x5 1)
        else
          none
      else
        none
    else
      k0
def ref08_Same (F : Nat) (x0 : (List Int)) (x1 : (List Int)) : Option (Bool × Unit) :=
  bif not (eqI (lenI x0) (lenI x1)) then
    some (false, ())
  else
    ref08_Same_l4 F
      (
        some (true, ()))
      (fun z10 =>
        some (z10, ()))
      F x0 x1 0
/- 22: tscodec/tscodeclaw08.known -/
def law08_known (F : Nat)  : Option (Bool × Unit) :=
  (bitpack_Pack F [5, 2, 7] 3).bind fun r1 =>
  (bitpack_Unpack F [213, 1] 3 3).bind fun r2 =>
  bif r1.2.1 then
    bif r2.2.1 then
      (ref06_Same F r1.1 [213, 1]).bind fun r3 =>
      bif r3.1 then
        (ref08_Same F r2.1 [5, 2, 7]).bind fun r4 =>
        some (r4.1, ())
      else
        some (false, ())
    else
      some (false, ())
  else
    some (false, ())
/- 7: tscodec/tscodeclaw08.BitpackBack -/
def law08_BitpackBack (F : Nat) (x0 : (List Int)) (x1 : Int) : Option (Bool × Unit) :=
  (made_New F x0).bind fun r1 =>
  (law08_list F r1.1).bind fun r2 =>
  (bitpack_Width F r2.2.1).bind fun r3 =>
  (made_Mod F x1 5).bind fun r4 =>
  let x22v5 := addI .i64 r3.1 r4.1
  (bitpack_Pack F r2.2.1 (minI 64 x22v5)).bind fun r7 =>
  (bitpack_Unpack F r7.1 (lenI r2.2.1) (minI 64 x22v5)).bind fun r9 =>
  (bitpack_Pack F r2.2.1 (subI .i64 r3.1 1)).bind fun r11 =>
  (law08_known F).bind fun r12 =>
  bif r12.1 then
    bif r7.2.1 then
      bif r9.2.1 then
        bif not r11.2.1 then
          (ref08_Same F r9.1 r2.2.1).bind fun r14 =>
          bif r14.1 then
            (bitpack_Bytes F (lenI r2.2.1) (minI 64 x22v5)).bind fun r17 =>
            some (eqI (lenI r7.1) r17.1, ())
          else
            some (false, ())
        else
          some (false, ())
      else
        some (false, ())
    else
      some (false, ())
  else
    some (false, ())
/- 21: tscodec/tscodecref08.Width -/
def ref08_Width_l5 (F : Nat) {R : Type} (k2 : (List Int) → Int → Int → Option R) : Nat → (List Int) → Int → Int → Option R
  | 0, _, _, _ => none
  | n + 1, x0, x3, x4 =>
    bif ltI x3 64 then
      bif inI x4 (List.length x0) then
        bif ltI (IntKind.wrap .u64 x3) 0 then
          none
        else
          bif not (eqI (shrI .u64 (getL 0 x0 x4) (IntKind.wrap .u64 x3)) 0) then
            ref08_Width_l5 F k2 n x0 (addI .i64 x3 1) x4
          else
            k2 x0 x3 x4
      else
        none
    else
      k2 x0 x3 x4
def ref08_Width_l3 (F : Nat) {R : Type} (k0 : Int → Option R) : Nat → (List Int) → Int → Int → Option R
  | 0, _, _, _ => none
  | n + 1, x0, x3, x4 =>
    bif ltI x4 (lenI x0) then
      ref08_Width_l5 F
        (fun z9 z10 z11 =>
          ref08_Width_l3 F k0 n z9 z10 (addI .i64 z11 1))
        F x0 x3 x4
    else
      k0 x3
def ref08_Width (F : Nat) (x0 : (List Int)) : Option (Int × Unit) :=
  ref08_Width_l3 F
    (fun z13 =>
      some (z13, ()))
    F x0 0 0
/- 26: tscodec/tscodecref08.Bytes -/
def ref08_Bytes (F : Nat) (x0 : Int) (x1 : Int) : Option (Int × Unit) :=
  bif ltI x0 0 then
    some ((-1), ())
  else
    bif ltI 65536 x0 then
      some ((-1), ())
    else
      bif ltI x1 0 then
        some ((-1), ())
      else
        bif ltI 64 x1 then
          some ((-1), ())
        else
          some (quoI .i64 (addI .i64 (mulI .i64 x0 x1) 7) 8, ())
/- 27: tscodec/tscodecref08.Pack -/
def ref08_Pack_l9 (F : Nat) {R : Type} (k2 : (List Int) → Int → (List Int) → Int → Option R) : Nat → (List Int) → Int → (List Int) → Int → Int → Option R
  | 0, _, _, _, _, _ => none
  | n + 1, x0, x1, x7, x8, x9 =>
    bif ltI x9 x1 then
      bif inI (quoI .i64 (addI .i64 (mulI .i64 x8 x1) x9) 8) (List.length x7) then
        bif inI x8 (List.length x0) then
          bif ltI (IntKind.wrap .u64 x9) 0 then
            none
          else
            bif ltI (IntKind.wrap .u64 (remI (addI .i64 (mulI .i64 x8 x1) x9) 8)) 0 then
              none
            else
              bif inI (quoI .i64 (addI .i64 (mulI .i64 x8 x1) x9) 8) (List.length x7) then
                ref08_Pack_l9 F k2 n x0 x1 (setL x7 (quoI .i64 (addI .i64 (mulI .i64 x8 x1) x9) 8) (orI .u8 (getL 0 x7 (quoI .i64 (addI .i64 (mulI .i64 x8 x1) x9) 8)) (shlI .u8 (IntKind.wrap .u8 (andI .u64 (shrI .u64 (getL 0 x0 x8) (IntKind.wrap .u64 x9)) 1)) (IntKind.wrap .u64 (remI (addI .i64 (mulI .i64 x8 x1) x9) 8))))) x8 (addI .i64 x9 1)
              else
                none
        else
          none
      else
        none
    else
      k2 x0 x1 x7 x8
def ref08_Pack_l6 (F : Nat) {R : Type} (k0 : (List Int) → Option R) : Nat → (List Int) → Int → (List Int) → Int → Option R
  | 0, _, _, _, _ => none
  | n + 1, x0, x1, x7, x8 =>
    bif ltI x8 (lenI x0) then
      ref08_Pack_l9 F
        (fun z25 z26 z27 z28 =>
          ref08_Pack_l6 F k0 n z25 z26 z27 (addI .i64 z28 1))
        F x0 x1 x7 x8 0
    else
      k0 x7
def ref08_Pack (F : Nat) (x0 : (List Int)) (x1 : Int) : Option ((List Int) × Bool × Unit) :=
  (ref08_Bytes F (lenI x0) x1).bind fun r2 =>
  bif ltI r2.1 0 then
    some ([], (false, ()))
  else
    (ref08_Width F x0).bind fun r4 =>
    bif ltI x1 r4.1 then
      some ([], (false, ()))
    else
      bif makeB r2.1 r2.1 1 then
        ref08_Pack_l6 F
          (fun z30 =>
            some (z30, (true, ())))
          F x0 x1 (replI r2.1 (0 : Int)) 0
      else
        none
/- 57: tscodec/tscodecref08.Unpack -/
def ref08_Unpack_l6 (F : Nat) {R : Type} (k0 : (List Int) → Int → (List Int) → Option R) : Nat → (List Int) → Int → Int → (List Int) → Int → Option R
  | 0, _, _, _, _, _ => none
  | n + 1, x0, x1, x2, x9, x10 =>
    bif ltI x10 (mulI .i64 x1 x2) then
      bif eqI x2 0 then
        none
      else
        bif inI (quoI .i64 x10 x2) (List.length x9) then
          bif inI (quoI .i64 x10 8) (List.length x0) then
            bif ltI (IntKind.wrap .u64 (remI x10 8)) 0 then
              none
            else
              bif eqI x2 0 then
                none
              else
                bif ltI (IntKind.wrap .u64 (remI x10 x2)) 0 then
                  none
                else
                  bif inI (quoI .i64 x10 x2) (List.length x9) then
                    ref08_Unpack_l6 F k0 n x0 x1 x2 (setL x9 (quoI .i64 x10 x2) (orI .u64 (getL 0 x9 (quoI .i64 x10 x2)) (shlI .u64 (IntKind.wrap .u64 (andI .u8 (shrI .u8 (getL 0 x0 (quoI .i64 x10 8)) (IntKind.wrap .u64 (remI x10 8))) 1)) (IntKind.wrap .u64 (remI x10 x2))))) (addI .i64 x10 1)
                  else
                    none
          else
            none
        else
          none
    else
      k0 x0 x2 x9
def ref08_Unpack (F : Nat) (x0 : (List Int)) (x1 : Int) (x2 : Int) : Option ((List Int) × Bool × Unit) :=
  (ref08_Bytes F x1 x2).bind fun r1 =>
  bif ltI r1.1 0 then
    some ([], (false, ()))
  else
    bif not (eqI (lenI x0) r1.1) then
      some ([], (false, ()))
    else
      bif makeB x1 x1 8 then
        ref08_Unpack_l6 F
          (fun z23 z24 z25 =>
            (ref08_Pack F z25 z24).bind fun r26 =>
            bif not r26.2.1 then
              some ([], (false, ()))
            else
              (ref06_Same F z23 r26.1).bind fun r28 =>
              bif not r28.1 then
                some ([], (false, ()))
              else
                some (z25, (true, ())))
          F x0 x1 x2 (replI x1 (0 : Int)) 0
      else
        none
/- 28: tscodec/tscodeclaw08.unpacks -/
def law08_unpacks (F : Nat) (x0 : (List Int)) (x1 : Int) (x2 : Int) : Option (Bool × Unit) :=
  (bitpack_Unpack F x0 x1 x2).bind fun r1 =>
  (ref08_Unpack F x0 x1 x2).bind fun r2 =>
  bif eqT .bool r1.2.1 r2.2.1 then
    (ref08_Same F r1.1 r2.1).bind fun r4 =>
    some (r4.1, ())
  else
    some (false, ())
/- 29: (*tscodec/tscodecmade.Tape).Spoiled -/
def made_Tape_Spoiled (F : Nat) (x0 : ((List Int) × (Int × Unit))) (x1 : (List Int)) : Option (((List Int) × (Int × Unit)) × (List Int) × Unit) :=
  bif roomB (0 + (List.length x1)) 1 then
    (made_Tape_Next F x0 (lenI ([] ++ x1))).bind fun r3 =>
    (made_Tape_Next F r3.1 6).bind fun r4 =>
    bif eqI r4.2.1 0 then
      (made_Tape_Next F r4.1 (addI .i64 (lenI ([] ++ x1)) 1)).bind fun r8 =>
      bif cutB 0 r8.2.1 (List.length ([] ++ x1)) then
        some (r8.1, (takeL ([] ++ x1) r8.2.1, ()))
      else
        none
    else
      bif eqI r4.2.1 1 then
        (made_Tape_Next F r4.1 256).bind fun r11 =>
        bif roomB ((List.length ([] ++ x1)) + 1) 1 then
          some (r11.1, ((([] ++ x1) ++ [IntKind.wrap .u8 r11.2.1]), ()))
        else
          none
      else
        bif eqI r4.2.1 2 then
          bif ltI 0 (lenI ([] ++ x1)) then
            bif cutB 0 r3.2.1 (List.length ([] ++ x1)) then
              let x55v17 := addI .i64 r3.2.1 1
              bif cutB x55v17 (lenI ([] ++ x1)) (List.length ([] ++ x1)) then
                bif Nat.ble ((Int.toNat r3.2.1) + ((List.length ([] ++ x1)) - (Int.toNat x55v17))) (List.length ([] ++ x1)) then
                  some (r4.1, (((List.take (Int.toNat r3.2.1) ([] ++ x1)) ++ (List.drop (Int.toNat x55v17) (List.take (List.length ([] ++ x1)) ([] ++ x1)))), ()))
                else
                  none
              else
                none
            else
              none
          else
            some (r4.1, (([] ++ x1), ()))
        else
          bif ltI 0 (lenI ([] ++ x1)) then
            bif inI r3.2.1 (List.length ([] ++ x1)) then
              (made_Tape_Next F r4.1 8).bind fun r22 =>
              let x24v23 := IntKind.wrap .u64 r22.2.1
              bif ltI x24v23 0 then
                none
              else
                bif inI r3.2.1 (List.length ([] ++ x1)) then
                  some (r22.1, (setL ([] ++ x1) r3.2.1 (xorI .u8 (getL 0 ([] ++ x1) r3.2.1) (shlI .u8 1 x24v23)), ()))
                else
                  none
            else
              none
          else
            some (r4.1, (([] ++ x1), ()))
  else
    none
/- 6: tscodec/tscodeclaw08.BitpackReads -/
def law08_BitpackReads_j9 (F : Nat) {R : Type} (kret : Bool → Option R) (x0 : (List Int)) (x1 : Int) (x2 : Int) (x9 : ((List Int) × (Int × Unit))) (x10 : (List Int)) (x11 : Int) (x12 : (List Int)) (x14 : Int) (x15 : Int) : Option R :=
    (law08_known F).bind fun r10 =>
    bif r10.1 then
      (law08_unpacks F x0 x1 x2).bind fun r11 =>
      bif r11.1 then
        (law08_unpacks F x0 x15 x14).bind fun r12 =>
        bif r12.1 then
          (made_Mod F x1 50).bind fun r13 =>
          (law08_unpacks F x0 r13.1 x14).bind fun r14 =>
          bif r14.1 then
            (law08_unpacks F x12 (lenI x10) x11).bind fun r16 =>
            bif r16.1 then
              (made_Tape_Spoiled F x9 x12).bind fun r17 =>
              (law08_unpacks F r17.2.1 (lenI x10) x11).bind fun r19 =>
              bif r19.1 then
                (made_Tape_Next F r17.1 3).bind fun r21 =>
                (law08_unpacks F x12 (subI .i64 (addI .i64 (lenI x10) r21.2.1) 1) x11).bind fun r24 =>
                kret r24.1
              else
                kret false
            else
              kret false
          else
            kret false
        else
          kret false
      else
        kret false
    else
      kret false
def law08_BitpackReads (F : Nat) (x0 : (List Int)) (x1 : Int) (x2 : Int) (x3 : (List Int)) : Option (Bool × Unit) :=
  (made_New F x3).bind fun r1 =>
  (law08_list F r1.1).bind fun r2 =>
  (ref08_Width F r2.2.1).bind fun r3 =>
  (ref08_Pack F r2.2.1 r3.1).bind fun r4 =>
  (made_Mod F x2 65).bind fun r5 =>
  bif ltI 0 r5.1 then
    bif eqI r5.1 0 then
      none
    else
      law08_BitpackReads_j9 F
        (fun z25 =>
          some (z25, ()))
        x0 x1 x2 r2.1 r2.2.1 r3.1 r4.1 r5.1 (quoI .i64 (mulI .i64 8 (lenI x0)) r5.1)
  else
    law08_BitpackReads_j9 F
      (fun z26 =>
        some (z26, ()))
      x0 x1 x2 r2.1 r2.2.1 r3.1 r4.1 r5.1 0
/- 4: tscodec/tscodeclaw24.BucketsCover -/
def law24_BucketsCover_l8 (F : Nat) {R : Type} (k0 : Int → Int → Option R) : Nat → (List Int) → Int → Int → Int → Option R
  | 0, _, _, _, _ => none
  | n + 1, x5, x7, x8, x9 =>
    bif ltI x9 (lenI x5) then
      bif inI x9 (List.length x5) then
        bif inI (subI .i64 x9 1) (List.length x5) then
          bif inI x9 (List.length x5) then
            bif inI (subI .i64 x9 1) (List.length x5) then
              law24_BucketsCover_l8 F k0 n x5 (minI x7 (subI .i64 (getL 0 x5 x9) (getL 0 x5 (subI .i64 x9 1)))) (maxI x8 (subI .i64 (getL 0 x5 x9) (getL 0 x5 (subI .i64 x9 1)))) (addI .i64 x9 1)
            else
              none
          else
            none
        else
          none
      else
        none
    else
      k0 x7 x8
def law24_BucketsCover (F : Nat) (x0 : Int) (x1 : Int) : Option (Bool × Unit) :=
  (made_Mod F x0 1000).bind fun r1 =>
  let x12v2 := addI .i64 3 r1.1
  (made_Mod F x1 (subI .i64 x12v2 2)).bind fun r4 =>
  let x17v5 := addI .i64 3 r4.1
  (buckets_Bounds F x12v2 x17v5).bind fun r6 =>
  bif not r6.2.1 then
    some (false, ())
  else
    bif not (eqI (lenI r6.1) (subI .i64 x17v5 1)) then
      some (false, ())
    else
      bif inI 0 (List.length r6.1) then
        bif not (eqI (getL 0 r6.1 0) 1) then
          some (false, ())
        else
          bif inI (subI .i64 x17v5 2) (List.length r6.1) then
            bif not (eqI (getL 0 r6.1 (subI .i64 x17v5 2)) (subI .i64 x12v2 1)) then
              some (false, ())
            else
              law24_BucketsCover_l8 F
                (fun z30 z31 =>
                  (law24_known F).bind fun r32 =>
                  bif r32.1 then
                    bif leI 1 z30 then
                      some (leI z31 (addI .i64 z30 1), ())
                    else
                      some (false, ())
                  else
                    some (false, ()))
                F r6.1 x12v2 0 1
          else
            none
      else
        none
/- 62: (*tscodec/tscodecmade.Tape).Bool -/
def made_Tape_Bool (F : Nat) (x0 : ((List Int) × (Int × Unit))) (x1 : Int) : Option (((List Int) × (Int × Unit)) × Bool × Unit) :=
  (made_Tape_Next F x0 x1).bind fun r1 =>
  bif eqI x1 0 then
    none
  else
    some (r1.1, (eqI r1.2.1 (remI 1 x1), ()))
/- 63: (*tscodec/tscodecmade.Tape).Int -/
def made_Tape_Int (F : Nat) (x0 : ((List Int) × (Int × Unit))) : Option (((List Int) × (Int × Unit)) × Int × Unit) :=
  (made_Tape_Next F x0 8).bind fun r1 =>
  bif eqI r1.2.1 0 then
    (made_Tape_Word F r1.1).bind fun r3 =>
    some (r3.1, (IntKind.wrap .i64 r3.2.1, ()))
  else
    bif eqI r1.2.1 1 then
      (made_Tape_Next F r1.1 4).bind fun r6 =>
      some (r6.1, (subI .i64 9223372036854775807 r6.2.1, ()))
    else
      bif eqI r1.2.1 2 then
        (made_Tape_Next F r1.1 4).bind fun r9 =>
        some (r9.1, (addI .i64 (-9223372036854775808) r9.2.1, ()))
      else
        bif eqI r1.2.1 3 then
          (made_Tape_Word F r1.1).bind fun r12 =>
          (made_Tape_Next F r12.1 64).bind fun r13 =>
          let x26v14 := IntKind.wrap .u64 r13.2.1
          bif ltI x26v14 0 then
            none
          else
            some (r13.1, (IntKind.wrap .i64 (shrI .u64 r12.2.1 x26v14), ()))
        else
          (made_Tape_Next F r1.1 2000).bind fun r17 =>
          some (r17.1, (subI .i64 r17.2.1 1000, ()))
/- 35: tscodec/tscodecref02.Of -/
def ref02_Of (F : Nat) (x0 : Int) : Option ((Bool × ((List Int) × Unit)) × Unit) :=
  bif ltI x0 0 then
    some ((true, ([subI .u64 0 (IntKind.wrap .u64 x0), 0, 0, 0], ())), ())
  else
    some ((false, ([IntKind.wrap .u64 x0, 0, 0, 0], ())), ())
/- 74: tscodec/tscodecref02.trim -/
def ref02_trim_l1 (F : Nat) {R : Type} (k0 : (List Int) → Option R) : Nat → (List Int) → Option R
  | 0, _ => none
  | n + 1, x0 =>
    bif ltI 0 (lenI x0) then
      bif inI (subI .i64 (lenI x0) 1) (List.length x0) then
        bif eqI (getL 0 x0 (subI .i64 (lenI x0) 1)) 0 then
          bif cutB 0 (subI .i64 (lenI x0) 1) (List.length x0) then
            ref02_trim_l1 F k0 n (takeL x0 (subI .i64 (lenI x0) 1))
          else
            none
        else
          k0 x0
      else
        none
    else
      k0 x0
def ref02_trim (F : Nat) (x0 : (List Int)) : Option ((List Int) × Unit) :=
  ref02_trim_l1 F
    (fun z10 =>
      some (z10, ()))
    F x0
/- 74: tscodec/tscodecref02.trim -/
def ref02_trimc_l1 (F : Nat) {R : Type} (k0 : (List Int) → Option R) : Nat → (List Int) → Option R
  | 0, _ => none
  | n + 1, x0 =>
    bif ltI 0 (lenI x0) then
      bif inI (subI .i64 (lenI x0) 1) (List.length x0) then
        bif eqI (getL 0 x0 (subI .i64 (lenI x0) 1)) 0 then
          bif cutB 0 (subI .i64 (lenI x0) 1) (List.length x0) then
            ref02_trimc_l1 F k0 n (takeL x0 (subI .i64 (lenI x0) 1))
          else
            none
        else
          k0 x0
      else
        none
    else
      k0 x0
def ref02_trimc (F : Nat) (x0 : (List Int)) : Option ((List Int) × Unit) :=
  ref02_trimc_l1 F
    (fun z10 =>
      some (z10, ()))
    F x0
/- 61: tscodec/tscodecref02.of -/
def ref02_of (F : Nat) (x0 : (Bool × ((List Int) × Unit))) : Option ((List Int) × Unit) :=
  bif roomB (0 + (List.length x0.2.1)) 8 then
    (ref02_trim F ([] ++ x0.2.1)).bind fun r2 =>
    some (r2.1, ())
  else
    none
/- 75: tscodec/tscodecref02.wide -/
def ref02_wide_l6 (F : Nat) {R : Type} (k0 : (Bool × ((List Int) × Unit)) → (Bool × ((List Int) × Unit)) → Option R) : Nat → (List Int) → (Bool × ((List Int) × Unit)) → (Bool × ((List Int) × Unit)) → Int → Option R
  | 0, _, _, _, _ => none
  | n + 1, x1, x4, x6, x7 =>
    bif ltI x7 (lenI x1) then
      bif inI x7 (List.length x1) then
        bif inI x7 4 then
          ref02_wide_l6 F k0 n x1 x4 (x6.1, (setL x6.2.1 x7 (getL 0 x1 x7), x6.2.2)) (addI .i64 x7 1)
        else
          none
      else
        none
    else
      k0 x4 x6
def ref02_wide_j5 (F : Nat) {R : Type} (kret : (Bool × ((List Int) × Unit)) → Bool → Option R) (x1 : (List Int)) (x4 : (Bool × ((List Int) × Unit))) (x6 : (Bool × ((List Int) × Unit))) : Option R :=
    ref02_wide_l6 F
      (fun z10 z11 =>
        kret z11 true)
      F x1 x4 x6 0
def ref02_wide (F : Nat) (x0 : Bool) (x1 : (List Int)) : Option ((Bool × ((List Int) × Unit)) × Bool × Unit) :=
  (ref02_trim F x1).bind fun r1 =>
  bif ltI 4 (lenI r1.1) then
    some ((false, ([0, 0, 0, 0], ())), (false, ()))
  else
    bif x0 then
      ref02_wide_j5 F
        (fun z12 z13 =>
          some (z12, (z13, ())))
        r1.1 (false, ([0, 0, 0, 0], ())) (ltI 0 (lenI r1.1), ([0, 0, 0, 0], ()))
    else
      ref02_wide_j5 F
        (fun z14 z15 =>
          some (z14, (z15, ())))
        r1.1 (false, ([0, 0, 0, 0], ())) (false, ([0, 0, 0, 0], ()))
/- 64: tscodec/tscodecref02.Neg -/
def ref02_Neg (F : Nat) (x0 : (Bool × ((List Int) × Unit))) : Option ((Bool × ((List Int) × Unit)) × Unit) :=
  (ref02_of F x0).bind fun r2 =>
  (ref02_wide F (not x0.1) r2.1).bind fun r3 =>
  some (r3.1, ())
/- 41: (*tscodec/tscodecmade.Tape).Wide -/
def made_Tape_Wide_l3 (F : Nat) {R : Type} (k0 : ((List Int) × (Int × Unit)) → (Bool × ((List Int) × Unit)) → (Bool × ((List Int) × Unit)) → Option R) : Nat → ((List Int) × (Int × Unit)) → (Bool × ((List Int) × Unit)) → (Bool × ((List Int) × Unit)) → Int → Option R
  | 0, _, _, _, _ => none
  | n + 1, x0, x2, x3, x4 =>
    bif ltI 0 x4 then
      (made_Tape_Word F x0).bind fun r4 =>
      bif inI (subI .i64 x4 1) 4 then
        (made_Tape_Bool F r4.1 4).bind fun r5 =>
        bif r5.2.1 then
          (made_Tape_Next F r5.1 4).bind fun r7 =>
          bif inI r7.2.1 4 then
            bif inI (subI .i64 x4 1) 4 then
              made_Tape_Wide_l3 F k0 n r7.1 x2 (x3.1, (setL (setL x3.2.1 (subI .i64 x4 1) r4.2.1) (subI .i64 x4 1) (getL 0 [0, 1, 9223372036854775808, 18446744073709551615] r7.2.1), x3.2.2)) (subI .i64 x4 1)
            else
              none
          else
            none
        else
          made_Tape_Wide_l3 F k0 n r5.1 x2 (x3.1, (setL x3.2.1 (subI .i64 x4 1) r4.2.1, x3.2.2)) (subI .i64 x4 1)
      else
        none
    else
      k0 x0 x2 x3
def made_Tape_Wide_j10 (F : Nat) {R : Type} (kret : ((List Int) × (Int × Unit)) → (Bool × ((List Int) × Unit)) → Option R) (x0 : ((List Int) × (Int × Unit))) (x2 : (Bool × ((List Int) × Unit))) (x3 : (Bool × ((List Int) × Unit))) : Option R :=
    (made_Tape_Bool F x0 2).bind fun r17 =>
    bif r17.2.1 then
      (ref02_Neg F x3).bind fun r18 =>
      kret r17.1 r18.1
    else
      kret r17.1 x3
def made_Tape_Wide (F : Nat) (x0 : ((List Int) × (Int × Unit))) : Option (((List Int) × (Int × Unit)) × (Bool × ((List Int) × Unit)) × Unit) :=
  (made_Tape_Next F x0 5).bind fun r1 =>
  made_Tape_Wide_l3 F
    (fun z11 z12 z13 =>
      (made_Tape_Bool F z11 3).bind fun r14 =>
      bif r14.2.1 then
        (made_Tape_Int F r14.1).bind fun r15 =>
        (ref02_Of F r15.2.1).bind fun r16 =>
        made_Tape_Wide_j10 F
          (fun z19 z20 =>
            some (z19, (z20, ())))
          r15.1 z12 r16.1
      else
        made_Tape_Wide_j10 F
          (fun z21 z22 =>
            some (z21, (z22, ())))
          r14.1 z12 z13)
    F r1.1 (false, ([0, 0, 0, 0], ())) (false, ([0, 0, 0, 0], ())) r1.2.1
/- 66: slices.Clone[[]byte,byte] -/
def slices_Clone_byte (F : Nat) (x0 : (List Int)) : Option ((List Int) × Unit) :=
  bif roomB (0 + List.length x0) 1 then some (x0, ()) else none
/- 42: tscodec/varint.Append -/
def varint_Append_l2 (F : Nat) {R : Type} (k0 : Int → (List Int) → Option R) : Nat → Int → (List Int) → Option R
  | 0, _, _ => none
  | n + 1, x1, x5 =>
    bif leI 128 x1 then
      bif roomB ((List.length x5) + 1) 1 then
        varint_Append_l2 F k0 n (shrI .u64 x1 7) (x5 ++ [orI .u8 (IntKind.wrap .u8 x1) 128])
      else
        none
    else
      k0 x1 x5
def varint_Append (F : Nat) (x0 : (List Int)) (x1 : Int) : Option ((List Int) × Unit) :=
  (slices_Clone_byte F x0).bind fun r1 =>
  (slices_Grow_byte F r1.1 10).bind fun r2 =>
  varint_Append_l2 F
    (fun z8 z9 =>
      bif roomB ((List.length z9) + 1) 1 then
        some ((z9 ++ [IntKind.wrap .u8 z8]), ())
      else
        none)
    F x1 r2.1
/- 39: tscodec/varint.Zigzag -/
def varint_Zigzag (F : Nat) (x0 : Int) : Option (Int × Unit) :=
  some (xorI .u64 (shlI .u64 (IntKind.wrap .u64 x0) 1) (IntKind.wrap .u64 (shrI .i64 x0 63)), ())
/- 46: tscodec/varint.AppendSigned -/
def varint_AppendSigned (F : Nat) (x0 : (List Int)) (x1 : Int) : Option ((List Int) × Unit) :=
  (varint_Zigzag F x1).bind fun r1 =>
  (varint_Append F x0 r1.1).bind fun r2 =>
  some (r2.1, ())
/- 67: tscodec/wide.Valid -/
def wide_Valid (F : Nat) (x0 : (Bool × ((List Int) × Unit))) : Option (Bool × Unit) :=
  bif not x0.1 then
    some (true, ())
  else
    some (not (eqT (.arr 4 (.int .u64)) x0.2.1 [0, 0, 0, 0]), ())
/- 43: tscodec/varint.AppendWide -/
def varint_AppendWide_l5 (F : Nat) {R : Type} (k0 : (List Int) → (Bool × ((List Int) × Unit)) → (List Int) → Option R) : Nat → (List Int) → (Bool × ((List Int) × Unit)) → (List Int) → (List Int) → Int → Option R
  | 0, _, _, _, _, _ => none
  | n + 1, x0, x3, x5, x16, x17 =>
    bif ltI x17 4 then
      bif inI x17 4 then
        bif inI x17 5 then
          bif inI x17 5 then
            bif inI (addI .i64 x17 1) 5 then
              varint_AppendWide_l5 F k0 n x0 x3 (setL (setL x5 x17 (orI .u64 (getL 0 x5 x17) (shlI .u64 (getL 0 x16 x17) 1))) (addI .i64 x17 1) (shrI .u64 (getL 0 x16 x17) 63)) x16 (addI .i64 x17 1)
            else
              none
          else
            none
        else
          none
      else
        none
    else
      k0 x0 x3 x5
def varint_AppendWide_l15 (F : Nat) {R : Type} (k4 : (List Int) → (List Int) → Int → Option R) : Nat → (List Int) → (List Int) → Int → Int → Option R
  | 0, _, _, _, _ => none
  | n + 1, x5, x8, x9, x47 =>
    bif ltI x47 5 then
      bif inI x47 5 then
        bif inI x47 5 then
          bif ltI x47 4 then
            bif inI x47 5 then
              bif inI (addI .i64 x47 1) 5 then
                bif inI x47 5 then
                  varint_AppendWide_l15 F k4 n (setL (setL x5 x47 (shrI .u64 (getL 0 x5 x47) 7)) x47 (orI .u64 (getL 0 (setL x5 x47 (shrI .u64 (getL 0 x5 x47) 7)) x47) (shlI .u64 (getL 0 (setL x5 x47 (shrI .u64 (getL 0 x5 x47) 7)) (addI .i64 x47 1)) 57))) x8 x9 (addI .i64 x47 1)
                else
                  none
              else
                none
            else
              none
          else
            varint_AppendWide_l15 F k4 n (setL x5 x47 (shrI .u64 (getL 0 x5 x47) 7)) x8 x9 (addI .i64 x47 1)
        else
          none
      else
        none
    else
      k4 x5 x8 x9
def varint_AppendWide_l13 (F : Nat) {R : Type} (kret : (List Int) → Option R) : Nat → (List Int) → (List Int) → Option R
  | 0, _, _ => none
  | n + 1, x5, x8 =>
    varint_AppendWide_l15 F
      (fun z37 z38 z39 =>
        bif eqT (.arr 5 (.int .u64)) z37 [0, 0, 0, 0, 0] then
          bif roomB ((List.length z38) + 1) 1 then
            kret (z38 ++ [z39])
          else
            none
        else
          bif roomB ((List.length z38) + 1) 1 then
            varint_AppendWide_l13 F kret n z37 (z38 ++ [orI .u8 z39 128])
          else
            none)
      F x5 x8 (IntKind.wrap .u8 (remI (getL 0 x5 0) 128)) 0
def varint_AppendWide_j12 (F : Nat) {R : Type} (kret : (List Int) → Option R) (x0 : (List Int)) (x5 : (List Int)) : Option R :=
    (slices_Clone_byte F x0).bind fun r19 =>
    (slices_Grow_byte F r19.1 37).bind fun r20 =>
    varint_AppendWide_l13 F
      (fun z44 =>
        kret z44)
      F x5 r20.1
def varint_AppendWide_j3 (F : Nat) {R : Type} (kret : (List Int) → Option R) (x0 : (List Int)) (x3 : (Bool × ((List Int) × Unit))) : Option R :=
    varint_AppendWide_l5 F
      (fun z13 z14 z15 =>
        bif z14.1 then
          varint_AppendWide_j12 F
            (fun z45 =>
              kret z45)
            z13 (setL z15 0 (addI .u64 (getL 0 z15 0) 1))
        else
          varint_AppendWide_j12 F
            (fun z46 =>
              kret z46)
            z13 z15)
      F x0 x3 [0, 0, 0, 0, 0] x3.2.1 0
def varint_AppendWide (F : Nat) (x0 : (List Int)) (x1 : (Bool × ((List Int) × Unit))) : Option ((List Int) × Unit) :=
  (wide_Valid F x1).bind fun r1 =>
  bif not r1.1 then
    varint_AppendWide_j3 F
      (fun z47 =>
        some (z47, ()))
      x0 (false, ([0, 0, 0, 0], ()))
  else
    varint_AppendWide_j3 F
      (fun z48 =>
        some (z48, ()))
      x0 x1
/- 77: tscodec/varint.groups$1 -/
def varint_groups_1 (F : Nat) (x0 : Int) : Option (Bool × Unit) :=
  some (ltI x0 128, ())
/- 76: slices.IndexFunc[[]byte,byte] -/
def slices_IndexFunc_byte_l2 (F : Nat) {R : Type} (k0 : Option R) (kret : Int → Option R) : Nat → (List Int) → Int → Int → Option R
  | 0, _, _, _ => none
  | n + 1, x0, x7, x8 =>
    bif ltI x8 x7 then
      bif inI x8 (List.length x0) then
        (varint_groups_1 F (getL 0 x0 x8)).bind fun r4 =>
        bif r4.1 then
          kret x8
        else
          slices_IndexFunc_byte_l2 F k0 kret n x0 x7 (addI .i64 x8 1)
      else
        none
    else
      k0
def slices_IndexFunc_byte (F : Nat) (x0 : (List Int)) : Option (Int × Unit) :=
  slices_IndexFunc_byte_l2 F
    (
      some ((-1), ()))
    (fun z6 =>
      some (z6, ()))
    F x0 (lenI x0) 0
/- 68: tscodec/varint.groups -/
def varint_groups_j6 (F : Nat) {R : Type} (kn : (List Int) → Int → Option R) (kret : (List Int) → Int → Option R) (x0 : (List Int)) (x8 : Int) (x27 : Bool) : Option R :=
    bif x27 then
      kret [] 4
    else
      bif ltI x8 0 then
        kret [] 5
      else
        bif ltI 0 x8 then
          bif inI x8 (List.length x0) then
            bif eqI (getL 0 x0 x8) 0 then
              kret [] 5
            else
              kn x0 x8
          else
            none
        else
          kn x0 x8
def varint_groups (F : Nat) (x0 : (List Int)) (x1 : Int) (x2 : Int) : Option ((List Int) × Int × Unit) :=
  bif ltI x1 0 then
    some ([], (2, ()))
  else
    bif ltI (lenI x0) x1 then
      some ([], (2, ()))
    else
      bif cutB x1 (lenI x0) (List.length x0) then
        bif cutB 0 (minI (lenI (dropL x0 x1)) x2) (List.length (dropL x0 x1)) then
          (slices_IndexFunc_byte F (takeL (dropL x0 x1) (minI (lenI (dropL x0 x1)) x2))).bind fun r8 =>
          bif ltI r8.1 0 then
            varint_groups_j6 F
              (fun z16 z17 =>
                bif cutB 0 (addI .i64 z17 1) (List.length z16) then
                  some (takeL z16 (addI .i64 z17 1), (0, ()))
                else
                  none)
              (fun z20 z21 =>
                some (z20, (z21, ())))
              (dropL x0 x1) r8.1 (ltI (lenI (dropL x0 x1)) x2)
          else
            varint_groups_j6 F
              (fun z22 z23 =>
                bif cutB 0 (addI .i64 z23 1) (List.length z22) then
                  some (takeL z22 (addI .i64 z23 1), (0, ()))
                else
                  none)
              (fun z26 z27 =>
                some (z26, (z27, ())))
              (dropL x0 x1) r8.1 false
        else
          none
      else
        none
/- 44: tscodec/varint.Read -/
def varint_Read_l8 (F : Nat) {R : Type} (k0 : Int → (List Int) → Int → Option R) : Nat → Int → (List Int) → Int → (List Int) → Int → Int → Option R
  | 0, _, _, _, _, _, _ => none
  | n + 1, x1, x7, x9, x30, x31, x32 =>
    bif ltI x32 x31 then
      bif inI x32 (List.length x30) then
        bif ltI (mulI .i64 7 x32) 0 then
          none
        else
          varint_Read_l8 F k0 n x1 x7 (orI .u64 x9 (shlI .u64 (IntKind.wrap .u64 (remI (getL 0 x30 x32) 128)) (mulI .i64 7 x32))) x30 x31 (addI .i64 x32 1)
      else
        none
    else
      k0 x1 x7 x9
def varint_Read_j6 (F : Nat) {R : Type} (kret : Int → Int → Int → Option R) (x1 : Int) (x7 : (List Int)) : Option R :=
    varint_Read_l8 F
      (fun z16 z17 z18 =>
        kret z18 (addI .i64 z16 (lenI z17)) 0)
      F x1 x7 0 x7 (lenI x7) 0
def varint_Read (F : Nat) (x0 : (List Int)) (x1 : Int) : Option (Int × Int × Int × Unit) :=
  (varint_groups F x0 x1 10).bind fun r1 =>
  bif not (eqI r1.2.1 0) then
    some (0, (0, (r1.2.1, ())))
  else
    bif eqI (lenI r1.1) 10 then
      bif inI 9 (List.length r1.1) then
        bif ltI 1 (getL 0 r1.1 9) then
          some (0, (0, (5, ())))
        else
          varint_Read_j6 F
            (fun z21 z22 z23 =>
              some (z21, (z22, (z23, ()))))
            x1 r1.1
      else
        none
    else
      varint_Read_j6 F
        (fun z24 z25 z26 =>
          some (z24, (z25, (z26, ()))))
        x1 r1.1
/- 38: tscodec/varint.Unzigzag -/
def varint_Unzigzag (F : Nat) (x0 : Int) : Option (Int × Unit) :=
  some (xorI .i64 (IntKind.wrap .i64 (shrI .u64 x0 1)) (subI .i64 0 (IntKind.wrap .i64 (andI .u64 x0 1))), ())
/- 47: tscodec/varint.ReadSigned -/
def varint_ReadSigned (F : Nat) (x0 : (List Int)) (x1 : Int) : Option (Int × Int × Int × Unit) :=
  (varint_Read F x0 x1).bind fun r1 =>
  bif not (eqI r1.2.2.1 0) then
    some (0, (0, (r1.2.2.1, ())))
  else
    (varint_Unzigzag F r1.1).bind fun r3 =>
    some (r3.1, (r1.2.1, (0, ())))
/- 45: tscodec/varint.ReadWide -/
def varint_ReadWide_l9 (F : Nat) {R : Type} (k2 : Int → (Bool × ((List Int) × Unit)) → (List Int) → (List Int) → Int → Option R) : Nat → Int → (Bool × ((List Int) × Unit)) → (List Int) → (List Int) → Int → Int → Option R
  | 0, _, _, _, _, _, _ => none
  | n + 1, x1, x4, x7, x9, x10, x11 =>
    bif ltI 0 x11 then
      bif inI x11 5 then
        bif inI (subI .i64 x11 1) 5 then
          bif inI x11 5 then
            varint_ReadWide_l9 F k2 n x1 x4 x7 (setL x9 x11 (orI .u64 (shlI .u64 (getL 0 x9 x11) 7) (shrI .u64 (getL 0 x9 (subI .i64 x11 1)) 57))) x10 (subI .i64 x11 1)
          else
            none
        else
          none
      else
        none
    else
      k2 x1 x4 x7 x9 x10
def varint_ReadWide_l6 (F : Nat) {R : Type} (k0 : Int → (Bool × ((List Int) × Unit)) → (List Int) → (List Int) → Option R) : Nat → Int → (Bool × ((List Int) × Unit)) → (List Int) → (List Int) → Int → Option R
  | 0, _, _, _, _, _ => none
  | n + 1, x1, x4, x7, x9, x10 =>
    bif leI 0 x10 then
      varint_ReadWide_l9 F
        (fun z15 z16 z17 z18 z19 =>
          bif inI z19 (List.length z17) then
            varint_ReadWide_l6 F k0 n z15 z16 z17 (setL z18 0 (orI .u64 (shlI .u64 (getL 0 z18 0) 7) (IntKind.wrap .u64 (remI (getL 0 z17 z19) 128)))) (subI .i64 z19 1)
          else
            none)
        F x1 x4 x7 x9 x10 4
    else
      k0 x1 x4 x7 x9
def varint_ReadWide_l15 (F : Nat) {R : Type} (k4 : Int → (Bool × ((List Int) × Unit)) → (List Int) → (List Int) → (Bool × ((List Int) × Unit)) → Option R) : Nat → Int → (Bool × ((List Int) × Unit)) → (List Int) → (List Int) → (Bool × ((List Int) × Unit)) → Int → Option R
  | 0, _, _, _, _, _, _ => none
  | n + 1, x1, x4, x7, x9, x12, x63 =>
    bif ltI x63 4 then
      bif inI x63 5 then
        bif inI (addI .i64 x63 1) 5 then
          bif inI x63 4 then
            varint_ReadWide_l15 F k4 n x1 x4 x7 x9 (x12.1, (setL x12.2.1 x63 (orI .u64 (shrI .u64 (getL 0 x9 x63) 1) (shlI .u64 (getL 0 x9 (addI .i64 x63 1)) 63)), x12.2.2)) (addI .i64 x63 1)
          else
            none
        else
          none
      else
        none
    else
      k4 x1 x4 x7 x9 x12
def varint_ReadWide (F : Nat) (x0 : (List Int)) (x1 : Int) : Option ((Bool × ((List Int) × Unit)) × Int × Int × Unit) :=
  (varint_groups F x0 x1 37).bind fun r1 =>
  bif not (eqI r1.2.1 0) then
    some ((false, ([0, 0, 0, 0], ())), (0, (r1.2.1, ())))
  else
    varint_ReadWide_l6 F
      (fun z28 z29 z30 z31 =>
        varint_ReadWide_l15 F
          (fun z43 z44 z45 z46 z47 =>
            bif ltI 1 (getL 0 z46 4) then
              some ((false, ([0, 0, 0, 0], ())), (0, (5, ())))
            else
              (wide_Valid F z47).bind fun r50 =>
              bif not r50.1 then
                some ((false, ([0, 0, 0, 0], ())), (0, (5, ())))
              else
                some (z47, (addI .i64 z43 (lenI z45), (0, ()))))
          F z28 z29 z30 z31 (eqI (remI (getL 0 z31 0) 2) 1, ([0, 0, 0, 0], ())) 0)
      F x1 (false, ([0, 0, 0, 0], ())) r1.1 [0, 0, 0, 0, 0] (subI .i64 (lenI r1.1) 1)
/- 40: tscodec/varint.Size -/
def varint_Size (F : Nat) (x0 : Int) : Option (Int × Unit) :=
  (bits_Len64 F x0).bind fun r1 =>
  some (maxI (quoI .i64 (addI .i64 r1.1 6) 7) 1, ())
/- 37: tscodec/tscodeclaw05.known -/
def law05_known (F : Nat)  : Option (Bool × Unit) :=
  (varint_Append F [9] 300).bind fun r1 =>
  (varint_Read F r1.1 1).bind fun r2 =>
  bif eqI r2.2.2.1 0 then
    bif eqI r2.1 300 then
      bif eqI r2.2.1 3 then
        bif eqI (lenI r1.1) 3 then
          (varint_Zigzag F (-1)).bind fun r8 =>
          bif eqI r8.1 1 then
            (varint_Size F 128).bind fun r10 =>
            some (eqI r10.1 2, ())
          else
            some (false, ())
        else
          some (false, ())
      else
        some (false, ())
    else
      some (false, ())
  else
    some (false, ())
/- 11: tscodec/tscodeclaw05.VarintBack -/
def law05_VarintBack (F : Nat) (x0 : (List Int)) (x1 : (List Int)) (x2 : Int) (x3 : Int) (x4 : (List Int)) : Option (Bool × Unit) :=
  (made_New F x4).bind fun r1 =>
  (made_Tape_Wide F r1.1).bind fun r2 =>
  (varint_Append F x0 x2).bind fun r3 =>
  bif roomB ((List.length r3.1) + (List.length x1)) 1 then
    (varint_AppendSigned F x0 x3).bind fun r5 =>
    bif roomB ((List.length r5.1) + (List.length x1)) 1 then
      (varint_AppendWide F x0 r2.2.1).bind fun r7 =>
      bif roomB ((List.length r7.1) + (List.length x1)) 1 then
        (varint_Read F (r3.1 ++ x1) (lenI x0)).bind fun r10 =>
        (varint_ReadSigned F (r5.1 ++ x1) (lenI x0)).bind fun r12 =>
        (varint_ReadWide F (r7.1 ++ x1) (lenI x0)).bind fun r14 =>
        (law05_known F).bind fun r15 =>
        bif r15.1 then
          bif eqI r10.2.2.1 0 then
            bif eqI r12.2.2.1 0 then
              bif eqI r14.2.2.1 0 then
                bif eqI r10.1 x2 then
                  bif eqI r12.1 x3 then
                    bif eqT (.pair .bool (.pair (.arr 4 (.int .u64)) .unit)) r14.1 r2.2.1 then
                      bif eqI r10.2.1 (subI .i64 (lenI (r3.1 ++ x1)) (lenI x1)) then
                        bif eqI r12.2.1 (subI .i64 (lenI (r5.1 ++ x1)) (lenI x1)) then
                          bif eqI r14.2.1 (subI .i64 (lenI (r7.1 ++ x1)) (lenI x1)) then
                            (varint_Size F x2).bind fun r35 =>
                            some (eqI r10.2.1 (addI .i64 (lenI x0) r35.1), ())
                          else
                            some (false, ())
                        else
                          some (false, ())
                      else
                        some (false, ())
                    else
                      some (false, ())
                  else
                    some (false, ())
                else
                  some (false, ())
              else
                some (false, ())
            else
              some (false, ())
          else
            some (false, ())
        else
          some (false, ())
      else
        none
    else
      none
  else
    none
/- 49: tscodec/tscodecref05.Append -/
def ref05_Append_l2 (F : Nat) {R : Type} (k0 : Int → (List Int) → Option R) : Nat → Int → (List Int) → Option R
  | 0, _, _ => none
  | n + 1, x1, x5 =>
    bif leI 128 x1 then
      bif roomB ((List.length x5) + 1) 1 then
        ref05_Append_l2 F k0 n (quoI .u64 x1 128) (x5 ++ [addI .u8 (IntKind.wrap .u8 (remI x1 128)) 128])
      else
        none
    else
      k0 x1 x5
def ref05_Append (F : Nat) (x0 : (List Int)) (x1 : Int) : Option ((List Int) × Unit) :=
  bif roomB (0 + (List.length x0)) 1 then
    ref05_Append_l2 F
      (fun z8 z9 =>
        bif roomB ((List.length z9) + 1) 1 then
          some ((z9 ++ [IntKind.wrap .u8 z8]), ())
        else
          none)
      F x1 ([] ++ x0)
  else
    none
/- 84: tscodec/tscodecref02.Valid -/
def ref02_Valid (F : Nat) (x0 : (Bool × ((List Int) × Unit))) : Option (Bool × Unit) :=
  bif not x0.1 then
    some (true, ())
  else
    (ref02_of F x0).bind fun r2 =>
    some (ltI 0 (lenI r2.1), ())
/- 78: tscodec/tscodecref02.clean -/
def ref02_clean (F : Nat) (x0 : (Bool × ((List Int) × Unit))) : Option ((Bool × ((List Int) × Unit)) × Unit) :=
  (ref02_Valid F x0).bind fun r1 =>
  bif not r1.1 then
    some ((false, ([0, 0, 0, 0], ())), ())
  else
    some (x0, ())
/- 59: tscodec/tscodecref02.Sign -/
def ref02_Sign (F : Nat) (x0 : (Bool × ((List Int) × Unit))) : Option (Int × Unit) :=
  (ref02_of F x0).bind fun r1 =>
  bif eqI (lenI r1.1) 0 then
    some (0, ())
  else
    bif x0.1 then
      some ((-1), ())
    else
      some (1, ())
/- 94: math/bits.LeadingZeros64 -/
def bits_LeadingZeros64 (F : Nat) (x0 : Int) : Option (Int × Unit) :=
  (bits_Len64 F x0).bind fun r1 =>
  some (subI .i64 64 r1.1, ())
/- 85: math/bits.Div64 -/
def bits_Div64_l17 (F : Nat) {R : Type} (k0 : Int → Int → Int → Int → Int → Int → Int → Int → Option R) : Nat → Int → Int → Int → Int → Int → Int → Int → Int → Int → Option R
  | 0, _, _, _, _, _, _, _, _, _ => none
  | n + 1, x2, x8, x9, x10, x11, x13, x14, x15, x16 =>
    bif leI 4294967296 x15 then
      bif leI 4294967296 (addI .u64 x16 x9) then
        k0 x2 x8 x9 x10 x11 x13 x14 (subI .u64 x15 1)
      else
        bits_Div64_l17 F k0 n x2 x8 x9 x10 x11 x13 x14 (subI .u64 x15 1) (addI .u64 x16 x9)
    else
      bif ltI (addI .u64 (mulI .u64 4294967296 x16) x13) (mulI .u64 x15 x10) then
        bif leI 4294967296 (addI .u64 x16 x9) then
          k0 x2 x8 x9 x10 x11 x13 x14 (subI .u64 x15 1)
        else
          bits_Div64_l17 F k0 n x2 x8 x9 x10 x11 x13 x14 (subI .u64 x15 1) (addI .u64 x16 x9)
      else
        k0 x2 x8 x9 x10 x11 x13 x14 x15
def bits_Div64_l24 (F : Nat) {R : Type} (k2 : Int → Int → Int → Int → Int → Int → Option R) : Nat → Int → Int → Int → Int → Int → Int → Int → Int → Int → Option R
  | 0, _, _, _, _, _, _, _, _, _ => none
  | n + 1, x2, x8, x9, x10, x14, x15, x16, x17, x18 =>
    bif leI 4294967296 x18 then
      bif leI 4294967296 (addI .u64 x16 x9) then
        k2 x2 x8 x14 x15 x17 (subI .u64 x18 1)
      else
        bits_Div64_l24 F k2 n x2 x8 x9 x10 x14 x15 (addI .u64 x16 x9) x17 (subI .u64 x18 1)
    else
      bif ltI (addI .u64 (mulI .u64 4294967296 x16) x14) (mulI .u64 x18 x10) then
        bif leI 4294967296 (addI .u64 x16 x9) then
          k2 x2 x8 x14 x15 x17 (subI .u64 x18 1)
        else
          bits_Div64_l24 F k2 n x2 x8 x9 x10 x14 x15 (addI .u64 x16 x9) x17 (subI .u64 x18 1)
      else
        k2 x2 x8 x14 x15 x17 x18
def bits_Div64 (F : Nat) (x0 : Int) (x1 : Int) (x2 : Int) : Option (Int × Int × Unit) :=
  bif eqI x2 0 then
    none
  else
    bif leI x2 x0 then
      none
    else
      bif eqI x0 0 then
        bif eqI x2 0 then
          none
        else
          bif eqI x2 0 then
            none
          else
            some (quoI .u64 x1 x2, (remI x1 x2, ()))
      else
        (bits_LeadingZeros64 F x2).bind fun r6 =>
        bif ltI (IntKind.wrap .u64 r6.1) 0 then
          none
        else
          bif ltI (IntKind.wrap .u64 r6.1) 0 then
            none
          else
            bif ltI (subI .u64 64 (IntKind.wrap .u64 r6.1)) 0 then
              none
            else
              bif ltI (IntKind.wrap .u64 r6.1) 0 then
                none
              else
                bif eqI (shrI .u64 (shlI .u64 x2 (IntKind.wrap .u64 r6.1)) 32) 0 then
                  none
                else
                  bits_Div64_l17 F
                    (fun z32 z33 z34 z35 z36 z37 z38 z39 =>
                      bif eqI z34 0 then
                        none
                      else
                        bits_Div64_l24 F
                          (fun z58 z59 z60 z61 z62 z63 =>
                            bif ltI z59 0 then
                              none
                            else
                              some (addI .u64 (mulI .u64 z61 4294967296) z63, (shrI .u64 (subI .u64 (addI .u64 (mulI .u64 z62 4294967296) z60) (mulI .u64 z63 z58)) z59, ())))
                          F z32 z33 z34 z35 z38 z39 (subI .u64 (subI .u64 (addI .u64 (mulI .u64 z36 4294967296) z37) (mulI .u64 z39 z32)) (mulI .u64 (quoI .u64 (subI .u64 (addI .u64 (mulI .u64 z36 4294967296) z37) (mulI .u64 z39 z32)) z34) z34)) (subI .u64 (addI .u64 (mulI .u64 z36 4294967296) z37) (mulI .u64 z39 z32)) (quoI .u64 (subI .u64 (addI .u64 (mulI .u64 z36 4294967296) z37) (mulI .u64 z39 z32)) z34))
                    F (shlI .u64 x2 (IntKind.wrap .u64 r6.1)) (IntKind.wrap .u64 r6.1) (shrI .u64 (shlI .u64 x2 (IntKind.wrap .u64 r6.1)) 32) (andI .u64 (shlI .u64 x2 (IntKind.wrap .u64 r6.1)) 4294967295) (orI .u64 (shlI .u64 x0 (IntKind.wrap .u64 r6.1)) (shrI .u64 x1 (subI .u64 64 (IntKind.wrap .u64 r6.1)))) (shrI .u64 (shlI .u64 x1 (IntKind.wrap .u64 r6.1)) 32) (andI .u64 (shlI .u64 x1 (IntKind.wrap .u64 r6.1)) 4294967295) (quoI .u64 (orI .u64 (shlI .u64 x0 (IntKind.wrap .u64 r6.1)) (shrI .u64 x1 (subI .u64 64 (IntKind.wrap .u64 r6.1)))) (shrI .u64 (shlI .u64 x2 (IntKind.wrap .u64 r6.1)) 32)) (subI .u64 (orI .u64 (shlI .u64 x0 (IntKind.wrap .u64 r6.1)) (shrI .u64 x1 (subI .u64 64 (IntKind.wrap .u64 r6.1)))) (mulI .u64 (quoI .u64 (orI .u64 (shlI .u64 x0 (IntKind.wrap .u64 r6.1)) (shrI .u64 x1 (subI .u64 64 (IntKind.wrap .u64 r6.1)))) (shrI .u64 (shlI .u64 x2 (IntKind.wrap .u64 r6.1)) 32)) (shrI .u64 (shlI .u64 x2 (IntKind.wrap .u64 r6.1)) 32)))
/- 86: tscodec/tscodecref02.size -/
def ref02_size (F : Nat) (x0 : (List Int)) : Option (Int × Unit) :=
  bif eqI (lenI x0) 0 then
    some (0, ())
  else
    bif inI (subI .i64 (lenI x0) 1) (List.length x0) then
      (bits_Len64 F (getL 0 x0 (subI .i64 (lenI x0) 1))).bind fun r9 =>
      some (addI .i64 (mulI .i64 64 (subI .i64 (lenI x0) 1)) r9.1, ())
    else
      none
/- 87: tscodec/tscodecref02.up -/
def ref02_up_l3 (F : Nat) {R : Type} (k0 : (List Int) → Option R) : Nat → (List Int) → Int → (List Int) → Int → Option R
  | 0, _, _, _, _ => none
  | n + 1, x0, x1, x5, x6 =>
    bif ltI x6 (lenI x0) then
      bif inI (addI .i64 x6 (quoI .i64 x1 64)) (List.length x5) then
        bif inI x6 (List.length x0) then
          bif ltI (IntKind.wrap .u64 (remI x1 64)) 0 then
            none
          else
            bif inI (addI .i64 x6 (quoI .i64 x1 64)) (List.length x5) then
              bif ltI 0 (remI x1 64) then
                bif inI (addI .i64 (addI .i64 x6 (quoI .i64 x1 64)) 1) (List.length (setL x5 (addI .i64 x6 (quoI .i64 x1 64)) (orI .u64 (getL 0 x5 (addI .i64 x6 (quoI .i64 x1 64))) (shlI .u64 (getL 0 x0 x6) (IntKind.wrap .u64 (remI x1 64)))))) then
                  bif inI x6 (List.length x0) then
                    bif ltI (IntKind.wrap .u64 (subI .i64 64 (remI x1 64))) 0 then
                      none
                    else
                      bif inI (addI .i64 (addI .i64 x6 (quoI .i64 x1 64)) 1) (List.length (setL x5 (addI .i64 x6 (quoI .i64 x1 64)) (orI .u64 (getL 0 x5 (addI .i64 x6 (quoI .i64 x1 64))) (shlI .u64 (getL 0 x0 x6) (IntKind.wrap .u64 (remI x1 64)))))) then
                        ref02_up_l3 F k0 n x0 x1 (setL (setL x5 (addI .i64 x6 (quoI .i64 x1 64)) (orI .u64 (getL 0 x5 (addI .i64 x6 (quoI .i64 x1 64))) (shlI .u64 (getL 0 x0 x6) (IntKind.wrap .u64 (remI x1 64))))) (addI .i64 (addI .i64 x6 (quoI .i64 x1 64)) 1) (orI .u64 (getL 0 (setL x5 (addI .i64 x6 (quoI .i64 x1 64)) (orI .u64 (getL 0 x5 (addI .i64 x6 (quoI .i64 x1 64))) (shlI .u64 (getL 0 x0 x6) (IntKind.wrap .u64 (remI x1 64))))) (addI .i64 (addI .i64 x6 (quoI .i64 x1 64)) 1)) (shrI .u64 (getL 0 x0 x6) (IntKind.wrap .u64 (subI .i64 64 (remI x1 64)))))) (addI .i64 x6 1)
                      else
                        none
                  else
                    none
                else
                  none
              else
                ref02_up_l3 F k0 n x0 x1 (setL x5 (addI .i64 x6 (quoI .i64 x1 64)) (orI .u64 (getL 0 x5 (addI .i64 x6 (quoI .i64 x1 64))) (shlI .u64 (getL 0 x0 x6) (IntKind.wrap .u64 (remI x1 64))))) (addI .i64 x6 1)
            else
              none
        else
          none
      else
        none
    else
      k0 x5
def ref02_up (F : Nat) (x0 : (List Int)) (x1 : Int) : Option ((List Int) × Unit) :=
  bif makeB (addI .i64 (addI .i64 (lenI x0) (quoI .i64 x1 64)) 1) (addI .i64 (addI .i64 (lenI x0) (quoI .i64 x1 64)) 1) 8 then
    ref02_up_l3 F
      (fun z32 =>
        (ref02_trimc F z32).bind fun r33 =>
        some (r33.1, ()))
      F x0 x1 (replI (addI .i64 (addI .i64 (lenI x0) (quoI .i64 x1 64)) 1) (0 : Int)) 0
  else
    none
/- 60: tscodec/tscodecref02.compare -/
def ref02_compare_l6 (F : Nat) {R : Type} (k0 : Option R) (kret : Int → Option R) : Nat → (List Int) → (List Int) → Int → Option R
  | 0, _, _, _ => none
  | n + 1, x0, x1, x5 =>
    bif leI 0 x5 then
      bif inI x5 (List.length x0) then
        bif inI x5 (List.length x1) then
          bif ltI (getL 0 x0 x5) (getL 0 x1 x5) then
            kret (-1)
          else
            bif inI x5 (List.length x0) then
              bif inI x5 (List.length x1) then
                bif ltI (getL 0 x1 x5) (getL 0 x0 x5) then
                  kret 1
                else
                  ref02_compare_l6 F k0 kret n x0 x1 (subI .i64 x5 1)
              else
                none
            else
              none
        else
          none
      else
        none
    else
      k0
def ref02_compare (F : Nat) (x0 : (List Int)) (x1 : (List Int)) : Option (Int × Unit) :=
  bif not (eqI (lenI x0) (lenI x1)) then
    bif ltI (lenI x0) (lenI x1) then
      some ((-1), ())
    else
      some (1, ())
  else
    ref02_compare_l6 F
      (
        some (0, ()))
      (fun z17 =>
        some (z17, ()))
      F x0 x1 (subI .i64 (lenI x0) 1)
/- 81: tscodec/tscodecref02.sub -/
def ref02_sub_j9 (F : Nat) {R : Type} (kn : (List Int) → (List Int) → Int → Int → Option R) (x1 : (List Int)) (x5 : (List Int)) (x6 : Int) (x7 : Int) (x8 : Int) : Option R :=
    bif inI x7 (List.length x5) then
      (bits_Sub64 F (getL 0 x5 x7) x8 x6).bind fun r8 =>
      bif inI x7 (List.length x5) then
        kn x1 (setL x5 x7 r8.1) r8.2.1 x7
      else
        none
    else
      none
def ref02_sub_l4 (F : Nat) {R : Type} (k0 : (List Int) → Option R) : Nat → (List Int) → (List Int) → Int → Int → Option R
  | 0, _, _, _, _ => none
  | n + 1, x1, x5, x6, x7 =>
    bif ltI x7 (lenI x5) then
      bif ltI x7 (lenI x1) then
        bif inI x7 (List.length x1) then
          ref02_sub_j9 F
            (fun z10 z11 z12 z13 =>
              ref02_sub_l4 F k0 n z10 z11 z12 (addI .i64 z13 1))
            x1 x5 x6 x7 (getL 0 x1 x7)
        else
          none
      else
        ref02_sub_j9 F
          (fun z15 z16 z17 z18 =>
            ref02_sub_l4 F k0 n z15 z16 z17 (addI .i64 z18 1))
          x1 x5 x6 x7 0
    else
      k0 x5
def ref02_sub (F : Nat) (x0 : (List Int)) (x1 : (List Int)) : Option ((List Int) × Unit) :=
  bif roomB (0 + (List.length x0)) 8 then
    ref02_sub_l4 F
      (fun z20 =>
        (ref02_trim F z20).bind fun r21 =>
        some (r21.1, ()))
      F x1 ([] ++ x0) 0 0
  else
    none
/- 81: tscodec/tscodecref02.sub -/
def ref02_subw_j9 (F : Nat) {R : Type} (kn : (List Int) → (List Int) → Int → Int → Option R) (x1 : (List Int)) (x5 : (List Int)) (x6 : Int) (x7 : Int) (x8 : Int) : Option R :=
    bif inI x7 (List.length x5) then
      (bits_Sub64 F (getL 0 x5 x7) x8 x6).bind fun r8 =>
      bif inI x7 (List.length x5) then
        kn x1 (setL x5 x7 r8.1) r8.2.1 x7
      else
        none
    else
      none
def ref02_subw_l4 (F : Nat) {R : Type} (k0 : (List Int) → (List Int) → Option R) : Nat → (List Int) → (List Int) → Int → Int → Option R
  | 0, _, _, _, _ => none
  | n + 1, x1, x5, x6, x7 =>
    bif ltI x7 (lenI x5) then
      bif ltI x7 (lenI x1) then
        bif inI x7 (List.length x1) then
          ref02_subw_j9 F
            (fun z10 z11 z12 z13 =>
              ref02_subw_l4 F k0 n z10 z11 z12 (addI .i64 z13 1))
            x1 x5 x6 x7 (getL 0 x1 x7)
        else
          none
      else
        ref02_subw_j9 F
          (fun z15 z16 z17 z18 =>
            ref02_subw_l4 F k0 n z15 z16 z17 (addI .i64 z18 1))
          x1 x5 x6 x7 0
    else
      k0 x1 x5
def ref02_subw (F : Nat) (x0 : (List Int)) (x1 : (List Int)) : Option ((List Int) × (List Int) × Unit) :=
  bif roomB (0 + (List.length x0)) 8 then
    ref02_subw_l4 F
      (fun z20 z21 =>
        (ref02_trim F z21).bind fun r22 =>
        some (z20, (r22.1, ())))
      F x1 ([] ++ x0) 0 0
  else
    none
/- 88: tscodec/tscodecref02.half -/
def ref02_half_l2 (F : Nat) {R : Type} (k0 : (List Int) → Option R) : Nat → (List Int) → Int → Option R
  | 0, _, _ => none
  | n + 1, x0, x3 =>
    bif ltI x3 (lenI x0) then
      bif inI x3 (List.length x0) then
        bif inI x3 (List.length x0) then
          bif ltI (addI .i64 x3 1) (lenI (setL x0 x3 (shrI .u64 (getL 0 x0 x3) 1))) then
            bif inI x3 (List.length (setL x0 x3 (shrI .u64 (getL 0 x0 x3) 1))) then
              bif inI (addI .i64 x3 1) (List.length (setL x0 x3 (shrI .u64 (getL 0 x0 x3) 1))) then
                bif inI x3 (List.length (setL x0 x3 (shrI .u64 (getL 0 x0 x3) 1))) then
                  ref02_half_l2 F k0 n (setL (setL x0 x3 (shrI .u64 (getL 0 x0 x3) 1)) x3 (orI .u64 (getL 0 (setL x0 x3 (shrI .u64 (getL 0 x0 x3) 1)) x3) (shlI .u64 (getL 0 (setL x0 x3 (shrI .u64 (getL 0 x0 x3) 1)) (addI .i64 x3 1)) 63))) (addI .i64 x3 1)
                else
                  none
              else
                none
            else
              none
          else
            ref02_half_l2 F k0 n (setL x0 x3 (shrI .u64 (getL 0 x0 x3) 1)) (addI .i64 x3 1)
        else
          none
      else
        none
    else
      k0 x0
def ref02_half (F : Nat) (x0 : (List Int)) : Option ((List Int) × Unit) :=
  ref02_half_l2 F
    (fun z17 =>
      (ref02_trimc F z17).bind fun r18 =>
      some (r18.1, ()))
    F x0 0
/- 79: tscodec/tscodecref02.divmod -/
def ref02_divmod_l5 (F : Nat) {R : Type} (k0 : (List Int) → Int → Option R) : Nat → (List Int) → (List Int) → (List Int) → Int → Int → Option R
  | 0, _, _, _, _, _ => none
  | n + 1, x0, x1, x6, x7, x8 =>
    bif leI 0 x8 then
      bif inI x8 (List.length x0) then
        bif inI 0 (List.length x1) then
          (bits_Div64 F x7 (getL 0 x0 x8) (getL 0 x1 0)).bind fun r10 =>
          bif inI x8 (List.length x6) then
            ref02_divmod_l5 F k0 n x0 x1 (setL x6 x8 r10.1) r10.2.1 (subI .i64 x8 1)
          else
            none
        else
          none
      else
        none
    else
      k0 x6 x7
def ref02_divmod_l15 (F : Nat) {R : Type} (k2 : (List Int) → (List Int) → Option R) : Nat → (List Int) → (List Int) → (List Int) → Int → Option R
  | 0, _, _, _, _ => none
  | n + 1, x6, x9, x11, x12 =>
    bif leI 0 x12 then
      (ref02_compare F x9 x11).bind fun r25 =>
      bif leI 0 r25.1 then
        (ref02_subw F x9 x11).bind fun r27 =>
        bif inI (quoI .i64 x12 64) (List.length x6) then
          bif ltI (IntKind.wrap .u64 (remI x12 64)) 0 then
            none
          else
            bif inI (quoI .i64 x12 64) (List.length x6) then
              (ref02_half F r27.1).bind fun r35 =>
              ref02_divmod_l15 F k2 n (setL x6 (quoI .i64 x12 64) (orI .u64 (getL 0 x6 (quoI .i64 x12 64)) (shlI .u64 1 (IntKind.wrap .u64 (remI x12 64))))) r27.2.1 r35.1 (subI .i64 x12 1)
            else
              none
        else
          none
      else
        (ref02_half F x11).bind fun r37 =>
        ref02_divmod_l15 F k2 n x6 x9 r37.1 (subI .i64 x12 1)
    else
      k2 x6 x9
def ref02_divmod (F : Nat) (x0 : (List Int)) (x1 : (List Int)) : Option ((List Int) × (List Int) × Unit) :=
  bif makeB (lenI x0) (lenI x0) 8 then
    bif eqI (lenI x1) 1 then
      ref02_divmod_l5 F
        (fun z13 z14 =>
          (ref02_trim F z13).bind fun r15 =>
          (ref02_trim F [z14]).bind fun r16 =>
          some (r15.1, (r16.1, ())))
        F x0 x1 (replI (lenI x0) (0 : Int)) 0 (subI .i64 (lenI x0) 1)
    else
      bif roomB (0 + (List.length x0)) 8 then
        (ref02_trim F ([] ++ x0)).bind fun r18 =>
        (ref02_size F r18.1).bind fun r19 =>
        (ref02_size F x1).bind fun r20 =>
        let x54v21 := subI .i64 r19.1 r20.1
        bif ltI x54v21 0 then
          some ([], (r18.1, ()))
        else
          (ref02_up F x1 x54v21).bind fun r23 =>
          ref02_divmod_l15 F
            (fun z39 z40 =>
              (ref02_trim F z39).bind fun r41 =>
              some (r41.1, (z40, ())))
            F (replI (lenI x0) (0 : Int)) r18.1 r23.1 x54v21
      else
        none
  else
    none
/- 80: tscodec/tscodecref02.add -/
def ref02_add_j11 (F : Nat) {R : Type} (kn : (List Int) → (List Int) → Int → Int → Option R) (x1 : (List Int)) (x5 : (List Int)) (x6 : Int) (x7 : Int) (x8 : Int) : Option R :=
    bif inI x7 (List.length x5) then
      (bits_Add64 F (getL 0 x5 x7) x8 x6).bind fun r11 =>
      bif inI x7 (List.length x5) then
        kn x1 (setL x5 x7 r11.1) r11.2.1 x7
      else
        none
    else
      none
def ref02_add_l6 (F : Nat) {R : Type} (k0 : (List Int) → Int → Option R) : Nat → (List Int) → (List Int) → Int → Int → Option R
  | 0, _, _, _, _ => none
  | n + 1, x1, x5, x6, x7 =>
    bif ltI x7 (lenI x5) then
      bif ltI x7 (lenI x1) then
        bif inI x7 (List.length x1) then
          ref02_add_j11 F
            (fun z13 z14 z15 z16 =>
              ref02_add_l6 F k0 n z13 z14 z15 (addI .i64 z16 1))
            x1 x5 x6 x7 (getL 0 x1 x7)
        else
          none
      else
        ref02_add_j11 F
          (fun z18 z19 z20 z21 =>
            ref02_add_l6 F k0 n z18 z19 z20 (addI .i64 z21 1))
          x1 x5 x6 x7 0
    else
      k0 x5 x6
def ref02_add_j3 (F : Nat) {R : Type} (kret : (List Int) → Option R) (x0 : (List Int)) (x1 : (List Int)) : Option R :=
    bif roomB (0 + (List.length x0)) 8 then
      ref02_add_l6 F
        (fun z23 z24 =>
          bif roomB ((List.length z23) + 1) 8 then
            (ref02_trim F (z23 ++ [z24])).bind fun r26 =>
            kret r26.1
          else
            none)
        F x1 ([] ++ x0) 0 0
    else
      none
def ref02_add (F : Nat) (x0 : (List Int)) (x1 : (List Int)) : Option ((List Int) × Unit) :=
  bif ltI (lenI x0) (lenI x1) then
    ref02_add_j3 F
      (fun z27 =>
        some (z27, ()))
      x1 x0
  else
    ref02_add_j3 F
      (fun z28 =>
        some (z28, ()))
      x0 x1
/- 69: tscodec/tscodecref02.DivMod -/
def ref02_DivMod_j6 (F : Nat) {R : Type} (kn : (Bool × ((List Int) × Unit)) → (Bool × ((List Int) × Unit)) → (Bool × ((List Int) × Unit)) → (Bool × ((List Int) × Unit)) → (List Int) → (List Int) → Option R) (x2 : (Bool × ((List Int) × Unit))) (x3 : (Bool × ((List Int) × Unit))) (x4 : (Bool × ((List Int) × Unit))) (x5 : (Bool × ((List Int) × Unit))) (x7 : (List Int)) (x8 : (List Int)) (x32 : Bool) : Option R :=
    bif x32 then
      (ref02_add F x7 [1]).bind fun r10 =>
      (ref02_of F x3).bind fun r11 =>
      (ref02_sub F r11.1 x8).bind fun r12 =>
      kn x2 x3 x4 x5 r10.1 r12.1
    else
      kn x2 x3 x4 x5 x7 x8
def ref02_DivMod_j7 (F : Nat) {R : Type} (kret : (Bool × ((List Int) × Unit)) → (Bool × ((List Int) × Unit)) → Bool → Option R) (x2 : (Bool × ((List Int) × Unit))) (x3 : (Bool × ((List Int) × Unit))) (x4 : (Bool × ((List Int) × Unit))) (x5 : (Bool × ((List Int) × Unit))) (x7 : (List Int)) (x8 : (List Int)) : Option R :=
    (ref02_wide F (not (eqT .bool x2.1 x3.1)) x7).bind fun r20 =>
    bif not r20.2.1 then
      kret (false, ([0, 0, 0, 0], ())) (false, ([0, 0, 0, 0], ())) false
    else
      (ref02_wide F false x8).bind fun r22 =>
      kret r20.1 r22.1 true
def ref02_DivMod (F : Nat) (x0 : (Bool × ((List Int) × Unit))) (x1 : (Bool × ((List Int) × Unit))) : Option ((Bool × ((List Int) × Unit)) × (Bool × ((List Int) × Unit)) × Bool × Unit) :=
  (ref02_clean F x0).bind fun r1 =>
  (ref02_clean F x1).bind fun r2 =>
  (ref02_Sign F r2.1).bind fun r3 =>
  bif eqI r3.1 0 then
    some ((false, ([0, 0, 0, 0], ())), ((false, ([0, 0, 0, 0], ())), (false, ())))
  else
    (ref02_of F r1.1).bind fun r5 =>
    (ref02_of F r2.1).bind fun r6 =>
    (ref02_divmod F r5.1 r6.1).bind fun r7 =>
    bif r1.1.1 then
      ref02_DivMod_j6 F
        (fun z13 z14 z15 z16 z17 z18 =>
          ref02_DivMod_j7 F
            (fun z23 z24 z25 =>
              some (z23, (z24, (z25, ()))))
            z13 z14 z15 z16 z17 z18)
        r1.1 r2.1 (false, ([0, 0, 0, 0], ())) (false, ([0, 0, 0, 0], ())) r7.1 r7.2.1 (ltI 0 (lenI r7.2.1))
    else
      ref02_DivMod_j6 F
        (fun z26 z27 z28 z29 z30 z31 =>
          ref02_DivMod_j7 F
            (fun z32 z33 z34 =>
              some (z32, (z33, (z34, ()))))
            z26 z27 z28 z29 z30 z31)
        r1.1 r2.1 (false, ([0, 0, 0, 0], ())) (false, ([0, 0, 0, 0], ())) r7.1 r7.2.1 false
/- 70: tscodec/tscodecref02.Unsigned -/
def ref02_Unsigned (F : Nat) (x0 : (Bool × ((List Int) × Unit))) : Option (Int × Bool × Unit) :=
  (ref02_clean F x0).bind fun r1 =>
  (ref02_of F r1.1).bind fun r2 =>
  bif r1.1.1 then
    some (0, (false, ()))
  else
    bif ltI 1 (lenI r2.1) then
      some (0, (false, ()))
    else
      some (getL 0 r1.1.2.1 0, (true, ()))
/- 54: tscodec/tscodecref05.AppendWide -/
def ref05_AppendWide_l9 (F : Nat) {R : Type} (k0 : (List Int) → Int → Option R) : Nat → (List Int) → (Bool × ((List Int) × Unit)) → (Bool × ((List Int) × Unit)) → Int → Option R
  | 0, _, _, _, _ => none
  | n + 1, x5, x7, x8, x12 =>
    (ref02_Sign F x7).bind fun r10 =>
    bif not (eqI r10.1 0) then
      bif roomB ((List.length x5) + 1) 1 then
        (ref02_Of F 128).bind fun r14 =>
        (ref02_DivMod F x7 r14.1).bind fun r15 =>
        (ref02_Unsigned F r15.2.1).bind fun r16 =>
        ref05_AppendWide_l9 F k0 n (x5 ++ [addI .u8 x12 128]) r15.1 r15.2.1 (IntKind.wrap .u8 r16.1)
      else
        none
    else
      k0 x5 x12
def ref05_AppendWide_j9 (F : Nat) {R : Type} (kret : (List Int) → Option R) (x5 : (List Int)) (x7 : (Bool × ((List Int) × Unit))) (x8 : (Bool × ((List Int) × Unit))) (x12 : Int) : Option R :=
    ref05_AppendWide_l9 F
      (fun z18 z19 =>
        bif roomB ((List.length z18) + 1) 1 then
          kret (z18 ++ [z19])
        else
          none)
      F x5 x7 x8 x12
def ref05_AppendWide (F : Nat) (x0 : (List Int)) (x1 : (Bool × ((List Int) × Unit))) : Option ((List Int) × Unit) :=
  bif roomB (0 + (List.length x0)) 1 then
    (ref02_Of F 64).bind fun r2 =>
    (ref02_DivMod F (false, x1.2) r2.1).bind fun r3 =>
    (ref02_Unsigned F r3.2.1).bind fun r4 =>
    let x32v5 := mulI .u64 2 r4.1
    (ref02_Sign F x1).bind fun r7 =>
    bif ltI r7.1 0 then
      ref05_AppendWide_j9 F
        (fun z21 =>
          some (z21, ()))
        ([] ++ x0) r3.1 r3.2.1 (addI .u8 (IntKind.wrap .u8 x32v5) 1)
    else
      ref05_AppendWide_j9 F
        (fun z22 =>
          some (z22, ()))
        ([] ++ x0) r3.1 r3.2.1 (IntKind.wrap .u8 x32v5)
  else
    none
/- 82: tscodec/tscodecref05.groups -/
def ref05_groups_l4 (F : Nat) {R : Type} (k0 : Int → Int → Option R) (kret : (List Int) → Int → Option R) : Nat → (List Int) → Int → Int → Int → Option R
  | 0, _, _, _, _ => none
  | n + 1, x0, x1, x2, x8 =>
    bif ltI (addI .i64 x1 x8) (lenI x0) then
      bif ltI x8 x2 then
        bif inI (subI .i64 (addI .i64 x1 (addI .i64 x8 1)) 1) (List.length x0) then
          bif ltI (getL 0 x0 (subI .i64 (addI .i64 x1 (addI .i64 x8 1)) 1)) 128 then
            bif cutB x1 (addI .i64 x1 (addI .i64 x8 1)) (List.length x0) then
              kret (dropL (takeL x0 (addI .i64 x1 (addI .i64 x8 1))) x1) 0
            else
              none
          else
            ref05_groups_l4 F k0 kret n x0 x1 x2 (addI .i64 x8 1)
        else
          none
      else
        k0 x2 x8
    else
      k0 x2 x8
def ref05_groups (F : Nat) (x0 : (List Int)) (x1 : Int) (x2 : Int) : Option ((List Int) × Int × Unit) :=
  bif ltI x1 0 then
    some ([], (2, ()))
  else
    bif ltI (lenI x0) x1 then
      some ([], (2, ()))
    else
      ref05_groups_l4 F
        (fun z15 z16 =>
          bif eqI z16 z15 then
            some ([], (5, ()))
          else
            some ([], (4, ())))
        (fun z18 z19 =>
          some (z18, (z19, ())))
        F x0 x1 x2 0
/- 71: tscodec/tscodecref05.Read -/
def ref05_Read_l9 (F : Nat) {R : Type} (k0 : Int → (List Int) → Int → Option R) : Nat → Int → (List Int) → Int → Int → Option R
  | 0, _, _, _, _ => none
  | n + 1, x1, x7, x10, x11 =>
    bif leI 0 x11 then
      bif inI x11 (List.length x7) then
        ref05_Read_l9 F k0 n x1 x7 (addI .u64 (mulI .u64 x10 128) (IntKind.wrap .u64 (remI (getL 0 x7 x11) 128))) (subI .i64 x11 1)
      else
        none
    else
      k0 x1 x7 x10
def ref05_Read_j7 (F : Nat) {R : Type} (kret : Int → Int → Int → Option R) (x1 : Int) (x7 : (List Int)) : Option R :=
    ref05_Read_l9 F
      (fun z21 z22 z23 =>
        kret z23 (addI .i64 z21 (lenI z22)) 0)
      F x1 x7 0 (subI .i64 (lenI x7) 1)
def ref05_Read (F : Nat) (x0 : (List Int)) (x1 : Int) : Option (Int × Int × Int × Unit) :=
  (ref05_groups F x0 x1 10).bind fun r1 =>
  bif not (eqI r1.2.1 0) then
    some (0, (0, (r1.2.1, ())))
  else
    bif inI (subI .i64 (lenI r1.1) 1) (List.length r1.1) then
      let x26v5 := getL 0 r1.1 (subI .i64 (lenI r1.1) 1)
      bif eqI x26v5 0 then
        bif ltI 1 (lenI r1.1) then
          some (0, (0, (5, ())))
        else
          bif eqI (lenI r1.1) 10 then
            bif ltI 1 x26v5 then
              some (0, (0, (5, ())))
            else
              ref05_Read_j7 F
                (fun z26 z27 z28 =>
                  some (z26, (z27, (z28, ()))))
                x1 r1.1
          else
            ref05_Read_j7 F
              (fun z29 z30 z31 =>
                some (z29, (z30, (z31, ()))))
              x1 r1.1
      else
        bif eqI (lenI r1.1) 10 then
          bif ltI 1 x26v5 then
            some (0, (0, (5, ())))
          else
            ref05_Read_j7 F
              (fun z35 z36 z37 =>
                some (z35, (z36, (z37, ()))))
              x1 r1.1
        else
          ref05_Read_j7 F
            (fun z38 z39 z40 =>
              some (z38, (z39, (z40, ()))))
            x1 r1.1
    else
      none
/- 51: tscodec/tscodecref05.Unzigzag -/
def ref05_Unzigzag (F : Nat) (x0 : Int) : Option (Int × Unit) :=
  bif eqI (remI x0 2) 0 then
    some (IntKind.wrap .i64 (quoI .u64 x0 2), ())
  else
    some (subI .i64 (subI .i64 0 (IntKind.wrap .i64 (quoI .u64 x0 2))) 1, ())
/- 72: tscodec/tscodecref05.ReadSigned -/
def ref05_ReadSigned (F : Nat) (x0 : (List Int)) (x1 : Int) : Option (Int × Int × Int × Unit) :=
  (ref05_Read F x0 x1).bind fun r1 =>
  bif not (eqI r1.2.2.1 0) then
    some (0, (0, (r1.2.2.1, ())))
  else
    (ref05_Unzigzag F r1.1).bind fun r3 =>
    some (r3.1, (r1.2.1, (0, ())))
/- 96: math/bits.Mul64 -/
def bits_Mul64 (F : Nat) (x0 : Int) (x1 : Int) : Option (Int × Int × Unit) :=
  some (addI .u64 (addI .u64 (mulI .u64 (shrI .u64 x0 32) (shrI .u64 x1 32)) (shrI .u64 (addI .u64 (mulI .u64 (shrI .u64 x0 32) (andI .u64 x1 4294967295)) (shrI .u64 (mulI .u64 (andI .u64 x0 4294967295) (andI .u64 x1 4294967295)) 32)) 32)) (shrI .u64 (addI .u64 (andI .u64 (addI .u64 (mulI .u64 (shrI .u64 x0 32) (andI .u64 x1 4294967295)) (shrI .u64 (mulI .u64 (andI .u64 x0 4294967295) (andI .u64 x1 4294967295)) 32)) 4294967295) (mulI .u64 (andI .u64 x0 4294967295) (shrI .u64 x1 32))) 32), (mulI .u64 x0 x1, ()))
/- 95: tscodec/tscodecref02.mul -/
def ref02_mul_l7 (F : Nat) {R : Type} (k2 : (List Int) → (List Int) → (List Int) → Int → Int → Option R) : Nat → (List Int) → (List Int) → (List Int) → Int → Int → Int → Option R
  | 0, _, _, _, _, _, _ => none
  | n + 1, x0, x1, x5, x6, x7, x8 =>
    bif ltI x8 (lenI x1) then
      bif inI x6 (List.length x0) then
        bif inI x8 (List.length x1) then
          (bits_Mul64 F (getL 0 x0 x6) (getL 0 x1 x8)).bind fun r12 =>
          bif inI (addI .i64 x6 x8) (List.length x5) then
            (bits_Add64 F r12.2.1 (getL 0 x5 (addI .i64 x6 x8)) 0).bind fun r15 =>
            (bits_Add64 F r15.1 x7 0).bind fun r17 =>
            bif inI (addI .i64 x6 x8) (List.length x5) then
              ref02_mul_l7 F k2 n x0 x1 (setL x5 (addI .i64 x6 x8) r17.1) x6 (addI .u64 (addI .u64 r12.1 r15.2.1) r17.2.1) (addI .i64 x8 1)
            else
              none
          else
            none
        else
          none
      else
        none
    else
      k2 x0 x1 x5 x6 x7
def ref02_mul_l3 (F : Nat) {R : Type} (k0 : (List Int) → Option R) : Nat → (List Int) → (List Int) → (List Int) → Int → Option R
  | 0, _, _, _, _ => none
  | n + 1, x0, x1, x5, x6 =>
    bif ltI x6 (lenI x0) then
      ref02_mul_l7 F
        (fun z22 z23 z24 z25 z26 =>
          bif inI (addI .i64 z25 (lenI z23)) (List.length z24) then
            ref02_mul_l3 F k0 n z22 z23 (setL z24 (addI .i64 z25 (lenI z23)) z26) (addI .i64 z25 1)
          else
            none)
        F x0 x1 x5 x6 0 0
    else
      k0 x5
def ref02_mul (F : Nat) (x0 : (List Int)) (x1 : (List Int)) : Option ((List Int) × Unit) :=
  bif makeB (addI .i64 (addI .i64 (lenI x0) (lenI x1)) 1) (addI .i64 (addI .i64 (lenI x0) (lenI x1)) 1) 8 then
    ref02_mul_l3 F
      (fun z31 =>
        (ref02_trim F z31).bind fun r32 =>
        some (r32.1, ()))
      F x0 x1 (replI (addI .i64 (addI .i64 (lenI x0) (lenI x1)) 1) (0 : Int)) 0
  else
    none
/- 91: tscodec/tscodecref02.Mul -/
def ref02_Mul (F : Nat) (x0 : (Bool × ((List Int) × Unit))) (x1 : (Bool × ((List Int) × Unit))) : Option ((Bool × ((List Int) × Unit)) × Bool × Unit) :=
  (ref02_clean F x0).bind fun r1 =>
  (ref02_clean F x1).bind fun r2 =>
  (ref02_of F r1.1).bind fun r4 =>
  (ref02_of F r2.1).bind fun r5 =>
  (ref02_mul F r4.1 r5.1).bind fun r6 =>
  (ref02_wide F (not (eqT .bool r1.1.1 r2.1.1)) r6.1).bind fun r7 =>
  some (r7.1, (r7.2.1, ()))
/- 93: tscodec/tscodecref02.OfUnsigned -/
def ref02_OfUnsigned (F : Nat) (x0 : Int) : Option ((Bool × ((List Int) × Unit)) × Unit) :=
  some ((false, ([x0, 0, 0, 0], ())), ())
/- 92: tscodec/tscodecref02.Add -/
def ref02_Add (F : Nat) (x0 : (Bool × ((List Int) × Unit))) (x1 : (Bool × ((List Int) × Unit))) : Option ((Bool × ((List Int) × Unit)) × Bool × Unit) :=
  (ref02_clean F x0).bind fun r1 =>
  (ref02_clean F x1).bind fun r2 =>
  (ref02_of F r1.1).bind fun r3 =>
  (ref02_of F r2.1).bind fun r4 =>
  bif eqT .bool r1.1.1 r2.1.1 then
    (ref02_add F r3.1 r4.1).bind fun r6 =>
    (ref02_wide F r1.1.1 r6.1).bind fun r7 =>
    some (r7.1, (r7.2.1, ()))
  else
    (ref02_compare F r3.1 r4.1).bind fun r8 =>
    bif leI 0 r8.1 then
      (ref02_sub F r3.1 r4.1).bind fun r10 =>
      (ref02_wide F r1.1.1 r10.1).bind fun r11 =>
      some (r11.1, (r11.2.1, ()))
    else
      (ref02_sub F r4.1 r3.1).bind fun r12 =>
      (ref02_wide F r2.1.1 r12.1).bind fun r13 =>
      some (r13.1, (r13.2.1, ()))
/- 83: tscodec/tscodecref05.shifted -/
def ref05_shifted (F : Nat) (x0 : (Bool × ((List Int) × Unit))) (x1 : Int) (x2 : Int) : Option ((Bool × ((List Int) × Unit)) × Bool × Unit) :=
  (ref02_Of F x1).bind fun r1 =>
  (ref02_Mul F x0 r1.1).bind fun r2 =>
  bif not r2.2.1 then
    some ((false, ([0, 0, 0, 0], ())), (false, ()))
  else
    (ref02_OfUnsigned F x2).bind fun r4 =>
    (ref02_Add F r2.1 r4.1).bind fun r5 =>
    some (r5.1, (r5.2.1, ()))
/- 73: tscodec/tscodecref05.ReadWide -/
def ref05_ReadWide_l10 (F : Nat) {R : Type} (k0 : Int → (Bool × ((List Int) × Unit)) → (List Int) → (Bool × ((List Int) × Unit)) → Bool → Option R) : Nat → Int → (Bool × ((List Int) × Unit)) → (List Int) → (Bool × ((List Int) × Unit)) → Bool → Int → Option R
  | 0, _, _, _, _, _, _ => none
  | n + 1, x1, x4, x7, x10, x11, x12 =>
    bif leI 1 x12 then
      bif x11 then
        bif inI x12 (List.length x7) then
          (ref05_shifted F x10 128 (IntKind.wrap .u64 (remI (getL 0 x7 x12) 128))).bind fun r18 =>
          ref05_ReadWide_l10 F k0 n x1 x4 x7 r18.1 r18.2.1 (subI .i64 x12 1)
        else
          none
      else
        k0 x1 x4 x7 x10 x11
    else
      k0 x1 x4 x7 x10 x11
def ref05_ReadWide_j15 (F : Nat) {R : Type} (kret : (Bool × ((List Int) × Unit)) → Int → Int → Option R) (x1 : Int) (x4 : (Bool × ((List Int) × Unit))) (x7 : (List Int)) (x10 : (Bool × ((List Int) × Unit))) (x11 : Bool) : Option R :=
    bif not x11 then
      kret (false, ([0, 0, 0, 0], ())) 0 5
    else
      bif inI 0 (List.length x7) then
        bif eqI (remI (getL 0 x7 0) 2) 1 then
          (ref02_Neg F x10).bind fun r34 =>
          kret r34.1 (addI .i64 x1 (lenI x7)) 0
        else
          kret x10 (addI .i64 x1 (lenI x7)) 0
      else
        none
def ref05_ReadWide_j7 (F : Nat) {R : Type} (kret : (Bool × ((List Int) × Unit)) → Int → Int → Option R) (x1 : Int) (x4 : (Bool × ((List Int) × Unit))) (x7 : (List Int)) : Option R :=
    ref05_ReadWide_l10 F
      (fun z20 z21 z22 z23 z24 =>
        bif z24 then
          bif inI 0 (List.length z22) then
            (ref05_shifted F z23 64 (IntKind.wrap .u64 (quoI .u8 (remI (getL 0 z22 0) 128) 2))).bind fun r29 =>
            ref05_ReadWide_j15 F
              (fun z39 z40 z41 =>
                kret z39 z40 z41)
              z20 z21 z22 r29.1 r29.2.1
          else
            none
        else
          ref05_ReadWide_j15 F
            (fun z42 z43 z44 =>
              kret z42 z43 z44)
            z20 z21 z22 z23 z24)
      F x1 x4 x7 (false, ([0, 0, 0, 0], ())) true (subI .i64 (lenI x7) 1)
def ref05_ReadWide (F : Nat) (x0 : (List Int)) (x1 : Int) : Option ((Bool × ((List Int) × Unit)) × Int × Int × Unit) :=
  (ref05_groups F x0 x1 37).bind fun r1 =>
  bif not (eqI r1.2.1 0) then
    some ((false, ([0, 0, 0, 0], ())), (0, (r1.2.1, ())))
  else
    bif inI (subI .i64 (lenI r1.1) 1) (List.length r1.1) then
      let x28v5 := getL 0 r1.1 (subI .i64 (lenI r1.1) 1)
      bif eqI x28v5 0 then
        bif ltI 1 (lenI r1.1) then
          some ((false, ([0, 0, 0, 0], ())), (0, (5, ())))
        else
          bif eqI (lenI r1.1) 1 then
            bif eqI x28v5 1 then
              some ((false, ([0, 0, 0, 0], ())), (0, (5, ())))
            else
              ref05_ReadWide_j7 F
                (fun z45 z46 z47 =>
                  some (z45, (z46, (z47, ()))))
                x1 (false, ([0, 0, 0, 0], ())) r1.1
          else
            ref05_ReadWide_j7 F
              (fun z48 z49 z50 =>
                some (z48, (z49, (z50, ()))))
              x1 (false, ([0, 0, 0, 0], ())) r1.1
      else
        bif eqI (lenI r1.1) 1 then
          bif eqI x28v5 1 then
            some ((false, ([0, 0, 0, 0], ())), (0, (5, ())))
          else
            ref05_ReadWide_j7 F
              (fun z54 z55 z56 =>
                some (z54, (z55, (z56, ()))))
              x1 (false, ([0, 0, 0, 0], ())) r1.1
        else
          ref05_ReadWide_j7 F
            (fun z57 z58 z59 =>
              some (z57, (z58, (z59, ()))))
            x1 (false, ([0, 0, 0, 0], ())) r1.1
    else
      none
/- 55: tscodec/tscodeclaw05.reads -/
def law05_reads (F : Nat) (x0 : (List Int)) (x1 : Int) : Option (Bool × Unit) :=
  (varint_Read F x0 x1).bind fun r1 =>
  (ref05_Read F x0 x1).bind fun r2 =>
  (varint_ReadSigned F x0 x1).bind fun r3 =>
  (ref05_ReadSigned F x0 x1).bind fun r4 =>
  (varint_ReadWide F x0 x1).bind fun r5 =>
  (ref05_ReadWide F x0 x1).bind fun r6 =>
  bif eqI r1.1 r2.1 then
    bif eqI r1.2.1 r2.2.1 then
      bif eqI r1.2.2.1 r2.2.2.1 then
        bif eqI r3.1 r4.1 then
          bif eqI r3.2.1 r4.2.1 then
            bif eqI r3.2.2.1 r4.2.2.1 then
              bif eqT (.pair .bool (.pair (.arr 4 (.int .u64)) .unit)) r5.1 r6.1 then
                bif eqI r5.2.1 r6.2.1 then
                  some (eqI r5.2.2.1 r6.2.2.1, ())
                else
                  some (false, ())
              else
                some (false, ())
            else
              some (false, ())
          else
            some (false, ())
        else
          some (false, ())
      else
        some (false, ())
    else
      some (false, ())
  else
    some (false, ())
/- 13: tscodec/tscodeclaw05.VarintReads -/
def law05_VarintReads_l5 (F : Nat) {R : Type} (k0 : (List Int) → Int → Int → ((List Int) × (Int × Unit)) → (List Int) → (List Int) → Option R) : Nat → (List Int) → Int → Int → ((List Int) × (Int × Unit)) → (List Int) → (List Int) → Int → Option R
  | 0, _, _, _, _, _, _, _ => none
  | n + 1, x0, x1, x3, x11, x12, x13, x14 =>
    bif ltI 0 x14 then
      bif roomB ((List.length x13) + 1) 1 then
        law05_VarintReads_l5 F k0 n x0 x1 x3 x11 x12 (x13 ++ [addI .u8 128 (remI x3 128)]) (subI .i64 x14 1)
      else
        none
    else
      k0 x0 x1 x3 x11 x12 x13
def law05_VarintReads (F : Nat) (x0 : (List Int)) (x1 : Int) (x2 : (List Int)) (x3 : Int) (x4 : Int) : Option (Bool × Unit) :=
  (made_New F x2).bind fun r1 =>
  (made_Tape_Word F r1.1).bind fun r2 =>
  (ref05_Append F [] r2.2.1).bind fun r3 =>
  (made_Tape_Wide F r2.1).bind fun r4 =>
  (ref05_AppendWide F r3.1 r4.2.1).bind fun r5 =>
  bif makeB 0 60 1 then
    bif roomB ((List.length (replI 0 (0 : Int))) + (List.length x0)) 1 then
      (made_Mod F x4 40).bind fun r8 =>
      law05_VarintReads_l5 F
        (fun z14 z15 z16 z17 z18 z19 =>
          bif roomB ((List.length z19) + 1) 1 then
            (made_Tape_Spoiled F z17 z18).bind fun r22 =>
            (law05_known F).bind fun r23 =>
            bif r23.1 then
              (law05_reads F z14 z15).bind fun r24 =>
              bif r24.1 then
                (law05_reads F z14 0).bind fun r25 =>
                bif r25.1 then
                  (law05_reads F z18 0).bind fun r26 =>
                  bif r26.1 then
                    (made_Tape_Next F r22.1 (addI .i64 (lenI z18) 1)).bind fun r29 =>
                    (law05_reads F z18 r29.2.1).bind fun r30 =>
                    bif r30.1 then
                      (law05_reads F r22.2.1 0).bind fun r31 =>
                      bif r31.1 then
                        (made_Tape_Next F r29.1 (addI .i64 (lenI r22.2.1) 2)).bind fun r34 =>
                        (law05_reads F r22.2.1 (subI .i64 r34.2.1 1)).bind fun r36 =>
                        bif r36.1 then
                          (law05_reads F (z19 ++ [quoI .u8 z16 16]) (lenI z14)).bind fun r38 =>
                          bif r38.1 then
                            (law05_reads F (z19 ++ [quoI .u8 z16 16]) 0).bind fun r39 =>
                            some (r39.1, ())
                          else
                            some (false, ())
                        else
                          some (false, ())
                      else
                        some (false, ())
                    else
                      some (false, ())
                  else
                    some (false, ())
                else
                  some (false, ())
              else
                some (false, ())
            else
              some (false, ())
          else
            none)
        F x0 x1 x3 r4.1 r5.1 ((replI 0 (0 : Int)) ++ x0) r8.1
    else
      none
  else
    none
/- 8: tscodec/tscodeclaw08.BitpackCanonical -/
def law08_BitpackCanonical (F : Nat) (x0 : (List Int)) (x1 : Int) : Option (Bool × Unit) :=
  (made_Mod F x1 64).bind fun r1 =>
  let x12v2 := addI .i64 1 r1.1
  bif eqI x12v2 0 then
    none
  else
    (bitpack_Unpack F x0 (quoI .i64 (mulI .i64 8 (lenI x0)) x12v2) x12v2).bind fun r6 =>
    bif not r6.2.1 then
      (law08_known F).bind fun r8 =>
      some (r8.1, ())
    else
      (bitpack_Pack F r6.1 x12v2).bind fun r9 =>
      (law08_known F).bind fun r10 =>
      bif r10.1 then
        bif r9.2.1 then
          (ref06_Same F x0 r9.1).bind fun r11 =>
          some (r11.1, ())
        else
          some (false, ())
      else
        some (false, ())
/- 10: tscodec/tscodeclaw05.VarintCut -/
def law05_VarintCut (F : Nat) (x0 : Int) (x1 : (List Int)) (x2 : Int) : Option (Bool × Unit) :=
  (made_New F x1).bind fun r1 =>
  (made_Tape_Wide F r1.1).bind fun r2 =>
  (varint_Append F [] x0).bind fun r3 =>
  (varint_AppendWide F [] r2.2.1).bind fun r4 =>
  bif ltI (lenI r3.1) 1 then
    some (false, ())
  else
    bif ltI (lenI r4.1) 1 then
      some (false, ())
    else
      (made_Mod F x2 (lenI r3.1)).bind fun r10 =>
      bif cutB 0 r10.1 (List.length r3.1) then
        (varint_Read F (takeL r3.1 r10.1) 0).bind fun r12 =>
        (made_Mod F x2 (lenI r4.1)).bind fun r14 =>
        bif cutB 0 r14.1 (List.length r4.1) then
          (varint_ReadWide F (takeL r4.1 r14.1) 0).bind fun r16 =>
          (law05_known F).bind fun r17 =>
          bif r17.1 then
            bif eqI r12.2.2.1 4 then
              some (eqI r16.2.2.1 4, ())
            else
              some (false, ())
          else
            some (false, ())
        else
          none
      else
        none
/- 50: tscodec/tscodecref05.Size -/
def ref05_Size (F : Nat) (x0 : Int) : Option (Int × Unit) :=
  (ref05_Append F [] x0).bind fun r1 =>
  some (lenI r1.1, ())
/- 52: tscodec/tscodecref05.Zigzag -/
def ref05_Zigzag (F : Nat) (x0 : Int) : Option (Int × Unit) :=
  bif leI 0 x0 then
    some (mulI .u64 2 (IntKind.wrap .u64 x0), ())
  else
    some (addI .u64 (mulI .u64 2 (IntKind.wrap .u64 (subI .i64 0 (addI .i64 x0 1)))) 1, ())
/- 53: tscodec/tscodecref05.AppendSigned -/
def ref05_AppendSigned (F : Nat) (x0 : (List Int)) (x1 : Int) : Option ((List Int) × Unit) :=
  (ref05_Zigzag F x1).bind fun r1 =>
  (ref05_Append F x0 r1.1).bind fun r2 =>
  some (r2.1, ())
/- 12: tscodec/tscodeclaw05.VarintForms -/
def law05_VarintForms_l4 (F : Nat) {R : Type} (k0 : (List Int) → Int → (Bool × ((List Int) × Unit)) → ((List Int) × (Int × Unit)) → Option R) (kret : Bool → Option R) : Nat → (List Int) → Int → (Bool × ((List Int) × Unit)) → ((List Int) × (Int × Unit)) → (List Int) → Int → Option R
  | 0, _, _, _, _, _, _ => none
  | n + 1, x0, x2, x8, x11, x12, x13 =>
    bif ltI x13 (lenI x12) then
      bif inI x13 (List.length x12) then
        (varint_Append F x0 (getL 0 x12 x13)).bind fun r10 =>
        bif inI x13 (List.length x12) then
          (ref05_Append F x0 (getL 0 x12 x13)).bind fun r12 =>
          (ref06_Same F r10.1 r12.1).bind fun r13 =>
          bif not r13.1 then
            kret false
          else
            bif inI x13 (List.length x12) then
              (varint_Size F (getL 0 x12 x13)).bind fun r16 =>
              bif inI x13 (List.length x12) then
                (ref05_Size F (getL 0 x12 x13)).bind fun r18 =>
                bif not (eqI r16.1 r18.1) then
                  kret false
                else
                  bif inI x13 (List.length x12) then
                    (varint_Unzigzag F (getL 0 x12 x13)).bind fun r21 =>
                    bif inI x13 (List.length x12) then
                      (ref05_Unzigzag F (getL 0 x12 x13)).bind fun r23 =>
                      bif not (eqI r21.1 r23.1) then
                        kret false
                      else
                        law05_VarintForms_l4 F k0 kret n x0 x2 x8 x11 x12 (addI .i64 x13 1)
                    else
                      none
                  else
                    none
              else
                none
            else
              none
        else
          none
      else
        none
    else
      k0 x0 x2 x8 x11
def law05_VarintForms (F : Nat) (x0 : (List Int)) (x1 : Int) (x2 : Int) (x3 : (Bool × ((List Int) × Unit))) (x4 : (List Int)) : Option (Bool × Unit) :=
  (made_New F x4).bind fun r1 =>
  (made_Tape_Word F r1.1).bind fun r3 =>
  (made_Tape_Next F r3.1 64).bind fun r4 =>
  let x24v5 := IntKind.wrap .u64 r4.2.1
  bif ltI x24v5 0 then
    none
  else
    law05_VarintForms_l4 F
      (fun z26 z27 z28 z29 =>
        (made_Tape_Wide F z29).bind fun r30 =>
        (law05_known F).bind fun r31 =>
        bif r31.1 then
          (varint_Zigzag F z27).bind fun r32 =>
          (ref05_Zigzag F z27).bind fun r33 =>
          bif eqI r32.1 r33.1 then
            (varint_AppendSigned F z26 z27).bind fun r35 =>
            (ref05_AppendSigned F z26 z27).bind fun r36 =>
            (ref06_Same F r35.1 r36.1).bind fun r37 =>
            bif r37.1 then
              (varint_AppendWide F z26 z28).bind fun r38 =>
              (ref05_AppendWide F z26 z28).bind fun r39 =>
              (ref06_Same F r38.1 r39.1).bind fun r40 =>
              bif r40.1 then
                (varint_AppendWide F z26 r30.2.1).bind fun r41 =>
                (ref05_AppendWide F z26 r30.2.1).bind fun r42 =>
                (ref06_Same F r41.1 r42.1).bind fun r43 =>
                some (r43.1, ())
              else
                some (false, ())
            else
              some (false, ())
          else
            some (false, ())
        else
          some (false, ()))
      (fun z44 =>
        some (z44, ()))
      F x0 x2 x3 r4.1 [x1, shrI .u64 x1 40, shrI .u64 r3.2.1 x24v5] 0
/- 14: tscodec/tscodeclaw05.VarintCanonical -/
def law05_VarintCanonical_j9 (F : Nat) {R : Type} (kn : (List (List Int)) → Int → Option R) (kret : Bool → Option R) (x6 : (List (List Int))) (x7 : Int) : Option R :=
    bif inI x7 (List.length x6) then
      (varint_ReadWide F (getL [] x6 x7) 0).bind fun r26 =>
      bif eqI r26.2.2.1 0 then
        bif inI x7 (List.length x6) then
          bif ltI (lenI (getL [] x6 x7)) r26.2.1 then
            kret false
          else
            bif ltI r26.2.1 1 then
              kret false
            else
              (varint_AppendWide F [] r26.1).bind fun r32 =>
              bif inI x7 (List.length x6) then
                bif cutB 0 r26.2.1 (List.length (getL [] x6 x7)) then
                  (ref06_Same F r32.1 (takeL (getL [] x6 x7) r26.2.1)).bind fun r35 =>
                  bif not r35.1 then
                    kret false
                  else
                    kn x6 x7
                else
                  none
              else
                none
        else
          none
      else
        kn x6 x7
    else
      none
def law05_VarintCanonical_l4 (F : Nat) {R : Type} (k0 : Option R) (kret : Bool → Option R) : Nat → (List (List Int)) → Int → Option R
  | 0, _, _ => none
  | n + 1, x6, x7 =>
    bif ltI x7 (lenI x6) then
      bif inI x7 (List.length x6) then
        (varint_Read F (getL [] x6 x7) 0).bind fun r14 =>
        bif eqI r14.2.2.1 0 then
          bif inI x7 (List.length x6) then
            bif ltI (lenI (getL [] x6 x7)) r14.2.1 then
              kret false
            else
              bif ltI r14.2.1 1 then
                kret false
              else
                (varint_Append F [] r14.1).bind fun r20 =>
                bif inI x7 (List.length x6) then
                  bif cutB 0 r14.2.1 (List.length (getL [] x6 x7)) then
                    (ref06_Same F r20.1 (takeL (getL [] x6 x7) r14.2.1)).bind fun r23 =>
                    bif not r23.1 then
                      kret false
                    else
                      law05_VarintCanonical_j9 F
                        (fun z37 z38 =>
                          law05_VarintCanonical_l4 F k0 kret n z37 (addI .i64 z38 1))
                        (fun z40 =>
                          kret z40)
                        x6 x7
                  else
                    none
                else
                  none
          else
            none
        else
          law05_VarintCanonical_j9 F
            (fun z41 z42 =>
              law05_VarintCanonical_l4 F k0 kret n z41 (addI .i64 z42 1))
            (fun z44 =>
              kret z44)
            x6 x7
      else
        none
    else
      k0
def law05_VarintCanonical (F : Nat) (x0 : (List Int)) (x1 : (List Int)) : Option (Bool × Unit) :=
  (made_New F x1).bind fun r1 =>
  (made_Tape_Word F r1.1).bind fun r2 =>
  (made_Tape_Next F r2.1 60).bind fun r3 =>
  let x22v4 := IntKind.wrap .u64 r3.2.1
  bif ltI x22v4 0 then
    none
  else
    (ref05_Append F [] (shrI .u64 r2.2.1 x22v4)).bind fun r6 =>
    (made_Tape_Spoiled F r3.1 r6.1).bind fun r7 =>
    (made_Tape_Wide F r7.1).bind fun r8 =>
    (ref05_AppendWide F [] r8.2.1).bind fun r9 =>
    (made_Tape_Spoiled F r8.1 r9.1).bind fun r10 =>
    law05_VarintCanonical_l4 F
      (
        (law05_known F).bind fun r45 =>
        some (r45.1, ()))
      (fun z46 =>
        some (z46, ()))
      F [x0, r7.2.1, r10.2.1] 0
/- 36: tscodec/tscodecref02.Compare -/
def ref02_Compare (F : Nat) (x0 : (Bool × ((List Int) × Unit))) (x1 : (Bool × ((List Int) × Unit))) : Option (Int × Unit) :=
  (ref02_Sign F x0).bind fun r1 =>
  (ref02_Sign F x1).bind fun r2 =>
  bif not (eqI r1.1 r2.1) then
    bif ltI r1.1 r2.1 then
      some ((-1), ())
    else
      some (1, ())
  else
    (ref02_of F x0).bind fun r5 =>
    (ref02_of F x1).bind fun r6 =>
    (ref02_compare F r5.1 r6.1).bind fun r7 =>
    some (mulI .i64 r1.1 r7.1, ())
/- 9: tscodec/tscodeclaw05.VarintZigzag -/
def law05_VarintZigzag (F : Nat) (x0 : Int) (x1 : Int) (x2 : Int) : Option (Bool × Unit) :=
  (ref02_Of F x0).bind fun r1 =>
  (ref02_Of F x1).bind fun r2 =>
  (ref02_Compare F (false, r1.1.2) (false, r2.1.2)).bind fun r3 =>
  (law05_known F).bind fun r5 =>
  bif r5.1 then
    (varint_Zigzag F x0).bind fun r6 =>
    (varint_Unzigzag F r6.1).bind fun r7 =>
    bif eqI r7.1 x0 then
      (varint_Unzigzag F x2).bind fun r9 =>
      (varint_Zigzag F r9.1).bind fun r10 =>
      bif eqI r10.1 x2 then
        bif not (ltI r3.1 0) then
          some (true, ())
        else
          (varint_Zigzag F x0).bind fun r13 =>
          (varint_Size F r13.1).bind fun r14 =>
          (varint_Zigzag F x1).bind fun r15 =>
          (varint_Size F r15.1).bind fun r16 =>
          some (leI r14.1 r16.1, ())
      else
        some (false, ())
    else
      some (false, ())
  else
    some (false, ())
/- 23: tscodec/tscodeclaw08.packs -/
def law08_packs (F : Nat) (x0 : (List Int)) (x1 : Int) : Option (Bool × Unit) :=
  (bitpack_Pack F x0 x1).bind fun r1 =>
  (ref08_Pack F x0 x1).bind fun r2 =>
  bif eqT .bool r1.2.1 r2.2.1 then
    (ref06_Same F r1.1 r2.1).bind fun r4 =>
    bif r4.1 then
      (bitpack_Width F x0).bind fun r5 =>
      (ref08_Width F x0).bind fun r6 =>
      some (eqI r5.1 r6.1, ())
    else
      some (false, ())
  else
    some (false, ())
/- 5: tscodec/tscodeclaw08.BitpackForms -/
def law08_BitpackForms (F : Nat) (x0 : (List Int)) (x1 : Int) (x2 : Int) (x3 : (List Int)) : Option (Bool × Unit) :=
  (made_New F x3).bind fun r1 =>
  (law08_list F r1.1).bind fun r2 =>
  (ref08_Width F r2.2.1).bind fun r3 =>
  (made_Mod F x2 65539).bind fun r4 =>
  let x22v5 := subI .i64 r4.1 1
  (made_Mod F x1 68).bind fun r6 =>
  let x25v7 := subI .i64 r6.1 1
  (law08_known F).bind fun r8 =>
  bif r8.1 then
    (law08_packs F x0 x1).bind fun r9 =>
    bif r9.1 then
      (law08_packs F x0 x25v7).bind fun r10 =>
      bif r10.1 then
        (law08_packs F r2.2.1 r3.1).bind fun r11 =>
        bif r11.1 then
          (law08_packs F r2.2.1 (subI .i64 r3.1 1)).bind fun r13 =>
          bif r13.1 then
            (made_Tape_Next F r2.1 3).bind fun r14 =>
            (law08_packs F r2.2.1 (addI .i64 r3.1 r14.2.1)).bind fun r16 =>
            bif r16.1 then
              (bitpack_Bytes F x2 x1).bind fun r17 =>
              (ref08_Bytes F x2 x1).bind fun r18 =>
              bif eqI r17.1 r18.1 then
                (bitpack_Bytes F x22v5 x25v7).bind fun r20 =>
                (ref08_Bytes F x22v5 x25v7).bind fun r21 =>
                some (eqI r20.1 r21.1, ())
              else
                some (false, ())
            else
              some (false, ())
          else
            some (false, ())
        else
          some (false, ())
      else
        some (false, ())
    else
      some (false, ())
  else
    some (false, ())
end Go.Proofs.Ytlgfiljadnafeaa
