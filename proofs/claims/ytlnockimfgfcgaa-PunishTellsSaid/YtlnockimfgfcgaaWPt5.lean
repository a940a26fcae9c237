/-
  Walks, written by program: each Go function computes the plain function of its name, in whatever world its arguments' facts hold.
-/
import Derived.Test.YtlnockimfgfcgaaWPt4
import Derived.Test.YtlnockimfgfcgaaLabO
namespace Go.Proofs.Ytlnockimfgfcgaa
open Go.RowKit Go.Lab
attribute [local irreducible] WP CP NX wpList Code.wp Calls
set_option maxRecDepth 100000
set_option maxHeartbeats 40000000
set_option linter.unusedVariables false

def N.baizelaw34_PunishTells_0 : List (List Nat) := [[], [0], [], [0, 1, 2], [], [], [0, 1, 2, 3, 4, 5], [0, 1, 2, 3, 4, 5, 6]]
def N.baizelaw34_PunishTells_1 : List (List Nat) := [[], [0], [], [2], [0, 1], [0, 1, 4], [0, 1, 2, 3, 4, 5], [0, 1, 2, 3, 4, 5, 6]]
def F.baizelaw34_PunishTells.c6 (q10 : Bool) : Option (Bool) := (some q10)
def N.baizelaw34_PunishTells_2 : List (List Nat) := [[], [0], [], [0, 1, 2], [0, 1, 2, 3], [0, 1, 2, 3, 4], [0, 1, 2, 3, 4, 5], [0, 1, 2, 3, 4, 5, 6], [0, 1, 2, 3, 4, 5], [0, 1, 2, 3, 4, 5, 6, 7, 8], [0, 1, 2, 3, 4, 5, 6, 7, 8, 9], [0, 1, 2, 3, 4, 5, 6, 7, 8, 9, 10], [0, 1, 2, 3, 4, 5, 6, 7, 8, 9, 10, 11], [0, 1, 2, 3, 4, 5, 6, 7, 8, 9, 10, 11, 12], [0, 1, 2, 3, 4, 5, 6, 7, 8, 9, 10, 11, 12, 13], [0, 1, 2, 3, 4, 5, 6, 7, 8, 9, 10, 11, 12], [0, 1, 2, 3, 4, 5, 6, 7, 8, 9, 10, 11, 12], [0, 1, 2, 3, 4, 5, 6, 7, 8, 9, 10, 11, 12], [0, 1, 2, 3, 4, 5, 6, 7, 8, 9, 10, 11, 12], [0, 1, 2, 3, 4, 5, 6, 7, 8, 9, 10, 11, 12, 13, 14, 15, 16, 17, 18], [0, 1, 2, 3, 4, 5, 6, 7, 8, 9, 10, 11, 12], [0, 1, 2, 3, 4, 5, 6, 7, 8, 9, 10, 11, 12], [0, 1, 2, 3, 4, 5, 6, 7, 8, 9, 10, 11, 12], [0, 1, 2, 3, 4, 5, 6, 7, 8, 9, 10, 11, 12], [0, 1, 2, 3, 4, 5, 6, 7, 8, 9, 10, 11, 12, 13, 14, 15, 16, 17, 18, 19, 20, 21, 22, 23], [0, 1, 2, 3, 4, 5, 6, 7, 8, 9, 10, 11, 12, 13, 14, 15, 16, 17, 18, 19, 20, 21, 22, 23, 24], [0, 1, 2, 3, 4, 5, 6, 7, 8, 9, 10, 11, 12, 13, 14, 15, 16, 17, 18, 19, 20, 21, 22, 23, 24, 25], [0, 1, 2, 3, 4, 5, 6, 7, 8, 9, 10, 11, 12, 13, 14, 15, 16, 17, 18, 19, 20, 21, 22, 23, 24, 25, 26], [0, 1, 2, 3, 4, 5, 6, 7, 8, 9, 10, 11, 12, 13, 14, 15, 16, 17, 18, 19, 20, 21, 22, 23, 24, 25, 26, 27], [0, 1, 2, 3, 4, 5, 6, 7, 8, 9, 10, 11, 12, 13, 14, 15, 16, 17, 18, 19, 20, 21, 22, 23, 24, 25, 26, 27], [0, 1, 2, 3, 4, 5, 6, 7, 8, 9, 10, 11, 12, 13, 14, 15, 16, 17, 18, 19, 20, 21, 22, 23, 24, 25, 26, 27], [0, 1, 2, 3, 4, 5, 6, 7, 8, 9, 10, 11, 12, 13, 14, 15, 16, 17, 18, 19, 20, 21, 22, 23, 24, 25, 26, 27], [0, 1, 2, 3, 4, 5, 6, 7, 8, 9, 10, 11, 12, 13, 14, 15, 16, 17, 18, 19, 20, 21, 22, 23, 24, 25, 26, 27, 28, 29, 30, 31], [0, 1, 2, 3, 4, 5, 6, 7, 8, 9, 10, 11, 12, 13, 14, 15, 16, 17, 18, 19, 20, 21, 22, 23, 24, 25, 26, 27, 28, 29, 30, 31, 32], [0, 1, 2, 3, 4, 5, 6, 7, 8, 9, 10, 11, 12, 13, 14, 15, 16, 17, 18, 19, 20, 21, 22, 23, 24, 25, 26, 27, 28, 29, 30, 31, 32, 33], [0, 1, 2, 3, 4, 5, 6, 7, 8, 9, 10, 11, 12, 13, 14, 15, 16, 17, 18, 19, 20, 21, 22, 23, 24, 25, 26, 27, 28, 29, 30, 31, 32, 33, 34]]
def F.baizelaw34_PunishTells.c5 (x1 : Int) (d1 : Arr Int 8) (x2 : Int) (d2 : Arr Int 8) (l1 : List Int) (q1 : Bool) (x3 : Int) (d3 : Arr Int 8) (x4 : Int) (d4 : Arr Int 8) (l3 : List Int) (q2 : Bool) (d5 : Arr Int 8) (x8 : Int) (d7 : Arr Int 8) (x9 : Int) (l5 : List Int) (d8 : Arr Int 8) (x10 : Int) (d9 : Arr Int 8) (l6 : List Int) (x11 : Int) (d10 : Arr Int 8) (x12 : Int) (l8 : List Int) (d11 : Arr Int 8) (x13 : Int) (d12 : Arr Int 8) (l9 : List Int) (l13 : List Int) (l15 : List S_notary_entry) (w2 : (List (S_notary_entry × Int))) (l16 : List Int) (d23 : Arr Int 8) (q8 : Bool) (q9 : Bool) : Option (Bool) := (if q9 = true then (some false) else ((F.punish_Thing_Check x8 d7 x9 l5 d8 x10 d9 l6 l13).bind fun x23 => ((F.baizeref34_Check x1 d1 x2 d2 l1 l13 q1).bind fun x24 => (if (x23 == x24) = true then ((F.punish_Thing_Digest x8 d7 x9 l5 d8 x10 d9 l6 l13).bind fun d31 => ((F.baizeref34_Digest x1 d1 x2 d2 l1 l13 q1).bind fun d32 => (if (d31.1 == d32.1) = true then ((F.punish_Twice l15 w2 d5 d23 x8 d7 x9 l5 d8 x10 d9 l6 l13 x11 d10 x12 l8 d11 x13 d12 l9 l16).bind fun x25 => ((F.baizeref34_Twice d5 x1 d1 x2 d2 l1 l13 q1 x3 d3 x4 d4 l3 l16 q2 q8).bind fun x26 => (if (x25 == x26) = true then ((F.punish_Twice_2 d5 d23 x8 d7 x9 l5 d8 x10 d9 l6 l13 x11 d10 x12 l8 d11 x13 d12 l9 l16).bind fun x27 => (F.baizelaw34_PunishTells.c6 (x27 == 1))) else (F.baizelaw34_PunishTells.c6 false)))) else (F.baizelaw34_PunishTells.c6 false)))) else (F.baizelaw34_PunishTells.c6 false)))))
def N.baizelaw34_PunishTells_3 : List (List Nat) := [[], [0], [0, 1], [0, 1, 2], [0, 1, 2, 3], [0, 1, 2, 3], [0, 1, 2, 3, 5], [0, 1, 2, 3, 4, 5, 6], [0, 1, 2, 3, 4, 5, 6, 7], [0, 1, 2, 3, 4, 5, 6, 7, 8], [0, 1, 2, 3, 4, 5, 6, 7, 8], [0, 1, 2, 3, 4, 5, 6, 7, 8, 10], [0, 1, 2, 3, 4, 5, 6, 7, 8, 9, 10, 11], [0, 1, 2, 3, 4, 5, 6, 7, 8, 9, 10, 11, 12], [0, 1, 2, 3, 4, 5, 6, 7, 8, 9, 10, 11, 12, 13], [0, 1, 2, 3, 4, 5, 6, 7, 8, 9, 10, 11, 12, 13, 14], [0, 1, 2, 3, 4, 5, 6, 7, 8, 9, 10, 11, 12, 13, 14], [0, 1, 2, 3, 4, 5, 6, 7, 8, 9, 10, 11, 12, 13, 14, 16], [0, 1, 2, 3, 4, 5, 6, 7, 8, 9, 10, 11, 12, 13, 14, 15, 16, 17], [0, 1, 2, 3, 4, 5, 6, 7, 8, 9, 10, 11, 12, 13, 14, 15, 16, 17, 18], [0, 1, 2, 3, 4, 5, 6, 7, 8, 9, 10, 11, 12, 13, 14, 15, 16, 17, 18, 19]]
def F.baizelaw34_PunishTells.c4 (x1 : Int) (d1 : Arr Int 8) (x2 : Int) (d2 : Arr Int 8) (l1 : List Int) (q1 : Bool) (x3 : Int) (d3 : Arr Int 8) (x4 : Int) (d4 : Arr Int 8) (l3 : List Int) (q2 : Bool) (d5 : Arr Int 8) (x8 : Int) (d7 : Arr Int 8) (x9 : Int) (l5 : List Int) (d8 : Arr Int 8) (x10 : Int) (d9 : Arr Int 8) (l6 : List Int) (x11 : Int) (d10 : Arr Int 8) (x12 : Int) (l8 : List Int) (d11 : Arr Int 8) (x13 : Int) (d12 : Arr Int 8) (l9 : List Int) (l13 : List Int) (l15 : List S_notary_entry) (w2 : (List (S_notary_entry × Int))) (l16 : List Int) (d23 : Arr Int 8) (q8 : Bool) : Option (Bool) := ((F.punish_Thing_Place x8 d7 x9 l5 d8 x10 d9 l6 l13).bind fun (d26, x16, d27) => ((F.baizeref34_Check x1 d1 x2 d2 l1 l13 q1).bind fun x28 => (if (x28 == 0) = true then (if (!(d26.1 == d1.1)) = true then (F.baizelaw34_PunishTells.c5 x1 d1 x2 d2 l1 q1 x3 d3 x4 d4 l3 q2 d5 x8 d7 x9 l5 d8 x10 d9 l6 x11 d10 x12 l8 d11 x13 d12 l9 l13 l15 w2 l16 d23 q8 true) else (if (x16 != x2) = true then (F.baizelaw34_PunishTells.c5 x1 d1 x2 d2 l1 q1 x3 d3 x4 d4 l3 q2 d5 x8 d7 x9 l5 d8 x10 d9 l6 x11 d10 x12 l8 d11 x13 d12 l9 l13 l15 w2 l16 d23 q8 true) else ((F.baizeref34_At x1 d1 x2 d2 l1 l13 q1).bind fun d33 => (F.baizelaw34_PunishTells.c5 x1 d1 x2 d2 l1 q1 x3 d3 x4 d4 l3 q2 d5 x8 d7 x9 l5 d8 x10 d9 l6 x11 d10 x12 l8 d11 x13 d12 l9 l13 l15 w2 l16 d23 q8 (!(d27.1 == d33.1)))))) else (F.baizelaw34_PunishTells.c5 x1 d1 x2 d2 l1 q1 x3 d3 x4 d4 l3 q2 d5 x8 d7 x9 l5 d8 x10 d9 l6 x11 d10 x12 l8 d11 x13 d12 l9 l13 l15 w2 l16 d23 q8 false))))
def N.baizelaw34_PunishTells_4 : List (List Nat) := [[], [], [], [2], [], [4], [0, 1, 2, 3, 4, 5], [0, 1, 2, 3, 4, 5, 6], [0, 1, 2, 3, 4, 5, 6, 7], [0, 1, 2, 3, 4, 5, 6, 7], [0, 1, 2, 3, 4, 5, 6, 7], [0, 1, 2, 3, 4, 5, 6, 7, 10], [0, 1, 2, 3, 4, 5, 6, 7], [0, 1, 2, 3, 4, 5, 6, 7, 12], [0, 1, 2, 3, 4, 5, 6, 7, 8, 9, 10, 11, 12, 13], [0, 1, 2, 3, 4, 5, 6, 7, 8, 9, 10, 11, 12, 13, 14], [0, 1, 2, 3, 4, 5, 6, 7, 8, 9, 10, 11, 12, 13, 14, 15]]
def F.baizelaw34_PunishTells.c3 (x1 : Int) (d1 : Arr Int 8) (x2 : Int) (d2 : Arr Int 8) (l1 : List Int) (q1 : Bool) (x3 : Int) (d3 : Arr Int 8) (x4 : Int) (d4 : Arr Int 8) (l3 : List Int) (q2 : Bool) (d5 : Arr Int 8) (x7 : Int) (x8 : Int) (d7 : Arr Int 8) (x9 : Int) (l5 : List Int) (d8 : Arr Int 8) (x10 : Int) (d9 : Arr Int 8) (l6 : List Int) (x11 : Int) (d10 : Arr Int 8) (x12 : Int) (l8 : List Int) (d11 : Arr Int 8) (x13 : Int) (d12 : Arr Int 8) (l9 : List Int) (l13 : List Int) (l15 : List S_notary_entry) (w2 : (List (S_notary_entry × Int))) (l16 : List Int) : Option (Bool) := ((F.baizelaw34_key (IntKind.i64.wrap x7)).bind fun d23 => ((F.punish_Thing_Digest x8 d7 x9 l5 d8 x10 d9 l6 l13).bind fun d34 => ((F.notary_Book_Verify l15 w2 d23 d34 l13).bind fun q11 => (if q11 = true then ((F.punish_Thing_Digest x11 d10 x12 l8 d11 x13 d12 l9 l16).bind fun d35 => ((F.notary_Book_Verify l15 w2 d23 d35 l16).bind fun q12 => (F.baizelaw34_PunishTells.c4 x1 d1 x2 d2 l1 q1 x3 d3 x4 d4 l3 q2 d5 x8 d7 x9 l5 d8 x10 d9 l6 x11 d10 x12 l8 d11 x13 d12 l9 l13 l15 w2 l16 d23 q12))) else (F.baizelaw34_PunishTells.c4 x1 d1 x2 d2 l1 q1 x3 d3 x4 d4 l3 q2 d5 x8 d7 x9 l5 d8 x10 d9 l6 x11 d10 x12 l8 d11 x13 d12 l9 l13 l15 w2 l16 d23 false)))))
def N.baizelaw34_PunishTells_5 : List (List Nat) := [[], [], [1], [1, 2], [1, 2, 3], [0, 1, 2, 3, 4], [], [0, 1, 2, 3, 4, 5, 6], [0, 1, 2, 3, 4, 5], [0, 1, 2, 3, 4, 5, 8], [0, 1, 2, 3, 4, 5, 8, 9], [0, 1, 2, 3, 4, 5, 6, 7, 8, 9, 10], [0, 1, 2, 3, 4, 5, 6, 7, 8, 9, 10, 11], [0, 1, 2, 3, 4, 5, 6, 7, 8, 9, 10, 11, 12], [0, 1, 2, 3, 4, 5, 6, 7, 8, 9, 10, 11, 12], [0, 1, 2, 3, 4, 5, 6, 7, 8, 9, 10, 11, 12, 13], [0, 1, 2, 3, 4, 5, 6, 7, 8, 9, 10, 11, 12, 13, 15]]
def F.baizelaw34_PunishTells.c2 (x1 : Int) (d1 : Arr Int 8) (x2 : Int) (d2 : Arr Int 8) (l1 : List Int) (q1 : Bool) (x3 : Int) (d3 : Arr Int 8) (x4 : Int) (d4 : Arr Int 8) (l3 : List Int) (q2 : Bool) (d5 : Arr Int 8) (x6 : Int) (x7 : Int) (x8 : Int) (d7 : Arr Int 8) (x9 : Int) (l5 : List Int) (d8 : Arr Int 8) (x10 : Int) (d9 : Arr Int 8) (l6 : List Int) (x11 : Int) (d10 : Arr Int 8) (x12 : Int) (l8 : List Int) (d11 : Arr Int 8) (x13 : Int) (d12 : Arr Int 8) (l9 : List Int) (l10 : List Int) (l12 : List S_notary_entry) (w1 : (List (S_notary_entry × Int))) (l13 : List Int) : Option (Bool) := (if decide ((x6.tmod 4) > 0) = true then ((F.baizelaw34_key (IntKind.i64.wrap x6)).bind fun d36 => ((F.notary_Book_Signer l12 w1 d36).bind fun d37 => ((F.punish_Thing_Digest x11 d10 x12 l8 d11 x13 d12 l9 l10).bind fun d38 => ((F.notary_bookSigner_Sign l12 w1 d37 d38).bind fun (l17, x29, d39, d40) => (F.baizelaw34_PunishTells.c3 x1 d1 x2 d2 l1 q1 x3 d3 x4 d4 l3 q2 d5 x7 x8 d7 x9 l5 d8 x10 d9 l6 x11 d10 x12 l8 d11 x13 d12 l9 l13 d40 d39 l17))))) else (F.baizelaw34_PunishTells.c3 x1 d1 x2 d2 l1 q1 x3 d3 x4 d4 l3 q2 d5 x7 x8 d7 x9 l5 d8 x10 d9 l6 x11 d10 x12 l8 d11 x13 d12 l9 l13 l12 w1 l10))
def F.baizelaw34_PunishTells.c1 (x1 : Int) (d1 : Arr Int 8) (x2 : Int) (d2 : Arr Int 8) (l1 : List Int) (l2 : List Int) (q1 : Bool) (x3 : Int) (d3 : Arr Int 8) (x4 : Int) (d4 : Arr Int 8) (l3 : List Int) (l4 : List Int) (q2 : Bool) (d5 : Arr Int 8) (x5 : Int) (x6 : Int) (x7 : Int) (q4 : Bool) : Option (Bool) := (if q4 = true then ((F.baizelaw34_known).bind fun q5 => (some q5)) else ((F.notary_NewBook).bind fun d6 => ((F.baizelaw34_Of x1 d1 x2 d2 l1 l2 q1).bind fun (x8, d7, x9, l5, d8, x10, d9, l6, l7) => ((F.baizelaw34_Of x3 d3 x4 d4 l3 l4 q2).bind fun (x11, d10, x12, l8, d11, x13, d12, l9, l10) => (if decide ((x5.tmod 4) > 0) = true then ((F.baizelaw34_key (IntKind.i64.wrap x5)).bind fun d41 => ((F.notary_Book_Signer ([]) d6 d41).bind fun d42 => ((F.punish_Thing_Digest x8 d7 x9 l5 d8 x10 d9 l6 l7).bind fun d43 => ((F.notary_bookSigner_Sign ([]) d6 d42 d43).bind fun (l18, x30, d44, d45) => (F.baizelaw34_PunishTells.c2 x1 d1 x2 d2 l1 q1 x3 d3 x4 d4 l3 q2 d5 x6 x7 x8 d7 x9 l5 d8 x10 d9 l6 x11 d10 x12 l8 d11 x13 d12 l9 l10 d45 d44 l18))))) else (F.baizelaw34_PunishTells.c2 x1 d1 x2 d2 l1 q1 x3 d3 x4 d4 l3 q2 d5 x6 x7 x8 d7 x9 l5 d8 x10 d9 l6 x11 d10 x12 l8 d11 x13 d12 l9 l10 ([]) d6 l7))))))
def F.baizelaw34_PunishTells (x1 : Int) (d1 : Arr Int 8) (x2 : Int) (d2 : Arr Int 8) (l1 : List Int) (l2 : List Int) (q1 : Bool) (x3 : Int) (d3 : Arr Int 8) (x4 : Int) (d4 : Arr Int 8) (l3 : List Int) (l4 : List Int) (q2 : Bool) (d5 : Arr Int 8) (x5 : Int) (x6 : Int) (x7 : Int) : Option (Bool) := ((F.baizelaw34_known).bind fun q13 => (if (!q13) = true then (F.baizelaw34_PunishTells.c1 x1 d1 x2 d2 l1 l2 q1 x3 d3 x4 d4 l3 l4 q2 d5 x5 x6 x7 true) else (if decide ((IntKind.i64.wrap ((l1.length : Int) + (l2.length : Int))) > 5000) = true then (F.baizelaw34_PunishTells.c1 x1 d1 x2 d2 l1 l2 q1 x3 d3 x4 d4 l3 l4 q2 d5 x5 x6 x7 true) else (F.baizelaw34_PunishTells.c1 x1 d1 x2 d2 l1 l2 q1 x3 d3 x4 d4 l3 l4 q2 d5 x5 x6 x7 (decide ((IntKind.i64.wrap ((l3.length : Int) + (l4.length : Int))) > 5000))))))
theorem P.baizelaw34_PunishTells (g0 : GW) (x1 : Int) (d1 : Arr Int 8) (x2 : Int) (d2 : Arr Int 8) (l1 : List Int) (l2 : List Int) (q1 : Bool) (x3 : Int) (d3 : Arr Int 8) (x4 : Int) (d4 : Arr Int 8) (l3 : List Int) (l4 : List Int) (q2 : Bool) (d5 : Arr Int 8) (x5 : Int) (x6 : Int) (x7 : Int) (a1 : Option Addr) (n1 : Nat) (c1 : Nat) (a2 : Option Addr) (n2 : Nat) (c2 : Nat) (a3 : Option Addr) (n3 : Nat) (c3 : Nat) (a4 : Option Addr) (n4 : Nat) (c4 : Nat) (hR1 : RdS (Kd.int .u8) g0 5 a1 n1 c1 l1) (hR2 : RdS (Kd.int .u8) g0 5 a2 n2 c2 l2) (hR3 : RdS (Kd.int .u8) g0 5 a3 n3 c3 l3) (hR4 : RdS (Kd.int .u8) g0 5 a4 n4 c4 l4) (o1 : Bool) (hs : F.baizelaw34_PunishTells x1 d1 x2 d2 l1 l2 q1 x3 d3 x4 d4 l3 l4 q2 d5 x5 x6 x7 = some o1) :
  Calls Try.prog 5 #[AG [[.int .i64 x1], encA .u8 d1, [.int .i64 x2], encA .u8 d2, [.slice a1 n1 c1], [.slice a2 n2 c2], [.bool q1]], AG [[.int .i64 x3], encA .u8 d3, [.int .i64 x4], encA .u8 d4, [.slice a3 n3 c3], [.slice a4 n4 c4], [.bool q2]], AG [encA .u8 d5], AG [[.int .u8 x5], [.int .u8 x6], [.int .u8 x7]]] g0.w (Ret NoM g0 fun v g => v = .bool o1) := by
 refine calls_of (args := [AG [[.int .i64 x1], encA .u8 d1, [.int .i64 x2], encA .u8 d2, [.slice a1 n1 c1], [.slice a2 n2 c2], [.bool q1]], AG [[.int .i64 x3], encA .u8 d3, [.int .i64 x4], encA .u8 d4, [.slice a3 n3 c3], [.slice a4 n4 c4], [.bool q2]], AG [encA .u8 d5], AG [[.int .u8 x5], [.int .u8 x6], [.int .u8 x7]]]) Try.func5 rfl (0) ?_
 intro t ht htL
 refine ⟨_, rfl, ?_⟩
 refine CP.refr 175 [(0, AG [[.int .i64 x1], encA .u8 d1, [.int .i64 x2], encA .u8 d2, [.slice a1 n1 c1], [.slice a2 n2 c2], [.bool q1]]), (1, AG [[.int .i64 x3], encA .u8 d3, [.int .i64 x4], encA .u8 d4, [.slice a3 n3 c3], [.slice a4 n4 c4], [.bool q2]]), (2, AG [encA .u8 d5]), (3, AG [[.int .u8 x5], [.int .u8 x6], [.int .u8 x7]])] (by kernel_rfl) (by as_aux_lemma => kernel_rfl) ?_
 intro ds
 have tot : Step (fun l => NoM l ∨ t ≤ l) g0 g0 := Step.refl _ _
 unfold F.baizelaw34_PunishTells at hs
 refine CP.seqR ?_
 refine WP.alloc (T := 35) (t + 1) [[.int .i64 x1], encA .u8 d1, [.int .i64 x2], encA .u8 d2, [.slice a1 n1 c1], [.slice a2 n2 c2], [.bool q1]] [1, 8, 1, 8, 1, 1, 1] (by kernel_rfl) (by simp [len_encA]) ?_
 intro g1 b1 st1 hB1
 replace hR1 := hR1.mono st1 (fun x => x)
 replace hR2 := hR2.mono st1 (fun x => x)
 replace hR3 := hR3.mono st1 (fun x => x)
 replace hR4 := hR4.mono st1 (fun x => x)
 replace tot := tot.trans st1.pure
 refine WP.alloc (T := 35) (t + 2) [[.int .i64 x3], encA .u8 d3, [.int .i64 x4], encA .u8 d4, [.slice a3 n3 c3], [.slice a4 n4 c4], [.bool q2]] [1, 8, 1, 8, 1, 1, 1] (by kernel_rfl) (by simp [len_encA]) ?_
 intro g2 b2 st2 hB2
 replace hR1 := hR1.mono st2 (fun x => x)
 replace hR2 := hR2.mono st2 (fun x => x)
 replace hR3 := hR3.mono st2 (fun x => x)
 replace hR4 := hR4.mono st2 (fun x => x)
 replace hB1 := hB1.mono st2 (fun x => x)
 replace tot := tot.trans st2.pure
 refine WP.alloc (T := 32) (t + 3) [encA .u8 d5] [8] (by kernel_rfl) (by simp [len_encA]) ?_
 intro g3 b3 st3 hB3
 replace hR1 := hR1.mono st3 (fun x => x)
 replace hR2 := hR2.mono st3 (fun x => x)
 replace hR3 := hR3.mono st3 (fun x => x)
 replace hR4 := hR4.mono st3 (fun x => x)
 replace hB1 := hB1.mono st3 (fun x => x)
 replace hB2 := hB2.mono st3 (fun x => x)
 replace tot := tot.trans st3.pure
 refine WP.alloc (T := 56) (t + 4) [[.int .u8 x5], [.int .u8 x6], [.int .u8 x7]] [1, 1, 1] (by kernel_rfl) rfl ?_
 intro g4 b4 st4 hB4
 replace hR1 := hR1.mono st4 (fun x => x)
 replace hR2 := hR2.mono st4 (fun x => x)
 replace hR3 := hR3.mono st4 (fun x => x)
 replace hR4 := hR4.mono st4 (fun x => x)
 replace hB1 := hB1.mono st4 (fun x => x)
 replace hB2 := hB2.mono st4 (fun x => x)
 replace hB3 := hB3.mono st4 (fun x => x)
 replace tot := tot.trans st4.pure
 refine WP.stl 1 ?_
 refine WP.dn ?_
 refine NX.then_n ?_
 refine CP.seq ?_
 refine CP.cut (fun tm g => ∃ (q4 : Bool), Fr 175 [(4, .pointer (some ⟨b1, 0, none⟩)), (5, .pointer (some ⟨b2, 0, none⟩)), (6, .pointer (some ⟨b3, 0, none⟩)), (7, .pointer (some ⟨b4, 0, none⟩)), (38, .bool q4)] tm ∧ Step (fun l => NoM l ∨ t ≤ l) g0 g ∧ Box g (t + 1) b1 35 [[.int .i64 x1], encA .u8 d1, [.int .i64 x2], encA .u8 d2, [.slice a1 n1 c1], [.slice a2 n2 c2], [.bool q1]] [1, 8, 1, 8, 1, 1, 1] ∧ RdS (Kd.int .u8) g 5 a1 n1 c1 l1 ∧ RdS (Kd.int .u8) g 5 a2 n2 c2 l2 ∧ Box g (t + 2) b2 35 [[.int .i64 x3], encA .u8 d3, [.int .i64 x4], encA .u8 d4, [.slice a3 n3 c3], [.slice a4 n4 c4], [.bool q2]] [1, 8, 1, 8, 1, 1, 1] ∧ RdS (Kd.int .u8) g 5 a3 n3 c3 l3 ∧ RdS (Kd.int .u8) g 5 a4 n4 c4 l4 ∧ Box g (t + 3) b3 32 [encA .u8 d5] [8] ∧ Box g (t + 4) b4 56 [[.int .u8 x5], [.int .u8 x6], [.int .u8 x7]] [1, 1, 1] ∧ (F.baizelaw34_PunishTells.c1 x1 d1 x2 d2 l1 l2 q1 x3 d3 x4 d4 l3 l4 q2 d5 x5 x6 x7 q4) = some o1) ?_ ?_
 ·refine CP.region ?_
  replace hs := Option.bind_eq_some_iff.1 hs
  obtain ⟨q13, hk50, hs⟩ := hs
  have hcal50 := P.baizelaw34_known g4 q13 hk50
  refine WP.callC hcal50 (by kernel_rfl) ?_
  rintro _ g95 st95 rfl
  replace hB1 := hB1.mono st95 (fun x => x)
  replace hR1 := hR1.mono st95 (fun x => x)
  replace hR2 := hR2.mono st95 (fun x => x)
  replace hB2 := hB2.mono st95 (fun x => x)
  replace hR3 := hR3.mono st95 (fun x => x)
  replace hR4 := hR4.mono st95 (fun x => x)
  replace hB3 := hB3.mono st95 (fun x => x)
  replace hB4 := hB4.mono st95 (fun x => x)
  replace tot := tot.trans st95.pure
  refine WP.stl 2 ?_
  refine WP.guard 19 (b := (!q13)) (by kernel_rfl) (fun h23 => ?_) (fun h23 => ?_)
  ·replace hs := of_if_t hs h23
   refine WP.stl 19 ?_
   refine WP.dn ?_
   refine NX.post ?_
   exact ⟨true, ⟨by kernel_rfl, by kernel_rfl⟩, tot, hB1, hR1, hR2, hB2, hR3, hR4, hB3, hB4, hs⟩
  replace hs := of_if_f hs h23
  refine WP.stl 1 ?_
  refine WP.loadB (v := .slice a1 n1 c1) hB1 (by kernel_rfl) (by as_aux_lemma => kernel_rfl) ?_
  refine WP.len (a := a1) (cp := c1) hR1.len (by kernel_rfl) ?_
  refine WP.stl 1 ?_
  refine WP.loadB (v := .slice a2 n2 c2) hB1 (by kernel_rfl) (by as_aux_lemma => kernel_rfl) ?_
  refine WP.len (a := a2) (cp := c2) hR2.len (by kernel_rfl) ?_
  refine WP.stl 4 ?_
  refine WP.guard 29 (b := decide ((IntKind.i64.wrap ((l1.length : Int) + (l2.length : Int))) > 5000)) (by kernel_rfl) (fun h24 => ?_) (fun h24 => ?_)
  ·replace hs := of_if_t hs h24
   refine WP.stl 9 ?_
   refine WP.dn ?_
   refine NX.post ?_
   exact ⟨true, ⟨by kernel_rfl, by kernel_rfl⟩, tot, hB1, hR1, hR2, hB2, hR3, hR4, hB3, hB4, hs⟩
  replace hs := of_if_f hs h24
  refine WP.stl 1 ?_
  refine WP.loadB (v := .slice a3 n3 c3) hB2 (by kernel_rfl) (by as_aux_lemma => kernel_rfl) ?_
  refine WP.len (a := a3) (cp := c3) hR3.len (by kernel_rfl) ?_
  refine WP.stl 1 ?_
  refine WP.loadB (v := .slice a4 n4 c4) hB2 (by kernel_rfl) (by as_aux_lemma => kernel_rfl) ?_
  refine WP.len (a := a4) (cp := c4) hR4.len (by kernel_rfl) ?_
  refine WP.stl 3 ?_
  refine WP.dn ?_
  refine NX.post ?_
  exact ⟨decide ((IntKind.i64.wrap ((l3.length : Int) + (l4.length : Int))) > 5000), ⟨by kernel_rfl, by kernel_rfl⟩, tot, hB1, hR1, hR2, hB2, hR3, hR4, hB3, hB4, hs⟩
 clear tot hs hB1 hR1 hR2 hB2 hR3 hR4 hB3 hB4
 rintro tm g ⟨q4, hF, tot, hB1, hR1, hR2, hB2, hR3, hR4, hB3, hB4, hs⟩
 clear ds
 obtain ⟨ds, rfl⟩ := hF.open
 clear hF
 unfold F.baizelaw34_PunishTells.c1 at hs
 refine CP.cond (b := q4) (by kernel_rfl) (fun h3 => ?_) (fun h3 => ?_)
 ·replace hs := of_if_t hs h3
  refine CP.seqR ?_
  replace hs := Option.bind_eq_some_iff.1 hs
  obtain ⟨q5, hk2, hs⟩ := hs
  have hcal2 := P.baizelaw34_known g q5 hk2
  refine WP.callC hcal2 (by kernel_rfl) ?_
  rintro _ g6 st6 rfl
  replace hB1 := hB1.mono st6 (fun x => x)
  replace hR1 := hR1.mono st6 (fun x => x)
  replace hR2 := hR2.mono st6 (fun x => x)
  replace hB2 := hB2.mono st6 (fun x => x)
  replace hR3 := hR3.mono st6 (fun x => x)
  replace hR4 := hR4.mono st6 (fun x => x)
  replace hB3 := hB3.mono st6 (fun x => x)
  replace hB4 := hB4.mono st6 (fun x => x)
  replace tot := tot.trans st6.pure
  refine WP.stl 1 ?_
  refine WP.dn ?_
  refine NX.then_n ?_
  refine CP.ret ?_
  refine NX.then_r ?_
  replace hs := Option.some.inj hs
  obtain rfl := hs
  exact NX.fin (v := .bool q5) (Res.still (by kernel_rfl)) tot htL rfl
 replace hs := of_if_f hs h3
 refine CP.skip ?_
 refine NX.then_n ?_
 refine CP.seqR ?_
 replace hs := Option.bind_eq_some_iff.1 hs
 obtain ⟨d6, hk3, hs⟩ := hs
 have hcal3 := P.notary_NewBook g (t + 5) (t + 6) d6 hk3
 refine WP.callC hcal3 (by kernel_rfl) ?_
 rintro _ g7 st7 ⟨b5, b6, rfl, hB5, hB6⟩
 replace hB1 := hB1.mono st7 (fun x => x)
 replace hR1 := hR1.mono st7 (fun x => x)
 replace hR2 := hR2.mono st7 (fun x => x)
 replace hB2 := hB2.mono st7 (fun x => x)
 replace hR3 := hR3.mono st7 (fun x => x)
 replace hR4 := hR4.mono st7 (fun x => x)
 replace hB3 := hB3.mono st7 (fun x => x)
 replace hB4 := hB4.mono st7 (fun x => x)
 replace tot := tot.trans st7.pure
 refine WP.stl 1 ?_
 refine WP.dn ?_
 refine NX.then_n ?_
 refine CP.seq ?_
 refine CP.seqR ?_
 refine WP.stl 2 ?_
 refine WP.dn ?_
 refine NX.then_n ?_
 refine CP.cond_f (by kernel_rfl) ?_
 refine CP.skip ?_
 refine NX.then_n ?_
 refine CP.seq ?_
 replace hs := Option.bind_eq_some_iff.1 hs
 obtain ⟨⟨x8, d7, x9, l5, d8, x10, d9, l6, l7⟩, hk4, hs⟩ := hs
 dsimp only at hs
 replace hs := Option.bind_eq_some_iff.1 hs
 obtain ⟨⟨x11, d10, x12, l8, d11, x13, d12, l9, l10⟩, hk5, hs⟩ := hs
 dsimp only at hs
 refine CP.drawL (by as_aux_lemma => kernel_rfl) [0, 1, 2, 3, 4, 5, 6, 7] N.baizelaw34_PunishTells_0 [⟨none, [], [], fun l g => Box g (t + 1) b1 35 [[.int .i64 x1], encA .u8 d1, [.int .i64 x2], encA .u8 d2, [.slice a1 n1 c1], [.slice a2 n2 c2], [.bool q1]] [1, 8, 1, 8, 1, 1, 1]⟩, ⟨none, [], [], fun l g => RdS (Kd.int .u8) g 5 a1 n1 c1 l1⟩, ⟨none, [], [], fun l g => RdS (Kd.int .u8) g 5 a2 n2 c2 l2⟩, ⟨none, [], [], fun l g => Box g (t + 2) b2 35 [[.int .i64 x3], encA .u8 d3, [.int .i64 x4], encA .u8 d4, [.slice a3 n3 c3], [.slice a4 n4 c4], [.bool q2]] [1, 8, 1, 8, 1, 1, 1]⟩, ⟨none, [], [], fun l g => RdS (Kd.int .u8) g 5 a3 n3 c3 l3⟩, ⟨none, [], [], fun l g => RdS (Kd.int .u8) g 5 a4 n4 c4 l4⟩, ⟨some 0, [], [0], fun l g => l.getD 0 undef = AG [[.int .i64 x1], encA .u8 d1, [.int .i64 x2], encA .u8 d2, [.slice a1 n1 c1], [.slice a2 n2 c2], [.bool q1]]⟩, ⟨some 1, [], [1], fun l g => ∃ (a5 : Option Addr) (c5 : Nat) (a6 : Option Addr) (c6 : Nat) (a7 : Option Addr) (c7 : Nat), l.getD 0 undef = AG [[.int .i64 x8], encA .u8 d7, [.int .i64 x9], [.slice a5 l5.length c5], encA .u8 d8, [.int .i64 x10], encA .u8 d9, [.slice a6 l6.length c6], [.slice a7 l7.length c7]] ∧ RdS (Kd.int .u8) g 5 a5 l5.length c5 l5 ∧ RdS (Kd.int .u8) g 5 a6 l6.length c6 l6 ∧ RdS (Kd.int .u8) g 5 a7 l7.length c7 l7⟩, ⟨some 2, [], [2], fun l g => l.getD 0 undef = AG [[.int .i64 x3], encA .u8 d3, [.int .i64 x4], encA .u8 d4, [.slice a3 n3 c3], [.slice a4 n4 c4], [.bool q2]]⟩, ⟨some 3, [], [3], fun l g => ∃ (a8 : Option Addr) (c8 : Nat) (a9 : Option Addr) (c9 : Nat) (a10 : Option Addr) (c10 : Nat), l.getD 0 undef = AG [[.int .i64 x11], encA .u8 d10, [.int .i64 x12], [.slice a8 l8.length c8], encA .u8 d11, [.int .i64 x13], encA .u8 d12, [.slice a9 l9.length c9], [.slice a10 l10.length c10]] ∧ RdS (Kd.int .u8) g 5 a8 l8.length c8 l8 ∧ RdS (Kd.int .u8) g 5 a9 l9.length c9 l9 ∧ RdS (Kd.int .u8) g 5 a10 l10.length c10 l10⟩, ⟨some 4, [0], [4], fun l g => ∃ (b7 : Nat), l.getD 0 undef = .pointer (some ⟨b7, 0, none⟩) ∧ Box g (t + 7) b7 43 [[.int .i64 0], encA .u8 (zA 8), [.int .i64 0], [.slice none 0 0], encA .u8 (zA 8), [.int .i64 0], encA .u8 (zA 8), [.slice none 0 0], [.slice none 0 0]] [1, 8, 1, 1, 8, 1, 8, 1, 1]⟩, ⟨some 5, [1], [5], fun l g => ∃ (b8 : Nat), l.getD 0 undef = .pointer (some ⟨b8, 0, none⟩) ∧ Box g (t + 8) b8 43 [[.int .i64 0], encA .u8 (zA 8), [.int .i64 0], [.slice none 0 0], encA .u8 (zA 8), [.int .i64 0], encA .u8 (zA 8), [.slice none 0 0], [.slice none 0 0]] [1, 8, 1, 1, 8, 1, 8, 1, 1]⟩, ⟨some 6, [0], [4, 1], fun l g => ∃ (b7 : Nat) (a5 : Option Addr) (c5 : Nat) (a6 : Option Addr) (c6 : Nat) (a7 : Option Addr) (c7 : Nat), l.getD 0 undef = .pointer (some ⟨b7, 0, none⟩) ∧ l.getD 1 undef = AG [[.int .i64 x8], encA .u8 d7, [.int .i64 x9], [.slice a5 l5.length c5], encA .u8 d8, [.int .i64 x10], encA .u8 d9, [.slice a6 l6.length c6], [.slice a7 l7.length c7]] ∧ Box g (t + 7) b7 43 [[.int .i64 x8], encA .u8 d7, [.int .i64 x9], [.slice a5 l5.length c5], encA .u8 d8, [.int .i64 x10], encA .u8 d9, [.slice a6 l6.length c6], [.slice a7 l7.length c7]] [1, 8, 1, 1, 8, 1, 8, 1, 1] ∧ RdS (Kd.int .u8) g 5 a5 l5.length c5 l5 ∧ RdS (Kd.int .u8) g 5 a6 l6.length c6 l6 ∧ RdS (Kd.int .u8) g 5 a7 l7.length c7 l7⟩, ⟨some 7, [1], [5, 3], fun l g => ∃ (b8 : Nat) (a8 : Option Addr) (c8 : Nat) (a9 : Option Addr) (c9 : Nat) (a10 : Option Addr) (c10 : Nat), l.getD 0 undef = .pointer (some ⟨b8, 0, none⟩) ∧ l.getD 1 undef = AG [[.int .i64 x11], encA .u8 d10, [.int .i64 x12], [.slice a8 l8.length c8], encA .u8 d11, [.int .i64 x13], encA .u8 d12, [.slice a9 l9.length c9], [.slice a10 l10.length c10]] ∧ Box g (t + 8) b8 43 [[.int .i64 x11], encA .u8 d10, [.int .i64 x12], [.slice a8 l8.length c8], encA .u8 d11, [.int .i64 x13], encA .u8 d12, [.slice a9 l9.length c9], [.slice a10 l10.length c10]] [1, 8, 1, 1, 8, 1, 8, 1, 1] ∧ RdS (Kd.int .u8) g 5 a8 l8.length c8 l8 ∧ RdS (Kd.int .u8) g 5 a9 l9.length c9 l9 ∧ RdS (Kd.int .u8) g 5 a10 l10.length c10 l10⟩] [[], [], [], [], [], [], [0], [1]] [(t + 7), (t + 8)] [] [] (by as_aux_lemma => kernel_rfl) (by simp <;> omega) (by simp <;> omega) ⟨fun _ _ _ _ st h0 hl hj hB1 => (hB1.mono st (fun h => absurd (hl _ h) (by simp <;> omega))), fun _ _ _ _ st h0 hl hj hR1 => (RdS.mono (e := 5) hR1 st h0), fun _ _ _ _ st h0 hl hj hR2 => (RdS.mono (e := 5) hR2 st h0), fun _ _ _ _ st h0 hl hj hB2 => (hB2.mono st (fun h => absurd (hl _ h) (by simp <;> omega))), fun _ _ _ _ st h0 hl hj hR3 => (RdS.mono (e := 5) hR3 st h0), fun _ _ _ _ st h0 hl hj hR4 => (RdS.mono (e := 5) hR4 st h0), fun _ _ _ _ st h0 hl hj e0 => e0, fun _ _ _ _ st h0 hl hj ⟨a5, c5, a6, c6, a7, c7, e1, hR5, hR6, hR7⟩ => ⟨a5, c5, a6, c6, a7, c7, e1, (RdS.mono (e := 5) hR5 st h0), (RdS.mono (e := 5) hR6 st h0), (RdS.mono (e := 5) hR7 st h0)⟩, fun _ _ _ _ st h0 hl hj e2 => e2, fun _ _ _ _ st h0 hl hj ⟨a8, c8, a9, c9, a10, c10, e3, hR8, hR9, hR10⟩ => ⟨a8, c8, a9, c9, a10, c10, e3, (RdS.mono (e := 5) hR8 st h0), (RdS.mono (e := 5) hR9 st h0), (RdS.mono (e := 5) hR10 st h0)⟩, fun _ _ _ _ st h0 hl hj ⟨b7, e4, hB7⟩ => ⟨b7, e4, (hB7.mono st (hj 0 (by simp) _ rfl))⟩, fun _ _ _ _ st h0 hl hj ⟨b8, e5, hB8⟩ => ⟨b8, e5, (hB8.mono st (hj 1 (by simp) _ rfl))⟩, fun _ _ _ _ st h0 hl hj ⟨b7, a5, c5, a6, c6, a7, c7, e4, e1, hB7, hR5, hR6, hR7⟩ => ⟨b7, a5, c5, a6, c6, a7, c7, e4, e1, (hB7.mono st (hj 0 (by simp) _ rfl)), (RdS.mono (e := 5) hR5 st h0), (RdS.mono (e := 5) hR6 st h0), (RdS.mono (e := 5) hR7 st h0)⟩, fun _ _ _ _ st h0 hl hj ⟨b8, a8, c8, a9, c9, a10, c10, e5, e3, hB8, hR8, hR9, hR10⟩ => ⟨b8, a8, c8, a9, c9, a10, c10, e5, e3, (hB8.mono st (hj 1 (by simp) _ rfl)), (RdS.mono (e := 5) hR8 st h0), (RdS.mono (e := 5) hR9 st h0), (RdS.mono (e := 5) hR10 st h0)⟩, tv⟩ ⟨hB1, hR1, hR2, hB2, hR3, hR4, tv, tv, tv, tv, tv, tv, tv, tv, tv⟩ (by as_aux_lemma => kernel_rfl) (fun vs => by as_aux_lemma => kernel_rfl) ?_ ?_ ?_
 ·intro j hj; exact absurd hj (by simp)
 ·intro j hj
  have hq : j = 0 ∨ j = 1 ∨ j = 2 ∨ j = 3 ∨ j = 4 ∨ j = 5 ∨ j = 6 ∨ j = 7 := by have h : j < 8 := hj; omega
  rcases hq with rfl | rfl | rfl | rfl | rfl | rfl | rfl | rfl
  ·intro vs gq stq hl hf
   obtain ⟨v0, v1, v2, v3, v4, v5, v6, v7, rfl⟩ := len_k8 hl
   have hB1 := (show Box gq (t + 1) b1 35 [[.int .i64 x1], encA .u8 d1, [.int .i64 x2], encA .u8 d2, [.slice a1 n1 c1], [.slice a2 n2 c2], [.bool q1]] [1, 8, 1, 8, 1, 1, 1] from hf _ (memI 0 rfl) (by as_aux_lemma => kernel_rfl))
   refine WP.loadB (v := AG [[.int .i64 x1], encA .u8 d1, [.int .i64 x2], encA .u8 d2, [.slice a1 n1 c1], [.slice a2 n2 c2], [.bool q1]]) hB1 (by kernel_rfl) (by as_aux_lemma => kernel_rfl) ?_
   refine WP.dn (Shown.ok (v := AG [[.int .i64 x1], encA .u8 d1, [.int .i64 x2], encA .u8 d2, [.slice a1 n1 c1], [.slice a2 n2 c2], [.bool q1]]) (by kernel_rfl) (Step.refl _ _) ?_)
   exact t4 ⟨tv, tv, rfl, (t4 ⟨tv, tv, tv, tv⟩)⟩
  ·intro vs gq stq hl hf
   obtain ⟨v0, v1, v2, v3, v4, v5, v6, v7, rfl⟩ := len_k8 hl
   have hR1 := (show RdS (Kd.int .u8) gq 5 a1 n1 c1 l1 from hf _ (memI 1 rfl) (by as_aux_lemma => kernel_rfl))
   have hR2 := (show RdS (Kd.int .u8) gq 5 a2 n2 c2 l2 from hf _ (memI 2 rfl) (by as_aux_lemma => kernel_rfl))
   obtain rfl : v0 = AG [[.int .i64 x1], encA .u8 d1, [.int .i64 x2], encA .u8 d2, [.slice a1 n1 c1], [.slice a2 n2 c2], [.bool q1]] := hf _ (memI 6 rfl) (by as_aux_lemma => kernel_rfl)
   have hcal4 := P.baizelaw34_Of gq x1 d1 x2 d2 l1 l2 q1 a1 n1 c1 a2 n2 c2 hR1 hR2 x8 d7 x9 l5 d8 x10 d9 l6 l7 hk4
   refine WP.callC hcal4 (by kernel_rfl) ?_
   rintro _ g8 st8 ⟨a5, n5, c5, a6, n6, c6, a7, n7, c7, rfl, hR5, hR6, hR7⟩
   obtain rfl := hR5.len
   obtain rfl := hR6.len
   obtain rfl := hR7.len
   refine WP.dn (Shown.o (v := AG [[.int .i64 x8], encA .u8 d7, [.int .i64 x9], [.slice a5 l5.length c5], encA .u8 d8, [.int .i64 x10], encA .u8 d9, [.slice a6 l6.length c6], [.slice a7 l7.length c7]]) st8.pure ?_)
   exact t4 ⟨tv, tv, tv, ⟨a5, c5, a6, c6, a7, c7, rfl, hR5, hR6, hR7⟩, (t4 ⟨tv, tv, tv⟩)⟩
  ·intro vs gq stq hl hf
   obtain ⟨v0, v1, v2, v3, v4, v5, v6, v7, rfl⟩ := len_k8 hl
   have hB2 := (show Box gq (t + 2) b2 35 [[.int .i64 x3], encA .u8 d3, [.int .i64 x4], encA .u8 d4, [.slice a3 n3 c3], [.slice a4 n4 c4], [.bool q2]] [1, 8, 1, 8, 1, 1, 1] from hf _ (memI 3 rfl) (by as_aux_lemma => kernel_rfl))
   refine WP.loadB (v := AG [[.int .i64 x3], encA .u8 d3, [.int .i64 x4], encA .u8 d4, [.slice a3 n3 c3], [.slice a4 n4 c4], [.bool q2]]) hB2 (by kernel_rfl) (by as_aux_lemma => kernel_rfl) ?_
   refine WP.dn (Shown.ok (v := AG [[.int .i64 x3], encA .u8 d3, [.int .i64 x4], encA .u8 d4, [.slice a3 n3 c3], [.slice a4 n4 c4], [.bool q2]]) (by kernel_rfl) (Step.refl _ _) ?_)
   exact t8 ⟨rfl, (t4 ⟨tv, tv⟩)⟩
  ·intro vs gq stq hl hf
   obtain ⟨v0, v1, v2, v3, v4, v5, v6, v7, rfl⟩ := len_k8 hl
   have hR3 := (show RdS (Kd.int .u8) gq 5 a3 n3 c3 l3 from hf _ (memI 4 rfl) (by as_aux_lemma => kernel_rfl))
   have hR4 := (show RdS (Kd.int .u8) gq 5 a4 n4 c4 l4 from hf _ (memI 5 rfl) (by as_aux_lemma => kernel_rfl))
   obtain rfl : v2 = AG [[.int .i64 x3], encA .u8 d3, [.int .i64 x4], encA .u8 d4, [.slice a3 n3 c3], [.slice a4 n4 c4], [.bool q2]] := hf _ (memI 8 rfl) (by as_aux_lemma => kernel_rfl)
   have hcal5 := P.baizelaw34_Of gq x3 d3 x4 d4 l3 l4 q2 a3 n3 c3 a4 n4 c4 hR3 hR4 x11 d10 x12 l8 d11 x13 d12 l9 l10 hk5
   refine WP.callC hcal5 (by kernel_rfl) ?_
   rintro _ g9 st9 ⟨a8, n8, c8, a9, n9, c9, a10, n10, c10, rfl, hR8, hR9, hR10⟩
   obtain rfl := hR8.len
   obtain rfl := hR9.len
   obtain rfl := hR10.len
   refine WP.dn (Shown.o (v := AG [[.int .i64 x11], encA .u8 d10, [.int .i64 x12], [.slice a8 l8.length c8], encA .u8 d11, [.int .i64 x13], encA .u8 d12, [.slice a9 l9.length c9], [.slice a10 l10.length c10]]) st9.pure ?_)
   exact t8 ⟨tv, ⟨a8, c8, a9, c9, a10, c10, rfl, hR8, hR9, hR10⟩, (t4 tv)⟩
  ·intro vs gq stq hl hf
   obtain ⟨v0, v1, v2, v3, v4, v5, v6, v7, rfl⟩ := len_k8 hl
   refine WP.alloc (T := 43) (t + 7) [[.int .i64 0], encA .u8 (zA 8), [.int .i64 0], [.slice none 0 0], encA .u8 (zA 8), [.int .i64 0], encA .u8 (zA 8), [.slice none 0 0], [.slice none 0 0]] [1, 8, 1, 1, 8, 1, 8, 1, 1] (by kernel_rfl) (by simp [len_encA]) ?_
   intro g10 b7 st10 hB7
   refine WP.dn (Shown.o (v := .pointer (some ⟨b7, 0, none⟩)) st10.pure ?_)
   exact t8 ⟨tv, tv, ⟨b7, rfl, hB7⟩, tv, tv, tv, tv⟩
  ·intro vs gq stq hl hf
   obtain ⟨v0, v1, v2, v3, v4, v5, v6, v7, rfl⟩ := len_k8 hl
   refine WP.alloc (T := 43) (t + 8) [[.int .i64 0], encA .u8 (zA 8), [.int .i64 0], [.slice none 0 0], encA .u8 (zA 8), [.int .i64 0], encA .u8 (zA 8), [.slice none 0 0], [.slice none 0 0]] [1, 8, 1, 1, 8, 1, 8, 1, 1] (by kernel_rfl) (by simp [len_encA]) ?_
   intro g11 b8 st11 hB8
   refine WP.dn (Shown.o (v := .pointer (some ⟨b8, 0, none⟩)) st11.pure ?_)
   exact t8 ⟨tv, tv, tv, ⟨b8, rfl, hB8⟩, tv, tv, tv⟩
  ·intro vs gq stq hl hf
   obtain ⟨v0, v1, v2, v3, v4, v5, v6, v7, rfl⟩ := len_k8 hl
   obtain ⟨a5, c5, a6, c6, a7, c7, e1, hR5, hR6, hR7⟩ := (show ∃ (a5 : Option Addr) (c5 : Nat) (a6 : Option Addr) (c6 : Nat) (a7 : Option Addr) (c7 : Nat), v1 = AG [[.int .i64 x8], encA .u8 d7, [.int .i64 x9], [.slice a5 l5.length c5], encA .u8 d8, [.int .i64 x10], encA .u8 d9, [.slice a6 l6.length c6], [.slice a7 l7.length c7]] ∧ RdS (Kd.int .u8) gq 5 a5 l5.length c5 l5 ∧ RdS (Kd.int .u8) gq 5 a6 l6.length c6 l6 ∧ RdS (Kd.int .u8) gq 5 a7 l7.length c7 l7 from hf _ (memI 7 rfl) (by as_aux_lemma => kernel_rfl))
   subst e1
   obtain ⟨b7, e4, hB7⟩ := (show ∃ (b7 : Nat), v4 = .pointer (some ⟨b7, 0, none⟩) ∧ Box gq (t + 7) b7 43 [[.int .i64 0], encA .u8 (zA 8), [.int .i64 0], [.slice none 0 0], encA .u8 (zA 8), [.int .i64 0], encA .u8 (zA 8), [.slice none 0 0], [.slice none 0 0]] [1, 8, 1, 1, 8, 1, 8, 1, 1] from hf _ (memI 10 rfl) (by as_aux_lemma => kernel_rfl))
   subst e4
   refine WP.storeB (ty := 43) (off := 0) (v := AG [[.int .i64 x8], encA .u8 d7, [.int .i64 x9], [.slice a5 l5.length c5], encA .u8 d8, [.int .i64 x10], encA .u8 d9, [.slice a6 l6.length c6], [.slice a7 l7.length c7]]) hB7 [[.int .i64 x8], encA .u8 d7, [.int .i64 x9], [.slice a5 l5.length c5], encA .u8 d8, [.int .i64 x10], encA .u8 d9, [.slice a6 l6.length c6], [.slice a7 l7.length c7]] [1, 8, 1, 1, 8, 1, 8, 1, 1] (by kernel_rfl) (by as_aux_lemma => kernel_rfl) (by simp [len_encA]) (by kernel_rfl) [[.int .i64 x8], encA .u8 d7, [.int .i64 x9], [.slice a5 l5.length c5], encA .u8 d8, [.int .i64 x10], encA .u8 d9, [.slice a6 l6.length c6], [.slice a7 l7.length c7]] (by kernel_rfl) (.one rfl (.arr (.one rfl (.one rfl (.arr (.one rfl (.arr (.one rfl (.one rfl .nil))))))))) ?_
   intro g12 st12 hB9
   refine WP.dn (Shown.o (v := undef) st12 ?_)
   exact t8 (t4 ⟨⟨b7, a5, c5, a6, c6, a7, c7, rfl, rfl, hB9, (hR5.mono st12 (WL.no (by simp <;> omega))), (hR6.mono st12 (WL.no (by simp <;> omega))), (hR7.mono st12 (WL.no (by simp <;> omega)))⟩, tv, tv⟩)
  ·intro vs gq stq hl hf
   obtain ⟨v0, v1, v2, v3, v4, v5, v6, v7, rfl⟩ := len_k8 hl
   obtain ⟨a8, c8, a9, c9, a10, c10, e3, hR8, hR9, hR10⟩ := (show ∃ (a8 : Option Addr) (c8 : Nat) (a9 : Option Addr) (c9 : Nat) (a10 : Option Addr) (c10 : Nat), v3 = AG [[.int .i64 x11], encA .u8 d10, [.int .i64 x12], [.slice a8 l8.length c8], encA .u8 d11, [.int .i64 x13], encA .u8 d12, [.slice a9 l9.length c9], [.slice a10 l10.length c10]] ∧ RdS (Kd.int .u8) gq 5 a8 l8.length c8 l8 ∧ RdS (Kd.int .u8) gq 5 a9 l9.length c9 l9 ∧ RdS (Kd.int .u8) gq 5 a10 l10.length c10 l10 from hf _ (memI 9 rfl) (by as_aux_lemma => kernel_rfl))
   subst e3
   obtain ⟨b8, e5, hB8⟩ := (show ∃ (b8 : Nat), v5 = .pointer (some ⟨b8, 0, none⟩) ∧ Box gq (t + 8) b8 43 [[.int .i64 0], encA .u8 (zA 8), [.int .i64 0], [.slice none 0 0], encA .u8 (zA 8), [.int .i64 0], encA .u8 (zA 8), [.slice none 0 0], [.slice none 0 0]] [1, 8, 1, 1, 8, 1, 8, 1, 1] from hf _ (memI 11 rfl) (by as_aux_lemma => kernel_rfl))
   subst e5
   refine WP.storeB (ty := 43) (off := 0) (v := AG [[.int .i64 x11], encA .u8 d10, [.int .i64 x12], [.slice a8 l8.length c8], encA .u8 d11, [.int .i64 x13], encA .u8 d12, [.slice a9 l9.length c9], [.slice a10 l10.length c10]]) hB8 [[.int .i64 x11], encA .u8 d10, [.int .i64 x12], [.slice a8 l8.length c8], encA .u8 d11, [.int .i64 x13], encA .u8 d12, [.slice a9 l9.length c9], [.slice a10 l10.length c10]] [1, 8, 1, 1, 8, 1, 8, 1, 1] (by kernel_rfl) (by as_aux_lemma => kernel_rfl) (by simp [len_encA]) (by kernel_rfl) [[.int .i64 x11], encA .u8 d10, [.int .i64 x12], [.slice a8 l8.length c8], encA .u8 d11, [.int .i64 x13], encA .u8 d12, [.slice a9 l9.length c9], [.slice a10 l10.length c10]] (by kernel_rfl) (.one rfl (.arr (.one rfl (.one rfl (.arr (.one rfl (.arr (.one rfl (.one rfl .nil))))))))) ?_
   intro g13 st13 hB10
   refine WP.dn (Shown.o (v := undef) st13 ?_)
   exact t8 (t4 ⟨tv, ⟨b8, a8, c8, a9, c9, a10, c10, rfl, rfl, hB10, (hR8.mono st13 (WL.no (by simp <;> omega))), (hR9.mono st13 (WL.no (by simp <;> omega))), (hR10.mono st13 (WL.no (by simp <;> omega)))⟩, tv⟩)
 intro vs g14 st14 hl hf
 obtain ⟨v0, v1, v2, v3, v4, v5, v6, v7, rfl⟩ := len_k8 hl
 obtain ⟨b7, a5, c5, a6, c6, a7, c7, e4, e1, hB7, hR5, hR6, hR7⟩ := (show ∃ (b7 : Nat) (a5 : Option Addr) (c5 : Nat) (a6 : Option Addr) (c6 : Nat) (a7 : Option Addr) (c7 : Nat), v4 = .pointer (some ⟨b7, 0, none⟩) ∧ v1 = AG [[.int .i64 x8], encA .u8 d7, [.int .i64 x9], [.slice a5 l5.length c5], encA .u8 d8, [.int .i64 x10], encA .u8 d9, [.slice a6 l6.length c6], [.slice a7 l7.length c7]] ∧ Box g14 (t + 7) b7 43 [[.int .i64 x8], encA .u8 d7, [.int .i64 x9], [.slice a5 l5.length c5], encA .u8 d8, [.int .i64 x10], encA .u8 d9, [.slice a6 l6.length c6], [.slice a7 l7.length c7]] [1, 8, 1, 1, 8, 1, 8, 1, 1] ∧ RdS (Kd.int .u8) g14 5 a5 l5.length c5 l5 ∧ RdS (Kd.int .u8) g14 5 a6 l6.length c6 l6 ∧ RdS (Kd.int .u8) g14 5 a7 l7.length c7 l7 from hf _ (memI 12 rfl) (by as_aux_lemma => kernel_rfl))
 subst e4
 subst e1
 obtain ⟨b8, a8, c8, a9, c9, a10, c10, e5, e3, hB8, hR8, hR9, hR10⟩ := (show ∃ (b8 : Nat) (a8 : Option Addr) (c8 : Nat) (a9 : Option Addr) (c9 : Nat) (a10 : Option Addr) (c10 : Nat), v5 = .pointer (some ⟨b8, 0, none⟩) ∧ v3 = AG [[.int .i64 x11], encA .u8 d10, [.int .i64 x12], [.slice a8 l8.length c8], encA .u8 d11, [.int .i64 x13], encA .u8 d12, [.slice a9 l9.length c9], [.slice a10 l10.length c10]] ∧ Box g14 (t + 8) b8 43 [[.int .i64 x11], encA .u8 d10, [.int .i64 x12], [.slice a8 l8.length c8], encA .u8 d11, [.int .i64 x13], encA .u8 d12, [.slice a9 l9.length c9], [.slice a10 l10.length c10]] [1, 8, 1, 1, 8, 1, 8, 1, 1] ∧ RdS (Kd.int .u8) g14 5 a8 l8.length c8 l8 ∧ RdS (Kd.int .u8) g14 5 a9 l9.length c9 l9 ∧ RdS (Kd.int .u8) g14 5 a10 l10.length c10 l10 from hf _ (memI 13 rfl) (by as_aux_lemma => kernel_rfl))
 subst e5
 subst e3
 replace hB1 := hB1.mono st14 (WL.no2 (by omega) (by omega))
 replace hR1 := hR1.mono st14 (WL.no2 (by omega) (by omega))
 replace hR2 := hR2.mono st14 (WL.no2 (by omega) (by omega))
 replace hB2 := hB2.mono st14 (WL.no2 (by omega) (by omega))
 replace hR3 := hR3.mono st14 (WL.no2 (by omega) (by omega))
 replace hR4 := hR4.mono st14 (WL.no2 (by omega) (by omega))
 replace hB3 := hB3.mono st14 (WL.no2 (by omega) (by omega))
 replace hB4 := hB4.mono st14 (WL.no2 (by omega) (by omega))
 replace hB5 := hB5.mono st14 (WL.no2 (by omega) (by omega))
 replace hB6 := hB6.mono st14 (WL.no2 (by omega) (by omega))
 replace tot := tot.trans (st14.up2 (.inr (by omega)) (.inr (by omega)))
 refine NX.then_n ?_
 refine CP.refr 175 [(4, .pointer (some ⟨b1, 0, none⟩)), (5, .pointer (some ⟨b2, 0, none⟩)), (6, .pointer (some ⟨b3, 0, none⟩)), (7, .pointer (some ⟨b4, 0, none⟩)), (9, .pointer (some ⟨b5, 0, none⟩)), (10, .pointer (some ⟨b7, 0, none⟩)), (11, .pointer (some ⟨b8, 0, none⟩))] (by kernel_rfl) (by as_aux_lemma => kernel_rfl) ?_
 clear ds
 intro ds
 refine CP.cut (fun tm g => ∃ (l12 : List S_notary_entry) (a13 : Option Addr) (n13 : Nat) (c13 : Nat) (w1 : (List (S_notary_entry × Int))) (l13 : List Int) (a14 : Option Addr) (n14 : Nat) (c14 : Nat), Fr 175 [(4, .pointer (some ⟨b1, 0, none⟩)), (5, .pointer (some ⟨b2, 0, none⟩)), (6, .pointer (some ⟨b3, 0, none⟩)), (7, .pointer (some ⟨b4, 0, none⟩)), (9, .pointer (some ⟨b5, 0, none⟩)), (10, .pointer (some ⟨b7, 0, none⟩)), (11, .pointer (some ⟨b8, 0, none⟩))] tm ∧ Step (fun l => NoM l ∨ t ≤ l) g0 g ∧ Box g (t + 1) b1 35 [[.int .i64 x1], encA .u8 d1, [.int .i64 x2], encA .u8 d2, [.slice a1 n1 c1], [.slice a2 n2 c2], [.bool q1]] [1, 8, 1, 8, 1, 1, 1] ∧ RdS (Kd.int .u8) g 5 a1 n1 c1 l1 ∧ RdS (Kd.int .u8) g 5 a2 n2 c2 l2 ∧ Box g (t + 2) b2 35 [[.int .i64 x3], encA .u8 d3, [.int .i64 x4], encA .u8 d4, [.slice a3 n3 c3], [.slice a4 n4 c4], [.bool q2]] [1, 8, 1, 8, 1, 1, 1] ∧ RdS (Kd.int .u8) g 5 a3 n3 c3 l3 ∧ RdS (Kd.int .u8) g 5 a4 n4 c4 l4 ∧ Box g (t + 3) b3 32 [encA .u8 d5] [8] ∧ Box g (t + 4) b4 56 [[.int .u8 x5], [.int .u8 x6], [.int .u8 x7]] [1, 1, 1] ∧ Box g (t + 5) b5 121 [[.slice a13 n13 c13], [.map (some b6)]] [1, 1] ∧ OwnS k_S_notary_entry g (t + 9) 126 a13 n13 c13 l12 ∧ MapB g (t + 6) b6 kv_S_notary_entry (Value.int .i64) w1 ∧ Box g (t + 7) b7 43 [[.int .i64 x8], encA .u8 d7, [.int .i64 x9], [.slice a5 l5.length c5], encA .u8 d8, [.int .i64 x10], encA .u8 d9, [.slice a6 l6.length c6], [.slice a14 n14 c14]] [1, 8, 1, 1, 8, 1, 8, 1, 1] ∧ RdS (Kd.int .u8) g 5 a5 l5.length c5 l5 ∧ RdS (Kd.int .u8) g 5 a6 l6.length c6 l6 ∧ RdS (Kd.int .u8) g 5 a14 n14 c14 l13 ∧ Box g (t + 8) b8 43 [[.int .i64 x11], encA .u8 d10, [.int .i64 x12], [.slice a8 l8.length c8], encA .u8 d11, [.int .i64 x13], encA .u8 d12, [.slice a9 l9.length c9], [.slice a10 l10.length c10]] [1, 8, 1, 1, 8, 1, 8, 1, 1] ∧ RdS (Kd.int .u8) g 5 a8 l8.length c8 l8 ∧ RdS (Kd.int .u8) g 5 a9 l9.length c9 l9 ∧ RdS (Kd.int .u8) g 5 a10 l10.length c10 l10 ∧ (F.baizelaw34_PunishTells.c2 x1 d1 x2 d2 l1 q1 x3 d3 x4 d4 l3 q2 d5 x6 x7 x8 d7 x9 l5 d8 x10 d9 l6 x11 d10 x12 l8 d11 x13 d12 l9 l10 l12 w1 l13) = some o1) ?_ ?_
 ·refine CP.seqR ?_
  refine WP.stl 1 ?_
  refine WP.loadB (v := .int .u8 x5) hB4 (by kernel_rfl) (by as_aux_lemma => kernel_rfl) ?_
  refine WP.stl 2 ?_
  refine WP.dn ?_
  refine NX.then_n ?_
  refine CP.cond (b := decide ((x5.tmod 4) > 0)) (by kernel_rfl) (fun h22 => ?_) (fun h22 => ?_)
  ·replace hs := of_if_t hs h22
   replace hs := Option.bind_eq_some_iff.1 hs
   obtain ⟨d41, hk46, hs⟩ := hs
   replace hs := Option.bind_eq_some_iff.1 hs
   obtain ⟨d42, hk47, hs⟩ := hs
   replace hs := Option.bind_eq_some_iff.1 hs
   obtain ⟨d43, hk48, hs⟩ := hs
   replace hs := Option.bind_eq_some_iff.1 hs
   obtain ⟨⟨l18, x30, d44, d45⟩, hk49, hs⟩ := hs
   dsimp only at hs
   refine CP.drawL (by as_aux_lemma => kernel_rfl) [2, 4, 5, 6, 7, 11, 16] N.baizelaw34_PunishTells_5 [⟨none, [], [], fun l g => Box g (t + 4) b4 56 [[.int .u8 x5], [.int .u8 x6], [.int .u8 x7]] [1, 1, 1]⟩, ⟨none, [1], [], fun l g => Box g (t + 5) b5 121 [[.slice none 0 0], [.map (some b6)]] [1, 1]⟩, ⟨none, [0], [], fun l g => MapB g (t + 6) b6 kv_S_notary_entry (Value.int .i64) d6⟩, ⟨none, [3], [], fun l g => Box g (t + 7) b7 43 [[.int .i64 x8], encA .u8 d7, [.int .i64 x9], [.slice a5 l5.length c5], encA .u8 d8, [.int .i64 x10], encA .u8 d9, [.slice a6 l6.length c6], [.slice a7 l7.length c7]] [1, 8, 1, 1, 8, 1, 8, 1, 1]⟩, ⟨none, [], [], fun l g => RdS (Kd.int .u8) g 5 a5 l5.length c5 l5⟩, ⟨none, [], [], fun l g => RdS (Kd.int .u8) g 5 a6 l6.length c6 l6⟩, ⟨none, [], [], fun l g => RdS (Kd.int .u8) g 5 a7 l7.length c7 l7⟩, ⟨some 0, [], [0], fun l g => l.getD 0 undef = .int .u8 x5⟩, ⟨some 1, [], [1], fun l g => l.getD 0 undef = AG [encA .u8 d41]⟩, ⟨some 2, [], [2], fun l g => l.getD 0 undef = .iface 123 (AG [[.pointer (some ⟨b5, 0, none⟩)], encA .u8 d42])⟩, ⟨some 3, [], [3], fun l g => l.getD 0 undef = AG [[.int .i64 x8], encA .u8 d7, [.int .i64 x9], [.slice a5 l5.length c5], encA .u8 d8, [.int .i64 x10], encA .u8 d9, [.slice a6 l6.length c6], [.slice a7 l7.length c7]]⟩, ⟨some 4, [], [4], fun l g => l.getD 0 undef = AG [encA .u8 d43]⟩, ⟨some 5, [0], [], fun l g => MapB g (t + 6) b6 kv_S_notary_entry (Value.int .i64) d44⟩, ⟨some 5, [1, 2], [5], fun l g => ∃ (a21 : Option Addr) (c21 : Nat) (a22 : Option Addr) (c22 : Nat), l.getD 0 undef = .tuple #[.slice a21 l18.length c21, .int .i64 x30] ∧ OwnS (Kd.int .u8) g (t + 17) 5 a21 l18.length c21 l18 ∧ OwnS k_S_notary_entry g (t + 16) 126 a22 d45.length c22 d45 ∧ Box g (t + 5) b5 121 [[.slice a22 d45.length c22], [.map (some b6)]] [1, 1]⟩, ⟨some 6, [1, 2, 3], [5], fun l g => ∃ (a21 : Option Addr) (c21 : Nat) (a22 : Option Addr) (c22 : Nat), l.getD 0 undef = .tuple #[.slice a21 l18.length c21, .int .i64 x30] ∧ OwnS (Kd.int .u8) g (t + 17) 5 a21 l18.length c21 l18 ∧ OwnS k_S_notary_entry g (t + 16) 126 a22 d45.length c22 d45 ∧ Box g (t + 5) b5 121 [[.slice a22 d45.length c22], [.map (some b6)]] [1, 1] ∧ Box g (t + 7) b7 43 [[.int .i64 x8], encA .u8 d7, [.int .i64 x9], [.slice a5 l5.length c5], encA .u8 d8, [.int .i64 x10], encA .u8 d9, [.slice a6 l6.length c6], [.slice a21 l18.length c21]] [1, 8, 1, 1, 8, 1, 8, 1, 1]⟩] [[], [], [], [], [], [0, 1, 2], [3]] [(t + 6), (t + 5), (t + 16), (t + 7)] [0, 1, 15] [3, 8, 9, 10, 12, 13, 14] (by as_aux_lemma => kernel_rfl) (by simp <;> omega) (by simp <;> omega) ⟨fun _ _ _ _ st h0 hl hj hB4 => (hB4.mono st (fun h => absurd (hl _ h) (by simp <;> omega))), fun _ _ _ _ st h0 hl hj hB5 => (hB5.mono st (hj 1 (by simp) _ rfl)), fun _ _ _ _ st h0 hl hj hB6 => (hB6.mono st (hj 0 (by simp) _ rfl)), fun _ _ _ _ st h0 hl hj hB7 => (hB7.mono st (hj 3 (by simp) _ rfl)), fun _ _ _ _ st h0 hl hj hR5 => (RdS.mono (e := 5) hR5 st h0), fun _ _ _ _ st h0 hl hj hR6 => (RdS.mono (e := 5) hR6 st h0), fun _ _ _ _ st h0 hl hj hR7 => (RdS.mono (e := 5) hR7 st h0), fun _ _ _ _ st h0 hl hj e0 => e0, fun _ _ _ _ st h0 hl hj e1 => e1, fun _ _ _ _ st h0 hl hj e2 => e2, fun _ _ _ _ st h0 hl hj e3 => e3, fun _ _ _ _ st h0 hl hj e4 => e4, fun _ _ _ _ st h0 hl hj hB6 => (hB6.mono st (hj 0 (by simp) _ rfl)), fun _ _ _ _ st h0 hl hj ⟨a21, c21, a22, c22, e5, hR21, hR22, hB5⟩ => ⟨a21, c21, a22, c22, e5, (hR21.mono st h0 (fun h => absurd (hl _ h) (by simp <;> omega))), (hR22.mono st h0 (hj 2 (by simp) _ rfl)), (hB5.mono st (hj 1 (by simp) _ rfl))⟩, fun _ _ _ _ st h0 hl hj ⟨a21, c21, a22, c22, e5, hR21, hR22, hB5, hB7⟩ => ⟨a21, c21, a22, c22, e5, (hR21.mono st h0 (fun h => absurd (hl _ h) (by simp <;> omega))), (hR22.mono st h0 (hj 2 (by simp) _ rfl)), (hB5.mono st (hj 1 (by simp) _ rfl)), (hB7.mono st (hj 3 (by simp) _ rfl))⟩, tv⟩ ⟨hB4, hB5, hB6, hB7, hR5, hR6, hR7, tv, tv, tv, tv, tv, tv, tv, tv, tv⟩ (by as_aux_lemma => kernel_rfl) (fun vs => by as_aux_lemma => kernel_rfl) ?_ ?_ ?_
   ·intro j hj
    have hq : j = 0 ∨ j = 1 ∨ j = 2 ∨ j = 3 ∨ j = 4 ∨ j = 5 ∨ j = 6 := by have h : j < 7 := hj; omega
    rcases hq with rfl | rfl | rfl | rfl | rfl | rfl | rfl
    ·intro vs gq stq hl hf
     obtain ⟨v0, v1, v2, v3, v4, v5, v6, rfl⟩ := len_k7 hl
     obtain rfl : v0 = .int .u8 x5 := hf _ (memI 7 rfl) (by as_aux_lemma => kernel_rfl)
     show Option.isSome _ = true
     as_aux_lemma => kernel_rfl
    ·intro vs gq stq hl hf
     obtain ⟨v0, v1, v2, v3, v4, v5, v6, rfl⟩ := len_k7 hl
     obtain rfl : v2 = .iface 123 (AG [[.pointer (some ⟨b5, 0, none⟩)], encA .u8 d42]) := hf _ (memI 9 rfl) (by as_aux_lemma => kernel_rfl)
     show Option.isSome _ = true
     as_aux_lemma => kernel_rfl
    ·intro vs gq stq hl hf
     obtain ⟨v0, v1, v2, v3, v4, v5, v6, rfl⟩ := len_k7 hl
     obtain rfl : v2 = .iface 123 (AG [[.pointer (some ⟨b5, 0, none⟩)], encA .u8 d42]) := hf _ (memI 9 rfl) (by as_aux_lemma => kernel_rfl)
     show Option.isSome _ = true
     as_aux_lemma => kernel_rfl
    ·intro vs gq stq hl hf
     obtain ⟨v0, v1, v2, v3, v4, v5, v6, rfl⟩ := len_k7 hl
     obtain rfl : v2 = .iface 123 (AG [[.pointer (some ⟨b5, 0, none⟩)], encA .u8 d42]) := hf _ (memI 9 rfl) (by as_aux_lemma => kernel_rfl)
     show Option.isSome _ = true
     as_aux_lemma => kernel_rfl
    ·intro vs gq stq hl hf
     obtain ⟨v0, v1, v2, v3, v4, v5, v6, rfl⟩ := len_k7 hl
     obtain ⟨a21, c21, a22, c22, e5, hR21, hR22, hB5⟩ := (show ∃ (a21 : Option Addr) (c21 : Nat) (a22 : Option Addr) (c22 : Nat), v5 = .tuple #[.slice a21 l18.length c21, .int .i64 x30] ∧ OwnS (Kd.int .u8) gq (t + 17) 5 a21 l18.length c21 l18 ∧ OwnS k_S_notary_entry gq (t + 16) 126 a22 d45.length c22 d45 ∧ Box gq (t + 5) b5 121 [[.slice a22 d45.length c22], [.map (some b6)]] [1, 1] from hf _ (memI 13 rfl) (by as_aux_lemma => kernel_rfl))
     subst e5
     show Option.isSome _ = true
     as_aux_lemma => kernel_rfl
    ·intro vs gq stq hl hf
     obtain ⟨v0, v1, v2, v3, v4, v5, v6, rfl⟩ := len_k7 hl
     obtain ⟨a21, c21, a22, c22, e5, hR21, hR22, hB5⟩ := (show ∃ (a21 : Option Addr) (c21 : Nat) (a22 : Option Addr) (c22 : Nat), v5 = .tuple #[.slice a21 l18.length c21, .int .i64 x30] ∧ OwnS (Kd.int .u8) gq (t + 17) 5 a21 l18.length c21 l18 ∧ OwnS k_S_notary_entry gq (t + 16) 126 a22 d45.length c22 d45 ∧ Box gq (t + 5) b5 121 [[.slice a22 d45.length c22], [.map (some b6)]] [1, 1] from hf _ (memI 13 rfl) (by as_aux_lemma => kernel_rfl))
     subst e5
     show Option.isSome _ = true
     as_aux_lemma => kernel_rfl
    ·intro vs gq stq hl hf
     obtain ⟨v0, v1, v2, v3, v4, v5, v6, rfl⟩ := len_k7 hl
     obtain ⟨a21, c21, a22, c22, e5, hR21, hR22, hB5⟩ := (show ∃ (a21 : Option Addr) (c21 : Nat) (a22 : Option Addr) (c22 : Nat), v5 = .tuple #[.slice a21 l18.length c21, .int .i64 x30] ∧ OwnS (Kd.int .u8) gq (t + 17) 5 a21 l18.length c21 l18 ∧ OwnS k_S_notary_entry gq (t + 16) 126 a22 d45.length c22 d45 ∧ Box gq (t + 5) b5 121 [[.slice a22 d45.length c22], [.map (some b6)]] [1, 1] from hf _ (memI 13 rfl) (by as_aux_lemma => kernel_rfl))
     subst e5
     show Option.isSome _ = true
     as_aux_lemma => kernel_rfl
   ·intro j hj
    have hq : j = 0 ∨ j = 1 ∨ j = 2 ∨ j = 3 ∨ j = 4 ∨ j = 5 ∨ j = 6 := by have h : j < 7 := hj; omega
    rcases hq with rfl | rfl | rfl | rfl | rfl | rfl | rfl
    ·intro vs gq stq hl hf
     obtain ⟨v0, v1, v2, v3, v4, v5, v6, rfl⟩ := len_k7 hl
     have hB4 := (show Box gq (t + 4) b4 56 [[.int .u8 x5], [.int .u8 x6], [.int .u8 x7]] [1, 1, 1] from hf _ (memI 0 rfl) (by as_aux_lemma => kernel_rfl))
     refine WP.loadB (v := .int .u8 x5) hB4 (by kernel_rfl) (by as_aux_lemma => kernel_rfl) ?_
     refine WP.dn (Shown.ok (v := .int .u8 x5) (by kernel_rfl) (Step.refl _ _) ?_)
     exact t4 ⟨tv, tv, tv, rfl, (t4 ⟨tv, tv, tv, tv⟩)⟩
    ·intro vs gq stq hl hf
     obtain ⟨v0, v1, v2, v3, v4, v5, v6, rfl⟩ := len_k7 hl
     obtain rfl : v0 = .int .u8 x5 := hf _ (memI 7 rfl) (by as_aux_lemma => kernel_rfl)
     have hcal46 := P.baizelaw34_key gq (IntKind.i64.wrap x5) d41 hk46
     refine WP.callC hcal46 (by kernel_rfl) ?_
     rintro _ g87 st87 rfl
     refine WP.dn (Shown.o (v := AG [encA .u8 d41]) st87.pure ?_)
     exact t8 ⟨rfl, (t4 ⟨tv, tv, tv⟩)⟩
    ·intro vs gq stq hl hf
     obtain ⟨v0, v1, v2, v3, v4, v5, v6, rfl⟩ := len_k7 hl
     have hB5 := (show Box gq (t + 5) b5 121 [[.slice none 0 0], [.map (some b6)]] [1, 1] from hf _ (memI 1 rfl) (by as_aux_lemma => kernel_rfl))
     have hB6 := (show MapB gq (t + 6) b6 kv_S_notary_entry (Value.int .i64) d6 from hf _ (memI 2 rfl) (by as_aux_lemma => kernel_rfl))
     obtain rfl : v1 = AG [encA .u8 d41] := hf _ (memI 8 rfl) (by as_aux_lemma => kernel_rfl)
     have hcal47 := P.notary_Book_Signer gq (t + 5) (t + 6) ([]) d6 d41 none 0 0 b5 b6 (RdS.nil _ _ _) hB6 hB5 (by omega) (by omega) (by omega) d42 hk47
     refine WP.callC hcal47 (by kernel_rfl) ?_
     rintro _ g88 st88 rfl
     refine WP.dn (Shown.o (v := .iface 123 (AG [[.pointer (some ⟨b5, 0, none⟩)], encA .u8 d42])) st88.pure ?_)
     exact t8 ⟨tv, rfl, (t4 ⟨tv, tv⟩)⟩
    ·intro vs gq stq hl hf
     obtain ⟨v0, v1, v2, v3, v4, v5, v6, rfl⟩ := len_k7 hl
     have hB7 := (show Box gq (t + 7) b7 43 [[.int .i64 x8], encA .u8 d7, [.int .i64 x9], [.slice a5 l5.length c5], encA .u8 d8, [.int .i64 x10], encA .u8 d9, [.slice a6 l6.length c6], [.slice a7 l7.length c7]] [1, 8, 1, 1, 8, 1, 8, 1, 1] from hf _ (memI 3 rfl) (by as_aux_lemma => kernel_rfl))
     refine WP.loadB (v := AG [[.int .i64 x8], encA .u8 d7, [.int .i64 x9], [.slice a5 l5.length c5], encA .u8 d8, [.int .i64 x10], encA .u8 d9, [.slice a6 l6.length c6], [.slice a7 l7.length c7]]) hB7 (by kernel_rfl) (by as_aux_lemma => kernel_rfl) ?_
     refine WP.dn (Shown.ok (v := AG [[.int .i64 x8], encA .u8 d7, [.int .i64 x9], [.slice a5 l5.length c5], encA .u8 d8, [.int .i64 x10], encA .u8 d9, [.slice a6 l6.length c6], [.slice a7 l7.length c7]]) (by kernel_rfl) (Step.refl _ _) ?_)
     exact t8 ⟨tv, tv, rfl, (t4 tv)⟩
    ·intro vs gq stq hl hf
     obtain ⟨v0, v1, v2, v3, v4, v5, v6, rfl⟩ := len_k7 hl
     have hR5 := (show RdS (Kd.int .u8) gq 5 a5 l5.length c5 l5 from hf _ (memI 4 rfl) (by as_aux_lemma => kernel_rfl))
     have hR6 := (show RdS (Kd.int .u8) gq 5 a6 l6.length c6 l6 from hf _ (memI 5 rfl) (by as_aux_lemma => kernel_rfl))
     have hR7 := (show RdS (Kd.int .u8) gq 5 a7 l7.length c7 l7 from hf _ (memI 6 rfl) (by as_aux_lemma => kernel_rfl))
     obtain rfl : v3 = AG [[.int .i64 x8], encA .u8 d7, [.int .i64 x9], [.slice a5 l5.length c5], encA .u8 d8, [.int .i64 x10], encA .u8 d9, [.slice a6 l6.length c6], [.slice a7 l7.length c7]] := hf _ (memI 10 rfl) (by as_aux_lemma => kernel_rfl)
     have hcal48 := P.punish_Thing_Digest gq x8 d7 x9 l5 d8 x10 d9 l6 l7 a5 l5.length c5 a6 l6.length c6 a7 l7.length c7 hR5 hR6 hR7 d43 hk48
     refine WP.callC hcal48 (by kernel_rfl) ?_
     rintro _ g89 st89 rfl
     refine WP.dn (Shown.o (v := AG [encA .u8 d43]) st89.pure ?_)
     exact t8 ⟨tv, tv, tv, rfl, tv, tv, tv, tv⟩
    ·intro vs gq stq hl hf
     obtain ⟨v0, v1, v2, v3, v4, v5, v6, rfl⟩ := len_k7 hl
     have hB5 := (show Box gq (t + 5) b5 121 [[.slice none 0 0], [.map (some b6)]] [1, 1] from hf _ (memI 1 rfl) (by as_aux_lemma => kernel_rfl))
     have hB6 := (show MapB gq (t + 6) b6 kv_S_notary_entry (Value.int .i64) d6 from hf _ (memI 2 rfl) (by as_aux_lemma => kernel_rfl))
     obtain rfl : v2 = .iface 123 (AG [[.pointer (some ⟨b5, 0, none⟩)], encA .u8 d42]) := hf _ (memI 9 rfl) (by as_aux_lemma => kernel_rfl)
     obtain rfl : v4 = AG [encA .u8 d43] := hf _ (memI 11 rfl) (by as_aux_lemma => kernel_rfl)
     have hcal49 := P.notary_bookSigner_Sign gq (t + 5) (t + 16) (t + 6) (t + 17) ([]) d6 d42 d43 none 0 0 b5 b6 (OwnS.nil _ _ _ _) hB6 hB5 (by omega) (by omega) (by omega) (by omega) (by omega) (by omega) l18 x30 d44 d45 hk49
     refine WP.callC hcal49 (by kernel_rfl) ?_
     rintro _ g90 st90 ⟨a21, n21, c21, a22, n22, c22, rfl, hR21, hB28, hR22, hB29⟩
     obtain rfl := hR21.len
     obtain rfl := hR22.len
     refine WP.dn (Shown.o (v := .tuple #[.slice a21 l18.length c21, .int .i64 x30]) st90 ?_)
     exact t8 (t4 ⟨hB28, ⟨a21, c21, a22, c22, rfl, hR21, hR22, hB29⟩, tv, tv⟩)
    ·intro vs gq stq hl hf
     obtain ⟨v0, v1, v2, v3, v4, v5, v6, rfl⟩ := len_k7 hl
     have hB7 := (show Box gq (t + 7) b7 43 [[.int .i64 x8], encA .u8 d7, [.int .i64 x9], [.slice a5 l5.length c5], encA .u8 d8, [.int .i64 x10], encA .u8 d9, [.slice a6 l6.length c6], [.slice a7 l7.length c7]] [1, 8, 1, 1, 8, 1, 8, 1, 1] from hf _ (memI 3 rfl) (by as_aux_lemma => kernel_rfl))
     obtain ⟨a21, c21, a22, c22, e5, hR21, hR22, hB5⟩ := (show ∃ (a21 : Option Addr) (c21 : Nat) (a22 : Option Addr) (c22 : Nat), v5 = .tuple #[.slice a21 l18.length c21, .int .i64 x30] ∧ OwnS (Kd.int .u8) gq (t + 17) 5 a21 l18.length c21 l18 ∧ OwnS k_S_notary_entry gq (t + 16) 126 a22 d45.length c22 d45 ∧ Box gq (t + 5) b5 121 [[.slice a22 d45.length c22], [.map (some b6)]] [1, 1] from hf _ (memI 13 rfl) (by as_aux_lemma => kernel_rfl))
     subst e5
     refine WP.storeB (ty := 33) (off := 29) (v := .slice a21 l18.length c21) hB7 [[.slice a21 l18.length c21]] [1] (by kernel_rfl) (by as_aux_lemma => kernel_rfl) rfl (by kernel_rfl) [[.int .i64 x8], encA .u8 d7, [.int .i64 x9], [.slice a5 l5.length c5], encA .u8 d8, [.int .i64 x10], encA .u8 d9, [.slice a6 l6.length c6], [.slice a21 l18.length c21]] (by kernel_rfl) (.one rfl .nil) ?_
     intro g91 st91 hB30
     refine WP.dn (Shown.o (v := undef) st91 ?_)
     exact t8 (t4 ⟨tv, tv, ⟨a21, c21, a22, c22, rfl, (hR21.mono st91 (WL.no (by simp <;> omega)) (WL.no (by simp <;> omega))), (hR22.mono st91 (WL.no (by simp <;> omega)) (WL.no (by simp <;> omega))), (hB5.mono st91 (WL.no (by simp <;> omega))), hB30⟩, tv⟩)
   intro vs g92 st92 hl hf
   obtain ⟨v0, v1, v2, v3, v4, v5, v6, rfl⟩ := len_k7 hl
   have hB6 := (show MapB g92 (t + 6) b6 kv_S_notary_entry (Value.int .i64) d44 from hf _ (memI 12 rfl) (by as_aux_lemma => kernel_rfl))
   obtain ⟨a21, c21, a22, c22, e5, hR21, hR22, hB5, hB7⟩ := (show ∃ (a21 : Option Addr) (c21 : Nat) (a22 : Option Addr) (c22 : Nat), v5 = .tuple #[.slice a21 l18.length c21, .int .i64 x30] ∧ OwnS (Kd.int .u8) g92 (t + 17) 5 a21 l18.length c21 l18 ∧ OwnS k_S_notary_entry g92 (t + 16) 126 a22 d45.length c22 d45 ∧ Box g92 (t + 5) b5 121 [[.slice a22 d45.length c22], [.map (some b6)]] [1, 1] ∧ Box g92 (t + 7) b7 43 [[.int .i64 x8], encA .u8 d7, [.int .i64 x9], [.slice a5 l5.length c5], encA .u8 d8, [.int .i64 x10], encA .u8 d9, [.slice a6 l6.length c6], [.slice a21 l18.length c21]] [1, 8, 1, 1, 8, 1, 8, 1, 1] from hf _ (memI 14 rfl) (by as_aux_lemma => kernel_rfl))
   subst e5
   replace hB1 := hB1.mono st92 (WL.no (by simp <;> omega))
   replace hR1 := hR1.mono st92 (WL.no (by simp <;> omega))
   replace hR2 := hR2.mono st92 (WL.no (by simp <;> omega))
   replace hB2 := hB2.mono st92 (WL.no (by simp <;> omega))
   replace hR3 := hR3.mono st92 (WL.no (by simp <;> omega))
   replace hR4 := hR4.mono st92 (WL.no (by simp <;> omega))
   replace hB3 := hB3.mono st92 (WL.no (by simp <;> omega))
   replace hB4 := hB4.mono st92 (WL.no (by simp <;> omega))
   replace hR5 := hR5.mono st92 (WL.no (by simp <;> omega))
   replace hR6 := hR6.mono st92 (WL.no (by simp <;> omega))
   replace hB8 := hB8.mono st92 (WL.no (by simp <;> omega))
   replace hR8 := hR8.mono st92 (WL.no (by simp <;> omega))
   replace hR9 := hR9.mono st92 (WL.no (by simp <;> omega))
   replace hR10 := hR10.mono st92 (WL.no (by simp <;> omega))
   replace tot := tot.trans (st92.up (by intro l hl; simp at hl; rcases hl with rfl | rfl | rfl | rfl <;> first | exact .inr (by omega) | exact .inl (by simp [WL])))
   obtain ⟨g93, hw2, st93, hnew⟩ := hR22.relab (by omega) (t + 9)
   refine NX.regw hw2 ?_
   replace hB1 := hB1.mono st93 (WL.no1 (by omega))
   replace hR1 := hR1.mono st93 (WL.no1 (by omega))
   replace hR2 := hR2.mono st93 (WL.no1 (by omega))
   replace hB2 := hB2.mono st93 (WL.no1 (by omega))
   replace hR3 := hR3.mono st93 (WL.no1 (by omega))
   replace hR4 := hR4.mono st93 (WL.no1 (by omega))
   replace hB3 := hB3.mono st93 (WL.no1 (by omega))
   replace hB4 := hB4.mono st93 (WL.no1 (by omega))
   replace hB5 := hB5.mono st93 (WL.no1 (by omega))
   replace hB6 := hB6.mono st93 (WL.no1 (by omega))
   replace hB7 := hB7.mono st93 (WL.no1 (by omega))
   replace hR5 := hR5.mono st93 (WL.no1 (by omega))
   replace hR6 := hR6.mono st93 (WL.no1 (by omega))
   replace hR21 := hR21.mono st93 (WL.no1 (by omega)) (WL.no1 (by omega))
   replace hB8 := hB8.mono st93 (WL.no1 (by omega))
   replace hR8 := hR8.mono st93 (WL.no1 (by omega))
   replace hR9 := hR9.mono st93 (WL.no1 (by omega))
   replace hR10 := hR10.mono st93 (WL.no1 (by omega))
   replace tot := tot.trans (st93.up1 (.inr (by omega)))
   clear hR22
   have hR22 := hnew
   clear hnew
   obtain ⟨g94, hw3, st94, hnew⟩ := hR21.freeze (by omega)
   refine NX.regw hw3 ?_
   replace hB1 := hB1.mono st94 (WL.no1 (by omega))
   replace hR1 := hR1.mono st94 (WL.no1 (by omega))
   replace hR2 := hR2.mono st94 (WL.no1 (by omega))
   replace hB2 := hB2.mono st94 (WL.no1 (by omega))
   replace hR3 := hR3.mono st94 (WL.no1 (by omega))
   replace hR4 := hR4.mono st94 (WL.no1 (by omega))
   replace hB3 := hB3.mono st94 (WL.no1 (by omega))
   replace hB4 := hB4.mono st94 (WL.no1 (by omega))
   replace hB5 := hB5.mono st94 (WL.no1 (by omega))
   replace hR22 := hR22.mono st94 (WL.no1 (by omega)) (WL.no1 (by omega))
   replace hB6 := hB6.mono st94 (WL.no1 (by omega))
   replace hB7 := hB7.mono st94 (WL.no1 (by omega))
   replace hR5 := hR5.mono st94 (WL.no1 (by omega))
   replace hR6 := hR6.mono st94 (WL.no1 (by omega))
   replace hB8 := hB8.mono st94 (WL.no1 (by omega))
   replace hR8 := hR8.mono st94 (WL.no1 (by omega))
   replace hR9 := hR9.mono st94 (WL.no1 (by omega))
   replace hR10 := hR10.mono st94 (WL.no1 (by omega))
   replace tot := tot.trans (st94.up1 (.inr (by omega)))
   clear hR21
   have hR21 := hnew
   clear hnew
   refine NX.post ?_
   exact ⟨d45, a22, d45.length, c22, d44, l18, a21, l18.length, c21, ⟨by kernel_rfl, by kernel_rfl⟩, tot, hB1, hR1, hR2, hB2, hR3, hR4, hB3, hB4, hB5, hR22, hB6, hB7, hR5, hR6, hR21, hB8, hR8, hR9, hR10, hs⟩
  replace hs := of_if_f hs h22
  refine CP.skip ?_
  refine NX.post ?_
  exact ⟨[], none, 0, 0, d6, l7, a7, l7.length, c7, ⟨by kernel_rfl, by kernel_rfl⟩, tot, hB1, hR1, hR2, hB2, hR3, hR4, hB3, hB4, hB5, (OwnS.nil _ _ _ _), hB6, hB7, hR5, hR6, hR7, hB8, hR8, hR9, hR10, hs⟩
 clear tot hs hB1 hR1 hR2 hB2 hR3 hR4 hB3 hB4 hB5 hB6 hB7 hR5 hR6 hR7 hB8 hR8 hR9 hR10
 rintro tm g ⟨l12, a13, n13, c13, w1, l13, a14, n14, c14, hF, tot, hB1, hR1, hR2, hB2, hR3, hR4, hB3, hB4, hB5, hR13, hB6, hB7, hR5, hR6, hR14, hB8, hR8, hR9, hR10, hs⟩
 clear ds
 obtain ⟨ds, rfl⟩ := hF.open
 clear hF
 unfold F.baizelaw34_PunishTells.c2 at hs
 refine CP.cut (fun tm g => ∃ (l15 : List S_notary_entry) (a17 : Option Addr) (n17 : Nat) (c17 : Nat) (w2 : (List (S_notary_entry × Int))) (l16 : List Int) (a18 : Option Addr) (n18 : Nat) (c18 : Nat), Fr 175 [(4, .pointer (some ⟨b1, 0, none⟩)), (5, .pointer (some ⟨b2, 0, none⟩)), (6, .pointer (some ⟨b3, 0, none⟩)), (7, .pointer (some ⟨b4, 0, none⟩)), (9, .pointer (some ⟨b5, 0, none⟩)), (10, .pointer (some ⟨b7, 0, none⟩)), (11, .pointer (some ⟨b8, 0, none⟩))] tm ∧ Step (fun l => NoM l ∨ t ≤ l) g0 g ∧ Box g (t + 1) b1 35 [[.int .i64 x1], encA .u8 d1, [.int .i64 x2], encA .u8 d2, [.slice a1 n1 c1], [.slice a2 n2 c2], [.bool q1]] [1, 8, 1, 8, 1, 1, 1] ∧ RdS (Kd.int .u8) g 5 a1 n1 c1 l1 ∧ RdS (Kd.int .u8) g 5 a2 n2 c2 l2 ∧ Box g (t + 2) b2 35 [[.int .i64 x3], encA .u8 d3, [.int .i64 x4], encA .u8 d4, [.slice a3 n3 c3], [.slice a4 n4 c4], [.bool q2]] [1, 8, 1, 8, 1, 1, 1] ∧ RdS (Kd.int .u8) g 5 a3 n3 c3 l3 ∧ RdS (Kd.int .u8) g 5 a4 n4 c4 l4 ∧ Box g (t + 3) b3 32 [encA .u8 d5] [8] ∧ Box g (t + 4) b4 56 [[.int .u8 x5], [.int .u8 x6], [.int .u8 x7]] [1, 1, 1] ∧ Box g (t + 5) b5 121 [[.slice a17 n17 c17], [.map (some b6)]] [1, 1] ∧ OwnS k_S_notary_entry g (t + 9) 126 a17 n17 c17 l15 ∧ MapB g (t + 6) b6 kv_S_notary_entry (Value.int .i64) w2 ∧ Box g (t + 7) b7 43 [[.int .i64 x8], encA .u8 d7, [.int .i64 x9], [.slice a5 l5.length c5], encA .u8 d8, [.int .i64 x10], encA .u8 d9, [.slice a6 l6.length c6], [.slice a14 n14 c14]] [1, 8, 1, 1, 8, 1, 8, 1, 1] ∧ RdS (Kd.int .u8) g 5 a5 l5.length c5 l5 ∧ RdS (Kd.int .u8) g 5 a6 l6.length c6 l6 ∧ RdS (Kd.int .u8) g 5 a14 n14 c14 l13 ∧ Box g (t + 8) b8 43 [[.int .i64 x11], encA .u8 d10, [.int .i64 x12], [.slice a8 l8.length c8], encA .u8 d11, [.int .i64 x13], encA .u8 d12, [.slice a9 l9.length c9], [.slice a18 n18 c18]] [1, 8, 1, 1, 8, 1, 8, 1, 1] ∧ RdS (Kd.int .u8) g 5 a8 l8.length c8 l8 ∧ RdS (Kd.int .u8) g 5 a9 l9.length c9 l9 ∧ RdS (Kd.int .u8) g 5 a18 n18 c18 l16 ∧ (F.baizelaw34_PunishTells.c3 x1 d1 x2 d2 l1 q1 x3 d3 x4 d4 l3 q2 d5 x7 x8 d7 x9 l5 d8 x10 d9 l6 x11 d10 x12 l8 d11 x13 d12 l9 l13 l15 w2 l16) = some o1) ?_ ?_
 ·refine CP.seqR ?_
  refine WP.stl 1 ?_
  refine WP.loadB (v := .int .u8 x6) hB4 (by kernel_rfl) (by as_aux_lemma => kernel_rfl) ?_
  refine WP.stl 2 ?_
  refine WP.dn ?_
  refine NX.then_n ?_
  refine CP.cond (b := decide ((x6.tmod 4) > 0)) (by kernel_rfl) (fun h21 => ?_) (fun h21 => ?_)
  ·replace hs := of_if_t hs h21
   replace hs := Option.bind_eq_some_iff.1 hs
   obtain ⟨d36, hk42, hs⟩ := hs
   replace hs := Option.bind_eq_some_iff.1 hs
   obtain ⟨d37, hk43, hs⟩ := hs
   replace hs := Option.bind_eq_some_iff.1 hs
   obtain ⟨d38, hk44, hs⟩ := hs
   replace hs := Option.bind_eq_some_iff.1 hs
   obtain ⟨⟨l17, x29, d39, d40⟩, hk45, hs⟩ := hs
   dsimp only at hs
   refine CP.drawL (by as_aux_lemma => kernel_rfl) [2, 4, 5, 6, 7, 11, 16] N.baizelaw34_PunishTells_5 [⟨none, [], [], fun l g => Box g (t + 4) b4 56 [[.int .u8 x5], [.int .u8 x6], [.int .u8 x7]] [1, 1, 1]⟩, ⟨none, [2], [], fun l g => Box g (t + 5) b5 121 [[.slice a13 n13 c13], [.map (some b6)]] [1, 1]⟩, ⟨none, [0], [], fun l g => OwnS k_S_notary_entry g (t + 9) 126 a13 n13 c13 l12⟩, ⟨none, [1], [], fun l g => MapB g (t + 6) b6 kv_S_notary_entry (Value.int .i64) w1⟩, ⟨none, [3], [], fun l g => Box g (t + 8) b8 43 [[.int .i64 x11], encA .u8 d10, [.int .i64 x12], [.slice a8 l8.length c8], encA .u8 d11, [.int .i64 x13], encA .u8 d12, [.slice a9 l9.length c9], [.slice a10 l10.length c10]] [1, 8, 1, 1, 8, 1, 8, 1, 1]⟩, ⟨none, [], [], fun l g => RdS (Kd.int .u8) g 5 a8 l8.length c8 l8⟩, ⟨none, [], [], fun l g => RdS (Kd.int .u8) g 5 a9 l9.length c9 l9⟩, ⟨none, [], [], fun l g => RdS (Kd.int .u8) g 5 a10 l10.length c10 l10⟩, ⟨some 0, [], [0], fun l g => l.getD 0 undef = .int .u8 x6⟩, ⟨some 1, [], [1], fun l g => l.getD 0 undef = AG [encA .u8 d36]⟩, ⟨some 2, [], [2], fun l g => l.getD 0 undef = .iface 123 (AG [[.pointer (some ⟨b5, 0, none⟩)], encA .u8 d37])⟩, ⟨some 2, [0], [], fun l g => OwnS k_S_notary_entry g (t + 9) 126 a13 n13 c13 l12⟩, ⟨some 3, [], [3], fun l g => l.getD 0 undef = AG [[.int .i64 x11], encA .u8 d10, [.int .i64 x12], [.slice a8 l8.length c8], encA .u8 d11, [.int .i64 x13], encA .u8 d12, [.slice a9 l9.length c9], [.slice a10 l10.length c10]]⟩, ⟨some 4, [], [4], fun l g => l.getD 0 undef = AG [encA .u8 d38]⟩, ⟨some 5, [1], [], fun l g => MapB g (t + 6) b6 kv_S_notary_entry (Value.int .i64) d39⟩, ⟨some 5, [0, 2], [5], fun l g => ∃ (a19 : Option Addr) (c19 : Nat) (a20 : Option Addr) (c20 : Nat), l.getD 0 undef = .tuple #[.slice a19 l17.length c19, .int .i64 x29] ∧ OwnS (Kd.int .u8) g (t + 15) 5 a19 l17.length c19 l17 ∧ OwnS k_S_notary_entry g (t + 9) 126 a20 d40.length c20 d40 ∧ Box g (t + 5) b5 121 [[.slice a20 d40.length c20], [.map (some b6)]] [1, 1]⟩, ⟨some 6, [0, 2, 3], [5], fun l g => ∃ (a19 : Option Addr) (c19 : Nat) (a20 : Option Addr) (c20 : Nat), l.getD 0 undef = .tuple #[.slice a19 l17.length c19, .int .i64 x29] ∧ OwnS (Kd.int .u8) g (t + 15) 5 a19 l17.length c19 l17 ∧ OwnS k_S_notary_entry g (t + 9) 126 a20 d40.length c20 d40 ∧ Box g (t + 5) b5 121 [[.slice a20 d40.length c20], [.map (some b6)]] [1, 1] ∧ Box g (t + 8) b8 43 [[.int .i64 x11], encA .u8 d10, [.int .i64 x12], [.slice a8 l8.length c8], encA .u8 d11, [.int .i64 x13], encA .u8 d12, [.slice a9 l9.length c9], [.slice a19 l17.length c19]] [1, 8, 1, 1, 8, 1, 8, 1, 1]⟩] [[], [], [0], [], [], [1, 2, 0], [3]] [(t + 9), (t + 6), (t + 5), (t + 8)] [0, 1, 15] [3, 8, 9, 10, 12, 13, 14] (by as_aux_lemma => kernel_rfl) (by simp <;> omega) (by simp <;> omega) ⟨fun _ _ _ _ st h0 hl hj hB4 => (hB4.mono st (fun h => absurd (hl _ h) (by simp <;> omega))), fun _ _ _ _ st h0 hl hj hB5 => (hB5.mono st (hj 2 (by simp) _ rfl)), fun _ _ _ _ st h0 hl hj hR13 => (hR13.mono st h0 (hj 0 (by simp) _ rfl)), fun _ _ _ _ st h0 hl hj hB6 => (hB6.mono st (hj 1 (by simp) _ rfl)), fun _ _ _ _ st h0 hl hj hB8 => (hB8.mono st (hj 3 (by simp) _ rfl)), fun _ _ _ _ st h0 hl hj hR8 => (RdS.mono (e := 5) hR8 st h0), fun _ _ _ _ st h0 hl hj hR9 => (RdS.mono (e := 5) hR9 st h0), fun _ _ _ _ st h0 hl hj hR10 => (RdS.mono (e := 5) hR10 st h0), fun _ _ _ _ st h0 hl hj e0 => e0, fun _ _ _ _ st h0 hl hj e1 => e1, fun _ _ _ _ st h0 hl hj e2 => e2, fun _ _ _ _ st h0 hl hj hR13 => (hR13.mono st h0 (hj 0 (by simp) _ rfl)), fun _ _ _ _ st h0 hl hj e3 => e3, fun _ _ _ _ st h0 hl hj e4 => e4, fun _ _ _ _ st h0 hl hj hB6 => (hB6.mono st (hj 1 (by simp) _ rfl)), fun _ _ _ _ st h0 hl hj ⟨a19, c19, a20, c20, e5, hR19, hR20, hB5⟩ => ⟨a19, c19, a20, c20, e5, (hR19.mono st h0 (fun h => absurd (hl _ h) (by simp <;> omega))), (hR20.mono st h0 (hj 0 (by simp) _ rfl)), (hB5.mono st (hj 2 (by simp) _ rfl))⟩, fun _ _ _ _ st h0 hl hj ⟨a19, c19, a20, c20, e5, hR19, hR20, hB5, hB8⟩ => ⟨a19, c19, a20, c20, e5, (hR19.mono st h0 (fun h => absurd (hl _ h) (by simp <;> omega))), (hR20.mono st h0 (hj 0 (by simp) _ rfl)), (hB5.mono st (hj 2 (by simp) _ rfl)), (hB8.mono st (hj 3 (by simp) _ rfl))⟩, tv⟩ ⟨hB4, hB5, hR13, hB6, hB8, hR8, hR9, hR10, tv, tv, tv, tv, tv, tv, tv, tv, tv, tv⟩ (by as_aux_lemma => kernel_rfl) (fun vs => by as_aux_lemma => kernel_rfl) ?_ ?_ ?_
   ·intro j hj
    have hq : j = 0 ∨ j = 1 ∨ j = 2 ∨ j = 3 ∨ j = 4 ∨ j = 5 ∨ j = 6 := by have h : j < 7 := hj; omega
    rcases hq with rfl | rfl | rfl | rfl | rfl | rfl | rfl
    ·intro vs gq stq hl hf
     obtain ⟨v0, v1, v2, v3, v4, v5, v6, rfl⟩ := len_k7 hl
     obtain rfl : v0 = .int .u8 x6 := hf _ (memI 8 rfl) (by as_aux_lemma => kernel_rfl)
     show Option.isSome _ = true
     as_aux_lemma => kernel_rfl
    ·intro vs gq stq hl hf
     obtain ⟨v0, v1, v2, v3, v4, v5, v6, rfl⟩ := len_k7 hl
     obtain rfl : v2 = .iface 123 (AG [[.pointer (some ⟨b5, 0, none⟩)], encA .u8 d37]) := hf _ (memI 10 rfl) (by as_aux_lemma => kernel_rfl)
     show Option.isSome _ = true
     as_aux_lemma => kernel_rfl
    ·intro vs gq stq hl hf
     obtain ⟨v0, v1, v2, v3, v4, v5, v6, rfl⟩ := len_k7 hl
     obtain rfl : v2 = .iface 123 (AG [[.pointer (some ⟨b5, 0, none⟩)], encA .u8 d37]) := hf _ (memI 10 rfl) (by as_aux_lemma => kernel_rfl)
     show Option.isSome _ = true
     as_aux_lemma => kernel_rfl
    ·intro vs gq stq hl hf
     obtain ⟨v0, v1, v2, v3, v4, v5, v6, rfl⟩ := len_k7 hl
     obtain rfl : v2 = .iface 123 (AG [[.pointer (some ⟨b5, 0, none⟩)], encA .u8 d37]) := hf _ (memI 10 rfl) (by as_aux_lemma => kernel_rfl)
     show Option.isSome _ = true
     as_aux_lemma => kernel_rfl
    ·intro vs gq stq hl hf
     obtain ⟨v0, v1, v2, v3, v4, v5, v6, rfl⟩ := len_k7 hl
     obtain ⟨a19, c19, a20, c20, e5, hR19, hR20, hB5⟩ := (show ∃ (a19 : Option Addr) (c19 : Nat) (a20 : Option Addr) (c20 : Nat), v5 = .tuple #[.slice a19 l17.length c19, .int .i64 x29] ∧ OwnS (Kd.int .u8) gq (t + 15) 5 a19 l17.length c19 l17 ∧ OwnS k_S_notary_entry gq (t + 9) 126 a20 d40.length c20 d40 ∧ Box gq (t + 5) b5 121 [[.slice a20 d40.length c20], [.map (some b6)]] [1, 1] from hf _ (memI 15 rfl) (by as_aux_lemma => kernel_rfl))
     subst e5
     show Option.isSome _ = true
     as_aux_lemma => kernel_rfl
    ·intro vs gq stq hl hf
     obtain ⟨v0, v1, v2, v3, v4, v5, v6, rfl⟩ := len_k7 hl
     obtain ⟨a19, c19, a20, c20, e5, hR19, hR20, hB5⟩ := (show ∃ (a19 : Option Addr) (c19 : Nat) (a20 : Option Addr) (c20 : Nat), v5 = .tuple #[.slice a19 l17.length c19, .int .i64 x29] ∧ OwnS (Kd.int .u8) gq (t + 15) 5 a19 l17.length c19 l17 ∧ OwnS k_S_notary_entry gq (t + 9) 126 a20 d40.length c20 d40 ∧ Box gq (t + 5) b5 121 [[.slice a20 d40.length c20], [.map (some b6)]] [1, 1] from hf _ (memI 15 rfl) (by as_aux_lemma => kernel_rfl))
     subst e5
     show Option.isSome _ = true
     as_aux_lemma => kernel_rfl
    ·intro vs gq stq hl hf
     obtain ⟨v0, v1, v2, v3, v4, v5, v6, rfl⟩ := len_k7 hl
     obtain ⟨a19, c19, a20, c20, e5, hR19, hR20, hB5⟩ := (show ∃ (a19 : Option Addr) (c19 : Nat) (a20 : Option Addr) (c20 : Nat), v5 = .tuple #[.slice a19 l17.length c19, .int .i64 x29] ∧ OwnS (Kd.int .u8) gq (t + 15) 5 a19 l17.length c19 l17 ∧ OwnS k_S_notary_entry gq (t + 9) 126 a20 d40.length c20 d40 ∧ Box gq (t + 5) b5 121 [[.slice a20 d40.length c20], [.map (some b6)]] [1, 1] from hf _ (memI 15 rfl) (by as_aux_lemma => kernel_rfl))
     subst e5
     show Option.isSome _ = true
     as_aux_lemma => kernel_rfl
   ·intro j hj
    have hq : j = 0 ∨ j = 1 ∨ j = 2 ∨ j = 3 ∨ j = 4 ∨ j = 5 ∨ j = 6 := by have h : j < 7 := hj; omega
    rcases hq with rfl | rfl | rfl | rfl | rfl | rfl | rfl
    ·intro vs gq stq hl hf
     obtain ⟨v0, v1, v2, v3, v4, v5, v6, rfl⟩ := len_k7 hl
     have hB4 := (show Box gq (t + 4) b4 56 [[.int .u8 x5], [.int .u8 x6], [.int .u8 x7]] [1, 1, 1] from hf _ (memI 0 rfl) (by as_aux_lemma => kernel_rfl))
     refine WP.loadB (v := .int .u8 x6) hB4 (by kernel_rfl) (by as_aux_lemma => kernel_rfl) ?_
     refine WP.dn (Shown.ok (v := .int .u8 x6) (by kernel_rfl) (Step.refl _ _) ?_)
     exact t8 ⟨rfl, (t8 tv)⟩
    ·intro vs gq stq hl hf
     obtain ⟨v0, v1, v2, v3, v4, v5, v6, rfl⟩ := len_k7 hl
     obtain rfl : v0 = .int .u8 x6 := hf _ (memI 8 rfl) (by as_aux_lemma => kernel_rfl)
     have hcal42 := P.baizelaw34_key gq (IntKind.i64.wrap x6) d36 hk42
     refine WP.callC hcal42 (by kernel_rfl) ?_
     rintro _ g79 st79 rfl
     refine WP.dn (Shown.o (v := AG [encA .u8 d36]) st79.pure ?_)
     exact t8 ⟨tv, rfl, (t4 ⟨tv, tv, tv, tv⟩)⟩
    ·intro vs gq stq hl hf
     obtain ⟨v0, v1, v2, v3, v4, v5, v6, rfl⟩ := len_k7 hl
     have hB5 := (show Box gq (t + 5) b5 121 [[.slice a13 n13 c13], [.map (some b6)]] [1, 1] from hf _ (memI 1 rfl) (by as_aux_lemma => kernel_rfl))
     have hR13 := (show OwnS k_S_notary_entry gq (t + 9) 126 a13 n13 c13 l12 from hf _ (memI 2 rfl) (by as_aux_lemma => kernel_rfl))
     have hB6 := (show MapB gq (t + 6) b6 kv_S_notary_entry (Value.int .i64) w1 from hf _ (memI 3 rfl) (by as_aux_lemma => kernel_rfl))
     obtain rfl : v1 = AG [encA .u8 d36] := hf _ (memI 9 rfl) (by as_aux_lemma => kernel_rfl)
     have hS8 : 0 ∉ ([(t + 9)] : List Nat) := by simp <;> omega
     have stl8 := GW.lend_step gq [(t + 9)]
     have hRl8 := hR13.lendTo hS8 (by simp)
     refine WP.regw (g' := GW.lend gq [(t + 9)]) rfl ?_
     have hcal43 := P.notary_Book_Signer (GW.lend gq [(t + 9)]) (t + 5) (t + 6) l12 w1 d36 a13 n13 c13 b5 b6 hRl8 (hB6.mono stl8 (WL.no (by simp <;> omega))) (hB5.mono stl8 (WL.no (by simp <;> omega))) (by omega) (by omega) (by omega) d37 hk43
     refine WP.callC hcal43 (by kernel_rfl) ?_
     rintro _ g80 st80 rfl
     have st81 := (GW.back_step st80).lentS
     have hO8 := hR13.backTo hS8 (by simp) st80 (fun x => x)
     refine WP.regw (g' := GW.back gq g80 [(t + 9)]) rfl ?_
     generalize GW.back gq g80 [(t + 9)] = g81 at *
     refine WP.dn (Shown.o (v := .iface 123 (AG [[.pointer (some ⟨b5, 0, none⟩)], encA .u8 d37])) st81 ?_)
     exact t8 ⟨tv, tv, rfl, hO8, (t4 ⟨tv, tv⟩)⟩
    ·intro vs gq stq hl hf
     obtain ⟨v0, v1, v2, v3, v4, v5, v6, rfl⟩ := len_k7 hl
     have hB8 := (show Box gq (t + 8) b8 43 [[.int .i64 x11], encA .u8 d10, [.int .i64 x12], [.slice a8 l8.length c8], encA .u8 d11, [.int .i64 x13], encA .u8 d12, [.slice a9 l9.length c9], [.slice a10 l10.length c10]] [1, 8, 1, 1, 8, 1, 8, 1, 1] from hf _ (memI 4 rfl) (by as_aux_lemma => kernel_rfl))
     refine WP.loadB (v := AG [[.int .i64 x11], encA .u8 d10, [.int .i64 x12], [.slice a8 l8.length c8], encA .u8 d11, [.int .i64 x13], encA .u8 d12, [.slice a9 l9.length c9], [.slice a10 l10.length c10]]) hB8 (by kernel_rfl) (by as_aux_lemma => kernel_rfl) ?_
     refine WP.dn (Shown.ok (v := AG [[.int .i64 x11], encA .u8 d10, [.int .i64 x12], [.slice a8 l8.length c8], encA .u8 d11, [.int .i64 x13], encA .u8 d12, [.slice a9 l9.length c9], [.slice a10 l10.length c10]]) (by kernel_rfl) (Step.refl _ _) ?_)
     exact t8 (t4 ⟨rfl, (t4 tv)⟩)
    ·intro vs gq stq hl hf
     obtain ⟨v0, v1, v2, v3, v4, v5, v6, rfl⟩ := len_k7 hl
     have hR8 := (show RdS (Kd.int .u8) gq 5 a8 l8.length c8 l8 from hf _ (memI 5 rfl) (by as_aux_lemma => kernel_rfl))
     have hR9 := (show RdS (Kd.int .u8) gq 5 a9 l9.length c9 l9 from hf _ (memI 6 rfl) (by as_aux_lemma => kernel_rfl))
     have hR10 := (show RdS (Kd.int .u8) gq 5 a10 l10.length c10 l10 from hf _ (memI 7 rfl) (by as_aux_lemma => kernel_rfl))
     obtain rfl : v3 = AG [[.int .i64 x11], encA .u8 d10, [.int .i64 x12], [.slice a8 l8.length c8], encA .u8 d11, [.int .i64 x13], encA .u8 d12, [.slice a9 l9.length c9], [.slice a10 l10.length c10]] := hf _ (memI 12 rfl) (by as_aux_lemma => kernel_rfl)
     have hcal44 := P.punish_Thing_Digest gq x11 d10 x12 l8 d11 x13 d12 l9 l10 a8 l8.length c8 a9 l9.length c9 a10 l10.length c10 hR8 hR9 hR10 d38 hk44
     refine WP.callC hcal44 (by kernel_rfl) ?_
     rintro _ g82 st82 rfl
     refine WP.dn (Shown.o (v := AG [encA .u8 d38]) st82.pure ?_)
     exact t8 (t4 ⟨tv, rfl, tv, tv, tv, tv⟩)
    ·intro vs gq stq hl hf
     obtain ⟨v0, v1, v2, v3, v4, v5, v6, rfl⟩ := len_k7 hl
     have hB5 := (show Box gq (t + 5) b5 121 [[.slice a13 n13 c13], [.map (some b6)]] [1, 1] from hf _ (memI 1 rfl) (by as_aux_lemma => kernel_rfl))
     have hB6 := (show MapB gq (t + 6) b6 kv_S_notary_entry (Value.int .i64) w1 from hf _ (memI 3 rfl) (by as_aux_lemma => kernel_rfl))
     obtain rfl : v2 = .iface 123 (AG [[.pointer (some ⟨b5, 0, none⟩)], encA .u8 d37]) := hf _ (memI 10 rfl) (by as_aux_lemma => kernel_rfl)
     have hR13 := (show OwnS k_S_notary_entry gq (t + 9) 126 a13 n13 c13 l12 from hf _ (memI 11 rfl) (by as_aux_lemma => kernel_rfl))
     obtain rfl : v4 = AG [encA .u8 d38] := hf _ (memI 13 rfl) (by as_aux_lemma => kernel_rfl)
     have hcal45 := P.notary_bookSigner_Sign gq (t + 5) (t + 9) (t + 6) (t + 15) l12 w1 d37 d38 a13 n13 c13 b5 b6 hR13 hB6 hB5 (by omega) (by omega) (by omega) (by omega) (by omega) (by omega) l17 x29 d39 d40 hk45
     refine WP.callC hcal45 (by kernel_rfl) ?_
     rintro _ g83 st83 ⟨a19, n19, c19, a20, n20, c20, rfl, hR19, hB25, hR20, hB26⟩
     obtain rfl := hR19.len
     obtain rfl := hR20.len
     refine WP.dn (Shown.o (v := .tuple #[.slice a19 l17.length c19, .int .i64 x29]) st83 ?_)
     exact t8 (t4 ⟨tv, tv, hB25, ⟨a19, c19, a20, c20, rfl, hR19, hR20, hB26⟩, tv, tv⟩)
    ·intro vs gq stq hl hf
     obtain ⟨v0, v1, v2, v3, v4, v5, v6, rfl⟩ := len_k7 hl
     have hB8 := (show Box gq (t + 8) b8 43 [[.int .i64 x11], encA .u8 d10, [.int .i64 x12], [.slice a8 l8.length c8], encA .u8 d11, [.int .i64 x13], encA .u8 d12, [.slice a9 l9.length c9], [.slice a10 l10.length c10]] [1, 8, 1, 1, 8, 1, 8, 1, 1] from hf _ (memI 4 rfl) (by as_aux_lemma => kernel_rfl))
     obtain ⟨a19, c19, a20, c20, e5, hR19, hR20, hB5⟩ := (show ∃ (a19 : Option Addr) (c19 : Nat) (a20 : Option Addr) (c20 : Nat), v5 = .tuple #[.slice a19 l17.length c19, .int .i64 x29] ∧ OwnS (Kd.int .u8) gq (t + 15) 5 a19 l17.length c19 l17 ∧ OwnS k_S_notary_entry gq (t + 9) 126 a20 d40.length c20 d40 ∧ Box gq (t + 5) b5 121 [[.slice a20 d40.length c20], [.map (some b6)]] [1, 1] from hf _ (memI 15 rfl) (by as_aux_lemma => kernel_rfl))
     subst e5
     refine WP.storeB (ty := 33) (off := 29) (v := .slice a19 l17.length c19) hB8 [[.slice a19 l17.length c19]] [1] (by kernel_rfl) (by as_aux_lemma => kernel_rfl) rfl (by kernel_rfl) [[.int .i64 x11], encA .u8 d10, [.int .i64 x12], [.slice a8 l8.length c8], encA .u8 d11, [.int .i64 x13], encA .u8 d12, [.slice a9 l9.length c9], [.slice a19 l17.length c19]] (by kernel_rfl) (.one rfl .nil) ?_
     intro g84 st84 hB27
     refine WP.dn (Shown.o (v := undef) st84 ?_)
     exact t16 ⟨⟨a19, c19, a20, c20, rfl, (hR19.mono st84 (WL.no (by simp <;> omega)) (WL.no (by simp <;> omega))), (hR20.mono st84 (WL.no (by simp <;> omega)) (WL.no (by simp <;> omega))), (hB5.mono st84 (WL.no (by simp <;> omega))), hB27⟩, tv⟩
   intro vs g85 st85 hl hf
   obtain ⟨v0, v1, v2, v3, v4, v5, v6, rfl⟩ := len_k7 hl
   have hB6 := (show MapB g85 (t + 6) b6 kv_S_notary_entry (Value.int .i64) d39 from hf _ (memI 14 rfl) (by as_aux_lemma => kernel_rfl))
   obtain ⟨a19, c19, a20, c20, e5, hR19, hR20, hB5, hB8⟩ := (show ∃ (a19 : Option Addr) (c19 : Nat) (a20 : Option Addr) (c20 : Nat), v5 = .tuple #[.slice a19 l17.length c19, .int .i64 x29] ∧ OwnS (Kd.int .u8) g85 (t + 15) 5 a19 l17.length c19 l17 ∧ OwnS k_S_notary_entry g85 (t + 9) 126 a20 d40.length c20 d40 ∧ Box g85 (t + 5) b5 121 [[.slice a20 d40.length c20], [.map (some b6)]] [1, 1] ∧ Box g85 (t + 8) b8 43 [[.int .i64 x11], encA .u8 d10, [.int .i64 x12], [.slice a8 l8.length c8], encA .u8 d11, [.int .i64 x13], encA .u8 d12, [.slice a9 l9.length c9], [.slice a19 l17.length c19]] [1, 8, 1, 1, 8, 1, 8, 1, 1] from hf _ (memI 16 rfl) (by as_aux_lemma => kernel_rfl))
   subst e5
   replace hB1 := hB1.mono st85 (WL.no (by simp <;> omega))
   replace hR1 := hR1.mono st85 (WL.no (by simp <;> omega))
   replace hR2 := hR2.mono st85 (WL.no (by simp <;> omega))
   replace hB2 := hB2.mono st85 (WL.no (by simp <;> omega))
   replace hR3 := hR3.mono st85 (WL.no (by simp <;> omega))
   replace hR4 := hR4.mono st85 (WL.no (by simp <;> omega))
   replace hB3 := hB3.mono st85 (WL.no (by simp <;> omega))
   replace hB4 := hB4.mono st85 (WL.no (by simp <;> omega))
   replace hB7 := hB7.mono st85 (WL.no (by simp <;> omega))
   replace hR5 := hR5.mono st85 (WL.no (by simp <;> omega))
   replace hR6 := hR6.mono st85 (WL.no (by simp <;> omega))
   replace hR14 := hR14.mono st85 (WL.no (by simp <;> omega))
   replace hR8 := hR8.mono st85 (WL.no (by simp <;> omega))
   replace hR9 := hR9.mono st85 (WL.no (by simp <;> omega))
   replace tot := tot.trans (st85.up (by intro l hl; simp at hl; rcases hl with rfl | rfl | rfl | rfl <;> first | exact .inr (by omega) | exact .inl (by simp [WL])))
   obtain ⟨g86, hw1, st86, hnew⟩ := hR19.freeze (by omega)
   refine NX.regw hw1 ?_
   replace hB1 := hB1.mono st86 (WL.no1 (by omega))
   replace hR1 := hR1.mono st86 (WL.no1 (by omega))
   replace hR2 := hR2.mono st86 (WL.no1 (by omega))
   replace hB2 := hB2.mono st86 (WL.no1 (by omega))
   replace hR3 := hR3.mono st86 (WL.no1 (by omega))
   replace hR4 := hR4.mono st86 (WL.no1 (by omega))
   replace hB3 := hB3.mono st86 (WL.no1 (by omega))
   replace hB4 := hB4.mono st86 (WL.no1 (by omega))
   replace hB5 := hB5.mono st86 (WL.no1 (by omega))
   replace hR20 := hR20.mono st86 (WL.no1 (by omega)) (WL.no1 (by omega))
   replace hB6 := hB6.mono st86 (WL.no1 (by omega))
   replace hB7 := hB7.mono st86 (WL.no1 (by omega))
   replace hR5 := hR5.mono st86 (WL.no1 (by omega))
   replace hR6 := hR6.mono st86 (WL.no1 (by omega))
   replace hR14 := hR14.mono st86 (WL.no1 (by omega))
   replace hB8 := hB8.mono st86 (WL.no1 (by omega))
   replace hR8 := hR8.mono st86 (WL.no1 (by omega))
   replace hR9 := hR9.mono st86 (WL.no1 (by omega))
   replace tot := tot.trans (st86.up1 (.inr (by omega)))
   clear hR19
   have hR19 := hnew
   clear hnew
   refine NX.post ?_
   exact ⟨d40, a20, d40.length, c20, d39, l17, a19, l17.length, c19, ⟨by kernel_rfl, by kernel_rfl⟩, tot, hB1, hR1, hR2, hB2, hR3, hR4, hB3, hB4, hB5, hR20, hB6, hB7, hR5, hR6, hR14, hB8, hR8, hR9, hR19, hs⟩
  replace hs := of_if_f hs h21
  refine CP.skip ?_
  refine NX.post ?_
  exact ⟨l12, a13, n13, c13, w1, l10, a10, l10.length, c10, ⟨by kernel_rfl, by kernel_rfl⟩, tot, hB1, hR1, hR2, hB2, hR3, hR4, hB3, hB4, hB5, hR13, hB6, hB7, hR5, hR6, hR14, hB8, hR8, hR9, hR10, hs⟩
 clear tot hs hB1 hR1 hR2 hB2 hR3 hR4 hB3 hB4 hB5 hR13 hB6 hB7 hR5 hR6 hR14 hB8 hR8 hR9 hR10
 rintro tm g ⟨l15, a17, n17, c17, w2, l16, a18, n18, c18, hF, tot, hB1, hR1, hR2, hB2, hR3, hR4, hB3, hB4, hB5, hR17, hB6, hB7, hR5, hR6, hR14, hB8, hR8, hR9, hR18, hs⟩
 clear ds
 obtain ⟨ds, rfl⟩ := hF.open
 clear hF
 unfold F.baizelaw34_PunishTells.c3 at hs
 refine CP.seqR ?_
 refine WP.stl 1 ?_
 refine WP.loadB (v := .int .u8 x7) hB4 (by kernel_rfl) (by as_aux_lemma => kernel_rfl) ?_
 refine WP.stl 1 ?_
 replace hs := Option.bind_eq_some_iff.1 hs
 obtain ⟨d23, hk14, hs⟩ := hs
 have hcal14 := P.baizelaw34_key g (IntKind.i64.wrap x7) d23 hk14
 refine WP.callC hcal14 (by kernel_rfl) ?_
 rintro _ g26 st26 rfl
 replace hB1 := hB1.mono st26 (fun x => x)
 replace hR1 := hR1.mono st26 (fun x => x)
 replace hR2 := hR2.mono st26 (fun x => x)
 replace hB2 := hB2.mono st26 (fun x => x)
 replace hR3 := hR3.mono st26 (fun x => x)
 replace hR4 := hR4.mono st26 (fun x => x)
 replace hB3 := hB3.mono st26 (fun x => x)
 replace hB4 := hB4.mono st26 (fun x => x)
 replace hB5 := hB5.mono st26 (fun x => x)
 replace hR17 := hR17.mono st26 (fun x => x) (fun x => x)
 replace hB6 := hB6.mono st26 (fun x => x)
 replace hB7 := hB7.mono st26 (fun x => x)
 replace hR5 := hR5.mono st26 (fun x => x)
 replace hR6 := hR6.mono st26 (fun x => x)
 replace hR14 := hR14.mono st26 (fun x => x)
 replace hB8 := hB8.mono st26 (fun x => x)
 replace hR8 := hR8.mono st26 (fun x => x)
 replace hR9 := hR9.mono st26 (fun x => x)
 replace hR18 := hR18.mono st26 (fun x => x)
 replace tot := tot.trans st26.pure
 refine WP.alloc (T := 37) (t + 12) [encA .u8 (zA 8)] [8] (by kernel_rfl) (by simp [len_encA]) ?_
 intro g27 b9 st27 hB17
 replace hB1 := hB1.mono st27 (fun x => x)
 replace hR1 := hR1.mono st27 (fun x => x)
 replace hR2 := hR2.mono st27 (fun x => x)
 replace hB2 := hB2.mono st27 (fun x => x)
 replace hR3 := hR3.mono st27 (fun x => x)
 replace hR4 := hR4.mono st27 (fun x => x)
 replace hB3 := hB3.mono st27 (fun x => x)
 replace hB4 := hB4.mono st27 (fun x => x)
 replace hB5 := hB5.mono st27 (fun x => x)
 replace hR17 := hR17.mono st27 (fun x => x) (fun x => x)
 replace hB6 := hB6.mono st27 (fun x => x)
 replace hB7 := hB7.mono st27 (fun x => x)
 replace hR5 := hR5.mono st27 (fun x => x)
 replace hR6 := hR6.mono st27 (fun x => x)
 replace hR14 := hR14.mono st27 (fun x => x)
 replace hB8 := hB8.mono st27 (fun x => x)
 replace hR8 := hR8.mono st27 (fun x => x)
 replace hR9 := hR9.mono st27 (fun x => x)
 replace hR18 := hR18.mono st27 (fun x => x)
 replace tot := tot.trans st27.pure
 refine WP.storeB (ty := 37) (off := 0) (v := AG [encA .u8 d23]) hB17 [encA .u8 d23] [8] (by kernel_rfl) (by as_aux_lemma => kernel_rfl) (by simp [len_encA]) (by kernel_rfl) [encA .u8 d23] (by kernel_rfl) (.arr .nil) ?_
 intro g28 st28 hB18
 replace hB1 := hB1.mono st28 (WL.no1 (by omega))
 replace hR1 := hR1.mono st28 (WL.no1 (by omega))
 replace hR2 := hR2.mono st28 (WL.no1 (by omega))
 replace hB2 := hB2.mono st28 (WL.no1 (by omega))
 replace hR3 := hR3.mono st28 (WL.no1 (by omega))
 replace hR4 := hR4.mono st28 (WL.no1 (by omega))
 replace hB3 := hB3.mono st28 (WL.no1 (by omega))
 replace hB4 := hB4.mono st28 (WL.no1 (by omega))
 replace hB5 := hB5.mono st28 (WL.no1 (by omega))
 replace hR17 := hR17.mono st28 (WL.no1 (by omega)) (WL.no1 (by omega))
 replace hB6 := hB6.mono st28 (WL.no1 (by omega))
 replace hB7 := hB7.mono st28 (WL.no1 (by omega))
 replace hR5 := hR5.mono st28 (WL.no1 (by omega))
 replace hR6 := hR6.mono st28 (WL.no1 (by omega))
 replace hR14 := hR14.mono st28 (WL.no1 (by omega))
 replace hB8 := hB8.mono st28 (WL.no1 (by omega))
 replace hR8 := hR8.mono st28 (WL.no1 (by omega))
 replace hR9 := hR9.mono st28 (WL.no1 (by omega))
 replace hR18 := hR18.mono st28 (WL.no1 (by omega))
 replace tot := tot.trans (st28.up1 (.inr (by omega)))
 clear hB17
 have hB17 := hB18
 clear hB18
 refine WP.dn ?_
 refine NX.then_n ?_
 refine CP.seq ?_
 refine CP.drawL (by as_aux_lemma => kernel_rfl) [1, 3, 5, 7] N.baizelaw34_PunishTells_1 [⟨none, [0], [], fun l g => Box g (t + 1) b1 35 [[.int .i64 x1], encA .u8 d1, [.int .i64 x2], encA .u8 d2, [.slice a1 n1 c1], [.slice a2 n2 c2], [.bool q1]] [1, 8, 1, 8, 1, 1, 1]⟩, ⟨none, [1], [], fun l g => Box g (t + 2) b2 35 [[.int .i64 x3], encA .u8 d3, [.int .i64 x4], encA .u8 d4, [.slice a3 n3 c3], [.slice a4 n4 c4], [.bool q2]] [1, 8, 1, 8, 1, 1, 1]⟩, ⟨none, [], [], fun l g => Box g (t + 7) b7 43 [[.int .i64 x8], encA .u8 d7, [.int .i64 x9], [.slice a5 l5.length c5], encA .u8 d8, [.int .i64 x10], encA .u8 d9, [.slice a6 l6.length c6], [.slice a14 n14 c14]] [1, 8, 1, 1, 8, 1, 8, 1, 1]⟩, ⟨none, [], [], fun l g => Box g (t + 8) b8 43 [[.int .i64 x11], encA .u8 d10, [.int .i64 x12], [.slice a8 l8.length c8], encA .u8 d11, [.int .i64 x13], encA .u8 d12, [.slice a9 l9.length c9], [.slice a18 n18 c18]] [1, 8, 1, 1, 8, 1, 8, 1, 1]⟩, ⟨some 0, [], [0], fun l g => l.getD 0 undef = .slice a14 n14 c14⟩, ⟨some 1, [], [1], fun l g => l.getD 0 undef = .slice a18 n18 c18⟩, ⟨some 2, [0], [], fun l g => Box g (t + 1) b1 35 [[.int .i64 x1], encA .u8 d1, [.int .i64 x2], encA .u8 d2, [.slice a1 n1 c1], [.slice a14 n14 c14], [.bool q1]] [1, 8, 1, 8, 1, 1, 1]⟩, ⟨some 3, [1], [], fun l g => Box g (t + 2) b2 35 [[.int .i64 x3], encA .u8 d3, [.int .i64 x4], encA .u8 d4, [.slice a3 n3 c3], [.slice a18 n18 c18], [.bool q2]] [1, 8, 1, 8, 1, 1, 1]⟩] [[], [], [0], [1]] [(t + 1), (t + 2)] [0, 2, 4, 6] [] (by as_aux_lemma => kernel_rfl) (by simp <;> omega) (by simp <;> omega) ⟨fun _ _ _ _ st h0 hl hj hB1 => (hB1.mono st (hj 0 (by simp) _ rfl)), fun _ _ _ _ st h0 hl hj hB2 => (hB2.mono st (hj 1 (by simp) _ rfl)), fun _ _ _ _ st h0 hl hj hB7 => (hB7.mono st (fun h => absurd (hl _ h) (by simp <;> omega))), fun _ _ _ _ st h0 hl hj hB8 => (hB8.mono st (fun h => absurd (hl _ h) (by simp <;> omega))), fun _ _ _ _ st h0 hl hj e0 => e0, fun _ _ _ _ st h0 hl hj e1 => e1, fun _ _ _ _ st h0 hl hj hB1 => (hB1.mono st (hj 0 (by simp) _ rfl)), fun _ _ _ _ st h0 hl hj hB2 => (hB2.mono st (hj 1 (by simp) _ rfl)), tv⟩ ⟨hB1, hB2, hB7, hB8, tv, tv, tv, tv, tv⟩ (by as_aux_lemma => kernel_rfl) (fun vs => by as_aux_lemma => kernel_rfl) ?_ ?_ ?_
 ·intro j hj; exact absurd hj (by simp)
 ·intro j hj
  have hq : j = 0 ∨ j = 1 ∨ j = 2 ∨ j = 3 := by have h : j < 4 := hj; omega
  rcases hq with rfl | rfl | rfl | rfl
  ·intro vs gq stq hl hf
   obtain ⟨v0, v1, v2, v3, rfl⟩ := len_k4 hl
   have hB7 := (show Box gq (t + 7) b7 43 [[.int .i64 x8], encA .u8 d7, [.int .i64 x9], [.slice a5 l5.length c5], encA .u8 d8, [.int .i64 x10], encA .u8 d9, [.slice a6 l6.length c6], [.slice a14 n14 c14]] [1, 8, 1, 1, 8, 1, 8, 1, 1] from hf _ (memI 2 rfl) (by as_aux_lemma => kernel_rfl))
   refine WP.loadB (v := .slice a14 n14 c14) hB7 (by kernel_rfl) (by as_aux_lemma => kernel_rfl) ?_
   refine WP.dn (Shown.ok (v := .slice a14 n14 c14) (by kernel_rfl) (Step.refl _ _) ?_)
   exact t4 ⟨rfl, tv, tv, tv, tv⟩
  ·intro vs gq stq hl hf
   obtain ⟨v0, v1, v2, v3, rfl⟩ := len_k4 hl
   have hB8 := (show Box gq (t + 8) b8 43 [[.int .i64 x11], encA .u8 d10, [.int .i64 x12], [.slice a8 l8.length c8], encA .u8 d11, [.int .i64 x13], encA .u8 d12, [.slice a9 l9.length c9], [.slice a18 n18 c18]] [1, 8, 1, 1, 8, 1, 8, 1, 1] from hf _ (memI 3 rfl) (by as_aux_lemma => kernel_rfl))
   refine WP.loadB (v := .slice a18 n18 c18) hB8 (by kernel_rfl) (by as_aux_lemma => kernel_rfl) ?_
   refine WP.dn (Shown.ok (v := .slice a18 n18 c18) (by kernel_rfl) (Step.refl _ _) ?_)
   exact t4 ⟨tv, rfl, tv, tv, tv⟩
  ·intro vs gq stq hl hf
   obtain ⟨v0, v1, v2, v3, rfl⟩ := len_k4 hl
   have hB1 := (show Box gq (t + 1) b1 35 [[.int .i64 x1], encA .u8 d1, [.int .i64 x2], encA .u8 d2, [.slice a1 n1 c1], [.slice a2 n2 c2], [.bool q1]] [1, 8, 1, 8, 1, 1, 1] from hf _ (memI 0 rfl) (by as_aux_lemma => kernel_rfl))
   obtain rfl : v0 = .slice a14 n14 c14 := hf _ (memI 4 rfl) (by as_aux_lemma => kernel_rfl)
   refine WP.storeB (ty := 33) (off := 19) (v := .slice a14 n14 c14) hB1 [[.slice a14 n14 c14]] [1] (by kernel_rfl) (by as_aux_lemma => kernel_rfl) rfl (by kernel_rfl) [[.int .i64 x1], encA .u8 d1, [.int .i64 x2], encA .u8 d2, [.slice a1 n1 c1], [.slice a14 n14 c14], [.bool q1]] (by kernel_rfl) (.one rfl .nil) ?_
   intro g29 st29 hB19
   refine WP.dn (Shown.o (v := undef) st29 ?_)
   exact t4 ⟨tv, tv, hB19, tv, tv⟩
  ·intro vs gq stq hl hf
   obtain ⟨v0, v1, v2, v3, rfl⟩ := len_k4 hl
   have hB2 := (show Box gq (t + 2) b2 35 [[.int .i64 x3], encA .u8 d3, [.int .i64 x4], encA .u8 d4, [.slice a3 n3 c3], [.slice a4 n4 c4], [.bool q2]] [1, 8, 1, 8, 1, 1, 1] from hf _ (memI 1 rfl) (by as_aux_lemma => kernel_rfl))
   obtain rfl : v1 = .slice a18 n18 c18 := hf _ (memI 5 rfl) (by as_aux_lemma => kernel_rfl)
   refine WP.storeB (ty := 33) (off := 19) (v := .slice a18 n18 c18) hB2 [[.slice a18 n18 c18]] [1] (by kernel_rfl) (by as_aux_lemma => kernel_rfl) rfl (by kernel_rfl) [[.int .i64 x3], encA .u8 d3, [.int .i64 x4], encA .u8 d4, [.slice a3 n3 c3], [.slice a18 n18 c18], [.bool q2]] (by kernel_rfl) (.one rfl .nil) ?_
   intro g30 st30 hB20
   refine WP.dn (Shown.o (v := undef) st30 ?_)
   exact t4 ⟨tv, tv, tv, hB20, tv⟩
 intro vs g31 st31 hl hf
 obtain ⟨v0, v1, v2, v3, rfl⟩ := len_k4 hl
 have hB1 := (show Box g31 (t + 1) b1 35 [[.int .i64 x1], encA .u8 d1, [.int .i64 x2], encA .u8 d2, [.slice a1 n1 c1], [.slice a14 n14 c14], [.bool q1]] [1, 8, 1, 8, 1, 1, 1] from hf _ (memI 6 rfl) (by as_aux_lemma => kernel_rfl))
 have hB2 := (show Box g31 (t + 2) b2 35 [[.int .i64 x3], encA .u8 d3, [.int .i64 x4], encA .u8 d4, [.slice a3 n3 c3], [.slice a18 n18 c18], [.bool q2]] [1, 8, 1, 8, 1, 1, 1] from hf _ (memI 7 rfl) (by as_aux_lemma => kernel_rfl))
 replace hR1 := hR1.mono st31 (WL.no2 (by omega) (by omega))
 replace hR14 := hR14.mono st31 (WL.no2 (by omega) (by omega))
 replace hR3 := hR3.mono st31 (WL.no2 (by omega) (by omega))
 replace hR18 := hR18.mono st31 (WL.no2 (by omega) (by omega))
 replace hB3 := hB3.mono st31 (WL.no2 (by omega) (by omega))
 replace hB5 := hB5.mono st31 (WL.no2 (by omega) (by omega))
 replace hR17 := hR17.mono st31 (WL.no2 (by omega) (by omega)) (WL.no2 (by omega) (by omega))
 replace hB6 := hB6.mono st31 (WL.no2 (by omega) (by omega))
 replace hB7 := hB7.mono st31 (WL.no2 (by omega) (by omega))
 replace hR5 := hR5.mono st31 (WL.no2 (by omega) (by omega))
 replace hR6 := hR6.mono st31 (WL.no2 (by omega) (by omega))
 replace hB8 := hB8.mono st31 (WL.no2 (by omega) (by omega))
 replace hR8 := hR8.mono st31 (WL.no2 (by omega) (by omega))
 replace hR9 := hR9.mono st31 (WL.no2 (by omega) (by omega))
 replace hB17 := hB17.mono st31 (WL.no2 (by omega) (by omega))
 replace tot := tot.trans (st31.up2 (.inr (by omega)) (.inr (by omega)))
 refine NX.then_n ?_
 refine CP.refr 175 [(4, .pointer (some ⟨b1, 0, none⟩)), (5, .pointer (some ⟨b2, 0, none⟩)), (6, .pointer (some ⟨b3, 0, none⟩)), (9, .pointer (some ⟨b5, 0, none⟩)), (10, .pointer (some ⟨b7, 0, none⟩)), (11, .pointer (some ⟨b8, 0, none⟩)), (12, .pointer (some ⟨b9, 0, none⟩))] (by kernel_rfl) (by as_aux_lemma => kernel_rfl) ?_
 clear ds
 intro ds
 refine CP.cut (fun tm g => ∃ (q8 : Bool), Fr 175 [(4, .pointer (some ⟨b1, 0, none⟩)), (5, .pointer (some ⟨b2, 0, none⟩)), (6, .pointer (some ⟨b3, 0, none⟩)), (9, .pointer (some ⟨b5, 0, none⟩)), (10, .pointer (some ⟨b7, 0, none⟩)), (11, .pointer (some ⟨b8, 0, none⟩)), (12, .pointer (some ⟨b9, 0, none⟩)), (13, .bool q8)] tm ∧ Step (fun l => NoM l ∨ t ≤ l) g0 g ∧ Box g (t + 1) b1 35 [[.int .i64 x1], encA .u8 d1, [.int .i64 x2], encA .u8 d2, [.slice a1 n1 c1], [.slice a14 n14 c14], [.bool q1]] [1, 8, 1, 8, 1, 1, 1] ∧ RdS (Kd.int .u8) g 5 a1 n1 c1 l1 ∧ RdS (Kd.int .u8) g 5 a14 n14 c14 l13 ∧ Box g (t + 2) b2 35 [[.int .i64 x3], encA .u8 d3, [.int .i64 x4], encA .u8 d4, [.slice a3 n3 c3], [.slice a18 n18 c18], [.bool q2]] [1, 8, 1, 8, 1, 1, 1] ∧ RdS (Kd.int .u8) g 5 a3 n3 c3 l3 ∧ RdS (Kd.int .u8) g 5 a18 n18 c18 l16 ∧ Box g (t + 3) b3 32 [encA .u8 d5] [8] ∧ Box g (t + 5) b5 121 [[.slice a17 n17 c17], [.map (some b6)]] [1, 1] ∧ OwnS k_S_notary_entry g (t + 9) 126 a17 n17 c17 l15 ∧ MapB g (t + 6) b6 kv_S_notary_entry (Value.int .i64) w2 ∧ Box g (t + 7) b7 43 [[.int .i64 x8], encA .u8 d7, [.int .i64 x9], [.slice a5 l5.length c5], encA .u8 d8, [.int .i64 x10], encA .u8 d9, [.slice a6 l6.length c6], [.slice a14 n14 c14]] [1, 8, 1, 1, 8, 1, 8, 1, 1] ∧ RdS (Kd.int .u8) g 5 a5 l5.length c5 l5 ∧ RdS (Kd.int .u8) g 5 a6 l6.length c6 l6 ∧ Box g (t + 8) b8 43 [[.int .i64 x11], encA .u8 d10, [.int .i64 x12], [.slice a8 l8.length c8], encA .u8 d11, [.int .i64 x13], encA .u8 d12, [.slice a9 l9.length c9], [.slice a18 n18 c18]] [1, 8, 1, 1, 8, 1, 8, 1, 1] ∧ RdS (Kd.int .u8) g 5 a8 l8.length c8 l8 ∧ RdS (Kd.int .u8) g 5 a9 l9.length c9 l9 ∧ Box g (t + 12) b9 37 [encA .u8 d23] [8] ∧ (F.baizelaw34_PunishTells.c4 x1 d1 x2 d2 l1 q1 x3 d3 x4 d4 l3 q2 d5 x8 d7 x9 l5 d8 x10 d9 l6 x11 d10 x12 l8 d11 x13 d12 l9 l13 l15 w2 l16 d23 q8) = some o1) ?_ ?_
 ·replace hs := Option.bind_eq_some_iff.1 hs
  obtain ⟨d34, hk38, hs⟩ := hs
  replace hs := Option.bind_eq_some_iff.1 hs
  obtain ⟨q11, hk39, hs⟩ := hs
  refine bool_split (b := q11) (fun h20 => ?_) (fun h20 => ?_)
  ·replace hs := of_if_t hs h20
   replace hs := Option.bind_eq_some_iff.1 hs
   obtain ⟨d35, hk40, hs⟩ := hs
   replace hs := Option.bind_eq_some_iff.1 hs
   obtain ⟨q12, hk41, hs⟩ := hs
   refine CP.drawL (by as_aux_lemma => kernel_rfl) [1, 2, 3, 5, 6, 7, 9, 10, 11, 13, 14] N.baizelaw34_PunishTells_4 [⟨none, [], [], fun l g => RdS (Kd.int .u8) g 5 a14 n14 c14 l13⟩, ⟨none, [], [], fun l g => RdS (Kd.int .u8) g 5 a18 n18 c18 l16⟩, ⟨none, [], [], fun l g => Box g (t + 5) b5 121 [[.slice a17 n17 c17], [.map (some b6)]] [1, 1]⟩, ⟨none, [0], [], fun l g => OwnS k_S_notary_entry g (t + 9) 126 a17 n17 c17 l15⟩, ⟨none, [], [], fun l g => MapB g (t + 6) b6 kv_S_notary_entry (Value.int .i64) w2⟩, ⟨none, [], [], fun l g => Box g (t + 7) b7 43 [[.int .i64 x8], encA .u8 d7, [.int .i64 x9], [.slice a5 l5.length c5], encA .u8 d8, [.int .i64 x10], encA .u8 d9, [.slice a6 l6.length c6], [.slice a14 n14 c14]] [1, 8, 1, 1, 8, 1, 8, 1, 1]⟩, ⟨none, [], [], fun l g => RdS (Kd.int .u8) g 5 a5 l5.length c5 l5⟩, ⟨none, [], [], fun l g => RdS (Kd.int .u8) g 5 a6 l6.length c6 l6⟩, ⟨none, [], [], fun l g => Box g (t + 8) b8 43 [[.int .i64 x11], encA .u8 d10, [.int .i64 x12], [.slice a8 l8.length c8], encA .u8 d11, [.int .i64 x13], encA .u8 d12, [.slice a9 l9.length c9], [.slice a18 n18 c18]] [1, 8, 1, 1, 8, 1, 8, 1, 1]⟩, ⟨none, [], [], fun l g => RdS (Kd.int .u8) g 5 a8 l8.length c8 l8⟩, ⟨none, [], [], fun l g => RdS (Kd.int .u8) g 5 a9 l9.length c9 l9⟩, ⟨none, [], [], fun l g => Box g (t + 12) b9 37 [encA .u8 d23] [8]⟩, ⟨some 0, [], [0], fun l g => l.getD 0 undef = AG [encA .u8 d23]⟩, ⟨some 1, [], [1], fun l g => l.getD 0 undef = AG [[.int .i64 x8], encA .u8 d7, [.int .i64 x9], [.slice a5 l5.length c5], encA .u8 d8, [.int .i64 x10], encA .u8 d9, [.slice a6 l6.length c6], [.slice a14 n14 c14]]⟩, ⟨some 2, [], [2], fun l g => l.getD 0 undef = AG [encA .u8 d34]⟩, ⟨some 3, [], [3], fun l g => l.getD 0 undef = .slice a14 n14 c14⟩, ⟨some 4, [], [4], fun l g => l.getD 0 undef = .bool q11⟩, ⟨some 4, [0], [], fun l g => OwnS k_S_notary_entry g (t + 9) 126 a17 n17 c17 l15⟩, ⟨some 5, [], [5], fun l g => l.getD 0 undef = .bool true⟩, ⟨some 6, [], [6], fun l g => l.getD 0 undef = AG [encA .u8 d23]⟩, ⟨some 7, [], [7], fun l g => l.getD 0 undef = AG [[.int .i64 x11], encA .u8 d10, [.int .i64 x12], [.slice a8 l8.length c8], encA .u8 d11, [.int .i64 x13], encA .u8 d12, [.slice a9 l9.length c9], [.slice a18 n18 c18]]⟩, ⟨some 8, [], [8], fun l g => l.getD 0 undef = AG [encA .u8 d35]⟩, ⟨some 9, [], [9], fun l g => l.getD 0 undef = .slice a18 n18 c18⟩, ⟨some 10, [], [10], fun l g => l.getD 0 undef = .bool q12⟩, ⟨some 10, [0], [], fun l g => OwnS k_S_notary_entry g (t + 9) 126 a17 n17 c17 l15⟩] [[], [], [], [], [0], [], [], [], [], [], [0]] [(t + 9)] [0, 4] [8, 12, 15, 16] (by as_aux_lemma => kernel_rfl) (by simp <;> omega) (by simp) ⟨fun _ _ _ _ st h0 hl hj hR14 => (RdS.mono (e := 5) hR14 st h0), fun _ _ _ _ st h0 hl hj hR18 => (RdS.mono (e := 5) hR18 st h0), fun _ _ _ _ st h0 hl hj hB5 => (hB5.mono st (fun h => absurd (hl _ h) (by simp <;> omega))), fun _ _ _ _ st h0 hl hj hR17 => (hR17.mono st h0 (hj 0 (by simp) _ rfl)), fun _ _ _ _ st h0 hl hj hB6 => (hB6.mono st (fun h => absurd (hl _ h) (by simp <;> omega))), fun _ _ _ _ st h0 hl hj hB7 => (hB7.mono st (fun h => absurd (hl _ h) (by simp <;> omega))), fun _ _ _ _ st h0 hl hj hR5 => (RdS.mono (e := 5) hR5 st h0), fun _ _ _ _ st h0 hl hj hR6 => (RdS.mono (e := 5) hR6 st h0), fun _ _ _ _ st h0 hl hj hB8 => (hB8.mono st (fun h => absurd (hl _ h) (by simp <;> omega))), fun _ _ _ _ st h0 hl hj hR8 => (RdS.mono (e := 5) hR8 st h0), fun _ _ _ _ st h0 hl hj hR9 => (RdS.mono (e := 5) hR9 st h0), fun _ _ _ _ st h0 hl hj hB17 => (hB17.mono st (fun h => absurd (hl _ h) (by simp <;> omega))), fun _ _ _ _ st h0 hl hj e0 => e0, fun _ _ _ _ st h0 hl hj e1 => e1, fun _ _ _ _ st h0 hl hj e2 => e2, fun _ _ _ _ st h0 hl hj e3 => e3, fun _ _ _ _ st h0 hl hj e4 => e4, fun _ _ _ _ st h0 hl hj hR17 => (hR17.mono st h0 (hj 0 (by simp) _ rfl)), fun _ _ _ _ st h0 hl hj e5 => e5, fun _ _ _ _ st h0 hl hj e6 => e6, fun _ _ _ _ st h0 hl hj e7 => e7, fun _ _ _ _ st h0 hl hj e8 => e8, fun _ _ _ _ st h0 hl hj e9 => e9, fun _ _ _ _ st h0 hl hj e10 => e10, fun _ _ _ _ st h0 hl hj hR17 => (hR17.mono st h0 (hj 0 (by simp) _ rfl)), tv⟩ ⟨hR14, hR18, hB5, hR17, hB6, hB7, hR5, hR6, hB8, hR8, hR9, hB17, tv, tv, tv, tv, tv, tv, tv, tv, tv, tv, tv, tv, tv, tv⟩ (by as_aux_lemma => kernel_rfl) (fun vs => by as_aux_lemma => kernel_rfl) ?_ ?_ ?_
   ·intro j hj
    have hq : j = 0 ∨ j = 1 ∨ j = 2 ∨ j = 3 := by have h : j < 4 := hj; omega
    rcases hq with rfl | rfl | rfl | rfl
    ·intro vs gq stq hl hf
     obtain ⟨v0, v1, v2, v3, v4, v5, v6, v7, v8, v9, v10, rfl⟩ := len_k11 hl
     obtain rfl : v5 = .bool true := hf _ (memI 18 rfl) (by as_aux_lemma => kernel_rfl)
     show Option.isSome _ = true
     as_aux_lemma => kernel_rfl
    ·intro vs gq stq hl hf
     obtain ⟨v0, v1, v2, v3, v4, v5, v6, v7, v8, v9, v10, rfl⟩ := len_k11 hl
     obtain rfl : v5 = .bool true := hf _ (memI 18 rfl) (by as_aux_lemma => kernel_rfl)
     show Option.isSome _ = true
     as_aux_lemma => kernel_rfl
    ·intro vs gq stq hl hf
     obtain ⟨v0, v1, v2, v3, v4, v5, v6, v7, v8, v9, v10, rfl⟩ := len_k11 hl
     obtain rfl : v5 = .bool true := hf _ (memI 18 rfl) (by as_aux_lemma => kernel_rfl)
     obtain rfl : v10 = .bool q12 := hf _ (memI 23 rfl) (by as_aux_lemma => kernel_rfl)
     show Option.isSome _ = true
     as_aux_lemma => kernel_rfl
    ·intro vs gq stq hl hf
     obtain ⟨v0, v1, v2, v3, v4, v5, v6, v7, v8, v9, v10, rfl⟩ := len_k11 hl
     obtain rfl : v5 = .bool true := hf _ (memI 18 rfl) (by as_aux_lemma => kernel_rfl)
     obtain rfl : v10 = .bool q12 := hf _ (memI 23 rfl) (by as_aux_lemma => kernel_rfl)
     show Option.isSome _ = true
     as_aux_lemma => kernel_rfl
   ·intro j hj
    have hq : j = 0 ∨ j = 1 ∨ j = 2 ∨ j = 3 ∨ j = 4 ∨ j = 5 ∨ j = 6 ∨ j = 7 ∨ j = 8 ∨ j = 9 ∨ j = 10 := by have h : j < 11 := hj; omega
    rcases hq with rfl | rfl | rfl | rfl | rfl | rfl | rfl | rfl | rfl | rfl | rfl
    ·intro vs gq stq hl hf
     obtain ⟨v0, v1, v2, v3, v4, v5, v6, v7, v8, v9, v10, rfl⟩ := len_k11 hl
     have hB17 := (show Box gq (t + 12) b9 37 [encA .u8 d23] [8] from hf _ (memI 11 rfl) (by as_aux_lemma => kernel_rfl))
     refine WP.loadB (v := AG [encA .u8 d23]) hB17 (by kernel_rfl) (by as_aux_lemma => kernel_rfl) ?_
     refine WP.dn (Shown.ok (v := AG [encA .u8 d23]) (by kernel_rfl) (Step.refl _ _) ?_)
     exact t8 (t4 ⟨rfl, (t8 (t4 tv))⟩)
    ·intro vs gq stq hl hf
     obtain ⟨v0, v1, v2, v3, v4, v5, v6, v7, v8, v9, v10, rfl⟩ := len_k11 hl
     have hB7 := (show Box gq (t + 7) b7 43 [[.int .i64 x8], encA .u8 d7, [.int .i64 x9], [.slice a5 l5.length c5], encA .u8 d8, [.int .i64 x10], encA .u8 d9, [.slice a6 l6.length c6], [.slice a14 n14 c14]] [1, 8, 1, 1, 8, 1, 8, 1, 1] from hf _ (memI 5 rfl) (by as_aux_lemma => kernel_rfl))
     refine WP.loadB (v := AG [[.int .i64 x8], encA .u8 d7, [.int .i64 x9], [.slice a5 l5.length c5], encA .u8 d8, [.int .i64 x10], encA .u8 d9, [.slice a6 l6.length c6], [.slice a14 n14 c14]]) hB7 (by kernel_rfl) (by as_aux_lemma => kernel_rfl) ?_
     refine WP.dn (Shown.ok (v := AG [[.int .i64 x8], encA .u8 d7, [.int .i64 x9], [.slice a5 l5.length c5], encA .u8 d8, [.int .i64 x10], encA .u8 d9, [.slice a6 l6.length c6], [.slice a14 n14 c14]]) (by kernel_rfl) (Step.refl _ _) ?_)
     exact t8 (t4 ⟨tv, rfl, (t8 ⟨tv, tv, tv, tv⟩)⟩)
    ·intro vs gq stq hl hf
     obtain ⟨v0, v1, v2, v3, v4, v5, v6, v7, v8, v9, v10, rfl⟩ := len_k11 hl
     have hR14 := (show RdS (Kd.int .u8) gq 5 a14 n14 c14 l13 from hf _ (memI 0 rfl) (by as_aux_lemma => kernel_rfl))
     have hR5 := (show RdS (Kd.int .u8) gq 5 a5 l5.length c5 l5 from hf _ (memI 6 rfl) (by as_aux_lemma => kernel_rfl))
     have hR6 := (show RdS (Kd.int .u8) gq 5 a6 l6.length c6 l6 from hf _ (memI 7 rfl) (by as_aux_lemma => kernel_rfl))
     obtain rfl : v1 = AG [[.int .i64 x8], encA .u8 d7, [.int .i64 x9], [.slice a5 l5.length c5], encA .u8 d8, [.int .i64 x10], encA .u8 d9, [.slice a6 l6.length c6], [.slice a14 n14 c14]] := hf _ (memI 13 rfl) (by as_aux_lemma => kernel_rfl)
     have hcal38 := P.punish_Thing_Digest gq x8 d7 x9 l5 d8 x10 d9 l6 l13 a5 l5.length c5 a6 l6.length c6 a14 n14 c14 hR5 hR6 hR14 d34 hk38
     refine WP.callC hcal38 (by kernel_rfl) ?_
     rintro _ g71 st71 rfl
     refine WP.dn (Shown.o (v := AG [encA .u8 d34]) st71.pure ?_)
     exact t8 (t4 ⟨tv, tv, rfl, (t8 ⟨tv, tv, tv⟩)⟩)
    ·intro vs gq stq hl hf
     obtain ⟨v0, v1, v2, v3, v4, v5, v6, v7, v8, v9, v10, rfl⟩ := len_k11 hl
     have hB7 := (show Box gq (t + 7) b7 43 [[.int .i64 x8], encA .u8 d7, [.int .i64 x9], [.slice a5 l5.length c5], encA .u8 d8, [.int .i64 x10], encA .u8 d9, [.slice a6 l6.length c6], [.slice a14 n14 c14]] [1, 8, 1, 1, 8, 1, 8, 1, 1] from hf _ (memI 5 rfl) (by as_aux_lemma => kernel_rfl))
     refine WP.loadB (v := .slice a14 n14 c14) hB7 (by kernel_rfl) (by as_aux_lemma => kernel_rfl) ?_
     refine WP.dn (Shown.ok (v := .slice a14 n14 c14) (by kernel_rfl) (Step.refl _ _) ?_)
     exact t8 (t4 ⟨tv, tv, tv, rfl, (t8 ⟨tv, tv⟩)⟩)
    ·intro vs gq stq hl hf
     obtain ⟨v0, v1, v2, v3, v4, v5, v6, v7, v8, v9, v10, rfl⟩ := len_k11 hl
     have hR14 := (show RdS (Kd.int .u8) gq 5 a14 n14 c14 l13 from hf _ (memI 0 rfl) (by as_aux_lemma => kernel_rfl))
     have hB5 := (show Box gq (t + 5) b5 121 [[.slice a17 n17 c17], [.map (some b6)]] [1, 1] from hf _ (memI 2 rfl) (by as_aux_lemma => kernel_rfl))
     have hR17 := (show OwnS k_S_notary_entry gq (t + 9) 126 a17 n17 c17 l15 from hf _ (memI 3 rfl) (by as_aux_lemma => kernel_rfl))
     have hB6 := (show MapB gq (t + 6) b6 kv_S_notary_entry (Value.int .i64) w2 from hf _ (memI 4 rfl) (by as_aux_lemma => kernel_rfl))
     obtain rfl : v0 = AG [encA .u8 d23] := hf _ (memI 12 rfl) (by as_aux_lemma => kernel_rfl)
     obtain rfl : v2 = AG [encA .u8 d34] := hf _ (memI 14 rfl) (by as_aux_lemma => kernel_rfl)
     obtain rfl : v3 = .slice a14 n14 c14 := hf _ (memI 15 rfl) (by as_aux_lemma => kernel_rfl)
     have hS6 : 0 ∉ ([(t + 9)] : List Nat) := by simp <;> omega
     have stl6 := GW.lend_step gq [(t + 9)]
     have hRl6 := hR17.lendTo hS6 (by simp)
     refine WP.regw (g' := GW.lend gq [(t + 9)]) rfl ?_
     have hcal39 := P.notary_Book_Verify (GW.lend gq [(t + 9)]) (t + 5) (t + 6) l15 w2 d23 d34 l13 a17 n17 c17 a14 n14 c14 b5 b6 hRl6 (hR14.mono stl6 (WL.no (by simp <;> omega))) (hB6.mono stl6 (WL.no (by simp <;> omega))) (hB5.mono stl6 (WL.no (by simp <;> omega))) (by omega) (by omega) (by omega) q11 hk39
     refine WP.callC hcal39 (by kernel_rfl) ?_
     rintro _ g72 st72 rfl
     have st73 := (GW.back_step st72).lentS
     have hO6 := hR17.backTo hS6 (by simp) st72 (fun x => x)
     refine WP.regw (g' := GW.back gq g72 [(t + 9)]) rfl ?_
     generalize GW.back gq g72 [(t + 9)] = g73 at *
     refine WP.dn (Shown.o (v := .bool q11) st73 ?_)
     exact t16 ⟨rfl, hO6, (t4 ⟨tv, tv, tv, tv⟩)⟩
    ·intro vs gq stq hl hf
     obtain ⟨v0, v1, v2, v3, v4, v5, v6, v7, v8, v9, v10, rfl⟩ := len_k11 hl
     obtain rfl : v4 = .bool q11 := hf _ (memI 16 rfl) (by as_aux_lemma => kernel_rfl)
     refine WP.stl 1 ?_
     refine WP.dn (Shown.ok (v := .bool q11) (by kernel_rfl) (Step.refl _ _) ?_)
     exact t16 ⟨tv, tv, congrArg Value.bool h20, (t4 ⟨tv, tv, tv⟩)⟩
    ·intro vs gq stq hl hf
     obtain ⟨v0, v1, v2, v3, v4, v5, v6, v7, v8, v9, v10, rfl⟩ := len_k11 hl
     have hB17 := (show Box gq (t + 12) b9 37 [encA .u8 d23] [8] from hf _ (memI 11 rfl) (by as_aux_lemma => kernel_rfl))
     obtain rfl : v5 = .bool true := hf _ (memI 18 rfl) (by as_aux_lemma => kernel_rfl)
     refine WP.loadB (v := AG [encA .u8 d23]) hB17 (by kernel_rfl) (by as_aux_lemma => kernel_rfl) ?_
     refine WP.dn (Shown.ok (v := AG [encA .u8 d23]) (by kernel_rfl) (Step.refl _ _) ?_)
     exact t16 ⟨tv, tv, tv, rfl, (t4 ⟨tv, tv⟩)⟩
    ·intro vs gq stq hl hf
     obtain ⟨v0, v1, v2, v3, v4, v5, v6, v7, v8, v9, v10, rfl⟩ := len_k11 hl
     have hB8 := (show Box gq (t + 8) b8 43 [[.int .i64 x11], encA .u8 d10, [.int .i64 x12], [.slice a8 l8.length c8], encA .u8 d11, [.int .i64 x13], encA .u8 d12, [.slice a9 l9.length c9], [.slice a18 n18 c18]] [1, 8, 1, 1, 8, 1, 8, 1, 1] from hf _ (memI 8 rfl) (by as_aux_lemma => kernel_rfl))
     obtain rfl : v5 = .bool true := hf _ (memI 18 rfl) (by as_aux_lemma => kernel_rfl)
     refine WP.loadB (v := AG [[.int .i64 x11], encA .u8 d10, [.int .i64 x12], [.slice a8 l8.length c8], encA .u8 d11, [.int .i64 x13], encA .u8 d12, [.slice a9 l9.length c9], [.slice a18 n18 c18]]) hB8 (by kernel_rfl) (by as_aux_lemma => kernel_rfl) ?_
     refine WP.dn (Shown.ok (v := AG [[.int .i64 x11], encA .u8 d10, [.int .i64 x12], [.slice a8 l8.length c8], encA .u8 d11, [.int .i64 x13], encA .u8 d12, [.slice a9 l9.length c9], [.slice a18 n18 c18]]) (by kernel_rfl) (Step.refl _ _) ?_)
     exact t16 (t4 ⟨rfl, (t4 tv)⟩)
    ·intro vs gq stq hl hf
     obtain ⟨v0, v1, v2, v3, v4, v5, v6, v7, v8, v9, v10, rfl⟩ := len_k11 hl
     have hR18 := (show RdS (Kd.int .u8) gq 5 a18 n18 c18 l16 from hf _ (memI 1 rfl) (by as_aux_lemma => kernel_rfl))
     have hR8 := (show RdS (Kd.int .u8) gq 5 a8 l8.length c8 l8 from hf _ (memI 9 rfl) (by as_aux_lemma => kernel_rfl))
     have hR9 := (show RdS (Kd.int .u8) gq 5 a9 l9.length c9 l9 from hf _ (memI 10 rfl) (by as_aux_lemma => kernel_rfl))
     obtain rfl : v5 = .bool true := hf _ (memI 18 rfl) (by as_aux_lemma => kernel_rfl)
     obtain rfl : v7 = AG [[.int .i64 x11], encA .u8 d10, [.int .i64 x12], [.slice a8 l8.length c8], encA .u8 d11, [.int .i64 x13], encA .u8 d12, [.slice a9 l9.length c9], [.slice a18 n18 c18]] := hf _ (memI 20 rfl) (by as_aux_lemma => kernel_rfl)
     have hcal40 := P.punish_Thing_Digest gq x11 d10 x12 l8 d11 x13 d12 l9 l16 a8 l8.length c8 a9 l9.length c9 a18 n18 c18 hR8 hR9 hR18 d35 hk40
     refine WP.callC hcal40 (by kernel_rfl) ?_
     rintro _ g74 st74 rfl
     refine WP.dn (Shown.o (v := AG [encA .u8 d35]) st74.pure ?_)
     exact t16 (t4 ⟨tv, rfl, tv, tv, tv, tv⟩)
    ·intro vs gq stq hl hf
     obtain ⟨v0, v1, v2, v3, v4, v5, v6, v7, v8, v9, v10, rfl⟩ := len_k11 hl
     have hB8 := (show Box gq (t + 8) b8 43 [[.int .i64 x11], encA .u8 d10, [.int .i64 x12], [.slice a8 l8.length c8], encA .u8 d11, [.int .i64 x13], encA .u8 d12, [.slice a9 l9.length c9], [.slice a18 n18 c18]] [1, 8, 1, 1, 8, 1, 8, 1, 1] from hf _ (memI 8 rfl) (by as_aux_lemma => kernel_rfl))
     obtain rfl : v5 = .bool true := hf _ (memI 18 rfl) (by as_aux_lemma => kernel_rfl)
     refine WP.loadB (v := .slice a18 n18 c18) hB8 (by kernel_rfl) (by as_aux_lemma => kernel_rfl) ?_
     refine WP.dn (Shown.ok (v := .slice a18 n18 c18) (by kernel_rfl) (Step.refl _ _) ?_)
     exact t16 (t4 ⟨tv, tv, rfl, tv, tv, tv⟩)
    ·intro vs gq stq hl hf
     obtain ⟨v0, v1, v2, v3, v4, v5, v6, v7, v8, v9, v10, rfl⟩ := len_k11 hl
     have hR18 := (show RdS (Kd.int .u8) gq 5 a18 n18 c18 l16 from hf _ (memI 1 rfl) (by as_aux_lemma => kernel_rfl))
     have hB5 := (show Box gq (t + 5) b5 121 [[.slice a17 n17 c17], [.map (some b6)]] [1, 1] from hf _ (memI 2 rfl) (by as_aux_lemma => kernel_rfl))
     have hB6 := (show MapB gq (t + 6) b6 kv_S_notary_entry (Value.int .i64) w2 from hf _ (memI 4 rfl) (by as_aux_lemma => kernel_rfl))
     have hR17 := (show OwnS k_S_notary_entry gq (t + 9) 126 a17 n17 c17 l15 from hf _ (memI 17 rfl) (by as_aux_lemma => kernel_rfl))
     obtain rfl : v5 = .bool true := hf _ (memI 18 rfl) (by as_aux_lemma => kernel_rfl)
     obtain rfl : v6 = AG [encA .u8 d23] := hf _ (memI 19 rfl) (by as_aux_lemma => kernel_rfl)
     obtain rfl : v8 = AG [encA .u8 d35] := hf _ (memI 21 rfl) (by as_aux_lemma => kernel_rfl)
     obtain rfl : v9 = .slice a18 n18 c18 := hf _ (memI 22 rfl) (by as_aux_lemma => kernel_rfl)
     have hS7 : 0 ∉ ([(t + 9)] : List Nat) := by simp <;> omega
     have stl7 := GW.lend_step gq [(t + 9)]
     have hRl7 := hR17.lendTo hS7 (by simp)
     refine WP.regw (g' := GW.lend gq [(t + 9)]) rfl ?_
     have hcal41 := P.notary_Book_Verify (GW.lend gq [(t + 9)]) (t + 5) (t + 6) l15 w2 d23 d35 l16 a17 n17 c17 a18 n18 c18 b5 b6 hRl7 (hR18.mono stl7 (WL.no (by simp <;> omega))) (hB6.mono stl7 (WL.no (by simp <;> omega))) (hB5.mono stl7 (WL.no (by simp <;> omega))) (by omega) (by omega) (by omega) q12 hk41
     refine WP.callC hcal41 (by kernel_rfl) ?_
     rintro _ g75 st75 rfl
     have st76 := (GW.back_step st75).lentS
     have hO7 := hR17.backTo hS7 (by simp) st75 (fun x => x)
     refine WP.regw (g' := GW.back gq g75 [(t + 9)]) rfl ?_
     generalize GW.back gq g75 [(t + 9)] = g76 at *
     refine WP.dn (Shown.o (v := .bool q12) st76 ?_)
     exact t16 (t4 ⟨tv, tv, tv, rfl, hO7, tv⟩)
   intro vs g77 st77 hl hf
   obtain ⟨v0, v1, v2, v3, v4, v5, v6, v7, v8, v9, v10, rfl⟩ := len_k11 hl
   obtain rfl : v5 = .bool true := hf _ (memI 18 rfl) (by as_aux_lemma => kernel_rfl)
   obtain rfl : v10 = .bool q12 := hf _ (memI 23 rfl) (by as_aux_lemma => kernel_rfl)
   have hR17 := (show OwnS k_S_notary_entry g77 (t + 9) 126 a17 n17 c17 l15 from hf _ (memI 24 rfl) (by as_aux_lemma => kernel_rfl))
   replace hB1 := hB1.mono st77 (WL.no1 (by omega))
   replace hR1 := hR1.mono st77 (WL.no1 (by omega))
   replace hR14 := hR14.mono st77 (WL.no1 (by omega))
   replace hB2 := hB2.mono st77 (WL.no1 (by omega))
   replace hR3 := hR3.mono st77 (WL.no1 (by omega))
   replace hR18 := hR18.mono st77 (WL.no1 (by omega))
   replace hB3 := hB3.mono st77 (WL.no1 (by omega))
   replace hB5 := hB5.mono st77 (WL.no1 (by omega))
   replace hB6 := hB6.mono st77 (WL.no1 (by omega))
   replace hB7 := hB7.mono st77 (WL.no1 (by omega))
   replace hR5 := hR5.mono st77 (WL.no1 (by omega))
   replace hR6 := hR6.mono st77 (WL.no1 (by omega))
   replace hB8 := hB8.mono st77 (WL.no1 (by omega))
   replace hR8 := hR8.mono st77 (WL.no1 (by omega))
   replace hR9 := hR9.mono st77 (WL.no1 (by omega))
   replace hB17 := hB17.mono st77 (WL.no1 (by omega))
   replace tot := tot.trans (st77.up1 (.inr (by omega)))
   refine NX.post ?_
   exact ⟨q12, ⟨by kernel_rfl, by kernel_rfl⟩, tot, hB1, hR1, hR14, hB2, hR3, hR18, hB3, hB5, hR17, hB6, hB7, hR5, hR6, hB8, hR8, hR9, hB17, hs⟩
  replace hs := of_if_f hs h20
  refine CP.drawL (by as_aux_lemma => kernel_rfl) [1, 2, 3, 5, 6, 7] N.baizelaw34_PunishTells_4 [⟨none, [], [], fun l g => RdS (Kd.int .u8) g 5 a14 n14 c14 l13⟩, ⟨none, [], [], fun l g => Box g (t + 5) b5 121 [[.slice a17 n17 c17], [.map (some b6)]] [1, 1]⟩, ⟨none, [0], [], fun l g => OwnS k_S_notary_entry g (t + 9) 126 a17 n17 c17 l15⟩, ⟨none, [], [], fun l g => MapB g (t + 6) b6 kv_S_notary_entry (Value.int .i64) w2⟩, ⟨none, [], [], fun l g => Box g (t + 7) b7 43 [[.int .i64 x8], encA .u8 d7, [.int .i64 x9], [.slice a5 l5.length c5], encA .u8 d8, [.int .i64 x10], encA .u8 d9, [.slice a6 l6.length c6], [.slice a14 n14 c14]] [1, 8, 1, 1, 8, 1, 8, 1, 1]⟩, ⟨none, [], [], fun l g => RdS (Kd.int .u8) g 5 a5 l5.length c5 l5⟩, ⟨none, [], [], fun l g => RdS (Kd.int .u8) g 5 a6 l6.length c6 l6⟩, ⟨none, [], [], fun l g => Box g (t + 12) b9 37 [encA .u8 d23] [8]⟩, ⟨some 0, [], [0], fun l g => l.getD 0 undef = AG [encA .u8 d23]⟩, ⟨some 1, [], [1], fun l g => l.getD 0 undef = AG [[.int .i64 x8], encA .u8 d7, [.int .i64 x9], [.slice a5 l5.length c5], encA .u8 d8, [.int .i64 x10], encA .u8 d9, [.slice a6 l6.length c6], [.slice a14 n14 c14]]⟩, ⟨some 2, [], [2], fun l g => l.getD 0 undef = AG [encA .u8 d34]⟩, ⟨some 3, [], [3], fun l g => l.getD 0 undef = .slice a14 n14 c14⟩, ⟨some 4, [], [4], fun l g => l.getD 0 undef = .bool q11⟩, ⟨some 4, [0], [], fun l g => OwnS k_S_notary_entry g (t + 9) 126 a17 n17 c17 l15⟩, ⟨some 5, [], [5], fun l g => l.getD 0 undef = .bool false⟩] [[], [], [], [], [0], []] [(t + 9)] [0, 4] [8, 9, 10, 11, 12, 13, 14, 15, 16] (by as_aux_lemma => kernel_rfl) (by simp <;> omega) (by simp) ⟨fun _ _ _ _ st h0 hl hj hR14 => (RdS.mono (e := 5) hR14 st h0), fun _ _ _ _ st h0 hl hj hB5 => (hB5.mono st (fun h => absurd (hl _ h) (by simp <;> omega))), fun _ _ _ _ st h0 hl hj hR17 => (hR17.mono st h0 (hj 0 (by simp) _ rfl)), fun _ _ _ _ st h0 hl hj hB6 => (hB6.mono st (fun h => absurd (hl _ h) (by simp <;> omega))), fun _ _ _ _ st h0 hl hj hB7 => (hB7.mono st (fun h => absurd (hl _ h) (by simp <;> omega))), fun _ _ _ _ st h0 hl hj hR5 => (RdS.mono (e := 5) hR5 st h0), fun _ _ _ _ st h0 hl hj hR6 => (RdS.mono (e := 5) hR6 st h0), fun _ _ _ _ st h0 hl hj hB17 => (hB17.mono st (fun h => absurd (hl _ h) (by simp <;> omega))), fun _ _ _ _ st h0 hl hj e0 => e0, fun _ _ _ _ st h0 hl hj e1 => e1, fun _ _ _ _ st h0 hl hj e2 => e2, fun _ _ _ _ st h0 hl hj e3 => e3, fun _ _ _ _ st h0 hl hj e4 => e4, fun _ _ _ _ st h0 hl hj hR17 => (hR17.mono st h0 (hj 0 (by simp) _ rfl)), fun _ _ _ _ st h0 hl hj e5 => e5, tv⟩ ⟨hR14, hB5, hR17, hB6, hB7, hR5, hR6, hB17, tv, tv, tv, tv, tv, tv, tv, tv⟩ (by as_aux_lemma => kernel_rfl) (fun vs => by as_aux_lemma => kernel_rfl) ?_ ?_ ?_
  ·intro j hj
   have hq : j = 0 ∨ j = 1 ∨ j = 2 ∨ j = 3 ∨ j = 4 ∨ j = 5 ∨ j = 6 ∨ j = 7 ∨ j = 8 := by have h : j < 9 := hj; omega
   rcases hq with rfl | rfl | rfl | rfl | rfl | rfl | rfl | rfl | rfl
   ·intro vs gq stq hl hf
    obtain ⟨v0, v1, v2, v3, v4, v5, rfl⟩ := len_k6 hl
    obtain rfl : v5 = .bool false := hf _ (memI 14 rfl) (by as_aux_lemma => kernel_rfl)
    show Option.isSome _ = true
    as_aux_lemma => kernel_rfl
   ·intro vs gq stq hl hf
    obtain ⟨v0, v1, v2, v3, v4, v5, rfl⟩ := len_k6 hl
    obtain rfl : v5 = .bool false := hf _ (memI 14 rfl) (by as_aux_lemma => kernel_rfl)
    show Option.isSome _ = true
    as_aux_lemma => kernel_rfl
   ·intro vs gq stq hl hf
    obtain ⟨v0, v1, v2, v3, v4, v5, rfl⟩ := len_k6 hl
    obtain rfl : v5 = .bool false := hf _ (memI 14 rfl) (by as_aux_lemma => kernel_rfl)
    show Option.isSome _ = true
    as_aux_lemma => kernel_rfl
   ·intro vs gq stq hl hf
    obtain ⟨v0, v1, v2, v3, v4, v5, rfl⟩ := len_k6 hl
    obtain rfl : v5 = .bool false := hf _ (memI 14 rfl) (by as_aux_lemma => kernel_rfl)
    show Option.isSome _ = true
    as_aux_lemma => kernel_rfl
   ·intro vs gq stq hl hf
    obtain ⟨v0, v1, v2, v3, v4, v5, rfl⟩ := len_k6 hl
    obtain rfl : v5 = .bool false := hf _ (memI 14 rfl) (by as_aux_lemma => kernel_rfl)
    show Option.isSome _ = true
    as_aux_lemma => kernel_rfl
   ·intro vs gq stq hl hf
    obtain ⟨v0, v1, v2, v3, v4, v5, rfl⟩ := len_k6 hl
    obtain rfl : v5 = .bool false := hf _ (memI 14 rfl) (by as_aux_lemma => kernel_rfl)
    show Option.isSome _ = true
    as_aux_lemma => kernel_rfl
   ·intro vs gq stq hl hf
    obtain ⟨v0, v1, v2, v3, v4, v5, rfl⟩ := len_k6 hl
    obtain rfl : v5 = .bool false := hf _ (memI 14 rfl) (by as_aux_lemma => kernel_rfl)
    show Option.isSome _ = true
    as_aux_lemma => kernel_rfl
   ·intro vs gq stq hl hf
    obtain ⟨v0, v1, v2, v3, v4, v5, rfl⟩ := len_k6 hl
    obtain rfl : v5 = .bool false := hf _ (memI 14 rfl) (by as_aux_lemma => kernel_rfl)
    show Option.isSome _ = true
    as_aux_lemma => kernel_rfl
   ·intro vs gq stq hl hf
    obtain ⟨v0, v1, v2, v3, v4, v5, rfl⟩ := len_k6 hl
    obtain rfl : v5 = .bool false := hf _ (memI 14 rfl) (by as_aux_lemma => kernel_rfl)
    show Option.isSome _ = true
    as_aux_lemma => kernel_rfl
  ·intro j hj
   have hq : j = 0 ∨ j = 1 ∨ j = 2 ∨ j = 3 ∨ j = 4 ∨ j = 5 := by have h : j < 6 := hj; omega
   rcases hq with rfl | rfl | rfl | rfl | rfl | rfl
   ·intro vs gq stq hl hf
    obtain ⟨v0, v1, v2, v3, v4, v5, rfl⟩ := len_k6 hl
    have hB17 := (show Box gq (t + 12) b9 37 [encA .u8 d23] [8] from hf _ (memI 7 rfl) (by as_aux_lemma => kernel_rfl))
    refine WP.loadB (v := AG [encA .u8 d23]) hB17 (by kernel_rfl) (by as_aux_lemma => kernel_rfl) ?_
    refine WP.dn (Shown.ok (v := AG [encA .u8 d23]) (by kernel_rfl) (Step.refl _ _) ?_)
    exact t8 ⟨rfl, (t4 ⟨tv, tv, tv⟩)⟩
   ·intro vs gq stq hl hf
    obtain ⟨v0, v1, v2, v3, v4, v5, rfl⟩ := len_k6 hl
    have hB7 := (show Box gq (t + 7) b7 43 [[.int .i64 x8], encA .u8 d7, [.int .i64 x9], [.slice a5 l5.length c5], encA .u8 d8, [.int .i64 x10], encA .u8 d9, [.slice a6 l6.length c6], [.slice a14 n14 c14]] [1, 8, 1, 1, 8, 1, 8, 1, 1] from hf _ (memI 4 rfl) (by as_aux_lemma => kernel_rfl))
    refine WP.loadB (v := AG [[.int .i64 x8], encA .u8 d7, [.int .i64 x9], [.slice a5 l5.length c5], encA .u8 d8, [.int .i64 x10], encA .u8 d9, [.slice a6 l6.length c6], [.slice a14 n14 c14]]) hB7 (by kernel_rfl) (by as_aux_lemma => kernel_rfl) ?_
    refine WP.dn (Shown.ok (v := AG [[.int .i64 x8], encA .u8 d7, [.int .i64 x9], [.slice a5 l5.length c5], encA .u8 d8, [.int .i64 x10], encA .u8 d9, [.slice a6 l6.length c6], [.slice a14 n14 c14]]) (by kernel_rfl) (Step.refl _ _) ?_)
    exact t8 ⟨tv, rfl, (t4 ⟨tv, tv⟩)⟩
   ·intro vs gq stq hl hf
    obtain ⟨v0, v1, v2, v3, v4, v5, rfl⟩ := len_k6 hl
    have hR14 := (show RdS (Kd.int .u8) gq 5 a14 n14 c14 l13 from hf _ (memI 0 rfl) (by as_aux_lemma => kernel_rfl))
    have hR5 := (show RdS (Kd.int .u8) gq 5 a5 l5.length c5 l5 from hf _ (memI 5 rfl) (by as_aux_lemma => kernel_rfl))
    have hR6 := (show RdS (Kd.int .u8) gq 5 a6 l6.length c6 l6 from hf _ (memI 6 rfl) (by as_aux_lemma => kernel_rfl))
    obtain rfl : v1 = AG [[.int .i64 x8], encA .u8 d7, [.int .i64 x9], [.slice a5 l5.length c5], encA .u8 d8, [.int .i64 x10], encA .u8 d9, [.slice a6 l6.length c6], [.slice a14 n14 c14]] := hf _ (memI 9 rfl) (by as_aux_lemma => kernel_rfl)
    have hcal38 := P.punish_Thing_Digest gq x8 d7 x9 l5 d8 x10 d9 l6 l13 a5 l5.length c5 a6 l6.length c6 a14 n14 c14 hR5 hR6 hR14 d34 hk38
    refine WP.callC hcal38 (by kernel_rfl) ?_
    rintro _ g71 st71 rfl
    refine WP.dn (Shown.o (v := AG [encA .u8 d34]) st71.pure ?_)
    exact t8 ⟨tv, tv, rfl, (t4 tv)⟩
   ·intro vs gq stq hl hf
    obtain ⟨v0, v1, v2, v3, v4, v5, rfl⟩ := len_k6 hl
    have hB7 := (show Box gq (t + 7) b7 43 [[.int .i64 x8], encA .u8 d7, [.int .i64 x9], [.slice a5 l5.length c5], encA .u8 d8, [.int .i64 x10], encA .u8 d9, [.slice a6 l6.length c6], [.slice a14 n14 c14]] [1, 8, 1, 1, 8, 1, 8, 1, 1] from hf _ (memI 4 rfl) (by as_aux_lemma => kernel_rfl))
    refine WP.loadB (v := .slice a14 n14 c14) hB7 (by kernel_rfl) (by as_aux_lemma => kernel_rfl) ?_
    refine WP.dn (Shown.ok (v := .slice a14 n14 c14) (by kernel_rfl) (Step.refl _ _) ?_)
    exact t8 ⟨tv, tv, tv, rfl, tv, tv, tv, tv⟩
   ·intro vs gq stq hl hf
    obtain ⟨v0, v1, v2, v3, v4, v5, rfl⟩ := len_k6 hl
    have hR14 := (show RdS (Kd.int .u8) gq 5 a14 n14 c14 l13 from hf _ (memI 0 rfl) (by as_aux_lemma => kernel_rfl))
    have hB5 := (show Box gq (t + 5) b5 121 [[.slice a17 n17 c17], [.map (some b6)]] [1, 1] from hf _ (memI 1 rfl) (by as_aux_lemma => kernel_rfl))
    have hR17 := (show OwnS k_S_notary_entry gq (t + 9) 126 a17 n17 c17 l15 from hf _ (memI 2 rfl) (by as_aux_lemma => kernel_rfl))
    have hB6 := (show MapB gq (t + 6) b6 kv_S_notary_entry (Value.int .i64) w2 from hf _ (memI 3 rfl) (by as_aux_lemma => kernel_rfl))
    obtain rfl : v0 = AG [encA .u8 d23] := hf _ (memI 8 rfl) (by as_aux_lemma => kernel_rfl)
    obtain rfl : v2 = AG [encA .u8 d34] := hf _ (memI 10 rfl) (by as_aux_lemma => kernel_rfl)
    obtain rfl : v3 = .slice a14 n14 c14 := hf _ (memI 11 rfl) (by as_aux_lemma => kernel_rfl)
    have hS6 : 0 ∉ ([(t + 9)] : List Nat) := by simp <;> omega
    have stl6 := GW.lend_step gq [(t + 9)]
    have hRl6 := hR17.lendTo hS6 (by simp)
    refine WP.regw (g' := GW.lend gq [(t + 9)]) rfl ?_
    have hcal39 := P.notary_Book_Verify (GW.lend gq [(t + 9)]) (t + 5) (t + 6) l15 w2 d23 d34 l13 a17 n17 c17 a14 n14 c14 b5 b6 hRl6 (hR14.mono stl6 (WL.no (by simp <;> omega))) (hB6.mono stl6 (WL.no (by simp <;> omega))) (hB5.mono stl6 (WL.no (by simp <;> omega))) (by omega) (by omega) (by omega) q11 hk39
    refine WP.callC hcal39 (by kernel_rfl) ?_
    rintro _ g72 st72 rfl
    have st73 := (GW.back_step st72).lentS
    have hO6 := hR17.backTo hS6 (by simp) st72 (fun x => x)
    refine WP.regw (g' := GW.back gq g72 [(t + 9)]) rfl ?_
    generalize GW.back gq g72 [(t + 9)] = g73 at *
    refine WP.dn (Shown.o (v := .bool q11) st73 ?_)
    exact t8 (t4 ⟨rfl, hO6, tv, tv⟩)
   ·intro vs gq stq hl hf
    obtain ⟨v0, v1, v2, v3, v4, v5, rfl⟩ := len_k6 hl
    obtain rfl : v4 = .bool q11 := hf _ (memI 12 rfl) (by as_aux_lemma => kernel_rfl)
    refine WP.stl 1 ?_
    refine WP.dn (Shown.ok (v := .bool q11) (by kernel_rfl) (Step.refl _ _) ?_)
    exact t8 (t4 ⟨tv, tv, congrArg Value.bool h20, tv⟩)
  intro vs g78 st78 hl hf
  obtain ⟨v0, v1, v2, v3, v4, v5, rfl⟩ := len_k6 hl
  have hR17 := (show OwnS k_S_notary_entry g78 (t + 9) 126 a17 n17 c17 l15 from hf _ (memI 13 rfl) (by as_aux_lemma => kernel_rfl))
  obtain rfl : v5 = .bool false := hf _ (memI 14 rfl) (by as_aux_lemma => kernel_rfl)
  replace hB1 := hB1.mono st78 (WL.no1 (by omega))
  replace hR1 := hR1.mono st78 (WL.no1 (by omega))
  replace hR14 := hR14.mono st78 (WL.no1 (by omega))
  replace hB2 := hB2.mono st78 (WL.no1 (by omega))
  replace hR3 := hR3.mono st78 (WL.no1 (by omega))
  replace hR18 := hR18.mono st78 (WL.no1 (by omega))
  replace hB3 := hB3.mono st78 (WL.no1 (by omega))
  replace hB5 := hB5.mono st78 (WL.no1 (by omega))
  replace hB6 := hB6.mono st78 (WL.no1 (by omega))
  replace hB7 := hB7.mono st78 (WL.no1 (by omega))
  replace hR5 := hR5.mono st78 (WL.no1 (by omega))
  replace hR6 := hR6.mono st78 (WL.no1 (by omega))
  replace hB8 := hB8.mono st78 (WL.no1 (by omega))
  replace hR8 := hR8.mono st78 (WL.no1 (by omega))
  replace hR9 := hR9.mono st78 (WL.no1 (by omega))
  replace hB17 := hB17.mono st78 (WL.no1 (by omega))
  replace tot := tot.trans (st78.up1 (.inr (by omega)))
  refine NX.post ?_
  exact ⟨false, ⟨by kernel_rfl, by kernel_rfl⟩, tot, hB1, hR1, hR14, hB2, hR3, hR18, hB3, hB5, hR17, hB6, hB7, hR5, hR6, hB8, hR8, hR9, hB17, hs⟩
 clear tot hs hB1 hR1 hR14 hB2 hR3 hR18 hB3 hB5 hR17 hB6 hB7 hR5 hR6 hB8 hR8 hR9 hB17
 rintro tm g ⟨q8, hF, tot, hB1, hR1, hR14, hB2, hR3, hR18, hB3, hB5, hR17, hB6, hB7, hR5, hR6, hB8, hR8, hR9, hB17, hs⟩
 clear ds
 obtain ⟨ds, rfl⟩ := hF.open
 clear hF
 unfold F.baizelaw34_PunishTells.c4 at hs
 refine CP.seqR ?_
 refine WP.loadB (v := AG [[.int .i64 x8], encA .u8 d7, [.int .i64 x9], [.slice a5 l5.length c5], encA .u8 d8, [.int .i64 x10], encA .u8 d9, [.slice a6 l6.length c6], [.slice a14 n14 c14]]) hB7 (by kernel_rfl) (by as_aux_lemma => kernel_rfl) ?_
 replace hs := Option.bind_eq_some_iff.1 hs
 obtain ⟨⟨d26, x16, d27⟩, hk19, hs⟩ := hs
 dsimp only at hs
 have hcal19 := P.punish_Thing_Place g x8 d7 x9 l5 d8 x10 d9 l6 l13 a5 l5.length c5 a6 l6.length c6 a14 n14 c14 hR5 hR6 hR14 d26 x16 d27 hk19
 refine WP.callC hcal19 (by kernel_rfl) ?_
 rintro _ g38 st38 rfl
 replace hB1 := hB1.mono st38 (fun x => x)
 replace hR1 := hR1.mono st38 (fun x => x)
 replace hR14 := hR14.mono st38 (fun x => x)
 replace hB2 := hB2.mono st38 (fun x => x)
 replace hR3 := hR3.mono st38 (fun x => x)
 replace hR18 := hR18.mono st38 (fun x => x)
 replace hB3 := hB3.mono st38 (fun x => x)
 replace hB5 := hB5.mono st38 (fun x => x)
 replace hR17 := hR17.mono st38 (fun x => x) (fun x => x)
 replace hB6 := hB6.mono st38 (fun x => x)
 replace hB7 := hB7.mono st38 (fun x => x)
 replace hR5 := hR5.mono st38 (fun x => x)
 replace hR6 := hR6.mono st38 (fun x => x)
 replace hB8 := hB8.mono st38 (fun x => x)
 replace hR8 := hR8.mono st38 (fun x => x)
 replace hR9 := hR9.mono st38 (fun x => x)
 replace hB17 := hB17.mono st38 (fun x => x)
 replace tot := tot.trans st38.pure
 refine WP.stl 4 ?_
 refine WP.alloc (T := 37) (t + 13) [encA .u8 (zA 8)] [8] (by kernel_rfl) (by simp [len_encA]) ?_
 intro g39 b10 st39 hB21
 replace hB1 := hB1.mono st39 (fun x => x)
 replace hR1 := hR1.mono st39 (fun x => x)
 replace hR14 := hR14.mono st39 (fun x => x)
 replace hB2 := hB2.mono st39 (fun x => x)
 replace hR3 := hR3.mono st39 (fun x => x)
 replace hR18 := hR18.mono st39 (fun x => x)
 replace hB3 := hB3.mono st39 (fun x => x)
 replace hB5 := hB5.mono st39 (fun x => x)
 replace hR17 := hR17.mono st39 (fun x => x) (fun x => x)
 replace hB6 := hB6.mono st39 (fun x => x)
 replace hB7 := hB7.mono st39 (fun x => x)
 replace hR5 := hR5.mono st39 (fun x => x)
 replace hR6 := hR6.mono st39 (fun x => x)
 replace hB8 := hB8.mono st39 (fun x => x)
 replace hR8 := hR8.mono st39 (fun x => x)
 replace hR9 := hR9.mono st39 (fun x => x)
 replace hB17 := hB17.mono st39 (fun x => x)
 replace tot := tot.trans st39.pure
 refine WP.alloc (T := 37) (t + 14) [encA .u8 (zA 8)] [8] (by kernel_rfl) (by simp [len_encA]) ?_
 intro g40 b11 st40 hB22
 replace hB1 := hB1.mono st40 (fun x => x)
 replace hR1 := hR1.mono st40 (fun x => x)
 replace hR14 := hR14.mono st40 (fun x => x)
 replace hB2 := hB2.mono st40 (fun x => x)
 replace hR3 := hR3.mono st40 (fun x => x)
 replace hR18 := hR18.mono st40 (fun x => x)
 replace hB3 := hB3.mono st40 (fun x => x)
 replace hB5 := hB5.mono st40 (fun x => x)
 replace hR17 := hR17.mono st40 (fun x => x) (fun x => x)
 replace hB6 := hB6.mono st40 (fun x => x)
 replace hB7 := hB7.mono st40 (fun x => x)
 replace hR5 := hR5.mono st40 (fun x => x)
 replace hR6 := hR6.mono st40 (fun x => x)
 replace hB8 := hB8.mono st40 (fun x => x)
 replace hR8 := hR8.mono st40 (fun x => x)
 replace hR9 := hR9.mono st40 (fun x => x)
 replace hB17 := hB17.mono st40 (fun x => x)
 replace hB21 := hB21.mono st40 (fun x => x)
 replace tot := tot.trans st40.pure
 refine WP.storeB (ty := 37) (off := 0) (v := AG [encA .u8 d26]) hB21 [encA .u8 d26] [8] (by kernel_rfl) (by as_aux_lemma => kernel_rfl) (by simp [len_encA]) (by kernel_rfl) [encA .u8 d26] (by kernel_rfl) (.arr .nil) ?_
 intro g41 st41 hB23
 replace hB1 := hB1.mono st41 (WL.no1 (by omega))
 replace hR1 := hR1.mono st41 (WL.no1 (by omega))
 replace hR14 := hR14.mono st41 (WL.no1 (by omega))
 replace hB2 := hB2.mono st41 (WL.no1 (by omega))
 replace hR3 := hR3.mono st41 (WL.no1 (by omega))
 replace hR18 := hR18.mono st41 (WL.no1 (by omega))
 replace hB3 := hB3.mono st41 (WL.no1 (by omega))
 replace hB5 := hB5.mono st41 (WL.no1 (by omega))
 replace hR17 := hR17.mono st41 (WL.no1 (by omega)) (WL.no1 (by omega))
 replace hB6 := hB6.mono st41 (WL.no1 (by omega))
 replace hB7 := hB7.mono st41 (WL.no1 (by omega))
 replace hR5 := hR5.mono st41 (WL.no1 (by omega))
 replace hR6 := hR6.mono st41 (WL.no1 (by omega))
 replace hB8 := hB8.mono st41 (WL.no1 (by omega))
 replace hR8 := hR8.mono st41 (WL.no1 (by omega))
 replace hR9 := hR9.mono st41 (WL.no1 (by omega))
 replace hB17 := hB17.mono st41 (WL.no1 (by omega))
 replace hB22 := hB22.mono st41 (WL.no1 (by omega))
 replace tot := tot.trans (st41.up1 (.inr (by omega)))
 clear hB21
 have hB21 := hB23
 clear hB23
 refine WP.stl 1 ?_
 refine WP.storeB (ty := 37) (off := 0) (v := AG [encA .u8 d27]) hB22 [encA .u8 d27] [8] (by kernel_rfl) (by as_aux_lemma => kernel_rfl) (by simp [len_encA]) (by kernel_rfl) [encA .u8 d27] (by kernel_rfl) (.arr .nil) ?_
 intro g42 st42 hB24
 replace hB1 := hB1.mono st42 (WL.no1 (by omega))
 replace hR1 := hR1.mono st42 (WL.no1 (by omega))
 replace hR14 := hR14.mono st42 (WL.no1 (by omega))
 replace hB2 := hB2.mono st42 (WL.no1 (by omega))
 replace hR3 := hR3.mono st42 (WL.no1 (by omega))
 replace hR18 := hR18.mono st42 (WL.no1 (by omega))
 replace hB3 := hB3.mono st42 (WL.no1 (by omega))
 replace hB5 := hB5.mono st42 (WL.no1 (by omega))
 replace hR17 := hR17.mono st42 (WL.no1 (by omega)) (WL.no1 (by omega))
 replace hB6 := hB6.mono st42 (WL.no1 (by omega))
 replace hB7 := hB7.mono st42 (WL.no1 (by omega))
 replace hR5 := hR5.mono st42 (WL.no1 (by omega))
 replace hR6 := hR6.mono st42 (WL.no1 (by omega))
 replace hB8 := hB8.mono st42 (WL.no1 (by omega))
 replace hR8 := hR8.mono st42 (WL.no1 (by omega))
 replace hR9 := hR9.mono st42 (WL.no1 (by omega))
 replace hB17 := hB17.mono st42 (WL.no1 (by omega))
 replace hB21 := hB21.mono st42 (WL.no1 (by omega))
 replace tot := tot.trans (st42.up1 (.inr (by omega)))
 clear hB22
 have hB22 := hB24
 clear hB24
 refine WP.dn ?_
 refine NX.then_n ?_
 refine CP.seq ?_
 refine CP.cut (fun tm g => ∃ (q9 : Bool), Fr 175 [(4, .pointer (some ⟨b1, 0, none⟩)), (5, .pointer (some ⟨b2, 0, none⟩)), (6, .pointer (some ⟨b3, 0, none⟩)), (9, .pointer (some ⟨b5, 0, none⟩)), (10, .pointer (some ⟨b7, 0, none⟩)), (11, .pointer (some ⟨b8, 0, none⟩)), (12, .pointer (some ⟨b9, 0, none⟩)), (13, .bool q8), (139, .bool q9)] tm ∧ Step (fun l => NoM l ∨ t ≤ l) g0 g ∧ Box g (t + 1) b1 35 [[.int .i64 x1], encA .u8 d1, [.int .i64 x2], encA .u8 d2, [.slice a1 n1 c1], [.slice a14 n14 c14], [.bool q1]] [1, 8, 1, 8, 1, 1, 1] ∧ RdS (Kd.int .u8) g 5 a1 n1 c1 l1 ∧ RdS (Kd.int .u8) g 5 a14 n14 c14 l13 ∧ Box g (t + 2) b2 35 [[.int .i64 x3], encA .u8 d3, [.int .i64 x4], encA .u8 d4, [.slice a3 n3 c3], [.slice a18 n18 c18], [.bool q2]] [1, 8, 1, 8, 1, 1, 1] ∧ RdS (Kd.int .u8) g 5 a3 n3 c3 l3 ∧ RdS (Kd.int .u8) g 5 a18 n18 c18 l16 ∧ Box g (t + 3) b3 32 [encA .u8 d5] [8] ∧ Box g (t + 5) b5 121 [[.slice a17 n17 c17], [.map (some b6)]] [1, 1] ∧ OwnS k_S_notary_entry g (t + 9) 126 a17 n17 c17 l15 ∧ MapB g (t + 6) b6 kv_S_notary_entry (Value.int .i64) w2 ∧ Box g (t + 7) b7 43 [[.int .i64 x8], encA .u8 d7, [.int .i64 x9], [.slice a5 l5.length c5], encA .u8 d8, [.int .i64 x10], encA .u8 d9, [.slice a6 l6.length c6], [.slice a14 n14 c14]] [1, 8, 1, 1, 8, 1, 8, 1, 1] ∧ RdS (Kd.int .u8) g 5 a5 l5.length c5 l5 ∧ RdS (Kd.int .u8) g 5 a6 l6.length c6 l6 ∧ Box g (t + 8) b8 43 [[.int .i64 x11], encA .u8 d10, [.int .i64 x12], [.slice a8 l8.length c8], encA .u8 d11, [.int .i64 x13], encA .u8 d12, [.slice a9 l9.length c9], [.slice a18 n18 c18]] [1, 8, 1, 1, 8, 1, 8, 1, 1] ∧ RdS (Kd.int .u8) g 5 a8 l8.length c8 l8 ∧ RdS (Kd.int .u8) g 5 a9 l9.length c9 l9 ∧ Box g (t + 12) b9 37 [encA .u8 d23] [8] ∧ (F.baizelaw34_PunishTells.c5 x1 d1 x2 d2 l1 q1 x3 d3 x4 d4 l3 q2 d5 x8 d7 x9 l5 d8 x10 d9 l6 x11 d10 x12 l8 d11 x13 d12 l9 l13 l15 w2 l16 d23 q8 q9) = some o1) ?_ ?_
 ·replace hs := Option.bind_eq_some_iff.1 hs
  obtain ⟨x28, hk36, hs⟩ := hs
  refine bool_split (b := (x28 == 0)) (fun h17 => ?_) (fun h17 => ?_)
  ·replace hs := of_if_t hs h17
   refine bool_split (b := (!(d26.1 == d1.1))) (fun h18 => ?_) (fun h18 => ?_)
   ·replace hs := of_if_t hs h18
    refine CP.drawL (by as_aux_lemma => kernel_rfl) [0, 1, 3, 4, 6, 7, 8] N.baizelaw34_PunishTells_3 [⟨none, [], [], fun l g => Box g (t + 1) b1 35 [[.int .i64 x1], encA .u8 d1, [.int .i64 x2], encA .u8 d2, [.slice a1 n1 c1], [.slice a14 n14 c14], [.bool q1]] [1, 8, 1, 8, 1, 1, 1]⟩, ⟨none, [], [], fun l g => RdS (Kd.int .u8) g 5 a1 n1 c1 l1⟩, ⟨none, [], [], fun l g => RdS (Kd.int .u8) g 5 a14 n14 c14 l13⟩, ⟨none, [], [], fun l g => Box g (t + 13) b10 37 [encA .u8 d26] [8]⟩, ⟨some 0, [], [0], fun l g => l.getD 0 undef = AG [[.int .i64 x1], encA .u8 d1, [.int .i64 x2], encA .u8 d2, [.slice a1 n1 c1], [.slice a14 n14 c14], [.bool q1]]⟩, ⟨some 1, [], [1], fun l g => l.getD 0 undef = .int .i64 x28⟩, ⟨some 2, [], [2], fun l g => l.getD 0 undef = .bool true⟩, ⟨some 3, [], [3], fun l g => l.getD 0 undef = AG [encA .u8 d26]⟩, ⟨some 4, [], [4], fun l g => l.getD 0 undef = AG [encA .u8 d1]⟩, ⟨some 5, [], [5], fun l g => l.getD 0 undef = .bool (!(d26.1 == d1.1))⟩, ⟨some 6, [], [6], fun l g => l.getD 0 undef = .bool true⟩] [[], [], [], [], [], [], []] [] [] [2, 5, 9, 10, 11, 12, 13, 14, 15, 16, 17, 18, 19, 20] (by as_aux_lemma => kernel_rfl) (by simp) (by simp) ⟨fun _ _ _ _ st h0 hl hj hB1 => (hB1.mono st (fun h => absurd (hl _ h) (by simp))), fun _ _ _ _ st h0 hl hj hR1 => (RdS.mono (e := 5) hR1 st h0), fun _ _ _ _ st h0 hl hj hR14 => (RdS.mono (e := 5) hR14 st h0), fun _ _ _ _ st h0 hl hj hB21 => (hB21.mono st (fun h => absurd (hl _ h) (by simp))), fun _ _ _ _ st h0 hl hj e0 => e0, fun _ _ _ _ st h0 hl hj e1 => e1, fun _ _ _ _ st h0 hl hj e2 => e2, fun _ _ _ _ st h0 hl hj e3 => e3, fun _ _ _ _ st h0 hl hj e4 => e4, fun _ _ _ _ st h0 hl hj e5 => e5, fun _ _ _ _ st h0 hl hj e6 => e6, tv⟩ ⟨hB1, hR1, hR14, hB21, tv, tv, tv, tv, tv, tv, tv, tv⟩ (by as_aux_lemma => kernel_rfl) (fun vs => by as_aux_lemma => kernel_rfl) ?_ ?_ ?_
    ·intro j hj
     have hq : j = 0 ∨ j = 1 ∨ j = 2 ∨ j = 3 ∨ j = 4 ∨ j = 5 ∨ j = 6 ∨ j = 7 ∨ j = 8 ∨ j = 9 ∨ j = 10 ∨ j = 11 ∨ j = 12 ∨ j = 13 := by have h : j < 14 := hj; omega
     rcases hq with rfl | rfl | rfl | rfl | rfl | rfl | rfl | rfl | rfl | rfl | rfl | rfl | rfl | rfl
     ·intro vs gq stq hl hf
      obtain ⟨v0, v1, v2, v3, v4, v5, v6, rfl⟩ := len_k7 hl
      obtain rfl : v1 = .int .i64 x28 := hf _ (memI 5 rfl) (by as_aux_lemma => kernel_rfl)
      show Option.isSome _ = true
      as_aux_lemma => kernel_rfl
     ·intro vs gq stq hl hf
      obtain ⟨v0, v1, v2, v3, v4, v5, v6, rfl⟩ := len_k7 hl
      obtain rfl : v2 = .bool true := hf _ (memI 6 rfl) (by as_aux_lemma => kernel_rfl)
      show Option.isSome _ = true
      as_aux_lemma => kernel_rfl
     ·intro vs gq stq hl hf
      obtain ⟨v0, v1, v2, v3, v4, v5, v6, rfl⟩ := len_k7 hl
      obtain rfl : v6 = .bool true := hf _ (memI 10 rfl) (by as_aux_lemma => kernel_rfl)
      show Option.isSome _ = true
      as_aux_lemma => kernel_rfl
     ·intro vs gq stq hl hf
      obtain ⟨v0, v1, v2, v3, v4, v5, v6, rfl⟩ := len_k7 hl
      obtain rfl : v6 = .bool true := hf _ (memI 10 rfl) (by as_aux_lemma => kernel_rfl)
      show Option.isSome _ = true
      as_aux_lemma => kernel_rfl
     ·intro vs gq stq hl hf
      obtain ⟨v0, v1, v2, v3, v4, v5, v6, rfl⟩ := len_k7 hl
      obtain rfl : v6 = .bool true := hf _ (memI 10 rfl) (by as_aux_lemma => kernel_rfl)
      show Option.isSome _ = true
      as_aux_lemma => kernel_rfl
     ·intro vs gq stq hl hf
      obtain ⟨v0, v1, v2, v3, v4, v5, v6, rfl⟩ := len_k7 hl
      obtain rfl : v6 = .bool true := hf _ (memI 10 rfl) (by as_aux_lemma => kernel_rfl)
      show Option.isSome _ = true
      as_aux_lemma => kernel_rfl
     ·intro vs gq stq hl hf
      obtain ⟨v0, v1, v2, v3, v4, v5, v6, rfl⟩ := len_k7 hl
      obtain rfl : v2 = .bool true := hf _ (memI 6 rfl) (by as_aux_lemma => kernel_rfl)
      obtain rfl : v6 = .bool true := hf _ (memI 10 rfl) (by as_aux_lemma => kernel_rfl)
      show Option.isSome _ = true
      as_aux_lemma => kernel_rfl
     ·intro vs gq stq hl hf
      obtain ⟨v0, v1, v2, v3, v4, v5, v6, rfl⟩ := len_k7 hl
      obtain rfl : v2 = .bool true := hf _ (memI 6 rfl) (by as_aux_lemma => kernel_rfl)
      obtain rfl : v6 = .bool true := hf _ (memI 10 rfl) (by as_aux_lemma => kernel_rfl)
      show Option.isSome _ = true
      as_aux_lemma => kernel_rfl
     ·intro vs gq stq hl hf
      obtain ⟨v0, v1, v2, v3, v4, v5, v6, rfl⟩ := len_k7 hl
      obtain rfl : v2 = .bool true := hf _ (memI 6 rfl) (by as_aux_lemma => kernel_rfl)
      obtain rfl : v6 = .bool true := hf _ (memI 10 rfl) (by as_aux_lemma => kernel_rfl)
      show Option.isSome _ = true
      as_aux_lemma => kernel_rfl
     ·intro vs gq stq hl hf
      obtain ⟨v0, v1, v2, v3, v4, v5, v6, rfl⟩ := len_k7 hl
      obtain rfl : v2 = .bool true := hf _ (memI 6 rfl) (by as_aux_lemma => kernel_rfl)
      obtain rfl : v6 = .bool true := hf _ (memI 10 rfl) (by as_aux_lemma => kernel_rfl)
      show Option.isSome _ = true
      as_aux_lemma => kernel_rfl
     ·intro vs gq stq hl hf
      obtain ⟨v0, v1, v2, v3, v4, v5, v6, rfl⟩ := len_k7 hl
      obtain rfl : v2 = .bool true := hf _ (memI 6 rfl) (by as_aux_lemma => kernel_rfl)
      obtain rfl : v6 = .bool true := hf _ (memI 10 rfl) (by as_aux_lemma => kernel_rfl)
      show Option.isSome _ = true
      as_aux_lemma => kernel_rfl
     ·intro vs gq stq hl hf
      obtain ⟨v0, v1, v2, v3, v4, v5, v6, rfl⟩ := len_k7 hl
      obtain rfl : v2 = .bool true := hf _ (memI 6 rfl) (by as_aux_lemma => kernel_rfl)
      obtain rfl : v6 = .bool true := hf _ (memI 10 rfl) (by as_aux_lemma => kernel_rfl)
      show Option.isSome _ = true
      as_aux_lemma => kernel_rfl
     ·intro vs gq stq hl hf
      obtain ⟨v0, v1, v2, v3, v4, v5, v6, rfl⟩ := len_k7 hl
      obtain rfl : v2 = .bool true := hf _ (memI 6 rfl) (by as_aux_lemma => kernel_rfl)
      obtain rfl : v6 = .bool true := hf _ (memI 10 rfl) (by as_aux_lemma => kernel_rfl)
      show Option.isSome _ = true
      as_aux_lemma => kernel_rfl
     ·intro vs gq stq hl hf
      obtain ⟨v0, v1, v2, v3, v4, v5, v6, rfl⟩ := len_k7 hl
      obtain rfl : v2 = .bool true := hf _ (memI 6 rfl) (by as_aux_lemma => kernel_rfl)
      obtain rfl : v6 = .bool true := hf _ (memI 10 rfl) (by as_aux_lemma => kernel_rfl)
      show Option.isSome _ = true
      as_aux_lemma => kernel_rfl
    ·intro j hj
     have hq : j = 0 ∨ j = 1 ∨ j = 2 ∨ j = 3 ∨ j = 4 ∨ j = 5 ∨ j = 6 := by have h : j < 7 := hj; omega
     rcases hq with rfl | rfl | rfl | rfl | rfl | rfl | rfl
     ·intro vs gq stq hl hf
      obtain ⟨v0, v1, v2, v3, v4, v5, v6, rfl⟩ := len_k7 hl
      have hB1 := (show Box gq (t + 1) b1 35 [[.int .i64 x1], encA .u8 d1, [.int .i64 x2], encA .u8 d2, [.slice a1 n1 c1], [.slice a14 n14 c14], [.bool q1]] [1, 8, 1, 8, 1, 1, 1] from hf _ (memI 0 rfl) (by as_aux_lemma => kernel_rfl))
      refine WP.loadB (v := AG [[.int .i64 x1], encA .u8 d1, [.int .i64 x2], encA .u8 d2, [.slice a1 n1 c1], [.slice a14 n14 c14], [.bool q1]]) hB1 (by kernel_rfl) (by as_aux_lemma => kernel_rfl) ?_
      refine WP.dn (Shown.ok (v := AG [[.int .i64 x1], encA .u8 d1, [.int .i64 x2], encA .u8 d2, [.slice a1 n1 c1], [.slice a14 n14 c14], [.bool q1]]) (by kernel_rfl) (Step.refl _ _) ?_)
      exact t4 ⟨rfl, (t4 ⟨tv, tv, tv⟩)⟩
     ·intro vs gq stq hl hf
      obtain ⟨v0, v1, v2, v3, v4, v5, v6, rfl⟩ := len_k7 hl
      have hR1 := (show RdS (Kd.int .u8) gq 5 a1 n1 c1 l1 from hf _ (memI 1 rfl) (by as_aux_lemma => kernel_rfl))
      have hR14 := (show RdS (Kd.int .u8) gq 5 a14 n14 c14 l13 from hf _ (memI 2 rfl) (by as_aux_lemma => kernel_rfl))
      obtain rfl : v0 = AG [[.int .i64 x1], encA .u8 d1, [.int .i64 x2], encA .u8 d2, [.slice a1 n1 c1], [.slice a14 n14 c14], [.bool q1]] := hf _ (memI 4 rfl) (by as_aux_lemma => kernel_rfl)
      have hcal36 := P.baizeref34_Check gq x1 d1 x2 d2 l1 l13 q1 a1 n1 c1 a14 n14 c14 hR1 hR14 x28 hk36
      refine WP.callC hcal36 (by kernel_rfl) ?_
      rintro _ g65 st65 rfl
      refine WP.dn (Shown.o (v := .int .i64 x28) st65.pure ?_)
      exact t4 ⟨tv, rfl, (t4 ⟨tv, tv⟩)⟩
     ·intro vs gq stq hl hf
      obtain ⟨v0, v1, v2, v3, v4, v5, v6, rfl⟩ := len_k7 hl
      obtain rfl : v1 = .int .i64 x28 := hf _ (memI 5 rfl) (by as_aux_lemma => kernel_rfl)
      refine WP.stl 1 ?_
      refine WP.dn (Shown.ok (v := .bool (x28 == 0)) (by kernel_rfl) (Step.refl _ _) ?_)
      exact t4 ⟨tv, tv, congrArg Value.bool h17, (t4 tv)⟩
     ·intro vs gq stq hl hf
      obtain ⟨v0, v1, v2, v3, v4, v5, v6, rfl⟩ := len_k7 hl
      have hB21 := (show Box gq (t + 13) b10 37 [encA .u8 d26] [8] from hf _ (memI 3 rfl) (by as_aux_lemma => kernel_rfl))
      obtain rfl : v2 = .bool true := hf _ (memI 6 rfl) (by as_aux_lemma => kernel_rfl)
      refine WP.loadB (v := AG [encA .u8 d26]) hB21 (by kernel_rfl) (by as_aux_lemma => kernel_rfl) ?_
      refine WP.dn (Shown.ok (v := AG [encA .u8 d26]) (by kernel_rfl) (Step.refl _ _) ?_)
      exact t4 ⟨tv, tv, tv, rfl, tv, tv, tv, tv⟩
     ·intro vs gq stq hl hf
      obtain ⟨v0, v1, v2, v3, v4, v5, v6, rfl⟩ := len_k7 hl
      have hB1 := (show Box gq (t + 1) b1 35 [[.int .i64 x1], encA .u8 d1, [.int .i64 x2], encA .u8 d2, [.slice a1 n1 c1], [.slice a14 n14 c14], [.bool q1]] [1, 8, 1, 8, 1, 1, 1] from hf _ (memI 0 rfl) (by as_aux_lemma => kernel_rfl))
      obtain rfl : v2 = .bool true := hf _ (memI 6 rfl) (by as_aux_lemma => kernel_rfl)
      refine WP.loadB (v := AG [encA .u8 d1]) hB1 (by kernel_rfl) (by as_aux_lemma => kernel_rfl) ?_
      refine WP.dn (Shown.ok (v := AG [encA .u8 d1]) (by kernel_rfl) (Step.refl _ _) ?_)
      exact t8 ⟨rfl, tv, tv, tv⟩
     ·intro vs gq stq hl hf
      obtain ⟨v0, v1, v2, v3, v4, v5, v6, rfl⟩ := len_k7 hl
      obtain rfl : v2 = .bool true := hf _ (memI 6 rfl) (by as_aux_lemma => kernel_rfl)
      obtain rfl : v3 = AG [encA .u8 d26] := hf _ (memI 7 rfl) (by as_aux_lemma => kernel_rfl)
      obtain rfl : v4 = AG [encA .u8 d1] := hf _ (memI 8 rfl) (by as_aux_lemma => kernel_rfl)
      refine WP.neV (by kernel_rfl) (by as_aux_lemma => kernel_rfl) (EqV.arr (d := 9998) (t := 32) (e := 5) (m := 8) (k := .u8) (x := d26) (y := d1) (by kernel_rfl) (by as_aux_lemma => kernel_rfl)) ?_
      refine WP.dn (Shown.ok (v := .bool (!(d26.1 == d1.1))) (by kernel_rfl) (Step.refl _ _) ?_)
      exact t8 ⟨tv, rfl, tv, tv⟩
     ·intro vs gq stq hl hf
      obtain ⟨v0, v1, v2, v3, v4, v5, v6, rfl⟩ := len_k7 hl
      obtain rfl : v2 = .bool true := hf _ (memI 6 rfl) (by as_aux_lemma => kernel_rfl)
      obtain rfl : v5 = .bool (!(d26.1 == d1.1)) := hf _ (memI 9 rfl) (by as_aux_lemma => kernel_rfl)
      refine WP.stl 1 ?_
      refine WP.dn (Shown.ok (v := .bool (!(d26.1 == d1.1))) (by kernel_rfl) (Step.refl _ _) ?_)
      exact t8 ⟨tv, tv, congrArg Value.bool h18, tv⟩
    intro vs g66 st66 hl hf
    obtain ⟨v0, v1, v2, v3, v4, v5, v6, rfl⟩ := len_k7 hl
    obtain rfl : v2 = .bool true := hf _ (memI 6 rfl) (by as_aux_lemma => kernel_rfl)
    obtain rfl : v6 = .bool true := hf _ (memI 10 rfl) (by as_aux_lemma => kernel_rfl)
    replace hB1 := hB1.mono st66.toNo (fun x => x)
    replace hR1 := hR1.mono st66.toNo (fun x => x)
    replace hR14 := hR14.mono st66.toNo (fun x => x)
    replace hB2 := hB2.mono st66.toNo (fun x => x)
    replace hR3 := hR3.mono st66.toNo (fun x => x)
    replace hR18 := hR18.mono st66.toNo (fun x => x)
    replace hB3 := hB3.mono st66.toNo (fun x => x)
    replace hB5 := hB5.mono st66.toNo (fun x => x)
    replace hR17 := hR17.mono st66.toNo (fun x => x) (fun x => x)
    replace hB6 := hB6.mono st66.toNo (fun x => x)
    replace hB7 := hB7.mono st66.toNo (fun x => x)
    replace hR5 := hR5.mono st66.toNo (fun x => x)
    replace hR6 := hR6.mono st66.toNo (fun x => x)
    replace hB8 := hB8.mono st66.toNo (fun x => x)
    replace hR8 := hR8.mono st66.toNo (fun x => x)
    replace hR9 := hR9.mono st66.toNo (fun x => x)
    replace hB17 := hB17.mono st66.toNo (fun x => x)
    replace tot := tot.trans st66.toNo.pure
    refine NX.post ?_
    exact ⟨true, ⟨by kernel_rfl, by kernel_rfl⟩, tot, hB1, hR1, hR14, hB2, hR3, hR18, hB3, hB5, hR17, hB6, hB7, hR5, hR6, hB8, hR8, hR9, hB17, hs⟩
   replace hs := of_if_f hs h18
   refine bool_split (b := (x16 != x2)) (fun h19 => ?_) (fun h19 => ?_)
   ·replace hs := of_if_t hs h19
    refine CP.drawL (by as_aux_lemma => kernel_rfl) [0, 1, 3, 4, 6, 7, 8, 11, 14] N.baizelaw34_PunishTells_3 [⟨none, [], [], fun l g => Box g (t + 1) b1 35 [[.int .i64 x1], encA .u8 d1, [.int .i64 x2], encA .u8 d2, [.slice a1 n1 c1], [.slice a14 n14 c14], [.bool q1]] [1, 8, 1, 8, 1, 1, 1]⟩, ⟨none, [], [], fun l g => RdS (Kd.int .u8) g 5 a1 n1 c1 l1⟩, ⟨none, [], [], fun l g => RdS (Kd.int .u8) g 5 a14 n14 c14 l13⟩, ⟨none, [], [], fun l g => Box g (t + 13) b10 37 [encA .u8 d26] [8]⟩, ⟨some 0, [], [0], fun l g => l.getD 0 undef = AG [[.int .i64 x1], encA .u8 d1, [.int .i64 x2], encA .u8 d2, [.slice a1 n1 c1], [.slice a14 n14 c14], [.bool q1]]⟩, ⟨some 1, [], [1], fun l g => l.getD 0 undef = .int .i64 x28⟩, ⟨some 2, [], [2], fun l g => l.getD 0 undef = .bool true⟩, ⟨some 3, [], [3], fun l g => l.getD 0 undef = AG [encA .u8 d26]⟩, ⟨some 4, [], [4], fun l g => l.getD 0 undef = AG [encA .u8 d1]⟩, ⟨some 5, [], [5], fun l g => l.getD 0 undef = .bool (!(d26.1 == d1.1))⟩, ⟨some 6, [], [6], fun l g => l.getD 0 undef = .bool false⟩, ⟨some 7, [], [7], fun l g => l.getD 0 undef = .int .i64 x2⟩, ⟨some 8, [], [8], fun l g => l.getD 0 undef = .bool true⟩] [[], [], [], [], [], [], [], [], []] [] [] [2, 5, 9, 10, 12, 13, 15, 16, 17, 18, 19, 20] (by as_aux_lemma => kernel_rfl) (by simp) (by simp) ⟨fun _ _ _ _ st h0 hl hj hB1 => (hB1.mono st (fun h => absurd (hl _ h) (by simp))), fun _ _ _ _ st h0 hl hj hR1 => (RdS.mono (e := 5) hR1 st h0), fun _ _ _ _ st h0 hl hj hR14 => (RdS.mono (e := 5) hR14 st h0), fun _ _ _ _ st h0 hl hj hB21 => (hB21.mono st (fun h => absurd (hl _ h) (by simp))), fun _ _ _ _ st h0 hl hj e0 => e0, fun _ _ _ _ st h0 hl hj e1 => e1, fun _ _ _ _ st h0 hl hj e2 => e2, fun _ _ _ _ st h0 hl hj e3 => e3, fun _ _ _ _ st h0 hl hj e4 => e4, fun _ _ _ _ st h0 hl hj e5 => e5, fun _ _ _ _ st h0 hl hj e6 => e6, fun _ _ _ _ st h0 hl hj e7 => e7, fun _ _ _ _ st h0 hl hj e8 => e8, tv⟩ ⟨hB1, hR1, hR14, hB21, tv, tv, tv, tv, tv, tv, tv, tv, tv, tv⟩ (by as_aux_lemma => kernel_rfl) (fun vs => by as_aux_lemma => kernel_rfl) ?_ ?_ ?_
    ·intro j hj
     have hq : j = 0 ∨ j = 1 ∨ j = 2 ∨ j = 3 ∨ j = 4 ∨ j = 5 ∨ j = 6 ∨ j = 7 ∨ j = 8 ∨ j = 9 ∨ j = 10 ∨ j = 11 := by have h : j < 12 := hj; omega
     rcases hq with rfl | rfl | rfl | rfl | rfl | rfl | rfl | rfl | rfl | rfl | rfl | rfl
     ·intro vs gq stq hl hf
      obtain ⟨v0, v1, v2, v3, v4, v5, v6, v7, v8, rfl⟩ := len_k9 hl
      obtain rfl : v1 = .int .i64 x28 := hf _ (memI 5 rfl) (by as_aux_lemma => kernel_rfl)
      show Option.isSome _ = true
      as_aux_lemma => kernel_rfl
     ·intro vs gq stq hl hf
      obtain ⟨v0, v1, v2, v3, v4, v5, v6, v7, v8, rfl⟩ := len_k9 hl
      obtain rfl : v2 = .bool true := hf _ (memI 6 rfl) (by as_aux_lemma => kernel_rfl)
      show Option.isSome _ = true
      as_aux_lemma => kernel_rfl
     ·intro vs gq stq hl hf
      obtain ⟨v0, v1, v2, v3, v4, v5, v6, v7, v8, rfl⟩ := len_k9 hl
      obtain rfl : v6 = .bool false := hf _ (memI 10 rfl) (by as_aux_lemma => kernel_rfl)
      show Option.isSome _ = true
      as_aux_lemma => kernel_rfl
     ·intro vs gq stq hl hf
      obtain ⟨v0, v1, v2, v3, v4, v5, v6, v7, v8, rfl⟩ := len_k9 hl
      obtain rfl : v6 = .bool false := hf _ (memI 10 rfl) (by as_aux_lemma => kernel_rfl)
      show Option.isSome _ = true
      as_aux_lemma => kernel_rfl
     ·intro vs gq stq hl hf
      obtain ⟨v0, v1, v2, v3, v4, v5, v6, v7, v8, rfl⟩ := len_k9 hl
      obtain rfl : v6 = .bool false := hf _ (memI 10 rfl) (by as_aux_lemma => kernel_rfl)
      obtain rfl : v7 = .int .i64 x2 := hf _ (memI 11 rfl) (by as_aux_lemma => kernel_rfl)
      show Option.isSome _ = true
      as_aux_lemma => kernel_rfl
     ·intro vs gq stq hl hf
      obtain ⟨v0, v1, v2, v3, v4, v5, v6, v7, v8, rfl⟩ := len_k9 hl
      obtain rfl : v2 = .bool true := hf _ (memI 6 rfl) (by as_aux_lemma => kernel_rfl)
      obtain rfl : v6 = .bool false := hf _ (memI 10 rfl) (by as_aux_lemma => kernel_rfl)
      obtain rfl : v7 = .int .i64 x2 := hf _ (memI 11 rfl) (by as_aux_lemma => kernel_rfl)
      show Option.isSome _ = true
      as_aux_lemma => kernel_rfl
     ·intro vs gq stq hl hf
      obtain ⟨v0, v1, v2, v3, v4, v5, v6, v7, v8, rfl⟩ := len_k9 hl
      obtain rfl : v8 = .bool true := hf _ (memI 12 rfl) (by as_aux_lemma => kernel_rfl)
      show Option.isSome _ = true
      as_aux_lemma => kernel_rfl
     ·intro vs gq stq hl hf
      obtain ⟨v0, v1, v2, v3, v4, v5, v6, v7, v8, rfl⟩ := len_k9 hl
      obtain rfl : v8 = .bool true := hf _ (memI 12 rfl) (by as_aux_lemma => kernel_rfl)
      show Option.isSome _ = true
      as_aux_lemma => kernel_rfl
     ·intro vs gq stq hl hf
      obtain ⟨v0, v1, v2, v3, v4, v5, v6, v7, v8, rfl⟩ := len_k9 hl
      obtain rfl : v8 = .bool true := hf _ (memI 12 rfl) (by as_aux_lemma => kernel_rfl)
      show Option.isSome _ = true
      as_aux_lemma => kernel_rfl
     ·intro vs gq stq hl hf
      obtain ⟨v0, v1, v2, v3, v4, v5, v6, v7, v8, rfl⟩ := len_k9 hl
      obtain rfl : v8 = .bool true := hf _ (memI 12 rfl) (by as_aux_lemma => kernel_rfl)
      show Option.isSome _ = true
      as_aux_lemma => kernel_rfl
     ·intro vs gq stq hl hf
      obtain ⟨v0, v1, v2, v3, v4, v5, v6, v7, v8, rfl⟩ := len_k9 hl
      obtain rfl : v2 = .bool true := hf _ (memI 6 rfl) (by as_aux_lemma => kernel_rfl)
      obtain rfl : v8 = .bool true := hf _ (memI 12 rfl) (by as_aux_lemma => kernel_rfl)
      show Option.isSome _ = true
      as_aux_lemma => kernel_rfl
     ·intro vs gq stq hl hf
      obtain ⟨v0, v1, v2, v3, v4, v5, v6, v7, v8, rfl⟩ := len_k9 hl
      obtain rfl : v2 = .bool true := hf _ (memI 6 rfl) (by as_aux_lemma => kernel_rfl)
      obtain rfl : v8 = .bool true := hf _ (memI 12 rfl) (by as_aux_lemma => kernel_rfl)
      show Option.isSome _ = true
      as_aux_lemma => kernel_rfl
    ·intro j hj
     have hq : j = 0 ∨ j = 1 ∨ j = 2 ∨ j = 3 ∨ j = 4 ∨ j = 5 ∨ j = 6 ∨ j = 7 ∨ j = 8 := by have h : j < 9 := hj; omega
     rcases hq with rfl | rfl | rfl | rfl | rfl | rfl | rfl | rfl | rfl
     ·intro vs gq stq hl hf
      obtain ⟨v0, v1, v2, v3, v4, v5, v6, v7, v8, rfl⟩ := len_k9 hl
      have hB1 := (show Box gq (t + 1) b1 35 [[.int .i64 x1], encA .u8 d1, [.int .i64 x2], encA .u8 d2, [.slice a1 n1 c1], [.slice a14 n14 c14], [.bool q1]] [1, 8, 1, 8, 1, 1, 1] from hf _ (memI 0 rfl) (by as_aux_lemma => kernel_rfl))
      refine WP.loadB (v := AG [[.int .i64 x1], encA .u8 d1, [.int .i64 x2], encA .u8 d2, [.slice a1 n1 c1], [.slice a14 n14 c14], [.bool q1]]) hB1 (by kernel_rfl) (by as_aux_lemma => kernel_rfl) ?_
      refine WP.dn (Shown.ok (v := AG [[.int .i64 x1], encA .u8 d1, [.int .i64 x2], encA .u8 d2, [.slice a1 n1 c1], [.slice a14 n14 c14], [.bool q1]]) (by kernel_rfl) (Step.refl _ _) ?_)
      exact t4 ⟨rfl, (t8 tv)⟩
     ·intro vs gq stq hl hf
      obtain ⟨v0, v1, v2, v3, v4, v5, v6, v7, v8, rfl⟩ := len_k9 hl
      have hR1 := (show RdS (Kd.int .u8) gq 5 a1 n1 c1 l1 from hf _ (memI 1 rfl) (by as_aux_lemma => kernel_rfl))
      have hR14 := (show RdS (Kd.int .u8) gq 5 a14 n14 c14 l13 from hf _ (memI 2 rfl) (by as_aux_lemma => kernel_rfl))
      obtain rfl : v0 = AG [[.int .i64 x1], encA .u8 d1, [.int .i64 x2], encA .u8 d2, [.slice a1 n1 c1], [.slice a14 n14 c14], [.bool q1]] := hf _ (memI 4 rfl) (by as_aux_lemma => kernel_rfl)
      have hcal36 := P.baizeref34_Check gq x1 d1 x2 d2 l1 l13 q1 a1 n1 c1 a14 n14 c14 hR1 hR14 x28 hk36
      refine WP.callC hcal36 (by kernel_rfl) ?_
      rintro _ g65 st65 rfl
      refine WP.dn (Shown.o (v := .int .i64 x28) st65.pure ?_)
      exact t4 ⟨tv, rfl, (t4 ⟨tv, tv, tv, tv⟩)⟩
     ·intro vs gq stq hl hf
      obtain ⟨v0, v1, v2, v3, v4, v5, v6, v7, v8, rfl⟩ := len_k9 hl
      obtain rfl : v1 = .int .i64 x28 := hf _ (memI 5 rfl) (by as_aux_lemma => kernel_rfl)
      refine WP.stl 1 ?_
      refine WP.dn (Shown.ok (v := .bool (x28 == 0)) (by kernel_rfl) (Step.refl _ _) ?_)
      exact t4 ⟨tv, tv, congrArg Value.bool h17, (t4 ⟨tv, tv, tv⟩)⟩
     ·intro vs gq stq hl hf
      obtain ⟨v0, v1, v2, v3, v4, v5, v6, v7, v8, rfl⟩ := len_k9 hl
      have hB21 := (show Box gq (t + 13) b10 37 [encA .u8 d26] [8] from hf _ (memI 3 rfl) (by as_aux_lemma => kernel_rfl))
      obtain rfl : v2 = .bool true := hf _ (memI 6 rfl) (by as_aux_lemma => kernel_rfl)
      refine WP.loadB (v := AG [encA .u8 d26]) hB21 (by kernel_rfl) (by as_aux_lemma => kernel_rfl) ?_
      refine WP.dn (Shown.ok (v := AG [encA .u8 d26]) (by kernel_rfl) (Step.refl _ _) ?_)
      exact t4 ⟨tv, tv, tv, rfl, (t4 ⟨tv, tv⟩)⟩
     ·intro vs gq stq hl hf
      obtain ⟨v0, v1, v2, v3, v4, v5, v6, v7, v8, rfl⟩ := len_k9 hl
      have hB1 := (show Box gq (t + 1) b1 35 [[.int .i64 x1], encA .u8 d1, [.int .i64 x2], encA .u8 d2, [.slice a1 n1 c1], [.slice a14 n14 c14], [.bool q1]] [1, 8, 1, 8, 1, 1, 1] from hf _ (memI 0 rfl) (by as_aux_lemma => kernel_rfl))
      obtain rfl : v2 = .bool true := hf _ (memI 6 rfl) (by as_aux_lemma => kernel_rfl)
      refine WP.loadB (v := AG [encA .u8 d1]) hB1 (by kernel_rfl) (by as_aux_lemma => kernel_rfl) ?_
      refine WP.dn (Shown.ok (v := AG [encA .u8 d1]) (by kernel_rfl) (Step.refl _ _) ?_)
      exact t8 ⟨rfl, (t4 tv)⟩
     ·intro vs gq stq hl hf
      obtain ⟨v0, v1, v2, v3, v4, v5, v6, v7, v8, rfl⟩ := len_k9 hl
      obtain rfl : v2 = .bool true := hf _ (memI 6 rfl) (by as_aux_lemma => kernel_rfl)
      obtain rfl : v3 = AG [encA .u8 d26] := hf _ (memI 7 rfl) (by as_aux_lemma => kernel_rfl)
      obtain rfl : v4 = AG [encA .u8 d1] := hf _ (memI 8 rfl) (by as_aux_lemma => kernel_rfl)
      refine WP.neV (by kernel_rfl) (by as_aux_lemma => kernel_rfl) (EqV.arr (d := 9998) (t := 32) (e := 5) (m := 8) (k := .u8) (x := d26) (y := d1) (by kernel_rfl) (by as_aux_lemma => kernel_rfl)) ?_
      refine WP.dn (Shown.ok (v := .bool (!(d26.1 == d1.1))) (by kernel_rfl) (Step.refl _ _) ?_)
      exact t8 ⟨tv, rfl, tv, tv, tv, tv⟩
     ·intro vs gq stq hl hf
      obtain ⟨v0, v1, v2, v3, v4, v5, v6, v7, v8, rfl⟩ := len_k9 hl
      obtain rfl : v2 = .bool true := hf _ (memI 6 rfl) (by as_aux_lemma => kernel_rfl)
      obtain rfl : v5 = .bool (!(d26.1 == d1.1)) := hf _ (memI 9 rfl) (by as_aux_lemma => kernel_rfl)
      refine WP.stl 1 ?_
      refine WP.dn (Shown.ok (v := .bool (!(d26.1 == d1.1))) (by kernel_rfl) (Step.refl _ _) ?_)
      exact t8 ⟨tv, tv, congrArg Value.bool h18, tv, tv, tv⟩
     ·intro vs gq stq hl hf
      obtain ⟨v0, v1, v2, v3, v4, v5, v6, v7, v8, rfl⟩ := len_k9 hl
      have hB1 := (show Box gq (t + 1) b1 35 [[.int .i64 x1], encA .u8 d1, [.int .i64 x2], encA .u8 d2, [.slice a1 n1 c1], [.slice a14 n14 c14], [.bool q1]] [1, 8, 1, 8, 1, 1, 1] from hf _ (memI 0 rfl) (by as_aux_lemma => kernel_rfl))
      obtain rfl : v6 = .bool false := hf _ (memI 10 rfl) (by as_aux_lemma => kernel_rfl)
      refine WP.loadB (v := .int .i64 x2) hB1 (by kernel_rfl) (by as_aux_lemma => kernel_rfl) ?_
      refine WP.dn (Shown.ok (v := .int .i64 x2) (by kernel_rfl) (Step.refl _ _) ?_)
      exact t8 ⟨tv, tv, tv, rfl, tv, tv⟩
     ·intro vs gq stq hl hf
      obtain ⟨v0, v1, v2, v3, v4, v5, v6, v7, v8, rfl⟩ := len_k9 hl
      obtain rfl : v2 = .bool true := hf _ (memI 6 rfl) (by as_aux_lemma => kernel_rfl)
      obtain rfl : v6 = .bool false := hf _ (memI 10 rfl) (by as_aux_lemma => kernel_rfl)
      obtain rfl : v7 = .int .i64 x2 := hf _ (memI 11 rfl) (by as_aux_lemma => kernel_rfl)
      refine WP.stl 1 ?_
      refine WP.dn (Shown.ok (v := .bool (x16 != x2)) (by kernel_rfl) (Step.refl _ _) ?_)
      exact t8 (t4 ⟨congrArg Value.bool h19, tv⟩)
    intro vs g67 st67 hl hf
    obtain ⟨v0, v1, v2, v3, v4, v5, v6, v7, v8, rfl⟩ := len_k9 hl
    obtain rfl : v2 = .bool true := hf _ (memI 6 rfl) (by as_aux_lemma => kernel_rfl)
    obtain rfl : v8 = .bool true := hf _ (memI 12 rfl) (by as_aux_lemma => kernel_rfl)
    replace hB1 := hB1.mono st67.toNo (fun x => x)
    replace hR1 := hR1.mono st67.toNo (fun x => x)
    replace hR14 := hR14.mono st67.toNo (fun x => x)
    replace hB2 := hB2.mono st67.toNo (fun x => x)
    replace hR3 := hR3.mono st67.toNo (fun x => x)
    replace hR18 := hR18.mono st67.toNo (fun x => x)
    replace hB3 := hB3.mono st67.toNo (fun x => x)
    replace hB5 := hB5.mono st67.toNo (fun x => x)
    replace hR17 := hR17.mono st67.toNo (fun x => x) (fun x => x)
    replace hB6 := hB6.mono st67.toNo (fun x => x)
    replace hB7 := hB7.mono st67.toNo (fun x => x)
    replace hR5 := hR5.mono st67.toNo (fun x => x)
    replace hR6 := hR6.mono st67.toNo (fun x => x)
    replace hB8 := hB8.mono st67.toNo (fun x => x)
    replace hR8 := hR8.mono st67.toNo (fun x => x)
    replace hR9 := hR9.mono st67.toNo (fun x => x)
    replace hB17 := hB17.mono st67.toNo (fun x => x)
    replace tot := tot.trans st67.toNo.pure
    refine NX.post ?_
    exact ⟨true, ⟨by kernel_rfl, by kernel_rfl⟩, tot, hB1, hR1, hR14, hB2, hR3, hR18, hB3, hB5, hR17, hB6, hB7, hR5, hR6, hB8, hR8, hR9, hB17, hs⟩
   replace hs := of_if_f hs h19
   replace hs := Option.bind_eq_some_iff.1 hs
   obtain ⟨d33, hk37, hs⟩ := hs
   refine CP.drawL (by as_aux_lemma => kernel_rfl) [0, 1, 3, 4, 6, 7, 8, 11, 14, 15, 16, 17, 18] N.baizelaw34_PunishTells_3 [⟨none, [], [], fun l g => Box g (t + 1) b1 35 [[.int .i64 x1], encA .u8 d1, [.int .i64 x2], encA .u8 d2, [.slice a1 n1 c1], [.slice a14 n14 c14], [.bool q1]] [1, 8, 1, 8, 1, 1, 1]⟩, ⟨none, [], [], fun l g => RdS (Kd.int .u8) g 5 a1 n1 c1 l1⟩, ⟨none, [], [], fun l g => RdS (Kd.int .u8) g 5 a14 n14 c14 l13⟩, ⟨none, [], [], fun l g => Box g (t + 13) b10 37 [encA .u8 d26] [8]⟩, ⟨none, [], [], fun l g => Box g (t + 14) b11 37 [encA .u8 d27] [8]⟩, ⟨some 0, [], [0], fun l g => l.getD 0 undef = AG [[.int .i64 x1], encA .u8 d1, [.int .i64 x2], encA .u8 d2, [.slice a1 n1 c1], [.slice a14 n14 c14], [.bool q1]]⟩, ⟨some 1, [], [1], fun l g => l.getD 0 undef = .int .i64 x28⟩, ⟨some 2, [], [2], fun l g => l.getD 0 undef = .bool true⟩, ⟨some 3, [], [3], fun l g => l.getD 0 undef = AG [encA .u8 d26]⟩, ⟨some 4, [], [4], fun l g => l.getD 0 undef = AG [encA .u8 d1]⟩, ⟨some 5, [], [5], fun l g => l.getD 0 undef = .bool (!(d26.1 == d1.1))⟩, ⟨some 6, [], [6], fun l g => l.getD 0 undef = .bool false⟩, ⟨some 7, [], [7], fun l g => l.getD 0 undef = .int .i64 x2⟩, ⟨some 8, [], [8], fun l g => l.getD 0 undef = .bool false⟩, ⟨some 9, [], [9], fun l g => l.getD 0 undef = AG [encA .u8 d27]⟩, ⟨some 10, [], [10], fun l g => l.getD 0 undef = AG [[.int .i64 x1], encA .u8 d1, [.int .i64 x2], encA .u8 d2, [.slice a1 n1 c1], [.slice a14 n14 c14], [.bool q1]]⟩, ⟨some 11, [], [11], fun l g => l.getD 0 undef = AG [encA .u8 d33]⟩, ⟨some 12, [], [12], fun l g => l.getD 0 undef = .bool (!(d27.1 == d33.1))⟩] [[], [], [], [], [], [], [], [], [], [], [], [], []] [] [] [2, 5, 9, 10, 12, 13, 19, 20] (by as_aux_lemma => kernel_rfl) (by simp) (by simp) ⟨fun _ _ _ _ st h0 hl hj hB1 => (hB1.mono st (fun h => absurd (hl _ h) (by simp))), fun _ _ _ _ st h0 hl hj hR1 => (RdS.mono (e := 5) hR1 st h0), fun _ _ _ _ st h0 hl hj hR14 => (RdS.mono (e := 5) hR14 st h0), fun _ _ _ _ st h0 hl hj hB21 => (hB21.mono st (fun h => absurd (hl _ h) (by simp))), fun _ _ _ _ st h0 hl hj hB22 => (hB22.mono st (fun h => absurd (hl _ h) (by simp))), fun _ _ _ _ st h0 hl hj e0 => e0, fun _ _ _ _ st h0 hl hj e1 => e1, fun _ _ _ _ st h0 hl hj e2 => e2, fun _ _ _ _ st h0 hl hj e3 => e3, fun _ _ _ _ st h0 hl hj e4 => e4, fun _ _ _ _ st h0 hl hj e5 => e5, fun _ _ _ _ st h0 hl hj e6 => e6, fun _ _ _ _ st h0 hl hj e7 => e7, fun _ _ _ _ st h0 hl hj e8 => e8, fun _ _ _ _ st h0 hl hj e9 => e9, fun _ _ _ _ st h0 hl hj e10 => e10, fun _ _ _ _ st h0 hl hj e11 => e11, fun _ _ _ _ st h0 hl hj e12 => e12, tv⟩ ⟨hB1, hR1, hR14, hB21, hB22, tv, tv, tv, tv, tv, tv, tv, tv, tv, tv, tv, tv, tv, tv⟩ (by as_aux_lemma => kernel_rfl) (fun vs => by as_aux_lemma => kernel_rfl) ?_ ?_ ?_
   ·intro j hj
    have hq : j = 0 ∨ j = 1 ∨ j = 2 ∨ j = 3 ∨ j = 4 ∨ j = 5 ∨ j = 6 ∨ j = 7 := by have h : j < 8 := hj; omega
    rcases hq with rfl | rfl | rfl | rfl | rfl | rfl | rfl | rfl
    ·intro vs gq stq hl hf
     obtain ⟨v0, v1, v2, v3, v4, v5, v6, v7, v8, v9, v10, v11, v12, rfl⟩ := len_k13 hl
     obtain rfl : v1 = .int .i64 x28 := hf _ (memI 6 rfl) (by as_aux_lemma => kernel_rfl)
     show Option.isSome _ = true
     as_aux_lemma => kernel_rfl
    ·intro vs gq stq hl hf
     obtain ⟨v0, v1, v2, v3, v4, v5, v6, v7, v8, v9, v10, v11, v12, rfl⟩ := len_k13 hl
     obtain rfl : v2 = .bool true := hf _ (memI 7 rfl) (by as_aux_lemma => kernel_rfl)
     show Option.isSome _ = true
     as_aux_lemma => kernel_rfl
    ·intro vs gq stq hl hf
     obtain ⟨v0, v1, v2, v3, v4, v5, v6, v7, v8, v9, v10, v11, v12, rfl⟩ := len_k13 hl
     obtain rfl : v6 = .bool false := hf _ (memI 11 rfl) (by as_aux_lemma => kernel_rfl)
     show Option.isSome _ = true
     as_aux_lemma => kernel_rfl
    ·intro vs gq stq hl hf
     obtain ⟨v0, v1, v2, v3, v4, v5, v6, v7, v8, v9, v10, v11, v12, rfl⟩ := len_k13 hl
     obtain rfl : v6 = .bool false := hf _ (memI 11 rfl) (by as_aux_lemma => kernel_rfl)
     show Option.isSome _ = true
     as_aux_lemma => kernel_rfl
    ·intro vs gq stq hl hf
     obtain ⟨v0, v1, v2, v3, v4, v5, v6, v7, v8, v9, v10, v11, v12, rfl⟩ := len_k13 hl
     obtain rfl : v6 = .bool false := hf _ (memI 11 rfl) (by as_aux_lemma => kernel_rfl)
     obtain rfl : v7 = .int .i64 x2 := hf _ (memI 12 rfl) (by as_aux_lemma => kernel_rfl)
     show Option.isSome _ = true
     as_aux_lemma => kernel_rfl
    ·intro vs gq stq hl hf
     obtain ⟨v0, v1, v2, v3, v4, v5, v6, v7, v8, v9, v10, v11, v12, rfl⟩ := len_k13 hl
     obtain rfl : v2 = .bool true := hf _ (memI 7 rfl) (by as_aux_lemma => kernel_rfl)
     obtain rfl : v6 = .bool false := hf _ (memI 11 rfl) (by as_aux_lemma => kernel_rfl)
     obtain rfl : v7 = .int .i64 x2 := hf _ (memI 12 rfl) (by as_aux_lemma => kernel_rfl)
     show Option.isSome _ = true
     as_aux_lemma => kernel_rfl
    ·intro vs gq stq hl hf
     obtain ⟨v0, v1, v2, v3, v4, v5, v6, v7, v8, v9, v10, v11, v12, rfl⟩ := len_k13 hl
     obtain rfl : v2 = .bool true := hf _ (memI 7 rfl) (by as_aux_lemma => kernel_rfl)
     obtain rfl : v8 = .bool false := hf _ (memI 13 rfl) (by as_aux_lemma => kernel_rfl)
     obtain rfl : v12 = .bool (!(d27.1 == d33.1)) := hf _ (memI 17 rfl) (by as_aux_lemma => kernel_rfl)
     show Option.isSome _ = true
     as_aux_lemma => kernel_rfl
    ·intro vs gq stq hl hf
     obtain ⟨v0, v1, v2, v3, v4, v5, v6, v7, v8, v9, v10, v11, v12, rfl⟩ := len_k13 hl
     obtain rfl : v2 = .bool true := hf _ (memI 7 rfl) (by as_aux_lemma => kernel_rfl)
     obtain rfl : v8 = .bool false := hf _ (memI 13 rfl) (by as_aux_lemma => kernel_rfl)
     obtain rfl : v12 = .bool (!(d27.1 == d33.1)) := hf _ (memI 17 rfl) (by as_aux_lemma => kernel_rfl)
     show Option.isSome _ = true
     as_aux_lemma => kernel_rfl
   ·intro j hj
    have hq : j = 0 ∨ j = 1 ∨ j = 2 ∨ j = 3 ∨ j = 4 ∨ j = 5 ∨ j = 6 ∨ j = 7 ∨ j = 8 ∨ j = 9 ∨ j = 10 ∨ j = 11 ∨ j = 12 := by have h : j < 13 := hj; omega
    rcases hq with rfl | rfl | rfl | rfl | rfl | rfl | rfl | rfl | rfl | rfl | rfl | rfl | rfl
    ·intro vs gq stq hl hf
     obtain ⟨v0, v1, v2, v3, v4, v5, v6, v7, v8, v9, v10, v11, v12, rfl⟩ := len_k13 hl
     have hB1 := (show Box gq (t + 1) b1 35 [[.int .i64 x1], encA .u8 d1, [.int .i64 x2], encA .u8 d2, [.slice a1 n1 c1], [.slice a14 n14 c14], [.bool q1]] [1, 8, 1, 8, 1, 1, 1] from hf _ (memI 0 rfl) (by as_aux_lemma => kernel_rfl))
     refine WP.loadB (v := AG [[.int .i64 x1], encA .u8 d1, [.int .i64 x2], encA .u8 d2, [.slice a1 n1 c1], [.slice a14 n14 c14], [.bool q1]]) hB1 (by kernel_rfl) (by as_aux_lemma => kernel_rfl) ?_
     refine WP.dn (Shown.ok (v := AG [[.int .i64 x1], encA .u8 d1, [.int .i64 x2], encA .u8 d2, [.slice a1 n1 c1], [.slice a14 n14 c14], [.bool q1]]) (by kernel_rfl) (Step.refl _ _) ?_)
     exact t4 ⟨tv, rfl, (t8 (t4 tv))⟩
    ·intro vs gq stq hl hf
     obtain ⟨v0, v1, v2, v3, v4, v5, v6, v7, v8, v9, v10, v11, v12, rfl⟩ := len_k13 hl
     have hR1 := (show RdS (Kd.int .u8) gq 5 a1 n1 c1 l1 from hf _ (memI 1 rfl) (by as_aux_lemma => kernel_rfl))
     have hR14 := (show RdS (Kd.int .u8) gq 5 a14 n14 c14 l13 from hf _ (memI 2 rfl) (by as_aux_lemma => kernel_rfl))
     obtain rfl : v0 = AG [[.int .i64 x1], encA .u8 d1, [.int .i64 x2], encA .u8 d2, [.slice a1 n1 c1], [.slice a14 n14 c14], [.bool q1]] := hf _ (memI 5 rfl) (by as_aux_lemma => kernel_rfl)
     have hcal36 := P.baizeref34_Check gq x1 d1 x2 d2 l1 l13 q1 a1 n1 c1 a14 n14 c14 hR1 hR14 x28 hk36
     refine WP.callC hcal36 (by kernel_rfl) ?_
     rintro _ g65 st65 rfl
     refine WP.dn (Shown.o (v := .int .i64 x28) st65.pure ?_)
     exact t4 ⟨tv, tv, rfl, (t8 ⟨tv, tv, tv, tv⟩)⟩
    ·intro vs gq stq hl hf
     obtain ⟨v0, v1, v2, v3, v4, v5, v6, v7, v8, v9, v10, v11, v12, rfl⟩ := len_k13 hl
     obtain rfl : v1 = .int .i64 x28 := hf _ (memI 6 rfl) (by as_aux_lemma => kernel_rfl)
     refine WP.stl 1 ?_
     refine WP.dn (Shown.ok (v := .bool (x28 == 0)) (by kernel_rfl) (Step.refl _ _) ?_)
     exact t4 ⟨tv, tv, tv, congrArg Value.bool h17, (t8 ⟨tv, tv, tv⟩)⟩
    ·intro vs gq stq hl hf
     obtain ⟨v0, v1, v2, v3, v4, v5, v6, v7, v8, v9, v10, v11, v12, rfl⟩ := len_k13 hl
     have hB21 := (show Box gq (t + 13) b10 37 [encA .u8 d26] [8] from hf _ (memI 3 rfl) (by as_aux_lemma => kernel_rfl))
     obtain rfl : v2 = .bool true := hf _ (memI 7 rfl) (by as_aux_lemma => kernel_rfl)
     refine WP.loadB (v := AG [encA .u8 d26]) hB21 (by kernel_rfl) (by as_aux_lemma => kernel_rfl) ?_
     refine WP.dn (Shown.ok (v := AG [encA .u8 d26]) (by kernel_rfl) (Step.refl _ _) ?_)
     exact t8 ⟨rfl, (t8 ⟨tv, tv⟩)⟩
    ·intro vs gq stq hl hf
     obtain ⟨v0, v1, v2, v3, v4, v5, v6, v7, v8, v9, v10, v11, v12, rfl⟩ := len_k13 hl
     have hB1 := (show Box gq (t + 1) b1 35 [[.int .i64 x1], encA .u8 d1, [.int .i64 x2], encA .u8 d2, [.slice a1 n1 c1], [.slice a14 n14 c14], [.bool q1]] [1, 8, 1, 8, 1, 1, 1] from hf _ (memI 0 rfl) (by as_aux_lemma => kernel_rfl))
     obtain rfl : v2 = .bool true := hf _ (memI 7 rfl) (by as_aux_lemma => kernel_rfl)
     refine WP.loadB (v := AG [encA .u8 d1]) hB1 (by kernel_rfl) (by as_aux_lemma => kernel_rfl) ?_
     refine WP.dn (Shown.ok (v := AG [encA .u8 d1]) (by kernel_rfl) (Step.refl _ _) ?_)
     exact t8 ⟨tv, rfl, (t8 tv)⟩
    ·intro vs gq stq hl hf
     obtain ⟨v0, v1, v2, v3, v4, v5, v6, v7, v8, v9, v10, v11, v12, rfl⟩ := len_k13 hl
     obtain rfl : v2 = .bool true := hf _ (memI 7 rfl) (by as_aux_lemma => kernel_rfl)
     obtain rfl : v3 = AG [encA .u8 d26] := hf _ (memI 8 rfl) (by as_aux_lemma => kernel_rfl)
     obtain rfl : v4 = AG [encA .u8 d1] := hf _ (memI 9 rfl) (by as_aux_lemma => kernel_rfl)
     refine WP.neV (by kernel_rfl) (by as_aux_lemma => kernel_rfl) (EqV.arr (d := 9998) (t := 32) (e := 5) (m := 8) (k := .u8) (x := d26) (y := d1) (by kernel_rfl) (by as_aux_lemma => kernel_rfl)) ?_
     refine WP.dn (Shown.ok (v := .bool (!(d26.1 == d1.1))) (by kernel_rfl) (Step.refl _ _) ?_)
     exact t8 ⟨tv, tv, rfl, (t4 ⟨tv, tv, tv, tv⟩)⟩
    ·intro vs gq stq hl hf
     obtain ⟨v0, v1, v2, v3, v4, v5, v6, v7, v8, v9, v10, v11, v12, rfl⟩ := len_k13 hl
     obtain rfl : v2 = .bool true := hf _ (memI 7 rfl) (by as_aux_lemma => kernel_rfl)
     obtain rfl : v5 = .bool (!(d26.1 == d1.1)) := hf _ (memI 10 rfl) (by as_aux_lemma => kernel_rfl)
     refine WP.stl 1 ?_
     refine WP.dn (Shown.ok (v := .bool (!(d26.1 == d1.1))) (by kernel_rfl) (Step.refl _ _) ?_)
     exact t8 ⟨tv, tv, tv, congrArg Value.bool h18, (t4 ⟨tv, tv, tv⟩)⟩
    ·intro vs gq stq hl hf
     obtain ⟨v0, v1, v2, v3, v4, v5, v6, v7, v8, v9, v10, v11, v12, rfl⟩ := len_k13 hl
     have hB1 := (show Box gq (t + 1) b1 35 [[.int .i64 x1], encA .u8 d1, [.int .i64 x2], encA .u8 d2, [.slice a1 n1 c1], [.slice a14 n14 c14], [.bool q1]] [1, 8, 1, 8, 1, 1, 1] from hf _ (memI 0 rfl) (by as_aux_lemma => kernel_rfl))
     obtain rfl : v6 = .bool false := hf _ (memI 11 rfl) (by as_aux_lemma => kernel_rfl)
     refine WP.loadB (v := .int .i64 x2) hB1 (by kernel_rfl) (by as_aux_lemma => kernel_rfl) ?_
     refine WP.dn (Shown.ok (v := .int .i64 x2) (by kernel_rfl) (Step.refl _ _) ?_)
     exact t8 (t4 ⟨rfl, (t4 ⟨tv, tv⟩)⟩)
    ·intro vs gq stq hl hf
     obtain ⟨v0, v1, v2, v3, v4, v5, v6, v7, v8, v9, v10, v11, v12, rfl⟩ := len_k13 hl
     obtain rfl : v2 = .bool true := hf _ (memI 7 rfl) (by as_aux_lemma => kernel_rfl)
     obtain rfl : v6 = .bool false := hf _ (memI 11 rfl) (by as_aux_lemma => kernel_rfl)
     obtain rfl : v7 = .int .i64 x2 := hf _ (memI 12 rfl) (by as_aux_lemma => kernel_rfl)
     refine WP.stl 1 ?_
     refine WP.dn (Shown.ok (v := .bool (x16 != x2)) (by kernel_rfl) (Step.refl _ _) ?_)
     exact t8 (t4 ⟨tv, congrArg Value.bool h19, (t4 tv)⟩)
    ·intro vs gq stq hl hf
     obtain ⟨v0, v1, v2, v3, v4, v5, v6, v7, v8, v9, v10, v11, v12, rfl⟩ := len_k13 hl
     have hB22 := (show Box gq (t + 14) b11 37 [encA .u8 d27] [8] from hf _ (memI 4 rfl) (by as_aux_lemma => kernel_rfl))
     obtain rfl : v8 = .bool false := hf _ (memI 13 rfl) (by as_aux_lemma => kernel_rfl)
     refine WP.loadB (v := AG [encA .u8 d27]) hB22 (by kernel_rfl) (by as_aux_lemma => kernel_rfl) ?_
     refine WP.dn (Shown.ok (v := AG [encA .u8 d27]) (by kernel_rfl) (Step.refl _ _) ?_)
     exact t8 (t4 ⟨tv, tv, rfl, tv, tv, tv, tv⟩)
    ·intro vs gq stq hl hf
     obtain ⟨v0, v1, v2, v3, v4, v5, v6, v7, v8, v9, v10, v11, v12, rfl⟩ := len_k13 hl
     have hB1 := (show Box gq (t + 1) b1 35 [[.int .i64 x1], encA .u8 d1, [.int .i64 x2], encA .u8 d2, [.slice a1 n1 c1], [.slice a14 n14 c14], [.bool q1]] [1, 8, 1, 8, 1, 1, 1] from hf _ (memI 0 rfl) (by as_aux_lemma => kernel_rfl))
     obtain rfl : v8 = .bool false := hf _ (memI 13 rfl) (by as_aux_lemma => kernel_rfl)
     refine WP.loadB (v := AG [[.int .i64 x1], encA .u8 d1, [.int .i64 x2], encA .u8 d2, [.slice a1 n1 c1], [.slice a14 n14 c14], [.bool q1]]) hB1 (by kernel_rfl) (by as_aux_lemma => kernel_rfl) ?_
     refine WP.dn (Shown.ok (v := AG [[.int .i64 x1], encA .u8 d1, [.int .i64 x2], encA .u8 d2, [.slice a1 n1 c1], [.slice a14 n14 c14], [.bool q1]]) (by kernel_rfl) (Step.refl _ _) ?_)
     exact t8 (t4 ⟨tv, tv, tv, rfl, tv, tv, tv⟩)
    ·intro vs gq stq hl hf
     obtain ⟨v0, v1, v2, v3, v4, v5, v6, v7, v8, v9, v10, v11, v12, rfl⟩ := len_k13 hl
     have hR1 := (show RdS (Kd.int .u8) gq 5 a1 n1 c1 l1 from hf _ (memI 1 rfl) (by as_aux_lemma => kernel_rfl))
     have hR14 := (show RdS (Kd.int .u8) gq 5 a14 n14 c14 l13 from hf _ (memI 2 rfl) (by as_aux_lemma => kernel_rfl))
     obtain rfl : v8 = .bool false := hf _ (memI 13 rfl) (by as_aux_lemma => kernel_rfl)
     obtain rfl : v10 = AG [[.int .i64 x1], encA .u8 d1, [.int .i64 x2], encA .u8 d2, [.slice a1 n1 c1], [.slice a14 n14 c14], [.bool q1]] := hf _ (memI 15 rfl) (by as_aux_lemma => kernel_rfl)
     have hcal37 := P.baizeref34_At gq x1 d1 x2 d2 l1 l13 q1 a1 n1 c1 a14 n14 c14 hR1 hR14 d33 hk37
     refine WP.callC hcal37 (by kernel_rfl) ?_
     rintro _ g68 st68 rfl
     refine WP.dn (Shown.o (v := AG [encA .u8 d33]) st68.pure ?_)
     exact t16 ⟨rfl, tv, tv⟩
    ·intro vs gq stq hl hf
     obtain ⟨v0, v1, v2, v3, v4, v5, v6, v7, v8, v9, v10, v11, v12, rfl⟩ := len_k13 hl
     obtain rfl : v8 = .bool false := hf _ (memI 13 rfl) (by as_aux_lemma => kernel_rfl)
     obtain rfl : v9 = AG [encA .u8 d27] := hf _ (memI 14 rfl) (by as_aux_lemma => kernel_rfl)
     obtain rfl : v11 = AG [encA .u8 d33] := hf _ (memI 16 rfl) (by as_aux_lemma => kernel_rfl)
     refine WP.neV (by kernel_rfl) (by as_aux_lemma => kernel_rfl) (EqV.arr (d := 9998) (t := 32) (e := 5) (m := 8) (k := .u8) (x := d27) (y := d33) (by kernel_rfl) (by as_aux_lemma => kernel_rfl)) ?_
     refine WP.dn (Shown.ok (v := .bool (!(d27.1 == d33.1))) (by kernel_rfl) (Step.refl _ _) ?_)
     exact t16 ⟨tv, rfl, tv⟩
   intro vs g69 st69 hl hf
   obtain ⟨v0, v1, v2, v3, v4, v5, v6, v7, v8, v9, v10, v11, v12, rfl⟩ := len_k13 hl
   obtain rfl : v2 = .bool true := hf _ (memI 7 rfl) (by as_aux_lemma => kernel_rfl)
   obtain rfl : v8 = .bool false := hf _ (memI 13 rfl) (by as_aux_lemma => kernel_rfl)
   obtain rfl : v12 = .bool (!(d27.1 == d33.1)) := hf _ (memI 17 rfl) (by as_aux_lemma => kernel_rfl)
   replace hB1 := hB1.mono st69.toNo (fun x => x)
   replace hR1 := hR1.mono st69.toNo (fun x => x)
   replace hR14 := hR14.mono st69.toNo (fun x => x)
   replace hB2 := hB2.mono st69.toNo (fun x => x)
   replace hR3 := hR3.mono st69.toNo (fun x => x)
   replace hR18 := hR18.mono st69.toNo (fun x => x)
   replace hB3 := hB3.mono st69.toNo (fun x => x)
   replace hB5 := hB5.mono st69.toNo (fun x => x)
   replace hR17 := hR17.mono st69.toNo (fun x => x) (fun x => x)
   replace hB6 := hB6.mono st69.toNo (fun x => x)
   replace hB7 := hB7.mono st69.toNo (fun x => x)
   replace hR5 := hR5.mono st69.toNo (fun x => x)
   replace hR6 := hR6.mono st69.toNo (fun x => x)
   replace hB8 := hB8.mono st69.toNo (fun x => x)
   replace hR8 := hR8.mono st69.toNo (fun x => x)
   replace hR9 := hR9.mono st69.toNo (fun x => x)
   replace hB17 := hB17.mono st69.toNo (fun x => x)
   replace tot := tot.trans st69.toNo.pure
   refine NX.post ?_
   exact ⟨(!(d27.1 == d33.1)), ⟨by kernel_rfl, by kernel_rfl⟩, tot, hB1, hR1, hR14, hB2, hR3, hR18, hB3, hB5, hR17, hB6, hB7, hR5, hR6, hB8, hR8, hR9, hB17, hs⟩
  replace hs := of_if_f hs h17
  refine CP.drawL (by as_aux_lemma => kernel_rfl) [0, 1, 3] N.baizelaw34_PunishTells_3 [⟨none, [], [], fun l g => Box g (t + 1) b1 35 [[.int .i64 x1], encA .u8 d1, [.int .i64 x2], encA .u8 d2, [.slice a1 n1 c1], [.slice a14 n14 c14], [.bool q1]] [1, 8, 1, 8, 1, 1, 1]⟩, ⟨none, [], [], fun l g => RdS (Kd.int .u8) g 5 a1 n1 c1 l1⟩, ⟨none, [], [], fun l g => RdS (Kd.int .u8) g 5 a14 n14 c14 l13⟩, ⟨some 0, [], [0], fun l g => l.getD 0 undef = AG [[.int .i64 x1], encA .u8 d1, [.int .i64 x2], encA .u8 d2, [.slice a1 n1 c1], [.slice a14 n14 c14], [.bool q1]]⟩, ⟨some 1, [], [1], fun l g => l.getD 0 undef = .int .i64 x28⟩, ⟨some 2, [], [2], fun l g => l.getD 0 undef = .bool false⟩] [[], [], []] [] [] [2, 4, 5, 6, 7, 8, 9, 10, 11, 12, 13, 14, 15, 16, 17, 18, 19, 20] (by as_aux_lemma => kernel_rfl) (by simp) (by simp) ⟨fun _ _ _ _ st h0 hl hj hB1 => (hB1.mono st (fun h => absurd (hl _ h) (by simp))), fun _ _ _ _ st h0 hl hj hR1 => (RdS.mono (e := 5) hR1 st h0), fun _ _ _ _ st h0 hl hj hR14 => (RdS.mono (e := 5) hR14 st h0), fun _ _ _ _ st h0 hl hj e0 => e0, fun _ _ _ _ st h0 hl hj e1 => e1, fun _ _ _ _ st h0 hl hj e2 => e2, tv⟩ ⟨hB1, hR1, hR14, tv, tv, tv, tv⟩ (by as_aux_lemma => kernel_rfl) (fun vs => by as_aux_lemma => kernel_rfl) ?_ ?_ ?_
  ·intro j hj
   have hq : j = 0 ∨ j = 1 ∨ j = 2 ∨ j = 3 ∨ j = 4 ∨ j = 5 ∨ j = 6 ∨ j = 7 ∨ j = 8 ∨ j = 9 ∨ j = 10 ∨ j = 11 ∨ j = 12 ∨ j = 13 ∨ j = 14 ∨ j = 15 ∨ j = 16 ∨ j = 17 := by have h : j < 18 := hj; omega
   rcases hq with rfl | rfl | rfl | rfl | rfl | rfl | rfl | rfl | rfl | rfl | rfl | rfl | rfl | rfl | rfl | rfl | rfl | rfl
   ·intro vs gq stq hl hf
    obtain ⟨v0, v1, v2, rfl⟩ := len_k3 hl
    obtain rfl : v1 = .int .i64 x28 := hf _ (memI 4 rfl) (by as_aux_lemma => kernel_rfl)
    show Option.isSome _ = true
    as_aux_lemma => kernel_rfl
   ·intro vs gq stq hl hf
    obtain ⟨v0, v1, v2, rfl⟩ := len_k3 hl
    obtain rfl : v2 = .bool false := hf _ (memI 5 rfl) (by as_aux_lemma => kernel_rfl)
    show Option.isSome _ = true
    as_aux_lemma => kernel_rfl
   ·intro vs gq stq hl hf
    obtain ⟨v0, v1, v2, rfl⟩ := len_k3 hl
    obtain rfl : v2 = .bool false := hf _ (memI 5 rfl) (by as_aux_lemma => kernel_rfl)
    show Option.isSome _ = true
    as_aux_lemma => kernel_rfl
   ·intro vs gq stq hl hf
    obtain ⟨v0, v1, v2, rfl⟩ := len_k3 hl
    obtain rfl : v2 = .bool false := hf _ (memI 5 rfl) (by as_aux_lemma => kernel_rfl)
    show Option.isSome _ = true
    as_aux_lemma => kernel_rfl
   ·intro vs gq stq hl hf
    obtain ⟨v0, v1, v2, rfl⟩ := len_k3 hl
    obtain rfl : v2 = .bool false := hf _ (memI 5 rfl) (by as_aux_lemma => kernel_rfl)
    show Option.isSome _ = true
    as_aux_lemma => kernel_rfl
   ·intro vs gq stq hl hf
    obtain ⟨v0, v1, v2, rfl⟩ := len_k3 hl
    obtain rfl : v2 = .bool false := hf _ (memI 5 rfl) (by as_aux_lemma => kernel_rfl)
    show Option.isSome _ = true
    as_aux_lemma => kernel_rfl
   ·intro vs gq stq hl hf
    obtain ⟨v0, v1, v2, rfl⟩ := len_k3 hl
    obtain rfl : v2 = .bool false := hf _ (memI 5 rfl) (by as_aux_lemma => kernel_rfl)
    show Option.isSome _ = true
    as_aux_lemma => kernel_rfl
   ·intro vs gq stq hl hf
    obtain ⟨v0, v1, v2, rfl⟩ := len_k3 hl
    obtain rfl : v2 = .bool false := hf _ (memI 5 rfl) (by as_aux_lemma => kernel_rfl)
    show Option.isSome _ = true
    as_aux_lemma => kernel_rfl
   ·intro vs gq stq hl hf
    obtain ⟨v0, v1, v2, rfl⟩ := len_k3 hl
    obtain rfl : v2 = .bool false := hf _ (memI 5 rfl) (by as_aux_lemma => kernel_rfl)
    show Option.isSome _ = true
    as_aux_lemma => kernel_rfl
   ·intro vs gq stq hl hf
    obtain ⟨v0, v1, v2, rfl⟩ := len_k3 hl
    obtain rfl : v2 = .bool false := hf _ (memI 5 rfl) (by as_aux_lemma => kernel_rfl)
    show Option.isSome _ = true
    as_aux_lemma => kernel_rfl
   ·intro vs gq stq hl hf
    obtain ⟨v0, v1, v2, rfl⟩ := len_k3 hl
    obtain rfl : v2 = .bool false := hf _ (memI 5 rfl) (by as_aux_lemma => kernel_rfl)
    show Option.isSome _ = true
    as_aux_lemma => kernel_rfl
   ·intro vs gq stq hl hf
    obtain ⟨v0, v1, v2, rfl⟩ := len_k3 hl
    obtain rfl : v2 = .bool false := hf _ (memI 5 rfl) (by as_aux_lemma => kernel_rfl)
    show Option.isSome _ = true
    as_aux_lemma => kernel_rfl
   ·intro vs gq stq hl hf
    obtain ⟨v0, v1, v2, rfl⟩ := len_k3 hl
    obtain rfl : v2 = .bool false := hf _ (memI 5 rfl) (by as_aux_lemma => kernel_rfl)
    show Option.isSome _ = true
    as_aux_lemma => kernel_rfl
   ·intro vs gq stq hl hf
    obtain ⟨v0, v1, v2, rfl⟩ := len_k3 hl
    obtain rfl : v2 = .bool false := hf _ (memI 5 rfl) (by as_aux_lemma => kernel_rfl)
    show Option.isSome _ = true
    as_aux_lemma => kernel_rfl
   ·intro vs gq stq hl hf
    obtain ⟨v0, v1, v2, rfl⟩ := len_k3 hl
    obtain rfl : v2 = .bool false := hf _ (memI 5 rfl) (by as_aux_lemma => kernel_rfl)
    show Option.isSome _ = true
    as_aux_lemma => kernel_rfl
   ·intro vs gq stq hl hf
    obtain ⟨v0, v1, v2, rfl⟩ := len_k3 hl
    obtain rfl : v2 = .bool false := hf _ (memI 5 rfl) (by as_aux_lemma => kernel_rfl)
    show Option.isSome _ = true
    as_aux_lemma => kernel_rfl
   ·intro vs gq stq hl hf
    obtain ⟨v0, v1, v2, rfl⟩ := len_k3 hl
    obtain rfl : v2 = .bool false := hf _ (memI 5 rfl) (by as_aux_lemma => kernel_rfl)
    show Option.isSome _ = true
    as_aux_lemma => kernel_rfl
   ·intro vs gq stq hl hf
    obtain ⟨v0, v1, v2, rfl⟩ := len_k3 hl
    obtain rfl : v2 = .bool false := hf _ (memI 5 rfl) (by as_aux_lemma => kernel_rfl)
    show Option.isSome _ = true
    as_aux_lemma => kernel_rfl
  ·intro j hj
   have hq : j = 0 ∨ j = 1 ∨ j = 2 := by have h : j < 3 := hj; omega
   rcases hq with rfl | rfl | rfl
   ·intro vs gq stq hl hf
    obtain ⟨v0, v1, v2, rfl⟩ := len_k3 hl
    have hB1 := (show Box gq (t + 1) b1 35 [[.int .i64 x1], encA .u8 d1, [.int .i64 x2], encA .u8 d2, [.slice a1 n1 c1], [.slice a14 n14 c14], [.bool q1]] [1, 8, 1, 8, 1, 1, 1] from hf _ (memI 0 rfl) (by as_aux_lemma => kernel_rfl))
    refine WP.loadB (v := AG [[.int .i64 x1], encA .u8 d1, [.int .i64 x2], encA .u8 d2, [.slice a1 n1 c1], [.slice a14 n14 c14], [.bool q1]]) hB1 (by kernel_rfl) (by as_aux_lemma => kernel_rfl) ?_
    refine WP.dn (Shown.ok (v := AG [[.int .i64 x1], encA .u8 d1, [.int .i64 x2], encA .u8 d2, [.slice a1 n1 c1], [.slice a14 n14 c14], [.bool q1]]) (by kernel_rfl) (Step.refl _ _) ?_)
    exact ⟨tv, tv, tv, rfl, tv, tv, tv⟩
   ·intro vs gq stq hl hf
    obtain ⟨v0, v1, v2, rfl⟩ := len_k3 hl
    have hR1 := (show RdS (Kd.int .u8) gq 5 a1 n1 c1 l1 from hf _ (memI 1 rfl) (by as_aux_lemma => kernel_rfl))
    have hR14 := (show RdS (Kd.int .u8) gq 5 a14 n14 c14 l13 from hf _ (memI 2 rfl) (by as_aux_lemma => kernel_rfl))
    obtain rfl : v0 = AG [[.int .i64 x1], encA .u8 d1, [.int .i64 x2], encA .u8 d2, [.slice a1 n1 c1], [.slice a14 n14 c14], [.bool q1]] := hf _ (memI 3 rfl) (by as_aux_lemma => kernel_rfl)
    have hcal36 := P.baizeref34_Check gq x1 d1 x2 d2 l1 l13 q1 a1 n1 c1 a14 n14 c14 hR1 hR14 x28 hk36
    refine WP.callC hcal36 (by kernel_rfl) ?_
    rintro _ g65 st65 rfl
    refine WP.dn (Shown.o (v := .int .i64 x28) st65.pure ?_)
    exact t4 ⟨rfl, tv, tv⟩
   ·intro vs gq stq hl hf
    obtain ⟨v0, v1, v2, rfl⟩ := len_k3 hl
    obtain rfl : v1 = .int .i64 x28 := hf _ (memI 4 rfl) (by as_aux_lemma => kernel_rfl)
    refine WP.stl 1 ?_
    refine WP.dn (Shown.ok (v := .bool (x28 == 0)) (by kernel_rfl) (Step.refl _ _) ?_)
    exact t4 ⟨tv, congrArg Value.bool h17, tv⟩
  intro vs g70 st70 hl hf
  obtain ⟨v0, v1, v2, rfl⟩ := len_k3 hl
  obtain rfl : v2 = .bool false := hf _ (memI 5 rfl) (by as_aux_lemma => kernel_rfl)
  replace hB1 := hB1.mono st70.toNo (fun x => x)
  replace hR1 := hR1.mono st70.toNo (fun x => x)
  replace hR14 := hR14.mono st70.toNo (fun x => x)
  replace hB2 := hB2.mono st70.toNo (fun x => x)
  replace hR3 := hR3.mono st70.toNo (fun x => x)
  replace hR18 := hR18.mono st70.toNo (fun x => x)
  replace hB3 := hB3.mono st70.toNo (fun x => x)
  replace hB5 := hB5.mono st70.toNo (fun x => x)
  replace hR17 := hR17.mono st70.toNo (fun x => x) (fun x => x)
  replace hB6 := hB6.mono st70.toNo (fun x => x)
  replace hB7 := hB7.mono st70.toNo (fun x => x)
  replace hR5 := hR5.mono st70.toNo (fun x => x)
  replace hR6 := hR6.mono st70.toNo (fun x => x)
  replace hB8 := hB8.mono st70.toNo (fun x => x)
  replace hR8 := hR8.mono st70.toNo (fun x => x)
  replace hR9 := hR9.mono st70.toNo (fun x => x)
  replace hB17 := hB17.mono st70.toNo (fun x => x)
  replace tot := tot.trans st70.toNo.pure
  refine NX.post ?_
  exact ⟨false, ⟨by kernel_rfl, by kernel_rfl⟩, tot, hB1, hR1, hR14, hB2, hR3, hR18, hB3, hB5, hR17, hB6, hB7, hR5, hR6, hB8, hR8, hR9, hB17, hs⟩
 clear tot hs hB1 hR1 hR14 hB2 hR3 hR18 hB3 hB5 hR17 hB6 hB7 hR5 hR6 hB8 hR8 hR9 hB17 hB21 hB22
 rintro tm g ⟨q9, hF, tot, hB1, hR1, hR14, hB2, hR3, hR18, hB3, hB5, hR17, hB6, hB7, hR5, hR6, hB8, hR8, hR9, hB17, hs⟩
 clear ds
 obtain ⟨ds, rfl⟩ := hF.open
 clear hF
 unfold F.baizelaw34_PunishTells.c5 at hs
 refine CP.cond (b := q9) (by kernel_rfl) (fun h10 => ?_) (fun h10 => ?_)
 ·replace hs := of_if_t hs h10
  refine CP.seqR ?_
  refine WP.stl 1 ?_
  refine WP.dn ?_
  refine NX.then_n ?_
  refine CP.ret ?_
  refine NX.then_r ?_
  replace hs := Option.some.inj hs
  obtain rfl := hs
  exact NX.fin (v := .bool false) (Res.still (by kernel_rfl)) tot htL rfl
 replace hs := of_if_f hs h10
 refine CP.skip ?_
 refine NX.then_n ?_
 refine CP.cut (fun tm g => ∃ (q10 : Bool), Fr 175 [(8, .bool q10)] tm ∧ Step (fun l => NoM l ∨ t ≤ l) g0 g ∧ (F.baizelaw34_PunishTells.c6 q10) = some o1) ?_ ?_
 ·replace hs := Option.bind_eq_some_iff.1 hs
  obtain ⟨x23, hk29, hs⟩ := hs
  replace hs := Option.bind_eq_some_iff.1 hs
  obtain ⟨x24, hk30, hs⟩ := hs
  refine bool_split (b := (x23 == x24)) (fun h14 => ?_) (fun h14 => ?_)
  ·replace hs := of_if_t hs h14
   replace hs := Option.bind_eq_some_iff.1 hs
   obtain ⟨d31, hk31, hs⟩ := hs
   replace hs := Option.bind_eq_some_iff.1 hs
   obtain ⟨d32, hk32, hs⟩ := hs
   refine bool_split (b := (d31.1 == d32.1)) (fun h15 => ?_) (fun h15 => ?_)
   ·replace hs := of_if_t hs h15
    replace hs := Option.bind_eq_some_iff.1 hs
    obtain ⟨x25, hk33, hs⟩ := hs
    replace hs := Option.bind_eq_some_iff.1 hs
    obtain ⟨x26, hk34, hs⟩ := hs
    refine bool_split (b := (x25 == x26)) (fun h16 => ?_) (fun h16 => ?_)
    ·replace hs := of_if_t hs h16
     replace hs := Option.bind_eq_some_iff.1 hs
     obtain ⟨x27, hk35, hs⟩ := hs
     refine CP.drawL (by as_aux_lemma => kernel_rfl) [0, 1, 2, 3, 5, 6, 7, 8, 9, 10, 12, 15, 16, 17, 18, 19, 20, 21, 22, 24, 27, 28, 29, 30, 31, 32] N.baizelaw34_PunishTells_2 [⟨none, [], [], fun l g => Box g (t + 1) b1 35 [[.int .i64 x1], encA .u8 d1, [.int .i64 x2], encA .u8 d2, [.slice a1 n1 c1], [.slice a14 n14 c14], [.bool q1]] [1, 8, 1, 8, 1, 1, 1]⟩, ⟨none, [], [], fun l g => RdS (Kd.int .u8) g 5 a1 n1 c1 l1⟩, ⟨none, [], [], fun l g => RdS (Kd.int .u8) g 5 a14 n14 c14 l13⟩, ⟨none, [], [], fun l g => Box g (t + 2) b2 35 [[.int .i64 x3], encA .u8 d3, [.int .i64 x4], encA .u8 d4, [.slice a3 n3 c3], [.slice a18 n18 c18], [.bool q2]] [1, 8, 1, 8, 1, 1, 1]⟩, ⟨none, [], [], fun l g => RdS (Kd.int .u8) g 5 a3 n3 c3 l3⟩, ⟨none, [], [], fun l g => RdS (Kd.int .u8) g 5 a18 n18 c18 l16⟩, ⟨none, [], [], fun l g => Box g (t + 3) b3 32 [encA .u8 d5] [8]⟩, ⟨none, [], [], fun l g => Box g (t + 5) b5 121 [[.slice a17 n17 c17], [.map (some b6)]] [1, 1]⟩, ⟨none, [0], [], fun l g => OwnS k_S_notary_entry g (t + 9) 126 a17 n17 c17 l15⟩, ⟨none, [], [], fun l g => MapB g (t + 6) b6 kv_S_notary_entry (Value.int .i64) w2⟩, ⟨none, [], [], fun l g => Box g (t + 7) b7 43 [[.int .i64 x8], encA .u8 d7, [.int .i64 x9], [.slice a5 l5.length c5], encA .u8 d8, [.int .i64 x10], encA .u8 d9, [.slice a6 l6.length c6], [.slice a14 n14 c14]] [1, 8, 1, 1, 8, 1, 8, 1, 1]⟩, ⟨none, [], [], fun l g => RdS (Kd.int .u8) g 5 a5 l5.length c5 l5⟩, ⟨none, [], [], fun l g => RdS (Kd.int .u8) g 5 a6 l6.length c6 l6⟩, ⟨none, [], [], fun l g => Box g (t + 8) b8 43 [[.int .i64 x11], encA .u8 d10, [.int .i64 x12], [.slice a8 l8.length c8], encA .u8 d11, [.int .i64 x13], encA .u8 d12, [.slice a9 l9.length c9], [.slice a18 n18 c18]] [1, 8, 1, 1, 8, 1, 8, 1, 1]⟩, ⟨none, [], [], fun l g => RdS (Kd.int .u8) g 5 a8 l8.length c8 l8⟩, ⟨none, [], [], fun l g => RdS (Kd.int .u8) g 5 a9 l9.length c9 l9⟩, ⟨none, [], [], fun l g => Box g (t + 12) b9 37 [encA .u8 d23] [8]⟩, ⟨some 0, [], [0], fun l g => l.getD 0 undef = AG [[.int .i64 x8], encA .u8 d7, [.int .i64 x9], [.slice a5 l5.length c5], encA .u8 d8, [.int .i64 x10], encA .u8 d9, [.slice a6 l6.length c6], [.slice a14 n14 c14]]⟩, ⟨some 1, [], [1], fun l g => l.getD 0 undef = .int .i64 x23⟩, ⟨some 2, [], [2], fun l g => l.getD 0 undef = AG [[.int .i64 x1], encA .u8 d1, [.int .i64 x2], encA .u8 d2, [.slice a1 n1 c1], [.slice a14 n14 c14], [.bool q1]]⟩, ⟨some 3, [], [3], fun l g => l.getD 0 undef = .int .i64 x24⟩, ⟨some 4, [], [4], fun l g => l.getD 0 undef = .bool true⟩, ⟨some 5, [], [5], fun l g => l.getD 0 undef = AG [[.int .i64 x8], encA .u8 d7, [.int .i64 x9], [.slice a5 l5.length c5], encA .u8 d8, [.int .i64 x10], encA .u8 d9, [.slice a6 l6.length c6], [.slice a14 n14 c14]]⟩, ⟨some 6, [], [6], fun l g => l.getD 0 undef = AG [encA .u8 d31]⟩, ⟨some 7, [], [7], fun l g => l.getD 0 undef = AG [[.int .i64 x1], encA .u8 d1, [.int .i64 x2], encA .u8 d2, [.slice a1 n1 c1], [.slice a14 n14 c14], [.bool q1]]⟩, ⟨some 8, [], [8], fun l g => l.getD 0 undef = AG [encA .u8 d32]⟩, ⟨some 9, [], [9], fun l g => l.getD 0 undef = .bool (d31.1 == d32.1)⟩, ⟨some 10, [], [10], fun l g => l.getD 0 undef = .bool true⟩, ⟨some 11, [], [11], fun l g => l.getD 0 undef = AG [encA .u8 d5]⟩, ⟨some 12, [], [12], fun l g => l.getD 0 undef = AG [encA .u8 d23]⟩, ⟨some 13, [], [13], fun l g => l.getD 0 undef = AG [[.int .i64 x8], encA .u8 d7, [.int .i64 x9], [.slice a5 l5.length c5], encA .u8 d8, [.int .i64 x10], encA .u8 d9, [.slice a6 l6.length c6], [.slice a14 n14 c14]]⟩, ⟨some 14, [], [14], fun l g => l.getD 0 undef = AG [[.int .i64 x11], encA .u8 d10, [.int .i64 x12], [.slice a8 l8.length c8], encA .u8 d11, [.int .i64 x13], encA .u8 d12, [.slice a9 l9.length c9], [.slice a18 n18 c18]]⟩, ⟨some 15, [], [15], fun l g => l.getD 0 undef = .int .i64 x25⟩, ⟨some 15, [0], [], fun l g => OwnS k_S_notary_entry g (t + 9) 126 a17 n17 c17 l15⟩, ⟨some 16, [], [16], fun l g => l.getD 0 undef = AG [encA .u8 d5]⟩, ⟨some 17, [], [17], fun l g => l.getD 0 undef = AG [[.int .i64 x1], encA .u8 d1, [.int .i64 x2], encA .u8 d2, [.slice a1 n1 c1], [.slice a14 n14 c14], [.bool q1]]⟩, ⟨some 18, [], [18], fun l g => l.getD 0 undef = AG [[.int .i64 x3], encA .u8 d3, [.int .i64 x4], encA .u8 d4, [.slice a3 n3 c3], [.slice a18 n18 c18], [.bool q2]]⟩, ⟨some 19, [], [19], fun l g => l.getD 0 undef = .int .i64 x26⟩, ⟨some 20, [], [20], fun l g => l.getD 0 undef = .bool true⟩, ⟨some 21, [], [21], fun l g => l.getD 0 undef = AG [encA .u8 d5]⟩, ⟨some 22, [], [22], fun l g => l.getD 0 undef = AG [encA .u8 d23]⟩, ⟨some 23, [], [23], fun l g => l.getD 0 undef = AG [[.int .i64 x8], encA .u8 d7, [.int .i64 x9], [.slice a5 l5.length c5], encA .u8 d8, [.int .i64 x10], encA .u8 d9, [.slice a6 l6.length c6], [.slice a14 n14 c14]]⟩, ⟨some 24, [], [24], fun l g => l.getD 0 undef = AG [[.int .i64 x11], encA .u8 d10, [.int .i64 x12], [.slice a8 l8.length c8], encA .u8 d11, [.int .i64 x13], encA .u8 d12, [.slice a9 l9.length c9], [.slice a18 n18 c18]]⟩, ⟨some 25, [], [25], fun l g => l.getD 0 undef = .int .i64 x27⟩] [[], [], [], [], [], [], [], [], [], [], [], [], [], [], [], [0], [], [], [], [], [], [], [], [], [], []] [(t + 9)] [] [4, 11, 13, 14, 23, 25, 26, 33, 34, 35] (by as_aux_lemma => kernel_rfl) (by simp <;> omega) (by simp) ⟨fun _ _ _ _ st h0 hl hj hB1 => (hB1.mono st (fun h => absurd (hl _ h) (by simp <;> omega))), fun _ _ _ _ st h0 hl hj hR1 => (RdS.mono (e := 5) hR1 st h0), fun _ _ _ _ st h0 hl hj hR14 => (RdS.mono (e := 5) hR14 st h0), fun _ _ _ _ st h0 hl hj hB2 => (hB2.mono st (fun h => absurd (hl _ h) (by simp <;> omega))), fun _ _ _ _ st h0 hl hj hR3 => (RdS.mono (e := 5) hR3 st h0), fun _ _ _ _ st h0 hl hj hR18 => (RdS.mono (e := 5) hR18 st h0), fun _ _ _ _ st h0 hl hj hB3 => (hB3.mono st (fun h => absurd (hl _ h) (by simp <;> omega))), fun _ _ _ _ st h0 hl hj hB5 => (hB5.mono st (fun h => absurd (hl _ h) (by simp <;> omega))), fun _ _ _ _ st h0 hl hj hR17 => (hR17.mono st h0 (hj 0 (by simp) _ rfl)), fun _ _ _ _ st h0 hl hj hB6 => (hB6.mono st (fun h => absurd (hl _ h) (by simp <;> omega))), fun _ _ _ _ st h0 hl hj hB7 => (hB7.mono st (fun h => absurd (hl _ h) (by simp <;> omega))), fun _ _ _ _ st h0 hl hj hR5 => (RdS.mono (e := 5) hR5 st h0), fun _ _ _ _ st h0 hl hj hR6 => (RdS.mono (e := 5) hR6 st h0), fun _ _ _ _ st h0 hl hj hB8 => (hB8.mono st (fun h => absurd (hl _ h) (by simp <;> omega))), fun _ _ _ _ st h0 hl hj hR8 => (RdS.mono (e := 5) hR8 st h0), fun _ _ _ _ st h0 hl hj hR9 => (RdS.mono (e := 5) hR9 st h0), fun _ _ _ _ st h0 hl hj hB17 => (hB17.mono st (fun h => absurd (hl _ h) (by simp <;> omega))), fun _ _ _ _ st h0 hl hj e0 => e0, fun _ _ _ _ st h0 hl hj e1 => e1, fun _ _ _ _ st h0 hl hj e2 => e2, fun _ _ _ _ st h0 hl hj e3 => e3, fun _ _ _ _ st h0 hl hj e4 => e4, fun _ _ _ _ st h0 hl hj e5 => e5, fun _ _ _ _ st h0 hl hj e6 => e6, fun _ _ _ _ st h0 hl hj e7 => e7, fun _ _ _ _ st h0 hl hj e8 => e8, fun _ _ _ _ st h0 hl hj e9 => e9, fun _ _ _ _ st h0 hl hj e10 => e10, fun _ _ _ _ st h0 hl hj e11 => e11, fun _ _ _ _ st h0 hl hj e12 => e12, fun _ _ _ _ st h0 hl hj e13 => e13, fun _ _ _ _ st h0 hl hj e14 => e14, fun _ _ _ _ st h0 hl hj e15 => e15, fun _ _ _ _ st h0 hl hj hR17 => (hR17.mono st h0 (hj 0 (by simp) _ rfl)), fun _ _ _ _ st h0 hl hj e16 => e16, fun _ _ _ _ st h0 hl hj e17 => e17, fun _ _ _ _ st h0 hl hj e18 => e18, fun _ _ _ _ st h0 hl hj e19 => e19, fun _ _ _ _ st h0 hl hj e20 => e20, fun _ _ _ _ st h0 hl hj e21 => e21, fun _ _ _ _ st h0 hl hj e22 => e22, fun _ _ _ _ st h0 hl hj e23 => e23, fun _ _ _ _ st h0 hl hj e24 => e24, fun _ _ _ _ st h0 hl hj e25 => e25, tv⟩ ⟨hB1, hR1, hR14, hB2, hR3, hR18, hB3, hB5, hR17, hB6, hB7, hR5, hR6, hB8, hR8, hR9, hB17, tv, tv, tv, tv, tv, tv, tv, tv, tv, tv, tv, tv, tv, tv, tv, tv, tv, tv, tv, tv, tv, tv, tv, tv, tv, tv, tv, tv⟩ (by as_aux_lemma => kernel_rfl) (fun vs => by as_aux_lemma => kernel_rfl) ?_ ?_ ?_
     ·intro j hj
      have hq : j = 0 ∨ j = 1 ∨ j = 2 ∨ j = 3 ∨ j = 4 ∨ j = 5 ∨ j = 6 ∨ j = 7 ∨ j = 8 ∨ j = 9 := by have h : j < 10 := hj; omega
      rcases hq with rfl | rfl | rfl | rfl | rfl | rfl | rfl | rfl | rfl | rfl
      ·intro vs gq stq hl hf
       obtain ⟨v0, v1, v2, v3, v4, v5, v6, v7, v8, v9, v10, v11, v12, v13, v14, v15, v16, v17, v18, v19, v20, v21, v22, v23, v24, v25, rfl⟩ := len_k26 hl
       obtain rfl : v1 = .int .i64 x23 := hf _ (memI 18 rfl) (by as_aux_lemma => kernel_rfl)
       obtain rfl : v3 = .int .i64 x24 := hf _ (memI 20 rfl) (by as_aux_lemma => kernel_rfl)
       show Option.isSome _ = true
       as_aux_lemma => kernel_rfl
      ·intro vs gq stq hl hf
       obtain ⟨v0, v1, v2, v3, v4, v5, v6, v7, v8, v9, v10, v11, v12, v13, v14, v15, v16, v17, v18, v19, v20, v21, v22, v23, v24, v25, rfl⟩ := len_k26 hl
       obtain rfl : v4 = .bool true := hf _ (memI 21 rfl) (by as_aux_lemma => kernel_rfl)
       obtain rfl : v9 = .bool (d31.1 == d32.1) := hf _ (memI 26 rfl) (by as_aux_lemma => kernel_rfl)
       show Option.isSome _ = true
       as_aux_lemma => kernel_rfl
      ·intro vs gq stq hl hf
       obtain ⟨v0, v1, v2, v3, v4, v5, v6, v7, v8, v9, v10, v11, v12, v13, v14, v15, v16, v17, v18, v19, v20, v21, v22, v23, v24, v25, rfl⟩ := len_k26 hl
       obtain rfl : v10 = .bool true := hf _ (memI 27 rfl) (by as_aux_lemma => kernel_rfl)
       show Option.isSome _ = true
       as_aux_lemma => kernel_rfl
      ·intro vs gq stq hl hf
       obtain ⟨v0, v1, v2, v3, v4, v5, v6, v7, v8, v9, v10, v11, v12, v13, v14, v15, v16, v17, v18, v19, v20, v21, v22, v23, v24, v25, rfl⟩ := len_k26 hl
       obtain rfl : v10 = .bool true := hf _ (memI 27 rfl) (by as_aux_lemma => kernel_rfl)
       show Option.isSome _ = true
       as_aux_lemma => kernel_rfl
      ·intro vs gq stq hl hf
       obtain ⟨v0, v1, v2, v3, v4, v5, v6, v7, v8, v9, v10, v11, v12, v13, v14, v15, v16, v17, v18, v19, v20, v21, v22, v23, v24, v25, rfl⟩ := len_k26 hl
       obtain rfl : v10 = .bool true := hf _ (memI 27 rfl) (by as_aux_lemma => kernel_rfl)
       show Option.isSome _ = true
       as_aux_lemma => kernel_rfl
      ·intro vs gq stq hl hf
       obtain ⟨v0, v1, v2, v3, v4, v5, v6, v7, v8, v9, v10, v11, v12, v13, v14, v15, v16, v17, v18, v19, v20, v21, v22, v23, v24, v25, rfl⟩ := len_k26 hl
       obtain rfl : v10 = .bool true := hf _ (memI 27 rfl) (by as_aux_lemma => kernel_rfl)
       obtain rfl : v15 = .int .i64 x25 := hf _ (memI 32 rfl) (by as_aux_lemma => kernel_rfl)
       obtain rfl : v19 = .int .i64 x26 := hf _ (memI 37 rfl) (by as_aux_lemma => kernel_rfl)
       show Option.isSome _ = true
       as_aux_lemma => kernel_rfl
      ·intro vs gq stq hl hf
       obtain ⟨v0, v1, v2, v3, v4, v5, v6, v7, v8, v9, v10, v11, v12, v13, v14, v15, v16, v17, v18, v19, v20, v21, v22, v23, v24, v25, rfl⟩ := len_k26 hl
       obtain rfl : v10 = .bool true := hf _ (memI 27 rfl) (by as_aux_lemma => kernel_rfl)
       obtain rfl : v15 = .int .i64 x25 := hf _ (memI 32 rfl) (by as_aux_lemma => kernel_rfl)
       obtain rfl : v19 = .int .i64 x26 := hf _ (memI 37 rfl) (by as_aux_lemma => kernel_rfl)
       show Option.isSome _ = true
       as_aux_lemma => kernel_rfl
      ·intro vs gq stq hl hf
       obtain ⟨v0, v1, v2, v3, v4, v5, v6, v7, v8, v9, v10, v11, v12, v13, v14, v15, v16, v17, v18, v19, v20, v21, v22, v23, v24, v25, rfl⟩ := len_k26 hl
       obtain rfl : v20 = .bool true := hf _ (memI 38 rfl) (by as_aux_lemma => kernel_rfl)
       obtain rfl : v25 = .int .i64 x27 := hf _ (memI 43 rfl) (by as_aux_lemma => kernel_rfl)
       show Option.isSome _ = true
       as_aux_lemma => kernel_rfl
      ·intro vs gq stq hl hf
       obtain ⟨v0, v1, v2, v3, v4, v5, v6, v7, v8, v9, v10, v11, v12, v13, v14, v15, v16, v17, v18, v19, v20, v21, v22, v23, v24, v25, rfl⟩ := len_k26 hl
       obtain rfl : v20 = .bool true := hf _ (memI 38 rfl) (by as_aux_lemma => kernel_rfl)
       obtain rfl : v25 = .int .i64 x27 := hf _ (memI 43 rfl) (by as_aux_lemma => kernel_rfl)
       show Option.isSome _ = true
       as_aux_lemma => kernel_rfl
      ·intro vs gq stq hl hf
       obtain ⟨v0, v1, v2, v3, v4, v5, v6, v7, v8, v9, v10, v11, v12, v13, v14, v15, v16, v17, v18, v19, v20, v21, v22, v23, v24, v25, rfl⟩ := len_k26 hl
       obtain rfl : v20 = .bool true := hf _ (memI 38 rfl) (by as_aux_lemma => kernel_rfl)
       obtain rfl : v25 = .int .i64 x27 := hf _ (memI 43 rfl) (by as_aux_lemma => kernel_rfl)
       show Option.isSome _ = true
       as_aux_lemma => kernel_rfl
     ·intro j hj
      have hq : j = 0 ∨ j = 1 ∨ j = 2 ∨ j = 3 ∨ j = 4 ∨ j = 5 ∨ j = 6 ∨ j = 7 ∨ j = 8 ∨ j = 9 ∨ j = 10 ∨ j = 11 ∨ j = 12 ∨ j = 13 ∨ j = 14 ∨ j = 15 ∨ j = 16 ∨ j = 17 ∨ j = 18 ∨ j = 19 ∨ j = 20 ∨ j = 21 ∨ j = 22 ∨ j = 23 ∨ j = 24 ∨ j = 25 := by have h : j < 26 := hj; omega
      rcases hq with rfl | rfl | rfl | rfl | rfl | rfl | rfl | rfl | rfl | rfl | rfl | rfl | rfl | rfl | rfl | rfl | rfl | rfl | rfl | rfl | rfl | rfl | rfl | rfl | rfl | rfl
      ·intro vs gq stq hl hf
       obtain ⟨v0, v1, v2, v3, v4, v5, v6, v7, v8, v9, v10, v11, v12, v13, v14, v15, v16, v17, v18, v19, v20, v21, v22, v23, v24, v25, rfl⟩ := len_k26 hl
       have hB7 := (show Box gq (t + 7) b7 43 [[.int .i64 x8], encA .u8 d7, [.int .i64 x9], [.slice a5 l5.length c5], encA .u8 d8, [.int .i64 x10], encA .u8 d9, [.slice a6 l6.length c6], [.slice a14 n14 c14]] [1, 8, 1, 1, 8, 1, 8, 1, 1] from hf _ (memI 10 rfl) (by as_aux_lemma => kernel_rfl))
       refine WP.loadB (v := AG [[.int .i64 x8], encA .u8 d7, [.int .i64 x9], [.slice a5 l5.length c5], encA .u8 d8, [.int .i64 x10], encA .u8 d9, [.slice a6 l6.length c6], [.slice a14 n14 c14]]) hB7 (by kernel_rfl) (by as_aux_lemma => kernel_rfl) ?_
       refine WP.dn (Shown.ok (v := AG [[.int .i64 x8], encA .u8 d7, [.int .i64 x9], [.slice a5 l5.length c5], encA .u8 d8, [.int .i64 x10], encA .u8 d9, [.slice a6 l6.length c6], [.slice a14 n14 c14]]) (by kernel_rfl) (Step.refl _ _) ?_)
       exact t16 ⟨tv, rfl, (t16 (t8 ⟨tv, tv, tv⟩))⟩
      ·intro vs gq stq hl hf
       obtain ⟨v0, v1, v2, v3, v4, v5, v6, v7, v8, v9, v10, v11, v12, v13, v14, v15, v16, v17, v18, v19, v20, v21, v22, v23, v24, v25, rfl⟩ := len_k26 hl
       have hR14 := (show RdS (Kd.int .u8) gq 5 a14 n14 c14 l13 from hf _ (memI 2 rfl) (by as_aux_lemma => kernel_rfl))
       have hR5 := (show RdS (Kd.int .u8) gq 5 a5 l5.length c5 l5 from hf _ (memI 11 rfl) (by as_aux_lemma => kernel_rfl))
       have hR6 := (show RdS (Kd.int .u8) gq 5 a6 l6.length c6 l6 from hf _ (memI 12 rfl) (by as_aux_lemma => kernel_rfl))
       obtain rfl : v0 = AG [[.int .i64 x8], encA .u8 d7, [.int .i64 x9], [.slice a5 l5.length c5], encA .u8 d8, [.int .i64 x10], encA .u8 d9, [.slice a6 l6.length c6], [.slice a14 n14 c14]] := hf _ (memI 17 rfl) (by as_aux_lemma => kernel_rfl)
       have hcal29 := P.punish_Thing_Check gq x8 d7 x9 l5 d8 x10 d9 l6 l13 a5 l5.length c5 a6 l6.length c6 a14 n14 c14 hR5 hR6 hR14 x23 hk29
       refine WP.callC hcal29 (by kernel_rfl) ?_
       rintro _ g53 st53 rfl
       refine WP.dn (Shown.o (v := .int .i64 x23) st53.pure ?_)
       exact t16 ⟨tv, tv, rfl, (t16 (t8 ⟨tv, tv⟩))⟩
      ·intro vs gq stq hl hf
       obtain ⟨v0, v1, v2, v3, v4, v5, v6, v7, v8, v9, v10, v11, v12, v13, v14, v15, v16, v17, v18, v19, v20, v21, v22, v23, v24, v25, rfl⟩ := len_k26 hl
       have hB1 := (show Box gq (t + 1) b1 35 [[.int .i64 x1], encA .u8 d1, [.int .i64 x2], encA .u8 d2, [.slice a1 n1 c1], [.slice a14 n14 c14], [.bool q1]] [1, 8, 1, 8, 1, 1, 1] from hf _ (memI 0 rfl) (by as_aux_lemma => kernel_rfl))
       refine WP.loadB (v := AG [[.int .i64 x1], encA .u8 d1, [.int .i64 x2], encA .u8 d2, [.slice a1 n1 c1], [.slice a14 n14 c14], [.bool q1]]) hB1 (by kernel_rfl) (by as_aux_lemma => kernel_rfl) ?_
       refine WP.dn (Shown.ok (v := AG [[.int .i64 x1], encA .u8 d1, [.int .i64 x2], encA .u8 d2, [.slice a1 n1 c1], [.slice a14 n14 c14], [.bool q1]]) (by kernel_rfl) (Step.refl _ _) ?_)
       exact t16 ⟨tv, tv, tv, rfl, (t16 (t8 tv))⟩
      ·intro vs gq stq hl hf
       obtain ⟨v0, v1, v2, v3, v4, v5, v6, v7, v8, v9, v10, v11, v12, v13, v14, v15, v16, v17, v18, v19, v20, v21, v22, v23, v24, v25, rfl⟩ := len_k26 hl
       have hR1 := (show RdS (Kd.int .u8) gq 5 a1 n1 c1 l1 from hf _ (memI 1 rfl) (by as_aux_lemma => kernel_rfl))
       have hR14 := (show RdS (Kd.int .u8) gq 5 a14 n14 c14 l13 from hf _ (memI 2 rfl) (by as_aux_lemma => kernel_rfl))
       obtain rfl : v2 = AG [[.int .i64 x1], encA .u8 d1, [.int .i64 x2], encA .u8 d2, [.slice a1 n1 c1], [.slice a14 n14 c14], [.bool q1]] := hf _ (memI 19 rfl) (by as_aux_lemma => kernel_rfl)
       have hcal30 := P.baizeref34_Check gq x1 d1 x2 d2 l1 l13 q1 a1 n1 c1 a14 n14 c14 hR1 hR14 x24 hk30
       refine WP.callC hcal30 (by kernel_rfl) ?_
       rintro _ g54 st54 rfl
       refine WP.dn (Shown.o (v := .int .i64 x24) st54.pure ?_)
       exact t16 (t4 ⟨rfl, (t16 (t4 ⟨tv, tv, tv, tv⟩))⟩)
      ·intro vs gq stq hl hf
       obtain ⟨v0, v1, v2, v3, v4, v5, v6, v7, v8, v9, v10, v11, v12, v13, v14, v15, v16, v17, v18, v19, v20, v21, v22, v23, v24, v25, rfl⟩ := len_k26 hl
       obtain rfl : v1 = .int .i64 x23 := hf _ (memI 18 rfl) (by as_aux_lemma => kernel_rfl)
       obtain rfl : v3 = .int .i64 x24 := hf _ (memI 20 rfl) (by as_aux_lemma => kernel_rfl)
       refine WP.stl 1 ?_
       refine WP.dn (Shown.ok (v := .bool (x23 == x24)) (by kernel_rfl) (Step.refl _ _) ?_)
       exact t16 (t4 ⟨tv, congrArg Value.bool h14, (t16 (t4 ⟨tv, tv, tv⟩))⟩)
      ·intro vs gq stq hl hf
       obtain ⟨v0, v1, v2, v3, v4, v5, v6, v7, v8, v9, v10, v11, v12, v13, v14, v15, v16, v17, v18, v19, v20, v21, v22, v23, v24, v25, rfl⟩ := len_k26 hl
       have hB7 := (show Box gq (t + 7) b7 43 [[.int .i64 x8], encA .u8 d7, [.int .i64 x9], [.slice a5 l5.length c5], encA .u8 d8, [.int .i64 x10], encA .u8 d9, [.slice a6 l6.length c6], [.slice a14 n14 c14]] [1, 8, 1, 1, 8, 1, 8, 1, 1] from hf _ (memI 10 rfl) (by as_aux_lemma => kernel_rfl))
       obtain rfl : v4 = .bool true := hf _ (memI 21 rfl) (by as_aux_lemma => kernel_rfl)
       refine WP.loadB (v := AG [[.int .i64 x8], encA .u8 d7, [.int .i64 x9], [.slice a5 l5.length c5], encA .u8 d8, [.int .i64 x10], encA .u8 d9, [.slice a6 l6.length c6], [.slice a14 n14 c14]]) hB7 (by kernel_rfl) (by as_aux_lemma => kernel_rfl) ?_
       refine WP.dn (Shown.ok (v := AG [[.int .i64 x8], encA .u8 d7, [.int .i64 x9], [.slice a5 l5.length c5], encA .u8 d8, [.int .i64 x10], encA .u8 d9, [.slice a6 l6.length c6], [.slice a14 n14 c14]]) (by kernel_rfl) (Step.refl _ _) ?_)
       exact t16 (t4 ⟨tv, tv, rfl, (t16 (t4 ⟨tv, tv⟩))⟩)
      ·intro vs gq stq hl hf
       obtain ⟨v0, v1, v2, v3, v4, v5, v6, v7, v8, v9, v10, v11, v12, v13, v14, v15, v16, v17, v18, v19, v20, v21, v22, v23, v24, v25, rfl⟩ := len_k26 hl
       have hR14 := (show RdS (Kd.int .u8) gq 5 a14 n14 c14 l13 from hf _ (memI 2 rfl) (by as_aux_lemma => kernel_rfl))
       have hR5 := (show RdS (Kd.int .u8) gq 5 a5 l5.length c5 l5 from hf _ (memI 11 rfl) (by as_aux_lemma => kernel_rfl))
       have hR6 := (show RdS (Kd.int .u8) gq 5 a6 l6.length c6 l6 from hf _ (memI 12 rfl) (by as_aux_lemma => kernel_rfl))
       obtain rfl : v4 = .bool true := hf _ (memI 21 rfl) (by as_aux_lemma => kernel_rfl)
       obtain rfl : v5 = AG [[.int .i64 x8], encA .u8 d7, [.int .i64 x9], [.slice a5 l5.length c5], encA .u8 d8, [.int .i64 x10], encA .u8 d9, [.slice a6 l6.length c6], [.slice a14 n14 c14]] := hf _ (memI 22 rfl) (by as_aux_lemma => kernel_rfl)
       have hcal31 := P.punish_Thing_Digest gq x8 d7 x9 l5 d8 x10 d9 l6 l13 a5 l5.length c5 a6 l6.length c6 a14 n14 c14 hR5 hR6 hR14 d31 hk31
       refine WP.callC hcal31 (by kernel_rfl) ?_
       rintro _ g55 st55 rfl
       refine WP.dn (Shown.o (v := AG [encA .u8 d31]) st55.pure ?_)
       exact t16 (t4 ⟨tv, tv, tv, rfl, (t16 (t4 tv))⟩)
      ·intro vs gq stq hl hf
       obtain ⟨v0, v1, v2, v3, v4, v5, v6, v7, v8, v9, v10, v11, v12, v13, v14, v15, v16, v17, v18, v19, v20, v21, v22, v23, v24, v25, rfl⟩ := len_k26 hl
       have hB1 := (show Box gq (t + 1) b1 35 [[.int .i64 x1], encA .u8 d1, [.int .i64 x2], encA .u8 d2, [.slice a1 n1 c1], [.slice a14 n14 c14], [.bool q1]] [1, 8, 1, 8, 1, 1, 1] from hf _ (memI 0 rfl) (by as_aux_lemma => kernel_rfl))
       obtain rfl : v4 = .bool true := hf _ (memI 21 rfl) (by as_aux_lemma => kernel_rfl)
       refine WP.loadB (v := AG [[.int .i64 x1], encA .u8 d1, [.int .i64 x2], encA .u8 d2, [.slice a1 n1 c1], [.slice a14 n14 c14], [.bool q1]]) hB1 (by kernel_rfl) (by as_aux_lemma => kernel_rfl) ?_
       refine WP.dn (Shown.ok (v := AG [[.int .i64 x1], encA .u8 d1, [.int .i64 x2], encA .u8 d2, [.slice a1 n1 c1], [.slice a14 n14 c14], [.bool q1]]) (by kernel_rfl) (Step.refl _ _) ?_)
       exact t16 (t8 ⟨rfl, (t16 ⟨tv, tv, tv, tv⟩)⟩)
      ·intro vs gq stq hl hf
       obtain ⟨v0, v1, v2, v3, v4, v5, v6, v7, v8, v9, v10, v11, v12, v13, v14, v15, v16, v17, v18, v19, v20, v21, v22, v23, v24, v25, rfl⟩ := len_k26 hl
       have hR1 := (show RdS (Kd.int .u8) gq 5 a1 n1 c1 l1 from hf _ (memI 1 rfl) (by as_aux_lemma => kernel_rfl))
       have hR14 := (show RdS (Kd.int .u8) gq 5 a14 n14 c14 l13 from hf _ (memI 2 rfl) (by as_aux_lemma => kernel_rfl))
       obtain rfl : v4 = .bool true := hf _ (memI 21 rfl) (by as_aux_lemma => kernel_rfl)
       obtain rfl : v7 = AG [[.int .i64 x1], encA .u8 d1, [.int .i64 x2], encA .u8 d2, [.slice a1 n1 c1], [.slice a14 n14 c14], [.bool q1]] := hf _ (memI 24 rfl) (by as_aux_lemma => kernel_rfl)
       have hcal32 := P.baizeref34_Digest gq x1 d1 x2 d2 l1 l13 q1 a1 n1 c1 a14 n14 c14 hR1 hR14 d32 hk32
       refine WP.callC hcal32 (by kernel_rfl) ?_
       rintro _ g56 st56 rfl
       refine WP.dn (Shown.o (v := AG [encA .u8 d32]) st56.pure ?_)
       exact t16 (t8 ⟨tv, rfl, (t16 ⟨tv, tv, tv⟩)⟩)
      ·intro vs gq stq hl hf
       obtain ⟨v0, v1, v2, v3, v4, v5, v6, v7, v8, v9, v10, v11, v12, v13, v14, v15, v16, v17, v18, v19, v20, v21, v22, v23, v24, v25, rfl⟩ := len_k26 hl
       obtain rfl : v4 = .bool true := hf _ (memI 21 rfl) (by as_aux_lemma => kernel_rfl)
       obtain rfl : v6 = AG [encA .u8 d31] := hf _ (memI 23 rfl) (by as_aux_lemma => kernel_rfl)
       obtain rfl : v8 = AG [encA .u8 d32] := hf _ (memI 25 rfl) (by as_aux_lemma => kernel_rfl)
       refine WP.eqV (by kernel_rfl) (by as_aux_lemma => kernel_rfl) (EqV.arr (d := 9998) (t := 32) (e := 5) (m := 8) (k := .u8) (x := d31) (y := d32) (by kernel_rfl) (by as_aux_lemma => kernel_rfl)) ?_
       refine WP.dn (Shown.ok (v := .bool (d31.1 == d32.1)) (by kernel_rfl) (Step.refl _ _) ?_)
       exact t16 (t8 ⟨tv, tv, rfl, (t16 ⟨tv, tv⟩)⟩)
      ·intro vs gq stq hl hf
       obtain ⟨v0, v1, v2, v3, v4, v5, v6, v7, v8, v9, v10, v11, v12, v13, v14, v15, v16, v17, v18, v19, v20, v21, v22, v23, v24, v25, rfl⟩ := len_k26 hl
       obtain rfl : v4 = .bool true := hf _ (memI 21 rfl) (by as_aux_lemma => kernel_rfl)
       obtain rfl : v9 = .bool (d31.1 == d32.1) := hf _ (memI 26 rfl) (by as_aux_lemma => kernel_rfl)
       refine WP.stl 1 ?_
       refine WP.dn (Shown.ok (v := .bool (d31.1 == d32.1)) (by kernel_rfl) (Step.refl _ _) ?_)
       exact t16 (t8 ⟨tv, tv, tv, congrArg Value.bool h15, (t16 tv)⟩)
      ·intro vs gq stq hl hf
       obtain ⟨v0, v1, v2, v3, v4, v5, v6, v7, v8, v9, v10, v11, v12, v13, v14, v15, v16, v17, v18, v19, v20, v21, v22, v23, v24, v25, rfl⟩ := len_k26 hl
       have hB3 := (show Box gq (t + 3) b3 32 [encA .u8 d5] [8] from hf _ (memI 6 rfl) (by as_aux_lemma => kernel_rfl))
       obtain rfl : v10 = .bool true := hf _ (memI 27 rfl) (by as_aux_lemma => kernel_rfl)
       refine WP.loadB (v := AG [encA .u8 d5]) hB3 (by kernel_rfl) (by as_aux_lemma => kernel_rfl) ?_
       refine WP.dn (Shown.ok (v := AG [encA .u8 d5]) (by kernel_rfl) (Step.refl _ _) ?_)
       exact t16 (t8 (t4 ⟨rfl, (t8 (t4 ⟨tv, tv, tv, tv⟩))⟩))
      ·intro vs gq stq hl hf
       obtain ⟨v0, v1, v2, v3, v4, v5, v6, v7, v8, v9, v10, v11, v12, v13, v14, v15, v16, v17, v18, v19, v20, v21, v22, v23, v24, v25, rfl⟩ := len_k26 hl
       have hB17 := (show Box gq (t + 12) b9 37 [encA .u8 d23] [8] from hf _ (memI 16 rfl) (by as_aux_lemma => kernel_rfl))
       obtain rfl : v10 = .bool true := hf _ (memI 27 rfl) (by as_aux_lemma => kernel_rfl)
       refine WP.loadB (v := AG [encA .u8 d23]) hB17 (by kernel_rfl) (by as_aux_lemma => kernel_rfl) ?_
       refine WP.dn (Shown.ok (v := AG [encA .u8 d23]) (by kernel_rfl) (Step.refl _ _) ?_)
       exact t16 (t8 (t4 ⟨tv, rfl, (t8 (t4 ⟨tv, tv, tv⟩))⟩))
      ·intro vs gq stq hl hf
       obtain ⟨v0, v1, v2, v3, v4, v5, v6, v7, v8, v9, v10, v11, v12, v13, v14, v15, v16, v17, v18, v19, v20, v21, v22, v23, v24, v25, rfl⟩ := len_k26 hl
       have hB7 := (show Box gq (t + 7) b7 43 [[.int .i64 x8], encA .u8 d7, [.int .i64 x9], [.slice a5 l5.length c5], encA .u8 d8, [.int .i64 x10], encA .u8 d9, [.slice a6 l6.length c6], [.slice a14 n14 c14]] [1, 8, 1, 1, 8, 1, 8, 1, 1] from hf _ (memI 10 rfl) (by as_aux_lemma => kernel_rfl))
       obtain rfl : v10 = .bool true := hf _ (memI 27 rfl) (by as_aux_lemma => kernel_rfl)
       refine WP.loadB (v := AG [[.int .i64 x8], encA .u8 d7, [.int .i64 x9], [.slice a5 l5.length c5], encA .u8 d8, [.int .i64 x10], encA .u8 d9, [.slice a6 l6.length c6], [.slice a14 n14 c14]]) hB7 (by kernel_rfl) (by as_aux_lemma => kernel_rfl) ?_
       refine WP.dn (Shown.ok (v := AG [[.int .i64 x8], encA .u8 d7, [.int .i64 x9], [.slice a5 l5.length c5], encA .u8 d8, [.int .i64 x10], encA .u8 d9, [.slice a6 l6.length c6], [.slice a14 n14 c14]]) (by kernel_rfl) (Step.refl _ _) ?_)
       exact t16 (t8 (t4 ⟨tv, tv, rfl, (t8 (t4 ⟨tv, tv⟩))⟩))
      ·intro vs gq stq hl hf
       obtain ⟨v0, v1, v2, v3, v4, v5, v6, v7, v8, v9, v10, v11, v12, v13, v14, v15, v16, v17, v18, v19, v20, v21, v22, v23, v24, v25, rfl⟩ := len_k26 hl
       have hB8 := (show Box gq (t + 8) b8 43 [[.int .i64 x11], encA .u8 d10, [.int .i64 x12], [.slice a8 l8.length c8], encA .u8 d11, [.int .i64 x13], encA .u8 d12, [.slice a9 l9.length c9], [.slice a18 n18 c18]] [1, 8, 1, 1, 8, 1, 8, 1, 1] from hf _ (memI 13 rfl) (by as_aux_lemma => kernel_rfl))
       obtain rfl : v10 = .bool true := hf _ (memI 27 rfl) (by as_aux_lemma => kernel_rfl)
       refine WP.loadB (v := AG [[.int .i64 x11], encA .u8 d10, [.int .i64 x12], [.slice a8 l8.length c8], encA .u8 d11, [.int .i64 x13], encA .u8 d12, [.slice a9 l9.length c9], [.slice a18 n18 c18]]) hB8 (by kernel_rfl) (by as_aux_lemma => kernel_rfl) ?_
       refine WP.dn (Shown.ok (v := AG [[.int .i64 x11], encA .u8 d10, [.int .i64 x12], [.slice a8 l8.length c8], encA .u8 d11, [.int .i64 x13], encA .u8 d12, [.slice a9 l9.length c9], [.slice a18 n18 c18]]) (by kernel_rfl) (Step.refl _ _) ?_)
       exact t16 (t8 (t4 ⟨tv, tv, tv, rfl, (t8 (t4 tv))⟩))
      ·intro vs gq stq hl hf
       obtain ⟨v0, v1, v2, v3, v4, v5, v6, v7, v8, v9, v10, v11, v12, v13, v14, v15, v16, v17, v18, v19, v20, v21, v22, v23, v24, v25, rfl⟩ := len_k26 hl
       have hR14 := (show RdS (Kd.int .u8) gq 5 a14 n14 c14 l13 from hf _ (memI 2 rfl) (by as_aux_lemma => kernel_rfl))
       have hR18 := (show RdS (Kd.int .u8) gq 5 a18 n18 c18 l16 from hf _ (memI 5 rfl) (by as_aux_lemma => kernel_rfl))
       have hB5 := (show Box gq (t + 5) b5 121 [[.slice a17 n17 c17], [.map (some b6)]] [1, 1] from hf _ (memI 7 rfl) (by as_aux_lemma => kernel_rfl))
       have hR17 := (show OwnS k_S_notary_entry gq (t + 9) 126 a17 n17 c17 l15 from hf _ (memI 8 rfl) (by as_aux_lemma => kernel_rfl))
       have hB6 := (show MapB gq (t + 6) b6 kv_S_notary_entry (Value.int .i64) w2 from hf _ (memI 9 rfl) (by as_aux_lemma => kernel_rfl))
       have hR5 := (show RdS (Kd.int .u8) gq 5 a5 l5.length c5 l5 from hf _ (memI 11 rfl) (by as_aux_lemma => kernel_rfl))
       have hR6 := (show RdS (Kd.int .u8) gq 5 a6 l6.length c6 l6 from hf _ (memI 12 rfl) (by as_aux_lemma => kernel_rfl))
       have hR8 := (show RdS (Kd.int .u8) gq 5 a8 l8.length c8 l8 from hf _ (memI 14 rfl) (by as_aux_lemma => kernel_rfl))
       have hR9 := (show RdS (Kd.int .u8) gq 5 a9 l9.length c9 l9 from hf _ (memI 15 rfl) (by as_aux_lemma => kernel_rfl))
       obtain rfl : v10 = .bool true := hf _ (memI 27 rfl) (by as_aux_lemma => kernel_rfl)
       obtain rfl : v11 = AG [encA .u8 d5] := hf _ (memI 28 rfl) (by as_aux_lemma => kernel_rfl)
       obtain rfl : v12 = AG [encA .u8 d23] := hf _ (memI 29 rfl) (by as_aux_lemma => kernel_rfl)
       obtain rfl : v13 = AG [[.int .i64 x8], encA .u8 d7, [.int .i64 x9], [.slice a5 l5.length c5], encA .u8 d8, [.int .i64 x10], encA .u8 d9, [.slice a6 l6.length c6], [.slice a14 n14 c14]] := hf _ (memI 30 rfl) (by as_aux_lemma => kernel_rfl)
       obtain rfl : v14 = AG [[.int .i64 x11], encA .u8 d10, [.int .i64 x12], [.slice a8 l8.length c8], encA .u8 d11, [.int .i64 x13], encA .u8 d12, [.slice a9 l9.length c9], [.slice a18 n18 c18]] := hf _ (memI 31 rfl) (by as_aux_lemma => kernel_rfl)
       have hS5 : 0 ∉ ([(t + 9)] : List Nat) := by simp <;> omega
       have stl5 := GW.lend_step gq [(t + 9)]
       have hRl5 := hR17.lendTo hS5 (by simp)
       refine WP.regw (g' := GW.lend gq [(t + 9)]) rfl ?_
       have hcal33 := P.punish_Twice (GW.lend gq [(t + 9)]) (t + 5) (t + 6) l15 w2 d5 d23 x8 d7 x9 l5 d8 x10 d9 l6 l13 x11 d10 x12 l8 d11 x13 d12 l9 l16 a17 n17 c17 a5 l5.length c5 a6 l6.length c6 a14 n14 c14 a8 l8.length c8 a9 l9.length c9 a18 n18 c18 b5 b6 hRl5 (hR5.mono stl5 (WL.no (by simp <;> omega))) (hR6.mono stl5 (WL.no (by simp <;> omega))) (hR14.mono stl5 (WL.no (by simp <;> omega))) (hR8.mono stl5 (WL.no (by simp <;> omega))) (hR9.mono stl5 (WL.no (by simp <;> omega))) (hR18.mono stl5 (WL.no (by simp <;> omega))) (hB6.mono stl5 (WL.no (by simp <;> omega))) (hB5.mono stl5 (WL.no (by simp <;> omega))) (by omega) (by omega) (by omega) x25 hk33
       refine WP.callC hcal33 (by kernel_rfl) ?_
       rintro _ g57 st57 rfl
       have st58 := (GW.back_step st57).lentS
       have hO5 := hR17.backTo hS5 (by simp) st57 (fun x => x)
       refine WP.regw (g' := GW.back gq g57 [(t + 9)]) rfl ?_
       generalize GW.back gq g57 [(t + 9)] = g58 at *
       refine WP.dn (Shown.o (v := .int .i64 x25) st58 ?_)
       exact t16 (t16 ⟨rfl, hO5, (t8 ⟨tv, tv, tv⟩)⟩)
      ·intro vs gq stq hl hf
       obtain ⟨v0, v1, v2, v3, v4, v5, v6, v7, v8, v9, v10, v11, v12, v13, v14, v15, v16, v17, v18, v19, v20, v21, v22, v23, v24, v25, rfl⟩ := len_k26 hl
       have hB3 := (show Box gq (t + 3) b3 32 [encA .u8 d5] [8] from hf _ (memI 6 rfl) (by as_aux_lemma => kernel_rfl))
       obtain rfl : v10 = .bool true := hf _ (memI 27 rfl) (by as_aux_lemma => kernel_rfl)
       refine WP.loadB (v := AG [encA .u8 d5]) hB3 (by kernel_rfl) (by as_aux_lemma => kernel_rfl) ?_
       refine WP.dn (Shown.ok (v := AG [encA .u8 d5]) (by kernel_rfl) (Step.refl _ _) ?_)
       exact t16 (t16 ⟨tv, tv, rfl, (t8 ⟨tv, tv⟩)⟩)
      ·intro vs gq stq hl hf
       obtain ⟨v0, v1, v2, v3, v4, v5, v6, v7, v8, v9, v10, v11, v12, v13, v14, v15, v16, v17, v18, v19, v20, v21, v22, v23, v24, v25, rfl⟩ := len_k26 hl
       have hB1 := (show Box gq (t + 1) b1 35 [[.int .i64 x1], encA .u8 d1, [.int .i64 x2], encA .u8 d2, [.slice a1 n1 c1], [.slice a14 n14 c14], [.bool q1]] [1, 8, 1, 8, 1, 1, 1] from hf _ (memI 0 rfl) (by as_aux_lemma => kernel_rfl))
       obtain rfl : v10 = .bool true := hf _ (memI 27 rfl) (by as_aux_lemma => kernel_rfl)
       refine WP.loadB (v := AG [[.int .i64 x1], encA .u8 d1, [.int .i64 x2], encA .u8 d2, [.slice a1 n1 c1], [.slice a14 n14 c14], [.bool q1]]) hB1 (by kernel_rfl) (by as_aux_lemma => kernel_rfl) ?_
       refine WP.dn (Shown.ok (v := AG [[.int .i64 x1], encA .u8 d1, [.int .i64 x2], encA .u8 d2, [.slice a1 n1 c1], [.slice a14 n14 c14], [.bool q1]]) (by kernel_rfl) (Step.refl _ _) ?_)
       exact t16 (t16 ⟨tv, tv, tv, rfl, (t8 tv)⟩)
      ·intro vs gq stq hl hf
       obtain ⟨v0, v1, v2, v3, v4, v5, v6, v7, v8, v9, v10, v11, v12, v13, v14, v15, v16, v17, v18, v19, v20, v21, v22, v23, v24, v25, rfl⟩ := len_k26 hl
       have hB2 := (show Box gq (t + 2) b2 35 [[.int .i64 x3], encA .u8 d3, [.int .i64 x4], encA .u8 d4, [.slice a3 n3 c3], [.slice a18 n18 c18], [.bool q2]] [1, 8, 1, 8, 1, 1, 1] from hf _ (memI 3 rfl) (by as_aux_lemma => kernel_rfl))
       obtain rfl : v10 = .bool true := hf _ (memI 27 rfl) (by as_aux_lemma => kernel_rfl)
       refine WP.loadB (v := AG [[.int .i64 x3], encA .u8 d3, [.int .i64 x4], encA .u8 d4, [.slice a3 n3 c3], [.slice a18 n18 c18], [.bool q2]]) hB2 (by kernel_rfl) (by as_aux_lemma => kernel_rfl) ?_
       refine WP.dn (Shown.ok (v := AG [[.int .i64 x3], encA .u8 d3, [.int .i64 x4], encA .u8 d4, [.slice a3 n3 c3], [.slice a18 n18 c18], [.bool q2]]) (by kernel_rfl) (Step.refl _ _) ?_)
       exact t16 (t16 (t4 ⟨rfl, (t4 ⟨tv, tv, tv, tv⟩)⟩))
      ·intro vs gq stq hl hf
       obtain ⟨v0, v1, v2, v3, v4, v5, v6, v7, v8, v9, v10, v11, v12, v13, v14, v15, v16, v17, v18, v19, v20, v21, v22, v23, v24, v25, rfl⟩ := len_k26 hl
       have hR1 := (show RdS (Kd.int .u8) gq 5 a1 n1 c1 l1 from hf _ (memI 1 rfl) (by as_aux_lemma => kernel_rfl))
       have hR14 := (show RdS (Kd.int .u8) gq 5 a14 n14 c14 l13 from hf _ (memI 2 rfl) (by as_aux_lemma => kernel_rfl))
       have hR3 := (show RdS (Kd.int .u8) gq 5 a3 n3 c3 l3 from hf _ (memI 4 rfl) (by as_aux_lemma => kernel_rfl))
       have hR18 := (show RdS (Kd.int .u8) gq 5 a18 n18 c18 l16 from hf _ (memI 5 rfl) (by as_aux_lemma => kernel_rfl))
       obtain rfl : v10 = .bool true := hf _ (memI 27 rfl) (by as_aux_lemma => kernel_rfl)
       obtain rfl : v16 = AG [encA .u8 d5] := hf _ (memI 34 rfl) (by as_aux_lemma => kernel_rfl)
       obtain rfl : v17 = AG [[.int .i64 x1], encA .u8 d1, [.int .i64 x2], encA .u8 d2, [.slice a1 n1 c1], [.slice a14 n14 c14], [.bool q1]] := hf _ (memI 35 rfl) (by as_aux_lemma => kernel_rfl)
       obtain rfl : v18 = AG [[.int .i64 x3], encA .u8 d3, [.int .i64 x4], encA .u8 d4, [.slice a3 n3 c3], [.slice a18 n18 c18], [.bool q2]] := hf _ (memI 36 rfl) (by as_aux_lemma => kernel_rfl)
       have hcal34 := P.baizeref34_Twice gq d5 x1 d1 x2 d2 l1 l13 q1 x3 d3 x4 d4 l3 l16 q2 q8 a1 n1 c1 a14 n14 c14 a3 n3 c3 a18 n18 c18 hR1 hR14 hR3 hR18 x26 hk34
       refine WP.callC hcal34 (by kernel_rfl) ?_
       rintro _ g59 st59 rfl
       refine WP.dn (Shown.o (v := .int .i64 x26) st59.pure ?_)
       exact t16 (t16 (t4 ⟨tv, rfl, (t4 ⟨tv, tv, tv⟩)⟩))
      ·intro vs gq stq hl hf
       obtain ⟨v0, v1, v2, v3, v4, v5, v6, v7, v8, v9, v10, v11, v12, v13, v14, v15, v16, v17, v18, v19, v20, v21, v22, v23, v24, v25, rfl⟩ := len_k26 hl
       obtain rfl : v10 = .bool true := hf _ (memI 27 rfl) (by as_aux_lemma => kernel_rfl)
       obtain rfl : v15 = .int .i64 x25 := hf _ (memI 32 rfl) (by as_aux_lemma => kernel_rfl)
       obtain rfl : v19 = .int .i64 x26 := hf _ (memI 37 rfl) (by as_aux_lemma => kernel_rfl)
       refine WP.stl 1 ?_
       refine WP.dn (Shown.ok (v := .bool (x25 == x26)) (by kernel_rfl) (Step.refl _ _) ?_)
       exact t16 (t16 (t4 ⟨tv, tv, congrArg Value.bool h16, (t4 ⟨tv, tv⟩)⟩))
      ·intro vs gq stq hl hf
       obtain ⟨v0, v1, v2, v3, v4, v5, v6, v7, v8, v9, v10, v11, v12, v13, v14, v15, v16, v17, v18, v19, v20, v21, v22, v23, v24, v25, rfl⟩ := len_k26 hl
       have hB3 := (show Box gq (t + 3) b3 32 [encA .u8 d5] [8] from hf _ (memI 6 rfl) (by as_aux_lemma => kernel_rfl))
       obtain rfl : v20 = .bool true := hf _ (memI 38 rfl) (by as_aux_lemma => kernel_rfl)
       refine WP.loadB (v := AG [encA .u8 d5]) hB3 (by kernel_rfl) (by as_aux_lemma => kernel_rfl) ?_
       refine WP.dn (Shown.ok (v := AG [encA .u8 d5]) (by kernel_rfl) (Step.refl _ _) ?_)
       exact t16 (t16 (t4 ⟨tv, tv, tv, rfl, (t4 tv)⟩))
      ·intro vs gq stq hl hf
       obtain ⟨v0, v1, v2, v3, v4, v5, v6, v7, v8, v9, v10, v11, v12, v13, v14, v15, v16, v17, v18, v19, v20, v21, v22, v23, v24, v25, rfl⟩ := len_k26 hl
       have hB17 := (show Box gq (t + 12) b9 37 [encA .u8 d23] [8] from hf _ (memI 16 rfl) (by as_aux_lemma => kernel_rfl))
       obtain rfl : v20 = .bool true := hf _ (memI 38 rfl) (by as_aux_lemma => kernel_rfl)
       refine WP.loadB (v := AG [encA .u8 d23]) hB17 (by kernel_rfl) (by as_aux_lemma => kernel_rfl) ?_
       refine WP.dn (Shown.ok (v := AG [encA .u8 d23]) (by kernel_rfl) (Step.refl _ _) ?_)
       exact t16 (t16 (t8 ⟨rfl, tv, tv, tv, tv⟩))
      ·intro vs gq stq hl hf
       obtain ⟨v0, v1, v2, v3, v4, v5, v6, v7, v8, v9, v10, v11, v12, v13, v14, v15, v16, v17, v18, v19, v20, v21, v22, v23, v24, v25, rfl⟩ := len_k26 hl
       have hB7 := (show Box gq (t + 7) b7 43 [[.int .i64 x8], encA .u8 d7, [.int .i64 x9], [.slice a5 l5.length c5], encA .u8 d8, [.int .i64 x10], encA .u8 d9, [.slice a6 l6.length c6], [.slice a14 n14 c14]] [1, 8, 1, 1, 8, 1, 8, 1, 1] from hf _ (memI 10 rfl) (by as_aux_lemma => kernel_rfl))
       obtain rfl : v20 = .bool true := hf _ (memI 38 rfl) (by as_aux_lemma => kernel_rfl)
       refine WP.loadB (v := AG [[.int .i64 x8], encA .u8 d7, [.int .i64 x9], [.slice a5 l5.length c5], encA .u8 d8, [.int .i64 x10], encA .u8 d9, [.slice a6 l6.length c6], [.slice a14 n14 c14]]) hB7 (by kernel_rfl) (by as_aux_lemma => kernel_rfl) ?_
       refine WP.dn (Shown.ok (v := AG [[.int .i64 x8], encA .u8 d7, [.int .i64 x9], [.slice a5 l5.length c5], encA .u8 d8, [.int .i64 x10], encA .u8 d9, [.slice a6 l6.length c6], [.slice a14 n14 c14]]) (by kernel_rfl) (Step.refl _ _) ?_)
       exact t16 (t16 (t8 ⟨tv, rfl, tv, tv, tv⟩))
      ·intro vs gq stq hl hf
       obtain ⟨v0, v1, v2, v3, v4, v5, v6, v7, v8, v9, v10, v11, v12, v13, v14, v15, v16, v17, v18, v19, v20, v21, v22, v23, v24, v25, rfl⟩ := len_k26 hl
       have hB8 := (show Box gq (t + 8) b8 43 [[.int .i64 x11], encA .u8 d10, [.int .i64 x12], [.slice a8 l8.length c8], encA .u8 d11, [.int .i64 x13], encA .u8 d12, [.slice a9 l9.length c9], [.slice a18 n18 c18]] [1, 8, 1, 1, 8, 1, 8, 1, 1] from hf _ (memI 13 rfl) (by as_aux_lemma => kernel_rfl))
       obtain rfl : v20 = .bool true := hf _ (memI 38 rfl) (by as_aux_lemma => kernel_rfl)
       refine WP.loadB (v := AG [[.int .i64 x11], encA .u8 d10, [.int .i64 x12], [.slice a8 l8.length c8], encA .u8 d11, [.int .i64 x13], encA .u8 d12, [.slice a9 l9.length c9], [.slice a18 n18 c18]]) hB8 (by kernel_rfl) (by as_aux_lemma => kernel_rfl) ?_
       refine WP.dn (Shown.ok (v := AG [[.int .i64 x11], encA .u8 d10, [.int .i64 x12], [.slice a8 l8.length c8], encA .u8 d11, [.int .i64 x13], encA .u8 d12, [.slice a9 l9.length c9], [.slice a18 n18 c18]]) (by kernel_rfl) (Step.refl _ _) ?_)
       exact t16 (t16 (t8 ⟨tv, tv, rfl, tv, tv⟩))
      ·intro vs gq stq hl hf
       obtain ⟨v0, v1, v2, v3, v4, v5, v6, v7, v8, v9, v10, v11, v12, v13, v14, v15, v16, v17, v18, v19, v20, v21, v22, v23, v24, v25, rfl⟩ := len_k26 hl
       have hR14 := (show RdS (Kd.int .u8) gq 5 a14 n14 c14 l13 from hf _ (memI 2 rfl) (by as_aux_lemma => kernel_rfl))
       have hR18 := (show RdS (Kd.int .u8) gq 5 a18 n18 c18 l16 from hf _ (memI 5 rfl) (by as_aux_lemma => kernel_rfl))
       have hR5 := (show RdS (Kd.int .u8) gq 5 a5 l5.length c5 l5 from hf _ (memI 11 rfl) (by as_aux_lemma => kernel_rfl))
       have hR6 := (show RdS (Kd.int .u8) gq 5 a6 l6.length c6 l6 from hf _ (memI 12 rfl) (by as_aux_lemma => kernel_rfl))
       have hR8 := (show RdS (Kd.int .u8) gq 5 a8 l8.length c8 l8 from hf _ (memI 14 rfl) (by as_aux_lemma => kernel_rfl))
       have hR9 := (show RdS (Kd.int .u8) gq 5 a9 l9.length c9 l9 from hf _ (memI 15 rfl) (by as_aux_lemma => kernel_rfl))
       obtain rfl : v20 = .bool true := hf _ (memI 38 rfl) (by as_aux_lemma => kernel_rfl)
       obtain rfl : v21 = AG [encA .u8 d5] := hf _ (memI 39 rfl) (by as_aux_lemma => kernel_rfl)
       obtain rfl : v22 = AG [encA .u8 d23] := hf _ (memI 40 rfl) (by as_aux_lemma => kernel_rfl)
       obtain rfl : v23 = AG [[.int .i64 x8], encA .u8 d7, [.int .i64 x9], [.slice a5 l5.length c5], encA .u8 d8, [.int .i64 x10], encA .u8 d9, [.slice a6 l6.length c6], [.slice a14 n14 c14]] := hf _ (memI 41 rfl) (by as_aux_lemma => kernel_rfl)
       obtain rfl : v24 = AG [[.int .i64 x11], encA .u8 d10, [.int .i64 x12], [.slice a8 l8.length c8], encA .u8 d11, [.int .i64 x13], encA .u8 d12, [.slice a9 l9.length c9], [.slice a18 n18 c18]] := hf _ (memI 42 rfl) (by as_aux_lemma => kernel_rfl)
       have hcal35 := P.punish_Twice_2 gq d5 d23 x8 d7 x9 l5 d8 x10 d9 l6 l13 x11 d10 x12 l8 d11 x13 d12 l9 l16 a5 l5.length c5 a6 l6.length c6 a14 n14 c14 a8 l8.length c8 a9 l9.length c9 a18 n18 c18 hR5 hR6 hR14 hR8 hR9 hR18 x27 hk35
       refine WP.callC hcal35 (by kernel_rfl) ?_
       rintro _ g60 st60 rfl
       refine WP.dn (Shown.o (v := .int .i64 x27) st60.pure ?_)
       exact t16 (t16 (t8 ⟨tv, tv, tv, rfl, tv⟩))
     intro vs g61 st61 hl hf
     obtain ⟨v0, v1, v2, v3, v4, v5, v6, v7, v8, v9, v10, v11, v12, v13, v14, v15, v16, v17, v18, v19, v20, v21, v22, v23, v24, v25, rfl⟩ := len_k26 hl
     obtain rfl : v20 = .bool true := hf _ (memI 38 rfl) (by as_aux_lemma => kernel_rfl)
     obtain rfl : v25 = .int .i64 x27 := hf _ (memI 43 rfl) (by as_aux_lemma => kernel_rfl)
     replace tot := tot.trans (st61.up1 (.inr (by omega)))
     refine NX.post ?_
     exact ⟨(x27 == 1), ⟨by kernel_rfl, by kernel_rfl⟩, tot, hs⟩
    replace hs := of_if_f hs h16
    refine CP.drawL (by as_aux_lemma => kernel_rfl) [0, 1, 2, 3, 5, 6, 7, 8, 9, 10, 12, 15, 16, 17, 18, 19, 20, 21, 22, 24, 27] N.baizelaw34_PunishTells_2 [⟨none, [], [], fun l g => Box g (t + 1) b1 35 [[.int .i64 x1], encA .u8 d1, [.int .i64 x2], encA .u8 d2, [.slice a1 n1 c1], [.slice a14 n14 c14], [.bool q1]] [1, 8, 1, 8, 1, 1, 1]⟩, ⟨none, [], [], fun l g => RdS (Kd.int .u8) g 5 a1 n1 c1 l1⟩, ⟨none, [], [], fun l g => RdS (Kd.int .u8) g 5 a14 n14 c14 l13⟩, ⟨none, [], [], fun l g => Box g (t + 2) b2 35 [[.int .i64 x3], encA .u8 d3, [.int .i64 x4], encA .u8 d4, [.slice a3 n3 c3], [.slice a18 n18 c18], [.bool q2]] [1, 8, 1, 8, 1, 1, 1]⟩, ⟨none, [], [], fun l g => RdS (Kd.int .u8) g 5 a3 n3 c3 l3⟩, ⟨none, [], [], fun l g => RdS (Kd.int .u8) g 5 a18 n18 c18 l16⟩, ⟨none, [], [], fun l g => Box g (t + 3) b3 32 [encA .u8 d5] [8]⟩, ⟨none, [], [], fun l g => Box g (t + 5) b5 121 [[.slice a17 n17 c17], [.map (some b6)]] [1, 1]⟩, ⟨none, [0], [], fun l g => OwnS k_S_notary_entry g (t + 9) 126 a17 n17 c17 l15⟩, ⟨none, [], [], fun l g => MapB g (t + 6) b6 kv_S_notary_entry (Value.int .i64) w2⟩, ⟨none, [], [], fun l g => Box g (t + 7) b7 43 [[.int .i64 x8], encA .u8 d7, [.int .i64 x9], [.slice a5 l5.length c5], encA .u8 d8, [.int .i64 x10], encA .u8 d9, [.slice a6 l6.length c6], [.slice a14 n14 c14]] [1, 8, 1, 1, 8, 1, 8, 1, 1]⟩, ⟨none, [], [], fun l g => RdS (Kd.int .u8) g 5 a5 l5.length c5 l5⟩, ⟨none, [], [], fun l g => RdS (Kd.int .u8) g 5 a6 l6.length c6 l6⟩, ⟨none, [], [], fun l g => Box g (t + 8) b8 43 [[.int .i64 x11], encA .u8 d10, [.int .i64 x12], [.slice a8 l8.length c8], encA .u8 d11, [.int .i64 x13], encA .u8 d12, [.slice a9 l9.length c9], [.slice a18 n18 c18]] [1, 8, 1, 1, 8, 1, 8, 1, 1]⟩, ⟨none, [], [], fun l g => RdS (Kd.int .u8) g 5 a8 l8.length c8 l8⟩, ⟨none, [], [], fun l g => RdS (Kd.int .u8) g 5 a9 l9.length c9 l9⟩, ⟨none, [], [], fun l g => Box g (t + 12) b9 37 [encA .u8 d23] [8]⟩, ⟨some 0, [], [0], fun l g => l.getD 0 undef = AG [[.int .i64 x8], encA .u8 d7, [.int .i64 x9], [.slice a5 l5.length c5], encA .u8 d8, [.int .i64 x10], encA .u8 d9, [.slice a6 l6.length c6], [.slice a14 n14 c14]]⟩, ⟨some 1, [], [1], fun l g => l.getD 0 undef = .int .i64 x23⟩, ⟨some 2, [], [2], fun l g => l.getD 0 undef = AG [[.int .i64 x1], encA .u8 d1, [.int .i64 x2], encA .u8 d2, [.slice a1 n1 c1], [.slice a14 n14 c14], [.bool q1]]⟩, ⟨some 3, [], [3], fun l g => l.getD 0 undef = .int .i64 x24⟩, ⟨some 4, [], [4], fun l g => l.getD 0 undef = .bool true⟩, ⟨some 5, [], [5], fun l g => l.getD 0 undef = AG [[.int .i64 x8], encA .u8 d7, [.int .i64 x9], [.slice a5 l5.length c5], encA .u8 d8, [.int .i64 x10], encA .u8 d9, [.slice a6 l6.length c6], [.slice a14 n14 c14]]⟩, ⟨some 6, [], [6], fun l g => l.getD 0 undef = AG [encA .u8 d31]⟩, ⟨some 7, [], [7], fun l g => l.getD 0 undef = AG [[.int .i64 x1], encA .u8 d1, [.int .i64 x2], encA .u8 d2, [.slice a1 n1 c1], [.slice a14 n14 c14], [.bool q1]]⟩, ⟨some 8, [], [8], fun l g => l.getD 0 undef = AG [encA .u8 d32]⟩, ⟨some 9, [], [9], fun l g => l.getD 0 undef = .bool (d31.1 == d32.1)⟩, ⟨some 10, [], [10], fun l g => l.getD 0 undef = .bool true⟩, ⟨some 11, [], [11], fun l g => l.getD 0 undef = AG [encA .u8 d5]⟩, ⟨some 12, [], [12], fun l g => l.getD 0 undef = AG [encA .u8 d23]⟩, ⟨some 13, [], [13], fun l g => l.getD 0 undef = AG [[.int .i64 x8], encA .u8 d7, [.int .i64 x9], [.slice a5 l5.length c5], encA .u8 d8, [.int .i64 x10], encA .u8 d9, [.slice a6 l6.length c6], [.slice a14 n14 c14]]⟩, ⟨some 14, [], [14], fun l g => l.getD 0 undef = AG [[.int .i64 x11], encA .u8 d10, [.int .i64 x12], [.slice a8 l8.length c8], encA .u8 d11, [.int .i64 x13], encA .u8 d12, [.slice a9 l9.length c9], [.slice a18 n18 c18]]⟩, ⟨some 15, [], [15], fun l g => l.getD 0 undef = .int .i64 x25⟩, ⟨some 15, [0], [], fun l g => OwnS k_S_notary_entry g (t + 9) 126 a17 n17 c17 l15⟩, ⟨some 16, [], [16], fun l g => l.getD 0 undef = AG [encA .u8 d5]⟩, ⟨some 17, [], [17], fun l g => l.getD 0 undef = AG [[.int .i64 x1], encA .u8 d1, [.int .i64 x2], encA .u8 d2, [.slice a1 n1 c1], [.slice a14 n14 c14], [.bool q1]]⟩, ⟨some 18, [], [18], fun l g => l.getD 0 undef = AG [[.int .i64 x3], encA .u8 d3, [.int .i64 x4], encA .u8 d4, [.slice a3 n3 c3], [.slice a18 n18 c18], [.bool q2]]⟩, ⟨some 19, [], [19], fun l g => l.getD 0 undef = .int .i64 x26⟩, ⟨some 20, [], [20], fun l g => l.getD 0 undef = .bool false⟩] [[], [], [], [], [], [], [], [], [], [], [], [], [], [], [], [0], [], [], [], [], []] [(t + 9)] [] [4, 11, 13, 14, 23, 25, 26, 28, 29, 30, 31, 32, 33, 34, 35] (by as_aux_lemma => kernel_rfl) (by simp <;> omega) (by simp) ⟨fun _ _ _ _ st h0 hl hj hB1 => (hB1.mono st (fun h => absurd (hl _ h) (by simp <;> omega))), fun _ _ _ _ st h0 hl hj hR1 => (RdS.mono (e := 5) hR1 st h0), fun _ _ _ _ st h0 hl hj hR14 => (RdS.mono (e := 5) hR14 st h0), fun _ _ _ _ st h0 hl hj hB2 => (hB2.mono st (fun h => absurd (hl _ h) (by simp <;> omega))), fun _ _ _ _ st h0 hl hj hR3 => (RdS.mono (e := 5) hR3 st h0), fun _ _ _ _ st h0 hl hj hR18 => (RdS.mono (e := 5) hR18 st h0), fun _ _ _ _ st h0 hl hj hB3 => (hB3.mono st (fun h => absurd (hl _ h) (by simp <;> omega))), fun _ _ _ _ st h0 hl hj hB5 => (hB5.mono st (fun h => absurd (hl _ h) (by simp <;> omega))), fun _ _ _ _ st h0 hl hj hR17 => (hR17.mono st h0 (hj 0 (by simp) _ rfl)), fun _ _ _ _ st h0 hl hj hB6 => (hB6.mono st (fun h => absurd (hl _ h) (by simp <;> omega))), fun _ _ _ _ st h0 hl hj hB7 => (hB7.mono st (fun h => absurd (hl _ h) (by simp <;> omega))), fun _ _ _ _ st h0 hl hj hR5 => (RdS.mono (e := 5) hR5 st h0), fun _ _ _ _ st h0 hl hj hR6 => (RdS.mono (e := 5) hR6 st h0), fun _ _ _ _ st h0 hl hj hB8 => (hB8.mono st (fun h => absurd (hl _ h) (by simp <;> omega))), fun _ _ _ _ st h0 hl hj hR8 => (RdS.mono (e := 5) hR8 st h0), fun _ _ _ _ st h0 hl hj hR9 => (RdS.mono (e := 5) hR9 st h0), fun _ _ _ _ st h0 hl hj hB17 => (hB17.mono st (fun h => absurd (hl _ h) (by simp <;> omega))), fun _ _ _ _ st h0 hl hj e0 => e0, fun _ _ _ _ st h0 hl hj e1 => e1, fun _ _ _ _ st h0 hl hj e2 => e2, fun _ _ _ _ st h0 hl hj e3 => e3, fun _ _ _ _ st h0 hl hj e4 => e4, fun _ _ _ _ st h0 hl hj e5 => e5, fun _ _ _ _ st h0 hl hj e6 => e6, fun _ _ _ _ st h0 hl hj e7 => e7, fun _ _ _ _ st h0 hl hj e8 => e8, fun _ _ _ _ st h0 hl hj e9 => e9, fun _ _ _ _ st h0 hl hj e10 => e10, fun _ _ _ _ st h0 hl hj e11 => e11, fun _ _ _ _ st h0 hl hj e12 => e12, fun _ _ _ _ st h0 hl hj e13 => e13, fun _ _ _ _ st h0 hl hj e14 => e14, fun _ _ _ _ st h0 hl hj e15 => e15, fun _ _ _ _ st h0 hl hj hR17 => (hR17.mono st h0 (hj 0 (by simp) _ rfl)), fun _ _ _ _ st h0 hl hj e16 => e16, fun _ _ _ _ st h0 hl hj e17 => e17, fun _ _ _ _ st h0 hl hj e18 => e18, fun _ _ _ _ st h0 hl hj e19 => e19, fun _ _ _ _ st h0 hl hj e20 => e20, tv⟩ ⟨hB1, hR1, hR14, hB2, hR3, hR18, hB3, hB5, hR17, hB6, hB7, hR5, hR6, hB8, hR8, hR9, hB17, tv, tv, tv, tv, tv, tv, tv, tv, tv, tv, tv, tv, tv, tv, tv, tv, tv, tv, tv, tv, tv, tv, tv⟩ (by as_aux_lemma => kernel_rfl) (fun vs => by as_aux_lemma => kernel_rfl) ?_ ?_ ?_
    ·intro j hj
     have hq : j = 0 ∨ j = 1 ∨ j = 2 ∨ j = 3 ∨ j = 4 ∨ j = 5 ∨ j = 6 ∨ j = 7 ∨ j = 8 ∨ j = 9 ∨ j = 10 ∨ j = 11 ∨ j = 12 ∨ j = 13 ∨ j = 14 := by have h : j < 15 := hj; omega
     rcases hq with rfl | rfl | rfl | rfl | rfl | rfl | rfl | rfl | rfl | rfl | rfl | rfl | rfl | rfl | rfl
     ·intro vs gq stq hl hf
      obtain ⟨v0, v1, v2, v3, v4, v5, v6, v7, v8, v9, v10, v11, v12, v13, v14, v15, v16, v17, v18, v19, v20, rfl⟩ := len_k21 hl
      obtain rfl : v1 = .int .i64 x23 := hf _ (memI 18 rfl) (by as_aux_lemma => kernel_rfl)
      obtain rfl : v3 = .int .i64 x24 := hf _ (memI 20 rfl) (by as_aux_lemma => kernel_rfl)
      show Option.isSome _ = true
      as_aux_lemma => kernel_rfl
     ·intro vs gq stq hl hf
      obtain ⟨v0, v1, v2, v3, v4, v5, v6, v7, v8, v9, v10, v11, v12, v13, v14, v15, v16, v17, v18, v19, v20, rfl⟩ := len_k21 hl
      obtain rfl : v4 = .bool true := hf _ (memI 21 rfl) (by as_aux_lemma => kernel_rfl)
      obtain rfl : v9 = .bool (d31.1 == d32.1) := hf _ (memI 26 rfl) (by as_aux_lemma => kernel_rfl)
      show Option.isSome _ = true
      as_aux_lemma => kernel_rfl
     ·intro vs gq stq hl hf
      obtain ⟨v0, v1, v2, v3, v4, v5, v6, v7, v8, v9, v10, v11, v12, v13, v14, v15, v16, v17, v18, v19, v20, rfl⟩ := len_k21 hl
      obtain rfl : v10 = .bool true := hf _ (memI 27 rfl) (by as_aux_lemma => kernel_rfl)
      show Option.isSome _ = true
      as_aux_lemma => kernel_rfl
     ·intro vs gq stq hl hf
      obtain ⟨v0, v1, v2, v3, v4, v5, v6, v7, v8, v9, v10, v11, v12, v13, v14, v15, v16, v17, v18, v19, v20, rfl⟩ := len_k21 hl
      obtain rfl : v10 = .bool true := hf _ (memI 27 rfl) (by as_aux_lemma => kernel_rfl)
      show Option.isSome _ = true
      as_aux_lemma => kernel_rfl
     ·intro vs gq stq hl hf
      obtain ⟨v0, v1, v2, v3, v4, v5, v6, v7, v8, v9, v10, v11, v12, v13, v14, v15, v16, v17, v18, v19, v20, rfl⟩ := len_k21 hl
      obtain rfl : v10 = .bool true := hf _ (memI 27 rfl) (by as_aux_lemma => kernel_rfl)
      show Option.isSome _ = true
      as_aux_lemma => kernel_rfl
     ·intro vs gq stq hl hf
      obtain ⟨v0, v1, v2, v3, v4, v5, v6, v7, v8, v9, v10, v11, v12, v13, v14, v15, v16, v17, v18, v19, v20, rfl⟩ := len_k21 hl
      obtain rfl : v10 = .bool true := hf _ (memI 27 rfl) (by as_aux_lemma => kernel_rfl)
      obtain rfl : v15 = .int .i64 x25 := hf _ (memI 32 rfl) (by as_aux_lemma => kernel_rfl)
      obtain rfl : v19 = .int .i64 x26 := hf _ (memI 37 rfl) (by as_aux_lemma => kernel_rfl)
      show Option.isSome _ = true
      as_aux_lemma => kernel_rfl
     ·intro vs gq stq hl hf
      obtain ⟨v0, v1, v2, v3, v4, v5, v6, v7, v8, v9, v10, v11, v12, v13, v14, v15, v16, v17, v18, v19, v20, rfl⟩ := len_k21 hl
      obtain rfl : v10 = .bool true := hf _ (memI 27 rfl) (by as_aux_lemma => kernel_rfl)
      obtain rfl : v15 = .int .i64 x25 := hf _ (memI 32 rfl) (by as_aux_lemma => kernel_rfl)
      obtain rfl : v19 = .int .i64 x26 := hf _ (memI 37 rfl) (by as_aux_lemma => kernel_rfl)
      show Option.isSome _ = true
      as_aux_lemma => kernel_rfl
     ·intro vs gq stq hl hf
      obtain ⟨v0, v1, v2, v3, v4, v5, v6, v7, v8, v9, v10, v11, v12, v13, v14, v15, v16, v17, v18, v19, v20, rfl⟩ := len_k21 hl
      obtain rfl : v20 = .bool false := hf _ (memI 38 rfl) (by as_aux_lemma => kernel_rfl)
      show Option.isSome _ = true
      as_aux_lemma => kernel_rfl
     ·intro vs gq stq hl hf
      obtain ⟨v0, v1, v2, v3, v4, v5, v6, v7, v8, v9, v10, v11, v12, v13, v14, v15, v16, v17, v18, v19, v20, rfl⟩ := len_k21 hl
      obtain rfl : v20 = .bool false := hf _ (memI 38 rfl) (by as_aux_lemma => kernel_rfl)
      show Option.isSome _ = true
      as_aux_lemma => kernel_rfl
     ·intro vs gq stq hl hf
      obtain ⟨v0, v1, v2, v3, v4, v5, v6, v7, v8, v9, v10, v11, v12, v13, v14, v15, v16, v17, v18, v19, v20, rfl⟩ := len_k21 hl
      obtain rfl : v20 = .bool false := hf _ (memI 38 rfl) (by as_aux_lemma => kernel_rfl)
      show Option.isSome _ = true
      as_aux_lemma => kernel_rfl
     ·intro vs gq stq hl hf
      obtain ⟨v0, v1, v2, v3, v4, v5, v6, v7, v8, v9, v10, v11, v12, v13, v14, v15, v16, v17, v18, v19, v20, rfl⟩ := len_k21 hl
      obtain rfl : v20 = .bool false := hf _ (memI 38 rfl) (by as_aux_lemma => kernel_rfl)
      show Option.isSome _ = true
      as_aux_lemma => kernel_rfl
     ·intro vs gq stq hl hf
      obtain ⟨v0, v1, v2, v3, v4, v5, v6, v7, v8, v9, v10, v11, v12, v13, v14, v15, v16, v17, v18, v19, v20, rfl⟩ := len_k21 hl
      obtain rfl : v20 = .bool false := hf _ (memI 38 rfl) (by as_aux_lemma => kernel_rfl)
      show Option.isSome _ = true
      as_aux_lemma => kernel_rfl
     ·intro vs gq stq hl hf
      obtain ⟨v0, v1, v2, v3, v4, v5, v6, v7, v8, v9, v10, v11, v12, v13, v14, v15, v16, v17, v18, v19, v20, rfl⟩ := len_k21 hl
      obtain rfl : v20 = .bool false := hf _ (memI 38 rfl) (by as_aux_lemma => kernel_rfl)
      show Option.isSome _ = true
      as_aux_lemma => kernel_rfl
     ·intro vs gq stq hl hf
      obtain ⟨v0, v1, v2, v3, v4, v5, v6, v7, v8, v9, v10, v11, v12, v13, v14, v15, v16, v17, v18, v19, v20, rfl⟩ := len_k21 hl
      obtain rfl : v20 = .bool false := hf _ (memI 38 rfl) (by as_aux_lemma => kernel_rfl)
      show Option.isSome _ = true
      as_aux_lemma => kernel_rfl
     ·intro vs gq stq hl hf
      obtain ⟨v0, v1, v2, v3, v4, v5, v6, v7, v8, v9, v10, v11, v12, v13, v14, v15, v16, v17, v18, v19, v20, rfl⟩ := len_k21 hl
      obtain rfl : v20 = .bool false := hf _ (memI 38 rfl) (by as_aux_lemma => kernel_rfl)
      show Option.isSome _ = true
      as_aux_lemma => kernel_rfl
    ·intro j hj
     have hq : j = 0 ∨ j = 1 ∨ j = 2 ∨ j = 3 ∨ j = 4 ∨ j = 5 ∨ j = 6 ∨ j = 7 ∨ j = 8 ∨ j = 9 ∨ j = 10 ∨ j = 11 ∨ j = 12 ∨ j = 13 ∨ j = 14 ∨ j = 15 ∨ j = 16 ∨ j = 17 ∨ j = 18 ∨ j = 19 ∨ j = 20 := by have h : j < 21 := hj; omega
     rcases hq with rfl | rfl | rfl | rfl | rfl | rfl | rfl | rfl | rfl | rfl | rfl | rfl | rfl | rfl | rfl | rfl | rfl | rfl | rfl | rfl | rfl
     ·intro vs gq stq hl hf
      obtain ⟨v0, v1, v2, v3, v4, v5, v6, v7, v8, v9, v10, v11, v12, v13, v14, v15, v16, v17, v18, v19, v20, rfl⟩ := len_k21 hl
      have hB7 := (show Box gq (t + 7) b7 43 [[.int .i64 x8], encA .u8 d7, [.int .i64 x9], [.slice a5 l5.length c5], encA .u8 d8, [.int .i64 x10], encA .u8 d9, [.slice a6 l6.length c6], [.slice a14 n14 c14]] [1, 8, 1, 1, 8, 1, 8, 1, 1] from hf _ (memI 10 rfl) (by as_aux_lemma => kernel_rfl))
      refine WP.loadB (v := AG [[.int .i64 x8], encA .u8 d7, [.int .i64 x9], [.slice a5 l5.length c5], encA .u8 d8, [.int .i64 x10], encA .u8 d9, [.slice a6 l6.length c6], [.slice a14 n14 c14]]) hB7 (by kernel_rfl) (by as_aux_lemma => kernel_rfl) ?_
      refine WP.dn (Shown.ok (v := AG [[.int .i64 x8], encA .u8 d7, [.int .i64 x9], [.slice a5 l5.length c5], encA .u8 d8, [.int .i64 x10], encA .u8 d9, [.slice a6 l6.length c6], [.slice a14 n14 c14]]) (by kernel_rfl) (Step.refl _ _) ?_)
      exact t16 ⟨tv, rfl, (t16 (t4 ⟨tv, tv⟩))⟩
     ·intro vs gq stq hl hf
      obtain ⟨v0, v1, v2, v3, v4, v5, v6, v7, v8, v9, v10, v11, v12, v13, v14, v15, v16, v17, v18, v19, v20, rfl⟩ := len_k21 hl
      have hR14 := (show RdS (Kd.int .u8) gq 5 a14 n14 c14 l13 from hf _ (memI 2 rfl) (by as_aux_lemma => kernel_rfl))
      have hR5 := (show RdS (Kd.int .u8) gq 5 a5 l5.length c5 l5 from hf _ (memI 11 rfl) (by as_aux_lemma => kernel_rfl))
      have hR6 := (show RdS (Kd.int .u8) gq 5 a6 l6.length c6 l6 from hf _ (memI 12 rfl) (by as_aux_lemma => kernel_rfl))
      obtain rfl : v0 = AG [[.int .i64 x8], encA .u8 d7, [.int .i64 x9], [.slice a5 l5.length c5], encA .u8 d8, [.int .i64 x10], encA .u8 d9, [.slice a6 l6.length c6], [.slice a14 n14 c14]] := hf _ (memI 17 rfl) (by as_aux_lemma => kernel_rfl)
      have hcal29 := P.punish_Thing_Check gq x8 d7 x9 l5 d8 x10 d9 l6 l13 a5 l5.length c5 a6 l6.length c6 a14 n14 c14 hR5 hR6 hR14 x23 hk29
      refine WP.callC hcal29 (by kernel_rfl) ?_
      rintro _ g53 st53 rfl
      refine WP.dn (Shown.o (v := .int .i64 x23) st53.pure ?_)
      exact t16 ⟨tv, tv, rfl, (t16 (t4 tv))⟩
     ·intro vs gq stq hl hf
      obtain ⟨v0, v1, v2, v3, v4, v5, v6, v7, v8, v9, v10, v11, v12, v13, v14, v15, v16, v17, v18, v19, v20, rfl⟩ := len_k21 hl
      have hB1 := (show Box gq (t + 1) b1 35 [[.int .i64 x1], encA .u8 d1, [.int .i64 x2], encA .u8 d2, [.slice a1 n1 c1], [.slice a14 n14 c14], [.bool q1]] [1, 8, 1, 8, 1, 1, 1] from hf _ (memI 0 rfl) (by as_aux_lemma => kernel_rfl))
      refine WP.loadB (v := AG [[.int .i64 x1], encA .u8 d1, [.int .i64 x2], encA .u8 d2, [.slice a1 n1 c1], [.slice a14 n14 c14], [.bool q1]]) hB1 (by kernel_rfl) (by as_aux_lemma => kernel_rfl) ?_
      refine WP.dn (Shown.ok (v := AG [[.int .i64 x1], encA .u8 d1, [.int .i64 x2], encA .u8 d2, [.slice a1 n1 c1], [.slice a14 n14 c14], [.bool q1]]) (by kernel_rfl) (Step.refl _ _) ?_)
      exact t16 ⟨tv, tv, tv, rfl, (t16 ⟨tv, tv, tv, tv⟩)⟩
     ·intro vs gq stq hl hf
      obtain ⟨v0, v1, v2, v3, v4, v5, v6, v7, v8, v9, v10, v11, v12, v13, v14, v15, v16, v17, v18, v19, v20, rfl⟩ := len_k21 hl
      have hR1 := (show RdS (Kd.int .u8) gq 5 a1 n1 c1 l1 from hf _ (memI 1 rfl) (by as_aux_lemma => kernel_rfl))
      have hR14 := (show RdS (Kd.int .u8) gq 5 a14 n14 c14 l13 from hf _ (memI 2 rfl) (by as_aux_lemma => kernel_rfl))
      obtain rfl : v2 = AG [[.int .i64 x1], encA .u8 d1, [.int .i64 x2], encA .u8 d2, [.slice a1 n1 c1], [.slice a14 n14 c14], [.bool q1]] := hf _ (memI 19 rfl) (by as_aux_lemma => kernel_rfl)
      have hcal30 := P.baizeref34_Check gq x1 d1 x2 d2 l1 l13 q1 a1 n1 c1 a14 n14 c14 hR1 hR14 x24 hk30
      refine WP.callC hcal30 (by kernel_rfl) ?_
      rintro _ g54 st54 rfl
      refine WP.dn (Shown.o (v := .int .i64 x24) st54.pure ?_)
      exact t16 (t4 ⟨rfl, (t16 ⟨tv, tv, tv⟩)⟩)
     ·intro vs gq stq hl hf
      obtain ⟨v0, v1, v2, v3, v4, v5, v6, v7, v8, v9, v10, v11, v12, v13, v14, v15, v16, v17, v18, v19, v20, rfl⟩ := len_k21 hl
      obtain rfl : v1 = .int .i64 x23 := hf _ (memI 18 rfl) (by as_aux_lemma => kernel_rfl)
      obtain rfl : v3 = .int .i64 x24 := hf _ (memI 20 rfl) (by as_aux_lemma => kernel_rfl)
      refine WP.stl 1 ?_
      refine WP.dn (Shown.ok (v := .bool (x23 == x24)) (by kernel_rfl) (Step.refl _ _) ?_)
      exact t16 (t4 ⟨tv, congrArg Value.bool h14, (t16 ⟨tv, tv⟩)⟩)
     ·intro vs gq stq hl hf
      obtain ⟨v0, v1, v2, v3, v4, v5, v6, v7, v8, v9, v10, v11, v12, v13, v14, v15, v16, v17, v18, v19, v20, rfl⟩ := len_k21 hl
      have hB7 := (show Box gq (t + 7) b7 43 [[.int .i64 x8], encA .u8 d7, [.int .i64 x9], [.slice a5 l5.length c5], encA .u8 d8, [.int .i64 x10], encA .u8 d9, [.slice a6 l6.length c6], [.slice a14 n14 c14]] [1, 8, 1, 1, 8, 1, 8, 1, 1] from hf _ (memI 10 rfl) (by as_aux_lemma => kernel_rfl))
      obtain rfl : v4 = .bool true := hf _ (memI 21 rfl) (by as_aux_lemma => kernel_rfl)
      refine WP.loadB (v := AG [[.int .i64 x8], encA .u8 d7, [.int .i64 x9], [.slice a5 l5.length c5], encA .u8 d8, [.int .i64 x10], encA .u8 d9, [.slice a6 l6.length c6], [.slice a14 n14 c14]]) hB7 (by kernel_rfl) (by as_aux_lemma => kernel_rfl) ?_
      refine WP.dn (Shown.ok (v := AG [[.int .i64 x8], encA .u8 d7, [.int .i64 x9], [.slice a5 l5.length c5], encA .u8 d8, [.int .i64 x10], encA .u8 d9, [.slice a6 l6.length c6], [.slice a14 n14 c14]]) (by kernel_rfl) (Step.refl _ _) ?_)
      exact t16 (t4 ⟨tv, tv, rfl, (t16 tv)⟩)
     ·intro vs gq stq hl hf
      obtain ⟨v0, v1, v2, v3, v4, v5, v6, v7, v8, v9, v10, v11, v12, v13, v14, v15, v16, v17, v18, v19, v20, rfl⟩ := len_k21 hl
      have hR14 := (show RdS (Kd.int .u8) gq 5 a14 n14 c14 l13 from hf _ (memI 2 rfl) (by as_aux_lemma => kernel_rfl))
      have hR5 := (show RdS (Kd.int .u8) gq 5 a5 l5.length c5 l5 from hf _ (memI 11 rfl) (by as_aux_lemma => kernel_rfl))
      have hR6 := (show RdS (Kd.int .u8) gq 5 a6 l6.length c6 l6 from hf _ (memI 12 rfl) (by as_aux_lemma => kernel_rfl))
      obtain rfl : v4 = .bool true := hf _ (memI 21 rfl) (by as_aux_lemma => kernel_rfl)
      obtain rfl : v5 = AG [[.int .i64 x8], encA .u8 d7, [.int .i64 x9], [.slice a5 l5.length c5], encA .u8 d8, [.int .i64 x10], encA .u8 d9, [.slice a6 l6.length c6], [.slice a14 n14 c14]] := hf _ (memI 22 rfl) (by as_aux_lemma => kernel_rfl)
      have hcal31 := P.punish_Thing_Digest gq x8 d7 x9 l5 d8 x10 d9 l6 l13 a5 l5.length c5 a6 l6.length c6 a14 n14 c14 hR5 hR6 hR14 d31 hk31
      refine WP.callC hcal31 (by kernel_rfl) ?_
      rintro _ g55 st55 rfl
      refine WP.dn (Shown.o (v := AG [encA .u8 d31]) st55.pure ?_)
      exact t16 (t4 ⟨tv, tv, tv, rfl, (t8 (t4 ⟨tv, tv, tv, tv⟩))⟩)
     ·intro vs gq stq hl hf
      obtain ⟨v0, v1, v2, v3, v4, v5, v6, v7, v8, v9, v10, v11, v12, v13, v14, v15, v16, v17, v18, v19, v20, rfl⟩ := len_k21 hl
      have hB1 := (show Box gq (t + 1) b1 35 [[.int .i64 x1], encA .u8 d1, [.int .i64 x2], encA .u8 d2, [.slice a1 n1 c1], [.slice a14 n14 c14], [.bool q1]] [1, 8, 1, 8, 1, 1, 1] from hf _ (memI 0 rfl) (by as_aux_lemma => kernel_rfl))
      obtain rfl : v4 = .bool true := hf _ (memI 21 rfl) (by as_aux_lemma => kernel_rfl)
      refine WP.loadB (v := AG [[.int .i64 x1], encA .u8 d1, [.int .i64 x2], encA .u8 d2, [.slice a1 n1 c1], [.slice a14 n14 c14], [.bool q1]]) hB1 (by kernel_rfl) (by as_aux_lemma => kernel_rfl) ?_
      refine WP.dn (Shown.ok (v := AG [[.int .i64 x1], encA .u8 d1, [.int .i64 x2], encA .u8 d2, [.slice a1 n1 c1], [.slice a14 n14 c14], [.bool q1]]) (by kernel_rfl) (Step.refl _ _) ?_)
      exact t16 (t8 ⟨rfl, (t8 (t4 ⟨tv, tv, tv⟩))⟩)
     ·intro vs gq stq hl hf
      obtain ⟨v0, v1, v2, v3, v4, v5, v6, v7, v8, v9, v10, v11, v12, v13, v14, v15, v16, v17, v18, v19, v20, rfl⟩ := len_k21 hl
      have hR1 := (show RdS (Kd.int .u8) gq 5 a1 n1 c1 l1 from hf _ (memI 1 rfl) (by as_aux_lemma => kernel_rfl))
      have hR14 := (show RdS (Kd.int .u8) gq 5 a14 n14 c14 l13 from hf _ (memI 2 rfl) (by as_aux_lemma => kernel_rfl))
      obtain rfl : v4 = .bool true := hf _ (memI 21 rfl) (by as_aux_lemma => kernel_rfl)
      obtain rfl : v7 = AG [[.int .i64 x1], encA .u8 d1, [.int .i64 x2], encA .u8 d2, [.slice a1 n1 c1], [.slice a14 n14 c14], [.bool q1]] := hf _ (memI 24 rfl) (by as_aux_lemma => kernel_rfl)
      have hcal32 := P.baizeref34_Digest gq x1 d1 x2 d2 l1 l13 q1 a1 n1 c1 a14 n14 c14 hR1 hR14 d32 hk32
      refine WP.callC hcal32 (by kernel_rfl) ?_
      rintro _ g56 st56 rfl
      refine WP.dn (Shown.o (v := AG [encA .u8 d32]) st56.pure ?_)
      exact t16 (t8 ⟨tv, rfl, (t8 (t4 ⟨tv, tv⟩))⟩)
     ·intro vs gq stq hl hf
      obtain ⟨v0, v1, v2, v3, v4, v5, v6, v7, v8, v9, v10, v11, v12, v13, v14, v15, v16, v17, v18, v19, v20, rfl⟩ := len_k21 hl
      obtain rfl : v4 = .bool true := hf _ (memI 21 rfl) (by as_aux_lemma => kernel_rfl)
      obtain rfl : v6 = AG [encA .u8 d31] := hf _ (memI 23 rfl) (by as_aux_lemma => kernel_rfl)
      obtain rfl : v8 = AG [encA .u8 d32] := hf _ (memI 25 rfl) (by as_aux_lemma => kernel_rfl)
      refine WP.eqV (by kernel_rfl) (by as_aux_lemma => kernel_rfl) (EqV.arr (d := 9998) (t := 32) (e := 5) (m := 8) (k := .u8) (x := d31) (y := d32) (by kernel_rfl) (by as_aux_lemma => kernel_rfl)) ?_
      refine WP.dn (Shown.ok (v := .bool (d31.1 == d32.1)) (by kernel_rfl) (Step.refl _ _) ?_)
      exact t16 (t8 ⟨tv, tv, rfl, (t8 (t4 tv))⟩)
     ·intro vs gq stq hl hf
      obtain ⟨v0, v1, v2, v3, v4, v5, v6, v7, v8, v9, v10, v11, v12, v13, v14, v15, v16, v17, v18, v19, v20, rfl⟩ := len_k21 hl
      obtain rfl : v4 = .bool true := hf _ (memI 21 rfl) (by as_aux_lemma => kernel_rfl)
      obtain rfl : v9 = .bool (d31.1 == d32.1) := hf _ (memI 26 rfl) (by as_aux_lemma => kernel_rfl)
      refine WP.stl 1 ?_
      refine WP.dn (Shown.ok (v := .bool (d31.1 == d32.1)) (by kernel_rfl) (Step.refl _ _) ?_)
      exact t16 (t8 ⟨tv, tv, tv, congrArg Value.bool h15, (t8 ⟨tv, tv, tv, tv⟩)⟩)
     ·intro vs gq stq hl hf
      obtain ⟨v0, v1, v2, v3, v4, v5, v6, v7, v8, v9, v10, v11, v12, v13, v14, v15, v16, v17, v18, v19, v20, rfl⟩ := len_k21 hl
      have hB3 := (show Box gq (t + 3) b3 32 [encA .u8 d5] [8] from hf _ (memI 6 rfl) (by as_aux_lemma => kernel_rfl))
      obtain rfl : v10 = .bool true := hf _ (memI 27 rfl) (by as_aux_lemma => kernel_rfl)
      refine WP.loadB (v := AG [encA .u8 d5]) hB3 (by kernel_rfl) (by as_aux_lemma => kernel_rfl) ?_
      refine WP.dn (Shown.ok (v := AG [encA .u8 d5]) (by kernel_rfl) (Step.refl _ _) ?_)
      exact t16 (t8 (t4 ⟨rfl, (t8 ⟨tv, tv, tv⟩)⟩))
     ·intro vs gq stq hl hf
      obtain ⟨v0, v1, v2, v3, v4, v5, v6, v7, v8, v9, v10, v11, v12, v13, v14, v15, v16, v17, v18, v19, v20, rfl⟩ := len_k21 hl
      have hB17 := (show Box gq (t + 12) b9 37 [encA .u8 d23] [8] from hf _ (memI 16 rfl) (by as_aux_lemma => kernel_rfl))
      obtain rfl : v10 = .bool true := hf _ (memI 27 rfl) (by as_aux_lemma => kernel_rfl)
      refine WP.loadB (v := AG [encA .u8 d23]) hB17 (by kernel_rfl) (by as_aux_lemma => kernel_rfl) ?_
      refine WP.dn (Shown.ok (v := AG [encA .u8 d23]) (by kernel_rfl) (Step.refl _ _) ?_)
      exact t16 (t8 (t4 ⟨tv, rfl, (t8 ⟨tv, tv⟩)⟩))
     ·intro vs gq stq hl hf
      obtain ⟨v0, v1, v2, v3, v4, v5, v6, v7, v8, v9, v10, v11, v12, v13, v14, v15, v16, v17, v18, v19, v20, rfl⟩ := len_k21 hl
      have hB7 := (show Box gq (t + 7) b7 43 [[.int .i64 x8], encA .u8 d7, [.int .i64 x9], [.slice a5 l5.length c5], encA .u8 d8, [.int .i64 x10], encA .u8 d9, [.slice a6 l6.length c6], [.slice a14 n14 c14]] [1, 8, 1, 1, 8, 1, 8, 1, 1] from hf _ (memI 10 rfl) (by as_aux_lemma => kernel_rfl))
      obtain rfl : v10 = .bool true := hf _ (memI 27 rfl) (by as_aux_lemma => kernel_rfl)
      refine WP.loadB (v := AG [[.int .i64 x8], encA .u8 d7, [.int .i64 x9], [.slice a5 l5.length c5], encA .u8 d8, [.int .i64 x10], encA .u8 d9, [.slice a6 l6.length c6], [.slice a14 n14 c14]]) hB7 (by kernel_rfl) (by as_aux_lemma => kernel_rfl) ?_
      refine WP.dn (Shown.ok (v := AG [[.int .i64 x8], encA .u8 d7, [.int .i64 x9], [.slice a5 l5.length c5], encA .u8 d8, [.int .i64 x10], encA .u8 d9, [.slice a6 l6.length c6], [.slice a14 n14 c14]]) (by kernel_rfl) (Step.refl _ _) ?_)
      exact t16 (t8 (t4 ⟨tv, tv, rfl, (t8 tv)⟩))
     ·intro vs gq stq hl hf
      obtain ⟨v0, v1, v2, v3, v4, v5, v6, v7, v8, v9, v10, v11, v12, v13, v14, v15, v16, v17, v18, v19, v20, rfl⟩ := len_k21 hl
      have hB8 := (show Box gq (t + 8) b8 43 [[.int .i64 x11], encA .u8 d10, [.int .i64 x12], [.slice a8 l8.length c8], encA .u8 d11, [.int .i64 x13], encA .u8 d12, [.slice a9 l9.length c9], [.slice a18 n18 c18]] [1, 8, 1, 1, 8, 1, 8, 1, 1] from hf _ (memI 13 rfl) (by as_aux_lemma => kernel_rfl))
      obtain rfl : v10 = .bool true := hf _ (memI 27 rfl) (by as_aux_lemma => kernel_rfl)
      refine WP.loadB (v := AG [[.int .i64 x11], encA .u8 d10, [.int .i64 x12], [.slice a8 l8.length c8], encA .u8 d11, [.int .i64 x13], encA .u8 d12, [.slice a9 l9.length c9], [.slice a18 n18 c18]]) hB8 (by kernel_rfl) (by as_aux_lemma => kernel_rfl) ?_
      refine WP.dn (Shown.ok (v := AG [[.int .i64 x11], encA .u8 d10, [.int .i64 x12], [.slice a8 l8.length c8], encA .u8 d11, [.int .i64 x13], encA .u8 d12, [.slice a9 l9.length c9], [.slice a18 n18 c18]]) (by kernel_rfl) (Step.refl _ _) ?_)
      exact t16 (t8 (t4 ⟨tv, tv, tv, rfl, (t4 ⟨tv, tv, tv, tv⟩)⟩))
     ·intro vs gq stq hl hf
      obtain ⟨v0, v1, v2, v3, v4, v5, v6, v7, v8, v9, v10, v11, v12, v13, v14, v15, v16, v17, v18, v19, v20, rfl⟩ := len_k21 hl
      have hR14 := (show RdS (Kd.int .u8) gq 5 a14 n14 c14 l13 from hf _ (memI 2 rfl) (by as_aux_lemma => kernel_rfl))
      have hR18 := (show RdS (Kd.int .u8) gq 5 a18 n18 c18 l16 from hf _ (memI 5 rfl) (by as_aux_lemma => kernel_rfl))
      have hB5 := (show Box gq (t + 5) b5 121 [[.slice a17 n17 c17], [.map (some b6)]] [1, 1] from hf _ (memI 7 rfl) (by as_aux_lemma => kernel_rfl))
      have hR17 := (show OwnS k_S_notary_entry gq (t + 9) 126 a17 n17 c17 l15 from hf _ (memI 8 rfl) (by as_aux_lemma => kernel_rfl))
      have hB6 := (show MapB gq (t + 6) b6 kv_S_notary_entry (Value.int .i64) w2 from hf _ (memI 9 rfl) (by as_aux_lemma => kernel_rfl))
      have hR5 := (show RdS (Kd.int .u8) gq 5 a5 l5.length c5 l5 from hf _ (memI 11 rfl) (by as_aux_lemma => kernel_rfl))
      have hR6 := (show RdS (Kd.int .u8) gq 5 a6 l6.length c6 l6 from hf _ (memI 12 rfl) (by as_aux_lemma => kernel_rfl))
      have hR8 := (show RdS (Kd.int .u8) gq 5 a8 l8.length c8 l8 from hf _ (memI 14 rfl) (by as_aux_lemma => kernel_rfl))
      have hR9 := (show RdS (Kd.int .u8) gq 5 a9 l9.length c9 l9 from hf _ (memI 15 rfl) (by as_aux_lemma => kernel_rfl))
      obtain rfl : v10 = .bool true := hf _ (memI 27 rfl) (by as_aux_lemma => kernel_rfl)
      obtain rfl : v11 = AG [encA .u8 d5] := hf _ (memI 28 rfl) (by as_aux_lemma => kernel_rfl)
      obtain rfl : v12 = AG [encA .u8 d23] := hf _ (memI 29 rfl) (by as_aux_lemma => kernel_rfl)
      obtain rfl : v13 = AG [[.int .i64 x8], encA .u8 d7, [.int .i64 x9], [.slice a5 l5.length c5], encA .u8 d8, [.int .i64 x10], encA .u8 d9, [.slice a6 l6.length c6], [.slice a14 n14 c14]] := hf _ (memI 30 rfl) (by as_aux_lemma => kernel_rfl)
      obtain rfl : v14 = AG [[.int .i64 x11], encA .u8 d10, [.int .i64 x12], [.slice a8 l8.length c8], encA .u8 d11, [.int .i64 x13], encA .u8 d12, [.slice a9 l9.length c9], [.slice a18 n18 c18]] := hf _ (memI 31 rfl) (by as_aux_lemma => kernel_rfl)
      have hS5 : 0 ∉ ([(t + 9)] : List Nat) := by simp <;> omega
      have stl5 := GW.lend_step gq [(t + 9)]
      have hRl5 := hR17.lendTo hS5 (by simp)
      refine WP.regw (g' := GW.lend gq [(t + 9)]) rfl ?_
      have hcal33 := P.punish_Twice (GW.lend gq [(t + 9)]) (t + 5) (t + 6) l15 w2 d5 d23 x8 d7 x9 l5 d8 x10 d9 l6 l13 x11 d10 x12 l8 d11 x13 d12 l9 l16 a17 n17 c17 a5 l5.length c5 a6 l6.length c6 a14 n14 c14 a8 l8.length c8 a9 l9.length c9 a18 n18 c18 b5 b6 hRl5 (hR5.mono stl5 (WL.no (by simp <;> omega))) (hR6.mono stl5 (WL.no (by simp <;> omega))) (hR14.mono stl5 (WL.no (by simp <;> omega))) (hR8.mono stl5 (WL.no (by simp <;> omega))) (hR9.mono stl5 (WL.no (by simp <;> omega))) (hR18.mono stl5 (WL.no (by simp <;> omega))) (hB6.mono stl5 (WL.no (by simp <;> omega))) (hB5.mono stl5 (WL.no (by simp <;> omega))) (by omega) (by omega) (by omega) x25 hk33
      refine WP.callC hcal33 (by kernel_rfl) ?_
      rintro _ g57 st57 rfl
      have st58 := (GW.back_step st57).lentS
      have hO5 := hR17.backTo hS5 (by simp) st57 (fun x => x)
      refine WP.regw (g' := GW.back gq g57 [(t + 9)]) rfl ?_
      generalize GW.back gq g57 [(t + 9)] = g58 at *
      refine WP.dn (Shown.o (v := .int .i64 x25) st58 ?_)
      exact t16 (t16 ⟨rfl, hO5, (t4 ⟨tv, tv⟩)⟩)
     ·intro vs gq stq hl hf
      obtain ⟨v0, v1, v2, v3, v4, v5, v6, v7, v8, v9, v10, v11, v12, v13, v14, v15, v16, v17, v18, v19, v20, rfl⟩ := len_k21 hl
      have hB3 := (show Box gq (t + 3) b3 32 [encA .u8 d5] [8] from hf _ (memI 6 rfl) (by as_aux_lemma => kernel_rfl))
      obtain rfl : v10 = .bool true := hf _ (memI 27 rfl) (by as_aux_lemma => kernel_rfl)
      refine WP.loadB (v := AG [encA .u8 d5]) hB3 (by kernel_rfl) (by as_aux_lemma => kernel_rfl) ?_
      refine WP.dn (Shown.ok (v := AG [encA .u8 d5]) (by kernel_rfl) (Step.refl _ _) ?_)
      exact t16 (t16 ⟨tv, tv, rfl, (t4 tv)⟩)
     ·intro vs gq stq hl hf
      obtain ⟨v0, v1, v2, v3, v4, v5, v6, v7, v8, v9, v10, v11, v12, v13, v14, v15, v16, v17, v18, v19, v20, rfl⟩ := len_k21 hl
      have hB1 := (show Box gq (t + 1) b1 35 [[.int .i64 x1], encA .u8 d1, [.int .i64 x2], encA .u8 d2, [.slice a1 n1 c1], [.slice a14 n14 c14], [.bool q1]] [1, 8, 1, 8, 1, 1, 1] from hf _ (memI 0 rfl) (by as_aux_lemma => kernel_rfl))
      obtain rfl : v10 = .bool true := hf _ (memI 27 rfl) (by as_aux_lemma => kernel_rfl)
      refine WP.loadB (v := AG [[.int .i64 x1], encA .u8 d1, [.int .i64 x2], encA .u8 d2, [.slice a1 n1 c1], [.slice a14 n14 c14], [.bool q1]]) hB1 (by kernel_rfl) (by as_aux_lemma => kernel_rfl) ?_
      refine WP.dn (Shown.ok (v := AG [[.int .i64 x1], encA .u8 d1, [.int .i64 x2], encA .u8 d2, [.slice a1 n1 c1], [.slice a14 n14 c14], [.bool q1]]) (by kernel_rfl) (Step.refl _ _) ?_)
      exact t16 (t16 ⟨tv, tv, tv, rfl, tv, tv, tv, tv⟩)
     ·intro vs gq stq hl hf
      obtain ⟨v0, v1, v2, v3, v4, v5, v6, v7, v8, v9, v10, v11, v12, v13, v14, v15, v16, v17, v18, v19, v20, rfl⟩ := len_k21 hl
      have hB2 := (show Box gq (t + 2) b2 35 [[.int .i64 x3], encA .u8 d3, [.int .i64 x4], encA .u8 d4, [.slice a3 n3 c3], [.slice a18 n18 c18], [.bool q2]] [1, 8, 1, 8, 1, 1, 1] from hf _ (memI 3 rfl) (by as_aux_lemma => kernel_rfl))
      obtain rfl : v10 = .bool true := hf _ (memI 27 rfl) (by as_aux_lemma => kernel_rfl)
      refine WP.loadB (v := AG [[.int .i64 x3], encA .u8 d3, [.int .i64 x4], encA .u8 d4, [.slice a3 n3 c3], [.slice a18 n18 c18], [.bool q2]]) hB2 (by kernel_rfl) (by as_aux_lemma => kernel_rfl) ?_
      refine WP.dn (Shown.ok (v := AG [[.int .i64 x3], encA .u8 d3, [.int .i64 x4], encA .u8 d4, [.slice a3 n3 c3], [.slice a18 n18 c18], [.bool q2]]) (by kernel_rfl) (Step.refl _ _) ?_)
      exact t16 (t16 (t4 ⟨rfl, tv, tv, tv⟩))
     ·intro vs gq stq hl hf
      obtain ⟨v0, v1, v2, v3, v4, v5, v6, v7, v8, v9, v10, v11, v12, v13, v14, v15, v16, v17, v18, v19, v20, rfl⟩ := len_k21 hl
      have hR1 := (show RdS (Kd.int .u8) gq 5 a1 n1 c1 l1 from hf _ (memI 1 rfl) (by as_aux_lemma => kernel_rfl))
      have hR14 := (show RdS (Kd.int .u8) gq 5 a14 n14 c14 l13 from hf _ (memI 2 rfl) (by as_aux_lemma => kernel_rfl))
      have hR3 := (show RdS (Kd.int .u8) gq 5 a3 n3 c3 l3 from hf _ (memI 4 rfl) (by as_aux_lemma => kernel_rfl))
      have hR18 := (show RdS (Kd.int .u8) gq 5 a18 n18 c18 l16 from hf _ (memI 5 rfl) (by as_aux_lemma => kernel_rfl))
      obtain rfl : v10 = .bool true := hf _ (memI 27 rfl) (by as_aux_lemma => kernel_rfl)
      obtain rfl : v16 = AG [encA .u8 d5] := hf _ (memI 34 rfl) (by as_aux_lemma => kernel_rfl)
      obtain rfl : v17 = AG [[.int .i64 x1], encA .u8 d1, [.int .i64 x2], encA .u8 d2, [.slice a1 n1 c1], [.slice a14 n14 c14], [.bool q1]] := hf _ (memI 35 rfl) (by as_aux_lemma => kernel_rfl)
      obtain rfl : v18 = AG [[.int .i64 x3], encA .u8 d3, [.int .i64 x4], encA .u8 d4, [.slice a3 n3 c3], [.slice a18 n18 c18], [.bool q2]] := hf _ (memI 36 rfl) (by as_aux_lemma => kernel_rfl)
      have hcal34 := P.baizeref34_Twice gq d5 x1 d1 x2 d2 l1 l13 q1 x3 d3 x4 d4 l3 l16 q2 q8 a1 n1 c1 a14 n14 c14 a3 n3 c3 a18 n18 c18 hR1 hR14 hR3 hR18 x26 hk34
      refine WP.callC hcal34 (by kernel_rfl) ?_
      rintro _ g59 st59 rfl
      refine WP.dn (Shown.o (v := .int .i64 x26) st59.pure ?_)
      exact t16 (t16 (t4 ⟨tv, rfl, tv, tv⟩))
     ·intro vs gq stq hl hf
      obtain ⟨v0, v1, v2, v3, v4, v5, v6, v7, v8, v9, v10, v11, v12, v13, v14, v15, v16, v17, v18, v19, v20, rfl⟩ := len_k21 hl
      obtain rfl : v10 = .bool true := hf _ (memI 27 rfl) (by as_aux_lemma => kernel_rfl)
      obtain rfl : v15 = .int .i64 x25 := hf _ (memI 32 rfl) (by as_aux_lemma => kernel_rfl)
      obtain rfl : v19 = .int .i64 x26 := hf _ (memI 37 rfl) (by as_aux_lemma => kernel_rfl)
      refine WP.stl 1 ?_
      refine WP.dn (Shown.ok (v := .bool (x25 == x26)) (by kernel_rfl) (Step.refl _ _) ?_)
      exact t16 (t16 (t4 ⟨tv, tv, congrArg Value.bool h16, tv⟩))
    intro vs g62 st62 hl hf
    obtain ⟨v0, v1, v2, v3, v4, v5, v6, v7, v8, v9, v10, v11, v12, v13, v14, v15, v16, v17, v18, v19, v20, rfl⟩ := len_k21 hl
    obtain rfl : v20 = .bool false := hf _ (memI 38 rfl) (by as_aux_lemma => kernel_rfl)
    replace tot := tot.trans (st62.up1 (.inr (by omega)))
    refine NX.post ?_
    exact ⟨false, ⟨by kernel_rfl, by kernel_rfl⟩, tot, hs⟩
   replace hs := of_if_f hs h15
   refine CP.drawL (by as_aux_lemma => kernel_rfl) [0, 1, 2, 3, 5, 6, 7, 8, 9, 10, 12] N.baizelaw34_PunishTells_2 [⟨none, [], [], fun l g => Box g (t + 1) b1 35 [[.int .i64 x1], encA .u8 d1, [.int .i64 x2], encA .u8 d2, [.slice a1 n1 c1], [.slice a14 n14 c14], [.bool q1]] [1, 8, 1, 8, 1, 1, 1]⟩, ⟨none, [], [], fun l g => RdS (Kd.int .u8) g 5 a1 n1 c1 l1⟩, ⟨none, [], [], fun l g => RdS (Kd.int .u8) g 5 a14 n14 c14 l13⟩, ⟨none, [], [], fun l g => Box g (t + 7) b7 43 [[.int .i64 x8], encA .u8 d7, [.int .i64 x9], [.slice a5 l5.length c5], encA .u8 d8, [.int .i64 x10], encA .u8 d9, [.slice a6 l6.length c6], [.slice a14 n14 c14]] [1, 8, 1, 1, 8, 1, 8, 1, 1]⟩, ⟨none, [], [], fun l g => RdS (Kd.int .u8) g 5 a5 l5.length c5 l5⟩, ⟨none, [], [], fun l g => RdS (Kd.int .u8) g 5 a6 l6.length c6 l6⟩, ⟨some 0, [], [0], fun l g => l.getD 0 undef = AG [[.int .i64 x8], encA .u8 d7, [.int .i64 x9], [.slice a5 l5.length c5], encA .u8 d8, [.int .i64 x10], encA .u8 d9, [.slice a6 l6.length c6], [.slice a14 n14 c14]]⟩, ⟨some 1, [], [1], fun l g => l.getD 0 undef = .int .i64 x23⟩, ⟨some 2, [], [2], fun l g => l.getD 0 undef = AG [[.int .i64 x1], encA .u8 d1, [.int .i64 x2], encA .u8 d2, [.slice a1 n1 c1], [.slice a14 n14 c14], [.bool q1]]⟩, ⟨some 3, [], [3], fun l g => l.getD 0 undef = .int .i64 x24⟩, ⟨some 4, [], [4], fun l g => l.getD 0 undef = .bool true⟩, ⟨some 5, [], [5], fun l g => l.getD 0 undef = AG [[.int .i64 x8], encA .u8 d7, [.int .i64 x9], [.slice a5 l5.length c5], encA .u8 d8, [.int .i64 x10], encA .u8 d9, [.slice a6 l6.length c6], [.slice a14 n14 c14]]⟩, ⟨some 6, [], [6], fun l g => l.getD 0 undef = AG [encA .u8 d31]⟩, ⟨some 7, [], [7], fun l g => l.getD 0 undef = AG [[.int .i64 x1], encA .u8 d1, [.int .i64 x2], encA .u8 d2, [.slice a1 n1 c1], [.slice a14 n14 c14], [.bool q1]]⟩, ⟨some 8, [], [8], fun l g => l.getD 0 undef = AG [encA .u8 d32]⟩, ⟨some 9, [], [9], fun l g => l.getD 0 undef = .bool (d31.1 == d32.1)⟩, ⟨some 10, [], [10], fun l g => l.getD 0 undef = .bool false⟩] [[], [], [], [], [], [], [], [], [], [], []] [] [] [4, 11, 13, 14, 15, 16, 17, 18, 19, 20, 21, 22, 23, 24, 25, 26, 27, 28, 29, 30, 31, 32, 33, 34, 35] (by as_aux_lemma => kernel_rfl) (by simp) (by simp) ⟨fun _ _ _ _ st h0 hl hj hB1 => (hB1.mono st (fun h => absurd (hl _ h) (by simp))), fun _ _ _ _ st h0 hl hj hR1 => (RdS.mono (e := 5) hR1 st h0), fun _ _ _ _ st h0 hl hj hR14 => (RdS.mono (e := 5) hR14 st h0), fun _ _ _ _ st h0 hl hj hB7 => (hB7.mono st (fun h => absurd (hl _ h) (by simp))), fun _ _ _ _ st h0 hl hj hR5 => (RdS.mono (e := 5) hR5 st h0), fun _ _ _ _ st h0 hl hj hR6 => (RdS.mono (e := 5) hR6 st h0), fun _ _ _ _ st h0 hl hj e0 => e0, fun _ _ _ _ st h0 hl hj e1 => e1, fun _ _ _ _ st h0 hl hj e2 => e2, fun _ _ _ _ st h0 hl hj e3 => e3, fun _ _ _ _ st h0 hl hj e4 => e4, fun _ _ _ _ st h0 hl hj e5 => e5, fun _ _ _ _ st h0 hl hj e6 => e6, fun _ _ _ _ st h0 hl hj e7 => e7, fun _ _ _ _ st h0 hl hj e8 => e8, fun _ _ _ _ st h0 hl hj e9 => e9, fun _ _ _ _ st h0 hl hj e10 => e10, tv⟩ ⟨hB1, hR1, hR14, hB7, hR5, hR6, tv, tv, tv, tv, tv, tv, tv, tv, tv, tv, tv, tv⟩ (by as_aux_lemma => kernel_rfl) (fun vs => by as_aux_lemma => kernel_rfl) ?_ ?_ ?_
   ·intro j hj
    have hq : j = 0 ∨ j = 1 ∨ j = 2 ∨ j = 3 ∨ j = 4 ∨ j = 5 ∨ j = 6 ∨ j = 7 ∨ j = 8 ∨ j = 9 ∨ j = 10 ∨ j = 11 ∨ j = 12 ∨ j = 13 ∨ j = 14 ∨ j = 15 ∨ j = 16 ∨ j = 17 ∨ j = 18 ∨ j = 19 ∨ j = 20 ∨ j = 21 ∨ j = 22 ∨ j = 23 ∨ j = 24 := by have h : j < 25 := hj; omega
    rcases hq with rfl | rfl | rfl | rfl | rfl | rfl | rfl | rfl | rfl | rfl | rfl | rfl | rfl | rfl | rfl | rfl | rfl | rfl | rfl | rfl | rfl | rfl | rfl | rfl | rfl
    ·intro vs gq stq hl hf
     obtain ⟨v0, v1, v2, v3, v4, v5, v6, v7, v8, v9, v10, rfl⟩ := len_k11 hl
     obtain rfl : v1 = .int .i64 x23 := hf _ (memI 7 rfl) (by as_aux_lemma => kernel_rfl)
     obtain rfl : v3 = .int .i64 x24 := hf _ (memI 9 rfl) (by as_aux_lemma => kernel_rfl)
     show Option.isSome _ = true
     as_aux_lemma => kernel_rfl
    ·intro vs gq stq hl hf
     obtain ⟨v0, v1, v2, v3, v4, v5, v6, v7, v8, v9, v10, rfl⟩ := len_k11 hl
     obtain rfl : v4 = .bool true := hf _ (memI 10 rfl) (by as_aux_lemma => kernel_rfl)
     obtain rfl : v9 = .bool (d31.1 == d32.1) := hf _ (memI 15 rfl) (by as_aux_lemma => kernel_rfl)
     show Option.isSome _ = true
     as_aux_lemma => kernel_rfl
    ·intro vs gq stq hl hf
     obtain ⟨v0, v1, v2, v3, v4, v5, v6, v7, v8, v9, v10, rfl⟩ := len_k11 hl
     obtain rfl : v10 = .bool false := hf _ (memI 16 rfl) (by as_aux_lemma => kernel_rfl)
     show Option.isSome _ = true
     as_aux_lemma => kernel_rfl
    ·intro vs gq stq hl hf
     obtain ⟨v0, v1, v2, v3, v4, v5, v6, v7, v8, v9, v10, rfl⟩ := len_k11 hl
     obtain rfl : v10 = .bool false := hf _ (memI 16 rfl) (by as_aux_lemma => kernel_rfl)
     show Option.isSome _ = true
     as_aux_lemma => kernel_rfl
    ·intro vs gq stq hl hf
     obtain ⟨v0, v1, v2, v3, v4, v5, v6, v7, v8, v9, v10, rfl⟩ := len_k11 hl
     obtain rfl : v10 = .bool false := hf _ (memI 16 rfl) (by as_aux_lemma => kernel_rfl)
     show Option.isSome _ = true
     as_aux_lemma => kernel_rfl
    ·intro vs gq stq hl hf
     obtain ⟨v0, v1, v2, v3, v4, v5, v6, v7, v8, v9, v10, rfl⟩ := len_k11 hl
     obtain rfl : v10 = .bool false := hf _ (memI 16 rfl) (by as_aux_lemma => kernel_rfl)
     show Option.isSome _ = true
     as_aux_lemma => kernel_rfl
    ·intro vs gq stq hl hf
     obtain ⟨v0, v1, v2, v3, v4, v5, v6, v7, v8, v9, v10, rfl⟩ := len_k11 hl
     obtain rfl : v10 = .bool false := hf _ (memI 16 rfl) (by as_aux_lemma => kernel_rfl)
     show Option.isSome _ = true
     as_aux_lemma => kernel_rfl
    ·intro vs gq stq hl hf
     obtain ⟨v0, v1, v2, v3, v4, v5, v6, v7, v8, v9, v10, rfl⟩ := len_k11 hl
     obtain rfl : v10 = .bool false := hf _ (memI 16 rfl) (by as_aux_lemma => kernel_rfl)
     show Option.isSome _ = true
     as_aux_lemma => kernel_rfl
    ·intro vs gq stq hl hf
     obtain ⟨v0, v1, v2, v3, v4, v5, v6, v7, v8, v9, v10, rfl⟩ := len_k11 hl
     obtain rfl : v10 = .bool false := hf _ (memI 16 rfl) (by as_aux_lemma => kernel_rfl)
     show Option.isSome _ = true
     as_aux_lemma => kernel_rfl
    ·intro vs gq stq hl hf
     obtain ⟨v0, v1, v2, v3, v4, v5, v6, v7, v8, v9, v10, rfl⟩ := len_k11 hl
     obtain rfl : v10 = .bool false := hf _ (memI 16 rfl) (by as_aux_lemma => kernel_rfl)
     show Option.isSome _ = true
     as_aux_lemma => kernel_rfl
    ·intro vs gq stq hl hf
     obtain ⟨v0, v1, v2, v3, v4, v5, v6, v7, v8, v9, v10, rfl⟩ := len_k11 hl
     obtain rfl : v10 = .bool false := hf _ (memI 16 rfl) (by as_aux_lemma => kernel_rfl)
     show Option.isSome _ = true
     as_aux_lemma => kernel_rfl
    ·intro vs gq stq hl hf
     obtain ⟨v0, v1, v2, v3, v4, v5, v6, v7, v8, v9, v10, rfl⟩ := len_k11 hl
     obtain rfl : v10 = .bool false := hf _ (memI 16 rfl) (by as_aux_lemma => kernel_rfl)
     show Option.isSome _ = true
     as_aux_lemma => kernel_rfl
    ·intro vs gq stq hl hf
     obtain ⟨v0, v1, v2, v3, v4, v5, v6, v7, v8, v9, v10, rfl⟩ := len_k11 hl
     obtain rfl : v10 = .bool false := hf _ (memI 16 rfl) (by as_aux_lemma => kernel_rfl)
     show Option.isSome _ = true
     as_aux_lemma => kernel_rfl
    ·intro vs gq stq hl hf
     obtain ⟨v0, v1, v2, v3, v4, v5, v6, v7, v8, v9, v10, rfl⟩ := len_k11 hl
     obtain rfl : v10 = .bool false := hf _ (memI 16 rfl) (by as_aux_lemma => kernel_rfl)
     show Option.isSome _ = true
     as_aux_lemma => kernel_rfl
    ·intro vs gq stq hl hf
     obtain ⟨v0, v1, v2, v3, v4, v5, v6, v7, v8, v9, v10, rfl⟩ := len_k11 hl
     obtain rfl : v10 = .bool false := hf _ (memI 16 rfl) (by as_aux_lemma => kernel_rfl)
     show Option.isSome _ = true
     as_aux_lemma => kernel_rfl
    ·intro vs gq stq hl hf
     obtain ⟨v0, v1, v2, v3, v4, v5, v6, v7, v8, v9, v10, rfl⟩ := len_k11 hl
     obtain rfl : v10 = .bool false := hf _ (memI 16 rfl) (by as_aux_lemma => kernel_rfl)
     show Option.isSome _ = true
     as_aux_lemma => kernel_rfl
    ·intro vs gq stq hl hf
     obtain ⟨v0, v1, v2, v3, v4, v5, v6, v7, v8, v9, v10, rfl⟩ := len_k11 hl
     obtain rfl : v10 = .bool false := hf _ (memI 16 rfl) (by as_aux_lemma => kernel_rfl)
     show Option.isSome _ = true
     as_aux_lemma => kernel_rfl
    ·intro vs gq stq hl hf
     obtain ⟨v0, v1, v2, v3, v4, v5, v6, v7, v8, v9, v10, rfl⟩ := len_k11 hl
     obtain rfl : v10 = .bool false := hf _ (memI 16 rfl) (by as_aux_lemma => kernel_rfl)
     show Option.isSome _ = true
     as_aux_lemma => kernel_rfl
    ·intro vs gq stq hl hf
     obtain ⟨v0, v1, v2, v3, v4, v5, v6, v7, v8, v9, v10, rfl⟩ := len_k11 hl
     obtain rfl : v10 = .bool false := hf _ (memI 16 rfl) (by as_aux_lemma => kernel_rfl)
     show Option.isSome _ = true
     as_aux_lemma => kernel_rfl
    ·intro vs gq stq hl hf
     obtain ⟨v0, v1, v2, v3, v4, v5, v6, v7, v8, v9, v10, rfl⟩ := len_k11 hl
     obtain rfl : v10 = .bool false := hf _ (memI 16 rfl) (by as_aux_lemma => kernel_rfl)
     show Option.isSome _ = true
     as_aux_lemma => kernel_rfl
    ·intro vs gq stq hl hf
     obtain ⟨v0, v1, v2, v3, v4, v5, v6, v7, v8, v9, v10, rfl⟩ := len_k11 hl
     obtain rfl : v10 = .bool false := hf _ (memI 16 rfl) (by as_aux_lemma => kernel_rfl)
     show Option.isSome _ = true
     as_aux_lemma => kernel_rfl
    ·intro vs gq stq hl hf
     obtain ⟨v0, v1, v2, v3, v4, v5, v6, v7, v8, v9, v10, rfl⟩ := len_k11 hl
     obtain rfl : v10 = .bool false := hf _ (memI 16 rfl) (by as_aux_lemma => kernel_rfl)
     show Option.isSome _ = true
     as_aux_lemma => kernel_rfl
    ·intro vs gq stq hl hf
     obtain ⟨v0, v1, v2, v3, v4, v5, v6, v7, v8, v9, v10, rfl⟩ := len_k11 hl
     obtain rfl : v10 = .bool false := hf _ (memI 16 rfl) (by as_aux_lemma => kernel_rfl)
     show Option.isSome _ = true
     as_aux_lemma => kernel_rfl
    ·intro vs gq stq hl hf
     obtain ⟨v0, v1, v2, v3, v4, v5, v6, v7, v8, v9, v10, rfl⟩ := len_k11 hl
     obtain rfl : v10 = .bool false := hf _ (memI 16 rfl) (by as_aux_lemma => kernel_rfl)
     show Option.isSome _ = true
     as_aux_lemma => kernel_rfl
    ·intro vs gq stq hl hf
     obtain ⟨v0, v1, v2, v3, v4, v5, v6, v7, v8, v9, v10, rfl⟩ := len_k11 hl
     obtain rfl : v10 = .bool false := hf _ (memI 16 rfl) (by as_aux_lemma => kernel_rfl)
     show Option.isSome _ = true
     as_aux_lemma => kernel_rfl
   ·intro j hj
    have hq : j = 0 ∨ j = 1 ∨ j = 2 ∨ j = 3 ∨ j = 4 ∨ j = 5 ∨ j = 6 ∨ j = 7 ∨ j = 8 ∨ j = 9 ∨ j = 10 := by have h : j < 11 := hj; omega
    rcases hq with rfl | rfl | rfl | rfl | rfl | rfl | rfl | rfl | rfl | rfl | rfl
    ·intro vs gq stq hl hf
     obtain ⟨v0, v1, v2, v3, v4, v5, v6, v7, v8, v9, v10, rfl⟩ := len_k11 hl
     have hB7 := (show Box gq (t + 7) b7 43 [[.int .i64 x8], encA .u8 d7, [.int .i64 x9], [.slice a5 l5.length c5], encA .u8 d8, [.int .i64 x10], encA .u8 d9, [.slice a6 l6.length c6], [.slice a14 n14 c14]] [1, 8, 1, 1, 8, 1, 8, 1, 1] from hf _ (memI 3 rfl) (by as_aux_lemma => kernel_rfl))
     refine WP.loadB (v := AG [[.int .i64 x8], encA .u8 d7, [.int .i64 x9], [.slice a5 l5.length c5], encA .u8 d8, [.int .i64 x10], encA .u8 d9, [.slice a6 l6.length c6], [.slice a14 n14 c14]]) hB7 (by kernel_rfl) (by as_aux_lemma => kernel_rfl) ?_
     refine WP.dn (Shown.ok (v := AG [[.int .i64 x8], encA .u8 d7, [.int .i64 x9], [.slice a5 l5.length c5], encA .u8 d8, [.int .i64 x10], encA .u8 d9, [.slice a6 l6.length c6], [.slice a14 n14 c14]]) (by kernel_rfl) (Step.refl _ _) ?_)
     exact t4 ⟨tv, tv, rfl, (t8 ⟨tv, tv, tv⟩)⟩
    ·intro vs gq stq hl hf
     obtain ⟨v0, v1, v2, v3, v4, v5, v6, v7, v8, v9, v10, rfl⟩ := len_k11 hl
     have hR14 := (show RdS (Kd.int .u8) gq 5 a14 n14 c14 l13 from hf _ (memI 2 rfl) (by as_aux_lemma => kernel_rfl))
     have hR5 := (show RdS (Kd.int .u8) gq 5 a5 l5.length c5 l5 from hf _ (memI 4 rfl) (by as_aux_lemma => kernel_rfl))
     have hR6 := (show RdS (Kd.int .u8) gq 5 a6 l6.length c6 l6 from hf _ (memI 5 rfl) (by as_aux_lemma => kernel_rfl))
     obtain rfl : v0 = AG [[.int .i64 x8], encA .u8 d7, [.int .i64 x9], [.slice a5 l5.length c5], encA .u8 d8, [.int .i64 x10], encA .u8 d9, [.slice a6 l6.length c6], [.slice a14 n14 c14]] := hf _ (memI 6 rfl) (by as_aux_lemma => kernel_rfl)
     have hcal29 := P.punish_Thing_Check gq x8 d7 x9 l5 d8 x10 d9 l6 l13 a5 l5.length c5 a6 l6.length c6 a14 n14 c14 hR5 hR6 hR14 x23 hk29
     refine WP.callC hcal29 (by kernel_rfl) ?_
     rintro _ g53 st53 rfl
     refine WP.dn (Shown.o (v := .int .i64 x23) st53.pure ?_)
     exact t4 ⟨tv, tv, tv, rfl, (t8 ⟨tv, tv⟩)⟩
    ·intro vs gq stq hl hf
     obtain ⟨v0, v1, v2, v3, v4, v5, v6, v7, v8, v9, v10, rfl⟩ := len_k11 hl
     have hB1 := (show Box gq (t + 1) b1 35 [[.int .i64 x1], encA .u8 d1, [.int .i64 x2], encA .u8 d2, [.slice a1 n1 c1], [.slice a14 n14 c14], [.bool q1]] [1, 8, 1, 8, 1, 1, 1] from hf _ (memI 0 rfl) (by as_aux_lemma => kernel_rfl))
     refine WP.loadB (v := AG [[.int .i64 x1], encA .u8 d1, [.int .i64 x2], encA .u8 d2, [.slice a1 n1 c1], [.slice a14 n14 c14], [.bool q1]]) hB1 (by kernel_rfl) (by as_aux_lemma => kernel_rfl) ?_
     refine WP.dn (Shown.ok (v := AG [[.int .i64 x1], encA .u8 d1, [.int .i64 x2], encA .u8 d2, [.slice a1 n1 c1], [.slice a14 n14 c14], [.bool q1]]) (by kernel_rfl) (Step.refl _ _) ?_)
     exact t8 ⟨rfl, (t8 tv)⟩
    ·intro vs gq stq hl hf
     obtain ⟨v0, v1, v2, v3, v4, v5, v6, v7, v8, v9, v10, rfl⟩ := len_k11 hl
     have hR1 := (show RdS (Kd.int .u8) gq 5 a1 n1 c1 l1 from hf _ (memI 1 rfl) (by as_aux_lemma => kernel_rfl))
     have hR14 := (show RdS (Kd.int .u8) gq 5 a14 n14 c14 l13 from hf _ (memI 2 rfl) (by as_aux_lemma => kernel_rfl))
     obtain rfl : v2 = AG [[.int .i64 x1], encA .u8 d1, [.int .i64 x2], encA .u8 d2, [.slice a1 n1 c1], [.slice a14 n14 c14], [.bool q1]] := hf _ (memI 8 rfl) (by as_aux_lemma => kernel_rfl)
     have hcal30 := P.baizeref34_Check gq x1 d1 x2 d2 l1 l13 q1 a1 n1 c1 a14 n14 c14 hR1 hR14 x24 hk30
     refine WP.callC hcal30 (by kernel_rfl) ?_
     rintro _ g54 st54 rfl
     refine WP.dn (Shown.o (v := .int .i64 x24) st54.pure ?_)
     exact t8 ⟨tv, rfl, (t4 ⟨tv, tv, tv, tv⟩)⟩
    ·intro vs gq stq hl hf
     obtain ⟨v0, v1, v2, v3, v4, v5, v6, v7, v8, v9, v10, rfl⟩ := len_k11 hl
     obtain rfl : v1 = .int .i64 x23 := hf _ (memI 7 rfl) (by as_aux_lemma => kernel_rfl)
     obtain rfl : v3 = .int .i64 x24 := hf _ (memI 9 rfl) (by as_aux_lemma => kernel_rfl)
     refine WP.stl 1 ?_
     refine WP.dn (Shown.ok (v := .bool (x23 == x24)) (by kernel_rfl) (Step.refl _ _) ?_)
     exact t8 ⟨tv, tv, congrArg Value.bool h14, (t4 ⟨tv, tv, tv⟩)⟩
    ·intro vs gq stq hl hf
     obtain ⟨v0, v1, v2, v3, v4, v5, v6, v7, v8, v9, v10, rfl⟩ := len_k11 hl
     have hB7 := (show Box gq (t + 7) b7 43 [[.int .i64 x8], encA .u8 d7, [.int .i64 x9], [.slice a5 l5.length c5], encA .u8 d8, [.int .i64 x10], encA .u8 d9, [.slice a6 l6.length c6], [.slice a14 n14 c14]] [1, 8, 1, 1, 8, 1, 8, 1, 1] from hf _ (memI 3 rfl) (by as_aux_lemma => kernel_rfl))
     obtain rfl : v4 = .bool true := hf _ (memI 10 rfl) (by as_aux_lemma => kernel_rfl)
     refine WP.loadB (v := AG [[.int .i64 x8], encA .u8 d7, [.int .i64 x9], [.slice a5 l5.length c5], encA .u8 d8, [.int .i64 x10], encA .u8 d9, [.slice a6 l6.length c6], [.slice a14 n14 c14]]) hB7 (by kernel_rfl) (by as_aux_lemma => kernel_rfl) ?_
     refine WP.dn (Shown.ok (v := AG [[.int .i64 x8], encA .u8 d7, [.int .i64 x9], [.slice a5 l5.length c5], encA .u8 d8, [.int .i64 x10], encA .u8 d9, [.slice a6 l6.length c6], [.slice a14 n14 c14]]) (by kernel_rfl) (Step.refl _ _) ?_)
     exact t8 ⟨tv, tv, tv, rfl, (t4 ⟨tv, tv⟩)⟩
    ·intro vs gq stq hl hf
     obtain ⟨v0, v1, v2, v3, v4, v5, v6, v7, v8, v9, v10, rfl⟩ := len_k11 hl
     have hR14 := (show RdS (Kd.int .u8) gq 5 a14 n14 c14 l13 from hf _ (memI 2 rfl) (by as_aux_lemma => kernel_rfl))
     have hR5 := (show RdS (Kd.int .u8) gq 5 a5 l5.length c5 l5 from hf _ (memI 4 rfl) (by as_aux_lemma => kernel_rfl))
     have hR6 := (show RdS (Kd.int .u8) gq 5 a6 l6.length c6 l6 from hf _ (memI 5 rfl) (by as_aux_lemma => kernel_rfl))
     obtain rfl : v4 = .bool true := hf _ (memI 10 rfl) (by as_aux_lemma => kernel_rfl)
     obtain rfl : v5 = AG [[.int .i64 x8], encA .u8 d7, [.int .i64 x9], [.slice a5 l5.length c5], encA .u8 d8, [.int .i64 x10], encA .u8 d9, [.slice a6 l6.length c6], [.slice a14 n14 c14]] := hf _ (memI 11 rfl) (by as_aux_lemma => kernel_rfl)
     have hcal31 := P.punish_Thing_Digest gq x8 d7 x9 l5 d8 x10 d9 l6 l13 a5 l5.length c5 a6 l6.length c6 a14 n14 c14 hR5 hR6 hR14 d31 hk31
     refine WP.callC hcal31 (by kernel_rfl) ?_
     rintro _ g55 st55 rfl
     refine WP.dn (Shown.o (v := AG [encA .u8 d31]) st55.pure ?_)
     exact t8 (t4 ⟨rfl, (t4 tv)⟩)
    ·intro vs gq stq hl hf
     obtain ⟨v0, v1, v2, v3, v4, v5, v6, v7, v8, v9, v10, rfl⟩ := len_k11 hl
     have hB1 := (show Box gq (t + 1) b1 35 [[.int .i64 x1], encA .u8 d1, [.int .i64 x2], encA .u8 d2, [.slice a1 n1 c1], [.slice a14 n14 c14], [.bool q1]] [1, 8, 1, 8, 1, 1, 1] from hf _ (memI 0 rfl) (by as_aux_lemma => kernel_rfl))
     obtain rfl : v4 = .bool true := hf _ (memI 10 rfl) (by as_aux_lemma => kernel_rfl)
     refine WP.loadB (v := AG [[.int .i64 x1], encA .u8 d1, [.int .i64 x2], encA .u8 d2, [.slice a1 n1 c1], [.slice a14 n14 c14], [.bool q1]]) hB1 (by kernel_rfl) (by as_aux_lemma => kernel_rfl) ?_
     refine WP.dn (Shown.ok (v := AG [[.int .i64 x1], encA .u8 d1, [.int .i64 x2], encA .u8 d2, [.slice a1 n1 c1], [.slice a14 n14 c14], [.bool q1]]) (by kernel_rfl) (Step.refl _ _) ?_)
     exact t8 (t4 ⟨tv, rfl, tv, tv, tv, tv⟩)
    ·intro vs gq stq hl hf
     obtain ⟨v0, v1, v2, v3, v4, v5, v6, v7, v8, v9, v10, rfl⟩ := len_k11 hl
     have hR1 := (show RdS (Kd.int .u8) gq 5 a1 n1 c1 l1 from hf _ (memI 1 rfl) (by as_aux_lemma => kernel_rfl))
     have hR14 := (show RdS (Kd.int .u8) gq 5 a14 n14 c14 l13 from hf _ (memI 2 rfl) (by as_aux_lemma => kernel_rfl))
     obtain rfl : v4 = .bool true := hf _ (memI 10 rfl) (by as_aux_lemma => kernel_rfl)
     obtain rfl : v7 = AG [[.int .i64 x1], encA .u8 d1, [.int .i64 x2], encA .u8 d2, [.slice a1 n1 c1], [.slice a14 n14 c14], [.bool q1]] := hf _ (memI 13 rfl) (by as_aux_lemma => kernel_rfl)
     have hcal32 := P.baizeref34_Digest gq x1 d1 x2 d2 l1 l13 q1 a1 n1 c1 a14 n14 c14 hR1 hR14 d32 hk32
     refine WP.callC hcal32 (by kernel_rfl) ?_
     rintro _ g56 st56 rfl
     refine WP.dn (Shown.o (v := AG [encA .u8 d32]) st56.pure ?_)
     exact t8 (t4 ⟨tv, tv, rfl, tv, tv, tv⟩)
    ·intro vs gq stq hl hf
     obtain ⟨v0, v1, v2, v3, v4, v5, v6, v7, v8, v9, v10, rfl⟩ := len_k11 hl
     obtain rfl : v4 = .bool true := hf _ (memI 10 rfl) (by as_aux_lemma => kernel_rfl)
     obtain rfl : v6 = AG [encA .u8 d31] := hf _ (memI 12 rfl) (by as_aux_lemma => kernel_rfl)
     obtain rfl : v8 = AG [encA .u8 d32] := hf _ (memI 14 rfl) (by as_aux_lemma => kernel_rfl)
     refine WP.eqV (by kernel_rfl) (by as_aux_lemma => kernel_rfl) (EqV.arr (d := 9998) (t := 32) (e := 5) (m := 8) (k := .u8) (x := d31) (y := d32) (by kernel_rfl) (by as_aux_lemma => kernel_rfl)) ?_
     refine WP.dn (Shown.ok (v := .bool (d31.1 == d32.1)) (by kernel_rfl) (Step.refl _ _) ?_)
     exact t8 (t4 ⟨tv, tv, tv, rfl, tv, tv⟩)
    ·intro vs gq stq hl hf
     obtain ⟨v0, v1, v2, v3, v4, v5, v6, v7, v8, v9, v10, rfl⟩ := len_k11 hl
     obtain rfl : v4 = .bool true := hf _ (memI 10 rfl) (by as_aux_lemma => kernel_rfl)
     obtain rfl : v9 = .bool (d31.1 == d32.1) := hf _ (memI 15 rfl) (by as_aux_lemma => kernel_rfl)
     refine WP.stl 1 ?_
     refine WP.dn (Shown.ok (v := .bool (d31.1 == d32.1)) (by kernel_rfl) (Step.refl _ _) ?_)
     exact t16 ⟨congrArg Value.bool h15, tv⟩
   intro vs g63 st63 hl hf
   obtain ⟨v0, v1, v2, v3, v4, v5, v6, v7, v8, v9, v10, rfl⟩ := len_k11 hl
   obtain rfl : v10 = .bool false := hf _ (memI 16 rfl) (by as_aux_lemma => kernel_rfl)
   replace tot := tot.trans st63.toNo.pure
   refine NX.post ?_
   exact ⟨false, ⟨by kernel_rfl, by kernel_rfl⟩, tot, hs⟩
  replace hs := of_if_f hs h14
  refine CP.drawL (by as_aux_lemma => kernel_rfl) [0, 1, 2, 3, 5] N.baizelaw34_PunishTells_2 [⟨none, [], [], fun l g => Box g (t + 1) b1 35 [[.int .i64 x1], encA .u8 d1, [.int .i64 x2], encA .u8 d2, [.slice a1 n1 c1], [.slice a14 n14 c14], [.bool q1]] [1, 8, 1, 8, 1, 1, 1]⟩, ⟨none, [], [], fun l g => RdS (Kd.int .u8) g 5 a1 n1 c1 l1⟩, ⟨none, [], [], fun l g => RdS (Kd.int .u8) g 5 a14 n14 c14 l13⟩, ⟨none, [], [], fun l g => Box g (t + 7) b7 43 [[.int .i64 x8], encA .u8 d7, [.int .i64 x9], [.slice a5 l5.length c5], encA .u8 d8, [.int .i64 x10], encA .u8 d9, [.slice a6 l6.length c6], [.slice a14 n14 c14]] [1, 8, 1, 1, 8, 1, 8, 1, 1]⟩, ⟨none, [], [], fun l g => RdS (Kd.int .u8) g 5 a5 l5.length c5 l5⟩, ⟨none, [], [], fun l g => RdS (Kd.int .u8) g 5 a6 l6.length c6 l6⟩, ⟨some 0, [], [0], fun l g => l.getD 0 undef = AG [[.int .i64 x8], encA .u8 d7, [.int .i64 x9], [.slice a5 l5.length c5], encA .u8 d8, [.int .i64 x10], encA .u8 d9, [.slice a6 l6.length c6], [.slice a14 n14 c14]]⟩, ⟨some 1, [], [1], fun l g => l.getD 0 undef = .int .i64 x23⟩, ⟨some 2, [], [2], fun l g => l.getD 0 undef = AG [[.int .i64 x1], encA .u8 d1, [.int .i64 x2], encA .u8 d2, [.slice a1 n1 c1], [.slice a14 n14 c14], [.bool q1]]⟩, ⟨some 3, [], [3], fun l g => l.getD 0 undef = .int .i64 x24⟩, ⟨some 4, [], [4], fun l g => l.getD 0 undef = .bool false⟩] [[], [], [], [], []] [] [] [4, 6, 7, 8, 9, 10, 11, 12, 13, 14, 15, 16, 17, 18, 19, 20, 21, 22, 23, 24, 25, 26, 27, 28, 29, 30, 31, 32, 33, 34, 35] (by as_aux_lemma => kernel_rfl) (by simp) (by simp) ⟨fun _ _ _ _ st h0 hl hj hB1 => (hB1.mono st (fun h => absurd (hl _ h) (by simp))), fun _ _ _ _ st h0 hl hj hR1 => (RdS.mono (e := 5) hR1 st h0), fun _ _ _ _ st h0 hl hj hR14 => (RdS.mono (e := 5) hR14 st h0), fun _ _ _ _ st h0 hl hj hB7 => (hB7.mono st (fun h => absurd (hl _ h) (by simp))), fun _ _ _ _ st h0 hl hj hR5 => (RdS.mono (e := 5) hR5 st h0), fun _ _ _ _ st h0 hl hj hR6 => (RdS.mono (e := 5) hR6 st h0), fun _ _ _ _ st h0 hl hj e0 => e0, fun _ _ _ _ st h0 hl hj e1 => e1, fun _ _ _ _ st h0 hl hj e2 => e2, fun _ _ _ _ st h0 hl hj e3 => e3, fun _ _ _ _ st h0 hl hj e4 => e4, tv⟩ ⟨hB1, hR1, hR14, hB7, hR5, hR6, tv, tv, tv, tv, tv, tv⟩ (by as_aux_lemma => kernel_rfl) (fun vs => by as_aux_lemma => kernel_rfl) ?_ ?_ ?_
  ·intro j hj
   have hq : j = 0 ∨ j = 1 ∨ j = 2 ∨ j = 3 ∨ j = 4 ∨ j = 5 ∨ j = 6 ∨ j = 7 ∨ j = 8 ∨ j = 9 ∨ j = 10 ∨ j = 11 ∨ j = 12 ∨ j = 13 ∨ j = 14 ∨ j = 15 ∨ j = 16 ∨ j = 17 ∨ j = 18 ∨ j = 19 ∨ j = 20 ∨ j = 21 ∨ j = 22 ∨ j = 23 ∨ j = 24 ∨ j = 25 ∨ j = 26 ∨ j = 27 ∨ j = 28 ∨ j = 29 ∨ j = 30 := by have h : j < 31 := hj; omega
   rcases hq with rfl | rfl | rfl | rfl | rfl | rfl | rfl | rfl | rfl | rfl | rfl | rfl | rfl | rfl | rfl | rfl | rfl | rfl | rfl | rfl | rfl | rfl | rfl | rfl | rfl | rfl | rfl | rfl | rfl | rfl | rfl
   ·intro vs gq stq hl hf
    obtain ⟨v0, v1, v2, v3, v4, rfl⟩ := len_k5 hl
    obtain rfl : v1 = .int .i64 x23 := hf _ (memI 7 rfl) (by as_aux_lemma => kernel_rfl)
    obtain rfl : v3 = .int .i64 x24 := hf _ (memI 9 rfl) (by as_aux_lemma => kernel_rfl)
    show Option.isSome _ = true
    as_aux_lemma => kernel_rfl
   ·intro vs gq stq hl hf
    obtain ⟨v0, v1, v2, v3, v4, rfl⟩ := len_k5 hl
    obtain rfl : v4 = .bool false := hf _ (memI 10 rfl) (by as_aux_lemma => kernel_rfl)
    show Option.isSome _ = true
    as_aux_lemma => kernel_rfl
   ·intro vs gq stq hl hf
    obtain ⟨v0, v1, v2, v3, v4, rfl⟩ := len_k5 hl
    obtain rfl : v4 = .bool false := hf _ (memI 10 rfl) (by as_aux_lemma => kernel_rfl)
    show Option.isSome _ = true
    as_aux_lemma => kernel_rfl
   ·intro vs gq stq hl hf
    obtain ⟨v0, v1, v2, v3, v4, rfl⟩ := len_k5 hl
    obtain rfl : v4 = .bool false := hf _ (memI 10 rfl) (by as_aux_lemma => kernel_rfl)
    show Option.isSome _ = true
    as_aux_lemma => kernel_rfl
   ·intro vs gq stq hl hf
    obtain ⟨v0, v1, v2, v3, v4, rfl⟩ := len_k5 hl
    obtain rfl : v4 = .bool false := hf _ (memI 10 rfl) (by as_aux_lemma => kernel_rfl)
    show Option.isSome _ = true
    as_aux_lemma => kernel_rfl
   ·intro vs gq stq hl hf
    obtain ⟨v0, v1, v2, v3, v4, rfl⟩ := len_k5 hl
    obtain rfl : v4 = .bool false := hf _ (memI 10 rfl) (by as_aux_lemma => kernel_rfl)
    show Option.isSome _ = true
    as_aux_lemma => kernel_rfl
   ·intro vs gq stq hl hf
    obtain ⟨v0, v1, v2, v3, v4, rfl⟩ := len_k5 hl
    obtain rfl : v4 = .bool false := hf _ (memI 10 rfl) (by as_aux_lemma => kernel_rfl)
    show Option.isSome _ = true
    as_aux_lemma => kernel_rfl
   ·intro vs gq stq hl hf
    obtain ⟨v0, v1, v2, v3, v4, rfl⟩ := len_k5 hl
    obtain rfl : v4 = .bool false := hf _ (memI 10 rfl) (by as_aux_lemma => kernel_rfl)
    show Option.isSome _ = true
    as_aux_lemma => kernel_rfl
   ·intro vs gq stq hl hf
    obtain ⟨v0, v1, v2, v3, v4, rfl⟩ := len_k5 hl
    obtain rfl : v4 = .bool false := hf _ (memI 10 rfl) (by as_aux_lemma => kernel_rfl)
    show Option.isSome _ = true
    as_aux_lemma => kernel_rfl
   ·intro vs gq stq hl hf
    obtain ⟨v0, v1, v2, v3, v4, rfl⟩ := len_k5 hl
    obtain rfl : v4 = .bool false := hf _ (memI 10 rfl) (by as_aux_lemma => kernel_rfl)
    show Option.isSome _ = true
    as_aux_lemma => kernel_rfl
   ·intro vs gq stq hl hf
    obtain ⟨v0, v1, v2, v3, v4, rfl⟩ := len_k5 hl
    obtain rfl : v4 = .bool false := hf _ (memI 10 rfl) (by as_aux_lemma => kernel_rfl)
    show Option.isSome _ = true
    as_aux_lemma => kernel_rfl
   ·intro vs gq stq hl hf
    obtain ⟨v0, v1, v2, v3, v4, rfl⟩ := len_k5 hl
    obtain rfl : v4 = .bool false := hf _ (memI 10 rfl) (by as_aux_lemma => kernel_rfl)
    show Option.isSome _ = true
    as_aux_lemma => kernel_rfl
   ·intro vs gq stq hl hf
    obtain ⟨v0, v1, v2, v3, v4, rfl⟩ := len_k5 hl
    obtain rfl : v4 = .bool false := hf _ (memI 10 rfl) (by as_aux_lemma => kernel_rfl)
    show Option.isSome _ = true
    as_aux_lemma => kernel_rfl
   ·intro vs gq stq hl hf
    obtain ⟨v0, v1, v2, v3, v4, rfl⟩ := len_k5 hl
    obtain rfl : v4 = .bool false := hf _ (memI 10 rfl) (by as_aux_lemma => kernel_rfl)
    show Option.isSome _ = true
    as_aux_lemma => kernel_rfl
   ·intro vs gq stq hl hf
    obtain ⟨v0, v1, v2, v3, v4, rfl⟩ := len_k5 hl
    obtain rfl : v4 = .bool false := hf _ (memI 10 rfl) (by as_aux_lemma => kernel_rfl)
    show Option.isSome _ = true
    as_aux_lemma => kernel_rfl
   ·intro vs gq stq hl hf
    obtain ⟨v0, v1, v2, v3, v4, rfl⟩ := len_k5 hl
    obtain rfl : v4 = .bool false := hf _ (memI 10 rfl) (by as_aux_lemma => kernel_rfl)
    show Option.isSome _ = true
    as_aux_lemma => kernel_rfl
   ·intro vs gq stq hl hf
    obtain ⟨v0, v1, v2, v3, v4, rfl⟩ := len_k5 hl
    obtain rfl : v4 = .bool false := hf _ (memI 10 rfl) (by as_aux_lemma => kernel_rfl)
    show Option.isSome _ = true
    as_aux_lemma => kernel_rfl
   ·intro vs gq stq hl hf
    obtain ⟨v0, v1, v2, v3, v4, rfl⟩ := len_k5 hl
    obtain rfl : v4 = .bool false := hf _ (memI 10 rfl) (by as_aux_lemma => kernel_rfl)
    show Option.isSome _ = true
    as_aux_lemma => kernel_rfl
   ·intro vs gq stq hl hf
    obtain ⟨v0, v1, v2, v3, v4, rfl⟩ := len_k5 hl
    obtain rfl : v4 = .bool false := hf _ (memI 10 rfl) (by as_aux_lemma => kernel_rfl)
    show Option.isSome _ = true
    as_aux_lemma => kernel_rfl
   ·intro vs gq stq hl hf
    obtain ⟨v0, v1, v2, v3, v4, rfl⟩ := len_k5 hl
    obtain rfl : v4 = .bool false := hf _ (memI 10 rfl) (by as_aux_lemma => kernel_rfl)
    show Option.isSome _ = true
    as_aux_lemma => kernel_rfl
   ·intro vs gq stq hl hf
    obtain ⟨v0, v1, v2, v3, v4, rfl⟩ := len_k5 hl
    obtain rfl : v4 = .bool false := hf _ (memI 10 rfl) (by as_aux_lemma => kernel_rfl)
    show Option.isSome _ = true
    as_aux_lemma => kernel_rfl
   ·intro vs gq stq hl hf
    obtain ⟨v0, v1, v2, v3, v4, rfl⟩ := len_k5 hl
    obtain rfl : v4 = .bool false := hf _ (memI 10 rfl) (by as_aux_lemma => kernel_rfl)
    show Option.isSome _ = true
    as_aux_lemma => kernel_rfl
   ·intro vs gq stq hl hf
    obtain ⟨v0, v1, v2, v3, v4, rfl⟩ := len_k5 hl
    obtain rfl : v4 = .bool false := hf _ (memI 10 rfl) (by as_aux_lemma => kernel_rfl)
    show Option.isSome _ = true
    as_aux_lemma => kernel_rfl
   ·intro vs gq stq hl hf
    obtain ⟨v0, v1, v2, v3, v4, rfl⟩ := len_k5 hl
    obtain rfl : v4 = .bool false := hf _ (memI 10 rfl) (by as_aux_lemma => kernel_rfl)
    show Option.isSome _ = true
    as_aux_lemma => kernel_rfl
   ·intro vs gq stq hl hf
    obtain ⟨v0, v1, v2, v3, v4, rfl⟩ := len_k5 hl
    obtain rfl : v4 = .bool false := hf _ (memI 10 rfl) (by as_aux_lemma => kernel_rfl)
    show Option.isSome _ = true
    as_aux_lemma => kernel_rfl
   ·intro vs gq stq hl hf
    obtain ⟨v0, v1, v2, v3, v4, rfl⟩ := len_k5 hl
    obtain rfl : v4 = .bool false := hf _ (memI 10 rfl) (by as_aux_lemma => kernel_rfl)
    show Option.isSome _ = true
    as_aux_lemma => kernel_rfl
   ·intro vs gq stq hl hf
    obtain ⟨v0, v1, v2, v3, v4, rfl⟩ := len_k5 hl
    obtain rfl : v4 = .bool false := hf _ (memI 10 rfl) (by as_aux_lemma => kernel_rfl)
    show Option.isSome _ = true
    as_aux_lemma => kernel_rfl
   ·intro vs gq stq hl hf
    obtain ⟨v0, v1, v2, v3, v4, rfl⟩ := len_k5 hl
    obtain rfl : v4 = .bool false := hf _ (memI 10 rfl) (by as_aux_lemma => kernel_rfl)
    show Option.isSome _ = true
    as_aux_lemma => kernel_rfl
   ·intro vs gq stq hl hf
    obtain ⟨v0, v1, v2, v3, v4, rfl⟩ := len_k5 hl
    obtain rfl : v4 = .bool false := hf _ (memI 10 rfl) (by as_aux_lemma => kernel_rfl)
    show Option.isSome _ = true
    as_aux_lemma => kernel_rfl
   ·intro vs gq stq hl hf
    obtain ⟨v0, v1, v2, v3, v4, rfl⟩ := len_k5 hl
    obtain rfl : v4 = .bool false := hf _ (memI 10 rfl) (by as_aux_lemma => kernel_rfl)
    show Option.isSome _ = true
    as_aux_lemma => kernel_rfl
   ·intro vs gq stq hl hf
    obtain ⟨v0, v1, v2, v3, v4, rfl⟩ := len_k5 hl
    obtain rfl : v4 = .bool false := hf _ (memI 10 rfl) (by as_aux_lemma => kernel_rfl)
    show Option.isSome _ = true
    as_aux_lemma => kernel_rfl
  ·intro j hj
   have hq : j = 0 ∨ j = 1 ∨ j = 2 ∨ j = 3 ∨ j = 4 := by have h : j < 5 := hj; omega
   rcases hq with rfl | rfl | rfl | rfl | rfl
   ·intro vs gq stq hl hf
    obtain ⟨v0, v1, v2, v3, v4, rfl⟩ := len_k5 hl
    have hB7 := (show Box gq (t + 7) b7 43 [[.int .i64 x8], encA .u8 d7, [.int .i64 x9], [.slice a5 l5.length c5], encA .u8 d8, [.int .i64 x10], encA .u8 d9, [.slice a6 l6.length c6], [.slice a14 n14 c14]] [1, 8, 1, 1, 8, 1, 8, 1, 1] from hf _ (memI 3 rfl) (by as_aux_lemma => kernel_rfl))
    refine WP.loadB (v := AG [[.int .i64 x8], encA .u8 d7, [.int .i64 x9], [.slice a5 l5.length c5], encA .u8 d8, [.int .i64 x10], encA .u8 d9, [.slice a6 l6.length c6], [.slice a14 n14 c14]]) hB7 (by kernel_rfl) (by as_aux_lemma => kernel_rfl) ?_
    refine WP.dn (Shown.ok (v := AG [[.int .i64 x8], encA .u8 d7, [.int .i64 x9], [.slice a5 l5.length c5], encA .u8 d8, [.int .i64 x10], encA .u8 d9, [.slice a6 l6.length c6], [.slice a14 n14 c14]]) (by kernel_rfl) (Step.refl _ _) ?_)
    exact t4 ⟨tv, tv, rfl, (t4 tv)⟩
   ·intro vs gq stq hl hf
    obtain ⟨v0, v1, v2, v3, v4, rfl⟩ := len_k5 hl
    have hR14 := (show RdS (Kd.int .u8) gq 5 a14 n14 c14 l13 from hf _ (memI 2 rfl) (by as_aux_lemma => kernel_rfl))
    have hR5 := (show RdS (Kd.int .u8) gq 5 a5 l5.length c5 l5 from hf _ (memI 4 rfl) (by as_aux_lemma => kernel_rfl))
    have hR6 := (show RdS (Kd.int .u8) gq 5 a6 l6.length c6 l6 from hf _ (memI 5 rfl) (by as_aux_lemma => kernel_rfl))
    obtain rfl : v0 = AG [[.int .i64 x8], encA .u8 d7, [.int .i64 x9], [.slice a5 l5.length c5], encA .u8 d8, [.int .i64 x10], encA .u8 d9, [.slice a6 l6.length c6], [.slice a14 n14 c14]] := hf _ (memI 6 rfl) (by as_aux_lemma => kernel_rfl)
    have hcal29 := P.punish_Thing_Check gq x8 d7 x9 l5 d8 x10 d9 l6 l13 a5 l5.length c5 a6 l6.length c6 a14 n14 c14 hR5 hR6 hR14 x23 hk29
    refine WP.callC hcal29 (by kernel_rfl) ?_
    rintro _ g53 st53 rfl
    refine WP.dn (Shown.o (v := .int .i64 x23) st53.pure ?_)
    exact t4 ⟨tv, tv, tv, rfl, tv, tv, tv, tv⟩
   ·intro vs gq stq hl hf
    obtain ⟨v0, v1, v2, v3, v4, rfl⟩ := len_k5 hl
    have hB1 := (show Box gq (t + 1) b1 35 [[.int .i64 x1], encA .u8 d1, [.int .i64 x2], encA .u8 d2, [.slice a1 n1 c1], [.slice a14 n14 c14], [.bool q1]] [1, 8, 1, 8, 1, 1, 1] from hf _ (memI 0 rfl) (by as_aux_lemma => kernel_rfl))
    refine WP.loadB (v := AG [[.int .i64 x1], encA .u8 d1, [.int .i64 x2], encA .u8 d2, [.slice a1 n1 c1], [.slice a14 n14 c14], [.bool q1]]) hB1 (by kernel_rfl) (by as_aux_lemma => kernel_rfl) ?_
    refine WP.dn (Shown.ok (v := AG [[.int .i64 x1], encA .u8 d1, [.int .i64 x2], encA .u8 d2, [.slice a1 n1 c1], [.slice a14 n14 c14], [.bool q1]]) (by kernel_rfl) (Step.refl _ _) ?_)
    exact t8 ⟨rfl, tv, tv, tv⟩
   ·intro vs gq stq hl hf
    obtain ⟨v0, v1, v2, v3, v4, rfl⟩ := len_k5 hl
    have hR1 := (show RdS (Kd.int .u8) gq 5 a1 n1 c1 l1 from hf _ (memI 1 rfl) (by as_aux_lemma => kernel_rfl))
    have hR14 := (show RdS (Kd.int .u8) gq 5 a14 n14 c14 l13 from hf _ (memI 2 rfl) (by as_aux_lemma => kernel_rfl))
    obtain rfl : v2 = AG [[.int .i64 x1], encA .u8 d1, [.int .i64 x2], encA .u8 d2, [.slice a1 n1 c1], [.slice a14 n14 c14], [.bool q1]] := hf _ (memI 8 rfl) (by as_aux_lemma => kernel_rfl)
    have hcal30 := P.baizeref34_Check gq x1 d1 x2 d2 l1 l13 q1 a1 n1 c1 a14 n14 c14 hR1 hR14 x24 hk30
    refine WP.callC hcal30 (by kernel_rfl) ?_
    rintro _ g54 st54 rfl
    refine WP.dn (Shown.o (v := .int .i64 x24) st54.pure ?_)
    exact t8 ⟨tv, rfl, tv, tv⟩
   ·intro vs gq stq hl hf
    obtain ⟨v0, v1, v2, v3, v4, rfl⟩ := len_k5 hl
    obtain rfl : v1 = .int .i64 x23 := hf _ (memI 7 rfl) (by as_aux_lemma => kernel_rfl)
    obtain rfl : v3 = .int .i64 x24 := hf _ (memI 9 rfl) (by as_aux_lemma => kernel_rfl)
    refine WP.stl 1 ?_
    refine WP.dn (Shown.ok (v := .bool (x23 == x24)) (by kernel_rfl) (Step.refl _ _) ?_)
    exact t8 ⟨tv, tv, congrArg Value.bool h14, tv⟩
  intro vs g64 st64 hl hf
  obtain ⟨v0, v1, v2, v3, v4, rfl⟩ := len_k5 hl
  obtain rfl : v4 = .bool false := hf _ (memI 10 rfl) (by as_aux_lemma => kernel_rfl)
  replace tot := tot.trans st64.toNo.pure
  refine NX.post ?_
  exact ⟨false, ⟨by kernel_rfl, by kernel_rfl⟩, tot, hs⟩
 clear tot hs hB1 hR1 hR14 hB2 hR3 hR18 hB3 hB5 hR17 hB6 hB7 hR5 hR6 hB8 hR8 hR9 hB17
 rintro tm g ⟨q10, hF, tot, hs⟩
 clear ds
 obtain ⟨ds, rfl⟩ := hF.open
 clear hF
 unfold F.baizelaw34_PunishTells.c6 at hs
 refine CP.ret ?_
 replace hs := Option.some.inj hs
 obtain rfl := hs
 exact NX.fin (v := .bool q10) (Res.still (by kernel_rfl)) tot htL rfl
end Go.Proofs.Ytlnockimfgfcgaa
