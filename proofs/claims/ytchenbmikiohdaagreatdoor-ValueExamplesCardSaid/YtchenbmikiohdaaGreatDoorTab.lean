/-
  The evaluator's settings for this program: written by a program (wip/tel/Gen.lean.txt).
-/
import Derived.Test.YtchenbmikiohdaaGreatDoorEvJ
import Derived.Test.YtchenbmikiohdaaGreatDoorEvI
import Derived.Test.YtchenbmikiohdaaGreatDoorRows
set_option linter.unusedSimpArgs false
set_option linter.unusedVariables false
namespace Go.Proofs.YtchenbmikiohdaaGreatDoor
open Go.Tel

def kindT (f : Nat) : Kind := bif Nat.blt f 116 then (
 bif Nat.blt f 49 then (
  bif Nat.blt f 25 then (
   bif Nat.blt f 16 then (
    bif Nat.blt f 11 then (
     bif Nat.blt f 6 then (
      bif Nat.beq f 4 then .esc else .rd) else (
      bif Nat.blt f 9 then (
       bif Nat.beq f 6 then .esc else .rd) else (
       bif Nat.beq f 9 then .esc else .rd))) else (
     bif Nat.blt f 13 then (
      bif Nat.blt f 12 then (
       bif Nat.beq f 11 then .im else .rd) else (
       bif Nat.beq f 12 then .im else .rd)) else (
      bif Nat.blt f 15 then (
       bif Nat.beq f 13 then .im else .rd) else (
       bif Nat.beq f 15 then .im else .rd)))) else (
    bif Nat.blt f 20 then (
     bif Nat.blt f 17 then (
      bif Nat.beq f 16 then .im else .rd) else (
      bif Nat.blt f 19 then (
       bif Nat.beq f 17 then .im else .rd) else (
       bif Nat.beq f 19 then .esc else .rd))) else (
     bif Nat.blt f 22 then (
      bif Nat.blt f 21 then (
       bif Nat.beq f 20 then .esc else .rd) else (
       bif Nat.beq f 21 then .im else .rd)) else (
      bif Nat.blt f 24 then (
       bif Nat.beq f 22 then .im else .rd) else (
       bif Nat.beq f 24 then .im else .rd))))) else (
   bif Nat.blt f 38 then (
    bif Nat.blt f 31 then (
     bif Nat.blt f 27 then (
      bif Nat.beq f 25 then .im else .rd) else (
      bif Nat.blt f 30 then (
       bif Nat.beq f 27 then .im else .rd) else (
       bif Nat.beq f 30 then .im else .rd))) else (
     bif Nat.blt f 35 then (
      bif Nat.blt f 32 then (
       bif Nat.beq f 31 then .im else .rd) else (
       bif Nat.beq f 32 then .im else .rd)) else (
      bif Nat.blt f 36 then (
       bif Nat.beq f 35 then .st else .rd) else (
       bif Nat.beq f 36 then .im else .rd)))) else (
    bif Nat.blt f 42 then (
     bif Nat.blt f 40 then (
      bif Nat.beq f 38 then .esc else .rd) else (
      bif Nat.blt f 41 then (
       bif Nat.beq f 40 then .im else .rd) else (
       bif Nat.beq f 41 then .esc else .rd))) else (
     bif Nat.blt f 47 then (
      bif Nat.blt f 43 then (
       bif Nat.beq f 42 then .im else .rd) else (
       bif Nat.beq f 43 then .im else .rd)) else (
      bif Nat.blt f 48 then (
       bif Nat.beq f 47 then .im else .rd) else (
       bif Nat.beq f 48 then .im else .rd)))))) else (
  bif Nat.blt f 75 then (
   bif Nat.blt f 63 then (
    bif Nat.blt f 55 then (
     bif Nat.blt f 52 then (
      bif Nat.beq f 49 then .im else .rd) else (
      bif Nat.blt f 54 then (
       bif Nat.beq f 52 then .im else .rd) else (
       bif Nat.beq f 54 then .im else .rd))) else (
     bif Nat.blt f 58 then (
      bif Nat.blt f 56 then (
       bif Nat.beq f 55 then .im else .rd) else (
       bif Nat.beq f 56 then .im else .rd)) else (
      bif Nat.blt f 60 then (
       bif Nat.beq f 58 then .im else .rd) else (
       bif Nat.beq f 60 then .im else .rd)))) else (
    bif Nat.blt f 70 then (
     bif Nat.blt f 66 then (
      bif Nat.beq f 63 then .im else .rd) else (
      bif Nat.blt f 69 then (
       bif Nat.beq f 66 then .im else .rd) else (
       bif Nat.beq f 69 then .im else .rd))) else (
     bif Nat.blt f 73 then (
      bif Nat.blt f 72 then (
       bif Nat.beq f 70 then .im else .rd) else (
       bif Nat.beq f 72 then .im else .rd)) else (
      bif Nat.blt f 74 then (
       bif Nat.beq f 73 then .im else .rd) else (
       bif Nat.beq f 74 then .im else .rd))))) else (
   bif Nat.blt f 91 then (
    bif Nat.blt f 85 then (
     bif Nat.blt f 76 then (
      bif Nat.beq f 75 then .im else .rd) else (
      bif Nat.blt f 81 then (
       bif Nat.beq f 76 then .im else .rd) else (
       bif Nat.beq f 81 then .im else .rd))) else (
     bif Nat.blt f 88 then (
      bif Nat.blt f 87 then (
       bif Nat.beq f 85 then .im else .rd) else (
       bif Nat.beq f 87 then .im else .rd)) else (
      bif Nat.blt f 89 then (
       bif Nat.beq f 88 then .im else .rd) else (
       bif Nat.beq f 89 then .im else .rd)))) else (
    bif Nat.blt f 103 then (
     bif Nat.blt f 95 then (
      bif Nat.blt f 94 then (
       bif Nat.beq f 91 then .im else .rd) else (
       bif Nat.beq f 94 then .im else .rd)) else (
      bif Nat.blt f 97 then (
       bif Nat.beq f 95 then .im else .rd) else (
       bif Nat.beq f 97 then .im else .rd))) else (
     bif Nat.blt f 108 then (
      bif Nat.blt f 104 then (
       bif Nat.beq f 103 then .im else .rd) else (
       bif Nat.beq f 104 then .im else .rd)) else (
      bif Nat.blt f 115 then (
       bif Nat.beq f 108 then .im else .rd) else (
       bif Nat.beq f 115 then .im else .rd))))))) else (
 bif Nat.blt f 202 then (
  bif Nat.blt f 160 then (
   bif Nat.blt f 130 then (
    bif Nat.blt f 120 then (
     bif Nat.blt f 118 then (
      bif Nat.beq f 116 then .im else .rd) else (
      bif Nat.blt f 119 then (
       bif Nat.beq f 118 then .im else .rd) else (
       bif Nat.beq f 119 then .im else .rd))) else (
     bif Nat.blt f 127 then (
      bif Nat.blt f 123 then (
       bif Nat.beq f 120 then .esc else .rd) else (
       bif Nat.beq f 123 then .im else .rd)) else (
      bif Nat.blt f 129 then (
       bif Nat.beq f 127 then .im else .rd) else (
       bif Nat.beq f 129 then .im else .rd)))) else (
    bif Nat.blt f 143 then (
     bif Nat.blt f 138 then (
      bif Nat.beq f 130 then .im else .rd) else (
      bif Nat.blt f 139 then (
       bif Nat.beq f 138 then .im else .rd) else (
       bif Nat.beq f 139 then .im else .rd))) else (
     bif Nat.blt f 150 then (
      bif Nat.blt f 145 then (
       bif Nat.beq f 143 then .esc else .rd) else (
       bif Nat.beq f 145 then .im else .rd)) else (
      bif Nat.blt f 151 then (
       bif Nat.beq f 150 then .im else .rd) else (
       bif Nat.beq f 151 then .esc else .rd))))) else (
   bif Nat.blt f 182 then (
    bif Nat.blt f 167 then (
     bif Nat.blt f 161 then (
      bif Nat.beq f 160 then .im else .rd) else (
      bif Nat.blt f 166 then (
       bif Nat.beq f 161 then .im else .rd) else (
       bif Nat.beq f 166 then .im else .rd))) else (
     bif Nat.blt f 177 then (
      bif Nat.blt f 174 then (
       bif Nat.beq f 167 then .im else .rd) else (
       bif Nat.beq f 174 then .im else .rd)) else (
      bif Nat.blt f 178 then (
       bif Nat.beq f 177 then .im else .rd) else (
       bif Nat.beq f 178 then .im else .rd)))) else (
    bif Nat.blt f 192 then (
     bif Nat.blt f 185 then (
      bif Nat.blt f 184 then (
       bif Nat.beq f 182 then .im else .rd) else (
       bif Nat.beq f 184 then .im else .rd)) else (
      bif Nat.blt f 188 then (
       bif Nat.beq f 185 then .im else .rd) else (
       bif Nat.beq f 188 then .esc else .rd))) else (
     bif Nat.blt f 194 then (
      bif Nat.blt f 193 then (
       bif Nat.beq f 192 then .st else .rd) else (
       bif Nat.beq f 193 then .im else .rd)) else (
      bif Nat.blt f 201 then (
       bif Nat.beq f 194 then .im else .rd) else (
       bif Nat.beq f 201 then .im else .rd)))))) else (
  bif Nat.blt f 230 then (
   bif Nat.blt f 219 then (
    bif Nat.blt f 207 then (
     bif Nat.blt f 204 then (
      bif Nat.beq f 202 then .im else .rd) else (
      bif Nat.blt f 206 then (
       bif Nat.beq f 204 then .im else .rd) else (
       bif Nat.beq f 206 then .im else .rd))) else (
     bif Nat.blt f 210 then (
      bif Nat.blt f 208 then (
       bif Nat.beq f 207 then .im else .rd) else (
       bif Nat.beq f 208 then .im else .rd)) else (
      bif Nat.blt f 216 then (
       bif Nat.beq f 210 then .im else .rd) else (
       bif Nat.beq f 216 then .st else .rd)))) else (
    bif Nat.blt f 222 then (
     bif Nat.blt f 220 then (
      bif Nat.beq f 219 then .im else .rd) else (
      bif Nat.blt f 221 then (
       bif Nat.beq f 220 then .im else .rd) else (
       bif Nat.beq f 221 then .esc else .rd))) else (
     bif Nat.blt f 224 then (
      bif Nat.blt f 223 then (
       bif Nat.beq f 222 then .im else .rd) else (
       bif Nat.beq f 223 then .im else .rd)) else (
      bif Nat.blt f 227 then (
       bif Nat.beq f 224 then .im else .rd) else (
       bif Nat.beq f 227 then .im else .rd))))) else (
   bif Nat.blt f 253 then (
    bif Nat.blt f 243 then (
     bif Nat.blt f 231 then (
      bif Nat.beq f 230 then .im else .rd) else (
      bif Nat.blt f 237 then (
       bif Nat.beq f 231 then .im else .rd) else (
       bif Nat.beq f 237 then .im else .rd))) else (
     bif Nat.blt f 246 then (
      bif Nat.blt f 245 then (
       bif Nat.beq f 243 then .im else .rd) else (
       bif Nat.beq f 245 then .im else .rd)) else (
      bif Nat.blt f 247 then (
       bif Nat.beq f 246 then .im else .rd) else (
       bif Nat.beq f 247 then .im else .rd)))) else (
    bif Nat.blt f 260 then (
     bif Nat.blt f 255 then (
      bif Nat.blt f 254 then (
       bif Nat.beq f 253 then .im else .rd) else (
       bif Nat.beq f 254 then .im else .rd)) else (
      bif Nat.blt f 259 then (
       bif Nat.beq f 255 then .im else .rd) else (
       bif Nat.beq f 259 then .im else .rd))) else (
     bif Nat.blt f 281 then (
      bif Nat.blt f 261 then (
       bif Nat.beq f 260 then .im else .rd) else (
       bif Nat.beq f 261 then .im else .rd)) else (
      bif Nat.blt f 282 then (
       bif Nat.beq f 281 then .im else .rd) else (
       bif Nat.beq f 282 then .im else .rd)))))))

def muT (f t : Nat) : Bool := bif Nat.blt f 120 then (
 bif Nat.blt f 35 then (
  bif Nat.beq f 9 then Nat.beq t 75 else false) else (
  bif Nat.beq f 35 then Nat.beq t 37 else false)) else (
 bif Nat.blt f 143 then (
  bif Nat.beq f 120 then Nat.beq t 153 else false) else (
  bif Nat.blt f 221 then (
   bif Nat.beq f 143 then Nat.beq t 153 else false) else (
   bif Nat.beq f 221 then Nat.beq t 153 else false)))

def rrSet (_ : Nat) : Bool := false

def rrT (f g : Nat) : Bool := (Nat.beq f 9 && Nat.beq g 35) || rrSet g

def cloneT (f : Nat) : Bool := bif Nat.blt f 142 then (
 bif Nat.blt f 76 then (
  bif Nat.beq f 43 then true else false) else (
  bif Nat.blt f 120 then (
   bif Nat.beq f 76 then true else false) else (
   bif Nat.beq f 120 then true else false))) else (
 bif Nat.blt f 143 then (
  bif Nat.beq f 142 then true else false) else (
  bif Nat.blt f 221 then (
   bif Nat.beq f 143 then true else false) else (
   bif Nat.beq f 221 then true else false)))

def globT (f : Nat) : Option (List PV) := bif Nat.blt f 2 then (
 bif Nat.beq f 0 then some (strRow [[65, 110, 121], [78, 101, 118, 101, 114], [116, 117, 112, 108, 101], [117, 110, 105, 111, 110], [101, 120, 105, 115, 116, 115]]) else none) else (
 bif Nat.beq f 2 then some (strRow [[65, 110, 121], [78, 101, 118, 101, 114], [116, 117, 112, 108, 101], [117, 110, 105, 111, 110], [101, 120, 105, 115, 116, 115]]) else none)

def pl3 (f : Nat) : Option Plan := bif Nat.blt f 11 then (
 bif Nat.beq f 6 then some ⟨[8], [0, 1, 2, 3, 4, 5, 6, 7, 9, 10], [.q [0, 1], .q [0, 1], .w 0, .q [1], .w 1, .q [2], .q [2], .q [2, 3], .h [0, 1, 2], .w 2, .q [3]], [[], [], [], [2], [0, 1, 2, 3], [0, 1, 2, 3, 4], [0, 1, 2, 3, 4, 5], [0, 1, 2, 3, 4, 5], [], [0, 1, 2, 3, 4, 5, 6, 8], [0, 1, 2, 3, 4, 5, 6, 7, 8, 9]], [[], [], [], [], [], [], [], [], [], [], []], [(1, 1), (8, 0), (8, 1), (8, 2)]⟩ else none) else (
 bif Nat.beq f 11 then some ⟨[], [0, 1, 2, 3, 4], [.q [0, 1], .q [0, 1], .w 0, .w 1, .q [2]], [[], [], [], [0, 1, 2], [0, 1, 2, 3]], [[], [], [], [], []], [(1, 1)]⟩ else none)

def pl4 (f : Nat) : Option Plan := bif Nat.beq f 7 then some ⟨[], [0, 1, 2, 3, 4, 5, 6, 7, 8, 9, 10, 11, 12], [.q [0], .q [0], .q [0], .q [0], .q [0], .w 0, .q [0, 1], .q [0, 1], .q [0, 1], .q [0, 1], .q [0, 1], .w 1, .q [2]], [[], [], [], [1, 2], [1, 2, 3], [0, 1, 2, 3, 4], [], [], [], [7, 8], [7, 8, 9], [0, 1, 2, 3, 4, 5, 6, 7, 8, 9, 10], [0, 1, 2, 3, 4, 5, 6, 7, 8, 9, 10, 11]], [[], [], [], [], [], [], [], [], [], [], [], [], []], [(9, 0), (10, 0)]⟩ else none

def pl5 (f : Nat) : Option Plan := bif Nat.beq f 2 then some ⟨[], [0, 1, 2, 3, 4, 5, 6, 7, 8, 9, 10, 11, 12, 13, 14, 15, 16, 17, 18, 19, 20, 21, 22, 23, 24, 25, 26, 27, 28, 29, 30, 31, 32, 33, 34, 35, 36, 37, 38, 39, 40, 41], [.q [0, 1, 2, 3, 4, 5, 6, 7, 8, 9, 10, 11], .q [0], .q [0], .w 0, .q [0, 1, 2, 3, 4, 5, 6, 7, 8, 9, 10, 11], .q [0, 1, 2, 3, 4, 5, 6, 7, 8, 9, 10, 11], .q [0, 1, 2, 3, 4, 5, 6, 7, 8, 9, 10, 11], .q [1, 2, 3, 4, 5, 6, 7, 8, 9, 10, 11], .w 1, .q [2], .w 2, .w 3, .q [4, 5, 6, 7, 8, 9, 10, 11], .q [4, 5, 6, 7, 8, 9, 10, 11], .q [4, 5, 6, 7, 8, 9, 10, 11], .q [0, 1, 2, 3, 4, 5, 6, 7, 8, 9, 10, 11], .w 4, .q [5, 6, 7, 8, 9, 10, 11], .w 5, .w 6, .q [7, 8, 9, 10, 11], .q [7, 8, 9, 10, 11], .q [7, 8, 9, 10, 11], .q [0, 1, 2, 3, 4, 5, 6, 7, 8, 9, 10, 11], .q [0, 1, 2, 3, 4, 5, 6, 7, 8, 9, 10, 11], .w 7, .q [8, 9, 10, 11], .q [8, 9, 10, 11], .q [8, 9, 10, 11], .q [0, 1, 2, 3, 4, 5, 6, 7, 8], .q [0, 1, 2, 3, 4, 5, 6, 7, 8], .w 8, .q [9], .w 9, .q [0, 1, 2, 3, 4, 5, 6, 7, 8, 9, 10], .q [0, 1, 2, 3, 4, 5, 6, 7, 8, 9, 10], .w 10, .q [11], .q [11], .q [11], .q [11], .q [11]], [[], [], [1], [1, 2], [], [4], [4, 5], [1, 2, 3, 4, 5, 6], [1, 2, 3], [1, 2, 3, 8], [1, 2, 3, 8, 9], [1, 2, 3, 8, 9, 10], [1, 2, 3, 8, 9, 10, 11], [1, 2, 3, 8, 9, 10, 11, 12], [1, 2, 3, 8, 9, 10, 11, 12, 13], [], [1, 2, 3, 8, 9, 10, 11], [1, 2, 3, 8, 9, 10, 11, 16], [1, 2, 3, 8, 9, 10, 11, 16], [1, 2, 3, 8, 9, 10, 11, 16, 18], [1, 2, 3, 8, 9, 10, 11, 16, 18, 19], [1, 2, 3, 8, 9, 10, 11, 16, 18, 19, 20], [1, 2, 3, 8, 9, 10, 11, 16, 18, 19, 20, 21], [], [23], [1, 2, 3, 8, 9, 10, 11, 16, 18, 19], [1, 2, 3, 8, 9, 10, 11, 16, 18, 19, 25], [1, 2, 3, 8, 9, 10, 11, 16, 18, 19, 23, 24, 25, 26], [1, 2, 3, 8, 9, 10, 11, 16, 18, 19, 23, 24, 25, 26, 27], [], [29], [1, 2, 3, 8, 9, 10, 11, 16, 18, 19, 25, 29, 30], [1, 2, 3, 8, 9, 10, 11, 16, 18, 19, 25, 29, 30, 31], [1, 2, 3, 8, 9, 10, 11, 16, 18, 19, 25, 29, 30, 31, 32], [], [34], [1, 2, 3, 8, 9, 10, 11, 16, 18, 19, 25, 29, 30, 31, 32, 33, 34, 35], [1, 2, 3, 8, 9, 10, 11, 16, 18, 19, 25, 29, 30, 31, 32, 33, 34, 35, 36], [1, 2, 3, 8, 9, 10, 11, 16, 18, 19, 25, 29, 30, 31, 32, 33, 34, 35, 36, 37], [1, 2, 3, 8, 9, 10, 11, 16, 18, 19, 25, 29, 30, 31, 32, 33, 34, 35, 36, 37, 38], [0, 1, 2, 3, 4, 5, 6, 7, 8, 9, 10, 11, 12, 13, 14, 15, 16, 17, 18, 19, 20, 21, 22, 23, 24, 25, 26, 27, 28, 29, 30, 31, 32, 33, 34, 35, 36, 37, 38, 39], [0, 1, 2, 3, 4, 5, 6, 7, 8, 9, 10, 11, 12, 13, 14, 15, 16, 17, 18, 19, 20, 21, 22, 23, 24, 25, 26, 27, 28, 29, 30, 31, 32, 33, 34, 35, 36, 37, 38, 39, 40]], [[], [], [], [], [], [], [], [], [], [], [], [], [], [], [], [], [], [], [], [], [], [], [], [], [], [], [], [], [], [], [], [], [], [], [], [], [], [], [], [], [], []], [(4, 0), (4, 2), (4, 3), (4, 4), (4, 5), (4, 6), (4, 7), (4, 8), (4, 9), (4, 10), (4, 11), (23, 0), (23, 1), (23, 2), (23, 3), (23, 4), (23, 5), (23, 6), (23, 8), (23, 9), (23, 10), (23, 11), (29, 0), (29, 1), (29, 2), (29, 3), (29, 4), (29, 5), (29, 6), (29, 7), (34, 0), (34, 1), (34, 2), (34, 3), (34, 4), (34, 5), (34, 6), (34, 7), (34, 8), (34, 9)]⟩ else none

def pl9 (f : Nat) : Option Plan := bif Nat.blt f 3 then (
 bif Nat.beq f 1 then some ⟨[], [0, 1, 2, 3, 4, 5, 6, 7, 8, 9, 10, 11, 12, 13, 14, 15, 16], [.q [0], .q [0], .q [0], .q [0], .q [0], .q [0], .w 0, .q [1], .q [1], .q [1], .q [1], .q [1], .q [1], .q [1], .w 1, .q [2], .q [2]], [[], [0], [0, 1], [0, 1, 2], [0, 1, 2, 3], [0, 1, 2, 3, 4], [0, 1, 2, 3, 4, 5], [0, 1, 2, 3, 4, 5, 6], [0, 1, 2, 3, 4, 5, 6, 7], [0, 1, 2, 3, 4, 5, 6, 7, 8], [0, 1, 2, 3, 4, 5, 6, 7, 8, 9], [0, 1, 2, 3, 4, 5, 6, 7, 8, 9, 10], [0, 1, 2, 3, 4, 5, 6, 7, 8, 9, 10, 11], [0, 1, 2, 3, 4, 5, 6, 7, 8], [0, 1, 2, 3, 4, 5, 6, 7, 8, 9, 10, 11, 12, 13], [0, 1, 2, 3, 4, 5, 6, 7, 8, 9, 10, 11, 12, 13, 14], [0, 1, 2, 3, 4, 5, 6, 7, 8, 9, 10, 11, 12, 13, 14, 15]], [[], [], [], [], [], [], [], [], [], [], [], [], [], [], [], [], []], []⟩ else none) else (
 bif Nat.blt f 10 then (
  bif Nat.beq f 3 then some ⟨[], [0, 1, 2, 3, 4, 5, 6, 7, 8, 9, 10], [.q [0], .q [0], .q [0], .q [0], .q [0], .w 0, .q [1], .q [1], .q [1], .q [1], .q [1]], [[], [0], [0, 1], [0, 1, 2], [], [0, 1, 2, 3, 4], [0, 1, 2, 3, 4, 5], [0, 1, 2, 3, 4, 5, 6], [0, 1, 2, 3, 4, 5, 6], [0, 1, 2, 3, 4, 5, 6, 7], [0, 1, 2, 3, 4, 5, 6, 7, 8, 9]], [[], [], [], [], [], [], [], [], [], [], []], []⟩ else none) else (
  bif Nat.beq f 10 then some ⟨[], [0, 1, 2, 3, 4, 5, 6, 7, 8, 9, 10, 11, 12, 13, 14], [.q [0, 1, 2, 3, 4], .q [0, 1, 2, 3], .q [0, 1, 2, 3], .q [0, 1, 2, 3], .q [0, 1, 2, 3], .q [0], .w 0, .q [0, 1], .w 1, .q [2], .w 2, .w 3, .q [4], .q [4], .w 4], [[], [], [1], [1, 2], [1, 2, 3], [], [5], [], [5, 6, 7], [5, 6, 7, 8], [5, 6, 7, 8, 9], [1, 2, 3, 4, 5, 6, 7, 8, 9, 10], [0, 1, 2, 3, 4, 5, 6, 7, 8, 9, 10, 11], [0, 1, 2, 3, 4, 5, 6, 7, 8, 9, 10, 11, 12], [0, 1, 2, 3, 4, 5, 6, 7, 8, 9, 10, 11, 12, 13]], [[], [], [], [], [], [], [], [], [], [], [], [], [], [], []], [(2, 1), (2, 2), (2, 3), (3, 1), (3, 2), (3, 3), (4, 1), (4, 2), (4, 3)]⟩ else none))

def pl11 (f : Nat) : Option Plan := bif Nat.beq f 6 then some ⟨[], [0, 1, 2, 3, 4, 5, 6, 7, 8], [.q [0, 1], .q [0, 1], .q [0, 1], .q [0, 1], .q [0, 1], .q [0], .w 0, .q [1], .w 1], [[], [0], [0, 1], [0, 1, 2], [], [], [5], [0, 1, 2, 3, 4, 5, 6], [0, 1, 2, 3, 4, 5, 6, 7]], [[], [], [], [], [], [], [], [], []], [(1, 1), (2, 1), (3, 1)]⟩ else none

def pl15 (f : Nat) : Option Plan := bif Nat.beq f 18 then some ⟨[], [0, 1, 2, 3, 4, 5, 6, 7, 8], [.w 0, .q [0, 1], .q [0, 1], .q [1], .q [1], .q [1], .q [1], .q [1], .q [1]], [[], [], [1], [0, 1, 2], [0, 1, 2, 3], [0, 1, 2, 3, 4], [0, 1, 2, 3, 4], [0, 1, 2, 3, 4, 5], [0, 1, 2, 3, 4, 5, 6, 7]], [[], [], [], [], [], [], [], [], []], [(1, 0), (2, 0)]⟩ else none

def pl21 (f : Nat) : Option Plan := bif Nat.beq f 14 then some ⟨[], [0, 1, 2, 3], [.q [0, 1], .q [0], .w 0, .w 1], [[], [], [1], [0, 1, 2]], [[], [], [], []], [(0, 1)]⟩ else none

def pl22 (f : Nat) : Option Plan := bif Nat.beq f 11 then some ⟨[], [0, 1, 2, 3, 4, 5, 6, 7], [.q [0], .w 0, .q [0, 1], .q [0, 1], .w 1, .q [2], .w 2, .q [3]], [[], [0], [], [2], [0, 1, 2, 3], [0, 1, 2, 3, 4], [0, 1, 2, 3, 4, 5], [0, 1, 2, 3, 4, 5, 6]], [[], [], [], [], [], [], [], []], [(2, 0)]⟩ else none

def pl23 (f : Nat) : Option Plan := bif Nat.beq f 6 then some ⟨[], [0, 1, 2, 3, 4, 5, 6, 7, 8, 9], [.q [0], .q [0], .q [0], .q [0], .q [0], .q [0], .q [0], .q [0], .w 0, .q [1]], [[], [], [0, 1], [0, 1, 2], [], [], [4, 5], [4, 5, 6], [0, 1, 2, 3, 4, 5, 6, 7], [0, 1, 2, 3, 4, 5, 6, 7, 8]], [[], [], [], [], [], [], [], [], [], []], []⟩ else none

def pl30 (f : Nat) : Option Plan := bif Nat.beq f 10 then some ⟨[], [0, 1, 2, 3, 4, 5, 6, 7, 8, 9, 10, 11], [.q [0, 1], .q [0, 1], .q [0, 1], .q [0], .q [0], .q [0], .q [0], .w 0, .q [1], .q [1], .w 1, .q [2]], [[], [], [1], [], [3], [], [5], [3, 4, 5, 6], [1, 2, 3, 4, 5, 6, 7], [1, 2, 3, 4, 5, 6, 7, 8], [0, 1, 2, 3, 4, 5, 6, 7, 8, 9], [0, 1, 2, 3, 4, 5, 6, 7, 8, 9, 10]], [[8], [], [], [], [], [], [], [], [], [], [], []], [(1, 1), (2, 1)]⟩ else none

def pl32 (f : Nat) : Option Plan := bif Nat.beq f 1 then some ⟨[10], [0, 1, 2, 3, 4, 5, 6, 7, 8, 9, 11, 12], [.q [0], .q [0], .q [0], .q [0], .q [0], .q [0], .w 0, .q [1], .q [1], .q [1, 2], .h [0, 1], .w 1, .q [2]], [[], [0], [0, 1], [0, 1, 2], [], [4], [0, 1, 2, 3, 4, 5], [0, 1, 2, 3, 4, 5, 6], [0, 1, 2, 3, 4, 5, 6, 7], [0, 1, 2, 3, 4, 5, 6, 7], [], [0, 1, 2, 3, 4, 5, 6, 7, 8, 10], [0, 1, 2, 3, 4, 5, 6, 7, 8, 9, 10, 11]], [[], [], [], [], [], [], [], [], [], [], [], [], []], [(10, 0), (10, 1)]⟩ else none

def pl36 (f : Nat) : Option Plan := bif Nat.blt f 7 then (
 bif Nat.beq f 4 then some ⟨[14], [0, 1, 2, 3, 4, 5, 6, 7, 8, 9, 10, 11, 12, 13, 15, 16, 17], [.q [0], .q [0], .q [0], .q [0], .q [0], .q [0], .q [0], .q [0], .q [0], .w 0, .q [1], .q [1], .q [1], .q [1, 2], .h [0, 1], .q [1], .w 1, .q [2]], [[], [0], [0, 1], [0, 1, 2], [], [4], [4, 5], [4, 5, 6], [], [0, 1, 2, 3, 4, 5, 6, 7, 8], [0, 1, 2, 3, 4, 5, 6, 7, 8, 9], [0, 1, 2, 3, 4, 5, 6, 7, 8, 9, 10], [0, 1, 2, 3, 4, 5, 6, 7, 8, 9, 10], [0, 1, 2, 3, 4, 5, 6, 7, 8, 9, 10], [], [0, 1, 2, 3, 4, 5, 6, 7, 8, 9, 10, 11, 14], [0, 1, 2, 3, 4, 5, 6, 7, 8, 9, 10, 11, 12, 14, 15], [0, 1, 2, 3, 4, 5, 6, 7, 8, 9, 10, 11, 12, 13, 14, 15, 16]], [[], [], [], [], [], [], [], [], [], [], [], [], [], [], [], [], [], []], [(14, 0), (14, 1)]⟩ else none) else (
 bif Nat.beq f 7 then some ⟨[], [0, 1, 2, 3, 4, 5, 6, 7, 8], [.q [0], .q [0], .q [0], .q [0], .q [0], .q [0], .q [0], .w 0, .q [1]], [[], [], [], [], [2, 3], [0], [0, 1, 5], [0, 1, 2, 3, 4, 5, 6], [0, 1, 2, 3, 4, 5, 6, 7]], [[], [], [], [], [], [], [], [], []], []⟩ else none)

def pl40 (f : Nat) : Option Plan := bif Nat.blt f 3 then (
 bif Nat.beq f 1 then some ⟨[], [0, 1, 2, 3, 4, 5, 6, 7, 8, 9, 10, 11, 12, 13, 14, 15, 16, 17], [.q [0], .q [0], .q [0], .q [0], .q [0], .q [0], .q [0], .q [0], .q [0], .q [0], .q [0], .q [0], .q [0], .q [0], .q [0], .q [0], .q [0], .q [0]], [[], [0], [0, 1], [0, 1, 2], [0, 1, 2, 3], [0, 1, 2, 3, 4], [0, 1, 2, 3, 4, 5], [0, 1, 2, 3, 4, 5, 6], [0, 1, 2, 3, 4, 5, 6, 7], [0, 1, 2, 3, 4, 5, 6, 7, 8], [0, 1, 2, 3, 4, 5, 6, 7, 8, 9], [0, 1, 2, 3, 4, 5, 6, 7, 8], [0, 1, 2, 3, 4, 5, 6, 7, 8, 11], [0, 1, 2, 3, 4, 5, 6, 7, 8, 11, 12], [0, 1, 2, 3, 4, 5, 6, 7, 8, 11, 12, 13], [0, 1, 2, 3, 4, 5, 6, 7, 8, 11, 12, 13, 14], [0, 1, 2, 3, 4, 5, 6, 7, 8, 9, 10, 11, 12, 13, 14, 15], [0, 1, 2, 3, 4, 5, 6, 7, 8, 9, 10, 11, 12, 13, 14, 15, 16]], [[], [], [], [], [], [], [], [], [], [], [], [], [], [], [], [], [], []], []⟩ else none) else (
 bif Nat.beq f 3 then some ⟨[], [0, 1, 2, 3, 4, 5, 6, 7, 8, 9], [.q [0], .q [0], .q [0], .q [0], .q [0], .q [0], .q [0], .q [0], .q [0], .q [0]], [[], [0], [0, 1], [0, 1, 2], [], [4], [4, 5], [0, 1, 2, 3, 4, 5, 6], [0, 1, 2, 3, 4, 5, 6, 7], [0, 1, 2, 3, 4, 5, 6, 7, 8]], [[], [], [], [], [], [], [], [], [], []], []⟩ else none)

def pl43 (f : Nat) : Option Plan := bif Nat.beq f 1 then some ⟨[], [0, 1, 2, 3, 4, 5, 6, 7, 8, 9, 10, 11], [.q [0], .q [0], .q [0], .q [0], .q [0], .q [0], .q [0], .q [0], .q [0], .q [0], .q [0], .q [0]], [[], [0], [0, 1], [0, 1, 2], [0, 1, 2, 3], [], [5], [5, 6], [5, 6, 7], [5, 6, 7, 8], [0, 1, 2, 3, 4, 5, 6, 7, 8, 9], [0, 1, 2, 3, 4, 5, 6, 7, 8, 9, 10]], [[], [], [], [], [], [], [], [], [], [], [], []], []⟩ else none

def pl48 (f : Nat) : Option Plan := bif Nat.blt f 2 then (
 bif Nat.beq f 1 then some ⟨[], [0, 1, 2, 3, 4, 5, 6, 7, 8, 9, 10, 11], [.q [0], .q [0], .q [0], .q [0], .q [0], .q [0], .q [0], .q [0], .q [0], .q [0], .q [0], .w 0], [[], [0], [0, 1], [0, 1, 2], [], [4], [], [6], [6, 7], [6, 7, 8], [6, 7, 8, 9], [0, 1, 2, 3, 4, 5, 6, 7, 8, 9, 10]], [[], [], [], [], [], [], [], [], [], [], [], []], []⟩ else none) else (
 bif Nat.beq f 2 then some ⟨[], [0, 1, 2, 3, 4, 5, 6, 7, 8, 9, 10], [.q [0, 1], .q [0], .q [0], .q [0], .q [0], .q [0], .q [0], .w 0, .q [1], .q [1], .w 1], [[], [], [1], [1, 2], [1, 2, 3], [], [5], [1, 2, 3, 4, 5, 6], [0, 1, 2, 3, 4, 5, 6, 7], [0, 1, 2, 3, 4, 5, 6, 7, 8], [0, 1, 2, 3, 4, 5, 6, 7, 8, 9]], [[], [], [], [], [], [], [], [], [], [], []], []⟩ else none)

def pl53 (f : Nat) : Option Plan := bif Nat.beq f 7 then some ⟨[], [0, 1, 2, 3, 4, 5, 6, 7, 8, 9, 10, 11], [.q [0, 1], .q [0, 1], .q [0, 1], .q [0, 1], .q [0], .q [0], .w 0, .q [1], .q [1], .w 1, .q [2], .w 2], [[], [0], [], [2], [], [4], [4, 5], [2, 3, 4, 5, 6], [2, 3, 4, 5, 6, 7], [0, 1, 2, 3, 4, 5, 6, 7, 8], [0, 1, 2, 3, 4, 5, 6, 7, 8, 9], [0, 1, 2, 3, 4, 5, 6, 7, 8, 9, 10]], [[], [], [], [], [], [], [], [], [], [], [], []], [(0, 1), (1, 1), (2, 1), (3, 1)]⟩ else none

def pl56 (f : Nat) : Option Plan := bif Nat.beq f 1 then some ⟨[], [0, 1, 2, 3, 4, 5, 6, 7, 8, 9, 10, 11, 12], [.q [0], .q [0], .q [0], .q [0], .q [0], .q [0], .q [0], .q [0], .q [0], .q [0], .q [0], .q [0], .w 0], [[], [0], [0, 1], [0, 1, 2], [], [4], [4, 5], [4, 5, 6], [], [4, 5, 6, 7, 8], [4, 5, 6, 7, 8, 9], [4, 5, 6, 7, 8, 9, 10], [0, 1, 2, 3, 4, 5, 6, 7, 8, 9, 10, 11]], [[], [], [], [], [], [], [], [], [], [], [], [], []], []⟩ else none

def pl59 (f : Nat) : Option Plan := bif Nat.beq f 6 then some ⟨[], [0, 1, 2, 3, 4, 5, 6, 7, 8, 9, 10, 11, 12, 13, 14, 15, 16, 17, 18, 19, 20, 21, 22, 23, 24, 25, 26, 27, 28], [.q [0], .q [0], .q [0], .q [0], .q [0], .q [0], .q [0], .q [0], .q [0], .q [0], .q [0], .q [0], .q [0], .q [0], .q [0], .q [0], .q [0], .q [0], .q [0], .q [0], .q [0], .q [0], .q [0], .q [0], .q [0], .q [0], .w 0, .q [1], .q [1]], [[], [0], [], [0, 1, 2], [0, 1, 2, 3], [0, 1, 2, 3, 4], [], [6], [], [6, 7, 8], [6, 7, 8, 9], [6, 7, 8, 9, 10], [0, 1, 2, 3, 4, 5, 6, 7, 8, 9, 10, 11], [0, 1, 2, 3, 4, 5, 6, 7, 8, 9, 10, 11, 12], [0, 1, 2, 3, 4, 5, 6, 7, 8, 9, 10, 11, 12, 13], [0, 1, 2, 3, 4, 5, 6, 7, 8, 9, 10, 11, 12, 13, 14], [0, 1, 2, 3, 4, 5, 6, 7, 8, 9, 10, 11, 12, 13], [0, 1, 2, 3, 4, 5, 6, 7, 8, 9, 10, 11, 12, 13, 14, 15, 16], [0, 1, 2, 3, 4, 5, 6, 7, 8, 9, 10, 11, 12, 13, 14, 15, 16, 17], [0, 1, 2, 3, 4, 5, 6, 7, 8, 9, 10, 11, 12, 13, 14, 15, 16, 17, 18], [0, 1, 2, 3, 4, 5, 6, 7, 8, 9, 10, 11, 12, 13], [0, 1, 2, 3, 4, 5, 6, 7, 8, 9, 10, 11, 12, 13, 20], [0, 1, 2, 3, 4, 5, 6, 7, 8, 9, 10, 11, 12, 13], [0, 1, 2, 3, 4, 5, 6, 7, 8, 9, 10, 11, 12, 13, 20, 21, 22], [0, 1, 2, 3, 4, 5, 6, 7, 8, 9, 10, 11, 12, 13, 20, 21, 22, 23], [0, 1, 2, 3, 4, 5, 6, 7, 8, 9, 10, 11, 12, 13, 20, 21, 22, 23, 24], [0, 1, 2, 3, 4, 5, 6, 7, 8, 9, 10, 11, 12, 13, 14, 15, 16, 17, 18, 19, 20, 21, 22, 23, 24, 25], [0, 1, 2, 3, 4, 5, 6, 7, 8, 9, 10, 11, 12, 13, 14, 15, 16, 17, 18, 19, 20, 21, 22, 23, 24, 25, 26], [0, 1, 2, 3, 4, 5, 6, 7, 8, 9, 10, 11, 12, 13, 14, 15, 16, 17, 18, 19, 20, 21, 22, 23, 24, 25, 26, 27]], [[], [], [], [], [], [], [], [], [], [], [], [], [], [], [], [], [], [], [], [], [], [], [], [], [], [], [], [], []], []⟩ else none

def pl66 (f : Nat) : Option Plan := bif Nat.beq f 2 then some ⟨[], [0, 1, 2, 3, 4, 5, 6, 7, 8, 9, 10], [.q [0], .q [0], .q [0], .q [0], .q [0], .q [0], .q [0], .q [0], .w 0, .q [1], .q [1]], [[], [0], [0, 1], [0, 1, 2], [0, 1, 2, 3], [0, 1, 2, 3, 4], [0, 1], [0, 1], [0, 1, 2, 3, 4, 5, 6, 7], [0, 1, 2, 3, 4, 5, 6, 7, 8], [0, 1, 2, 3, 4, 5, 6, 7, 8, 9]], [[], [], [], [], [], [], [], [], [], [], []], []⟩ else none

def pl69 (f : Nat) : Option Plan := bif Nat.beq f 5 then some ⟨[], [0, 1, 2, 3, 4, 5, 6, 7, 8], [.q [0], .q [0], .q [0], .q [0], .q [0], .q [0], .q [0], .w 0, .q [1]], [[], [], [], [1, 2], [1, 2, 3], [1, 2, 3, 4], [0], [0, 1, 2, 3, 4, 5, 6], [0, 1, 2, 3, 4, 5, 6, 7]], [[], [], [], [], [], [], [], [], []], []⟩ else none

def pl81 (f : Nat) : Option Plan := bif Nat.blt f 20 then (
 bif Nat.blt f 14 then (
  bif Nat.beq f 13 then some ⟨[], [0, 1, 2, 3, 4, 5, 6, 7], [.q [0], .q [0], .q [0], .q [0], .q [0], .q [0], .q [0], .w 0], [[], [0], [0, 1], [], [], [3, 4], [3, 4, 5], [0, 1, 2, 3, 4, 5, 6]], [[], [], [], [], [], [], [], []], []⟩ else none) else (
  bif Nat.beq f 14 then some ⟨[], [0, 1, 2, 3, 4, 5, 6, 7, 8, 9, 10], [.q [0, 1], .q [0, 1], .q [0, 1], .q [0], .q [0], .q [0], .q [0], .q [0], .w 0, .q [1], .w 1], [[], [0], [0, 1], [], [3], [], [5], [3, 4, 5, 6], [3, 4, 5, 6, 7], [3, 4, 5, 6, 7, 8], [0, 1, 2, 3, 4, 5, 6, 7, 8, 9]], [[], [], [], [], [], [], [], [], [], [], []], [(1, 1), (2, 1)]⟩ else none)) else (
 bif Nat.blt f 24 then (
  bif Nat.beq f 20 then some ⟨[], [0, 1, 2, 3, 4, 5, 6, 7, 8, 9, 10], [.q [0, 1, 2], .q [0, 1, 2], .q [0, 1, 2], .q [0, 1, 2], .q [0, 1, 2], .q [0], .w 0, .q [0, 1], .q [0, 1], .w 1, .w 2], [[], [], [1], [1, 2], [1, 2, 3], [], [5], [], [7], [5, 6, 7, 8], [0, 1, 2, 3, 4, 5, 6, 7, 8, 9]], [[], [], [], [], [], [], [], [], [], [], []], [(1, 1), (1, 2), (2, 1), (2, 2), (3, 1), (3, 2), (4, 1), (4, 2)]⟩ else none) else (
  bif Nat.beq f 24 then some ⟨[], [0, 1, 2, 3, 4, 5], [.q [0], .q [0], .q [0], .q [0], .q [0], .w 0], [[], [0], [0, 1], [], [3], [0, 1, 2, 3, 4]], [[], [], [], [], [], []], []⟩ else none))

def pl92 (f : Nat) : Option Plan := bif Nat.blt f 8 then (
 bif Nat.beq f 3 then some ⟨[], [0, 1, 2, 3, 4, 5, 6, 7, 8, 9, 10, 11, 12, 13, 14, 15, 16, 17, 18], [.q [0], .q [0], .q [0], .q [0], .q [0], .q [0, 1], .q [0, 1], .w 0, .w 1, .q [2], .q [2], .q [2], .q [2], .q [2], .q [2], .q [2], .w 2, .q [3], .q [3]], [[], [0], [0, 1], [0, 1, 2], [0, 1, 2, 3], [0, 1, 2, 3, 4], [0, 1, 2, 3, 4, 5], [0, 1, 2, 3, 4], [0, 1, 2, 3, 4, 5, 6, 7], [0, 1, 2, 3, 4, 5, 6, 7, 8], [0, 1, 2, 3, 4, 5, 6, 7, 8, 9], [0, 1, 2, 3, 4, 5, 6, 7, 8, 9, 10], [0, 1, 2, 3, 4, 5, 6, 7, 8, 9, 10, 11], [0, 1, 2, 3, 4, 5, 6, 7, 8, 9, 10, 11, 12], [0, 1, 2, 3, 4, 5, 6, 7, 8, 9, 10, 11], [0, 1, 2, 3, 4, 5, 6, 7, 8, 9, 10, 11, 14], [0, 1, 2, 3, 4, 5, 6, 7, 8, 9, 10, 11, 12, 13, 14, 15], [0, 1, 2, 3, 4, 5, 6, 7, 8, 9, 10, 11, 12, 13, 14, 15, 16], [0, 1, 2, 3, 4, 5, 6, 7, 8, 9, 10, 11, 12, 13, 14, 15, 16, 17]], [[], [], [], [], [], [], [], [], [], [], [], [], [], [], [], [], [], [], []], [(5, 1), (6, 1)]⟩ else none) else (
 bif Nat.blt f 13 then (
  bif Nat.beq f 8 then some ⟨[], [0, 1, 2, 3, 4, 5, 6, 7, 8, 9, 10, 11, 12, 13, 14, 15, 16, 17, 18, 19], [.q [0], .q [0], .q [0], .q [0], .q [0], .q [0], .w 0, .q [1], .q [1], .q [1], .q [1], .q [1], .q [1], .q [1], .q [1], .q [1], .q [1], .w 1, .q [2], .q [2]], [[], [0], [], [0, 1, 2], [0, 1, 2, 3], [0, 1, 2, 3, 4], [0, 1, 2, 3, 4, 5], [0, 1, 2, 3, 4, 5, 6], [0, 1, 2, 3, 4, 5, 6, 7], [0, 1, 2, 3, 4, 5, 6, 7, 8], [0, 1, 2, 3, 4, 5, 6, 7, 8, 9], [0, 1, 2, 3, 4, 5, 6, 7, 8], [0, 1, 2, 3, 4, 5, 6, 7, 8, 9, 10, 11], [0, 1, 2, 3, 4, 5, 6, 7, 8, 9, 10, 11, 12], [0, 1, 2, 3, 4, 5, 6, 7, 8, 9, 10, 11, 12, 13], [0, 1, 2, 3, 4, 5, 6, 7, 8], [0, 1, 2, 3, 4, 5, 6, 7, 8, 15], [0, 1, 2, 3, 4, 5, 6, 7, 8, 9, 10, 11, 12, 13, 14, 15, 16], [0, 1, 2, 3, 4, 5, 6, 7, 8, 9, 10, 11, 12, 13, 14, 15, 16, 17], [0, 1, 2, 3, 4, 5, 6, 7, 8, 9, 10, 11, 12, 13, 14, 15, 16, 17, 18]], [[], [], [], [], [], [], [], [], [], [], [], [], [], [], [], [], [], [], [], []], []⟩ else none) else (
  bif Nat.beq f 13 then some ⟨[], [0, 1, 2, 3, 4, 5, 6, 7, 8, 9, 10, 11, 12], [.q [0], .q [0], .q [0], .q [0], .q [0], .q [0], .q [0], .q [0], .q [0], .q [0], .q [0], .q [0], .q [0]], [[], [0], [], [0, 1, 2], [0, 1, 2, 3], [0, 1, 2, 3, 4], [], [6], [], [6, 7, 8], [6, 7, 8, 9], [6, 7, 8, 9, 10], [0, 1, 2, 3, 4, 5, 6, 7, 8, 9, 10, 11]], [[], [], [], [], [], [], [], [], [], [], [], [], []], []⟩ else none))

def pl96 (f : Nat) : Option Plan := bif Nat.beq f 11 then some ⟨[], [0, 1, 2, 3, 4, 5, 6, 7, 8, 9, 10, 11, 12, 13], [.q [0, 1, 2], .q [0, 1, 2], .q [0, 1], .q [0, 1], .q [0], .q [0], .w 0, .q [1], .q [0, 1], .w 1, .q [2], .w 2, .q [3], .w 3], [[], [0], [], [], [], [], [4, 5], [3, 4, 5, 6], [], [2, 3, 4, 5, 6, 7, 8], [2, 3, 4, 5, 6, 7, 8, 9], [0, 1, 2, 3, 4, 5, 6, 7, 8, 9, 10], [0, 1, 2, 3, 4, 5, 6, 7, 8, 9, 10, 11], [0, 1, 2, 3, 4, 5, 6, 7, 8, 9, 10, 11, 12]], [[], [], [], [], [], [], [], [], [], [], [], [], [], []], [(0, 1), (0, 2), (1, 1), (1, 2), (2, 1)]⟩ else none

def pl100 (f : Nat) : Option Plan := bif Nat.beq f 15 then some ⟨[], [0, 1, 2, 3, 4, 5, 6, 7, 8, 9], [.q [0], .q [0], .q [0], .w 0, .q [0, 1], .q [0, 1], .q [0, 1], .w 1, .q [2], .q [2]], [[], [], [1], [0, 1, 2], [], [], [5], [0, 1, 2, 3, 4, 5, 6], [0, 1, 2, 3, 4, 5, 6, 7], [0, 1, 2, 3, 4, 5, 6, 7, 8]], [[7], [], [], [], [8], [], [], [], [], []], [(5, 0), (6, 0)]⟩ else none

def pl101 (f : Nat) : Option Plan := bif Nat.beq f 10 then some ⟨[], [0, 1, 2, 3, 4, 5, 6, 7], [.q [0, 1], .q [0, 1], .q [0], .w 0, .q [1], .w 1, .q [2], .w 2], [[], [0], [], [2], [2, 3], [0, 1, 2, 3, 4], [0, 1, 2, 3, 4, 5], [0, 1, 2, 3, 4, 5, 6]], [[], [], [], [], [], [], [], []], [(0, 1), (1, 1)]⟩ else none

def pl102 (f : Nat) : Option Plan := bif Nat.beq f 4 then some ⟨[], [0, 1, 2, 3, 4, 5, 6, 7], [.q [0, 1], .q [0, 1], .q [0, 1], .q [0, 1], .q [0, 1], .q [0], .w 0, .w 1], [[], [], [], [1, 2], [1, 2, 3], [], [5], [0, 1, 2, 3, 4, 5, 6]], [[], [], [], [], [], [], [], []], [(3, 1), (4, 1)]⟩ else none

def pl104 (f : Nat) : Option Plan := bif Nat.beq f 1 then some ⟨[], [0, 1, 2, 3, 4, 5], [.q [0], .w 0, .q [0, 1], .w 1, .w 2, .q [3]], [[], [0], [], [0, 1, 2], [0, 1, 2, 3], [0, 1, 2, 3, 4]], [[], [], [], [], [], []], [(2, 0)]⟩ else none

def pl105 (f : Nat) : Option Plan := bif Nat.blt f 5 then (
 bif Nat.beq f 1 then some ⟨[], [0, 1, 2, 3, 4, 5, 6, 7, 8, 9, 10, 11, 12, 13, 14, 15, 16, 17, 18, 19, 20, 21, 22, 23, 24], [.q [0], .q [0], .q [0], .q [0], .w 0, .q [0, 1], .q [0, 1], .q [0, 1], .q [0, 1], .w 1, .q [0, 1, 2], .q [0, 1, 2], .q [0, 1, 2], .q [0, 1, 2], .w 2, .q [0, 1, 2, 3], .q [0, 1, 2, 3], .q [0, 1, 2, 3], .q [0, 1, 2, 3], .q [0, 1, 2, 3], .q [0, 1, 2, 3], .w 3, .q [4], .w 4, .q [5]], [[], [0], [], [2], [0, 1, 2, 3], [], [5], [], [7], [0, 1, 2, 3, 4, 5, 6, 7, 8], [], [10], [], [12], [0, 1, 2, 3, 4, 5, 6, 7, 8, 9, 10, 11, 12, 13], [], [15], [15, 16], [], [18], [18, 19], [0, 1, 2, 3, 4, 5, 6, 7, 8, 9, 10, 11, 12, 13, 14, 15, 16, 17, 18, 19, 20], [0, 1, 2, 3, 4, 5, 6, 7, 8, 9, 10, 11, 12, 13, 14, 15, 16, 17, 18, 19, 20, 21], [0, 1, 2, 3, 4, 5, 6, 7, 8, 9, 10, 11, 12, 13, 14, 15, 16, 17, 18, 19, 20, 21, 22], [0, 1, 2, 3, 4, 5, 6, 7, 8, 9, 10, 11, 12, 13, 14, 15, 16, 17, 18, 19, 20, 21, 22, 23]], [[], [], [], [], [], [], [], [], [], [], [], [], [], [], [], [], [], [], [], [], [], [], [], [], []], [(5, 0), (6, 0), (7, 0), (8, 0), (10, 0), (10, 1), (11, 0), (11, 1), (12, 0), (12, 1), (13, 0), (13, 1), (15, 0), (15, 1), (15, 2), (16, 0), (16, 1), (16, 2), (17, 0), (17, 1), (17, 2), (18, 0), (18, 1), (18, 2), (19, 0), (19, 1), (19, 2), (20, 0), (20, 1), (20, 2)]⟩ else none) else (
 bif Nat.beq f 5 then some ⟨[], [0, 1, 2, 3, 4, 5, 6, 7, 8, 9, 10, 11], [.q [0], .q [0], .q [0], .q [0], .q [0], .q [0], .q [0], .q [0], .q [0], .q [0], .w 0, .q [1]], [[], [0], [], [0, 1, 2], [0, 1, 2, 3], [], [5], [], [5, 6, 7], [5, 6, 7, 8], [0, 1, 2, 3, 4, 5, 6, 7, 8, 9], [0, 1, 2, 3, 4, 5, 6, 7, 8, 9, 10]], [[], [], [], [], [], [], [], [], [], [], [], []], []⟩ else none)

def pl106 (f : Nat) : Option Plan := bif Nat.beq f 5 then some ⟨[], [0, 1, 2, 3, 4, 5], [.q [0], .w 0, .q [0, 1], .q [1], .q [1], .w 1], [[], [0], [], [0, 1, 2], [0, 1, 2, 3], [0, 1, 2, 3, 4]], [[], [], [], [], [], []], [(2, 0)]⟩ else none

def pl112 (f : Nat) : Option Plan := bif Nat.blt f 10 then (
 bif Nat.blt f 8 then (
  bif Nat.beq f 7 then some ⟨[], [0, 1, 2, 3, 4, 5, 6, 7, 8, 9, 10, 11, 12, 13, 14], [.q [0], .q [0], .q [0], .q [0, 1], .q [0, 1], .q [0, 1], .q [0], .q [0], .q [0], .q [0, 1], .q [0, 1], .q [0], .w 0, .q [1], .w 1], [[], [], [1], [], [], [4], [], [6], [6, 7], [], [9], [0, 1, 2, 6, 7, 8], [0, 1, 2, 6, 7, 8, 11], [0, 1, 2, 3, 4, 5, 6, 7, 8, 9, 10, 11, 12], [0, 1, 2, 3, 4, 5, 6, 7, 8, 9, 10, 11, 12, 13]], [[], [], [], [], [], [], [], [], [], [], [], [], [], [], []], [(5, 1)]⟩ else none) else (
  bif Nat.blt f 9 then (
   bif Nat.beq f 8 then some ⟨[], [0, 1, 2, 3, 4, 5, 6, 7, 8, 9, 10, 11, 12, 13, 14], [.q [0], .q [0], .q [0], .q [0, 1], .q [0, 1], .q [0, 1], .q [0], .q [0], .q [0], .q [0, 1], .q [0, 1], .q [0], .w 0, .q [1], .w 1], [[], [], [1], [], [], [4], [], [6], [6, 7], [], [9], [0, 1, 2, 6, 7, 8], [0, 1, 2, 6, 7, 8, 11], [0, 1, 2, 3, 4, 5, 6, 7, 8, 9, 10, 11, 12], [0, 1, 2, 3, 4, 5, 6, 7, 8, 9, 10, 11, 12, 13]], [[], [], [], [], [], [], [], [], [], [], [], [], [], [], []], [(5, 1)]⟩ else none) else (
   bif Nat.beq f 9 then some ⟨[], [0, 1, 2, 3, 4, 5, 6, 7, 8, 9, 10, 11, 12, 13, 14], [.q [0], .q [0], .q [0], .q [0, 1], .q [0, 1], .q [0, 1], .q [0], .q [0], .q [0], .q [0, 1], .q [0, 1], .q [0], .w 0, .q [1], .w 1], [[], [], [1], [], [], [4], [], [6], [6, 7], [], [9], [0, 1, 2, 6, 7, 8], [0, 1, 2, 6, 7, 8, 11], [0, 1, 2, 3, 4, 5, 6, 7, 8, 9, 10, 11, 12], [0, 1, 2, 3, 4, 5, 6, 7, 8, 9, 10, 11, 12, 13]], [[], [], [], [], [], [], [], [], [], [], [], [], [], [], []], [(5, 1)]⟩ else none))) else (
 bif Nat.blt f 18 then (
  bif Nat.blt f 17 then (
   bif Nat.beq f 10 then some ⟨[], [0, 1, 2, 3, 4, 5, 6, 7, 8, 9, 10, 11, 12, 13, 14], [.q [0], .q [0], .q [0], .q [0, 1], .q [0, 1], .q [0, 1], .q [0], .q [0], .q [0], .q [0, 1], .q [0, 1], .q [0], .w 0, .q [1], .w 1], [[], [], [1], [], [], [4], [], [6], [6, 7], [], [9], [0, 1, 2, 6, 7, 8], [0, 1, 2, 6, 7, 8, 11], [0, 1, 2, 3, 4, 5, 6, 7, 8, 9, 10, 11, 12], [0, 1, 2, 3, 4, 5, 6, 7, 8, 9, 10, 11, 12, 13]], [[], [], [], [], [], [], [], [], [], [], [], [], [], [], []], [(5, 1)]⟩ else none) else (
   bif Nat.beq f 17 then some ⟨[], [0, 1, 2, 3, 4, 5, 6, 7, 8, 9, 10, 11, 12, 13, 14], [.q [0], .q [0], .q [0], .q [0, 1], .q [0, 1], .q [0, 1], .q [0], .q [0], .q [0], .q [0, 1], .q [0, 1], .q [0], .w 0, .q [1], .w 1], [[], [], [1], [], [], [4], [], [6], [6, 7], [], [9], [0, 1, 2, 6, 7, 8], [0, 1, 2, 6, 7, 8, 11], [0, 1, 2, 3, 4, 5, 6, 7, 8, 9, 10, 11, 12], [0, 1, 2, 3, 4, 5, 6, 7, 8, 9, 10, 11, 12, 13]], [[], [], [], [], [], [], [], [], [], [], [], [], [], [], []], [(5, 1)]⟩ else none)) else (
  bif Nat.blt f 23 then (
   bif Nat.beq f 18 then some ⟨[], [0, 1, 2, 3, 4, 5, 6, 7, 8, 9, 10, 11, 12, 13, 14], [.q [0], .q [0], .q [0], .q [0, 1], .q [0, 1], .q [0, 1], .q [0], .q [0], .q [0], .q [0, 1], .q [0, 1], .q [0], .w 0, .q [1], .w 1], [[], [], [1], [], [], [4], [], [6], [6, 7], [], [9], [0, 1, 2, 6, 7, 8], [0, 1, 2, 6, 7, 8, 11], [0, 1, 2, 3, 4, 5, 6, 7, 8, 9, 10, 11, 12], [0, 1, 2, 3, 4, 5, 6, 7, 8, 9, 10, 11, 12, 13]], [[], [], [], [], [], [], [], [], [], [], [], [], [], [], []], [(5, 1)]⟩ else none) else (
   bif Nat.beq f 23 then some ⟨[], [0, 1, 2, 3, 4, 5, 6, 7, 8, 9, 10, 11, 12, 13, 14], [.q [0], .q [0], .q [0], .q [0, 1], .q [0, 1], .q [0, 1], .q [0], .q [0], .q [0], .q [0, 1], .q [0, 1], .q [0], .w 0, .q [1], .w 1], [[], [], [1], [], [], [4], [], [6], [6, 7], [], [9], [0, 1, 2, 6, 7, 8], [0, 1, 2, 6, 7, 8, 11], [0, 1, 2, 3, 4, 5, 6, 7, 8, 9, 10, 11, 12], [0, 1, 2, 3, 4, 5, 6, 7, 8, 9, 10, 11, 12, 13]], [[], [], [], [], [], [], [], [], [], [], [], [], [], [], []], [(5, 1)]⟩ else none)))

def pl135 (f : Nat) : Option Plan := bif Nat.beq f 12 then some ⟨[], [0, 1, 2, 3, 4, 5, 6, 7, 8, 9, 10, 11], [.q [0], .q [0], .q [0], .q [0], .q [0], .q [0], .q [0], .q [0], .q [0], .q [0], .w 0, .q [1]], [[], [0], [], [0, 1, 2], [0, 1, 2, 3], [], [5], [], [5, 6, 7], [5, 6, 7, 8], [0, 1, 2, 3, 4, 5, 6, 7, 8, 9], [0, 1, 2, 3, 4, 5, 6, 7, 8, 9, 10]], [[], [], [], [], [], [], [], [], [], [], [], []], []⟩ else none

def pl136 (f : Nat) : Option Plan := bif Nat.beq f 6 then some ⟨[], [0, 1, 2, 3, 4, 5, 6, 7], [.q [0, 1], .q [0, 1], .q [0], .w 0, .q [1], .w 1, .q [2], .w 2], [[], [0], [], [2], [2, 3], [0, 1, 2, 3, 4], [0, 1, 2, 3, 4, 5], [0, 1, 2, 3, 4, 5, 6]], [[], [], [], [], [], [], [], []], [(0, 1), (1, 1)]⟩ else none

def pl138 (f : Nat) : Option Plan := bif Nat.blt f 19 then (
 bif Nat.beq f 18 then some ⟨[], [0, 1, 2, 3, 4, 5, 6, 7, 8, 9, 10, 11, 12, 13, 14, 15], [.q [0], .q [0], .q [0], .q [0], .q [0], .q [0], .q [0], .q [0], .q [0], .q [0], .fa 0 11 12, .fj, .fx, .q [1], .q [1], .w 1], [[], [0], [0, 1], [0, 1, 2], [], [4], [4, 5], [4, 5, 6], [0, 1, 2, 3], [], [0, 1, 2, 3, 4, 5, 6, 7, 8, 9], [0, 1, 2, 3, 4, 5, 6, 7, 8, 9, 10], [0, 1, 2, 3, 4, 5, 6, 7, 8, 9, 10, 11], [0, 1, 2, 3, 4, 5, 6, 7, 8, 9, 10], [0, 1, 2, 3, 4, 5, 6, 7, 8, 9, 10, 13], [0, 1, 2, 3, 4, 5, 6, 7, 8, 9, 10, 13, 14]], [[], [], [], [], [], [], [], [], [], [], [], [], [], [], [], []], []⟩ else none) else (
 bif Nat.beq f 19 then some ⟨[], [0, 1, 2, 3, 4, 5, 6, 7, 8, 9, 10, 11, 12, 13], [.q [0, 1, 2], .q [0, 1], .q [0, 1], .q [0, 1], .q [0, 1], .q [0], .w 0, .w 1, .w 2, .q [3], .q [3], .q [3], .q [3], .q [3]], [[], [], [1], [1, 2], [1, 2, 3], [], [5], [1, 2, 3, 4, 5, 6], [0, 1, 2, 3, 4, 5, 6, 7], [0, 1, 2, 3, 4, 5, 6, 7, 8], [0, 1, 2, 3, 4, 5, 6, 7, 8, 9], [0, 1, 2, 3, 4, 5, 6, 7, 8, 9], [0, 1, 2, 3, 4, 5, 6, 7, 8, 9, 10], [0, 1, 2, 3, 4, 5, 6, 7, 8, 9, 10, 11, 12]], [[], [], [], [], [], [], [], [], [], [], [], [], [], []], [(1, 1), (2, 1), (3, 1), (4, 1)]⟩ else none)

def pl139 (f : Nat) : Option Plan := bif Nat.beq f 8 then some ⟨[], [0, 1, 2, 3, 4, 5, 6, 7, 8, 9, 10, 11, 12, 13], [.q [0, 1], .q [0, 1], .q [0], .q [0], .q [0], .q [0], .q [0], .q [0], .q [0], .w 0, .q [1], .w 1, .q [2], .w 2], [[], [0], [], [2], [2, 3], [2, 3, 4], [], [2, 3, 4, 5, 6], [2, 3, 4, 5, 6, 7], [2, 3, 4, 5, 6, 7, 8], [2, 3, 4, 5, 6, 7, 8, 9], [0, 1, 2, 3, 4, 5, 6, 7, 8, 9, 10], [0, 1, 2, 3, 4, 5, 6, 7, 8, 9, 10, 11], [0, 1, 2, 3, 4, 5, 6, 7, 8, 9, 10, 11, 12]], [[], [], [], [], [], [], [], [], [], [], [], [], [], []], [(0, 1), (1, 1)]⟩ else none

def pl142 (f : Nat) : Option Plan := bif Nat.beq f 5 then some ⟨[], [0, 1, 2, 3, 4, 5, 6, 7], [.q [0], .q [0], .q [0], .q [0], .q [0], .q [0], .w 0, .q [1]], [[], [], [0, 1], [], [], [3, 4], [0, 1, 2, 3, 4, 5], [0, 1, 2, 3, 4, 5, 6]], [[0], [], [], [0], [], [], [], []], []⟩ else none

def pl149 (f : Nat) : Option Plan := bif Nat.beq f 10 then some ⟨[], [0, 1, 2, 3, 4, 5, 6, 7, 8, 9, 10, 11, 12, 13, 14], [.q [0, 1], .q [0, 1], .q [0], .q [0], .q [0], .q [0], .q [0], .q [0], .q [0], .q [0], .w 0, .q [1], .w 1, .q [2], .w 2], [[], [0], [], [], [3], [3, 4], [3, 4, 5], [3, 4, 5, 6], [3, 4, 5, 6, 7], [], [2, 3, 4, 5, 6, 7, 8, 9], [2, 3, 4, 5, 6, 7, 8, 9, 10], [0, 1, 2, 3, 4, 5, 6, 7, 8, 9, 10, 11], [0, 1, 2, 3, 4, 5, 6, 7, 8, 9, 10, 11, 12], [0, 1, 2, 3, 4, 5, 6, 7, 8, 9, 10, 11, 12, 13]], [[], [], [], [], [], [], [], [], [], [], [], [], [], [], []], [(0, 1), (1, 1)]⟩ else none

def pl164 (f : Nat) : Option Plan := bif Nat.beq f 6 then some ⟨[], [0, 1, 2, 3, 4, 5, 6, 7], [.q [0, 1], .q [0, 1], .q [0], .q [0], .w 0, .q [1], .w 1, .q [2]], [[], [], [], [], [2, 3], [1, 2, 3, 4], [0, 1, 2, 3, 4, 5], [0, 1, 2, 3, 4, 5, 6]], [[], [], [], [], [], [], [], []], [(0, 1)]⟩ else none

def pl167 (f : Nat) : Option Plan := bif Nat.beq f 6 then some ⟨[], [0, 1, 2, 3, 4, 5, 6, 7], [.q [0, 1], .q [0, 1], .q [0], .q [0], .w 0, .q [1], .q [0, 1], .w 1], [[], [], [], [], [2, 3], [1, 2, 3, 4], [], [0, 1, 2, 3, 4, 5, 6]], [[], [], [], [], [], [], [], []], [(0, 1)]⟩ else none

def pl178 (f : Nat) : Option Plan := bif Nat.blt f 12 then (
 bif Nat.beq f 5 then some ⟨[], [0, 1, 2, 3, 4, 5, 6, 7], [.q [0, 1], .q [0, 1], .q [0], .q [0], .q [0], .w 0, .q [1], .w 1], [[], [0], [], [], [3], [2, 3, 4], [0, 1, 2, 3, 4, 5], [0, 1, 2, 3, 4, 5, 6]], [[], [], [], [], [], [], [], []], [(0, 1), (1, 1)]⟩ else none) else (
 bif Nat.beq f 12 then some ⟨[], [0, 1, 2, 3, 4, 5, 6, 7, 8], [.q [0, 1], .q [0, 1], .q [0], .q [0], .w 0, .q [1], .w 1, .q [2], .w 2], [[], [0], [], [], [2, 3], [2, 3, 4], [0, 1, 2, 3, 4, 5], [0, 1, 2, 3, 4, 5, 6], [0, 1, 2, 3, 4, 5, 6, 7]], [[], [], [], [], [], [], [], [], []], [(0, 1), (1, 1)]⟩ else none)

def pl179 (f : Nat) : Option Plan := bif Nat.beq f 4 then some ⟨[], [0, 1, 2, 3, 4], [.q [0], .q [0], .q [0], .q [0], .q [0]], [[], [], [1], [0], [0, 1, 2, 3]], [[], [], [], [], []], []⟩ else none

def pl184 (f : Nat) : Option Plan := bif Nat.blt f 6 then (
 bif Nat.beq f 4 then some ⟨[], [0, 1, 2, 3, 4, 5, 6, 7, 8, 9, 10, 11, 12, 13, 14, 15, 16], [.q [0], .q [0], .q [0], .q [0], .q [0], .q [0], .q [0], .q [0], .q [0], .q [0], .q [0], .q [0], .q [0], .q [0], .w 0, .q [1], .q [1]], [[], [], [0, 1], [0, 1, 2], [0, 1, 2, 3], [0, 1, 2, 3], [0, 1, 2, 3], [0, 1, 2, 3, 5, 6], [0, 1, 2, 3, 5, 6, 7], [0, 1, 2, 3], [0, 1, 2, 3], [0, 1, 2, 3, 10], [0, 1, 2, 3, 9, 10, 11], [0, 1, 2, 3, 9, 10, 11, 12], [0, 1, 2, 3, 4, 5, 6, 7, 8, 9, 10, 11, 12, 13], [0, 1, 2, 3, 4, 5, 6, 7, 8, 9, 10, 11, 12, 13, 14], [0, 1, 2, 3, 4, 5, 6, 7, 8, 9, 10, 11, 12, 13, 14, 15]], [[], [], [], [], [], [], [], [], [], [], [], [], [], [], [], [], []], []⟩ else none) else (
 bif Nat.beq f 6 then some ⟨[], [0, 1, 2, 3, 4, 5, 6, 7, 8, 9, 10, 11, 12, 13, 14, 15, 16, 17], [.q [0], .q [0], .q [0, 1], .q [0, 1], .q [0, 1], .q [0], .q [0], .q [0], .q [0], .q [0], .q [0], .q [0], .q [0], .q [0], .q [0], .w 0, .q [1], .w 1], [[], [], [], [], [3], [], [], [6], [5, 6, 7], [5, 6, 7, 8], [], [], [10, 11], [10, 11, 12], [0, 1, 5, 6, 7, 8, 9, 10, 11, 12, 13], [0, 1, 5, 6, 7, 8, 9, 10, 11, 12, 13, 14], [0, 1, 2, 3, 4, 5, 6, 7, 8, 9, 10, 11, 12, 13, 14, 15], [0, 1, 2, 3, 4, 5, 6, 7, 8, 9, 10, 11, 12, 13, 14, 15, 16]], [[], [], [], [], [], [], [], [], [], [], [], [], [], [], [], [], [], []], [(4, 1)]⟩ else none)

def pl185 (f : Nat) : Option Plan := bif Nat.blt f 17 then (
 bif Nat.blt f 11 then (
  bif Nat.beq f 5 then some ⟨[], [0, 1, 2, 3, 4, 5, 6, 7, 8, 9, 10], [.q [0], .q [0], .q [0], .q [0], .q [0], .q [0], .q [0], .q [0], .q [0], .w 0, .q [1]], [[], [], [], [1, 2], [1, 2, 3], [], [], [5, 6], [5, 6, 7], [0, 1, 2, 3, 4, 5, 6, 7, 8], [0, 1, 2, 3, 4, 5, 6, 7, 8, 9]], [[], [], [], [], [], [], [], [], [], [], []], []⟩ else none) else (
  bif Nat.beq f 11 then some ⟨[], [0, 1, 2, 3, 4, 5, 6, 7, 8, 9, 10, 11, 12, 13, 14, 15, 16, 17], [.q [0], .q [0], .q [0, 1], .q [0, 1], .q [0, 1], .q [0], .q [0], .q [0], .q [0], .q [0], .q [0], .q [0], .q [0], .q [0], .q [0], .w 0, .q [1], .w 1], [[], [], [], [], [3], [], [], [6], [5, 6, 7], [5, 6, 7, 8], [], [], [10, 11], [10, 11, 12], [0, 1, 5, 6, 7, 8, 9, 10, 11, 12, 13], [0, 1, 5, 6, 7, 8, 9, 10, 11, 12, 13, 14], [0, 1, 2, 3, 4, 5, 6, 7, 8, 9, 10, 11, 12, 13, 14, 15], [0, 1, 2, 3, 4, 5, 6, 7, 8, 9, 10, 11, 12, 13, 14, 15, 16]], [[], [], [], [], [], [], [], [], [], [], [], [], [], [], [], [], [], []], [(4, 1)]⟩ else none)) else (
 bif Nat.blt f 23 then (
  bif Nat.beq f 17 then some ⟨[], [0, 1, 2, 3, 4, 5, 6, 7, 8, 9, 10, 11], [.q [0], .q [0], .q [0], .q [0], .q [0], .q [0], .q [0], .q [0], .q [0], .w 0, .q [1], .q [1]], [[], [], [], [1, 2], [1, 2, 3], [], [], [5, 6], [5, 6, 7], [0, 1, 2, 3, 4, 5, 6, 7, 8], [0, 1, 2, 3, 4, 5, 6, 7, 8, 9], [0, 1, 2, 3, 4, 5, 6, 7, 8, 9, 10]], [[], [], [], [], [], [], [], [], [], [], [], []], []⟩ else none) else (
  bif Nat.blt f 35 then (
   bif Nat.beq f 23 then some ⟨[], [0, 1, 2, 3, 4, 5, 6, 7, 8, 9, 10, 11, 12, 13, 14, 15, 16, 17], [.q [0], .q [0], .q [0, 1], .q [0, 1], .q [0, 1], .q [0], .q [0], .q [0], .q [0], .q [0], .q [0], .q [0], .q [0], .q [0], .q [0], .w 0, .q [1], .w 1], [[], [], [], [], [3], [], [], [6], [5, 6, 7], [5, 6, 7, 8], [], [], [10, 11], [10, 11, 12], [0, 1, 5, 6, 7, 8, 9, 10, 11, 12, 13], [0, 1, 5, 6, 7, 8, 9, 10, 11, 12, 13, 14], [0, 1, 2, 3, 4, 5, 6, 7, 8, 9, 10, 11, 12, 13, 14, 15], [0, 1, 2, 3, 4, 5, 6, 7, 8, 9, 10, 11, 12, 13, 14, 15, 16]], [[], [], [], [], [], [], [], [], [], [], [], [], [], [], [], [], [], []], [(4, 1)]⟩ else none) else (
   bif Nat.beq f 35 then some ⟨[], [0, 1, 2, 3, 4, 5, 6, 7, 8, 9, 10, 11, 12, 13], [.q [0], .q [0], .q [0], .q [0], .q [0], .q [0], .q [0], .q [0], .q [0], .q [0], .q [0], .w 0, .q [1], .q [1]], [[], [], [], [], [2, 3], [1, 2, 3, 4], [1, 2, 3, 4, 5], [], [], [7, 8], [7, 8, 9], [0, 1, 2, 3, 4, 5, 6, 7, 8, 9, 10], [0, 1, 2, 3, 4, 5, 6, 7, 8, 9, 10, 11], [0, 1, 2, 3, 4, 5, 6, 7, 8, 9, 10, 11, 12]], [[], [], [], [], [], [], [], [], [], [], [], [], [], []], []⟩ else none)))

def pl192 (f : Nat) : Option Plan := bif Nat.blt f 15 then (
 bif Nat.beq f 11 then some ⟨[], [0, 1, 2, 3, 4, 5, 6, 7, 8], [.q [0], .q [0], .q [0], .q [0], .q [0], .q [0], .q [0], .q [0], .w 0], [[], [], [], [1, 2], [0, 1, 2, 3], [], [], [5, 6], [0, 1, 2, 3, 4, 5, 6, 7]], [[], [], [], [], [], [], [], [], []], []⟩ else none) else (
 bif Nat.beq f 15 then some ⟨[], [0, 1, 2, 3, 4, 5, 6, 7, 8], [.q [0], .q [0], .q [0], .q [0], .q [0], .q [0], .q [0], .q [0], .w 0], [[], [], [], [1, 2], [0, 1, 2, 3], [], [], [5, 6], [0, 1, 2, 3, 4, 5, 6, 7]], [[], [], [], [], [], [], [], [], []], []⟩ else none)

def pl196 (f : Nat) : Option Plan := bif Nat.beq f 6 then some ⟨[], [0, 1, 2, 3, 4, 5, 6, 7, 8, 9, 10, 11, 12], [.q [0, 1], .q [0, 1], .q [0, 1], .q [0, 1], .q [0, 1], .q [0, 1], .q [0], .q [0], .w 0, .q [1], .q [0, 1], .w 1, .q [2]], [[], [0], [], [0, 1, 2], [0, 1, 2, 3], [], [], [], [6, 7], [5, 6, 7, 8], [], [0, 1, 2, 3, 4, 5, 6, 7, 8, 9, 10], [0, 1, 2, 3, 4, 5, 6, 7, 8, 9, 10, 11]], [[], [], [], [], [], [], [], [], [], [], [2], [], []], [(0, 1), (1, 1), (3, 1), (4, 1)]⟩ else none

def pl201 (f : Nat) : Option Plan := bif Nat.beq f 16 then some ⟨[], [0, 1, 2, 3, 4, 5, 6, 7, 8], [.q [0, 1, 2], .q [0], .w 0, .q [0, 1], .q [0, 1], .w 1, .q [2], .w 2, .q [3]], [[], [], [1], [], [3], [1, 2, 3, 4], [1, 2, 3, 4, 5], [0, 1, 2, 3, 4, 5, 6], [0, 1, 2, 3, 4, 5, 6, 7]], [[9], [], [], [], [], [], [], [], []], [(3, 0)]⟩ else none

def pl204 (f : Nat) : Option Plan := bif Nat.blt f 11 then (
 bif Nat.beq f 3 then some ⟨[], [0, 1, 2, 3, 4, 5, 6, 7, 8, 9, 10, 11, 12, 13], [.q [0], .q [0], .q [0], .q [0], .q [0], .q [0], .q [0], .q [0], .w 0, .q [1], .q [1], .q [1], .q [1], .q [1]], [[], [], [1], [1, 2], [1, 2, 3], [], [1, 2, 3, 4, 5], [1, 2, 3, 4, 5, 6], [0, 1, 2, 3, 4, 5, 6, 7], [0, 1, 2, 3, 4, 5, 6, 7, 8], [0, 1, 2, 3, 4, 5, 6, 7, 8, 9], [0, 1, 2, 3, 4, 5, 6, 7, 8, 9], [0, 1, 2, 3, 4, 5, 6, 7, 8, 9, 10], [0, 1, 2, 3, 4, 5, 6, 7, 8, 9, 10, 11, 12]], [[], [], [], [], [], [], [], [], [], [], [], [], [], []], []⟩ else none) else (
 bif Nat.beq f 11 then some ⟨[], [0, 1, 2, 3, 4, 5, 6, 7, 8, 9, 10, 11], [.q [0, 1], .q [0], .q [0], .q [0], .w 0, .q [0, 1], .w 1, .q [2], .q [2], .q [2], .q [2], .q [2]], [[], [], [], [], [1, 2, 3], [], [0, 1, 2, 3, 4, 5], [0, 1, 2, 3, 4, 5, 6], [0, 1, 2, 3, 4, 5, 6, 7], [0, 1, 2, 3, 4, 5, 6, 7], [0, 1, 2, 3, 4, 5, 6, 7, 8], [0, 1, 2, 3, 4, 5, 6, 7, 8, 9, 10]], [[], [], [], [], [], [], [], [], [], [], [], []], [(5, 0)]⟩ else none)

def pl216 (f : Nat) : Option Plan := bif Nat.blt f 15 then (
 bif Nat.beq f 11 then some ⟨[], [0, 1, 2, 3, 4, 5, 6, 7, 8], [.q [0], .q [0], .q [0], .q [0], .q [0], .q [0], .q [0], .q [0], .w 0], [[], [], [], [1, 2], [0, 1, 2, 3], [], [], [5, 6], [0, 1, 2, 3, 4, 5, 6, 7]], [[], [], [], [], [], [], [], [], []], []⟩ else none) else (
 bif Nat.beq f 15 then some ⟨[], [0, 1, 2, 3, 4, 5, 6, 7, 8], [.q [0], .q [0], .q [0], .q [0], .q [0], .q [0], .q [0], .q [0], .w 0], [[], [], [], [1, 2], [0, 1, 2, 3], [], [], [5, 6], [0, 1, 2, 3, 4, 5, 6, 7]], [[], [], [], [], [], [], [], [], []], []⟩ else none)

def pl217 (f : Nat) : Option Plan := bif Nat.beq f 6 then some ⟨[], [0, 1, 2, 3, 4, 5, 6, 7, 8, 9, 10, 11, 12], [.q [0], .q [0], .q [0], .q [0], .w 0, .q [0, 1], .q [0, 1], .w 1, .q [0, 1, 2], .q [0, 1, 2], .q [0, 1, 2], .w 2, .q [3]], [[], [], [], [1, 2], [0, 1, 2, 3], [], [5], [0, 1, 2, 3, 4, 5, 6], [], [], [8, 9], [0, 1, 2, 3, 4, 5, 6, 7, 8, 9, 10], [0, 1, 2, 3, 4, 5, 6, 7, 8, 9, 10, 11]], [[], [], [], [], [], [], [], [], [], [], [], [], []], [(10, 0), (10, 1)]⟩ else none

def pl223 (f : Nat) : Option Plan := bif Nat.beq f 15 then some ⟨[], [0, 1, 2, 3, 4, 5, 6, 7, 8, 9, 10], [.q [0, 1], .q [0, 1], .q [0], .q [0], .q [0], .q [0], .w 0, .q [1], .w 1, .q [2], .w 2], [[], [0], [], [], [], [], [2, 3, 4, 5], [2, 3, 4, 5, 6], [0, 1, 2, 3, 4, 5, 6, 7], [0, 1, 2, 3, 4, 5, 6, 7, 8], [0, 1, 2, 3, 4, 5, 6, 7, 8, 9]], [[], [], [], [], [], [], [], [], [], [], []], [(0, 1), (1, 1)]⟩ else none

def pl228 (f : Nat) : Option Plan := bif Nat.blt f 14 then (
 bif Nat.blt f 8 then (
  bif Nat.beq f 2 then some ⟨[2, 3, 4, 5], [0, 1, 6, 7, 8], [.q [0], .q [0], .q [0], .h [0], .q [0], .h [0], .q [0], .w 0, .q [1]], [[], [], [], [2], [], [4], [0, 1, 2, 3, 4, 5], [0, 1, 2, 3, 4, 5, 6], [0, 1, 2, 3, 4, 5, 6, 7]], [[], [], [], [], [], [], [], [], []], [(3, 0), (5, 0)]⟩ else none) else (
  bif Nat.beq f 8 then some ⟨[], [0, 1, 2, 3, 4, 5, 6, 7, 8, 9, 10, 11, 12, 13, 14, 15, 16, 17, 18, 19, 20, 21, 22, 23], [.q [0], .q [0], .q [0], .q [0], .q [0], .q [0], .q [0], .q [0], .q [0], .q [0], .q [0], .q [0], .q [0], .q [0], .q [0], .q [0], .q [0], .q [0], .q [0], .q [0], .q [0], .w 0, .q [1], .q [1]], [[], [0], [0, 1], [0, 1, 2], [0, 1, 2, 3], [0, 1, 2, 3, 4], [0, 1, 2, 3], [0, 1, 2, 3, 4, 5, 6], [0, 1, 2, 3, 4, 5, 6, 7], [0, 1, 2, 3, 4, 5, 6, 7, 8], [0, 1, 2, 3, 4, 5, 6, 7, 8, 9], [0, 1, 2, 3, 4, 5, 6, 7, 8, 9], [0, 1, 2, 3, 4, 5, 6, 7, 8, 9, 11], [0, 1, 2, 3, 4, 5, 6, 7, 8, 9], [0, 1, 2, 3, 4, 5, 6, 7, 8, 9, 13], [0, 1, 2, 3, 4, 5, 6, 7, 8, 9, 13, 14], [0, 1, 2, 3, 4, 5, 6, 7, 8, 9, 13, 14, 15], [0, 1, 2, 3, 4, 5, 6, 7, 8, 9], [0, 1, 2, 3, 4, 5, 6, 7, 8, 9, 17], [0, 1, 2, 3, 4, 5, 6, 7, 8, 9, 13, 14, 15, 16, 17, 18], [0, 1, 2, 3, 4, 5, 6, 7, 8, 9, 13, 14, 15, 16, 17, 18, 19], [0, 1, 2, 3, 4, 5, 6, 7, 8, 9, 10, 11, 12, 13, 14, 15, 16, 17, 18, 19, 20], [0, 1, 2, 3, 4, 5, 6, 7, 8, 9, 10, 11, 12, 13, 14, 15, 16, 17, 18, 19, 20, 21], [0, 1, 2, 3, 4, 5, 6, 7, 8, 9, 10, 11, 12, 13, 14, 15, 16, 17, 18, 19, 20, 21, 22]], [[], [], [], [], [], [], [], [], [], [], [], [], [], [], [], [], [], [], [], [], [], [], [], []], []⟩ else none)) else (
 bif Nat.blt f 1000002 then (
  bif Nat.beq f 14 then some ⟨[], [0, 1, 2, 3, 4, 5, 6, 7, 8, 9, 10], [.q [0], .q [0], .q [0], .q [0], .q [0], .q [0], .q [0], .q [0], .q [0], .w 0, .q [1]], [[], [], [1], [1, 2], [1, 2, 3], [], [1, 2, 3, 4, 5], [1, 2, 3, 4, 5, 6], [], [0, 1, 2, 3, 4, 5, 6, 7, 8], [0, 1, 2, 3, 4, 5, 6, 7, 8, 9]], [[], [], [], [], [], [], [], [], [], [], []], []⟩ else none) else (
  bif Nat.beq f 1000002 then some ⟨[], [0, 1, 2, 3, 4, 5, 6, 7, 8], [.q [0], .q [0], .q [0], .q [0], .q [0], .q [0], .q [0], .w 0, .q [1]], [[], [], [], [2], [], [4], [0, 1, 2, 3, 4, 5], [0, 1, 2, 3, 4, 5, 6], [0, 1, 2, 3, 4, 5, 6, 7]], [[], [], [], [], [], [], [], [], []], []⟩ else none))

def pl229 (f : Nat) : Option Plan := bif Nat.blt f 6 then (
 bif Nat.beq f 2 then some ⟨[], [0, 1, 2, 3, 4, 5, 6, 7, 8, 9, 10, 11, 12, 13, 14, 15, 16, 17, 18, 19, 20, 21, 22, 23, 24, 25, 26, 27, 28, 29, 30], [.q [0], .q [0], .q [0], .q [0], .q [0], .q [0], .q [0], .q [0], .q [0], .q [0], .q [0], .q [0], .q [0], .q [0], .q [0], .q [0], .q [0], .q [0], .q [0], .q [0], .q [0], .q [0], .q [0], .q [0], .q [0], .q [0], .q [0], .q [0], .w 0, .q [1], .q [1]], [[], [0], [0, 1], [0, 1, 2], [0, 1, 2], [0, 1, 2, 4], [0, 1, 2, 3, 4, 5], [0, 1, 2, 3, 4, 5, 6], [0, 1, 2, 3, 4, 5, 6, 7], [0, 1, 2, 3, 4, 5, 6, 7, 8], [0, 1, 2, 3, 4, 5, 6, 7, 8], [0, 1, 2, 3, 4, 5, 6, 7, 8, 9, 10], [0, 1, 2, 3, 4, 5, 6, 7, 8, 9, 10, 11], [0, 1, 2, 3, 4, 5, 6, 7, 8, 9, 10, 11, 12], [0, 1, 2, 3, 4, 5, 6, 7, 8, 9, 10, 11, 12, 13], [0, 1, 2, 3, 4, 5, 6, 7, 8, 9, 10, 11, 12, 13, 14], [0, 1, 2, 3, 4, 5, 6, 7, 8, 9, 10, 11, 12, 13, 14, 15], [0, 1, 2, 3, 4, 5, 6, 7, 8, 9, 10, 11, 12, 13, 14, 15], [0, 1, 2, 3, 4, 5, 6, 7, 8, 9, 10, 11, 12, 13, 14, 15, 16, 17], [0, 1, 2, 3, 4, 5, 6, 7, 8, 9, 10, 11, 12, 13, 14, 15, 16, 17, 18], [0, 1, 2, 3, 4, 5, 6, 7, 8, 9, 10, 11, 12, 13, 14, 15], [0, 1, 2, 3, 4, 5, 6, 7, 8, 9, 10, 11, 12, 13, 14, 15, 20], [0, 1, 2, 3, 4, 5, 6, 7, 8, 9, 10, 11, 12, 13, 14, 15, 20, 21], [0, 1, 2, 3, 4, 5, 6, 7, 8, 9, 10, 11, 12, 13, 14, 15, 16, 17, 18, 19, 20, 21, 22], [0, 1, 2, 3, 4, 5, 6, 7, 8, 9, 10, 11, 12, 13, 14, 15, 16, 17, 18, 19, 20, 21, 22, 23], [0, 1, 2, 3, 4, 5, 6, 7, 8, 9, 10, 11, 12, 13, 14, 15, 16, 17, 18, 19, 20, 21, 22, 23, 24], [0, 1, 2, 3, 4, 5, 6, 7, 8, 9, 10, 11, 12, 13, 14, 15, 16, 17, 18, 19, 20, 21, 22, 23, 24, 25], [0, 1, 2, 3, 4, 5, 6, 7, 8, 9, 10, 11, 12, 13, 14, 15, 16, 17, 18, 19, 20, 21, 22, 23, 24, 25, 26], [0, 1, 2, 3, 4, 5, 6, 7, 8, 9, 10, 11, 12, 13, 14, 15, 16, 17, 18, 19, 20, 21, 22, 23, 24, 25, 26, 27], [0, 1, 2, 3, 4, 5, 6, 7, 8, 9, 10, 11, 12, 13, 14, 15, 16, 17, 18, 19, 20, 21, 22, 23, 24, 25, 26, 27, 28], [0, 1, 2, 3, 4, 5, 6, 7, 8, 9, 10, 11, 12, 13, 14, 15, 16, 17, 18, 19, 20, 21, 22, 23, 24, 25, 26, 27, 28, 29]], [[], [], [], [], [], [], [], [], [], [], [], [], [], [], [], [], [], [], [], [], [], [], [], [], [], [], [], [], [], [], []], []⟩ else none) else (
 bif Nat.beq f 6 then some ⟨[], [0, 1, 2, 3, 4, 5, 6, 7, 8, 9, 10, 11, 12, 13, 14], [.q [0], .q [0], .q [0], .q [0], .q [0], .q [0], .q [0], .q [0], .q [0], .w 0, .q [1], .q [1], .q [1], .q [1], .q [1]], [[], [], [1], [], [], [3, 4], [3, 4, 5], [1, 2, 3, 4, 5, 6], [1, 2, 3, 4, 5, 6, 7], [0, 1, 2, 3, 4, 5, 6, 7, 8], [0, 1, 2, 3, 4, 5, 6, 7, 8, 9], [0, 1, 2, 3, 4, 5, 6, 7, 8, 9, 10], [0, 1, 2, 3, 4, 5, 6, 7, 8, 9, 10], [0, 1, 2, 3, 4, 5, 6, 7, 8, 9, 10, 11], [0, 1, 2, 3, 4, 5, 6, 7, 8, 9, 10, 11, 12, 13]], [[], [], [], [], [], [], [], [], [], [], [], [], [], [], []], []⟩ else none)

def pl231 (f : Nat) : Option Plan := bif Nat.beq f 3 then some ⟨[], [0, 1, 2, 3, 4, 5, 6, 7, 8, 9, 10, 11, 12, 13, 14, 15, 16, 17, 18, 19, 20, 21, 22, 23], [.q [0], .q [0], .q [0], .q [0], .q [0, 1], .q [0, 1], .q [0, 1], .q [0, 1], .q [0], .q [0], .q [0], .q [0], .q [0], .q [0], .q [0], .q [0], .q [0], .q [0], .q [0], .q [0], .q [0], .w 0, .q [1], .w 1], [[], [], [], [1, 2], [], [], [], [5, 6], [], [], [], [9, 10], [8, 9, 10, 11], [8, 9, 10, 11, 12], [], [], [], [15, 16], [14, 15, 16, 17], [14, 15, 16, 17, 18], [0, 1, 2, 3, 8, 9, 10, 11, 12, 13, 14, 15, 16, 17, 18, 19], [0, 1, 2, 3, 8, 9, 10, 11, 12, 13, 14, 15, 16, 17, 18, 19, 20], [0, 1, 2, 3, 4, 5, 6, 7, 8, 9, 10, 11, 12, 13, 14, 15, 16, 17, 18, 19, 20, 21], [0, 1, 2, 3, 4, 5, 6, 7, 8, 9, 10, 11, 12, 13, 14, 15, 16, 17, 18, 19, 20, 21, 22]], [[], [], [], [], [], [], [], [], [], [], [], [], [], [], [], [], [], [], [], [], [], [], [], []], [(7, 1)]⟩ else none

def pl239 (f : Nat) : Option Plan := bif Nat.beq f 1 then some ⟨[], [0, 1, 2, 3, 4, 5, 6], [.q [0, 1], .q [0], .w 0, .q [0, 1], .q [1], .w 1, .q [2]], [[], [], [1], [], [0, 1, 2, 3], [0, 1, 2, 3, 4], [0, 1, 2, 3, 4, 5]], [[], [], [], [], [], [], []], [(3, 0)]⟩ else none

def pl240 (f : Nat) : Option Plan := bif Nat.beq f 1 then some ⟨[], [0, 1, 2, 3, 4, 5, 6], [.q [0, 1], .q [0], .w 0, .q [0, 1], .q [1], .w 1, .q [2]], [[], [], [1], [], [0, 1, 2, 3], [0, 1, 2, 3, 4], [0, 1, 2, 3, 4, 5]], [[], [], [], [], [], [], []], [(3, 0)]⟩ else none

def pl243 (f : Nat) : Option Plan := bif Nat.blt f 10 then (
 bif Nat.beq f 5 then some ⟨[], [0, 1, 2, 3, 4, 5, 6, 7, 8, 9, 10, 11, 12, 13], [.q [0, 1], .q [0], .q [0], .q [0], .q [0], .q [0], .q [0], .q [0], .q [0], .q [0], .w 0, .q [1], .q [1], .w 1], [[], [], [1], [1, 2], [1, 2, 3], [], [], [6], [5, 6, 7], [5, 6, 7, 8], [1, 2, 3, 4, 5, 6, 7, 8, 9], [0, 1, 2, 3, 4, 5, 6, 7, 8, 9, 10], [0, 1, 2, 3, 4, 5, 6, 7, 8, 9, 10, 11], [0, 1, 2, 3, 4, 5, 6, 7, 8, 9, 10, 11, 12]], [[], [], [], [], [], [], [], [], [], [], [], [], [], []], []⟩ else none) else (
 bif Nat.beq f 10 then some ⟨[11], [0, 1, 2, 3, 4, 5, 6, 7, 8, 9, 10, 12, 13], [.q [0], .q [0], .q [0], .q [0], .q [0], .q [0], .q [0], .w 0, .q [1], .q [1], .q [1, 2], .h [0, 1], .w 1, .q [2]], [[], [0], [0, 1], [0, 1, 2], [], [], [5], [0, 1, 2, 3, 4, 5, 6], [0, 1, 2, 3, 4, 5, 6, 7], [0, 1, 2, 3, 4, 5, 6, 7, 8], [0, 1, 2, 3, 4, 5, 6, 7, 8], [], [0, 1, 2, 3, 4, 5, 6, 7, 8, 9, 11], [0, 1, 2, 3, 4, 5, 6, 7, 8, 9, 10, 11, 12]], [[], [], [], [], [], [], [], [], [], [], [], [], [], []], [(11, 0), (11, 1)]⟩ else none)

def pl245 (f : Nat) : Option Plan := bif Nat.blt f 5 then (
 bif Nat.beq f 2 then some ⟨[], [0, 1, 2, 3, 4, 5, 6, 7, 8, 9], [.q [0], .q [0], .q [0], .q [0], .q [0], .w 0, .q [0, 1], .w 1, .q [2], .q [2]], [[], [0], [0, 1], [0, 1, 2], [], [0, 1, 2, 3, 4], [], [0, 1, 2, 3, 4, 5, 6], [0, 1, 2, 3, 4, 5, 6, 7], [0, 1, 2, 3, 4, 5, 6, 7, 8]], [[], [], [], [], [], [], [], [], [], []], []⟩ else none) else (
 bif Nat.beq f 5 then some ⟨[11], [0, 1, 2, 3, 4, 5, 6, 7, 8, 9, 10, 12, 13], [.q [0], .q [0], .q [0], .q [0], .q [0], .q [0], .q [0], .w 0, .q [1], .q [1], .q [1, 2], .h [0, 1], .w 1, .q [2]], [[], [0], [0, 1], [0, 1, 2], [], [], [5], [0, 1, 2, 3, 4, 5, 6], [0, 1, 2, 3, 4, 5, 6, 7], [0, 1, 2, 3, 4, 5, 6, 7, 8], [0, 1, 2, 3, 4, 5, 6, 7, 8], [], [0, 1, 2, 3, 4, 5, 6, 7, 8, 9, 11], [0, 1, 2, 3, 4, 5, 6, 7, 8, 9, 10, 11, 12]], [[], [], [], [], [], [], [], [], [], [], [], [], [], []], [(11, 0), (11, 1)]⟩ else none)

def pl248 (f : Nat) : Option Plan := bif Nat.beq f 3 then some ⟨[], [0, 1, 2, 3, 4, 5, 6, 7, 8, 9, 10, 11, 12, 13, 14, 15], [.q [0], .q [0], .q [0, 1], .q [0, 1], .q [0], .q [0], .q [0], .q [0], .q [0], .q [0], .q [0], .q [0], .q [0], .w 0, .q [1], .w 1], [[], [], [], [], [], [], [4, 5], [4, 5, 6], [], [], [8, 9], [8, 9, 10], [0, 1, 4, 5, 6, 7, 8, 9, 10, 11], [0, 1, 4, 5, 6, 7, 8, 9, 10, 11, 12], [0, 1, 2, 3, 4, 5, 6, 7, 8, 9, 10, 11, 12, 13], [0, 1, 2, 3, 4, 5, 6, 7, 8, 9, 10, 11, 12, 13, 14]], [[], [], [], [], [], [], [], [], [], [], [], [], [], [], [], []], []⟩ else none

def pl255 (f : Nat) : Option Plan := bif Nat.blt f 4 then (
 bif Nat.blt f 3 then (
  bif Nat.beq f 1 then some ⟨[], [0, 1, 2, 3, 4, 5, 6, 7, 8, 9, 10, 11, 12, 13, 14, 15, 16, 17, 18], [.q [0], .q [0], .q [0], .q [0], .q [0], .q [0], .q [0], .q [0], .q [0], .q [0], .q [0], .q [0], .q [0], .q [0], .q [0], .q [0], .q [0], .q [0], .q [0]], [[], [0], [0, 1], [0, 1, 2], [0, 1, 2, 3], [0, 1, 2, 3, 4], [0, 1, 2, 3, 4, 5], [0, 1, 2, 3, 4, 5, 6], [0, 1, 2, 3, 4, 5, 6, 7], [0, 1, 2, 3, 4, 5, 6, 7, 8], [0, 1, 2, 3, 4, 5, 6, 7], [0, 1, 2, 3, 4, 5, 6, 7, 10], [0, 1, 2, 3, 4, 5, 6, 7, 10, 11], [0, 1, 2, 3, 4, 5, 6, 7, 10, 11, 12], [0, 1, 2, 3, 4, 5, 6, 7, 10, 11, 12, 13], [0, 1, 2, 3, 4, 5, 6, 7, 8, 9, 10, 11, 12, 13, 14], [0, 1, 2, 3, 4, 5, 6, 7, 8, 9, 10, 11, 12, 13, 14, 15], [0, 1, 2, 3, 4, 5, 6, 7, 8, 9, 10, 11, 12, 13, 14, 15, 16], [0, 1, 2, 3, 4, 5, 6, 7, 8, 9, 10, 11, 12, 13, 14, 15, 16, 17]], [[], [], [], [], [], [], [], [], [], [], [], [], [], [], [], [], [], [], []], []⟩ else none) else (
  bif Nat.beq f 3 then some ⟨[], [0, 1, 2, 3, 4, 5, 6, 7, 8, 9, 10, 11, 12, 13], [.q [0], .q [0], .q [0], .q [0], .q [0], .q [0], .q [0], .q [0], .q [0], .q [0], .q [0], .q [0], .q [0], .q [0]], [[], [0], [0, 1], [0, 1, 2], [0, 1, 2, 3], [0, 1, 2, 3, 4], [0, 1, 2, 3, 4, 5], [0, 1, 2, 3, 4, 5, 6], [0, 1, 2, 3], [0, 1, 2, 3, 8], [0, 1, 2, 3, 4, 5, 6, 7, 8, 9], [0, 1, 2, 3, 4, 5, 6, 7, 8, 9, 10], [0, 1, 2, 3, 4, 5, 6, 7, 8, 9, 10, 11], [0, 1, 2, 3, 4, 5, 6, 7, 8, 9, 10, 11, 12]], [[], [], [], [], [], [], [], [], [], [], [], [], [], []], []⟩ else none)) else (
 bif Nat.blt f 6 then (
  bif Nat.beq f 4 then some ⟨[], [0, 1, 2, 3, 4, 5, 6, 7, 8, 9, 10, 11], [.q [0], .q [0], .q [0], .q [0], .q [0], .q [0], .q [0], .q [0], .q [0], .q [0], .w 0, .q [1]], [[], [], [1], [1, 2], [1, 2, 3], [], [5], [1, 2, 3, 4, 5, 6], [1, 2, 3, 4, 5, 6, 7], [], [0, 1, 2, 3, 4, 5, 6, 7, 8, 9], [0, 1, 2, 3, 4, 5, 6, 7, 8, 9, 10]], [[], [], [], [], [], [], [], [], [], [], [], []], []⟩ else none) else (
  bif Nat.blt f 9 then (
   bif Nat.beq f 6 then some ⟨[], [0, 1, 2, 3, 4, 5, 6, 7, 8, 9, 10, 11, 12, 13, 14, 15, 16, 17], [.q [0, 1], .q [0, 1], .q [0, 1], .q [0, 1], .q [0, 1], .q [0, 1], .q [0, 1], .q [0, 1], .q [0, 1], .q [0, 1], .q [0, 1, 2], .q [0, 1, 2], .q [0], .w 0, .q [1], .w 1, .q [2], .w 2], [[], [0], [0, 1], [0, 1, 2], [], [4], [], [6], [6, 7], [6, 7, 8], [], [10], [], [12], [0, 1, 2, 3, 4, 5, 6, 7, 8, 9, 12, 13], [0, 1, 2, 3, 4, 5, 6, 7, 8, 9, 12, 13, 14], [0, 1, 2, 3, 4, 5, 6, 7, 8, 9, 10, 11, 12, 13, 14, 15], [0, 1, 2, 3, 4, 5, 6, 7, 8, 9, 10, 11, 12, 13, 14, 15, 16]], [[], [], [], [], [], [], [], [], [], [], [], [], [], [], [], [], [], []], [(1, 1), (2, 1), (3, 1), (4, 1), (5, 1), (7, 1), (8, 1), (9, 1), (10, 1), (10, 2), (11, 1), (11, 2)]⟩ else none) else (
   bif Nat.beq f 9 then some ⟨[], [0, 1, 2, 3, 4, 5, 6, 7, 8, 9, 10, 11], [.q [0], .w 0, .q [1], .q [1], .q [1], .q [1], .q [1], .q [1], .q [1], .w 1, .q [2], .q [2]], [[], [0], [0, 1], [0, 1, 2], [0, 1, 2, 3], [0, 1, 2, 3, 4], [0, 1, 2, 3, 4, 5], [0, 1, 2], [0, 1, 2], [0, 1, 2, 3, 4, 5, 6, 7, 8], [0, 1, 2, 3, 4, 5, 6, 7, 8, 9], [0, 1, 2, 3, 4, 5, 6, 7, 8, 9, 10]], [[], [], [], [], [], [], [], [], [], [], [], []], []⟩ else none)))

def pl259 (f : Nat) : Option Plan := bif Nat.beq f 1 then some ⟨[], [0, 1, 2, 3, 4, 5, 6, 7, 8], [.q [0], .q [0], .q [0], .q [0], .q [0], .q [0], .w 0, .q [1], .q [1]], [[], [0], [0, 1], [0, 1, 2], [], [], [0, 1, 2, 3, 4, 5], [0, 1, 2, 3, 4, 5, 6], [0, 1, 2, 3, 4, 5, 6, 7]], [[], [], [], [], [], [], [], [], []], []⟩ else none

def pl260 (f : Nat) : Option Plan := bif Nat.beq f 2 then some ⟨[], [0, 1, 2, 3, 4, 5, 6, 7], [.q [0], .q [0], .q [0], .q [0], .q [0], .q [0], .w 0, .q [1]], [[], [0], [0, 1], [0, 1, 2], [], [], [0, 1, 2, 3, 4, 5], [0, 1, 2, 3, 4, 5, 6]], [[], [], [], [], [], [], [], []], []⟩ else none

def pl261 (f : Nat) : Option Plan := bif Nat.beq f 1 then some ⟨[], [0, 1, 2, 3, 4, 5, 6, 7, 8, 9, 10, 11, 12], [.q [0], .q [0], .q [0], .q [0], .q [0], .q [0], .q [0], .q [0], .q [0], .q [0], .q [0], .q [0], .q [0]], [[], [0], [0, 1], [0, 1, 2], [0, 1, 2, 3], [0, 1, 2, 3, 4], [0, 1, 2, 3], [0, 1, 2, 3, 6], [0, 1, 2, 3, 6, 7], [0, 1, 2, 3, 6, 7, 8], [0, 1, 2, 3, 6, 7, 8, 9], [0, 1, 2, 3, 4, 5, 6, 7, 8, 9, 10], [0, 1, 2, 3, 4, 5, 6, 7, 8, 9, 10, 11]], [[], [], [], [], [], [], [], [], [], [], [], [], []], []⟩ else none

def pl262 (f : Nat) : Option Plan := bif Nat.beq f 3 then some ⟨[], [0, 1, 2, 3, 4, 5, 6, 7, 8, 9, 10, 11, 12, 13, 14, 15], [.q [0], .q [0], .q [0, 1], .q [0, 1], .q [0], .q [0], .q [0], .q [0], .q [0], .q [0], .q [0], .q [0], .q [0], .w 0, .q [1], .w 1], [[], [], [], [], [], [], [4, 5], [4, 5, 6], [], [], [8, 9], [8, 9, 10], [0, 1, 4, 5, 6, 7, 8, 9, 10, 11], [0, 1, 4, 5, 6, 7, 8, 9, 10, 11, 12], [0, 1, 2, 3, 4, 5, 6, 7, 8, 9, 10, 11, 12, 13], [0, 1, 2, 3, 4, 5, 6, 7, 8, 9, 10, 11, 12, 13, 14]], [[], [], [], [], [], [], [], [], [], [], [], [], [], [], [], []], []⟩ else none

def planT (f id : Nat) : Option Plan := bif Nat.blt f 136 then (
 bif Nat.blt f 53 then (
  bif Nat.blt f 22 then (
   bif Nat.blt f 9 then (
    bif Nat.blt f 4 then (
     bif Nat.beq f 3 then pl3 id else none) else (
     bif Nat.blt f 5 then (
      bif Nat.beq f 4 then pl4 id else none) else (
      bif Nat.beq f 5 then pl5 id else none))) else (
    bif Nat.blt f 15 then (
     bif Nat.blt f 11 then (
      bif Nat.beq f 9 then pl9 id else none) else (
      bif Nat.beq f 11 then pl11 id else none)) else (
     bif Nat.blt f 21 then (
      bif Nat.beq f 15 then pl15 id else none) else (
      bif Nat.beq f 21 then pl21 id else none)))) else (
   bif Nat.blt f 36 then (
    bif Nat.blt f 30 then (
     bif Nat.blt f 23 then (
      bif Nat.beq f 22 then pl22 id else none) else (
      bif Nat.beq f 23 then pl23 id else none)) else (
     bif Nat.blt f 32 then (
      bif Nat.beq f 30 then pl30 id else none) else (
      bif Nat.beq f 32 then pl32 id else none))) else (
    bif Nat.blt f 43 then (
     bif Nat.blt f 40 then (
      bif Nat.beq f 36 then pl36 id else none) else (
      bif Nat.beq f 40 then pl40 id else none)) else (
     bif Nat.blt f 48 then (
      bif Nat.beq f 43 then pl43 id else none) else (
      bif Nat.beq f 48 then pl48 id else none))))) else (
  bif Nat.blt f 100 then (
   bif Nat.blt f 69 then (
    bif Nat.blt f 59 then (
     bif Nat.blt f 56 then (
      bif Nat.beq f 53 then pl53 id else none) else (
      bif Nat.beq f 56 then pl56 id else none)) else (
     bif Nat.blt f 66 then (
      bif Nat.beq f 59 then pl59 id else none) else (
      bif Nat.beq f 66 then pl66 id else none))) else (
    bif Nat.blt f 92 then (
     bif Nat.blt f 81 then (
      bif Nat.beq f 69 then pl69 id else none) else (
      bif Nat.beq f 81 then pl81 id else none)) else (
     bif Nat.blt f 96 then (
      bif Nat.beq f 92 then pl92 id else none) else (
      bif Nat.beq f 96 then pl96 id else none)))) else (
   bif Nat.blt f 105 then (
    bif Nat.blt f 102 then (
     bif Nat.blt f 101 then (
      bif Nat.beq f 100 then pl100 id else none) else (
      bif Nat.beq f 101 then pl101 id else none)) else (
     bif Nat.blt f 104 then (
      bif Nat.beq f 102 then pl102 id else none) else (
      bif Nat.beq f 104 then pl104 id else none))) else (
    bif Nat.blt f 112 then (
     bif Nat.blt f 106 then (
      bif Nat.beq f 105 then pl105 id else none) else (
      bif Nat.beq f 106 then pl106 id else none)) else (
     bif Nat.blt f 135 then (
      bif Nat.beq f 112 then pl112 id else none) else (
      bif Nat.beq f 135 then pl135 id else none)))))) else (
 bif Nat.blt f 216 then (
  bif Nat.blt f 178 then (
   bif Nat.blt f 142 then (
    bif Nat.blt f 138 then (
     bif Nat.beq f 136 then pl136 id else none) else (
     bif Nat.blt f 139 then (
      bif Nat.beq f 138 then pl138 id else none) else (
      bif Nat.beq f 139 then pl139 id else none))) else (
    bif Nat.blt f 164 then (
     bif Nat.blt f 149 then (
      bif Nat.beq f 142 then pl142 id else none) else (
      bif Nat.beq f 149 then pl149 id else none)) else (
     bif Nat.blt f 167 then (
      bif Nat.beq f 164 then pl164 id else none) else (
      bif Nat.beq f 167 then pl167 id else none)))) else (
   bif Nat.blt f 192 then (
    bif Nat.blt f 184 then (
     bif Nat.blt f 179 then (
      bif Nat.beq f 178 then pl178 id else none) else (
      bif Nat.beq f 179 then pl179 id else none)) else (
     bif Nat.blt f 185 then (
      bif Nat.beq f 184 then pl184 id else none) else (
      bif Nat.beq f 185 then pl185 id else none))) else (
    bif Nat.blt f 201 then (
     bif Nat.blt f 196 then (
      bif Nat.beq f 192 then pl192 id else none) else (
      bif Nat.beq f 196 then pl196 id else none)) else (
     bif Nat.blt f 204 then (
      bif Nat.beq f 201 then pl201 id else none) else (
      bif Nat.beq f 204 then pl204 id else none))))) else (
  bif Nat.blt f 243 then (
   bif Nat.blt f 229 then (
    bif Nat.blt f 223 then (
     bif Nat.blt f 217 then (
      bif Nat.beq f 216 then pl216 id else none) else (
      bif Nat.beq f 217 then pl217 id else none)) else (
     bif Nat.blt f 228 then (
      bif Nat.beq f 223 then pl223 id else none) else (
      bif Nat.beq f 228 then pl228 id else none))) else (
    bif Nat.blt f 239 then (
     bif Nat.blt f 231 then (
      bif Nat.beq f 229 then pl229 id else none) else (
      bif Nat.beq f 231 then pl231 id else none)) else (
     bif Nat.blt f 240 then (
      bif Nat.beq f 239 then pl239 id else none) else (
      bif Nat.beq f 240 then pl240 id else none)))) else (
   bif Nat.blt f 259 then (
    bif Nat.blt f 248 then (
     bif Nat.blt f 245 then (
      bif Nat.beq f 243 then pl243 id else none) else (
      bif Nat.beq f 245 then pl245 id else none)) else (
     bif Nat.blt f 255 then (
      bif Nat.beq f 248 then pl248 id else none) else (
      bif Nat.beq f 255 then pl255 id else none))) else (
    bif Nat.blt f 261 then (
     bif Nat.blt f 260 then (
      bif Nat.beq f 259 then pl259 id else none) else (
      bif Nat.beq f 260 then pl260 id else none)) else (
     bif Nat.blt f 262 then (
      bif Nat.beq f 261 then pl261 id else none) else (
      bif Nat.beq f 262 then pl262 id else none))))))

def okB (t n : Nat) : Bool := (Nat.beq t 95 && Nat.beq n 2) || (Nat.beq t 131 && Nat.beq n 3)

def toldT (f : Nat) : Option (Lim → List AV → Sto → Option (AV × Sto)) := bif Nat.blt f 76 then (
 bif Nat.beq f 43 then some (strT 5) else none) else (
 bif Nat.blt f 142 then (
  bif Nat.beq f 76 then some (copyT okB) else none) else (
  bif Nat.beq f 142 then some (delT 5) else none))

def bzT (f : Nat) : Bool := bif Nat.blt f 131 then (
 bif Nat.beq f 95 then true else false) else (
 bif Nat.beq f 131 then true else false)

def backT (f : Nat) : Option Nat := bif Nat.beq f 188 then some 33 else none

noncomputable def env : Env := ⟨Tryz.prog, globT, kindT, muT, rrT, cloneT, planT, toldT, bzT, backT⟩

end Go.Proofs.YtchenbmikiohdaaGreatDoor
