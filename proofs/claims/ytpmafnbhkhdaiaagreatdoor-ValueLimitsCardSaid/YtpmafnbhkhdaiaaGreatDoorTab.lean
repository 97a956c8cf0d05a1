/-
  The evaluator's settings for this program: written by a program (wip/tel/Gen.lean.txt).
-/
import Derived.Test.YtpmafnbhkhdaiaaGreatDoorEvI
import Derived.Test.YtpmafnbhkhdaiaaGreatDoorTenK
import Derived.Test.YtpmafnbhkhdaiaaGreatDoorTenP
import Derived.Test.YtpmafnbhkhdaiaaGreatDoorTenL
import Derived.Test.YtpmafnbhkhdaiaaGreatDoorTenN
import Derived.Test.YtpmafnbhkhdaiaaGreatDoorRows
set_option linter.unusedSimpArgs false
set_option linter.unusedVariables false
namespace Go.Proofs.YtpmafnbhkhdaiaaGreatDoor
open Go.Tel
abbrev RT := Nat → Option (List PV)
abbrev QT := AV → Sto → Prop
def kindT (f : Nat) : Kind := bif Nat.blt f 126 then (
 bif Nat.blt f 57 then (
  bif Nat.blt f 33 then (
   bif Nat.blt f 17 then (
    bif Nat.blt f 14 then (
     bif Nat.blt f 6 then (
      bif Nat.beq f 4 then .esc else .rd) else (
      bif Nat.blt f 12 then (
       bif Nat.beq f 6 then .esc else .rd) else (
       bif Nat.beq f 12 then .im else .rd))) else (
     bif Nat.blt f 15 then (
      bif Nat.beq f 14 then .im else .rd) else (
      bif Nat.blt f 16 then (
       bif Nat.beq f 15 then .esc else .rd) else (
       bif Nat.beq f 16 then .esc else .rd)))) else (
    bif Nat.blt f 21 then (
     bif Nat.blt f 18 then (
      bif Nat.beq f 17 then .im else .rd) else (
      bif Nat.blt f 20 then (
       bif Nat.beq f 18 then .im else .rd) else (
       bif Nat.beq f 20 then .im else .rd))) else (
     bif Nat.blt f 25 then (
      bif Nat.blt f 24 then (
       bif Nat.beq f 21 then .im else .rd) else (
       bif Nat.beq f 24 then .im else .rd)) else (
      bif Nat.blt f 29 then (
       bif Nat.beq f 25 then .esc else .rd) else (
       bif Nat.beq f 29 then .im else .rd))))) else (
   bif Nat.blt f 44 then (
    bif Nat.blt f 37 then (
     bif Nat.blt f 34 then (
      bif Nat.beq f 33 then .im else .rd) else (
      bif Nat.blt f 35 then (
       bif Nat.beq f 34 then .im else .rd) else (
       bif Nat.beq f 35 then .im else .rd))) else (
     bif Nat.blt f 41 then (
      bif Nat.blt f 38 then (
       bif Nat.beq f 37 then .im else .rd) else (
       bif Nat.beq f 38 then .im else .rd)) else (
      bif Nat.blt f 43 then (
       bif Nat.beq f 41 then .im else .rd) else (
       bif Nat.beq f 43 then .im else .rd)))) else (
    bif Nat.blt f 49 then (
     bif Nat.blt f 45 then (
      bif Nat.beq f 44 then .im else .rd) else (
      bif Nat.blt f 47 then (
       bif Nat.beq f 45 then .im else .rd) else (
       bif Nat.beq f 47 then .im else .rd))) else (
     bif Nat.blt f 51 then (
      bif Nat.blt f 50 then (
       bif Nat.beq f 49 then .im else .rd) else (
       bif Nat.beq f 50 then .im else .rd)) else (
      bif Nat.blt f 55 then (
       bif Nat.beq f 51 then .im else .rd) else (
       bif Nat.beq f 55 then .im else .rd)))))) else (
  bif Nat.blt f 82 then (
   bif Nat.blt f 64 then (
    bif Nat.blt f 60 then (
     bif Nat.blt f 58 then (
      bif Nat.beq f 57 then .im else .rd) else (
      bif Nat.blt f 59 then (
       bif Nat.beq f 58 then .im else .rd) else (
       bif Nat.beq f 59 then .im else .rd))) else (
     bif Nat.blt f 61 then (
      bif Nat.beq f 60 then .im else .rd) else (
      bif Nat.blt f 63 then (
       bif Nat.beq f 61 then .im else .rd) else (
       bif Nat.beq f 63 then .im else .rd)))) else (
    bif Nat.blt f 76 then (
     bif Nat.blt f 69 then (
      bif Nat.beq f 64 then .esc else .rd) else (
      bif Nat.blt f 72 then (
       bif Nat.beq f 69 then .im else .rd) else (
       bif Nat.beq f 72 then .im else .rd))) else (
     bif Nat.blt f 79 then (
      bif Nat.blt f 78 then (
       bif Nat.beq f 76 then .im else .rd) else (
       bif Nat.beq f 78 then .im else .rd)) else (
      bif Nat.blt f 80 then (
       bif Nat.beq f 79 then .im else .rd) else (
       bif Nat.beq f 80 then .im else .rd))))) else (
   bif Nat.blt f 99 then (
    bif Nat.blt f 91 then (
     bif Nat.blt f 85 then (
      bif Nat.beq f 82 then .im else .rd) else (
      bif Nat.blt f 90 then (
       bif Nat.beq f 85 then .im else .rd) else (
       bif Nat.beq f 90 then .im else .rd))) else (
     bif Nat.blt f 94 then (
      bif Nat.blt f 92 then (
       bif Nat.beq f 91 then .im else .rd) else (
       bif Nat.beq f 92 then .im else .rd)) else (
      bif Nat.blt f 97 then (
       bif Nat.beq f 94 then .im else .rd) else (
       bif Nat.beq f 97 then .esc else .rd)))) else (
    bif Nat.blt f 107 then (
     bif Nat.blt f 100 then (
      bif Nat.beq f 99 then .esc else .rd) else (
      bif Nat.blt f 101 then (
       bif Nat.beq f 100 then .im else .rd) else (
       bif Nat.beq f 101 then .im else .rd))) else (
     bif Nat.blt f 113 then (
      bif Nat.blt f 111 then (
       bif Nat.beq f 107 then .im else .rd) else (
       bif Nat.beq f 111 then .im else .rd)) else (
      bif Nat.blt f 114 then (
       bif Nat.beq f 113 then .im else .rd) else (
       bif Nat.beq f 114 then .im else .rd))))))) else (
 bif Nat.blt f 200 then (
  bif Nat.blt f 167 then (
   bif Nat.blt f 135 then (
    bif Nat.blt f 130 then (
     bif Nat.blt f 127 then (
      bif Nat.beq f 126 then .esc else .rd) else (
      bif Nat.blt f 129 then (
       bif Nat.beq f 127 then .im else .rd) else (
       bif Nat.beq f 129 then .im else .rd))) else (
     bif Nat.blt f 131 then (
      bif Nat.beq f 130 then .im else .rd) else (
      bif Nat.blt f 134 then (
       bif Nat.beq f 131 then .esc else .rd) else (
       bif Nat.beq f 134 then .im else .rd)))) else (
    bif Nat.blt f 146 then (
     bif Nat.blt f 139 then (
      bif Nat.beq f 135 then .im else .rd) else (
      bif Nat.blt f 141 then (
       bif Nat.beq f 139 then .esc else .rd) else (
       bif Nat.beq f 141 then .im else .rd))) else (
     bif Nat.blt f 153 then (
      bif Nat.blt f 147 then (
       bif Nat.beq f 146 then .im else .rd) else (
       bif Nat.beq f 147 then .esc else .rd)) else (
      bif Nat.blt f 154 then (
       bif Nat.beq f 153 then .im else .rd) else (
       bif Nat.beq f 154 then .esc else .rd))))) else (
   bif Nat.blt f 181 then (
    bif Nat.blt f 173 then (
     bif Nat.blt f 168 then (
      bif Nat.beq f 167 then .im else .rd) else (
      bif Nat.blt f 170 then (
       bif Nat.beq f 168 then .esc else .rd) else (
       bif Nat.beq f 170 then .im else .rd))) else (
     bif Nat.blt f 178 then (
      bif Nat.blt f 174 then (
       bif Nat.beq f 173 then .im else .rd) else (
       bif Nat.beq f 174 then .im else .rd)) else (
      bif Nat.blt f 180 then (
       bif Nat.beq f 178 then .im else .rd) else (
       bif Nat.beq f 180 then .im else .rd)))) else (
    bif Nat.blt f 186 then (
     bif Nat.blt f 184 then (
      bif Nat.beq f 181 then .im else .rd) else (
      bif Nat.blt f 185 then (
       bif Nat.beq f 184 then .esc else .rd) else (
       bif Nat.beq f 185 then .im else .rd))) else (
     bif Nat.blt f 197 then (
      bif Nat.blt f 196 then (
       bif Nat.beq f 186 then .esc else .rd) else (
       bif Nat.beq f 196 then .st else .rd)) else (
      bif Nat.blt f 198 then (
       bif Nat.beq f 197 then .im else .rd) else (
       bif Nat.beq f 198 then .im else .rd)))))) else (
  bif Nat.blt f 227 then (
   bif Nat.blt f 216 then (
    bif Nat.blt f 204 then (
     bif Nat.blt f 202 then (
      bif Nat.beq f 200 then .im else .rd) else (
      bif Nat.blt f 203 then (
       bif Nat.beq f 202 then .im else .rd) else (
       bif Nat.beq f 203 then .im else .rd))) else (
     bif Nat.blt f 208 then (
      bif Nat.blt f 206 then (
       bif Nat.beq f 204 then .im else .rd) else (
       bif Nat.beq f 206 then .im else .rd)) else (
      bif Nat.blt f 215 then (
       bif Nat.beq f 208 then .st else .rd) else (
       bif Nat.beq f 215 then .im else .rd)))) else (
    bif Nat.blt f 219 then (
     bif Nat.blt f 217 then (
      bif Nat.beq f 216 then .im else .rd) else (
      bif Nat.blt f 218 then (
       bif Nat.beq f 217 then .esc else .rd) else (
       bif Nat.beq f 218 then .im else .rd))) else (
     bif Nat.blt f 223 then (
      bif Nat.blt f 220 then (
       bif Nat.beq f 219 then .im else .rd) else (
       bif Nat.beq f 220 then .im else .rd)) else (
      bif Nat.blt f 226 then (
       bif Nat.beq f 223 then .im else .rd) else (
       bif Nat.beq f 226 then .im else .rd))))) else (
   bif Nat.blt f 250 then (
    bif Nat.blt f 241 then (
     bif Nat.blt f 233 then (
      bif Nat.beq f 227 then .im else .rd) else (
      bif Nat.blt f 239 then (
       bif Nat.beq f 233 then .im else .rd) else (
       bif Nat.beq f 239 then .im else .rd))) else (
     bif Nat.blt f 243 then (
      bif Nat.blt f 242 then (
       bif Nat.beq f 241 then .im else .rd) else (
       bif Nat.beq f 242 then .im else .rd)) else (
      bif Nat.blt f 249 then (
       bif Nat.beq f 243 then .im else .rd) else (
       bif Nat.beq f 249 then .im else .rd)))) else (
    bif Nat.blt f 256 then (
     bif Nat.blt f 251 then (
      bif Nat.beq f 250 then .im else .rd) else (
      bif Nat.blt f 255 then (
       bif Nat.beq f 251 then .im else .rd) else (
       bif Nat.beq f 255 then .im else .rd))) else (
     bif Nat.blt f 277 then (
      bif Nat.blt f 257 then (
       bif Nat.beq f 256 then .im else .rd) else (
       bif Nat.beq f 257 then .im else .rd)) else (
      bif Nat.blt f 278 then (
       bif Nat.beq f 277 then .im else .rd) else (
       bif Nat.beq f 278 then .im else .rd)))))))
def muT (f t : Nat) : Bool := bif Nat.blt f 139 then (
 bif Nat.blt f 131 then (
  bif Nat.beq f 97 then Nat.beq t 149 else false) else (
  bif Nat.beq f 131 then Nat.beq t 149 else false)) else (
 bif Nat.blt f 217 then (
  bif Nat.beq f 139 then Nat.beq t 149 else false) else (
  bif Nat.beq f 217 then Nat.beq t 149 else false))
def rrSet (_ : Nat) : Bool := false
def rrT (_ g : Nat) : Bool := rrSet g
def cloneT (f : Nat) : Bool := bif Nat.blt f 139 then (
 bif Nat.blt f 131 then (
  bif Nat.blt f 85 then (
   bif Nat.beq f 51 then true else false) else (
   bif Nat.beq f 85 then true else false)) else (
  bif Nat.blt f 138 then (
   bif Nat.beq f 131 then true else false) else (
   bif Nat.beq f 138 then true else false))) else (
 bif Nat.blt f 208 then (
  bif Nat.blt f 196 then (
   bif Nat.beq f 139 then true else false) else (
   bif Nat.beq f 196 then true else false)) else (
  bif Nat.blt f 217 then (
   bif Nat.beq f 208 then true else false) else (
   bif Nat.beq f 217 then true else false)))
def globT (R : Nat → Option (List PV)) (f : Nat) : Option (List PV) := bif Nat.beq f 0 then some (strRow [[65, 110, 121], [78, 101, 118, 101, 114], [116, 117, 112, 108, 101], [117, 110, 105, 111, 110], [101, 120, 105, 115, 116, 115]]) else bif Nat.beq f 2 then some (strRow [[65, 110, 121], [78, 101, 118, 101, 114], [116, 117, 112, 108, 101], [117, 110, 105, 111, 110], [101, 120, 105, 115, 116, 115]]) else R f
set_option maxRecDepth 10000 in
def pl4 (f : Nat) : Option Plan := bif Nat.beq f 7 then some ⟨[], [0, 1, 2, 3, 4, 5, 6, 7, 8, 9, 10, 11, 12], [.q [0], .q [0], .q [0], .q [0], .q [0], .w 0, .q [0, 1], .q [0, 1], .q [0, 1], .q [0, 1], .q [0, 1], .w 1, .q [2]], [[], [], [], [1, 2], [1, 2, 3], [0, 1, 2, 3, 4], [], [], [], [7, 8], [7, 8, 9], [0, 1, 2, 3, 4, 5, 6, 7, 8, 9, 10], [0, 1, 2, 3, 4, 5, 6, 7, 8, 9, 10, 11]], [[], [], [], [], [], [], [], [], [], [], [], [], []], [(9, 0), (10, 0)]⟩ else none
set_option maxRecDepth 10000 in
def pl5 (f : Nat) : Option Plan := bif Nat.beq f 2 then some ⟨[], [0, 1, 2, 3, 4, 5, 6, 7, 8, 9, 10, 11, 12, 13, 14, 15, 16, 17, 18, 19, 20, 21, 22, 23, 24, 25, 26, 27, 28, 29, 30, 31, 32, 33, 34, 35, 36, 37, 38, 39, 40, 41], [.q [0, 1, 2, 3, 4, 5, 6, 7, 8, 9, 10, 11], .q [0], .q [0], .w 0, .q [0, 1, 2, 3, 4, 5, 6, 7, 8, 9, 10, 11], .q [0, 1, 2, 3, 4, 5, 6, 7, 8, 9, 10, 11], .q [0, 1, 2, 3, 4, 5, 6, 7, 8, 9, 10, 11], .q [1, 2, 3, 4, 5, 6, 7, 8, 9, 10, 11], .w 1, .q [2], .w 2, .w 3, .q [4, 5, 6, 7, 8, 9, 10, 11], .q [4, 5, 6, 7, 8, 9, 10, 11], .q [4, 5, 6, 7, 8, 9, 10, 11], .q [0, 1, 2, 3, 4, 5, 6, 7, 8, 9, 10, 11], .w 4, .q [5, 6, 7, 8, 9, 10, 11], .w 5, .w 6, .q [7, 8, 9, 10, 11], .q [7, 8, 9, 10, 11], .q [7, 8, 9, 10, 11], .q [0, 1, 2, 3, 4, 5, 6, 7, 8, 9, 10, 11], .q [0, 1, 2, 3, 4, 5, 6, 7, 8, 9, 10, 11], .w 7, .q [8, 9, 10, 11], .q [8, 9, 10, 11], .q [8, 9, 10, 11], .q [0, 1, 2, 3, 4, 5, 6, 7, 8], .q [0, 1, 2, 3, 4, 5, 6, 7, 8], .w 8, .q [9], .w 9, .q [0, 1, 2, 3, 4, 5, 6, 7, 8, 9, 10], .q [0, 1, 2, 3, 4, 5, 6, 7, 8, 9, 10], .w 10, .q [11], .q [11], .q [11], .q [11], .q [11]], [[], [], [1], [1, 2], [], [4], [4, 5], [1, 2, 3, 4, 5, 6], [1, 2, 3], [1, 2, 3, 8], [1, 2, 3, 8, 9], [1, 2, 3, 8, 9, 10], [1, 2, 3, 8, 9, 10, 11], [1, 2, 3, 8, 9, 10, 11, 12], [1, 2, 3, 8, 9, 10, 11, 12, 13], [], [1, 2, 3, 8, 9, 10, 11], [1, 2, 3, 8, 9, 10, 11, 16], [1, 2, 3, 8, 9, 10, 11, 16], [1, 2, 3, 8, 9, 10, 11, 16, 18], [1, 2, 3, 8, 9, 10, 11, 16, 18, 19], [1, 2, 3, 8, 9, 10, 11, 16, 18, 19, 20], [1, 2, 3, 8, 9, 10, 11, 16, 18, 19, 20, 21], [], [23], [1, 2, 3, 8, 9, 10, 11, 16, 18, 19], [1, 2, 3, 8, 9, 10, 11, 16, 18, 19, 25], [1, 2, 3, 8, 9, 10, 11, 16, 18, 19, 23, 24, 25, 26], [1, 2, 3, 8, 9, 10, 11, 16, 18, 19, 23, 24, 25, 26, 27], [], [29], [1, 2, 3, 8, 9, 10, 11, 16, 18, 19, 25, 29, 30], [1, 2, 3, 8, 9, 10, 11, 16, 18, 19, 25, 29, 30, 31], [1, 2, 3, 8, 9, 10, 11, 16, 18, 19, 25, 29, 30, 31, 32], [], [34], [1, 2, 3, 8, 9, 10, 11, 16, 18, 19, 25, 29, 30, 31, 32, 33, 34, 35], [1, 2, 3, 8, 9, 10, 11, 16, 18, 19, 25, 29, 30, 31, 32, 33, 34, 35, 36], [1, 2, 3, 8, 9, 10, 11, 16, 18, 19, 25, 29, 30, 31, 32, 33, 34, 35, 36, 37], [1, 2, 3, 8, 9, 10, 11, 16, 18, 19, 25, 29, 30, 31, 32, 33, 34, 35, 36, 37, 38], [0, 1, 2, 3, 4, 5, 6, 7, 8, 9, 10, 11, 12, 13, 14, 15, 16, 17, 18, 19, 20, 21, 22, 23, 24, 25, 26, 27, 28, 29, 30, 31, 32, 33, 34, 35, 36, 37, 38, 39], [0, 1, 2, 3, 4, 5, 6, 7, 8, 9, 10, 11, 12, 13, 14, 15, 16, 17, 18, 19, 20, 21, 22, 23, 24, 25, 26, 27, 28, 29, 30, 31, 32, 33, 34, 35, 36, 37, 38, 39, 40]], [[], [], [], [], [], [], [], [], [], [], [], [], [], [], [], [], [], [], [], [], [], [], [], [], [], [], [], [], [], [], [], [], [], [], [], [], [], [], [], [], [], []], [(4, 0), (4, 2), (4, 3), (4, 4), (4, 5), (4, 6), (4, 7), (4, 8), (4, 9), (4, 10), (4, 11), (23, 0), (23, 1), (23, 2), (23, 3), (23, 4), (23, 5), (23, 6), (23, 8), (23, 9), (23, 10), (23, 11), (29, 0), (29, 1), (29, 2), (29, 3), (29, 4), (29, 5), (29, 6), (29, 7), (34, 0), (34, 1), (34, 2), (34, 3), (34, 4), (34, 5), (34, 6), (34, 7), (34, 8), (34, 9)]⟩ else none
set_option maxRecDepth 10000 in
def pl12 (f : Nat) : Option Plan := bif Nat.blt f 3 then (
 bif Nat.beq f 1 then some ⟨[], [0, 1, 2, 3, 4, 5, 6, 7, 8, 9, 10, 11, 12, 13, 14, 15, 16], [.q [0], .q [0], .q [0], .q [0], .q [0], .q [0], .w 0, .q [1], .q [1], .q [1], .q [1], .q [1], .q [1], .q [1], .w 1, .q [2], .q [2]], [[], [0], [0, 1], [0, 1, 2], [0, 1, 2, 3], [0, 1, 2, 3, 4], [0, 1, 2, 3, 4, 5], [0, 1, 2, 3, 4, 5, 6], [0, 1, 2, 3, 4, 5, 6, 7], [0, 1, 2, 3, 4, 5, 6, 7, 8], [0, 1, 2, 3, 4, 5, 6, 7, 8, 9], [0, 1, 2, 3, 4, 5, 6, 7, 8, 9, 10], [0, 1, 2, 3, 4, 5, 6, 7, 8, 9, 10, 11], [0, 1, 2, 3, 4, 5, 6, 7, 8], [0, 1, 2, 3, 4, 5, 6, 7, 8, 9, 10, 11, 12, 13], [0, 1, 2, 3, 4, 5, 6, 7, 8, 9, 10, 11, 12, 13, 14], [0, 1, 2, 3, 4, 5, 6, 7, 8, 9, 10, 11, 12, 13, 14, 15]], [[], [], [], [], [], [], [], [], [], [], [], [], [], [], [], [], []], []⟩ else none) else (
 bif Nat.blt f 10 then (
  bif Nat.beq f 3 then some ⟨[], [0, 1, 2, 3, 4, 5, 6, 7, 8, 9, 10], [.q [0], .q [0], .q [0], .q [0], .q [0], .w 0, .q [1], .q [1], .q [1], .q [1], .q [1]], [[], [0], [0, 1], [0, 1, 2], [], [0, 1, 2, 3, 4], [0, 1, 2, 3, 4, 5], [0, 1, 2, 3, 4, 5, 6], [0, 1, 2, 3, 4, 5, 6], [0, 1, 2, 3, 4, 5, 6, 7], [0, 1, 2, 3, 4, 5, 6, 7, 8, 9]], [[], [], [], [], [], [], [], [], [], [], []], []⟩ else none) else (
  bif Nat.beq f 10 then some ⟨[], [0, 1, 2, 3, 4, 5, 6, 7, 8, 9, 10, 11, 12, 13, 14], [.q [0, 1, 2, 3], .q [0, 1, 2], .q [0, 1, 2], .q [0, 1, 2], .q [0, 1, 2], .q [0], .w 0, .q [0, 1], .w 1, .q [2], .q [2], .w 2, .q [3], .q [3], .w 3], [[], [], [1], [1, 2], [1, 2, 3], [], [5], [], [5, 6, 7], [5, 6, 7, 8], [5, 6, 7, 8, 9], [1, 2, 3, 4, 5, 6, 7, 8, 9, 10], [0, 1, 2, 3, 4, 5, 6, 7, 8, 9, 10, 11], [0, 1, 2, 3, 4, 5, 6, 7, 8, 9, 10, 11, 12], [0, 1, 2, 3, 4, 5, 6, 7, 8, 9, 10, 11, 12, 13]], [[], [], [], [], [], [], [], [], [], [], [], [], [], [], []], [(2, 1), (2, 2), (3, 1), (3, 2), (4, 1), (4, 2)]⟩ else none))
set_option maxRecDepth 10000 in
def pl17 (f : Nat) : Option Plan := bif Nat.beq f 14 then some ⟨[], [0, 1, 2, 3], [.q [0, 1], .q [0], .w 0, .w 1], [[], [], [1], [0, 1, 2]], [[], [], [], []], [(0, 1)]⟩ else none
set_option maxRecDepth 10000 in
def pl18 (f : Nat) : Option Plan := bif Nat.beq f 11 then some ⟨[], [0, 1, 2, 3, 4, 5, 6, 7], [.q [0], .w 0, .q [0, 1], .q [0, 1], .w 1, .q [2], .w 2, .q [3]], [[], [0], [], [2], [0, 1, 2, 3], [0, 1, 2, 3, 4], [0, 1, 2, 3, 4, 5], [0, 1, 2, 3, 4, 5, 6]], [[], [], [], [], [], [], [], []], [(2, 0)]⟩ else none
set_option maxRecDepth 10000 in
def pl19 (f : Nat) : Option Plan := bif Nat.beq f 6 then some ⟨[], [0, 1, 2, 3, 4, 5, 6, 7, 8, 9], [.q [0], .q [0], .q [0], .q [0], .q [0], .q [0], .q [0], .q [0], .w 0, .q [1]], [[], [], [0, 1], [0, 1, 2], [], [], [4, 5], [4, 5, 6], [0, 1, 2, 3, 4, 5, 6, 7], [0, 1, 2, 3, 4, 5, 6, 7, 8]], [[], [], [], [], [], [], [], [], [], []], []⟩ else none
set_option maxRecDepth 10000 in
def pl29 (f : Nat) : Option Plan := bif Nat.beq f 18 then some ⟨[], [0, 1, 2, 3, 4, 5, 6, 7, 8], [.w 0, .q [0, 1], .q [0, 1], .q [1], .q [1], .q [1], .q [1], .q [1], .q [1]], [[], [], [1], [0, 1, 2], [0, 1, 2, 3], [0, 1, 2, 3, 4], [0, 1, 2, 3, 4], [0, 1, 2, 3, 4, 5], [0, 1, 2, 3, 4, 5, 6, 7]], [[], [], [], [], [], [], [], [], []], [(1, 0), (2, 0)]⟩ else none
set_option maxRecDepth 10000 in
def pl33 (f : Nat) : Option Plan := bif Nat.beq f 10 then some ⟨[], [0, 1, 2, 3, 4, 5, 6, 7, 8, 9, 10, 11], [.q [0, 1], .q [0, 1], .q [0, 1], .q [0], .q [0], .q [0], .q [0], .w 0, .q [1], .q [1], .w 1, .q [2]], [[], [], [1], [], [3], [], [5], [3, 4, 5, 6], [1, 2, 3, 4, 5, 6, 7], [1, 2, 3, 4, 5, 6, 7, 8], [0, 1, 2, 3, 4, 5, 6, 7, 8, 9], [0, 1, 2, 3, 4, 5, 6, 7, 8, 9, 10]], [[8], [], [], [], [], [], [], [], [], [], [], []], [(1, 1), (2, 1)]⟩ else none
set_option maxRecDepth 10000 in
def pl35 (f : Nat) : Option Plan := bif Nat.beq f 1 then some ⟨[10], [0, 1, 2, 3, 4, 5, 6, 7, 8, 9, 11, 12], [.q [0], .q [0], .q [0], .q [0], .q [0], .q [0], .w 0, .q [1], .q [1], .q [1, 2], .h [0, 1], .w 1, .q [2]], [[], [0], [0, 1], [0, 1, 2], [], [4], [0, 1, 2, 3, 4, 5], [0, 1, 2, 3, 4, 5, 6], [0, 1, 2, 3, 4, 5, 6, 7], [0, 1, 2, 3, 4, 5, 6, 7], [], [0, 1, 2, 3, 4, 5, 6, 7, 8, 10], [0, 1, 2, 3, 4, 5, 6, 7, 8, 9, 10, 11]], [[], [], [], [], [], [], [], [], [], [], [], [], []], [(10, 0), (10, 1)]⟩ else none
set_option maxRecDepth 10000 in
def pl37 (f : Nat) : Option Plan := bif Nat.blt f 2 then (
 bif Nat.beq f 1 then some ⟨[], [0, 1, 2, 3, 4, 5, 6, 7, 8, 9, 10, 11], [.q [0], .q [0], .q [0], .q [0], .q [0], .q [0], .q [0], .q [0], .q [0], .q [0], .q [0], .w 0], [[], [0], [0, 1], [0, 1, 2], [], [4], [], [6], [6, 7], [6, 7, 8], [6, 7, 8, 9], [0, 1, 2, 3, 4, 5, 6, 7, 8, 9, 10]], [[], [], [], [], [], [], [], [], [], [], [], []], []⟩ else none) else (
 bif Nat.beq f 2 then some ⟨[], [0, 1, 2, 3, 4, 5, 6, 7, 8, 9, 10], [.q [0, 1], .q [0], .q [0], .q [0], .q [0], .q [0], .q [0], .w 0, .q [1], .q [1], .w 1], [[], [], [1], [1, 2], [1, 2, 3], [], [5], [1, 2, 3, 4, 5, 6], [0, 1, 2, 3, 4, 5, 6, 7], [0, 1, 2, 3, 4, 5, 6, 7, 8], [0, 1, 2, 3, 4, 5, 6, 7, 8, 9]], [[], [], [], [], [], [], [], [], [], [], []], []⟩ else none)
set_option maxRecDepth 10000 in
def pl42 (f : Nat) : Option Plan := bif Nat.beq f 7 then some ⟨[], [0, 1, 2, 3, 4, 5, 6, 7, 8, 9, 10, 11], [.q [0, 1], .q [0, 1], .q [0, 1], .q [0, 1], .q [0], .q [0], .w 0, .q [1], .q [1], .w 1, .q [2], .w 2], [[], [0], [], [2], [], [4], [4, 5], [2, 3, 4, 5, 6], [2, 3, 4, 5, 6, 7], [0, 1, 2, 3, 4, 5, 6, 7, 8], [0, 1, 2, 3, 4, 5, 6, 7, 8, 9], [0, 1, 2, 3, 4, 5, 6, 7, 8, 9, 10]], [[], [], [], [], [], [], [], [], [], [], [], []], [(0, 1), (1, 1), (2, 1), (3, 1)]⟩ else none
set_option maxRecDepth 10000 in
def pl45 (f : Nat) : Option Plan := bif Nat.beq f 1 then some ⟨[], [0, 1, 2, 3, 4, 5, 6, 7, 8, 9, 10, 11, 12], [.q [0], .q [0], .q [0], .q [0], .q [0], .q [0], .q [0], .q [0], .q [0], .q [0], .q [0], .q [0], .w 0], [[], [0], [0, 1], [0, 1, 2], [], [4], [4, 5], [4, 5, 6], [], [4, 5, 6, 7, 8], [4, 5, 6, 7, 8, 9], [4, 5, 6, 7, 8, 9, 10], [0, 1, 2, 3, 4, 5, 6, 7, 8, 9, 10, 11]], [[], [], [], [], [], [], [], [], [], [], [], [], []], []⟩ else none
set_option maxRecDepth 10000 in
def pl48 (f : Nat) : Option Plan := bif Nat.beq f 6 then some ⟨[], [0, 1, 2, 3, 4, 5, 6, 7, 8, 9, 10, 11, 12, 13, 14, 15, 16, 17, 18, 19, 20, 21, 22, 23, 24, 25, 26, 27, 28], [.q [0], .q [0], .q [0], .q [0], .q [0], .q [0], .q [0], .q [0], .q [0], .q [0], .q [0], .q [0], .q [0], .q [0], .q [0], .q [0], .q [0], .q [0], .q [0], .q [0], .q [0], .q [0], .q [0], .q [0], .q [0], .q [0], .w 0, .q [1], .q [1]], [[], [0], [], [0, 1, 2], [0, 1, 2, 3], [0, 1, 2, 3, 4], [], [6], [], [6, 7, 8], [6, 7, 8, 9], [6, 7, 8, 9, 10], [0, 1, 2, 3, 4, 5, 6, 7, 8, 9, 10, 11], [0, 1, 2, 3, 4, 5, 6, 7, 8, 9, 10, 11, 12], [0, 1, 2, 3, 4, 5, 6, 7, 8, 9, 10, 11, 12, 13], [0, 1, 2, 3, 4, 5, 6, 7, 8, 9, 10, 11, 12, 13, 14], [0, 1, 2, 3, 4, 5, 6, 7, 8, 9, 10, 11, 12, 13], [0, 1, 2, 3, 4, 5, 6, 7, 8, 9, 10, 11, 12, 13, 14, 15, 16], [0, 1, 2, 3, 4, 5, 6, 7, 8, 9, 10, 11, 12, 13, 14, 15, 16, 17], [0, 1, 2, 3, 4, 5, 6, 7, 8, 9, 10, 11, 12, 13, 14, 15, 16, 17, 18], [0, 1, 2, 3, 4, 5, 6, 7, 8, 9, 10, 11, 12, 13], [0, 1, 2, 3, 4, 5, 6, 7, 8, 9, 10, 11, 12, 13, 20], [0, 1, 2, 3, 4, 5, 6, 7, 8, 9, 10, 11, 12, 13], [0, 1, 2, 3, 4, 5, 6, 7, 8, 9, 10, 11, 12, 13, 20, 21, 22], [0, 1, 2, 3, 4, 5, 6, 7, 8, 9, 10, 11, 12, 13, 20, 21, 22, 23], [0, 1, 2, 3, 4, 5, 6, 7, 8, 9, 10, 11, 12, 13, 20, 21, 22, 23, 24], [0, 1, 2, 3, 4, 5, 6, 7, 8, 9, 10, 11, 12, 13, 14, 15, 16, 17, 18, 19, 20, 21, 22, 23, 24, 25], [0, 1, 2, 3, 4, 5, 6, 7, 8, 9, 10, 11, 12, 13, 14, 15, 16, 17, 18, 19, 20, 21, 22, 23, 24, 25, 26], [0, 1, 2, 3, 4, 5, 6, 7, 8, 9, 10, 11, 12, 13, 14, 15, 16, 17, 18, 19, 20, 21, 22, 23, 24, 25, 26, 27]], [[], [], [], [], [], [], [], [], [], [], [], [], [], [], [], [], [], [], [], [], [], [], [], [], [], [], [], [], []], []⟩ else none
set_option maxRecDepth 10000 in
def pl51 (f : Nat) : Option Plan := bif Nat.beq f 1 then some ⟨[], [0, 1, 2, 3, 4, 5, 6, 7, 8, 9, 10, 11], [.q [0], .q [0], .q [0], .q [0], .q [0], .q [0], .q [0], .q [0], .q [0], .q [0], .q [0], .q [0]], [[], [0], [0, 1], [0, 1, 2], [0, 1, 2, 3], [], [5], [5, 6], [5, 6, 7], [5, 6, 7, 8], [0, 1, 2, 3, 4, 5, 6, 7, 8, 9], [0, 1, 2, 3, 4, 5, 6, 7, 8, 9, 10]], [[], [], [], [], [], [], [], [], [], [], [], []], []⟩ else none
set_option maxRecDepth 10000 in
def pl63 (f : Nat) : Option Plan := bif Nat.blt f 3 then (
 bif Nat.beq f 1 then some ⟨[], [0, 1, 2, 3, 4, 5, 6, 7, 8, 9, 10, 11, 12, 13, 14, 15, 16, 17], [.q [0], .q [0], .q [0], .q [0], .q [0], .q [0], .q [0], .q [0], .q [0], .q [0], .q [0], .q [0], .q [0], .q [0], .q [0], .q [0], .q [0], .q [0]], [[], [0], [0, 1], [0, 1, 2], [0, 1, 2, 3], [0, 1, 2, 3, 4], [0, 1, 2, 3, 4, 5], [0, 1, 2, 3, 4, 5, 6], [0, 1, 2, 3, 4, 5, 6, 7], [0, 1, 2, 3, 4, 5, 6, 7, 8], [0, 1, 2, 3, 4, 5, 6, 7, 8, 9], [0, 1, 2, 3, 4, 5, 6, 7, 8], [0, 1, 2, 3, 4, 5, 6, 7, 8, 11], [0, 1, 2, 3, 4, 5, 6, 7, 8, 11, 12], [0, 1, 2, 3, 4, 5, 6, 7, 8, 11, 12, 13], [0, 1, 2, 3, 4, 5, 6, 7, 8, 11, 12, 13, 14], [0, 1, 2, 3, 4, 5, 6, 7, 8, 9, 10, 11, 12, 13, 14, 15], [0, 1, 2, 3, 4, 5, 6, 7, 8, 9, 10, 11, 12, 13, 14, 15, 16]], [[], [], [], [], [], [], [], [], [], [], [], [], [], [], [], [], [], []], []⟩ else none) else (
 bif Nat.beq f 3 then some ⟨[], [0, 1, 2, 3, 4, 5, 6, 7, 8, 9], [.q [0], .q [0], .q [0], .q [0], .q [0], .q [0], .q [0], .q [0], .q [0], .q [0]], [[], [0], [0, 1], [0, 1, 2], [], [4], [4, 5], [0, 1, 2, 3, 4, 5, 6], [0, 1, 2, 3, 4, 5, 6, 7], [0, 1, 2, 3, 4, 5, 6, 7, 8]], [[], [], [], [], [], [], [], [], [], []], []⟩ else none)
set_option maxRecDepth 10000 in
def pl72 (f : Nat) : Option Plan := bif Nat.beq f 2 then some ⟨[], [0, 1, 2, 3, 4, 5, 6, 7, 8, 9, 10], [.q [0], .q [0], .q [0], .q [0], .q [0], .q [0], .q [0], .q [0], .w 0, .q [1], .q [1]], [[], [0], [0, 1], [0, 1, 2], [0, 1, 2, 3], [0, 1, 2, 3, 4], [0, 1], [0, 1], [0, 1, 2, 3, 4, 5, 6, 7], [0, 1, 2, 3, 4, 5, 6, 7, 8], [0, 1, 2, 3, 4, 5, 6, 7, 8, 9]], [[], [], [], [], [], [], [], [], [], [], []], []⟩ else none
set_option maxRecDepth 10000 in
def pl83 (f : Nat) : Option Plan := bif Nat.blt f 8 then (
 bif Nat.beq f 3 then some ⟨[], [0, 1, 2, 3, 4, 5, 6, 7, 8, 9, 10, 11, 12, 13, 14, 15, 16, 17, 18], [.q [0], .q [0], .q [0], .q [0], .q [0], .q [0, 1], .q [0, 1], .w 0, .w 1, .q [2], .q [2], .q [2], .q [2], .q [2], .q [2], .q [2], .w 2, .q [3], .q [3]], [[], [0], [0, 1], [0, 1, 2], [0, 1, 2, 3], [0, 1, 2, 3, 4], [0, 1, 2, 3, 4, 5], [0, 1, 2, 3, 4], [0, 1, 2, 3, 4, 5, 6, 7], [0, 1, 2, 3, 4, 5, 6, 7, 8], [0, 1, 2, 3, 4, 5, 6, 7, 8, 9], [0, 1, 2, 3, 4, 5, 6, 7, 8, 9, 10], [0, 1, 2, 3, 4, 5, 6, 7, 8, 9, 10, 11], [0, 1, 2, 3, 4, 5, 6, 7, 8, 9, 10, 11, 12], [0, 1, 2, 3, 4, 5, 6, 7, 8, 9, 10, 11], [0, 1, 2, 3, 4, 5, 6, 7, 8, 9, 10, 11, 14], [0, 1, 2, 3, 4, 5, 6, 7, 8, 9, 10, 11, 12, 13, 14, 15], [0, 1, 2, 3, 4, 5, 6, 7, 8, 9, 10, 11, 12, 13, 14, 15, 16], [0, 1, 2, 3, 4, 5, 6, 7, 8, 9, 10, 11, 12, 13, 14, 15, 16, 17]], [[], [], [], [], [], [], [], [], [], [], [], [], [], [], [], [], [], [], []], [(5, 1), (6, 1)]⟩ else none) else (
 bif Nat.blt f 13 then (
  bif Nat.beq f 8 then some ⟨[], [0, 1, 2, 3, 4, 5, 6, 7, 8, 9, 10, 11, 12, 13, 14, 15, 16, 17, 18, 19], [.q [0], .q [0], .q [0], .q [0], .q [0], .q [0], .w 0, .q [1], .q [1], .q [1], .q [1], .q [1], .q [1], .q [1], .q [1], .q [1], .q [1], .w 1, .q [2], .q [2]], [[], [0], [], [0, 1, 2], [0, 1, 2, 3], [0, 1, 2, 3, 4], [0, 1, 2, 3, 4, 5], [0, 1, 2, 3, 4, 5, 6], [0, 1, 2, 3, 4, 5, 6, 7], [0, 1, 2, 3, 4, 5, 6, 7, 8], [0, 1, 2, 3, 4, 5, 6, 7, 8, 9], [0, 1, 2, 3, 4, 5, 6, 7, 8], [0, 1, 2, 3, 4, 5, 6, 7, 8, 9, 10, 11], [0, 1, 2, 3, 4, 5, 6, 7, 8, 9, 10, 11, 12], [0, 1, 2, 3, 4, 5, 6, 7, 8, 9, 10, 11, 12, 13], [0, 1, 2, 3, 4, 5, 6, 7, 8], [0, 1, 2, 3, 4, 5, 6, 7, 8, 15], [0, 1, 2, 3, 4, 5, 6, 7, 8, 9, 10, 11, 12, 13, 14, 15, 16], [0, 1, 2, 3, 4, 5, 6, 7, 8, 9, 10, 11, 12, 13, 14, 15, 16, 17], [0, 1, 2, 3, 4, 5, 6, 7, 8, 9, 10, 11, 12, 13, 14, 15, 16, 17, 18]], [[], [], [], [], [], [], [], [], [], [], [], [], [], [], [], [], [], [], [], []], []⟩ else none) else (
  bif Nat.beq f 13 then some ⟨[], [0, 1, 2, 3, 4, 5, 6, 7, 8, 9, 10, 11, 12], [.q [0], .q [0], .q [0], .q [0], .q [0], .q [0], .q [0], .q [0], .q [0], .q [0], .q [0], .q [0], .q [0]], [[], [0], [], [0, 1, 2], [0, 1, 2, 3], [0, 1, 2, 3, 4], [], [6], [], [6, 7, 8], [6, 7, 8, 9], [6, 7, 8, 9, 10], [0, 1, 2, 3, 4, 5, 6, 7, 8, 9, 10, 11]], [[], [], [], [], [], [], [], [], [], [], [], [], []], []⟩ else none))
set_option maxRecDepth 10000 in
def pl90 (f : Nat) : Option Plan := bif Nat.blt f 20 then (
 bif Nat.blt f 14 then (
  bif Nat.beq f 13 then some ⟨[], [0, 1, 2, 3, 4, 5, 6, 7], [.q [0], .q [0], .q [0], .q [0], .q [0], .q [0], .q [0], .w 0], [[], [0], [0, 1], [], [], [3, 4], [3, 4, 5], [0, 1, 2, 3, 4, 5, 6]], [[], [], [], [], [], [], [], []], []⟩ else none) else (
  bif Nat.beq f 14 then some ⟨[], [0, 1, 2, 3, 4, 5, 6, 7, 8, 9, 10], [.q [0, 1], .q [0, 1], .q [0, 1], .q [0], .q [0], .q [0], .q [0], .q [0], .w 0, .q [1], .w 1], [[], [0], [0, 1], [], [3], [], [5], [3, 4, 5, 6], [3, 4, 5, 6, 7], [3, 4, 5, 6, 7, 8], [0, 1, 2, 3, 4, 5, 6, 7, 8, 9]], [[], [], [], [], [], [], [], [], [], [], []], [(1, 1), (2, 1)]⟩ else none)) else (
 bif Nat.blt f 24 then (
  bif Nat.beq f 20 then some ⟨[], [0, 1, 2, 3, 4, 5, 6, 7, 8, 9, 10], [.q [0, 1, 2], .q [0, 1, 2], .q [0, 1, 2], .q [0, 1, 2], .q [0, 1, 2], .q [0], .w 0, .q [0, 1], .q [0, 1], .w 1, .w 2], [[], [], [1], [1, 2], [1, 2, 3], [], [5], [], [7], [5, 6, 7, 8], [0, 1, 2, 3, 4, 5, 6, 7, 8, 9]], [[], [], [], [], [], [], [], [], [], [], []], [(1, 1), (1, 2), (2, 1), (2, 2), (3, 1), (3, 2), (4, 1), (4, 2)]⟩ else none) else (
  bif Nat.beq f 24 then some ⟨[], [0, 1, 2, 3, 4, 5], [.q [0], .q [0], .q [0], .q [0], .q [0], .w 0], [[], [0], [0, 1], [], [3], [0, 1, 2, 3, 4]], [[], [], [], [], [], []], []⟩ else none))
set_option maxRecDepth 10000 in
def pl93 (f : Nat) : Option Plan := bif Nat.beq f 11 then some ⟨[], [0, 1, 2, 3, 4, 5, 6, 7, 8, 9, 10, 11, 12, 13], [.q [0, 1, 2], .q [0, 1, 2], .q [0, 1], .q [0, 1], .q [0], .q [0], .w 0, .q [1], .q [0, 1], .w 1, .q [2], .w 2, .q [3], .w 3], [[], [0], [], [], [], [], [4, 5], [3, 4, 5, 6], [], [2, 3, 4, 5, 6, 7, 8], [2, 3, 4, 5, 6, 7, 8, 9], [0, 1, 2, 3, 4, 5, 6, 7, 8, 9, 10], [0, 1, 2, 3, 4, 5, 6, 7, 8, 9, 10, 11], [0, 1, 2, 3, 4, 5, 6, 7, 8, 9, 10, 11, 12]], [[], [], [], [], [], [], [], [], [], [], [], [], [], []], [(0, 1), (0, 2), (1, 1), (1, 2), (2, 1)]⟩ else none
set_option maxRecDepth 10000 in
def pl97 (f : Nat) : Option Plan := bif Nat.beq f 15 then some ⟨[], [0, 1, 2, 3, 4, 5, 6, 7, 8, 9], [.q [0, 1], .q [0], .w 0, .w 1, .q [0, 1, 2], .q [0, 1, 2], .q [0, 1, 2], .w 2, .q [3], .q [3]], [[], [], [1], [0, 1, 2], [], [], [5], [0, 1, 2, 3, 4, 5, 6], [0, 1, 2, 3, 4, 5, 6, 7], [0, 1, 2, 3, 4, 5, 6, 7, 8]], [[7], [], [], [], [8], [], [], [], [], []], [(5, 0), (5, 1), (6, 0), (6, 1)]⟩ else none
set_option maxRecDepth 10000 in
def pl98 (f : Nat) : Option Plan := bif Nat.beq f 10 then some ⟨[], [0, 1, 2, 3, 4, 5, 6, 7], [.q [0, 1], .q [0, 1], .q [0], .w 0, .q [1], .w 1, .q [2], .w 2], [[], [0], [], [2], [2, 3], [0, 1, 2, 3, 4], [0, 1, 2, 3, 4, 5], [0, 1, 2, 3, 4, 5, 6]], [[], [], [], [], [], [], [], []], [(0, 1), (1, 1)]⟩ else none
set_option maxRecDepth 10000 in
def pl99 (f : Nat) : Option Plan := bif Nat.beq f 4 then some ⟨[], [0, 1, 2, 3, 4, 5, 6, 7], [.q [0, 1], .q [0, 1], .q [0, 1], .q [0, 1], .q [0, 1], .q [0], .w 0, .w 1], [[], [], [], [1, 2], [1, 2, 3], [], [5], [0, 1, 2, 3, 4, 5, 6]], [[], [], [], [], [], [], [], []], [(3, 1), (4, 1)]⟩ else none
set_option maxRecDepth 10000 in
def pl101 (f : Nat) : Option Plan := bif Nat.beq f 1 then some ⟨[], [0, 1, 2, 3, 4, 5], [.q [0], .w 0, .q [0, 1], .w 1, .w 2, .q [3]], [[], [0], [], [0, 1, 2], [0, 1, 2, 3], [0, 1, 2, 3, 4]], [[], [], [], [], [], []], [(2, 0)]⟩ else none
set_option maxRecDepth 10000 in
def pl102 (f : Nat) : Option Plan := bif Nat.blt f 5 then (
 bif Nat.beq f 1 then some ⟨[], [0, 1, 2, 3, 4, 5, 6, 7, 8, 9, 10, 11, 12, 13, 14, 15, 16, 17, 18, 19, 20, 21, 22, 23, 24], [.q [0], .q [0], .q [0], .q [0], .w 0, .q [0, 1], .q [0, 1], .q [0, 1], .q [0, 1], .w 1, .q [0, 1, 2], .q [0, 1, 2], .q [0, 1, 2], .q [0, 1, 2], .w 2, .q [0, 1, 2, 3], .q [0, 1, 2, 3], .q [0, 1, 2, 3], .q [0, 1, 2, 3], .q [0, 1, 2, 3], .q [0, 1, 2, 3], .w 3, .q [4], .w 4, .q [5]], [[], [0], [], [2], [0, 1, 2, 3], [], [5], [], [7], [0, 1, 2, 3, 4, 5, 6, 7, 8], [], [10], [], [12], [0, 1, 2, 3, 4, 5, 6, 7, 8, 9, 10, 11, 12, 13], [], [15], [15, 16], [], [18], [18, 19], [0, 1, 2, 3, 4, 5, 6, 7, 8, 9, 10, 11, 12, 13, 14, 15, 16, 17, 18, 19, 20], [0, 1, 2, 3, 4, 5, 6, 7, 8, 9, 10, 11, 12, 13, 14, 15, 16, 17, 18, 19, 20, 21], [0, 1, 2, 3, 4, 5, 6, 7, 8, 9, 10, 11, 12, 13, 14, 15, 16, 17, 18, 19, 20, 21, 22], [0, 1, 2, 3, 4, 5, 6, 7, 8, 9, 10, 11, 12, 13, 14, 15, 16, 17, 18, 19, 20, 21, 22, 23]], [[], [], [], [], [], [], [], [], [], [], [], [], [], [], [], [], [], [], [], [], [], [], [], [], []], [(5, 0), (6, 0), (7, 0), (8, 0), (10, 0), (10, 1), (11, 0), (11, 1), (12, 0), (12, 1), (13, 0), (13, 1), (15, 0), (15, 1), (15, 2), (16, 0), (16, 1), (16, 2), (17, 0), (17, 1), (17, 2), (18, 0), (18, 1), (18, 2), (19, 0), (19, 1), (19, 2), (20, 0), (20, 1), (20, 2)]⟩ else none) else (
 bif Nat.beq f 5 then some ⟨[], [0, 1, 2, 3, 4, 5, 6, 7, 8, 9, 10, 11], [.q [0], .q [0], .q [0], .q [0], .q [0], .q [0], .q [0], .q [0], .q [0], .q [0], .w 0, .q [1]], [[], [0], [], [0, 1, 2], [0, 1, 2, 3], [], [5], [], [5, 6, 7], [5, 6, 7, 8], [0, 1, 2, 3, 4, 5, 6, 7, 8, 9], [0, 1, 2, 3, 4, 5, 6, 7, 8, 9, 10]], [[], [], [], [], [], [], [], [], [], [], [], []], []⟩ else none)
set_option maxRecDepth 10000 in
def pl103 (f : Nat) : Option Plan := bif Nat.beq f 5 then some ⟨[], [0, 1, 2, 3, 4, 5], [.q [0], .w 0, .q [0, 1], .q [1], .q [1], .w 1], [[], [0], [], [0, 1, 2], [0, 1, 2, 3], [0, 1, 2, 3, 4]], [[], [], [], [], [], []], [(2, 0)]⟩ else none
set_option maxRecDepth 10000 in
def pl119 (f : Nat) : Option Plan := bif Nat.beq f 12 then some ⟨[], [0, 1, 2, 3, 4, 5, 6, 7, 8, 9, 10, 11], [.q [0], .q [0], .q [0], .q [0], .q [0], .q [0], .q [0], .q [0], .q [0], .q [0], .w 0, .q [1]], [[], [0], [], [0, 1, 2], [0, 1, 2, 3], [], [5], [], [5, 6, 7], [5, 6, 7, 8], [0, 1, 2, 3, 4, 5, 6, 7, 8, 9], [0, 1, 2, 3, 4, 5, 6, 7, 8, 9, 10]], [[], [], [], [], [], [], [], [], [], [], [], []], []⟩ else none
set_option maxRecDepth 10000 in
def pl123 (f : Nat) : Option Plan := bif Nat.blt f 10 then (
 bif Nat.blt f 8 then (
  bif Nat.beq f 7 then some ⟨[], [0, 1, 2, 3, 4, 5, 6, 7, 8, 9, 10, 11, 12, 13, 14], [.q [0], .q [0], .q [0], .q [0, 1], .q [0, 1], .q [0, 1], .q [0], .q [0], .q [0], .q [0, 1], .q [0, 1], .q [0], .w 0, .q [1], .w 1], [[], [], [1], [], [], [4], [], [6], [6, 7], [], [9], [0, 1, 2, 6, 7, 8], [0, 1, 2, 6, 7, 8, 11], [0, 1, 2, 3, 4, 5, 6, 7, 8, 9, 10, 11, 12], [0, 1, 2, 3, 4, 5, 6, 7, 8, 9, 10, 11, 12, 13]], [[], [], [], [], [], [], [], [], [], [], [], [], [], [], []], [(5, 1)]⟩ else none) else (
  bif Nat.blt f 9 then (
   bif Nat.beq f 8 then some ⟨[], [0, 1, 2, 3, 4, 5, 6, 7, 8, 9, 10, 11, 12, 13, 14], [.q [0], .q [0], .q [0], .q [0, 1], .q [0, 1], .q [0, 1], .q [0], .q [0], .q [0], .q [0, 1], .q [0, 1], .q [0], .w 0, .q [1], .w 1], [[], [], [1], [], [], [4], [], [6], [6, 7], [], [9], [0, 1, 2, 6, 7, 8], [0, 1, 2, 6, 7, 8, 11], [0, 1, 2, 3, 4, 5, 6, 7, 8, 9, 10, 11, 12], [0, 1, 2, 3, 4, 5, 6, 7, 8, 9, 10, 11, 12, 13]], [[], [], [], [], [], [], [], [], [], [], [], [], [], [], []], [(5, 1)]⟩ else none) else (
   bif Nat.beq f 9 then some ⟨[], [0, 1, 2, 3, 4, 5, 6, 7, 8, 9, 10, 11, 12, 13, 14], [.q [0], .q [0], .q [0], .q [0, 1], .q [0, 1], .q [0, 1], .q [0], .q [0], .q [0], .q [0, 1], .q [0, 1], .q [0], .w 0, .q [1], .w 1], [[], [], [1], [], [], [4], [], [6], [6, 7], [], [9], [0, 1, 2, 6, 7, 8], [0, 1, 2, 6, 7, 8, 11], [0, 1, 2, 3, 4, 5, 6, 7, 8, 9, 10, 11, 12], [0, 1, 2, 3, 4, 5, 6, 7, 8, 9, 10, 11, 12, 13]], [[], [], [], [], [], [], [], [], [], [], [], [], [], [], []], [(5, 1)]⟩ else none))) else (
 bif Nat.blt f 18 then (
  bif Nat.blt f 17 then (
   bif Nat.beq f 10 then some ⟨[], [0, 1, 2, 3, 4, 5, 6, 7, 8, 9, 10, 11, 12, 13, 14], [.q [0], .q [0], .q [0], .q [0, 1], .q [0, 1], .q [0, 1], .q [0], .q [0], .q [0], .q [0, 1], .q [0, 1], .q [0], .w 0, .q [1], .w 1], [[], [], [1], [], [], [4], [], [6], [6, 7], [], [9], [0, 1, 2, 6, 7, 8], [0, 1, 2, 6, 7, 8, 11], [0, 1, 2, 3, 4, 5, 6, 7, 8, 9, 10, 11, 12], [0, 1, 2, 3, 4, 5, 6, 7, 8, 9, 10, 11, 12, 13]], [[], [], [], [], [], [], [], [], [], [], [], [], [], [], []], [(5, 1)]⟩ else none) else (
   bif Nat.beq f 17 then some ⟨[], [0, 1, 2, 3, 4, 5, 6, 7, 8, 9, 10, 11, 12, 13, 14], [.q [0], .q [0], .q [0], .q [0, 1], .q [0, 1], .q [0, 1], .q [0], .q [0], .q [0], .q [0, 1], .q [0, 1], .q [0], .w 0, .q [1], .w 1], [[], [], [1], [], [], [4], [], [6], [6, 7], [], [9], [0, 1, 2, 6, 7, 8], [0, 1, 2, 6, 7, 8, 11], [0, 1, 2, 3, 4, 5, 6, 7, 8, 9, 10, 11, 12], [0, 1, 2, 3, 4, 5, 6, 7, 8, 9, 10, 11, 12, 13]], [[], [], [], [], [], [], [], [], [], [], [], [], [], [], []], [(5, 1)]⟩ else none)) else (
  bif Nat.blt f 23 then (
   bif Nat.beq f 18 then some ⟨[], [0, 1, 2, 3, 4, 5, 6, 7, 8, 9, 10, 11, 12, 13, 14], [.q [0], .q [0], .q [0], .q [0, 1], .q [0, 1], .q [0, 1], .q [0], .q [0], .q [0], .q [0, 1], .q [0, 1], .q [0], .w 0, .q [1], .w 1], [[], [], [1], [], [], [4], [], [6], [6, 7], [], [9], [0, 1, 2, 6, 7, 8], [0, 1, 2, 6, 7, 8, 11], [0, 1, 2, 3, 4, 5, 6, 7, 8, 9, 10, 11, 12], [0, 1, 2, 3, 4, 5, 6, 7, 8, 9, 10, 11, 12, 13]], [[], [], [], [], [], [], [], [], [], [], [], [], [], [], []], [(5, 1)]⟩ else none) else (
   bif Nat.beq f 23 then some ⟨[], [0, 1, 2, 3, 4, 5, 6, 7, 8, 9, 10, 11, 12, 13, 14], [.q [0], .q [0], .q [0], .q [0, 1], .q [0, 1], .q [0, 1], .q [0], .q [0], .q [0], .q [0, 1], .q [0, 1], .q [0], .w 0, .q [1], .w 1], [[], [], [1], [], [], [4], [], [6], [6, 7], [], [9], [0, 1, 2, 6, 7, 8], [0, 1, 2, 6, 7, 8, 11], [0, 1, 2, 3, 4, 5, 6, 7, 8, 9, 10, 11, 12], [0, 1, 2, 3, 4, 5, 6, 7, 8, 9, 10, 11, 12, 13]], [[], [], [], [], [], [], [], [], [], [], [], [], [], [], []], [(5, 1)]⟩ else none)))
set_option maxRecDepth 10000 in
def pl132 (f : Nat) : Option Plan := bif Nat.beq f 6 then some ⟨[], [0, 1, 2, 3, 4, 5, 6, 7], [.q [0, 1], .q [0, 1], .q [0], .w 0, .q [1], .w 1, .q [2], .w 2], [[], [0], [], [2], [2, 3], [0, 1, 2, 3, 4], [0, 1, 2, 3, 4, 5], [0, 1, 2, 3, 4, 5, 6]], [[], [], [], [], [], [], [], []], [(0, 1), (1, 1)]⟩ else none
set_option maxRecDepth 10000 in
def pl134 (f : Nat) : Option Plan := bif Nat.blt f 19 then (
 bif Nat.beq f 18 then some ⟨[], [0, 1, 2, 3, 4, 5, 6, 7, 8, 9, 10, 11, 12, 13, 14, 15], [.q [0], .q [0], .q [0], .q [0], .q [0], .q [0], .q [0], .q [0], .q [0], .q [0], .fa 0 11 12, .fj, .fx, .q [1], .q [1], .w 1], [[], [0], [0, 1], [0, 1, 2], [], [4], [4, 5], [4, 5, 6], [0, 1, 2, 3], [], [0, 1, 2, 3, 4, 5, 6, 7, 8, 9], [0, 1, 2, 3, 4, 5, 6, 7, 8, 9, 10], [0, 1, 2, 3, 4, 5, 6, 7, 8, 9, 10, 11], [0, 1, 2, 3, 4, 5, 6, 7, 8, 9, 10], [0, 1, 2, 3, 4, 5, 6, 7, 8, 9, 10, 13], [0, 1, 2, 3, 4, 5, 6, 7, 8, 9, 10, 13, 14]], [[], [], [], [], [], [], [], [], [], [], [], [], [], [], [], []], []⟩ else none) else (
 bif Nat.beq f 19 then some ⟨[], [0, 1, 2, 3, 4, 5, 6, 7, 8, 9, 10, 11, 12, 13], [.q [0, 1, 2], .q [0, 1], .q [0, 1], .q [0, 1], .q [0, 1], .q [0], .w 0, .w 1, .w 2, .q [3], .q [3], .q [3], .q [3], .q [3]], [[], [], [1], [1, 2], [1, 2, 3], [], [5], [1, 2, 3, 4, 5, 6], [0, 1, 2, 3, 4, 5, 6, 7], [0, 1, 2, 3, 4, 5, 6, 7, 8], [0, 1, 2, 3, 4, 5, 6, 7, 8, 9], [0, 1, 2, 3, 4, 5, 6, 7, 8, 9], [0, 1, 2, 3, 4, 5, 6, 7, 8, 9, 10], [0, 1, 2, 3, 4, 5, 6, 7, 8, 9, 10, 11, 12]], [[], [], [], [], [], [], [], [], [], [], [], [], [], []], [(1, 1), (2, 1), (3, 1), (4, 1)]⟩ else none)
set_option maxRecDepth 10000 in
def pl135 (f : Nat) : Option Plan := bif Nat.beq f 8 then some ⟨[], [0, 1, 2, 3, 4, 5, 6, 7, 8, 9, 10, 11, 12, 13], [.q [0, 1], .q [0, 1], .q [0], .q [0], .q [0], .q [0], .q [0], .q [0], .q [0], .w 0, .q [1], .w 1, .q [2], .w 2], [[], [0], [], [2], [2, 3], [2, 3, 4], [], [2, 3, 4, 5, 6], [2, 3, 4, 5, 6, 7], [2, 3, 4, 5, 6, 7, 8], [2, 3, 4, 5, 6, 7, 8, 9], [0, 1, 2, 3, 4, 5, 6, 7, 8, 9, 10], [0, 1, 2, 3, 4, 5, 6, 7, 8, 9, 10, 11], [0, 1, 2, 3, 4, 5, 6, 7, 8, 9, 10, 11, 12]], [[], [], [], [], [], [], [], [], [], [], [], [], [], []], [(0, 1), (1, 1)]⟩ else none
set_option maxRecDepth 10000 in
def pl138 (f : Nat) : Option Plan := bif Nat.beq f 5 then some ⟨[], [0, 1, 2, 3, 4, 5, 6, 7], [.q [0], .q [0], .q [0], .q [0], .q [0], .q [0], .w 0, .q [1]], [[], [], [0, 1], [], [], [3, 4], [0, 1, 2, 3, 4, 5], [0, 1, 2, 3, 4, 5, 6]], [[0], [], [], [0], [], [], [], []], []⟩ else none
set_option maxRecDepth 10000 in
def pl145 (f : Nat) : Option Plan := bif Nat.beq f 10 then some ⟨[], [0, 1, 2, 3, 4, 5, 6, 7, 8, 9, 10, 11, 12, 13, 14], [.q [0, 1], .q [0, 1], .q [0], .q [0], .q [0], .q [0], .q [0], .q [0], .q [0], .q [0], .w 0, .q [1], .w 1, .q [2], .w 2], [[], [0], [], [], [3], [3, 4], [3, 4, 5], [3, 4, 5, 6], [3, 4, 5, 6, 7], [], [2, 3, 4, 5, 6, 7, 8, 9], [2, 3, 4, 5, 6, 7, 8, 9, 10], [0, 1, 2, 3, 4, 5, 6, 7, 8, 9, 10, 11], [0, 1, 2, 3, 4, 5, 6, 7, 8, 9, 10, 11, 12], [0, 1, 2, 3, 4, 5, 6, 7, 8, 9, 10, 11, 12, 13]], [[], [], [], [], [], [], [], [], [], [], [], [], [], [], []], [(0, 1), (1, 1)]⟩ else none
set_option maxRecDepth 10000 in
def pl151 (f : Nat) : Option Plan := bif Nat.beq f 6 then some ⟨[], [0, 1, 2, 3, 4, 5, 6, 7], [.q [0, 1], .q [0, 1], .q [0], .q [0], .w 0, .q [1], .w 1, .q [2]], [[], [], [], [], [2, 3], [1, 2, 3, 4], [0, 1, 2, 3, 4, 5], [0, 1, 2, 3, 4, 5, 6]], [[], [], [], [], [], [], [], []], [(0, 1)]⟩ else none
set_option maxRecDepth 10000 in
def pl154 (f : Nat) : Option Plan := bif Nat.beq f 6 then some ⟨[], [0, 1, 2, 3, 4, 5, 6, 7], [.q [0, 1], .q [0, 1], .q [0], .q [0], .w 0, .q [1], .q [0, 1], .w 1], [[], [], [], [], [2, 3], [1, 2, 3, 4], [], [0, 1, 2, 3, 4, 5, 6]], [[], [], [], [], [], [], [], []], [(0, 1)]⟩ else none
set_option maxRecDepth 10000 in
def pl174 (f : Nat) : Option Plan := bif Nat.blt f 12 then (
 bif Nat.beq f 5 then some ⟨[], [0, 1, 2, 3, 4, 5, 6, 7], [.q [0, 1], .q [0, 1], .q [0], .q [0], .q [0], .w 0, .q [1], .w 1], [[], [0], [], [], [3], [2, 3, 4], [0, 1, 2, 3, 4, 5], [0, 1, 2, 3, 4, 5, 6]], [[], [], [], [], [], [], [], []], [(0, 1), (1, 1)]⟩ else none) else (
 bif Nat.beq f 12 then some ⟨[], [0, 1, 2, 3, 4, 5, 6, 7, 8], [.q [0, 1], .q [0, 1], .q [0], .q [0], .w 0, .q [1], .w 1, .q [2], .w 2], [[], [0], [], [], [2, 3], [2, 3, 4], [0, 1, 2, 3, 4, 5], [0, 1, 2, 3, 4, 5, 6], [0, 1, 2, 3, 4, 5, 6, 7]], [[], [], [], [], [], [], [], [], []], [(0, 1), (1, 1)]⟩ else none)
set_option maxRecDepth 10000 in
def pl175 (f : Nat) : Option Plan := bif Nat.beq f 4 then some ⟨[], [0, 1, 2, 3, 4], [.q [0], .q [0], .q [0], .q [0], .q [0]], [[], [], [1], [0], [0, 1, 2, 3]], [[], [], [], [], []], []⟩ else none
set_option maxRecDepth 10000 in
def pl180 (f : Nat) : Option Plan := bif Nat.blt f 6 then (
 bif Nat.beq f 4 then some ⟨[], [0, 1, 2, 3, 4, 5, 6, 7, 8, 9, 10, 11, 12, 13, 14, 15, 16], [.q [0], .q [0], .q [0], .q [0], .q [0], .q [0], .q [0], .q [0], .q [0], .q [0], .q [0], .q [0], .q [0], .q [0], .w 0, .q [1], .q [1]], [[], [], [0, 1], [0, 1, 2], [0, 1, 2, 3], [0, 1, 2, 3], [0, 1, 2, 3], [0, 1, 2, 3, 5, 6], [0, 1, 2, 3, 5, 6, 7], [0, 1, 2, 3], [0, 1, 2, 3], [0, 1, 2, 3, 10], [0, 1, 2, 3, 9, 10, 11], [0, 1, 2, 3, 9, 10, 11, 12], [0, 1, 2, 3, 4, 5, 6, 7, 8, 9, 10, 11, 12, 13], [0, 1, 2, 3, 4, 5, 6, 7, 8, 9, 10, 11, 12, 13, 14], [0, 1, 2, 3, 4, 5, 6, 7, 8, 9, 10, 11, 12, 13, 14, 15]], [[], [], [], [], [], [], [], [], [], [], [], [], [], [], [], [], []], []⟩ else none) else (
 bif Nat.beq f 6 then some ⟨[], [0, 1, 2, 3, 4, 5, 6, 7, 8, 9, 10, 11, 12, 13, 14, 15, 16, 17], [.q [0], .q [0], .q [0, 1], .q [0, 1], .q [0, 1], .q [0], .q [0], .q [0], .q [0], .q [0], .q [0], .q [0], .q [0], .q [0], .q [0], .w 0, .q [1], .w 1], [[], [], [], [], [3], [], [], [6], [5, 6, 7], [5, 6, 7, 8], [], [], [10, 11], [10, 11, 12], [0, 1, 5, 6, 7, 8, 9, 10, 11, 12, 13], [0, 1, 5, 6, 7, 8, 9, 10, 11, 12, 13, 14], [0, 1, 2, 3, 4, 5, 6, 7, 8, 9, 10, 11, 12, 13, 14, 15], [0, 1, 2, 3, 4, 5, 6, 7, 8, 9, 10, 11, 12, 13, 14, 15, 16]], [[], [], [], [], [], [], [], [], [], [], [], [], [], [], [], [], [], []], [(4, 1)]⟩ else none)
set_option maxRecDepth 10000 in
def pl181 (f : Nat) : Option Plan := bif Nat.blt f 17 then (
 bif Nat.blt f 11 then (
  bif Nat.beq f 5 then some ⟨[], [0, 1, 2, 3, 4, 5, 6, 7, 8, 9, 10], [.q [0], .q [0], .q [0], .q [0], .q [0], .q [0], .q [0], .q [0], .q [0], .w 0, .q [1]], [[], [], [], [1, 2], [1, 2, 3], [], [], [5, 6], [5, 6, 7], [0, 1, 2, 3, 4, 5, 6, 7, 8], [0, 1, 2, 3, 4, 5, 6, 7, 8, 9]], [[], [], [], [], [], [], [], [], [], [], []], []⟩ else none) else (
  bif Nat.beq f 11 then some ⟨[], [0, 1, 2, 3, 4, 5, 6, 7, 8, 9, 10, 11, 12, 13, 14, 15, 16, 17], [.q [0], .q [0], .q [0, 1], .q [0, 1], .q [0, 1], .q [0], .q [0], .q [0], .q [0], .q [0], .q [0], .q [0], .q [0], .q [0], .q [0], .w 0, .q [1], .w 1], [[], [], [], [], [3], [], [], [6], [5, 6, 7], [5, 6, 7, 8], [], [], [10, 11], [10, 11, 12], [0, 1, 5, 6, 7, 8, 9, 10, 11, 12, 13], [0, 1, 5, 6, 7, 8, 9, 10, 11, 12, 13, 14], [0, 1, 2, 3, 4, 5, 6, 7, 8, 9, 10, 11, 12, 13, 14, 15], [0, 1, 2, 3, 4, 5, 6, 7, 8, 9, 10, 11, 12, 13, 14, 15, 16]], [[], [], [], [], [], [], [], [], [], [], [], [], [], [], [], [], [], []], [(4, 1)]⟩ else none)) else (
 bif Nat.blt f 23 then (
  bif Nat.beq f 17 then some ⟨[], [0, 1, 2, 3, 4, 5, 6, 7, 8, 9, 10, 11], [.q [0], .q [0], .q [0], .q [0], .q [0], .q [0], .q [0], .q [0], .q [0], .w 0, .q [1], .q [1]], [[], [], [], [1, 2], [1, 2, 3], [], [], [5, 6], [5, 6, 7], [0, 1, 2, 3, 4, 5, 6, 7, 8], [0, 1, 2, 3, 4, 5, 6, 7, 8, 9], [0, 1, 2, 3, 4, 5, 6, 7, 8, 9, 10]], [[], [], [], [], [], [], [], [], [], [], [], []], []⟩ else none) else (
  bif Nat.blt f 35 then (
   bif Nat.beq f 23 then some ⟨[], [0, 1, 2, 3, 4, 5, 6, 7, 8, 9, 10, 11, 12, 13, 14, 15, 16, 17], [.q [0], .q [0], .q [0, 1], .q [0, 1], .q [0, 1], .q [0], .q [0], .q [0], .q [0], .q [0], .q [0], .q [0], .q [0], .q [0], .q [0], .w 0, .q [1], .w 1], [[], [], [], [], [3], [], [], [6], [5, 6, 7], [5, 6, 7, 8], [], [], [10, 11], [10, 11, 12], [0, 1, 5, 6, 7, 8, 9, 10, 11, 12, 13], [0, 1, 5, 6, 7, 8, 9, 10, 11, 12, 13, 14], [0, 1, 2, 3, 4, 5, 6, 7, 8, 9, 10, 11, 12, 13, 14, 15], [0, 1, 2, 3, 4, 5, 6, 7, 8, 9, 10, 11, 12, 13, 14, 15, 16]], [[], [], [], [], [], [], [], [], [], [], [], [], [], [], [], [], [], []], [(4, 1)]⟩ else none) else (
   bif Nat.beq f 35 then some ⟨[], [0, 1, 2, 3, 4, 5, 6, 7, 8, 9, 10, 11, 12, 13], [.q [0], .q [0], .q [0], .q [0], .q [0], .q [0], .q [0], .q [0], .q [0], .q [0], .q [0], .w 0, .q [1], .q [1]], [[], [], [], [], [2, 3], [1, 2, 3, 4], [1, 2, 3, 4, 5], [], [], [7, 8], [7, 8, 9], [0, 1, 2, 3, 4, 5, 6, 7, 8, 9, 10], [0, 1, 2, 3, 4, 5, 6, 7, 8, 9, 10, 11], [0, 1, 2, 3, 4, 5, 6, 7, 8, 9, 10, 11, 12]], [[], [], [], [], [], [], [], [], [], [], [], [], [], []], []⟩ else none)))
set_option maxRecDepth 10000 in
def pl188 (f : Nat) : Option Plan := bif Nat.beq f 6 then some ⟨[], [0, 1, 2, 3, 4, 5, 6, 7, 8, 9, 10, 11, 12], [.q [0, 1], .q [0, 1], .q [0, 1], .q [0, 1], .q [0, 1], .q [0, 1], .q [0], .q [0], .w 0, .q [1], .q [0, 1], .w 1, .q [2]], [[], [0], [], [0, 1, 2], [0, 1, 2, 3], [], [], [], [6, 7], [5, 6, 7, 8], [], [0, 1, 2, 3, 4, 5, 6, 7, 8, 9, 10], [0, 1, 2, 3, 4, 5, 6, 7, 8, 9, 10, 11]], [[], [], [], [], [], [], [], [], [], [], [2], [], []], [(0, 1), (1, 1), (3, 1), (4, 1)]⟩ else none
set_option maxRecDepth 10000 in
def pl196 (f : Nat) : Option Plan := bif Nat.blt f 15 then (
 bif Nat.beq f 11 then some ⟨[], [0, 1, 2, 3, 4, 5, 6, 7, 8], [.q [0], .q [0], .q [0], .q [0], .q [0], .q [0], .q [0], .q [0], .w 0], [[], [], [], [1, 2], [0, 1, 2, 3], [], [], [5, 6], [0, 1, 2, 3, 4, 5, 6, 7]], [[], [], [], [], [], [], [], [], []], []⟩ else none) else (
 bif Nat.beq f 15 then some ⟨[], [0, 1, 2, 3, 4, 5, 6, 7, 8], [.q [0], .q [0], .q [0], .q [0], .q [0], .q [0], .q [0], .q [0], .w 0], [[], [], [], [1, 2], [0, 1, 2, 3], [], [], [5, 6], [0, 1, 2, 3, 4, 5, 6, 7]], [[], [], [], [], [], [], [], [], []], []⟩ else none)
set_option maxRecDepth 10000 in
def pl197 (f : Nat) : Option Plan := bif Nat.beq f 16 then some ⟨[], [0, 1, 2, 3, 4, 5, 6, 7, 8], [.q [0, 1, 2], .q [0], .w 0, .q [0, 1], .q [0, 1], .w 1, .q [2], .w 2, .q [3]], [[], [], [1], [], [3], [1, 2, 3, 4], [1, 2, 3, 4, 5], [0, 1, 2, 3, 4, 5, 6], [0, 1, 2, 3, 4, 5, 6, 7]], [[9], [], [], [], [], [], [], [], []], [(3, 0)]⟩ else none
set_option maxRecDepth 10000 in
def pl200 (f : Nat) : Option Plan := bif Nat.blt f 11 then (
 bif Nat.beq f 3 then some ⟨[], [0, 1, 2, 3, 4, 5, 6, 7, 8, 9, 10, 11, 12, 13], [.q [0], .q [0], .q [0], .q [0], .q [0], .q [0], .q [0], .q [0], .w 0, .q [1], .q [1], .q [1], .q [1], .q [1]], [[], [], [1], [1, 2], [1, 2, 3], [], [1, 2, 3, 4, 5], [1, 2, 3, 4, 5, 6], [0, 1, 2, 3, 4, 5, 6, 7], [0, 1, 2, 3, 4, 5, 6, 7, 8], [0, 1, 2, 3, 4, 5, 6, 7, 8, 9], [0, 1, 2, 3, 4, 5, 6, 7, 8, 9], [0, 1, 2, 3, 4, 5, 6, 7, 8, 9, 10], [0, 1, 2, 3, 4, 5, 6, 7, 8, 9, 10, 11, 12]], [[], [], [], [], [], [], [], [], [], [], [], [], [], []], []⟩ else none) else (
 bif Nat.beq f 11 then some ⟨[], [0, 1, 2, 3, 4, 5, 6, 7, 8, 9, 10, 11], [.q [0, 1], .q [0], .q [0], .q [0], .w 0, .q [0, 1], .w 1, .q [2], .q [2], .q [2], .q [2], .q [2]], [[], [], [], [], [1, 2, 3], [], [0, 1, 2, 3, 4, 5], [0, 1, 2, 3, 4, 5, 6], [0, 1, 2, 3, 4, 5, 6, 7], [0, 1, 2, 3, 4, 5, 6, 7], [0, 1, 2, 3, 4, 5, 6, 7, 8], [0, 1, 2, 3, 4, 5, 6, 7, 8, 9, 10]], [[], [], [], [], [], [], [], [], [], [], [], []], [(5, 0)]⟩ else none)
set_option maxRecDepth 10000 in
def pl208 (f : Nat) : Option Plan := bif Nat.blt f 15 then (
 bif Nat.beq f 11 then some ⟨[], [0, 1, 2, 3, 4, 5, 6, 7, 8], [.q [0], .q [0], .q [0], .q [0], .q [0], .q [0], .q [0], .q [0], .w 0], [[], [], [], [1, 2], [0, 1, 2, 3], [], [], [5, 6], [0, 1, 2, 3, 4, 5, 6, 7]], [[], [], [], [], [], [], [], [], []], []⟩ else none) else (
 bif Nat.beq f 15 then some ⟨[], [0, 1, 2, 3, 4, 5, 6, 7, 8], [.q [0], .q [0], .q [0], .q [0], .q [0], .q [0], .q [0], .q [0], .w 0], [[], [], [], [1, 2], [0, 1, 2, 3], [], [], [5, 6], [0, 1, 2, 3, 4, 5, 6, 7]], [[], [], [], [], [], [], [], [], []], []⟩ else none)
set_option maxRecDepth 10000 in
def pl209 (f : Nat) : Option Plan := bif Nat.beq f 6 then some ⟨[], [0, 1, 2, 3, 4, 5, 6, 7, 8, 9, 10, 11, 12], [.q [0], .q [0], .q [0], .q [0], .w 0, .q [0, 1], .q [0, 1], .w 1, .q [0, 1, 2], .q [0, 1, 2], .q [0, 1, 2], .w 2, .q [3]], [[], [], [], [1, 2], [0, 1, 2, 3], [], [5], [0, 1, 2, 3, 4, 5, 6], [], [], [8, 9], [0, 1, 2, 3, 4, 5, 6, 7, 8, 9, 10], [0, 1, 2, 3, 4, 5, 6, 7, 8, 9, 10, 11]], [[], [], [], [], [], [], [], [], [], [], [], [], []], [(10, 0), (10, 1)]⟩ else none
set_option maxRecDepth 10000 in
def pl219 (f : Nat) : Option Plan := bif Nat.beq f 15 then some ⟨[], [0, 1, 2, 3, 4, 5, 6, 7, 8, 9, 10], [.q [0, 1], .q [0, 1], .q [0], .q [0], .q [0], .q [0], .w 0, .q [1], .w 1, .q [2], .w 2], [[], [0], [], [], [], [], [2, 3, 4, 5], [2, 3, 4, 5, 6], [0, 1, 2, 3, 4, 5, 6, 7], [0, 1, 2, 3, 4, 5, 6, 7, 8], [0, 1, 2, 3, 4, 5, 6, 7, 8, 9]], [[], [], [], [], [], [], [], [], [], [], []], [(0, 1), (1, 1)]⟩ else none
set_option maxRecDepth 10000 in
def pl224 (f : Nat) : Option Plan := bif Nat.blt f 14 then (
 bif Nat.blt f 8 then (
  bif Nat.beq f 2 then some ⟨[2, 3, 4, 5], [0, 1, 6, 7, 8], [.q [0], .q [0], .q [0], .h [0], .q [0], .h [0], .q [0], .w 0, .q [1]], [[], [], [], [2], [], [4], [0, 1, 2, 3, 4, 5], [0, 1, 2, 3, 4, 5, 6], [0, 1, 2, 3, 4, 5, 6, 7]], [[], [], [], [], [], [], [], [], []], [(3, 0), (5, 0)]⟩ else none) else (
  bif Nat.beq f 8 then some ⟨[], [0, 1, 2, 3, 4, 5, 6, 7, 8, 9, 10, 11, 12, 13, 14, 15, 16, 17, 18, 19, 20, 21, 22, 23], [.q [0], .q [0], .q [0], .q [0], .q [0], .q [0], .q [0], .q [0], .q [0], .q [0], .q [0], .q [0], .q [0], .q [0], .q [0], .q [0], .q [0], .q [0], .q [0], .q [0], .q [0], .w 0, .q [1], .q [1]], [[], [0], [0, 1], [0, 1, 2], [0, 1, 2, 3], [0, 1, 2, 3, 4], [0, 1, 2, 3], [0, 1, 2, 3, 4, 5, 6], [0, 1, 2, 3, 4, 5, 6, 7], [0, 1, 2, 3, 4, 5, 6, 7, 8], [0, 1, 2, 3, 4, 5, 6, 7, 8, 9], [0, 1, 2, 3, 4, 5, 6, 7, 8, 9], [0, 1, 2, 3, 4, 5, 6, 7, 8, 9, 11], [0, 1, 2, 3, 4, 5, 6, 7, 8, 9], [0, 1, 2, 3, 4, 5, 6, 7, 8, 9, 13], [0, 1, 2, 3, 4, 5, 6, 7, 8, 9, 13, 14], [0, 1, 2, 3, 4, 5, 6, 7, 8, 9, 13, 14, 15], [0, 1, 2, 3, 4, 5, 6, 7, 8, 9], [0, 1, 2, 3, 4, 5, 6, 7, 8, 9, 17], [0, 1, 2, 3, 4, 5, 6, 7, 8, 9, 13, 14, 15, 16, 17, 18], [0, 1, 2, 3, 4, 5, 6, 7, 8, 9, 13, 14, 15, 16, 17, 18, 19], [0, 1, 2, 3, 4, 5, 6, 7, 8, 9, 10, 11, 12, 13, 14, 15, 16, 17, 18, 19, 20], [0, 1, 2, 3, 4, 5, 6, 7, 8, 9, 10, 11, 12, 13, 14, 15, 16, 17, 18, 19, 20, 21], [0, 1, 2, 3, 4, 5, 6, 7, 8, 9, 10, 11, 12, 13, 14, 15, 16, 17, 18, 19, 20, 21, 22]], [[], [], [], [], [], [], [], [], [], [], [], [], [], [], [], [], [], [], [], [], [], [], [], []], []⟩ else none)) else (
 bif Nat.blt f 1000002 then (
  bif Nat.beq f 14 then some ⟨[], [0, 1, 2, 3, 4, 5, 6, 7, 8, 9, 10], [.q [0], .q [0], .q [0], .q [0], .q [0], .q [0], .q [0], .q [0], .q [0], .w 0, .q [1]], [[], [], [1], [1, 2], [1, 2, 3], [], [1, 2, 3, 4, 5], [1, 2, 3, 4, 5, 6], [], [0, 1, 2, 3, 4, 5, 6, 7, 8], [0, 1, 2, 3, 4, 5, 6, 7, 8, 9]], [[], [], [], [], [], [], [], [], [], [], []], []⟩ else none) else (
  bif Nat.beq f 1000002 then some ⟨[], [0, 1, 2, 3, 4, 5, 6, 7, 8], [.q [0], .q [0], .q [0], .q [0], .q [0], .q [0], .q [0], .w 0, .q [1]], [[], [], [], [2], [], [4], [0, 1, 2, 3, 4, 5], [0, 1, 2, 3, 4, 5, 6], [0, 1, 2, 3, 4, 5, 6, 7]], [[], [], [], [], [], [], [], [], []], []⟩ else none))
set_option maxRecDepth 10000 in
def pl225 (f : Nat) : Option Plan := bif Nat.blt f 6 then (
 bif Nat.beq f 2 then some ⟨[], [0, 1, 2, 3, 4, 5, 6, 7, 8, 9, 10, 11, 12, 13, 14, 15, 16, 17, 18, 19, 20, 21, 22, 23, 24, 25, 26, 27, 28, 29, 30], [.q [0], .q [0], .q [0], .q [0], .q [0], .q [0], .q [0], .q [0], .q [0], .q [0], .q [0], .q [0], .q [0], .q [0], .q [0], .q [0], .q [0], .q [0], .q [0], .q [0], .q [0], .q [0], .q [0], .q [0], .q [0], .q [0], .q [0], .q [0], .w 0, .q [1], .q [1]], [[], [0], [0, 1], [0, 1, 2], [0, 1, 2], [0, 1, 2, 4], [0, 1, 2, 3, 4, 5], [0, 1, 2, 3, 4, 5, 6], [0, 1, 2, 3, 4, 5, 6, 7], [0, 1, 2, 3, 4, 5, 6, 7, 8], [0, 1, 2, 3, 4, 5, 6, 7, 8], [0, 1, 2, 3, 4, 5, 6, 7, 8, 9, 10], [0, 1, 2, 3, 4, 5, 6, 7, 8, 9, 10, 11], [0, 1, 2, 3, 4, 5, 6, 7, 8, 9, 10, 11, 12], [0, 1, 2, 3, 4, 5, 6, 7, 8, 9, 10, 11, 12, 13], [0, 1, 2, 3, 4, 5, 6, 7, 8, 9, 10, 11, 12, 13, 14], [0, 1, 2, 3, 4, 5, 6, 7, 8, 9, 10, 11, 12, 13, 14, 15], [0, 1, 2, 3, 4, 5, 6, 7, 8, 9, 10, 11, 12, 13, 14, 15], [0, 1, 2, 3, 4, 5, 6, 7, 8, 9, 10, 11, 12, 13, 14, 15, 16, 17], [0, 1, 2, 3, 4, 5, 6, 7, 8, 9, 10, 11, 12, 13, 14, 15, 16, 17, 18], [0, 1, 2, 3, 4, 5, 6, 7, 8, 9, 10, 11, 12, 13, 14, 15], [0, 1, 2, 3, 4, 5, 6, 7, 8, 9, 10, 11, 12, 13, 14, 15, 20], [0, 1, 2, 3, 4, 5, 6, 7, 8, 9, 10, 11, 12, 13, 14, 15, 20, 21], [0, 1, 2, 3, 4, 5, 6, 7, 8, 9, 10, 11, 12, 13, 14, 15, 16, 17, 18, 19, 20, 21, 22], [0, 1, 2, 3, 4, 5, 6, 7, 8, 9, 10, 11, 12, 13, 14, 15, 16, 17, 18, 19, 20, 21, 22, 23], [0, 1, 2, 3, 4, 5, 6, 7, 8, 9, 10, 11, 12, 13, 14, 15, 16, 17, 18, 19, 20, 21, 22, 23, 24], [0, 1, 2, 3, 4, 5, 6, 7, 8, 9, 10, 11, 12, 13, 14, 15, 16, 17, 18, 19, 20, 21, 22, 23, 24, 25], [0, 1, 2, 3, 4, 5, 6, 7, 8, 9, 10, 11, 12, 13, 14, 15, 16, 17, 18, 19, 20, 21, 22, 23, 24, 25, 26], [0, 1, 2, 3, 4, 5, 6, 7, 8, 9, 10, 11, 12, 13, 14, 15, 16, 17, 18, 19, 20, 21, 22, 23, 24, 25, 26, 27], [0, 1, 2, 3, 4, 5, 6, 7, 8, 9, 10, 11, 12, 13, 14, 15, 16, 17, 18, 19, 20, 21, 22, 23, 24, 25, 26, 27, 28], [0, 1, 2, 3, 4, 5, 6, 7, 8, 9, 10, 11, 12, 13, 14, 15, 16, 17, 18, 19, 20, 21, 22, 23, 24, 25, 26, 27, 28, 29]], [[], [], [], [], [], [], [], [], [], [], [], [], [], [], [], [], [], [], [], [], [], [], [], [], [], [], [], [], [], [], []], []⟩ else none) else (
 bif Nat.beq f 6 then some ⟨[], [0, 1, 2, 3, 4, 5, 6, 7, 8, 9, 10, 11, 12, 13, 14], [.q [0], .q [0], .q [0], .q [0], .q [0], .q [0], .q [0], .q [0], .q [0], .w 0, .q [1], .q [1], .q [1], .q [1], .q [1]], [[], [], [1], [], [], [3, 4], [3, 4, 5], [1, 2, 3, 4, 5, 6], [1, 2, 3, 4, 5, 6, 7], [0, 1, 2, 3, 4, 5, 6, 7, 8], [0, 1, 2, 3, 4, 5, 6, 7, 8, 9], [0, 1, 2, 3, 4, 5, 6, 7, 8, 9, 10], [0, 1, 2, 3, 4, 5, 6, 7, 8, 9, 10], [0, 1, 2, 3, 4, 5, 6, 7, 8, 9, 10, 11], [0, 1, 2, 3, 4, 5, 6, 7, 8, 9, 10, 11, 12, 13]], [[], [], [], [], [], [], [], [], [], [], [], [], [], [], []], []⟩ else none)
set_option maxRecDepth 10000 in
def pl227 (f : Nat) : Option Plan := bif Nat.beq f 3 then some ⟨[], [0, 1, 2, 3, 4, 5, 6, 7, 8, 9, 10, 11, 12, 13, 14, 15, 16, 17, 18, 19, 20, 21, 22, 23], [.q [0], .q [0], .q [0], .q [0], .q [0, 1], .q [0, 1], .q [0, 1], .q [0, 1], .q [0], .q [0], .q [0], .q [0], .q [0], .q [0], .q [0], .q [0], .q [0], .q [0], .q [0], .q [0], .q [0], .w 0, .q [1], .w 1], [[], [], [], [1, 2], [], [], [], [5, 6], [], [], [], [9, 10], [8, 9, 10, 11], [8, 9, 10, 11, 12], [], [], [], [15, 16], [14, 15, 16, 17], [14, 15, 16, 17, 18], [0, 1, 2, 3, 8, 9, 10, 11, 12, 13, 14, 15, 16, 17, 18, 19], [0, 1, 2, 3, 8, 9, 10, 11, 12, 13, 14, 15, 16, 17, 18, 19, 20], [0, 1, 2, 3, 4, 5, 6, 7, 8, 9, 10, 11, 12, 13, 14, 15, 16, 17, 18, 19, 20, 21], [0, 1, 2, 3, 4, 5, 6, 7, 8, 9, 10, 11, 12, 13, 14, 15, 16, 17, 18, 19, 20, 21, 22]], [[], [], [], [], [], [], [], [], [], [], [], [], [], [], [], [], [], [], [], [], [], [], [], []], [(7, 1)]⟩ else none
set_option maxRecDepth 10000 in
def pl235 (f : Nat) : Option Plan := bif Nat.beq f 1 then some ⟨[], [0, 1, 2, 3, 4, 5, 6], [.q [0, 1], .q [0], .w 0, .q [0, 1], .q [1], .w 1, .q [2]], [[], [], [1], [], [0, 1, 2, 3], [0, 1, 2, 3, 4], [0, 1, 2, 3, 4, 5]], [[], [], [], [], [], [], []], [(3, 0)]⟩ else none
set_option maxRecDepth 10000 in
def pl236 (f : Nat) : Option Plan := bif Nat.beq f 1 then some ⟨[], [0, 1, 2, 3, 4, 5, 6], [.q [0, 1], .q [0], .w 0, .q [0, 1], .q [1], .w 1, .q [2]], [[], [], [1], [], [0, 1, 2, 3], [0, 1, 2, 3, 4], [0, 1, 2, 3, 4, 5]], [[], [], [], [], [], [], []], [(3, 0)]⟩ else none
set_option maxRecDepth 10000 in
def pl239 (f : Nat) : Option Plan := bif Nat.blt f 10 then (
 bif Nat.beq f 5 then some ⟨[], [0, 1, 2, 3, 4, 5, 6, 7, 8, 9, 10, 11, 12, 13], [.q [0, 1], .q [0], .q [0], .q [0], .q [0], .q [0], .q [0], .q [0], .q [0], .q [0], .w 0, .q [1], .q [1], .w 1], [[], [], [1], [1, 2], [1, 2, 3], [], [], [6], [5, 6, 7], [5, 6, 7, 8], [1, 2, 3, 4, 5, 6, 7, 8, 9], [0, 1, 2, 3, 4, 5, 6, 7, 8, 9, 10], [0, 1, 2, 3, 4, 5, 6, 7, 8, 9, 10, 11], [0, 1, 2, 3, 4, 5, 6, 7, 8, 9, 10, 11, 12]], [[], [], [], [], [], [], [], [], [], [], [], [], [], []], []⟩ else none) else (
 bif Nat.beq f 10 then some ⟨[11], [0, 1, 2, 3, 4, 5, 6, 7, 8, 9, 10, 12, 13], [.q [0], .q [0], .q [0], .q [0], .q [0], .q [0], .q [0], .w 0, .q [1], .q [1], .q [1, 2], .h [0, 1], .w 1, .q [2]], [[], [0], [0, 1], [0, 1, 2], [], [], [5], [0, 1, 2, 3, 4, 5, 6], [0, 1, 2, 3, 4, 5, 6, 7], [0, 1, 2, 3, 4, 5, 6, 7, 8], [0, 1, 2, 3, 4, 5, 6, 7, 8], [], [0, 1, 2, 3, 4, 5, 6, 7, 8, 9, 11], [0, 1, 2, 3, 4, 5, 6, 7, 8, 9, 10, 11, 12]], [[], [], [], [], [], [], [], [], [], [], [], [], [], []], [(11, 0), (11, 1)]⟩ else none)
set_option maxRecDepth 10000 in
def pl241 (f : Nat) : Option Plan := bif Nat.blt f 5 then (
 bif Nat.beq f 2 then some ⟨[], [0, 1, 2, 3, 4, 5, 6, 7, 8, 9], [.q [0], .q [0], .q [0], .q [0], .q [0], .w 0, .q [0, 1], .w 1, .q [2], .q [2]], [[], [0], [0, 1], [0, 1, 2], [], [0, 1, 2, 3, 4], [], [0, 1, 2, 3, 4, 5, 6], [0, 1, 2, 3, 4, 5, 6, 7], [0, 1, 2, 3, 4, 5, 6, 7, 8]], [[], [], [], [], [], [], [], [], [], []], []⟩ else none) else (
 bif Nat.beq f 5 then some ⟨[11], [0, 1, 2, 3, 4, 5, 6, 7, 8, 9, 10, 12, 13], [.q [0], .q [0], .q [0], .q [0], .q [0], .q [0], .q [0], .w 0, .q [1], .q [1], .q [1, 2], .h [0, 1], .w 1, .q [2]], [[], [0], [0, 1], [0, 1, 2], [], [], [5], [0, 1, 2, 3, 4, 5, 6], [0, 1, 2, 3, 4, 5, 6, 7], [0, 1, 2, 3, 4, 5, 6, 7, 8], [0, 1, 2, 3, 4, 5, 6, 7, 8], [], [0, 1, 2, 3, 4, 5, 6, 7, 8, 9, 11], [0, 1, 2, 3, 4, 5, 6, 7, 8, 9, 10, 11, 12]], [[], [], [], [], [], [], [], [], [], [], [], [], [], []], [(11, 0), (11, 1)]⟩ else none)
set_option maxRecDepth 10000 in
def pl245 (f : Nat) : Option Plan := bif Nat.beq f 3 then some ⟨[], [0, 1, 2, 3, 4, 5, 6, 7, 8, 9, 10, 11, 12, 13, 14, 15], [.q [0], .q [0], .q [0, 1], .q [0, 1], .q [0], .q [0], .q [0], .q [0], .q [0], .q [0], .q [0], .q [0], .q [0], .w 0, .q [1], .w 1], [[], [], [], [], [], [], [4, 5], [4, 5, 6], [], [], [8, 9], [8, 9, 10], [0, 1, 4, 5, 6, 7, 8, 9, 10, 11], [0, 1, 4, 5, 6, 7, 8, 9, 10, 11, 12], [0, 1, 2, 3, 4, 5, 6, 7, 8, 9, 10, 11, 12, 13], [0, 1, 2, 3, 4, 5, 6, 7, 8, 9, 10, 11, 12, 13, 14]], [[], [], [], [], [], [], [], [], [], [], [], [], [], [], [], []], []⟩ else none
set_option maxRecDepth 10000 in
def pl251 (f : Nat) : Option Plan := bif Nat.blt f 4 then (
 bif Nat.blt f 3 then (
  bif Nat.beq f 1 then some ⟨[], [0, 1, 2, 3, 4, 5, 6, 7, 8, 9, 10, 11, 12, 13, 14, 15, 16, 17, 18], [.q [0], .q [0], .q [0], .q [0], .q [0], .q [0], .q [0], .q [0], .q [0], .q [0], .q [0], .q [0], .q [0], .q [0], .q [0], .q [0], .q [0], .q [0], .q [0]], [[], [0], [0, 1], [0, 1, 2], [0, 1, 2, 3], [0, 1, 2, 3, 4], [0, 1, 2, 3, 4, 5], [0, 1, 2, 3, 4, 5, 6], [0, 1, 2, 3, 4, 5, 6, 7], [0, 1, 2, 3, 4, 5, 6, 7, 8], [0, 1, 2, 3, 4, 5, 6, 7], [0, 1, 2, 3, 4, 5, 6, 7, 10], [0, 1, 2, 3, 4, 5, 6, 7, 10, 11], [0, 1, 2, 3, 4, 5, 6, 7, 10, 11, 12], [0, 1, 2, 3, 4, 5, 6, 7, 10, 11, 12, 13], [0, 1, 2, 3, 4, 5, 6, 7, 8, 9, 10, 11, 12, 13, 14], [0, 1, 2, 3, 4, 5, 6, 7, 8, 9, 10, 11, 12, 13, 14, 15], [0, 1, 2, 3, 4, 5, 6, 7, 8, 9, 10, 11, 12, 13, 14, 15, 16], [0, 1, 2, 3, 4, 5, 6, 7, 8, 9, 10, 11, 12, 13, 14, 15, 16, 17]], [[], [], [], [], [], [], [], [], [], [], [], [], [], [], [], [], [], [], []], []⟩ else none) else (
  bif Nat.beq f 3 then some ⟨[], [0, 1, 2, 3, 4, 5, 6, 7, 8, 9, 10, 11, 12, 13], [.q [0], .q [0], .q [0], .q [0], .q [0], .q [0], .q [0], .q [0], .q [0], .q [0], .q [0], .q [0], .q [0], .q [0]], [[], [0], [0, 1], [0, 1, 2], [0, 1, 2, 3], [0, 1, 2, 3, 4], [0, 1, 2, 3, 4, 5], [0, 1, 2, 3, 4, 5, 6], [0, 1, 2, 3], [0, 1, 2, 3, 8], [0, 1, 2, 3, 4, 5, 6, 7, 8, 9], [0, 1, 2, 3, 4, 5, 6, 7, 8, 9, 10], [0, 1, 2, 3, 4, 5, 6, 7, 8, 9, 10, 11], [0, 1, 2, 3, 4, 5, 6, 7, 8, 9, 10, 11, 12]], [[], [], [], [], [], [], [], [], [], [], [], [], [], []], []⟩ else none)) else (
 bif Nat.blt f 6 then (
  bif Nat.beq f 4 then some ⟨[], [0, 1, 2, 3, 4, 5, 6, 7, 8, 9, 10, 11], [.q [0], .q [0], .q [0], .q [0], .q [0], .q [0], .q [0], .q [0], .q [0], .q [0], .w 0, .q [1]], [[], [], [1], [1, 2], [1, 2, 3], [], [5], [1, 2, 3, 4, 5, 6], [1, 2, 3, 4, 5, 6, 7], [], [0, 1, 2, 3, 4, 5, 6, 7, 8, 9], [0, 1, 2, 3, 4, 5, 6, 7, 8, 9, 10]], [[], [], [], [], [], [], [], [], [], [], [], []], []⟩ else none) else (
  bif Nat.blt f 9 then (
   bif Nat.beq f 6 then some ⟨[], [0, 1, 2, 3, 4, 5, 6, 7, 8, 9, 10, 11, 12, 13, 14, 15, 16, 17], [.q [0, 1], .q [0, 1], .q [0, 1], .q [0, 1], .q [0, 1], .q [0, 1], .q [0, 1], .q [0, 1], .q [0, 1], .q [0, 1], .q [0, 1, 2], .q [0, 1, 2], .q [0], .w 0, .q [1], .w 1, .q [2], .w 2], [[], [0], [0, 1], [0, 1, 2], [], [4], [], [6], [6, 7], [6, 7, 8], [], [10], [], [12], [0, 1, 2, 3, 4, 5, 6, 7, 8, 9, 12, 13], [0, 1, 2, 3, 4, 5, 6, 7, 8, 9, 12, 13, 14], [0, 1, 2, 3, 4, 5, 6, 7, 8, 9, 10, 11, 12, 13, 14, 15], [0, 1, 2, 3, 4, 5, 6, 7, 8, 9, 10, 11, 12, 13, 14, 15, 16]], [[], [], [], [], [], [], [], [], [], [], [], [], [], [], [], [], [], []], [(1, 1), (2, 1), (3, 1), (4, 1), (5, 1), (7, 1), (8, 1), (9, 1), (10, 1), (10, 2), (11, 1), (11, 2)]⟩ else none) else (
   bif Nat.beq f 9 then some ⟨[], [0, 1, 2, 3, 4, 5, 6, 7, 8, 9, 10, 11], [.q [0], .w 0, .q [1], .q [1], .q [1], .q [1], .q [1], .q [1], .q [1], .w 1, .q [2], .q [2]], [[], [0], [0, 1], [0, 1, 2], [0, 1, 2, 3], [0, 1, 2, 3, 4], [0, 1, 2, 3, 4, 5], [0, 1, 2], [0, 1, 2], [0, 1, 2, 3, 4, 5, 6, 7, 8], [0, 1, 2, 3, 4, 5, 6, 7, 8, 9], [0, 1, 2, 3, 4, 5, 6, 7, 8, 9, 10]], [[], [], [], [], [], [], [], [], [], [], [], []], []⟩ else none)))
set_option maxRecDepth 10000 in
def pl255 (f : Nat) : Option Plan := bif Nat.beq f 1 then some ⟨[], [0, 1, 2, 3, 4, 5, 6, 7, 8], [.q [0], .q [0], .q [0], .q [0], .q [0], .q [0], .w 0, .q [1], .q [1]], [[], [0], [0, 1], [0, 1, 2], [], [], [0, 1, 2, 3, 4, 5], [0, 1, 2, 3, 4, 5, 6], [0, 1, 2, 3, 4, 5, 6, 7]], [[], [], [], [], [], [], [], [], []], []⟩ else none
set_option maxRecDepth 10000 in
def pl256 (f : Nat) : Option Plan := bif Nat.beq f 2 then some ⟨[], [0, 1, 2, 3, 4, 5, 6, 7], [.q [0], .q [0], .q [0], .q [0], .q [0], .q [0], .w 0, .q [1]], [[], [0], [0, 1], [0, 1, 2], [], [], [0, 1, 2, 3, 4, 5], [0, 1, 2, 3, 4, 5, 6]], [[], [], [], [], [], [], [], []], []⟩ else none
set_option maxRecDepth 10000 in
def pl257 (f : Nat) : Option Plan := bif Nat.beq f 1 then some ⟨[], [0, 1, 2, 3, 4, 5, 6, 7, 8, 9, 10, 11, 12], [.q [0], .q [0], .q [0], .q [0], .q [0], .q [0], .q [0], .q [0], .q [0], .q [0], .q [0], .q [0], .q [0]], [[], [0], [0, 1], [0, 1, 2], [0, 1, 2, 3], [0, 1, 2, 3, 4], [0, 1, 2, 3], [0, 1, 2, 3, 6], [0, 1, 2, 3, 6, 7], [0, 1, 2, 3, 6, 7, 8], [0, 1, 2, 3, 6, 7, 8, 9], [0, 1, 2, 3, 4, 5, 6, 7, 8, 9, 10], [0, 1, 2, 3, 4, 5, 6, 7, 8, 9, 10, 11]], [[], [], [], [], [], [], [], [], [], [], [], [], []], []⟩ else none
set_option maxRecDepth 10000 in
def pl258 (f : Nat) : Option Plan := bif Nat.beq f 3 then some ⟨[], [0, 1, 2, 3, 4, 5, 6, 7, 8, 9, 10, 11, 12, 13, 14, 15], [.q [0], .q [0], .q [0, 1], .q [0, 1], .q [0], .q [0], .q [0], .q [0], .q [0], .q [0], .q [0], .q [0], .q [0], .w 0, .q [1], .w 1], [[], [], [], [], [], [], [4, 5], [4, 5, 6], [], [], [8, 9], [8, 9, 10], [0, 1, 4, 5, 6, 7, 8, 9, 10, 11], [0, 1, 4, 5, 6, 7, 8, 9, 10, 11, 12], [0, 1, 2, 3, 4, 5, 6, 7, 8, 9, 10, 11, 12, 13], [0, 1, 2, 3, 4, 5, 6, 7, 8, 9, 10, 11, 12, 13, 14]], [[], [], [], [], [], [], [], [], [], [], [], [], [], [], [], []], []⟩ else none
def planT (f id : Nat) : Option Plan := bif Nat.blt f 135 then (
 bif Nat.blt f 63 then (
  bif Nat.blt f 33 then (
   bif Nat.blt f 17 then (
    bif Nat.blt f 5 then (
     bif Nat.beq f 4 then pl4 id else none) else (
     bif Nat.blt f 12 then (
      bif Nat.beq f 5 then pl5 id else none) else (
      bif Nat.beq f 12 then pl12 id else none))) else (
    bif Nat.blt f 19 then (
     bif Nat.blt f 18 then (
      bif Nat.beq f 17 then pl17 id else none) else (
      bif Nat.beq f 18 then pl18 id else none)) else (
     bif Nat.blt f 29 then (
      bif Nat.beq f 19 then pl19 id else none) else (
      bif Nat.beq f 29 then pl29 id else none)))) else (
   bif Nat.blt f 42 then (
    bif Nat.blt f 35 then (
     bif Nat.beq f 33 then pl33 id else none) else (
     bif Nat.blt f 37 then (
      bif Nat.beq f 35 then pl35 id else none) else (
      bif Nat.beq f 37 then pl37 id else none))) else (
    bif Nat.blt f 48 then (
     bif Nat.blt f 45 then (
      bif Nat.beq f 42 then pl42 id else none) else (
      bif Nat.beq f 45 then pl45 id else none)) else (
     bif Nat.blt f 51 then (
      bif Nat.beq f 48 then pl48 id else none) else (
      bif Nat.beq f 51 then pl51 id else none))))) else (
  bif Nat.blt f 99 then (
   bif Nat.blt f 90 then (
    bif Nat.blt f 72 then (
     bif Nat.beq f 63 then pl63 id else none) else (
     bif Nat.blt f 83 then (
      bif Nat.beq f 72 then pl72 id else none) else (
      bif Nat.beq f 83 then pl83 id else none))) else (
    bif Nat.blt f 97 then (
     bif Nat.blt f 93 then (
      bif Nat.beq f 90 then pl90 id else none) else (
      bif Nat.beq f 93 then pl93 id else none)) else (
     bif Nat.blt f 98 then (
      bif Nat.beq f 97 then pl97 id else none) else (
      bif Nat.beq f 98 then pl98 id else none)))) else (
   bif Nat.blt f 119 then (
    bif Nat.blt f 102 then (
     bif Nat.blt f 101 then (
      bif Nat.beq f 99 then pl99 id else none) else (
      bif Nat.beq f 101 then pl101 id else none)) else (
     bif Nat.blt f 103 then (
      bif Nat.beq f 102 then pl102 id else none) else (
      bif Nat.beq f 103 then pl103 id else none))) else (
    bif Nat.blt f 132 then (
     bif Nat.blt f 123 then (
      bif Nat.beq f 119 then pl119 id else none) else (
      bif Nat.beq f 123 then pl123 id else none)) else (
     bif Nat.blt f 134 then (
      bif Nat.beq f 132 then pl132 id else none) else (
      bif Nat.beq f 134 then pl134 id else none)))))) else (
 bif Nat.blt f 209 then (
  bif Nat.blt f 180 then (
   bif Nat.blt f 151 then (
    bif Nat.blt f 138 then (
     bif Nat.beq f 135 then pl135 id else none) else (
     bif Nat.blt f 145 then (
      bif Nat.beq f 138 then pl138 id else none) else (
      bif Nat.beq f 145 then pl145 id else none))) else (
    bif Nat.blt f 174 then (
     bif Nat.blt f 154 then (
      bif Nat.beq f 151 then pl151 id else none) else (
      bif Nat.beq f 154 then pl154 id else none)) else (
     bif Nat.blt f 175 then (
      bif Nat.beq f 174 then pl174 id else none) else (
      bif Nat.beq f 175 then pl175 id else none)))) else (
   bif Nat.blt f 196 then (
    bif Nat.blt f 181 then (
     bif Nat.beq f 180 then pl180 id else none) else (
     bif Nat.blt f 188 then (
      bif Nat.beq f 181 then pl181 id else none) else (
      bif Nat.beq f 188 then pl188 id else none))) else (
    bif Nat.blt f 200 then (
     bif Nat.blt f 197 then (
      bif Nat.beq f 196 then pl196 id else none) else (
      bif Nat.beq f 197 then pl197 id else none)) else (
     bif Nat.blt f 208 then (
      bif Nat.beq f 200 then pl200 id else none) else (
      bif Nat.beq f 208 then pl208 id else none))))) else (
  bif Nat.blt f 239 then (
   bif Nat.blt f 225 then (
    bif Nat.blt f 219 then (
     bif Nat.beq f 209 then pl209 id else none) else (
     bif Nat.blt f 224 then (
      bif Nat.beq f 219 then pl219 id else none) else (
      bif Nat.beq f 224 then pl224 id else none))) else (
    bif Nat.blt f 235 then (
     bif Nat.blt f 227 then (
      bif Nat.beq f 225 then pl225 id else none) else (
      bif Nat.beq f 227 then pl227 id else none)) else (
     bif Nat.blt f 236 then (
      bif Nat.beq f 235 then pl235 id else none) else (
      bif Nat.beq f 236 then pl236 id else none)))) else (
   bif Nat.blt f 255 then (
    bif Nat.blt f 245 then (
     bif Nat.blt f 241 then (
      bif Nat.beq f 239 then pl239 id else none) else (
      bif Nat.beq f 241 then pl241 id else none)) else (
     bif Nat.blt f 251 then (
      bif Nat.beq f 245 then pl245 id else none) else (
      bif Nat.beq f 251 then pl251 id else none))) else (
    bif Nat.blt f 257 then (
     bif Nat.blt f 256 then (
      bif Nat.beq f 255 then pl255 id else none) else (
      bif Nat.beq f 256 then pl256 id else none)) else (
     bif Nat.blt f 258 then (
      bif Nat.beq f 257 then pl257 id else none) else (
      bif Nat.beq f 258 then pl258 id else none))))))
def okB (t n : Nat) : Bool := (Nat.beq t 100 && Nat.beq n 2) || (Nat.beq t 136 && Nat.beq n 3)
def toldT (f : Nat) : Option (Lim → List AV → Sto → Option (AV × Sto)) := bif Nat.blt f 138 then (
 bif Nat.blt f 85 then (
  bif Nat.beq f 51 then some (strT 5) else none) else (
  bif Nat.beq f 85 then some (copyT okB) else none)) else (
 bif Nat.blt f 196 then (
  bif Nat.beq f 138 then some (delT 5) else none) else (
  bif Nat.blt f 208 then (
   bif Nat.beq f 196 then some insT else none) else (
   bif Nat.beq f 208 then some insT else none)))
def bzT (f : Nat) : Bool := bif Nat.blt f 136 then (
 bif Nat.beq f 100 then true else false) else (
 bif Nat.beq f 136 then true else false)
def backT (f : Nat) : Option Nat := bif Nat.beq f 184 then some 42 else none
noncomputable def env0 (R : Nat → Option (List PV)) : Env := ⟨Tryz.prog, globT R, kindT, muT, rrT, cloneT, planT, toldT, bzT, backT⟩
noncomputable def env (R : Nat → Option (List PV)) : Env := ⟨Tryz.prog, globT R, kindT, muT, rrT, fun f => bif Nat.beq f 32 then true else bif Nat.beq f 33 then true else bif Nat.beq f 34 then true else cloneT f, planT, fun f => bif Nat.beq f 32 then some (frT (env0 R) 32 3) else bif Nat.beq f 33 then some (frT (env0 R) 33 3) else bif Nat.beq f 34 then some (frT (env0 R) 34 4) else toldT f, bzT, backT⟩
end Go.Proofs.YtpmafnbhkhdaiaaGreatDoor
