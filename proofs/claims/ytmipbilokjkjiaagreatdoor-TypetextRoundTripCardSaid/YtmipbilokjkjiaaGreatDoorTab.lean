/-
  The evaluator's settings for this program: written by a program (wip/tel/Gen.lean.txt).
-/
import Derived.Test.YtmipbilokjkjiaaGreatDoorEvI
import Derived.Test.YtmipbilokjkjiaaGreatDoorTenR
import Derived.Test.YtmipbilokjkjiaaGreatDoorTenL
import Derived.Test.YtmipbilokjkjiaaGreatDoorTenN
import Derived.Test.YtmipbilokjkjiaaGreatDoorRows
set_option linter.unusedSimpArgs false
set_option linter.unusedVariables false
namespace Go.Proofs.YtmipbilokjkjiaaGreatDoor
open Go.Tel
set_option maxRecDepth 10000
noncomputable section
def rp {α : Type} (n : Nat) (a : α) (l : List α) : List α := Nat.rec l (fun _ h => a::h) n
def ra (n a : Nat) (l : List Nat) : List Nat := Nat.rec (fun _ => l) (fun _ h a => a::h (Nat.succ a)) n a
def lk (l : List (Nat × (Nat → Option Plan))) (f i : Nat) : Option Plan := List.rec none (fun a _ h => bif Nat.beq f a.1 then a.2 i else h) l
def cF (_ : Nat) : Bool := false
abbrev RT := Nat → Option (List PV)
abbrev QT := AV → Sto → Prop
def kd (x : Nat) : Kind := bif Nat.beq x 1 then .esc else bif Nat.beq x 2 then .im else bif Nat.beq x 3 then .st else .rd
def kindT (f : Nat) : Kind := kd (Nat.mod (Nat.div 0x80000000000000000000a100200c8004089800268a800018068a40828a000000a0a00a8200018000 (Nat.pow 4 f)) 4)
def muT (f t : Nat) : Bool := bif Nat.beq f 90 then Nat.beq t 55 else false
def rrSet (_ : Nat) : Bool := false
def rrT (_ g : Nat) : Bool := rrSet g
def cloneT (f : Nat) : Bool := bif Nat.blt f 82 then (
 bif Nat.blt f 61 then (
  bif Nat.beq f 31 then true else false) else (
  bif Nat.beq f 61 then true else false)) else (
 bif Nat.blt f 105 then (
  bif Nat.beq f 82 then true else false) else (
  bif Nat.beq f 105 then true else false))
def globT (R : Nat → Option (List PV)) (f : Nat) : Option (List PV) := bif Nat.beq f 6 then some (strRow [[65, 110, 121], [78, 101, 118, 101, 114], [116, 117, 112, 108, 101], [117, 110, 105, 111, 110], [101, 120, 105, 115, 116, 115]]) else bif Nat.beq f 7 then some (strRow [[65, 110, 121], [78, 101, 118, 101, 114], [116, 117, 112, 108, 101], [117, 110, 105, 111, 110], [101, 120, 105, 115, 116, 115]]) else R f
def pl4 (f : Nat) : Option Plan := bif Nat.beq f 3 then some ⟨[],ra 16 0 [],.w 0::.q [1]::.q [1]::.w 1::.q [1,2]::.w 2::rp 4 (.q [3]) (.w 3::.q [3,4]::.w 4::rp 3 (.q [5]) []),[[],[0],[0,1],[0,1,2],[0,1],[0,1,2,3,4],ra 6 0 [],ra 7 0 [],ra 8 0 [],ra 9 0 [],ra 10 0 [],ra 9 0 [],ra 12 0 [],ra 13 0 [],ra 14 0 [],ra 15 0 []],rp 16 [] [],[(4, 1),(11, 3)]⟩ else none
def pl6 (f : Nat) : Option Plan := bif Nat.beq f 5 then some ⟨[],ra 13 0 [],.w 0::.q [1]::.q [1]::.w 1::.q [1,2]::.w 2::.q [3,4]::.q [1,2,3]::.q [1,2,3]::.w 3::rp 3 (.q [4]) [],[[],[0],[0,1],[0,1,2],[0,1],[0,1,2,3,4],ra 6 0 [],[0,1],[0,1],ra 6 0 [7,8],ra 10 0 [],ra 11 0 [],ra 12 0 []],rp 13 [] [],[(4, 1),(6, 4),(7, 1),(7, 2),(8, 1),(8, 2)]⟩ else none
def pl12 (f : Nat) : Option Plan := bif Nat.beq f 3 then some ⟨[],[0,1,2,3,4],[.q [0,1],.q [0],.w 0,.w 1,.q [2]],[[],[],[1],[0,1,2],[0,1,2,3]],rp 5 [] [],[(0, 1)]⟩ else none
def pl13 (f : Nat) : Option Plan := bif Nat.beq f 3 then some ⟨[],[0,1,2,3],[.q [0],.q [0,1],.w 0,.w 1],[[],[],[0],[0,1,2]],[[],[],[],[]],[(1, 1)]⟩ else none
def pl17 (f : Nat) : Option Plan := bif Nat.beq f 2 then some ⟨[],ra 42 0 [],.q (ra 12 0 [])::.q [0]::.q [0]::.w 0::rp 3 (.q (ra 12 0 [])) (.q (ra 11 1 [])::.w 1::.q [2]::.w 2::.w 3::rp 3 (.q (ra 8 4 [])) (.q (ra 12 0 [])::.w 4::.q (ra 7 5 [])::.w 5::.w 6::rp 3 (.q [7,8,9,10,11]) (.q (ra 12 0 [])::.q (ra 12 0 [])::.w 7::rp 3 (.q [8,9,10,11]) (.q (ra 9 0 [])::.q (ra 9 0 [])::.w 8::.q [9]::.w 9::.q (ra 11 0 [])::.q (ra 11 0 [])::.w 10::rp 5 (.q [11]) [])))),[[],[],[1],[1,2],[],[4],[4,5],ra 6 1 [],[1,2,3],[1,2,3,8],[1,2,3,8,9],[1,2,3,8,9,10],[1,2,3,8,9,10,11],[1,2,3,8,9,10,11,12],1::2::3::ra 6 8 [],[],[1,2,3,8,9,10,11],[1,2,3,8,9,10,11,16],[1,2,3,8,9,10,11,16],[1,2,3,8,9,10,11,16,18],[1,2,3,8,9,10,11,16,18,19],[1,2,3,8,9,10,11,16,18,19,20],[1,2,3,8,9,10,11,16,18,19,20,21],[],[23],[1,2,3,8,9,10,11,16,18,19],[1,2,3,8,9,10,11,16,18,19,25],[1,2,3,8,9,10,11,16,18,19,23,24,25,26],[1,2,3,8,9,10,11,16,18,19,23,24,25,26,27],[],[29],[1,2,3,8,9,10,11,16,18,19,25,29,30],[1,2,3,8,9,10,11,16,18,19,25,29,30,31],[1,2,3,8,9,10,11,16,18,19,25,29,30,31,32],[],[34],1::2::3::8::9::10::11::16::18::19::25::ra 7 29 [],1::2::3::8::9::10::11::16::18::19::25::ra 8 29 [],1::2::3::8::9::10::11::16::18::19::25::ra 9 29 [],1::2::3::8::9::10::11::16::18::19::25::ra 10 29 [],ra 40 0 [],ra 41 0 []],rp 42 [] [],[(4, 0),(4, 2),(4, 3),(4, 4),(4, 5),(4, 6),(4, 7),(4, 8),(4, 9),(4, 10),(4, 11),(23, 0),(23, 1),(23, 2),(23, 3),(23, 4),(23, 5),(23, 6),(23, 8),(23, 9),(23, 10),(23, 11),(29, 0),(29, 1),(29, 2),(29, 3),(29, 4),(29, 5),(29, 6),(29, 7),(34, 0),(34, 1),(34, 2),(34, 3),(34, 4),(34, 5),(34, 6),(34, 7),(34, 8),(34, 9)]⟩ else none
def pl19 (f : Nat) : Option Plan := bif Nat.blt f 12 then (
 bif Nat.beq f 8 then some ⟨[],ra 9 0 [],.q [0,1]::rp 3 (.q [0]) (.w 0::rp 3 (.q [1]) [.w 1]),[[],[],[],[2],[1,2,3],[0,1,2,3,4],ra 6 0 [],ra 7 0 [],ra 8 0 []],rp 9 [] [],[(0, 1)]⟩ else none) else (
 bif Nat.blt f 26 then (
  bif Nat.beq f 12 then some ⟨[],ra 9 0 [],.q [0,1]::rp 3 (.q [0]) (.w 0::rp 3 (.q [1]) [.w 1]),[[],[],[],[2],[1,2,3],[0,1,2,3,4],ra 6 0 [],ra 7 0 [],ra 8 0 []],rp 9 [] [],[(0, 1)]⟩ else none) else (
  bif Nat.beq f 26 then some ⟨[],ra 10 0 [],.q [0,1]::.q [0,1]::rp 3 (.q [0]) [.w 0,.q [1],.w 1,.q [2],.w 2],[[],[0],[],[],[3],[2,3,4],[2,3,4,5],ra 7 0 [],ra 8 0 [],ra 9 0 []],rp 10 [] [],[(0, 1),(1, 1)]⟩ else none))
def pl20 (f : Nat) : Option Plan := bif Nat.blt f 7 then (
 bif Nat.blt f 5 then (
  bif Nat.beq f 3 then some ⟨[],ra 20 0 [],.q [0]::.w 0::.q [0,1,2,3]::rp 3 (.q [0,1]) (.w 1::.q [2,3]::.q [2,3]::.q [0,1,2,3]::rp 3 (.q [0,1,2]) (.w 2::rp 5 (.q [3]) [.w 3])),[[],[0],[],[],[],[4],[0,1,3,4,5],ra 7 0 [],ra 8 0 [],[],[],[],[11],[0,1,3,4,5,6,10,11,12],[0,1,3,4,5,6,9,10,11,12,13],0::1::3::4::5::6::ra 6 9 [],0::1::3::4::5::6::ra 7 9 [],0::1::3::4::5::6::ra 8 9 [],ra 18 0 [],ra 19 0 []],rp 20 [] [],[(2, 0),(2, 2),(2, 3),(4, 0),(5, 0),(7, 3),(8, 3),(9, 0),(9, 1),(9, 3),(11, 0),(11, 1),(12, 0),(12, 1)]⟩ else none) else (
  bif Nat.beq f 5 then some ⟨[],ra 11 0 [],.q [0,1,2]::rp 3 (.q [0]) [.w 0,.q [1,2],.q [1,2],.q [0,1],.w 1,.q [2],.w 2],[[],[],[],[2],[1,2,3],[0,1,2,3,4],ra 6 0 [],[],[1,2,3,4,7],ra 9 0 [],ra 10 0 []],rp 11 [] [],[(0, 1),(0, 2),(5, 2),(6, 2)]⟩ else none)) else (
 bif Nat.blt f 9 then (
  bif Nat.beq f 7 then some ⟨[],ra 9 0 [],.q [0,1]::rp 3 (.q [0]) (.w 0::rp 3 (.q [1]) [.w 1]),[[],[],[],[2],[1,2,3],[0,1,2,3,4],ra 6 0 [],ra 7 0 [],ra 8 0 []],rp 9 [] [],[(0, 1)]⟩ else none) else (
  bif Nat.blt f 15 then (
   bif Nat.beq f 9 then some ⟨[],ra 9 0 [],.q [0,1]::rp 3 (.q [0]) (.w 0::rp 3 (.q [1]) [.w 1]),[[],[],[],[2],[1,2,3],[0,1,2,3,4],ra 6 0 [],ra 7 0 [],ra 8 0 []],rp 9 [] [],[(0, 1)]⟩ else none) else (
   bif Nat.beq f 15 then some ⟨[],ra 11 0 [],.q [0,1]::.q [0,1]::rp 4 (.q [0]) [.w 0,.q [1],.w 1,.q [2],.w 2],[[],[0],[],[],[3],[],[2,3,4,5],[2,3,4,5,6],ra 8 0 [],ra 9 0 [],ra 10 0 []],rp 11 [] [],[(0, 1),(1, 1)]⟩ else none)))
def pl21 (f : Nat) : Option Plan := bif Nat.blt f 7 then (
 bif Nat.blt f 4 then (
  bif Nat.beq f 3 then some ⟨[9],ra 9 0 [10],.q [0,1]::.q [0,1]::.q [0]::.w 0::rp 5 (.q [1]) [.h [0,1],.w 1],[[],[],[],[2],[1,2,3],[1,2,3,4],[1,2,3,4,5],ra 7 0 [],ra 8 0 [],[],ra 10 0 []],rp 11 [] [],[(1, 1),(9, 0),(9, 1)]⟩ else none) else (
  bif Nat.beq f 4 then some ⟨[],ra 12 0 [],.q [0,1,2]::.q [0,1,2]::.q [0]::.w 0::rp 3 (.q [0,1]) [.w 1,.q [2],.w 2,.q [3],.w 3],[[],[0],[],[2],[],[],[5],[2,3,4,5,6],ra 6 2 [],ra 9 0 [],ra 10 0 [],ra 11 0 []],rp 12 [] [],[(0, 1),(0, 2),(1, 1),(1, 2),(6, 0)]⟩ else none)) else (
 bif Nat.blt f 22 then (
  bif Nat.beq f 7 then some ⟨[],ra 9 0 [],.q [0,1]::rp 3 (.q [0]) (.w 0::rp 3 (.q [1]) [.w 1]),[[],[],[],[2],[1,2,3],[0,1,2,3,4],ra 6 0 [],ra 7 0 [],ra 8 0 []],rp 9 [] [],[(0, 1)]⟩ else none) else (
  bif Nat.beq f 22 then some ⟨[],ra 10 0 [],.q [0,1]::.q [0,1]::rp 3 (.q [0]) [.w 0,.q [1],.w 1,.q [2],.w 2],[[],[0],[],[],[3],[2,3,4],[2,3,4,5],ra 7 0 [],ra 8 0 [],ra 9 0 []],rp 10 [] [],[(0, 1),(1, 1)]⟩ else none))
def pl22 (f : Nat) : Option Plan := bif Nat.blt f 6 then (
 bif Nat.beq f 3 then some ⟨[],[0,1,2,3],[.q [0],.q [0,1],.w 0,.w 1],[[],[],[0],[0,1,2]],[[],[],[],[]],[(1, 1)]⟩ else none) else (
 bif Nat.beq f 6 then some ⟨[],ra 7 0 [],.q [0]::rp 4 (.q [0,1]) [.w 0,.w 1],[[],[],[],[2],[1,2,3],[0],ra 6 0 []],rp 7 [] [],[(2, 1),(3, 1)]⟩ else none)
def pl23 (f : Nat) : Option Plan := bif Nat.beq f 5 then some ⟨[],ra 12 0 [],.q [0,1]::.q [0,1]::rp 5 (.q [0]) [.w 0,.q [1],.w 1,.q [2],.w 2],[[],[0],[],[2],[],[2,3,4],[2,3,4,5],[2,3,4,5,6],ra 6 2 [],ra 9 0 [],ra 10 0 [],ra 11 0 []],rp 12 [] [],[(0, 1),(1, 1)]⟩ else none
def pl24 (f : Nat) : Option Plan := bif Nat.blt f 7 then (
 bif Nat.beq f 4 then some ⟨[],ra 7 0 [],.q [0]::rp 4 (.q [0,1]) [.w 0,.w 1],[[],[],[1],[1,2],[1,2,3],[0],ra 6 0 []],rp 7 [] [],[(2, 1),(3, 1),(4, 1)]⟩ else none) else (
 bif Nat.beq f 7 then some ⟨[],ra 7 0 [],.q [0]::rp 4 (.q [0,1]) [.w 0,.w 1],[[],[],[],[2],[1,2,3],[0],ra 6 0 []],rp 7 [] [],[(2, 1),(3, 1)]⟩ else none)
def pl26 (f : Nat) : Option Plan := bif Nat.blt f 29 then (
 bif Nat.beq f 7 then some ⟨[],ra 7 0 [],[.q [0,1],.q [0],.w 0,.q [1],.q [1],.w 1,.w 2],[[],[],[1],[0,1,2],[0,1,2,3],[0,1,2,3,4],ra 6 0 []],rp 7 [] [],[(0, 1)]⟩ else none) else (
 bif Nat.blt f 35 then (
  bif Nat.beq f 29 then some ⟨[],ra 12 0 [],.q [0,1]::.q [0,1]::rp 5 (.q [0]) [.w 0,.q [1],.w 1,.q [2],.w 2],[[],[0],[],[],[],[4],[],[2,3,4,5,6],ra 6 2 [],ra 9 0 [],ra 10 0 [],ra 11 0 []],rp 12 [] [],[(0, 1),(1, 1)]⟩ else none) else (
  bif Nat.beq f 35 then some ⟨[],ra 10 0 [],.q [0,1]::rp 6 (.q [0]) [.w 0,.w 1,.w 2],[[],[],[],[],[3],[],[5],ra 6 1 [],ra 8 0 [],ra 9 0 []],rp 10 [] [],[(0, 1)]⟩ else none))
def pl27 (f : Nat) : Option Plan := bif Nat.blt f 18 then (
 bif Nat.beq f 5 then some ⟨[10],ra 10 0 [11],rp 4 (.q [0,1,2]) [.q [0],.w 0,.q [0,1],.w 1,.q [2],.q [2],.h [0,1,2],.w 2],[[],[],[0,1],[0,1,2],[],[4],[],[4,5,6],[4,5,6,7],ra 9 0 [],[],ra 11 0 []],rp 12 [] [],[(0, 1),(0, 2),(2, 1),(2, 2),(3, 1),(3, 2),(10, 0),(10, 1),(10, 2)]⟩ else none) else (
 bif Nat.beq f 18 then some ⟨[],ra 13 0 [],rp 3 (.q [0,1]) (rp 4 (.q [0]) [.w 0,.q [1],.w 1,.q [2],.q [2],.w 2]),[[],[0],[0,1],[],[],[],[5],[3,4,5,6],[3,4,5,6,7],ra 9 0 [],ra 10 0 [],ra 11 0 [],ra 12 0 []],rp 13 [] [],[(0, 1),(1, 1),(2, 1)]⟩ else none)
def pl30 (f : Nat) : Option Plan := bif Nat.blt f 20 then (
 bif Nat.blt f 14 then (
  bif Nat.beq f 13 then some ⟨[],ra 8 0 [],rp 7 (.q [0]) [.w 0],[[],[0],[0,1],[],[],[3,4],[3,4,5],ra 7 0 []],rp 8 [] [],[]⟩ else none) else (
  bif Nat.beq f 14 then some ⟨[],ra 11 0 [],rp 3 (.q [0,1]) (rp 5 (.q [0]) [.w 0,.q [1],.w 1]),[[],[0],[0,1],[],[3],[],[5],[3,4,5,6],[3,4,5,6,7],ra 6 3 [],ra 10 0 []],rp 11 [] [],[(1, 1),(2, 1)]⟩ else none)) else (
 bif Nat.blt f 24 then (
  bif Nat.beq f 20 then some ⟨[],ra 11 0 [],rp 5 (.q [0,1,2]) [.q [0],.w 0,.q [0,1],.q [0,1],.w 1,.w 2],[[],[],[1],[1,2],[1,2,3],[],[5],[],[7],[5,6,7,8],ra 10 0 []],rp 11 [] [],[(1, 1),(1, 2),(2, 1),(2, 2),(3, 1),(3, 2),(4, 1),(4, 2)]⟩ else none) else (
  bif Nat.beq f 24 then some ⟨[],ra 6 0 [],rp 5 (.q [0]) [.w 0],[[],[0],[0,1],[],[3],[0,1,2,3,4]],rp 6 [] [],[]⟩ else none))
def pl31 (f : Nat) : Option Plan := bif Nat.beq f 1 then some ⟨[],ra 12 0 [],rp 12 (.q [0]) [],[[],[0],[0,1],[0,1,2],[0,1,2,3],[],[5],[5,6],[5,6,7],[5,6,7,8],ra 10 0 [],ra 11 0 []],rp 12 [] [],[]⟩ else none
def pl37 (f : Nat) : Option Plan := bif Nat.beq f 14 then some ⟨[],ra 26 0 [],rp 3 (.q [0,1,2,3,4]) (rp 5 (.q [0]) (.w 0::.q [1,2,3,4]::.q [1,2,3,4]::rp 5 (.q [0,1,2,3]) (.q [0,1]::.q [0,1]::.w 1::.q [0,1,2]::.q [0,1,2]::.w 2::.w 3::rp 3 (.q [4]) []))),[[],[0],[0,1],[],[3],[3,4],[3,4,5],[],[3,4,5,6,7],ra 9 0 [],ra 10 0 [],[],[11],[11,12],[11,12,13],[],[],[],ra 6 3 [16,17],[],[19],ra 6 3 [16,17,18,19,20],ra 6 3 (ra 11 11 []),ra 23 0 [],ra 24 0 [],ra 25 0 []],rp 26 [] [],[(1, 1),(1, 2),(1, 3),(1, 4),(2, 1),(2, 2),(2, 3),(2, 4),(9, 2),(9, 3),(9, 4),(10, 2),(10, 3),(10, 4),(11, 0),(11, 2),(11, 3),(12, 0),(12, 2),(12, 3),(13, 0),(13, 2),(13, 3),(14, 0),(14, 2),(14, 3)]⟩ else none
def pl43 (f : Nat) : Option Plan := bif Nat.beq f 12 then some ⟨[],ra 12 0 [],rp 10 (.q [0]) [.w 0,.q [1]],[[],[0],[],[0,1,2],[0,1,2,3],[],[5],[],[5,6,7],[5,6,7,8],ra 10 0 [],ra 11 0 []],rp 12 [] [],[]⟩ else none
def pl44 (f : Nat) : Option Plan := bif Nat.blt f 4 then (
 bif Nat.beq f 1 then some ⟨[],ra 10 0 [],rp 10 (.q [0]) [],[[],[0],[0,1],[0,1,2],[],[4],[4,5],[4,5,6],[4,5,6,7],ra 9 0 []],rp 10 [] [],[]⟩ else none) else (
 bif Nat.beq f 4 then some ⟨[],ra 14 0 [],rp 12 (.q [0]) [.w 0,.q [1]],[[],[0],[0,1],[0,1,2],[],[4],[4,5],[4,5,6],[4,5,6,7],ra 9 0 [],ra 10 0 [],[],ra 12 0 [],ra 13 0 []],rp 14 [] [],[]⟩ else none)
def pl45 (f : Nat) : Option Plan := bif Nat.blt f 4 then (
 bif Nat.beq f 1 then some ⟨[],ra 10 0 [],rp 10 (.q [0]) [],[[],[0],[0,1],[0,1,2],[],[4],[4,5],[4,5,6],[4,5,6,7],ra 9 0 []],rp 10 [] [],[]⟩ else none) else (
 bif Nat.beq f 4 then some ⟨[],ra 12 0 [],rp 12 (.q [0]) [],[[],[0],[0,1],[0,1,2],[],[4],[4,5],[4,5,6],[4,5,6,7],ra 9 0 [],ra 10 0 [],ra 11 0 []],rp 12 [] [],[]⟩ else none)
def pl47 (f : Nat) : Option Plan := bif Nat.blt f 22 then (
 bif Nat.beq f 7 then some ⟨[],ra 10 0 [],rp 4 (.q [0,1]) (rp 3 (.q [0,1,2]) [.w 0,.w 1,.q [2]]),[[],[0],[0,1],[0,1,2],[],[4],[4,5],[],[0,1,2,3,7],ra 9 0 []],rp 10 [] [],[(0, 1),(1, 1),(2, 1),(3, 1),(4, 1),(4, 2),(5, 1),(5, 2),(6, 1),(6, 2)]⟩ else none) else (
 bif Nat.blt f 27 then (
  bif Nat.beq f 22 then some ⟨[],ra 15 0 [],.q [0,1,2,3]::rp 4 (.q [0,1,2]) (.q [0]::.q [0]::.w 0::rp 3 (.q [0,1]) [.w 1,.w 2,.w 3,.w 4]),[[],[],[],[2],[2,3],[],[],[5,6],[],[8],[8,9],ra 6 5 [],ra 11 1 [],ra 13 0 [],ra 14 0 []],rp 15 [] [],[(0, 1),(0, 2),(0, 3),(3, 1),(3, 2),(4, 1),(4, 2),(8, 0),(9, 0)]⟩ else none) else (
  bif Nat.beq f 27 then some ⟨[],ra 8 0 [],.q [0,1]::.q [0,1]::rp 3 (.q [0]) [.w 0,.q [1],.w 1],[[],[0],[],[],[],[2,3,4],ra 6 0 [],ra 7 0 []],rp 8 [] [],[(0, 1),(1, 1)]⟩ else none))
def pl48 (f : Nat) : Option Plan := bif Nat.beq f 9 then some ⟨[],ra 12 0 [],.q [0,1]::.q [0,1]::rp 5 (.q [0]) [.w 0,.q [1],.w 1,.q [2],.w 2],[[],[0],[],[],[],[4],[],[2,3,4,5,6],ra 6 2 [],ra 9 0 [],ra 10 0 [],ra 11 0 []],rp 12 [] [],[(0, 1),(1, 1)]⟩ else none
def pl51 (f : Nat) : Option Plan := bif Nat.beq f 5 then some ⟨[],ra 7 0 [],[.q [0,1],.q [0],.w 0,.q [1],.q [1],.w 1,.w 2],[[],[],[1],[0,1,2],[0,1,2,3],[0,1,2,3,4],ra 6 0 []],rp 7 [] [],[(0, 1)]⟩ else none
def pl65 (f : Nat) : Option Plan := bif Nat.beq f 7 then some ⟨[],[0,1,2],[.q [0,1],.w 0,.w 1],[[],[],[0,1]],[[],[],[]],[(0, 1)]⟩ else none
def pl66 (f : Nat) : Option Plan := bif Nat.blt f 3 then (
 bif Nat.beq f 2 then some ⟨[],ra 10 0 [],rp 10 (.q [0]) [],[[],[0],[0,1],[0,1,2],[],[4],[4,5],[4,5,6],[4,5,6,7],ra 9 0 []],rp 10 [] [],[]⟩ else none) else (
 bif Nat.beq f 3 then some ⟨[],ra 10 0 [],rp 10 (.q [0]) [],[[],[0],[0,1],[0,1,2],[],[4],[4,5],[4,5,6],ra 8 0 [],ra 9 0 []],rp 10 [] [],[]⟩ else none)
def pl73 (f : Nat) : Option Plan := bif Nat.blt f 5 then (
 bif Nat.beq f 3 then some ⟨[],ra 10 0 [],rp 4 (.q [0,1]) (rp 3 (.q [0,1,2]) [.w 0,.w 1,.q [2]]),[[],[0],[0,1],[0,1,2],[],[4],[4,5],[],[0,1,2,3,7],ra 9 0 []],rp 10 [] [],[(0, 1),(1, 1),(2, 1),(3, 1),(4, 1),(4, 2),(5, 1),(5, 2),(6, 1),(6, 2)]⟩ else none) else (
 bif Nat.blt f 21 then (
  bif Nat.beq f 5 then some ⟨[],ra 6 0 [],[.q [0,1],.q [0,1],.q [0],.w 0,.q [1],.w 1],[[],[0],[],[2],[0,1,2,3],[0,1,2,3,4]],rp 6 [] [],[(0, 1),(1, 1)]⟩ else none) else (
  bif Nat.beq f 21 then some ⟨[],[0,1,2,3],[.q [0],.q [0,1],.w 0,.w 1],[[],[],[0],[0,1,2]],[[],[],[],[]],[(1, 1)]⟩ else none))
def pl75 (f : Nat) : Option Plan := bif Nat.beq f 9 then some ⟨[],ra 7 0 [],rp 7 (.q [0]) [],[[],[],[0,1],[0,1,2],[],[4],ra 6 0 []],rp 7 [] [],[]⟩ else none
def pl87 (f : Nat) : Option Plan := bif Nat.beq f 6 then some ⟨[],ra 13 0 [],rp 4 (.q [0]) (.w 0::.q [0,1]::.q [0,1]::.w 1::rp 3 (.q [0,1,2]) [.w 2,.q [3]]),[[],[],[],[1,2],[0,1,2,3],[],[5],ra 7 0 [],[],[],[8,9],ra 11 0 [],ra 12 0 []],rp 13 [] [],[(10, 0),(10, 1)]⟩ else none
def pl89 (f : Nat) : Option Plan := bif Nat.beq f 0 then some ⟨[],ra 11 0 [],rp 9 (.q [0]) [.w 0,.q [1]],[[],[0],[0,1],[0,1,2],[],[4],[4,5],[4,5,6],ra 8 0 [],ra 9 0 [],ra 10 0 []],rp 11 [] [],[]⟩ else none
def pl90 (f : Nat) : Option Plan := bif Nat.blt f 6 then (
 bif Nat.beq f 4 then some ⟨[],ra 15 0 [],rp 15 (.q [0]) [],[[],[0],[0,1],[0,1,2],[],[4],[4,5],[4,5,6],ra 8 0 [],ra 9 0 [],ra 10 0 [],ra 11 0 [],ra 12 0 [],ra 13 0 [],ra 14 0 []],rp 15 [] [],[]⟩ else none) else (
 bif Nat.blt f 7 then (
  bif Nat.beq f 6 then some ⟨[],ra 11 0 [],rp 11 (.q [0]) [],[[],[0],[0,1],[0,1,2],[],[4],[4,5],[4,5,6],ra 8 0 [],ra 9 0 [],ra 10 0 []],rp 11 [] [],[]⟩ else none) else (
  bif Nat.beq f 7 then some ⟨[],ra 17 0 [],rp 10 (.q [0,1]) [.w 0,.fa 1 12 13,.fj,.fx,.q [2],.q [2],.w 2],[[],[0],[0,1],[0,1,2],[],[4],[4,5],[4,5,6],[4,5,6,7],[0,1,2,3],[],ra 11 0 [],ra 12 0 [],ra 13 0 [],ra 12 0 [],ra 12 0 [14],ra 12 0 [14,15]],rp 17 [] [],[(1, 1),(2, 1),(3, 1),(5, 1),(6, 1),(7, 1),(9, 1)]⟩ else none))
def pl91 (f : Nat) : Option Plan := bif Nat.blt f 14 then (
 bif Nat.blt f 5 then (
  bif Nat.beq f 3 then some ⟨[],ra 10 0 [],rp 10 (.q [0]) [],[[],[0],[0,1],[0,1,2],[],[4],[4,5],[4,5,6],[4,5,6,7],ra 9 0 []],rp 10 [] [],[]⟩ else none) else (
  bif Nat.beq f 5 then some ⟨[],ra 10 0 [],rp 10 (.q [0]) [],[[],[0],[0,1],[0,1,2],[],[4],[4,5],[4,5,6],ra 8 0 [],ra 9 0 []],rp 10 [] [],[]⟩ else none)) else (
 bif Nat.blt f 17 then (
  bif Nat.beq f 14 then some ⟨[],ra 37 0 [],rp 37 (.q [0]) [],[[],[0],[0,1],[0,1,2],[0,1,2,3],[],[5],[5,6],[5,6,7],[5,6,7,8],ra 10 0 [],ra 11 0 [],ra 12 0 [],ra 13 0 [],ra 14 0 [],ra 15 0 [],ra 12 0 [],ra 12 0 [16],ra 12 0 [16,17],ra 12 0 [16,17,18],ra 12 0 [16,17,18,19],ra 21 0 [],ra 22 0 [],ra 23 0 [],ra 24 0 [],ra 25 0 [],ra 26 0 [],ra 27 0 [],ra 24 0 [],ra 24 0 [28],ra 24 0 [28,29],ra 24 0 [28,29,30],ra 24 0 [28,29,30,31],ra 33 0 [],ra 34 0 [],ra 35 0 [],ra 36 0 []],rp 37 [] [],[]⟩ else none) else (
  bif Nat.beq f 17 then some ⟨[],ra 10 0 [],rp 10 (.q [0]) [],[[],[0],[0,1],[0,1,2],[],[4],[4,5],[4,5,6],ra 8 0 [],ra 9 0 []],rp 10 [] [],[]⟩ else none))
def pl93 (f : Nat) : Option Plan := bif Nat.blt f 5 then (
 bif Nat.beq f 1 then some ⟨[],ra 22 0 [],rp 20 (.q [0]) [.w 0,.q [1]],[[],[0],[0,1],[0,1,2],[],[4],[4,5],[4,5,6],[4,5,6,7],ra 9 0 [],ra 10 0 [],ra 11 0 [],ra 12 0 [],ra 13 0 [],ra 14 0 [],ra 11 0 [],ra 11 0 [15],ra 11 0 [15,16],ra 11 0 [15,16,17],ra 19 0 [],ra 20 0 [],ra 21 0 []],rp 22 [] [],[]⟩ else none) else (
 bif Nat.beq f 5 then some ⟨[],ra 14 0 [],rp 13 (.q [0]) [.w 0],[[],[],[1],[1,2],[1,2,3],[],[],[6],[6,7],[6,7,8],ra 9 1 [],[],ra 11 1 [],ra 13 0 []],rp 14 [] [],[]⟩ else none)
def pl99 (f : Nat) : Option Plan := bif Nat.blt f 9 then (
 bif Nat.beq f 8 then some ⟨[],[0,1,2,3],[.q [0],.q [0,1],.w 0,.w 1],[[],[],[0],[0,1,2]],[[],[],[],[]],[(1, 1)]⟩ else none) else (
 bif Nat.blt f 11 then (
  bif Nat.beq f 9 then some ⟨[14],ra 14 0 [15,16],rp 4 (.q [0,1,2]) (.q [0]::.w 0::rp 3 (.q [0,1]) [.w 1,.w 2,.q [3],.q [3],.q [3,4],.h [0,1,2,3],.w 3,.w 4]),[[],[0],[0,1],[0,1,2],[],[4],[],[6],[6,7],[4,5,6,7,8],ra 10 0 [],ra 11 0 [],ra 12 0 [],ra 12 0 [],[],ra 13 0 [14],ra 16 0 []],rp 17 [] [],[(0, 1),(0, 2),(1, 1),(1, 2),(2, 1),(2, 2),(3, 1),(3, 2),(6, 0),(7, 0),(14, 0),(14, 1),(14, 2),(14, 3)]⟩ else none) else (
  bif Nat.beq f 11 then some ⟨[],[0,1,2,3],[.q [0],.q [0,1],.w 0,.w 1],[[],[],[0],[0,1,2]],[[],[],[],[]],[(1, 1)]⟩ else none))
def pl102 (f : Nat) : Option Plan := bif Nat.beq f 6 then some ⟨[],ra 8 0 [],[.q [0,1],.q [0,1],.q [0],.q [0],.w 0,.q [1],.w 1,.q [2]],[[],[],[],[],[2,3],[1,2,3,4],ra 6 0 [],ra 7 0 []],rp 8 [] [],[(0, 1)]⟩ else none
def pl105 (f : Nat) : Option Plan := bif Nat.blt f 15 then (
 bif Nat.beq f 11 then some ⟨[],ra 9 0 [],rp 8 (.q [0]) [.w 0],[[],[],[],[1,2],[0,1,2,3],[],[],[5,6],ra 8 0 []],rp 9 [] [],[]⟩ else none) else (
 bif Nat.beq f 15 then some ⟨[],ra 9 0 [],rp 8 (.q [0]) [.w 0],[[],[],[],[1,2],[0,1,2,3],[],[],[5,6],ra 8 0 []],rp 9 [] [],[]⟩ else none)
def pl110 (f : Nat) : Option Plan := bif Nat.blt f 2 then (
 bif Nat.beq f 1 then some ⟨[],ra 12 0 [],rp 12 (.q [0]) [],[[],[0],[0,1],[0,1,2],[],[4],[4,5],[4,5,6],[4,5,6,7],[4,5,6,7,8],ra 10 0 [],ra 11 0 []],rp 12 [] [],[]⟩ else none) else (
 bif Nat.beq f 2 then some ⟨[],ra 13 0 [],rp 7 (.q [0]) [.fa 0 8 9,.fj,.fx,.q [1],.q [1],.w 1],[[],[0],[0,1],[0,1,2],[],[0,1,2,3],[],ra 7 0 [],ra 8 0 [],ra 9 0 [],ra 8 0 [],ra 8 0 [10],ra 8 0 [10,11]],rp 13 [] [],[]⟩ else none)
def pl115 (f : Nat) : Option Plan := bif Nat.beq f 6 then some ⟨[],ra 13 0 [],rp 6 (.q [0,1]) [.q [0],.q [0],.w 0,.q [1],.q [0,1],.w 1,.q [2]],[[],[0],[],[0,1,2],[0,1,2,3],[],[],[],[6,7],[5,6,7,8],[],ra 11 0 [],ra 12 0 []],rp 10 [] [[2],[],[]],[(0, 1),(1, 1),(3, 1),(4, 1)]⟩ else none
def pl128 (f : Nat) : Option Plan := bif Nat.blt f 10 then (
 bif Nat.blt f 8 then (
  bif Nat.beq f 7 then some ⟨[],ra 15 0 [],rp 3 (.q [0]) (rp 3 (.q [0,1]) (rp 3 (.q [0]) [.q [0,1],.q [0,1],.q [0],.w 0,.q [1],.w 1])),[[],[],[1],[],[],[4],[],[6],[6,7],[],[9],[0,1,2,6,7,8],[0,1,2,6,7,8,11],ra 13 0 [],ra 14 0 []],rp 15 [] [],[(5, 1)]⟩ else none) else (
  bif Nat.blt f 9 then (
   bif Nat.beq f 8 then some ⟨[],ra 15 0 [],rp 3 (.q [0]) (rp 3 (.q [0,1]) (rp 3 (.q [0]) [.q [0,1],.q [0,1],.q [0],.w 0,.q [1],.w 1])),[[],[],[1],[],[],[4],[],[6],[6,7],[],[9],[0,1,2,6,7,8],[0,1,2,6,7,8,11],ra 13 0 [],ra 14 0 []],rp 15 [] [],[(5, 1)]⟩ else none) else (
   bif Nat.beq f 9 then some ⟨[],ra 15 0 [],rp 3 (.q [0]) (rp 3 (.q [0,1]) (rp 3 (.q [0]) [.q [0,1],.q [0,1],.q [0],.w 0,.q [1],.w 1])),[[],[],[1],[],[],[4],[],[6],[6,7],[],[9],[0,1,2,6,7,8],[0,1,2,6,7,8,11],ra 13 0 [],ra 14 0 []],rp 15 [] [],[(5, 1)]⟩ else none))) else (
 bif Nat.blt f 18 then (
  bif Nat.blt f 17 then (
   bif Nat.beq f 10 then some ⟨[],ra 15 0 [],rp 3 (.q [0]) (rp 3 (.q [0,1]) (rp 3 (.q [0]) [.q [0,1],.q [0,1],.q [0],.w 0,.q [1],.w 1])),[[],[],[1],[],[],[4],[],[6],[6,7],[],[9],[0,1,2,6,7,8],[0,1,2,6,7,8,11],ra 13 0 [],ra 14 0 []],rp 15 [] [],[(5, 1)]⟩ else none) else (
   bif Nat.beq f 17 then some ⟨[],ra 15 0 [],rp 3 (.q [0]) (rp 3 (.q [0,1]) (rp 3 (.q [0]) [.q [0,1],.q [0,1],.q [0],.w 0,.q [1],.w 1])),[[],[],[1],[],[],[4],[],[6],[6,7],[],[9],[0,1,2,6,7,8],[0,1,2,6,7,8,11],ra 13 0 [],ra 14 0 []],rp 15 [] [],[(5, 1)]⟩ else none)) else (
  bif Nat.blt f 23 then (
   bif Nat.beq f 18 then some ⟨[],ra 15 0 [],rp 3 (.q [0]) (rp 3 (.q [0,1]) (rp 3 (.q [0]) [.q [0,1],.q [0,1],.q [0],.w 0,.q [1],.w 1])),[[],[],[1],[],[],[4],[],[6],[6,7],[],[9],[0,1,2,6,7,8],[0,1,2,6,7,8,11],ra 13 0 [],ra 14 0 []],rp 15 [] [],[(5, 1)]⟩ else none) else (
   bif Nat.beq f 23 then some ⟨[],ra 15 0 [],rp 3 (.q [0]) (rp 3 (.q [0,1]) (rp 3 (.q [0]) [.q [0,1],.q [0,1],.q [0],.w 0,.q [1],.w 1])),[[],[],[1],[],[],[4],[],[6],[6,7],[],[9],[0,1,2,6,7,8],[0,1,2,6,7,8,11],ra 13 0 [],ra 14 0 []],rp 15 [] [],[(5, 1)]⟩ else none)))
def pl131 (f : Nat) : Option Plan := bif Nat.beq f 6 then some ⟨[],ra 13 0 [],rp 4 (.q [0]) (.w 0::.q [0,1]::.q [0,1]::.w 1::rp 3 (.q [0,1,2]) [.w 2,.q [3]]),[[],[],[],[1,2],[0,1,2,3],[],[5],ra 7 0 [],[],[],[8,9],ra 11 0 [],ra 12 0 []],rp 13 [] [],[(10, 0),(10, 1)]⟩ else none
def pl141 (f : Nat) : Option Plan := bif Nat.beq f 3 then some ⟨[],ra 16 0 [],.q [0]::.q [0]::.q [0,1]::.q [0,1]::rp 9 (.q [0]) [.w 0,.q [1],.w 1],rp 6 [] [[4,5],[4,5,6],[],[],[8,9],[8,9,10],0::1::ra 8 4 [],0::1::ra 9 4 [],ra 14 0 [],ra 15 0 []],rp 16 [] [],[]⟩ else none
def planT (f id : Nat) : Option Plan := lk [(4,pl4),(6,pl6),(12,pl12),(13,pl13),(17,pl17),(19,pl19),(20,pl20),(21,pl21),(22,pl22),(23,pl23),(24,pl24),(26,pl26),(27,pl27),(30,pl30),(31,pl31),(37,pl37),(43,pl43),(44,pl44),(45,pl45),(47,pl47),(48,pl48),(51,pl51),(65,pl65),(66,pl66),(73,pl73),(75,pl75),(87,pl87),(89,pl89),(90,pl90),(91,pl91),(93,pl93),(99,pl99),(102,pl102),(105,pl105),(110,pl110),(115,pl115),(128,pl128),(131,pl131),(141,pl141)] f id
def okB (t n : Nat) : Bool := (Nat.beq t 69 && Nat.beq n 2) || (Nat.beq t 71 && Nat.beq n 3)
def toldT (f : Nat) : Option (Lim → List AV → Sto → Option (AV × Sto)) := bif Nat.blt f 82 then (
 bif Nat.beq f 31 then some (strT 5) else none) else (
 bif Nat.blt f 105 then (
  bif Nat.beq f 82 then some (copyT okB) else none) else (
  bif Nat.beq f 105 then some insT else none))
def bzT (f : Nat) : Bool := bif Nat.blt f 71 then (
 bif Nat.beq f 69 then true else false) else (
 bif Nat.beq f 71 then true else false)
def backT (f : Nat) : Option Nat := bif Nat.beq f 116 then some 9 else none
noncomputable def env0 (R : Nat → Option (List PV)) : Env := ⟨Tryz.prog, globT R, kindT, muT, rrT, cloneT, planT, toldT, bzT, backT⟩
noncomputable def env (R : Nat → Option (List PV)) : Env := ⟨Tryz.prog, globT R, kindT, muT, rrT, fun f => bif Nat.beq f 39 then true else cloneT f, planT, fun f => bif Nat.beq f 39 then some parPT else toldT f, bzT, backT⟩
end
end Go.Proofs.YtmipbilokjkjiaaGreatDoor
