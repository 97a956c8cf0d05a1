/-
  The evaluator's settings for this program: written by a program (wip/tel/Gen.lean.txt).
-/
import Derived.Test.YtpgfpakdnijngaaGreatDoorEvI
import Derived.Test.YtpgfpakdnijngaaGreatDoorTenK
import Derived.Test.YtpgfpakdnijngaaGreatDoorTenL
import Derived.Test.YtpgfpakdnijngaaGreatDoorTenN
import Derived.Test.YtpgfpakdnijngaaGreatDoorRows
set_option linter.all false
namespace Go.Proofs.YtpgfpakdnijngaaGreatDoor
open Go.Tel
open Option renaming some->Y,none->G
open Bool renaming true->Z,false->ϴ
set_option maxRecDepth 10000
noncomputable section
def rp {α:Type} (n:Nat) (a:α) (l:List α):List α:=Nat.rec l (λ_ h=>a::h) n
def ra (n a:Nat) (l:List Nat):List Nat:=Nat.rec (λ_=>l) (λ_ h a=>a::h (Nat.succ a)) n a
def lk (l:List (Nat×(Nat->Option B3))) (f i:Nat):Option B3:=List.rec G (λa _ h=>bif Nat.beq f a.1 then a.2 i else h) l
abbrev RT:=Nat->Option (List PV)
abbrev QT:=AV->AY->Prop
def kd (x:Nat):Kind:=bif Nat.beq x 1 then .esc else bif Nat.beq x 2 then .im else bif Nat.beq x 3 then .st else .rd
def AQp (f:Nat):Kind:=kd (Nat.mod (Nat.div 0x20020800000ac0082020082218a08010aaa0a08240882000060c02a6a0080a084000000100a010600000 (Nat.pow 4 f)) 4)
def muT (f t:Nat):Bool:=bif Nat.blt f 57 then(
 bif Nat.blt f 34 then(
  bif Nat.blt f 24 then(
   bif Nat.beq f 14 then Nat.beq t 45 else ϴ) else(
   bif Nat.beq f 24 then Nat.beq t 45 else ϴ)) else(
  bif Nat.blt f 39 then(
   bif Nat.beq f 34 then Nat.beq t 45 else ϴ) else(
   bif Nat.blt f 49 then(
    bif Nat.beq f 39 then Nat.beq t 45 else ϴ) else(
    bif Nat.beq f 49 then Nat.beq t 45 else ϴ)))) else(
 bif Nat.blt f 99 then(
  bif Nat.blt f 77 then(
   bif Nat.beq f 57 then Nat.beq t 45 else ϴ) else(
   bif Nat.blt f 98 then(
    bif Nat.beq f 77 then Nat.beq t 45 else ϴ) else(
    bif Nat.beq f 98 then Nat.beq t 45 else ϴ))) else(
  bif Nat.blt f 100 then(
   bif Nat.beq f 99 then Nat.beq t 45 else ϴ) else(
   bif Nat.blt f 130 then(
    bif Nat.beq f 100 then Nat.beq t 45 else ϴ) else(
    bif Nat.beq f 130 then Nat.beq t 45 else ϴ))))
def AQq (f:Nat):Bool:=bif Nat.blt f 99 then(
 bif Nat.blt f 98 then(
  bif Nat.beq f 49 then Z else ϴ) else(
  bif Nat.beq f 98 then Z else ϴ)) else(
 bif Nat.blt f 100 then(
  bif Nat.beq f 99 then Z else ϴ) else(
  bif Nat.blt f 130 then(
   bif Nat.beq f 100 then Z else ϴ) else(
   bif Nat.beq f 130 then Z else ϴ)))
def rrT (f g:Nat):Bool:=AQq g&&!((Nat.beq f 98&&Nat.beq g 49))
def gW (f:Nat):Bool:=bif Nat.blt f 124 then(
 bif Nat.blt f 123 then(
  bif Nat.beq f 57 then Z else ϴ) else(
  bif Nat.beq f 123 then Z else ϴ)) else(
 bif Nat.blt f 143 then(
  bif Nat.beq f 124 then Z else ϴ) else(
  bif Nat.beq f 143 then Z else ϴ))
def sC (R:Nat->Option (List PV)) (f:Nat):Option (List PV):=bif Nat.beq f 2 then Y (FE [[65,110,121],[78,101,118,101,114],[116,117,112,108,101],[117,110,105,111,110],[101,120,105,115,116,115]]) else R f
def pl6 (f:Nat):Option B3:=bif Nat.blt f 13 then(
 bif Nat.beq f 7 then Y ⟨[],ra 14 0 [],rp 8 (.q [0]) (.w 0::rp 5 (.q [1]) []),[[],[0],[],[],[2,3],[2,3,4],ra 6 0 [],ra 7 0 [],ra 8 0 [],ra 9 0 [],ra 10 0 [],ra 10 0 [],ra 11 0 [],ra 13 0 []],rp 14 [] [],[]⟩ else G) else(
 bif Nat.beq f 13 then Y ⟨[],ra 36 0 [],rp 4 (.q [0]) (.w 0::.q [1,2]::rp 3 (.q [0,1,2]) (rp 4 (.q [0,1]) (.w 1::rp 22 (.q [2]) []))),[[],[],[0,1],[0,1,2],[0,1,2,3],[0,1,2,3,4],[],[6],[6,7],[],[],[9,10],[9,10,11],[0,1,2,3,4,9,10,11,12],[0,1,2,3,4,9,10,11,12,13],0::1::2::3::4::ra 9 6 [],ra 16 0 [],ra 17 0 [],ra 18 0 [],ra 18 0 [],ra 20 0 [],ra 21 0 [],ra 22 0 [],ra 23 0 [],ra 18 0 [],ra 18 0 [24],ra 18 0 [24,25],ra 18 0 [],ra 18 0 [],ra 18 0 [27,28],ra 18 0 [27,28,29],ra 18 0 [27,28,29,30],ra 18 0 [27,28,29,30,31],ra 18 0 (ra 9 24 []),ra 34 0 [],ra 35 0 []],rp 36 [] [],[(5,2),(7,0),(7,2),(8,0),(8,2),(11,0),(12,0)]⟩ else G)
def pl7 (f:Nat):Option B3:=bif Nat.blt f 13 then(
 bif Nat.blt f 11 then(
  bif Nat.beq f 4 then Y ⟨[7],ra 7 0 [8],rp 3 (.q [0]) [.w 0,.q [0,1],.q [0,1],.q [1],.h [0,1],.w 1],[[],[],[1],[0,1,2],[],[4],ra 6 0 [],[],ra 8 0 []],rp 9 [] [],[(4,0),(5,0),(7,0),(7,1)]⟩ else G) else(
  bif Nat.beq f 11 then Y ⟨[],ra 10 0 [],.q [0,1]::.q [0,1]::rp 4 (.q [0]) [.w 0,.q [0,1],.q [1],.w 1],[[],[0],[],[],[3],[3,4],[2,3,4,5],[],ra 8 0 [],ra 9 0 []],rp 10 [] [],[(0,1),(1,1),(7,0)]⟩ else G)) else(
 bif Nat.blt f 17 then(
  bif Nat.beq f 13 then Y ⟨[],ra 10 0 [],[.q [0,1,2],.q [0,1,2],.q [0],.w 0,.q [1],.w 1,.q [2],.w 2,.q [3],.w 3],[[],[0],[],[2],[2,3],[2,3,4],ra 6 0 [],ra 7 0 [],ra 8 0 [],ra 9 0 []],rp 10 [] [],[(0,1),(0,2),(1,1),(1,2)]⟩ else G) else(
  bif Nat.blt f 18 then(
   bif Nat.beq f 17 then Y ⟨[],ra 10 0 [],[.w 0,.w 1,.q [2],.w 2,.q [0,1,2,3],.q [0,1,2,3],.q [3],.w 3,.q [4],.w 4],[[],[0],[0,1],[0,1,2],[],[4],ra 6 0 [],ra 7 0 [],ra 8 0 [],ra 9 0 []],rp 10 [] [],[(4,0),(4,1),(4,2),(5,0),(5,1),(5,2)]⟩ else G) else(
   bif Nat.beq f 18 then Y ⟨[],ra 13 0 [],.w 0::.q [1]::.q [1]::.w 1::rp 3 (.q [2]) (.w 2::.q [2,3]::.w 3::rp 3 (.q [4]) []),[[],[0],[0,1],[0,1,2],[0,1,2,3],[0,1,2,3,4],ra 6 0 [],ra 7 0 [],ra 6 0 [],ra 9 0 [],ra 10 0 [],ra 11 0 [],ra 12 0 []],rp 13 [] [],[(8,2)]⟩ else G)))
def pl8 (f:Nat):Option B3:=bif Nat.beq f 9 then Y ⟨[],ra 27 0 [],rp 4 (.q [0]) (.w 0::.w 1::rp 17 (.q [2]) (.w 2::rp 3 (.q [3]) [])),[[],[],[0,1],[0,1,2],[0,1,2,3],[0,1,2,3,4],ra 6 0 [],ra 7 0 [],ra 8 0 [],ra 9 0 [],ra 10 0 [],ra 11 0 [],ra 12 0 [],ra 13 0 [],ra 14 0 [],ra 15 0 [],ra 16 0 [],ra 17 0 [],ra 18 0 [],ra 16 0 [],ra 16 0 [],ra 16 0 [19,20],ra 16 0 [19,20,21],ra 23 0 [],ra 24 0 [],ra 25 0 [],ra 26 0 []],rp 27 [] [],[]⟩ else G
def pl9 (f:Nat):Option B3:=bif Nat.blt f 12 then(
 bif Nat.beq f 11 then Y ⟨[],ra 10 0 [],.q [0,1]::.q [0,1]::rp 4 (.q [0]) [.w 0,.q [1],.q [1],.w 1],[[],[0],[],[],[3],[3,4],[2,3,4,5],ra 7 0 [],ra 8 0 [],ra 9 0 []],rp 10 [] [],[(0,1),(1,1)]⟩ else G) else(
 bif Nat.beq f 12 then Y ⟨[],ra 41 0 [],.w 0::.q [1]::.q [1]::.w 1::.q [1,2]::.w 2::.w 3::rp 3 (.q [4]) (.w 4::.q [4,5]::.w 5::.w 6::rp 3 (.q [7]) (.w 7::.q [7,8]::.w 8::rp 9 (.q [9]) (.w 9::rp 4 (.q [10]) [.w 10,.q [10,11],.q [10,11],.w 11,.w 12,.q [13],.q [13]]))),[[],[0],[0,1],[0,1,2],[0,1],[0,1,2,3,4],ra 6 0 [],ra 7 0 [],ra 8 0 [],ra 9 0 [],ra 10 0 [],ra 9 0 [],ra 12 0 [],ra 13 0 [],ra 14 0 [],ra 15 0 [],ra 16 0 [],ra 17 0 [],ra 16 0 [],ra 19 0 [],ra 20 0 [],ra 21 0 [],ra 22 0 [],ra 22 0 [],ra 24 0 [],ra 25 0 [],ra 26 0 [],ra 27 0 [],ra 27 0 [],ra 29 0 [],ra 30 0 [],ra 31 0 [],ra 32 0 [],ra 32 0 [],ra 34 0 [],ra 32 0 [],ra 32 0 [],ra 37 0 [],ra 38 0 [],ra 39 0 [],ra 40 0 []],rp 41 [] [],[(4,1),(35,10),(36,10)]⟩ else G)
def AXR (f:Nat):Option B3:=bif Nat.beq f 2 then Y ⟨[],ra 42 0 [],.q (ra 12 0 [])::.q [0]::.q [0]::.w 0::rp 3 (.q (ra 12 0 [])) (.q (ra 11 1 [])::.w 1::.q [2]::.w 2::.w 3::rp 3 (.q (ra 8 4 [])) (.q (ra 12 0 [])::.w 4::.q (ra 7 5 [])::.w 5::.w 6::rp 3 (.q [7,8,9,10,11]) (.q (ra 12 0 [])::.q (ra 12 0 [])::.w 7::rp 3 (.q [8,9,10,11]) (.q (ra 9 0 [])::.q (ra 9 0 [])::.w 8::.q [9]::.w 9::.q (ra 11 0 [])::.q (ra 11 0 [])::.w 10::rp 5 (.q [11]) [])))),[[],[],[1],[1,2],[],[4],[4,5],ra 6 1 [],[1,2,3],[1,2,3,8],[1,2,3,8,9],[1,2,3,8,9,10],[1,2,3,8,9,10,11],[1,2,3,8,9,10,11,12],1::2::3::ra 6 8 [],[],[1,2,3,8,9,10,11],[1,2,3,8,9,10,11,16],[1,2,3,8,9,10,11,16],[1,2,3,8,9,10,11,16,18],[1,2,3,8,9,10,11,16,18,19],[1,2,3,8,9,10,11,16,18,19,20],[1,2,3,8,9,10,11,16,18,19,20,21],[],[23],[1,2,3,8,9,10,11,16,18,19],[1,2,3,8,9,10,11,16,18,19,25],[1,2,3,8,9,10,11,16,18,19,23,24,25,26],[1,2,3,8,9,10,11,16,18,19,23,24,25,26,27],[],[29],[1,2,3,8,9,10,11,16,18,19,25,29,30],[1,2,3,8,9,10,11,16,18,19,25,29,30,31],[1,2,3,8,9,10,11,16,18,19,25,29,30,31,32],[],[34],1::2::3::8::9::10::11::16::18::19::25::ra 7 29 [],1::2::3::8::9::10::11::16::18::19::25::ra 8 29 [],1::2::3::8::9::10::11::16::18::19::25::ra 9 29 [],1::2::3::8::9::10::11::16::18::19::25::ra 10 29 [],ra 40 0 [],ra 41 0 []],rp 42 [] [],[(4,0),(4,2),(4,3),(4,4),(4,5),(4,6),(4,7),(4,8),(4,9),(4,10),(4,11),(23,0),(23,1),(23,2),(23,3),(23,4),(23,5),(23,6),(23,8),(23,9),(23,10),(23,11),(29,0),(29,1),(29,2),(29,3),(29,4),(29,5),(29,6),(29,7),(34,0),(34,1),(34,2),(34,3),(34,4),(34,5),(34,6),(34,7),(34,8),(34,9)]⟩ else G
def AXS (f:Nat):Option B3:=bif Nat.beq f 15 then Y ⟨[],ra 10 0 [],.q [0,1]::.q [0]::.w 0::.w 1::rp 3 (.q [0,1,2]) [.w 2,.q [3],.q [3]],[[],[],[1],[0,1,2],[],[],[5],ra 7 0 [],ra 8 0 [],ra 9 0 []],[7]::[]::[]::[]::[8]::rp 5 [] [],[(5,0),(5,1),(6,0),(6,1)]⟩ else G
def AXT (f:Nat):Option B3:=bif Nat.beq f 2 then Y ⟨[],ra 29 0 [],rp 16 (.q [0]) (rp 4 (.q [0,1,2,3,4]) [.w 0,.w 1,.q [2],.w 2,.q [3],.w 3,.w 4,.q [5],.q [5]]),[[],[0],[0,1],[0,1,2],[0,1,2,3],[0,1,2,3,4],ra 6 0 [],ra 7 0 [],ra 8 0 [],ra 9 0 [],ra 10 0 [],ra 11 0 [],ra 12 0 [],ra 13 0 [],ra 14 0 [],ra 15 0 [],ra 16 0 [],ra 17 0 [],ra 18 0 [],ra 19 0 [],ra 16 0 [],ra 16 0 [20],ra 16 0 [20,21],ra 16 0 [20,21,22],ra 16 0 [20,21,22,23],ra 16 0 [20,21,22,23,24],ra 26 0 [],ra 27 0 [],ra 28 0 []],rp 29 [] [],[(17,1),(17,2),(17,3),(17,4),(18,1),(18,2),(18,3),(18,4),(19,1),(19,2),(19,3),(19,4)]⟩ else G
def AXU (f:Nat):Option B3:=bif Nat.beq f 6 then Y ⟨[],ra 10 0 [],rp 8 (.q [0]) [.w 0,.q [1]],[[],[],[0,1],[0,1,2],[],[],[4,5],[4,5,6],ra 8 0 [],ra 9 0 []],rp 10 [] [],[]⟩ else G
def AXV (f:Nat):Option B3:=bif Nat.blt f 12 then(
 bif Nat.beq f 8 then Y ⟨[],ra 9 0 [],.q [0,1]::rp 3 (.q [0]) (.w 0::rp 3 (.q [1]) [.w 1]),[[],[],[],[2],[1,2,3],[0,1,2,3,4],ra 6 0 [],ra 7 0 [],ra 8 0 []],rp 9 [] [],[(0,1)]⟩ else G) else(
 bif Nat.blt f 26 then(
  bif Nat.beq f 12 then Y ⟨[],ra 9 0 [],.q [0,1]::rp 3 (.q [0]) (.w 0::rp 3 (.q [1]) [.w 1]),[[],[],[],[2],[1,2,3],[0,1,2,3,4],ra 6 0 [],ra 7 0 [],ra 8 0 []],rp 9 [] [],[(0,1)]⟩ else G) else(
  bif Nat.beq f 26 then Y ⟨[],ra 10 0 [],.q [0,1]::.q [0,1]::rp 3 (.q [0]) [.w 0,.q [1],.w 1,.q [2],.w 2],[[],[0],[],[],[3],[2,3,4],[2,3,4,5],ra 7 0 [],ra 8 0 [],ra 9 0 []],rp 10 [] [],[(0,1),(1,1)]⟩ else G))
def AXW (f:Nat):Option B3:=bif Nat.blt f 6 then(
 bif Nat.beq f 2 then Y ⟨[],ra 31 0 [],rp 28 (.q [0]) [.w 0,.q [1],.q [1]],[[],[0],[0,1],[0,1,2],[0,1,2],[0,1,2,4],ra 6 0 [],ra 7 0 [],ra 8 0 [],ra 9 0 [],ra 9 0 [],ra 11 0 [],ra 12 0 [],ra 13 0 [],ra 14 0 [],ra 15 0 [],ra 16 0 [],ra 16 0 [],ra 18 0 [],ra 19 0 [],ra 16 0 [],ra 16 0 [20],ra 16 0 [20,21],ra 23 0 [],ra 24 0 [],ra 25 0 [],ra 26 0 [],ra 27 0 [],ra 28 0 [],ra 29 0 [],ra 30 0 []],rp 31 [] [],[]⟩ else G) else(
 bif Nat.beq f 6 then Y ⟨[],ra 15 0 [],rp 9 (.q [0]) (.w 0::rp 5 (.q [1]) []),[[],[],[1],[],[],[3,4],[3,4,5],ra 6 1 [],ra 7 1 [],ra 9 0 [],ra 10 0 [],ra 11 0 [],ra 11 0 [],ra 12 0 [],ra 14 0 []],rp 15 [] [],[]⟩ else G)
def AXX (f:Nat):Option B3:=bif Nat.beq f 11 then Y ⟨[],ra 23 0 [],.q [0]::.q [0]::.w 0::.q [1]::rp 3 (.q [0,1]) (rp 4 (.q [1]) (.w 1::.q [2]::.q [1,2]::.q [1,2]::.w 2::rp 4 (.q [3]) [.w 3,.q [4],.q [4]])),[[],[0],[0,1],[0,1,2],[],[4],[4,5],ra 7 0 [],ra 8 0 [],ra 9 0 [],ra 9 0 [],ra 11 0 [],ra 12 0 [],ra 9 0 [],ra 9 0 [13],ra 15 0 [],ra 16 0 [],ra 17 0 [],ra 18 0 [],ra 19 0 [],ra 20 0 [],ra 21 0 [],ra 22 0 []],rp 23 [] [],[(4,0),(5,0),(6,0),(13,1),(14,1)]⟩ else G
def AXY (f:Nat):Option B3:=bif Nat.beq f 5 then Y ⟨[],ra 6 0 [],[.q [0],.w 0,.q [0,1],.q [1],.q [1],.w 1],[[],[0],[],[0,1,2],[0,1,2,3],[0,1,2,3,4]],rp 6 [] [],[(2,0)]⟩ else G
def AXZ (f:Nat):Option B3:=bif Nat.beq f 5 then Y ⟨[],ra 8 0 [],rp 6 (.q [0]) [.w 0,.w 1],[[],[0],[],[0,1,2],[0,1,2,3],[],ra 6 0 [],ra 7 0 []],rp 8 [] [],[]⟩ else G
def AXa (f:Nat):Option B3:=bif Nat.blt f 9 then(
 bif Nat.beq f 5 then Y ⟨[],ra 10 0 [],rp 8 (.q [0]) [.w 0,.q [1]],[[],[0],[],[],[2,3],[2,3,4],ra 6 0 [],ra 7 0 [],ra 8 0 [],ra 9 0 []],rp 10 [] [],[]⟩ else G) else(
 bif Nat.beq f 9 then Y ⟨[],ra 12 0 [],.q [0,1,2,3]::rp 6 (.q [0]) [.w 0,.w 1,.w 2,.w 3,.q [4]],rp 5 [] [[3,4],[3,4,5],ra 6 1 [],ra 7 1 [],ra 8 1 [],ra 10 0 [],ra 11 0 []],[7]::rp 11 [] [],[]⟩ else G)
def AXb (f:Nat):Option B3:=bif Nat.beq f 10 then Y ⟨[],ra 8 0 [],[.q [0,1],.q [0,1],.q [0],.w 0,.q [1],.w 1,.q [2],.w 2],[[],[0],[],[2],[2,3],[0,1,2,3,4],ra 6 0 [],ra 7 0 []],rp 8 [] [],[(0,1),(1,1)]⟩ else G
def AXc (f:Nat):Option B3:=bif Nat.beq f 10 then Y ⟨[],ra 11 0 [],.q [0,1]::.q [0,1]::rp 4 (.q [0]) [.w 0,.q [1],.w 1,.q [2],.w 2],[[],[0],[],[],[2,3],[2,3,4],[2,3,4,5],[2,3,4,5,6],ra 8 0 [],ra 9 0 [],ra 10 0 []],rp 11 [] [],[(0,1),(1,1)]⟩ else G
def AXd (f:Nat):Option B3:=bif Nat.beq f 6 then Y ⟨[],ra 9 0 [],rp 9 (.q [0]) [],[[],[],[0,1],[0,1,2],[],[],[4,5],[4,5,6],ra 8 0 []],rp 9 [] [],[]⟩ else G
def AXe (f:Nat):Option B3:=bif Nat.beq f 11 then Y ⟨[],ra 11 0 [],rp 8 (.q [0]) [.w 0,.q [1],.w 1],[[],[0],[],[2],[],[2,3,4],[2,3,4,5],[2,3,4,5,6],ra 8 0 [],ra 9 0 [],ra 10 0 []],rp 11 [] [],[]⟩ else G
def AXf (f:Nat):Option B3:=bif Nat.blt f 29 then(
 bif Nat.beq f 7 then Y ⟨[],ra 7 0 [],[.q [0,1],.q [0],.w 0,.q [1],.q [1],.w 1,.w 2],[[],[],[1],[0,1,2],[0,1,2,3],[0,1,2,3,4],ra 6 0 []],rp 7 [] [],[(0,1)]⟩ else G) else(
 bif Nat.blt f 35 then(
  bif Nat.beq f 29 then Y ⟨[],ra 12 0 [],.q [0,1]::.q [0,1]::rp 5 (.q [0]) [.w 0,.q [1],.w 1,.q [2],.w 2],[[],[0],[],[],[],[4],[],[2,3,4,5,6],ra 6 2 [],ra 9 0 [],ra 10 0 [],ra 11 0 []],rp 12 [] [],[(0,1),(1,1)]⟩ else G) else(
  bif Nat.beq f 35 then Y ⟨[],ra 10 0 [],.q [0,1]::rp 6 (.q [0]) [.w 0,.w 1,.w 2],[[],[],[],[],[3],[],[5],ra 6 1 [],ra 8 0 [],ra 9 0 []],rp 10 [] [],[(0,1)]⟩ else G))
def AXg (f:Nat):Option B3:=bif Nat.blt f 19 then(
 bif Nat.beq f 18 then Y ⟨[],ra 16 0 [],rp 10 (.q [0]) [.fa 0 11 12,.fj,.fx,.q [1],.q [1],.w 1],[[],[0],[0,1],[0,1,2],[],[4],[4,5],[4,5,6],[0,1,2,3],[],ra 10 0 [],ra 11 0 [],ra 12 0 [],ra 11 0 [],ra 11 0 [13],ra 11 0 [13,14]],rp 16 [] [],[]⟩ else G) else(
 bif Nat.beq f 19 then Y ⟨[],ra 14 0 [],.q [0,1,2]::rp 4 (.q [0,1]) (.q [0]::.w 0::.w 1::.w 2::rp 5 (.q [3]) []),[[],[],[1],[1,2],[1,2,3],[],[5],ra 6 1 [],ra 8 0 [],ra 9 0 [],ra 10 0 [],ra 10 0 [],ra 11 0 [],ra 13 0 []],rp 14 [] [],[(1,1),(2,1),(3,1),(4,1)]⟩ else G)
def AXh (f:Nat):Option B3:=bif Nat.beq f 8 then Y ⟨[],ra 14 0 [],.q [0,1]::.q [0,1]::rp 7 (.q [0]) [.w 0,.q [1],.w 1,.q [2],.w 2],[[],[0],[],[2],[2,3],[2,3,4],[],[2,3,4,5,6],ra 6 2 [],ra 7 2 [],ra 8 2 [],ra 11 0 [],ra 12 0 [],ra 13 0 []],rp 14 [] [],[(0,1),(1,1)]⟩ else G
def AXi (f:Nat):Option B3:=bif Nat.beq f 24 then Y ⟨[],ra 13 0 [],.q [0,1]::rp 9 (.q [0]) [.w 0,.w 1,.q [2]],[[],[],[],[],[2,3],[2,3,4],[],[6],[6,7],[6,7,8],ra 9 1 [],ra 11 0 [],ra 12 0 []],[7]::rp 12 [] [],[]⟩ else G
def AXj (f:Nat):Option B3:=bif Nat.blt f 7 then(
 bif Nat.beq f 6 then Y ⟨[],ra 14 0 [],rp 11 (.q [0]) [.w 0,.q [1],.w 1],[[],[0],[],[2],[],[],[4,5],[4,5,6],ra 6 2 [],ra 7 2 [],ra 8 2 [],ra 11 0 [],ra 12 0 [],ra 13 0 []],rp 14 [] [],[]⟩ else G) else(
 bif Nat.beq f 7 then Y ⟨[],ra 11 0 [],rp 8 (.q [0]) [.w 0,.q [1],.w 1],[[],[0],[],[],[2,3],[2,3,4],[],[6],ra 8 0 [],ra 9 0 [],ra 10 0 []],rp 11 [] [],[]⟩ else G)
def AXk (f:Nat):Option B3:=bif Nat.blt f 4 then(
 bif Nat.beq f 1 then Y ⟨[],ra 10 0 [],rp 10 (.q [0]) [],[[],[0],[0,1],[0,1,2],[],[4],[4,5],[4,5,6],[4,5,6,7],ra 9 0 []],rp 10 [] [],[]⟩ else G) else(
 bif Nat.beq f 4 then Y ⟨[],ra 14 0 [],rp 12 (.q [0]) [.w 0,.q [1]],[[],[0],[0,1],[0,1,2],[],[4],[4,5],[4,5,6],[4,5,6,7],ra 9 0 [],ra 10 0 [],[],ra 12 0 [],ra 13 0 []],rp 14 [] [],[]⟩ else G)
def AXl (f:Nat):Option B3:=bif Nat.blt f 4 then(
 bif Nat.beq f 1 then Y ⟨[],ra 10 0 [],rp 10 (.q [0]) [],[[],[0],[0,1],[0,1,2],[],[4],[4,5],[4,5,6],[4,5,6,7],ra 9 0 []],rp 10 [] [],[]⟩ else G) else(
 bif Nat.beq f 4 then Y ⟨[],ra 12 0 [],rp 12 (.q [0]) [],[[],[0],[0,1],[0,1,2],[],[4],[4,5],[4,5,6],[4,5,6,7],ra 9 0 [],ra 10 0 [],ra 11 0 []],rp 12 [] [],[]⟩ else G)
def AXm (f:Nat):Option B3:=bif Nat.beq f 15 then Y ⟨[],ra 11 0 [],.q [0,1]::.q [0,1]::rp 4 (.q [0]) [.w 0,.q [1],.w 1,.q [2],.w 2],[[],[0],[],[],[],[],[2,3,4,5],[2,3,4,5,6],ra 8 0 [],ra 9 0 [],ra 10 0 []],rp 11 [] [],[(0,1),(1,1)]⟩ else G
def AXn (f:Nat):Option B3:=bif Nat.beq f 5 then Y ⟨[],ra 7 0 [],rp 7 (.q [0]) [],[[],[],[0,1],[0,1,2],[],[4],ra 6 0 []],rp 7 [] [],[]⟩ else G
def AXo (f:Nat):Option B3:=bif Nat.beq f 10 then Y ⟨[],ra 15 0 [],.q [0,1]::.q [0,1]::rp 8 (.q [0]) [.w 0,.q [1],.w 1,.q [2],.w 2],[[],[0],[],[],[3],[3,4],[3,4,5],[3,4,5,6],[3,4,5,6,7],[],ra 8 2 [],ra 9 2 [],ra 12 0 [],ra 13 0 [],ra 14 0 []],rp 15 [] [],[(0,1),(1,1)]⟩ else G
def AXp (f:Nat):Option B3:=bif Nat.beq f 6 then Y ⟨[],ra 10 0 [],rp 8 (.q [0]) [.w 0,.q [1]],[[],[],[0,1],[0,1,2],[],[],[4,5],[4,5,6],ra 8 0 [],ra 9 0 []],rp 10 [] [],[]⟩ else G
def AXq (f:Nat):Option B3:=bif Nat.beq f 1 then Y ⟨[],ra 18 0 [],rp 3 (.q [0]) (.w 0::.q [0,1]::.q [0,1]::.w 1::.q [0,1,2,3]::.q [0,1,2,3]::rp 5 (.q [0,1,2]) [.w 2,.w 3,.q [4],.w 4]),[[],[],[1],[0,1,2],[],[4],ra 6 0 [],[],[7],[],[9],[],[11],[11,12],ra 7 0 [9,10,11,12,13],ra 15 0 [],ra 16 0 [],ra 17 0 []],rp 18 [] [],[(4,0),(5,0),(7,0),(7,1),(7,3),(8,0),(8,1),(8,3),(9,0),(9,1),(10,0),(10,1),(11,0),(11,1),(12,0),(12,1),(13,0),(13,1)]⟩ else G
def AXr (f:Nat):Option B3:=bif Nat.beq f 12 then Y ⟨[],ra 12 0 [],rp 10 (.q [0]) [.w 0,.q [1]],[[],[0],[],[0,1,2],[0,1,2,3],[],[5],[],[5,6,7],[5,6,7,8],ra 10 0 [],ra 11 0 []],rp 12 [] [],[]⟩ else G
def AXs (f:Nat):Option B3:=bif Nat.beq f 12 then Y ⟨[],ra 14 0 [],.q [0,1]::.q [0,1]::rp 7 (.q [0]) [.w 0,.q [1],.w 1,.q [2],.w 2],[[],[0],[],[2],[],[2,3,4],[2,3,4,5],[],[],ra 7 2 [],ra 8 2 [],ra 11 0 [],ra 12 0 [],ra 13 0 []],rp 14 [] [],[(0,1),(1,1)]⟩ else G
def AXt (f:Nat):Option B3:=bif Nat.beq f 9 then Y ⟨[],ra 12 0 [],.q [0,1]::.q [0,1]::rp 5 (.q [0]) [.w 0,.q [1],.w 1,.q [2],.w 2],[[],[0],[],[],[],[4],[],[2,3,4,5,6],ra 6 2 [],ra 9 0 [],ra 10 0 [],ra 11 0 []],rp 12 [] [],[(0,1),(1,1)]⟩ else G
def AXu (f:Nat):Option B3:=bif Nat.beq f 6 then Y ⟨[],ra 8 0 [],[.q [0,1],.q [0,1],.q [0],.q [0],.w 0,.q [1],.q [0,1],.w 1],[[],[],[],[],[2,3],[1,2,3,4],[],ra 7 0 []],rp 8 [] [],[(0,1)]⟩ else G
def AXv (f:Nat):Option B3:=bif Nat.blt f 12 then(
 bif Nat.beq f 5 then Y ⟨[],ra 8 0 [],.q [0,1]::.q [0,1]::rp 3 (.q [0]) [.w 0,.q [1],.w 1],[[],[0],[],[],[3],[2,3,4],ra 6 0 [],ra 7 0 []],rp 8 [] [],[(0,1),(1,1)]⟩ else G) else(
 bif Nat.beq f 12 then Y ⟨[],ra 9 0 [],[.q [0,1],.q [0,1],.q [0],.q [0],.w 0,.q [1],.w 1,.q [2],.w 2],[[],[0],[],[],[2,3],[2,3,4],ra 6 0 [],ra 7 0 [],ra 8 0 []],rp 9 [] [],[(0,1),(1,1)]⟩ else G)
def AXw (f:Nat):Option B3:=bif Nat.beq f 4 then Y ⟨[],[0,1,2,3,4],rp 5 (.q [0]) [],[[],[],[1],[0],[0,1,2,3]],rp 5 [] [],[]⟩ else G
def AXx (f:Nat):Option B3:=bif Nat.blt f 24 then(
 bif Nat.beq f 23 then Y ⟨[20],ra 20 0 [21],rp 4 (.q [0]) (.w 0::rp 11 (.q [0,1]) [.w 1,.q [2],.w 2,.q [3],.h [0,1,2,3],.w 3]),[[],[],[1],[1,2],[0,1,2,3],[],[],[5,6],[5,6,7],[],[5,6,7,8,9],ra 6 5 [],ra 7 5 [],[],[13],[13,14],ra 16 0 [],ra 17 0 [],ra 18 0 [],ra 19 0 [],[],ra 21 0 []],rp 22 [] [],[(7,0),(8,0),(10,0),(11,0),(12,0),(13,0),(14,0),(15,0),(20,0),(20,1),(20,2),(20,3)]⟩ else G) else(
 bif Nat.beq f 24 then Y ⟨[],ra 19 0 [],.q [0,1,2,3]::rp 3 (.q [0]) (.w 0::rp 8 (.q [0,1]) [.w 1,.q [0,1,2],.q [2],.w 2,.w 3,.q [4]]),[[],[],[],[2],[1,2,3],[],[],[5,6],[5,6,7],[],[5,6,7,8,9],ra 6 5 [],ra 7 5 [],ra 12 1 [],[],ra 14 1 [],ra 15 1 [],ra 17 0 [],ra 18 0 []],[11]::rp 18 [] [],[(7,0),(8,0),(10,0),(11,0),(12,0),(14,0),(14,1)]⟩ else G)
def AQr (f:Nat):Option B3:=bif Nat.blt f 8 then(
 bif Nat.beq f 4 then Y ⟨[],ra 11 0 [],rp 3 (.q [0]) [.w 0,.q [0,1],.q [0,1],.w 1,.q [0,1,2],.q [2],.w 2,.q [3]],[[],[],[1],[0,1,2],[],[4],ra 6 0 [],[],ra 8 0 [],ra 9 0 [],ra 10 0 []],rp 11 [] [],[(4,0),(7,0),(7,1)]⟩ else G) else(
 bif Nat.beq f 8 then Y ⟨[],ra 7 0 [],[.q [0,1],.q [0,1],.q [0],.q [0],.w 0,.w 1,.q [2]],[[],[],[],[],[2,3],[0,1,2,3,4],ra 6 0 []],rp 7 [] [],[(1,1)]⟩ else G)
def AQs (f:Nat):Option B3:=bif Nat.beq f 1 then Y ⟨[],ra 13 0 [],rp 13 (.q [0]) [],[[],[0],[0,1],[0,1,2],[0,1,2,3],[0,1,2,3,4],[0,1,2,3],[0,1,2,3,6],[0,1,2,3,6,7],[0,1,2,3,6,7,8],[0,1,2,3,6,7,8,9],ra 11 0 [],ra 12 0 []],rp 13 [] [],[]⟩ else G
def AQt (f:Nat):Option B3:=bif Nat.blt f 5 then(
 bif Nat.beq f 1 then Y ⟨[],ra 25 0 [],rp 4 (.q [0]) (.w 0::rp 4 (.q [0,1]) (.w 1::rp 4 (.q [0,1,2]) (.w 2::rp 6 (.q [0,1,2,3]) [.w 3,.q [4],.w 4,.q [5]]))),[[],[0],[],[2],[0,1,2,3],[],[5],[],[7],ra 9 0 [],[],[10],[],[12],ra 14 0 [],[],[15],[15,16],[],[18],[18,19],ra 21 0 [],ra 22 0 [],ra 23 0 [],ra 24 0 []],rp 25 [] [],[(5,0),(6,0),(7,0),(8,0),(10,0),(10,1),(11,0),(11,1),(12,0),(12,1),(13,0),(13,1),(15,0),(15,1),(15,2),(16,0),(16,1),(16,2),(17,0),(17,1),(17,2),(18,0),(18,1),(18,2),(19,0),(19,1),(19,2),(20,0),(20,1),(20,2)]⟩ else G) else(
 bif Nat.beq f 5 then Y ⟨[],ra 12 0 [],rp 10 (.q [0]) [.w 0,.q [1]],[[],[0],[],[0,1,2],[0,1,2,3],[],[5],[],[5,6,7],[5,6,7,8],ra 10 0 [],ra 11 0 []],rp 12 [] [],[]⟩ else G)
def AQu (f:Nat):Option B3:=bif Nat.beq f 13 then Y ⟨[],ra 14 0 [],.q [0,1]::.q [0,1]::rp 7 (.q [0]) [.w 0,.q [1],.w 1,.q [2],.w 2],[[],[0],[],[2],[],[2,3,4],[2,3,4,5],[],[],ra 7 2 [],ra 8 2 [],ra 11 0 [],ra 12 0 [],ra 13 0 []],rp 14 [] [],[(0,1),(1,1)]⟩ else G
def AQv (f:Nat):Option B3:=bif Nat.blt f 11 then(
 bif Nat.beq f 3 then Y ⟨[],ra 14 0 [],rp 8 (.q [0]) (.w 0::rp 5 (.q [1]) []),[[],[],[1],[1,2],[1,2,3],[],[1,2,3,4,5],ra 6 1 [],ra 8 0 [],ra 9 0 [],ra 10 0 [],ra 10 0 [],ra 11 0 [],ra 13 0 []],rp 14 [] [],[]⟩ else G) else(
 bif Nat.beq f 11 then Y ⟨[],ra 12 0 [],.q [0,1]::rp 3 (.q [0]) (.w 0::.q [0,1]::.w 1::rp 5 (.q [2]) []),[[],[],[],[],[1,2,3],[],ra 6 0 [],ra 7 0 [],ra 8 0 [],ra 8 0 [],ra 9 0 [],ra 11 0 []],rp 12 [] [],[(5,0)]⟩ else G)
def AQw (f:Nat):Option B3:=bif Nat.beq f 5 then Y ⟨[],ra 7 0 [],[.q [0,1],.q [0],.w 0,.q [1],.q [1],.w 1,.w 2],[[],[],[1],[0,1,2],[0,1,2,3],[0,1,2,3,4],ra 6 0 []],rp 7 [] [],[(0,1)]⟩ else G
def AQx (f:Nat):Option B3:=bif Nat.beq f 16 then Y ⟨[],ra 9 0 [],[.q [0,1,2],.q [0],.w 0,.q [0,1],.q [0,1],.w 1,.q [2],.w 2,.q [3]],[[],[],[1],[],[3],[1,2,3,4],[1,2,3,4,5],ra 7 0 [],ra 8 0 []],[9]::rp 8 [] [],[(3,0)]⟩ else G
def AQy (f:Nat):Option B3:=bif Nat.beq f 11 then Y ⟨[],ra 14 0 [],[.q [0,1,2],.q [0,1,2],.q [0,1],.q [0,1],.q [0],.q [0],.w 0,.q [1],.q [0,1],.w 1,.q [2],.w 2,.q [3],.w 3],[[],[0],[],[],[],[],[4,5],[3,4,5,6],[],ra 7 2 [],ra 8 2 [],ra 11 0 [],ra 12 0 [],ra 13 0 []],rp 14 [] [],[(0,1),(0,2),(1,1),(1,2),(2,1)]⟩ else G
def AQz (f:Nat):Option B3:=bif Nat.beq f 6 then Y ⟨[],ra 13 0 [],rp 6 (.q [0,1]) [.q [0],.q [0],.w 0,.q [1],.q [0,1],.w 1,.q [2]],[[],[0],[],[0,1,2],[0,1,2,3],[],[],[],[6,7],[5,6,7,8],[],ra 11 0 [],ra 12 0 []],rp 10 [] [[2],[],[]],[(0,1),(1,1),(3,1),(4,1)]⟩ else G
def AQ0 (f:Nat):Option B3:=bif Nat.blt f 11 then(
 bif Nat.beq f 9 then Y ⟨[],ra 13 0 [],.q [0,1]::.q [0,1]::rp 6 (.q [0]) [.w 0,.q [1],.w 1,.q [2],.w 2],[[],[0],[],[2],[],[2,3,4],[2,3,4,5],[],ra 6 2 [],ra 7 2 [],ra 10 0 [],ra 11 0 [],ra 12 0 []],rp 13 [] [],[(0,1),(1,1)]⟩ else G) else(
 bif Nat.blt f 13 then(
  bif Nat.beq f 11 then Y ⟨[],ra 13 0 [],.q [0,1]::.q [0,1]::rp 6 (.q [0]) [.w 0,.q [1],.w 1,.q [2],.w 2],[[],[0],[],[2],[],[2,3,4],[2,3,4,5],[],ra 6 2 [],ra 7 2 [],ra 10 0 [],ra 11 0 [],ra 12 0 []],rp 13 [] [],[(0,1),(1,1)]⟩ else G) else(
  bif Nat.beq f 13 then Y ⟨[],ra 12 0 [],.q [0,1]::.q [0,1]::rp 5 (.q [0]) [.w 0,.q [1],.w 1,.q [2],.w 2],[[],[0],[],[2],[],[2,3,4],[2,3,4,5],[2,3,4,5,6],ra 6 2 [],ra 9 0 [],ra 10 0 [],ra 11 0 []],rp 12 [] [],[(0,1),(1,1)]⟩ else G))
def AQ1 (f:Nat):Option B3:=bif Nat.beq f 8 then Y ⟨[],ra 13 0 [],.q [0,1,2]::.q [0,1]::rp 6 (.q [0]) [.w 0,.q [0,1],.w 1,.w 2,.q [3]],rp 6 [] [[4,5],[4,5,6],ra 6 2 [],[],ra 9 1 [],ra 11 0 [],ra 12 0 []],[8]::rp 12 [] [],[]⟩ else G
def AQ2 (f:Nat):Option B3:=bif Nat.beq f 6 then Y ⟨[],ra 8 0 [],[.q [0,1],.q [0,1],.q [0],.q [0],.w 0,.q [1],.w 1,.q [2]],[[],[],[],[],[2,3],[1,2,3,4],ra 6 0 [],ra 7 0 []],rp 8 [] [],[(0,1)]⟩ else G
def AQ3 (f:Nat):Option B3:=bif Nat.blt f 15 then(
 bif Nat.beq f 11 then Y ⟨[],ra 9 0 [],rp 8 (.q [0]) [.w 0],[[],[],[],[1,2],[0,1,2,3],[],[],[5,6],ra 8 0 []],rp 9 [] [],[]⟩ else G) else(
 bif Nat.beq f 15 then Y ⟨[],ra 9 0 [],rp 8 (.q [0]) [.w 0],[[],[],[],[1,2],[0,1,2,3],[],[],[5,6],ra 8 0 []],rp 9 [] [],[]⟩ else G)
def AQ4 (f:Nat):Option B3:=bif Nat.beq f 6 then Y ⟨[],ra 8 0 [],[.q [0,1],.q [0,1],.q [0],.w 0,.q [1],.w 1,.q [2],.w 2],[[],[0],[],[2],[2,3],[0,1,2,3,4],ra 6 0 [],ra 7 0 []],rp 8 [] [],[(0,1),(1,1)]⟩ else G
def AQ5 (f:Nat):Option B3:=bif Nat.beq f 6 then Y ⟨[],ra 13 0 [],rp 4 (.q [0]) (.w 0::.q [0,1]::.q [0,1]::.w 1::rp 3 (.q [0,1,2]) [.w 2,.q [3]]),[[],[],[],[1,2],[0,1,2,3],[],[5],ra 7 0 [],[],[],[8,9],ra 11 0 [],ra 12 0 []],rp 13 [] [],[(10,0),(10,1)]⟩ else G
def AQ6 (f:Nat):Option B3:=bif Nat.beq f 1 then Y ⟨[],ra 7 0 [],[.q [0,1],.q [0],.w 0,.q [0,1],.q [1],.w 1,.q [2]],[[],[],[1],[],[0,1,2,3],[0,1,2,3,4],ra 6 0 []],rp 7 [] [],[(3,0)]⟩ else G
def AQ7 (f:Nat):Option B3:=bif Nat.beq f 1 then Y ⟨[],ra 7 0 [],[.q [0,1],.q [0],.w 0,.q [0,1],.q [1],.w 1,.q [2]],[[],[],[1],[],[0,1,2,3],[0,1,2,3,4],ra 6 0 []],rp 7 [] [],[(3,0)]⟩ else G
def AQ8 (f:Nat):Option B3:=bif Nat.blt f 10 then(
 bif Nat.blt f 8 then(
  bif Nat.beq f 7 then Y ⟨[],ra 15 0 [],rp 3 (.q [0]) (rp 3 (.q [0,1]) (rp 3 (.q [0]) [.q [0,1],.q [0,1],.q [0],.w 0,.q [1],.w 1])),[[],[],[1],[],[],[4],[],[6],[6,7],[],[9],[0,1,2,6,7,8],[0,1,2,6,7,8,11],ra 13 0 [],ra 14 0 []],rp 15 [] [],[(5,1)]⟩ else G) else(
  bif Nat.blt f 9 then(
   bif Nat.beq f 8 then Y ⟨[],ra 15 0 [],rp 3 (.q [0]) (rp 3 (.q [0,1]) (rp 3 (.q [0]) [.q [0,1],.q [0,1],.q [0],.w 0,.q [1],.w 1])),[[],[],[1],[],[],[4],[],[6],[6,7],[],[9],[0,1,2,6,7,8],[0,1,2,6,7,8,11],ra 13 0 [],ra 14 0 []],rp 15 [] [],[(5,1)]⟩ else G) else(
   bif Nat.beq f 9 then Y ⟨[],ra 15 0 [],rp 3 (.q [0]) (rp 3 (.q [0,1]) (rp 3 (.q [0]) [.q [0,1],.q [0,1],.q [0],.w 0,.q [1],.w 1])),[[],[],[1],[],[],[4],[],[6],[6,7],[],[9],[0,1,2,6,7,8],[0,1,2,6,7,8,11],ra 13 0 [],ra 14 0 []],rp 15 [] [],[(5,1)]⟩ else G))) else(
 bif Nat.blt f 18 then(
  bif Nat.blt f 17 then(
   bif Nat.beq f 10 then Y ⟨[],ra 15 0 [],rp 3 (.q [0]) (rp 3 (.q [0,1]) (rp 3 (.q [0]) [.q [0,1],.q [0,1],.q [0],.w 0,.q [1],.w 1])),[[],[],[1],[],[],[4],[],[6],[6,7],[],[9],[0,1,2,6,7,8],[0,1,2,6,7,8,11],ra 13 0 [],ra 14 0 []],rp 15 [] [],[(5,1)]⟩ else G) else(
   bif Nat.beq f 17 then Y ⟨[],ra 15 0 [],rp 3 (.q [0]) (rp 3 (.q [0,1]) (rp 3 (.q [0]) [.q [0,1],.q [0,1],.q [0],.w 0,.q [1],.w 1])),[[],[],[1],[],[],[4],[],[6],[6,7],[],[9],[0,1,2,6,7,8],[0,1,2,6,7,8,11],ra 13 0 [],ra 14 0 []],rp 15 [] [],[(5,1)]⟩ else G)) else(
  bif Nat.blt f 23 then(
   bif Nat.beq f 18 then Y ⟨[],ra 15 0 [],rp 3 (.q [0]) (rp 3 (.q [0,1]) (rp 3 (.q [0]) [.q [0,1],.q [0,1],.q [0],.w 0,.q [1],.w 1])),[[],[],[1],[],[],[4],[],[6],[6,7],[],[9],[0,1,2,6,7,8],[0,1,2,6,7,8,11],ra 13 0 [],ra 14 0 []],rp 15 [] [],[(5,1)]⟩ else G) else(
   bif Nat.beq f 23 then Y ⟨[],ra 15 0 [],rp 3 (.q [0]) (rp 3 (.q [0,1]) (rp 3 (.q [0]) [.q [0,1],.q [0,1],.q [0],.w 0,.q [1],.w 1])),[[],[],[1],[],[],[4],[],[6],[6,7],[],[9],[0,1,2,6,7,8],[0,1,2,6,7,8,11],ra 13 0 [],ra 14 0 []],rp 15 [] [],[(5,1)]⟩ else G)))
def AQ9 (f:Nat):Option B3:=bif Nat.beq f 3 then Y ⟨[],ra 16 0 [],.q [0]::.q [0]::.q [0,1]::.q [0,1]::rp 9 (.q [0]) [.w 0,.q [1],.w 1],rp 6 [] [[4,5],[4,5,6],[],[],[8,9],[8,9,10],0::1::ra 8 4 [],0::1::ra 9 4 [],ra 14 0 [],ra 15 0 []],rp 16 [] [],[]⟩ else G
def ARA (f id:Nat):Option B3:=lk [(6,pl6),(7,pl7),(8,pl8),(9,pl9),(12,AXR),(14,AXS),(16,AXT),(17,AXU),(18,AXV),(24,AXW),(27,AXX),(29,AXY),(31,AXZ),(34,AXa),(36,AXb),(37,AXc),(38,AXd),(40,AXe),(41,AXf),(44,AXg),(45,AXh),(49,AXi),(50,AXj),(54,AXk),(55,AXl),(59,AXm),(65,AXn),(67,AXo),(75,AXp),(78,AXq),(79,AXr),(82,AXs),(83,AXt),(87,AXu),(91,AXv),(92,AXw),(98,AXx),(100,AQr),(101,AQs),(104,AQt),(111,AQu),(114,AQv),(115,AQw),(120,AQx),(121,AQy),(126,AQz),(127,AQ0),(130,AQ1),(141,AQ2),(143,AQ3),(146,AQ4),(150,AQ5),(169,AQ6),(170,AQ7),(177,AQ8),(182,AQ9)] f id
def okB (t n:Nat):Bool:=ϴ
def lJ (f:Nat):Option (Ba->List AV->AY->Option (AV×AY)):=bif Nat.blt f 124 then(
 bif Nat.beq f 123 then Y oy else G) else(
 bif Nat.blt f 143 then(
  bif Nat.beq f 124 then Y gV else G) else(
  bif Nat.beq f 143 then Y bR else G))
def bzT (f:Nat):Bool:=ϴ
def sG (f:Nat):Option Nat:=bif Nat.beq f 106 then Y 25 else G
noncomputable def env (R:Nat->Option (List PV)):Env:=⟨Tryz.prog,sC R,AQp,muT,rrT,gW,ARA,lJ,bzT,sG⟩
end
end Go.Proofs.YtpgfpakdnijngaaGreatDoor
