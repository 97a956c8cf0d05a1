/-
  The evaluator's settings for this program: written by a program (wip/tel/Gen.lean.txt).
-/
import Derived.Test.YtpgfpakdnijngaaGreatDoorEvI
import Derived.Test.YtpgfpakdnijngaaGreatDoorTenK
import Derived.Test.YtpgfpakdnijngaaGreatDoorTenL
import Derived.Test.YtpgfpakdnijngaaGreatDoorTenN
import Derived.Test.YtpgfpakdnijngaaGreatDoorRows
set_option linter.all false
namespace Go.Proofs.YtpgfpakdnijngaaGreatDoor
open Go.Tel
set_option maxRecDepth 10000
noncomputable section
def rp {α:Type} (n:Nat) (a:α) (l:List α):List α:=Nat.rec l (λ_ h=>a::h) n
def ra (n a:Nat) (l:List Nat):List Nat:=Nat.rec (λ_=>l) (λ_ h a=>a::h (Nat.succ a)) n a
def lk (l:List (Nat×(Nat->Option Bl))) (f i:Nat):Option Bl:=List.rec none (λa _ h=>bif Nat.beq f a.1 then a.2 i else h) l
abbrev RT:=Nat->Option (List PV)
abbrev QT:=AV->AQ->Prop
def kd (x:Nat):Kind:=bif Nat.beq x 1 then .esc else bif Nat.beq x 2 then .im else bif Nat.beq x 3 then .st else .rd
def ASP (f:Nat):Kind:=kd (Nat.mod (Nat.div 0x20020800000ac0082020082218a08010aaa0a08240882000060c02a6a0080a084000000100a010600000 (Nat.pow 4 f)) 4)
def muT (f t:Nat):Bool:=bif Nat.blt f 57 then(
 bif Nat.blt f 34 then(
  bif Nat.blt f 24 then(
   bif Nat.beq f 14 then Nat.beq t 45 else false) else(
   bif Nat.beq f 24 then Nat.beq t 45 else false)) else(
  bif Nat.blt f 39 then(
   bif Nat.beq f 34 then Nat.beq t 45 else false) else(
   bif Nat.blt f 49 then(
    bif Nat.beq f 39 then Nat.beq t 45 else false) else(
    bif Nat.beq f 49 then Nat.beq t 45 else false)))) else(
 bif Nat.blt f 99 then(
  bif Nat.blt f 77 then(
   bif Nat.beq f 57 then Nat.beq t 45 else false) else(
   bif Nat.blt f 98 then(
    bif Nat.beq f 77 then Nat.beq t 45 else false) else(
    bif Nat.beq f 98 then Nat.beq t 45 else false))) else(
  bif Nat.blt f 100 then(
   bif Nat.beq f 99 then Nat.beq t 45 else false) else(
   bif Nat.blt f 130 then(
    bif Nat.beq f 100 then Nat.beq t 45 else false) else(
    bif Nat.beq f 130 then Nat.beq t 45 else false))))
def ASQ (f:Nat):Bool:=bif Nat.blt f 99 then(
 bif Nat.blt f 98 then(
  bif Nat.beq f 49 then true else false) else(
  bif Nat.beq f 98 then true else false)) else(
 bif Nat.blt f 100 then(
  bif Nat.beq f 99 then true else false) else(
  bif Nat.blt f 130 then(
   bif Nat.beq f 100 then true else false) else(
   bif Nat.beq f 130 then true else false)))
def rrT (f g:Nat):Bool:=ASQ g&&!((Nat.beq f 98&&Nat.beq g 49))
def gW (f:Nat):Bool:=bif Nat.blt f 124 then(
 bif Nat.blt f 123 then(
  bif Nat.beq f 57 then true else false) else(
  bif Nat.beq f 123 then true else false)) else(
 bif Nat.blt f 143 then(
  bif Nat.beq f 124 then true else false) else(
  bif Nat.beq f 143 then true else false))
def uC (R:Nat->Option (List PV)) (f:Nat):Option (List PV):=bif Nat.beq f 2 then some (Ez [[65,110,121],[78,101,118,101,114],[116,117,112,108,101],[117,110,105,111,110],[101,120,105,115,116,115]]) else R f
def pl6 (f:Nat):Option Bl:=bif Nat.blt f 13 then(
 bif Nat.beq f 7 then some ⟨[],ra 14 0 [],rp 8 (.q [0]) (.w 0::rp 5 (.q [1]) []),[[],[0],[],[],[2,3],[2,3,4],ra 6 0 [],ra 7 0 [],ra 8 0 [],ra 9 0 [],ra 10 0 [],ra 10 0 [],ra 11 0 [],ra 13 0 []],rp 14 [] [],[]⟩ else none) else(
 bif Nat.beq f 13 then some ⟨[],ra 36 0 [],rp 4 (.q [0]) (.w 0::.q [1,2]::rp 3 (.q [0,1,2]) (rp 4 (.q [0,1]) (.w 1::rp 22 (.q [2]) []))),[[],[],[0,1],[0,1,2],[0,1,2,3],[0,1,2,3,4],[],[6],[6,7],[],[],[9,10],[9,10,11],[0,1,2,3,4,9,10,11,12],[0,1,2,3,4,9,10,11,12,13],0::1::2::3::4::ra 9 6 [],ra 16 0 [],ra 17 0 [],ra 18 0 [],ra 18 0 [],ra 20 0 [],ra 21 0 [],ra 22 0 [],ra 23 0 [],ra 18 0 [],ra 18 0 [24],ra 18 0 [24,25],ra 18 0 [],ra 18 0 [],ra 18 0 [27,28],ra 18 0 [27,28,29],ra 18 0 [27,28,29,30],ra 18 0 [27,28,29,30,31],ra 18 0 (ra 9 24 []),ra 34 0 [],ra 35 0 []],rp 36 [] [],[(5,2),(7,0),(7,2),(8,0),(8,2),(11,0),(12,0)]⟩ else none)
def pl7 (f:Nat):Option Bl:=bif Nat.blt f 13 then(
 bif Nat.blt f 11 then(
  bif Nat.beq f 4 then some ⟨[7],ra 7 0 [8],rp 3 (.q [0]) [.w 0,.q [0,1],.q [0,1],.q [1],.h [0,1],.w 1],[[],[],[1],[0,1,2],[],[4],ra 6 0 [],[],ra 8 0 []],rp 9 [] [],[(4,0),(5,0),(7,0),(7,1)]⟩ else none) else(
  bif Nat.beq f 11 then some ⟨[],ra 10 0 [],.q [0,1]::.q [0,1]::rp 4 (.q [0]) [.w 0,.q [0,1],.q [1],.w 1],[[],[0],[],[],[3],[3,4],[2,3,4,5],[],ra 8 0 [],ra 9 0 []],rp 10 [] [],[(0,1),(1,1),(7,0)]⟩ else none)) else(
 bif Nat.blt f 17 then(
  bif Nat.beq f 13 then some ⟨[],ra 10 0 [],[.q [0,1,2],.q [0,1,2],.q [0],.w 0,.q [1],.w 1,.q [2],.w 2,.q [3],.w 3],[[],[0],[],[2],[2,3],[2,3,4],ra 6 0 [],ra 7 0 [],ra 8 0 [],ra 9 0 []],rp 10 [] [],[(0,1),(0,2),(1,1),(1,2)]⟩ else none) else(
  bif Nat.blt f 18 then(
   bif Nat.beq f 17 then some ⟨[],ra 10 0 [],[.w 0,.w 1,.q [2],.w 2,.q [0,1,2,3],.q [0,1,2,3],.q [3],.w 3,.q [4],.w 4],[[],[0],[0,1],[0,1,2],[],[4],ra 6 0 [],ra 7 0 [],ra 8 0 [],ra 9 0 []],rp 10 [] [],[(4,0),(4,1),(4,2),(5,0),(5,1),(5,2)]⟩ else none) else(
   bif Nat.beq f 18 then some ⟨[],ra 13 0 [],.w 0::.q [1]::.q [1]::.w 1::rp 3 (.q [2]) (.w 2::.q [2,3]::.w 3::rp 3 (.q [4]) []),[[],[0],[0,1],[0,1,2],[0,1,2,3],[0,1,2,3,4],ra 6 0 [],ra 7 0 [],ra 6 0 [],ra 9 0 [],ra 10 0 [],ra 11 0 [],ra 12 0 []],rp 13 [] [],[(8,2)]⟩ else none)))
def pl8 (f:Nat):Option Bl:=bif Nat.beq f 9 then some ⟨[],ra 27 0 [],rp 4 (.q [0]) (.w 0::.w 1::rp 17 (.q [2]) (.w 2::rp 3 (.q [3]) [])),[[],[],[0,1],[0,1,2],[0,1,2,3],[0,1,2,3,4],ra 6 0 [],ra 7 0 [],ra 8 0 [],ra 9 0 [],ra 10 0 [],ra 11 0 [],ra 12 0 [],ra 13 0 [],ra 14 0 [],ra 15 0 [],ra 16 0 [],ra 17 0 [],ra 18 0 [],ra 16 0 [],ra 16 0 [],ra 16 0 [19,20],ra 16 0 [19,20,21],ra 23 0 [],ra 24 0 [],ra 25 0 [],ra 26 0 []],rp 27 [] [],[]⟩ else none
def pl9 (f:Nat):Option Bl:=bif Nat.blt f 12 then(
 bif Nat.beq f 11 then some ⟨[],ra 10 0 [],.q [0,1]::.q [0,1]::rp 4 (.q [0]) [.w 0,.q [1],.q [1],.w 1],[[],[0],[],[],[3],[3,4],[2,3,4,5],ra 7 0 [],ra 8 0 [],ra 9 0 []],rp 10 [] [],[(0,1),(1,1)]⟩ else none) else(
 bif Nat.beq f 12 then some ⟨[],ra 41 0 [],.w 0::.q [1]::.q [1]::.w 1::.q [1,2]::.w 2::.w 3::rp 3 (.q [4]) (.w 4::.q [4,5]::.w 5::.w 6::rp 3 (.q [7]) (.w 7::.q [7,8]::.w 8::rp 9 (.q [9]) (.w 9::rp 4 (.q [10]) [.w 10,.q [10,11],.q [10,11],.w 11,.w 12,.q [13],.q [13]]))),[[],[0],[0,1],[0,1,2],[0,1],[0,1,2,3,4],ra 6 0 [],ra 7 0 [],ra 8 0 [],ra 9 0 [],ra 10 0 [],ra 9 0 [],ra 12 0 [],ra 13 0 [],ra 14 0 [],ra 15 0 [],ra 16 0 [],ra 17 0 [],ra 16 0 [],ra 19 0 [],ra 20 0 [],ra 21 0 [],ra 22 0 [],ra 22 0 [],ra 24 0 [],ra 25 0 [],ra 26 0 [],ra 27 0 [],ra 27 0 [],ra 29 0 [],ra 30 0 [],ra 31 0 [],ra 32 0 [],ra 32 0 [],ra 34 0 [],ra 32 0 [],ra 32 0 [],ra 37 0 [],ra 38 0 [],ra 39 0 [],ra 40 0 []],rp 41 [] [],[(4,1),(35,10),(36,10)]⟩ else none)
def AZq (f:Nat):Option Bl:=bif Nat.beq f 2 then some ⟨[],ra 42 0 [],.q (ra 12 0 [])::.q [0]::.q [0]::.w 0::rp 3 (.q (ra 12 0 [])) (.q (ra 11 1 [])::.w 1::.q [2]::.w 2::.w 3::rp 3 (.q (ra 8 4 [])) (.q (ra 12 0 [])::.w 4::.q (ra 7 5 [])::.w 5::.w 6::rp 3 (.q [7,8,9,10,11]) (.q (ra 12 0 [])::.q (ra 12 0 [])::.w 7::rp 3 (.q [8,9,10,11]) (.q (ra 9 0 [])::.q (ra 9 0 [])::.w 8::.q [9]::.w 9::.q (ra 11 0 [])::.q (ra 11 0 [])::.w 10::rp 5 (.q [11]) [])))),[[],[],[1],[1,2],[],[4],[4,5],ra 6 1 [],[1,2,3],[1,2,3,8],[1,2,3,8,9],[1,2,3,8,9,10],[1,2,3,8,9,10,11],[1,2,3,8,9,10,11,12],1::2::3::ra 6 8 [],[],[1,2,3,8,9,10,11],[1,2,3,8,9,10,11,16],[1,2,3,8,9,10,11,16],[1,2,3,8,9,10,11,16,18],[1,2,3,8,9,10,11,16,18,19],[1,2,3,8,9,10,11,16,18,19,20],[1,2,3,8,9,10,11,16,18,19,20,21],[],[23],[1,2,3,8,9,10,11,16,18,19],[1,2,3,8,9,10,11,16,18,19,25],[1,2,3,8,9,10,11,16,18,19,23,24,25,26],[1,2,3,8,9,10,11,16,18,19,23,24,25,26,27],[],[29],[1,2,3,8,9,10,11,16,18,19,25,29,30],[1,2,3,8,9,10,11,16,18,19,25,29,30,31],[1,2,3,8,9,10,11,16,18,19,25,29,30,31,32],[],[34],1::2::3::8::9::10::11::16::18::19::25::ra 7 29 [],1::2::3::8::9::10::11::16::18::19::25::ra 8 29 [],1::2::3::8::9::10::11::16::18::19::25::ra 9 29 [],1::2::3::8::9::10::11::16::18::19::25::ra 10 29 [],ra 40 0 [],ra 41 0 []],rp 42 [] [],[(4,0),(4,2),(4,3),(4,4),(4,5),(4,6),(4,7),(4,8),(4,9),(4,10),(4,11),(23,0),(23,1),(23,2),(23,3),(23,4),(23,5),(23,6),(23,8),(23,9),(23,10),(23,11),(29,0),(29,1),(29,2),(29,3),(29,4),(29,5),(29,6),(29,7),(34,0),(34,1),(34,2),(34,3),(34,4),(34,5),(34,6),(34,7),(34,8),(34,9)]⟩ else none
def AZr (f:Nat):Option Bl:=bif Nat.beq f 15 then some ⟨[],ra 10 0 [],.q [0,1]::.q [0]::.w 0::.w 1::rp 3 (.q [0,1,2]) [.w 2,.q [3],.q [3]],[[],[],[1],[0,1,2],[],[],[5],ra 7 0 [],ra 8 0 [],ra 9 0 []],[7]::[]::[]::[]::[8]::rp 5 [] [],[(5,0),(5,1),(6,0),(6,1)]⟩ else none
def AZs (f:Nat):Option Bl:=bif Nat.beq f 2 then some ⟨[],ra 29 0 [],rp 16 (.q [0]) (rp 4 (.q [0,1,2,3,4]) [.w 0,.w 1,.q [2],.w 2,.q [3],.w 3,.w 4,.q [5],.q [5]]),[[],[0],[0,1],[0,1,2],[0,1,2,3],[0,1,2,3,4],ra 6 0 [],ra 7 0 [],ra 8 0 [],ra 9 0 [],ra 10 0 [],ra 11 0 [],ra 12 0 [],ra 13 0 [],ra 14 0 [],ra 15 0 [],ra 16 0 [],ra 17 0 [],ra 18 0 [],ra 19 0 [],ra 16 0 [],ra 16 0 [20],ra 16 0 [20,21],ra 16 0 [20,21,22],ra 16 0 [20,21,22,23],ra 16 0 [20,21,22,23,24],ra 26 0 [],ra 27 0 [],ra 28 0 []],rp 29 [] [],[(17,1),(17,2),(17,3),(17,4),(18,1),(18,2),(18,3),(18,4),(19,1),(19,2),(19,3),(19,4)]⟩ else none
def AZt (f:Nat):Option Bl:=bif Nat.beq f 6 then some ⟨[],ra 10 0 [],rp 8 (.q [0]) [.w 0,.q [1]],[[],[],[0,1],[0,1,2],[],[],[4,5],[4,5,6],ra 8 0 [],ra 9 0 []],rp 10 [] [],[]⟩ else none
def AZu (f:Nat):Option Bl:=bif Nat.blt f 12 then(
 bif Nat.beq f 8 then some ⟨[],ra 9 0 [],.q [0,1]::rp 3 (.q [0]) (.w 0::rp 3 (.q [1]) [.w 1]),[[],[],[],[2],[1,2,3],[0,1,2,3,4],ra 6 0 [],ra 7 0 [],ra 8 0 []],rp 9 [] [],[(0,1)]⟩ else none) else(
 bif Nat.blt f 26 then(
  bif Nat.beq f 12 then some ⟨[],ra 9 0 [],.q [0,1]::rp 3 (.q [0]) (.w 0::rp 3 (.q [1]) [.w 1]),[[],[],[],[2],[1,2,3],[0,1,2,3,4],ra 6 0 [],ra 7 0 [],ra 8 0 []],rp 9 [] [],[(0,1)]⟩ else none) else(
  bif Nat.beq f 26 then some ⟨[],ra 10 0 [],.q [0,1]::.q [0,1]::rp 3 (.q [0]) [.w 0,.q [1],.w 1,.q [2],.w 2],[[],[0],[],[],[3],[2,3,4],[2,3,4,5],ra 7 0 [],ra 8 0 [],ra 9 0 []],rp 10 [] [],[(0,1),(1,1)]⟩ else none))
def AZv (f:Nat):Option Bl:=bif Nat.blt f 6 then(
 bif Nat.beq f 2 then some ⟨[],ra 31 0 [],rp 28 (.q [0]) [.w 0,.q [1],.q [1]],[[],[0],[0,1],[0,1,2],[0,1,2],[0,1,2,4],ra 6 0 [],ra 7 0 [],ra 8 0 [],ra 9 0 [],ra 9 0 [],ra 11 0 [],ra 12 0 [],ra 13 0 [],ra 14 0 [],ra 15 0 [],ra 16 0 [],ra 16 0 [],ra 18 0 [],ra 19 0 [],ra 16 0 [],ra 16 0 [20],ra 16 0 [20,21],ra 23 0 [],ra 24 0 [],ra 25 0 [],ra 26 0 [],ra 27 0 [],ra 28 0 [],ra 29 0 [],ra 30 0 []],rp 31 [] [],[]⟩ else none) else(
 bif Nat.beq f 6 then some ⟨[],ra 15 0 [],rp 9 (.q [0]) (.w 0::rp 5 (.q [1]) []),[[],[],[1],[],[],[3,4],[3,4,5],ra 6 1 [],ra 7 1 [],ra 9 0 [],ra 10 0 [],ra 11 0 [],ra 11 0 [],ra 12 0 [],ra 14 0 []],rp 15 [] [],[]⟩ else none)
def AZw (f:Nat):Option Bl:=bif Nat.beq f 11 then some ⟨[],ra 23 0 [],.q [0]::.q [0]::.w 0::.q [1]::rp 3 (.q [0,1]) (rp 4 (.q [1]) (.w 1::.q [2]::.q [1,2]::.q [1,2]::.w 2::rp 4 (.q [3]) [.w 3,.q [4],.q [4]])),[[],[0],[0,1],[0,1,2],[],[4],[4,5],ra 7 0 [],ra 8 0 [],ra 9 0 [],ra 9 0 [],ra 11 0 [],ra 12 0 [],ra 9 0 [],ra 9 0 [13],ra 15 0 [],ra 16 0 [],ra 17 0 [],ra 18 0 [],ra 19 0 [],ra 20 0 [],ra 21 0 [],ra 22 0 []],rp 23 [] [],[(4,0),(5,0),(6,0),(13,1),(14,1)]⟩ else none
def AZx (f:Nat):Option Bl:=bif Nat.beq f 5 then some ⟨[],ra 6 0 [],[.q [0],.w 0,.q [0,1],.q [1],.q [1],.w 1],[[],[0],[],[0,1,2],[0,1,2,3],[0,1,2,3,4]],rp 6 [] [],[(2,0)]⟩ else none
def AZy (f:Nat):Option Bl:=bif Nat.beq f 5 then some ⟨[],ra 8 0 [],rp 6 (.q [0]) [.w 0,.w 1],[[],[0],[],[0,1,2],[0,1,2,3],[],ra 6 0 [],ra 7 0 []],rp 8 [] [],[]⟩ else none
def AZz (f:Nat):Option Bl:=bif Nat.blt f 9 then(
 bif Nat.beq f 5 then some ⟨[],ra 10 0 [],rp 8 (.q [0]) [.w 0,.q [1]],[[],[0],[],[],[2,3],[2,3,4],ra 6 0 [],ra 7 0 [],ra 8 0 [],ra 9 0 []],rp 10 [] [],[]⟩ else none) else(
 bif Nat.beq f 9 then some ⟨[],ra 12 0 [],.q [0,1,2,3]::rp 6 (.q [0]) [.w 0,.w 1,.w 2,.w 3,.q [4]],rp 5 [] [[3,4],[3,4,5],ra 6 1 [],ra 7 1 [],ra 8 1 [],ra 10 0 [],ra 11 0 []],[7]::rp 11 [] [],[]⟩ else none)
def AZ0 (f:Nat):Option Bl:=bif Nat.beq f 10 then some ⟨[],ra 8 0 [],[.q [0,1],.q [0,1],.q [0],.w 0,.q [1],.w 1,.q [2],.w 2],[[],[0],[],[2],[2,3],[0,1,2,3,4],ra 6 0 [],ra 7 0 []],rp 8 [] [],[(0,1),(1,1)]⟩ else none
def AZ1 (f:Nat):Option Bl:=bif Nat.beq f 10 then some ⟨[],ra 11 0 [],.q [0,1]::.q [0,1]::rp 4 (.q [0]) [.w 0,.q [1],.w 1,.q [2],.w 2],[[],[0],[],[],[2,3],[2,3,4],[2,3,4,5],[2,3,4,5,6],ra 8 0 [],ra 9 0 [],ra 10 0 []],rp 11 [] [],[(0,1),(1,1)]⟩ else none
def AZ2 (f:Nat):Option Bl:=bif Nat.beq f 6 then some ⟨[],ra 9 0 [],rp 9 (.q [0]) [],[[],[],[0,1],[0,1,2],[],[],[4,5],[4,5,6],ra 8 0 []],rp 9 [] [],[]⟩ else none
def AZ3 (f:Nat):Option Bl:=bif Nat.beq f 11 then some ⟨[],ra 11 0 [],rp 8 (.q [0]) [.w 0,.q [1],.w 1],[[],[0],[],[2],[],[2,3,4],[2,3,4,5],[2,3,4,5,6],ra 8 0 [],ra 9 0 [],ra 10 0 []],rp 11 [] [],[]⟩ else none
def AZ4 (f:Nat):Option Bl:=bif Nat.blt f 29 then(
 bif Nat.beq f 7 then some ⟨[],ra 7 0 [],[.q [0,1],.q [0],.w 0,.q [1],.q [1],.w 1,.w 2],[[],[],[1],[0,1,2],[0,1,2,3],[0,1,2,3,4],ra 6 0 []],rp 7 [] [],[(0,1)]⟩ else none) else(
 bif Nat.blt f 35 then(
  bif Nat.beq f 29 then some ⟨[],ra 12 0 [],.q [0,1]::.q [0,1]::rp 5 (.q [0]) [.w 0,.q [1],.w 1,.q [2],.w 2],[[],[0],[],[],[],[4],[],[2,3,4,5,6],ra 6 2 [],ra 9 0 [],ra 10 0 [],ra 11 0 []],rp 12 [] [],[(0,1),(1,1)]⟩ else none) else(
  bif Nat.beq f 35 then some ⟨[],ra 10 0 [],.q [0,1]::rp 6 (.q [0]) [.w 0,.w 1,.w 2],[[],[],[],[],[3],[],[5],ra 6 1 [],ra 8 0 [],ra 9 0 []],rp 10 [] [],[(0,1)]⟩ else none))
def AZ5 (f:Nat):Option Bl:=bif Nat.blt f 19 then(
 bif Nat.beq f 18 then some ⟨[],ra 16 0 [],rp 10 (.q [0]) [.fa 0 11 12,.fj,.fx,.q [1],.q [1],.w 1],[[],[0],[0,1],[0,1,2],[],[4],[4,5],[4,5,6],[0,1,2,3],[],ra 10 0 [],ra 11 0 [],ra 12 0 [],ra 11 0 [],ra 11 0 [13],ra 11 0 [13,14]],rp 16 [] [],[]⟩ else none) else(
 bif Nat.beq f 19 then some ⟨[],ra 14 0 [],.q [0,1,2]::rp 4 (.q [0,1]) (.q [0]::.w 0::.w 1::.w 2::rp 5 (.q [3]) []),[[],[],[1],[1,2],[1,2,3],[],[5],ra 6 1 [],ra 8 0 [],ra 9 0 [],ra 10 0 [],ra 10 0 [],ra 11 0 [],ra 13 0 []],rp 14 [] [],[(1,1),(2,1),(3,1),(4,1)]⟩ else none)
def AZ6 (f:Nat):Option Bl:=bif Nat.beq f 8 then some ⟨[],ra 14 0 [],.q [0,1]::.q [0,1]::rp 7 (.q [0]) [.w 0,.q [1],.w 1,.q [2],.w 2],[[],[0],[],[2],[2,3],[2,3,4],[],[2,3,4,5,6],ra 6 2 [],ra 7 2 [],ra 8 2 [],ra 11 0 [],ra 12 0 [],ra 13 0 []],rp 14 [] [],[(0,1),(1,1)]⟩ else none
def AZ7 (f:Nat):Option Bl:=bif Nat.beq f 24 then some ⟨[],ra 13 0 [],.q [0,1]::rp 9 (.q [0]) [.w 0,.w 1,.q [2]],[[],[],[],[],[2,3],[2,3,4],[],[6],[6,7],[6,7,8],ra 9 1 [],ra 11 0 [],ra 12 0 []],[7]::rp 12 [] [],[]⟩ else none
def AZ8 (f:Nat):Option Bl:=bif Nat.blt f 7 then(
 bif Nat.beq f 6 then some ⟨[],ra 14 0 [],rp 11 (.q [0]) [.w 0,.q [1],.w 1],[[],[0],[],[2],[],[],[4,5],[4,5,6],ra 6 2 [],ra 7 2 [],ra 8 2 [],ra 11 0 [],ra 12 0 [],ra 13 0 []],rp 14 [] [],[]⟩ else none) else(
 bif Nat.beq f 7 then some ⟨[],ra 11 0 [],rp 8 (.q [0]) [.w 0,.q [1],.w 1],[[],[0],[],[],[2,3],[2,3,4],[],[6],ra 8 0 [],ra 9 0 [],ra 10 0 []],rp 11 [] [],[]⟩ else none)
def AZ9 (f:Nat):Option Bl:=bif Nat.blt f 4 then(
 bif Nat.beq f 1 then some ⟨[],ra 10 0 [],rp 10 (.q [0]) [],[[],[0],[0,1],[0,1,2],[],[4],[4,5],[4,5,6],[4,5,6,7],ra 9 0 []],rp 10 [] [],[]⟩ else none) else(
 bif Nat.beq f 4 then some ⟨[],ra 14 0 [],rp 12 (.q [0]) [.w 0,.q [1]],[[],[0],[0,1],[0,1,2],[],[4],[4,5],[4,5,6],[4,5,6,7],ra 9 0 [],ra 10 0 [],[],ra 12 0 [],ra 13 0 []],rp 14 [] [],[]⟩ else none)
def AaA (f:Nat):Option Bl:=bif Nat.blt f 4 then(
 bif Nat.beq f 1 then some ⟨[],ra 10 0 [],rp 10 (.q [0]) [],[[],[0],[0,1],[0,1,2],[],[4],[4,5],[4,5,6],[4,5,6,7],ra 9 0 []],rp 10 [] [],[]⟩ else none) else(
 bif Nat.beq f 4 then some ⟨[],ra 12 0 [],rp 12 (.q [0]) [],[[],[0],[0,1],[0,1,2],[],[4],[4,5],[4,5,6],[4,5,6,7],ra 9 0 [],ra 10 0 [],ra 11 0 []],rp 12 [] [],[]⟩ else none)
def AaB (f:Nat):Option Bl:=bif Nat.beq f 15 then some ⟨[],ra 11 0 [],.q [0,1]::.q [0,1]::rp 4 (.q [0]) [.w 0,.q [1],.w 1,.q [2],.w 2],[[],[0],[],[],[],[],[2,3,4,5],[2,3,4,5,6],ra 8 0 [],ra 9 0 [],ra 10 0 []],rp 11 [] [],[(0,1),(1,1)]⟩ else none
def AaC (f:Nat):Option Bl:=bif Nat.beq f 5 then some ⟨[],ra 7 0 [],rp 7 (.q [0]) [],[[],[],[0,1],[0,1,2],[],[4],ra 6 0 []],rp 7 [] [],[]⟩ else none
def AaD (f:Nat):Option Bl:=bif Nat.beq f 10 then some ⟨[],ra 15 0 [],.q [0,1]::.q [0,1]::rp 8 (.q [0]) [.w 0,.q [1],.w 1,.q [2],.w 2],[[],[0],[],[],[3],[3,4],[3,4,5],[3,4,5,6],[3,4,5,6,7],[],ra 8 2 [],ra 9 2 [],ra 12 0 [],ra 13 0 [],ra 14 0 []],rp 15 [] [],[(0,1),(1,1)]⟩ else none
def AaE (f:Nat):Option Bl:=bif Nat.beq f 6 then some ⟨[],ra 10 0 [],rp 8 (.q [0]) [.w 0,.q [1]],[[],[],[0,1],[0,1,2],[],[],[4,5],[4,5,6],ra 8 0 [],ra 9 0 []],rp 10 [] [],[]⟩ else none
def AaF (f:Nat):Option Bl:=bif Nat.beq f 1 then some ⟨[],ra 18 0 [],rp 3 (.q [0]) (.w 0::.q [0,1]::.q [0,1]::.w 1::.q [0,1,2,3]::.q [0,1,2,3]::rp 5 (.q [0,1,2]) [.w 2,.w 3,.q [4],.w 4]),[[],[],[1],[0,1,2],[],[4],ra 6 0 [],[],[7],[],[9],[],[11],[11,12],ra 7 0 [9,10,11,12,13],ra 15 0 [],ra 16 0 [],ra 17 0 []],rp 18 [] [],[(4,0),(5,0),(7,0),(7,1),(7,3),(8,0),(8,1),(8,3),(9,0),(9,1),(10,0),(10,1),(11,0),(11,1),(12,0),(12,1),(13,0),(13,1)]⟩ else none
def AaG (f:Nat):Option Bl:=bif Nat.beq f 12 then some ⟨[],ra 12 0 [],rp 10 (.q [0]) [.w 0,.q [1]],[[],[0],[],[0,1,2],[0,1,2,3],[],[5],[],[5,6,7],[5,6,7,8],ra 10 0 [],ra 11 0 []],rp 12 [] [],[]⟩ else none
def AaH (f:Nat):Option Bl:=bif Nat.beq f 12 then some ⟨[],ra 14 0 [],.q [0,1]::.q [0,1]::rp 7 (.q [0]) [.w 0,.q [1],.w 1,.q [2],.w 2],[[],[0],[],[2],[],[2,3,4],[2,3,4,5],[],[],ra 7 2 [],ra 8 2 [],ra 11 0 [],ra 12 0 [],ra 13 0 []],rp 14 [] [],[(0,1),(1,1)]⟩ else none
def AaI (f:Nat):Option Bl:=bif Nat.beq f 9 then some ⟨[],ra 12 0 [],.q [0,1]::.q [0,1]::rp 5 (.q [0]) [.w 0,.q [1],.w 1,.q [2],.w 2],[[],[0],[],[],[],[4],[],[2,3,4,5,6],ra 6 2 [],ra 9 0 [],ra 10 0 [],ra 11 0 []],rp 12 [] [],[(0,1),(1,1)]⟩ else none
def AaJ (f:Nat):Option Bl:=bif Nat.beq f 6 then some ⟨[],ra 8 0 [],[.q [0,1],.q [0,1],.q [0],.q [0],.w 0,.q [1],.q [0,1],.w 1],[[],[],[],[],[2,3],[1,2,3,4],[],ra 7 0 []],rp 8 [] [],[(0,1)]⟩ else none
def AaK (f:Nat):Option Bl:=bif Nat.blt f 12 then(
 bif Nat.beq f 5 then some ⟨[],ra 8 0 [],.q [0,1]::.q [0,1]::rp 3 (.q [0]) [.w 0,.q [1],.w 1],[[],[0],[],[],[3],[2,3,4],ra 6 0 [],ra 7 0 []],rp 8 [] [],[(0,1),(1,1)]⟩ else none) else(
 bif Nat.beq f 12 then some ⟨[],ra 9 0 [],[.q [0,1],.q [0,1],.q [0],.q [0],.w 0,.q [1],.w 1,.q [2],.w 2],[[],[0],[],[],[2,3],[2,3,4],ra 6 0 [],ra 7 0 [],ra 8 0 []],rp 9 [] [],[(0,1),(1,1)]⟩ else none)
def AaL (f:Nat):Option Bl:=bif Nat.beq f 4 then some ⟨[],[0,1,2,3,4],rp 5 (.q [0]) [],[[],[],[1],[0],[0,1,2,3]],rp 5 [] [],[]⟩ else none
def AaM (f:Nat):Option Bl:=bif Nat.blt f 24 then(
 bif Nat.beq f 23 then some ⟨[20],ra 20 0 [21],rp 4 (.q [0]) (.w 0::rp 11 (.q [0,1]) [.w 1,.q [2],.w 2,.q [3],.h [0,1,2,3],.w 3]),[[],[],[1],[1,2],[0,1,2,3],[],[],[5,6],[5,6,7],[],[5,6,7,8,9],ra 6 5 [],ra 7 5 [],[],[13],[13,14],ra 16 0 [],ra 17 0 [],ra 18 0 [],ra 19 0 [],[],ra 21 0 []],rp 22 [] [],[(7,0),(8,0),(10,0),(11,0),(12,0),(13,0),(14,0),(15,0),(20,0),(20,1),(20,2),(20,3)]⟩ else none) else(
 bif Nat.beq f 24 then some ⟨[],ra 19 0 [],.q [0,1,2,3]::rp 3 (.q [0]) (.w 0::rp 8 (.q [0,1]) [.w 1,.q [0,1,2],.q [2],.w 2,.w 3,.q [4]]),[[],[],[],[2],[1,2,3],[],[],[5,6],[5,6,7],[],[5,6,7,8,9],ra 6 5 [],ra 7 5 [],ra 12 1 [],[],ra 14 1 [],ra 15 1 [],ra 17 0 [],ra 18 0 []],[11]::rp 18 [] [],[(7,0),(8,0),(10,0),(11,0),(12,0),(14,0),(14,1)]⟩ else none)
def ASR (f:Nat):Option Bl:=bif Nat.blt f 8 then(
 bif Nat.beq f 4 then some ⟨[],ra 11 0 [],rp 3 (.q [0]) [.w 0,.q [0,1],.q [0,1],.w 1,.q [0,1,2],.q [2],.w 2,.q [3]],[[],[],[1],[0,1,2],[],[4],ra 6 0 [],[],ra 8 0 [],ra 9 0 [],ra 10 0 []],rp 11 [] [],[(4,0),(7,0),(7,1)]⟩ else none) else(
 bif Nat.beq f 8 then some ⟨[],ra 7 0 [],[.q [0,1],.q [0,1],.q [0],.q [0],.w 0,.w 1,.q [2]],[[],[],[],[],[2,3],[0,1,2,3,4],ra 6 0 []],rp 7 [] [],[(1,1)]⟩ else none)
def ASS (f:Nat):Option Bl:=bif Nat.beq f 1 then some ⟨[],ra 13 0 [],rp 13 (.q [0]) [],[[],[0],[0,1],[0,1,2],[0,1,2,3],[0,1,2,3,4],[0,1,2,3],[0,1,2,3,6],[0,1,2,3,6,7],[0,1,2,3,6,7,8],[0,1,2,3,6,7,8,9],ra 11 0 [],ra 12 0 []],rp 13 [] [],[]⟩ else none
def AST (f:Nat):Option Bl:=bif Nat.blt f 5 then(
 bif Nat.beq f 1 then some ⟨[],ra 25 0 [],rp 4 (.q [0]) (.w 0::rp 4 (.q [0,1]) (.w 1::rp 4 (.q [0,1,2]) (.w 2::rp 6 (.q [0,1,2,3]) [.w 3,.q [4],.w 4,.q [5]]))),[[],[0],[],[2],[0,1,2,3],[],[5],[],[7],ra 9 0 [],[],[10],[],[12],ra 14 0 [],[],[15],[15,16],[],[18],[18,19],ra 21 0 [],ra 22 0 [],ra 23 0 [],ra 24 0 []],rp 25 [] [],[(5,0),(6,0),(7,0),(8,0),(10,0),(10,1),(11,0),(11,1),(12,0),(12,1),(13,0),(13,1),(15,0),(15,1),(15,2),(16,0),(16,1),(16,2),(17,0),(17,1),(17,2),(18,0),(18,1),(18,2),(19,0),(19,1),(19,2),(20,0),(20,1),(20,2)]⟩ else none) else(
 bif Nat.beq f 5 then some ⟨[],ra 12 0 [],rp 10 (.q [0]) [.w 0,.q [1]],[[],[0],[],[0,1,2],[0,1,2,3],[],[5],[],[5,6,7],[5,6,7,8],ra 10 0 [],ra 11 0 []],rp 12 [] [],[]⟩ else none)
def ASU (f:Nat):Option Bl:=bif Nat.beq f 13 then some ⟨[],ra 14 0 [],.q [0,1]::.q [0,1]::rp 7 (.q [0]) [.w 0,.q [1],.w 1,.q [2],.w 2],[[],[0],[],[2],[],[2,3,4],[2,3,4,5],[],[],ra 7 2 [],ra 8 2 [],ra 11 0 [],ra 12 0 [],ra 13 0 []],rp 14 [] [],[(0,1),(1,1)]⟩ else none
def ASV (f:Nat):Option Bl:=bif Nat.blt f 11 then(
 bif Nat.beq f 3 then some ⟨[],ra 14 0 [],rp 8 (.q [0]) (.w 0::rp 5 (.q [1]) []),[[],[],[1],[1,2],[1,2,3],[],[1,2,3,4,5],ra 6 1 [],ra 8 0 [],ra 9 0 [],ra 10 0 [],ra 10 0 [],ra 11 0 [],ra 13 0 []],rp 14 [] [],[]⟩ else none) else(
 bif Nat.beq f 11 then some ⟨[],ra 12 0 [],.q [0,1]::rp 3 (.q [0]) (.w 0::.q [0,1]::.w 1::rp 5 (.q [2]) []),[[],[],[],[],[1,2,3],[],ra 6 0 [],ra 7 0 [],ra 8 0 [],ra 8 0 [],ra 9 0 [],ra 11 0 []],rp 12 [] [],[(5,0)]⟩ else none)
def ASW (f:Nat):Option Bl:=bif Nat.beq f 5 then some ⟨[],ra 7 0 [],[.q [0,1],.q [0],.w 0,.q [1],.q [1],.w 1,.w 2],[[],[],[1],[0,1,2],[0,1,2,3],[0,1,2,3,4],ra 6 0 []],rp 7 [] [],[(0,1)]⟩ else none
def ASX (f:Nat):Option Bl:=bif Nat.beq f 16 then some ⟨[],ra 9 0 [],[.q [0,1,2],.q [0],.w 0,.q [0,1],.q [0,1],.w 1,.q [2],.w 2,.q [3]],[[],[],[1],[],[3],[1,2,3,4],[1,2,3,4,5],ra 7 0 [],ra 8 0 []],[9]::rp 8 [] [],[(3,0)]⟩ else none
def ASY (f:Nat):Option Bl:=bif Nat.beq f 11 then some ⟨[],ra 14 0 [],[.q [0,1,2],.q [0,1,2],.q [0,1],.q [0,1],.q [0],.q [0],.w 0,.q [1],.q [0,1],.w 1,.q [2],.w 2,.q [3],.w 3],[[],[0],[],[],[],[],[4,5],[3,4,5,6],[],ra 7 2 [],ra 8 2 [],ra 11 0 [],ra 12 0 [],ra 13 0 []],rp 14 [] [],[(0,1),(0,2),(1,1),(1,2),(2,1)]⟩ else none
def ASZ (f:Nat):Option Bl:=bif Nat.beq f 6 then some ⟨[],ra 13 0 [],rp 6 (.q [0,1]) [.q [0],.q [0],.w 0,.q [1],.q [0,1],.w 1,.q [2]],[[],[0],[],[0,1,2],[0,1,2,3],[],[],[],[6,7],[5,6,7,8],[],ra 11 0 [],ra 12 0 []],rp 10 [] [[2],[],[]],[(0,1),(1,1),(3,1),(4,1)]⟩ else none
def ASa (f:Nat):Option Bl:=bif Nat.blt f 11 then(
 bif Nat.beq f 9 then some ⟨[],ra 13 0 [],.q [0,1]::.q [0,1]::rp 6 (.q [0]) [.w 0,.q [1],.w 1,.q [2],.w 2],[[],[0],[],[2],[],[2,3,4],[2,3,4,5],[],ra 6 2 [],ra 7 2 [],ra 10 0 [],ra 11 0 [],ra 12 0 []],rp 13 [] [],[(0,1),(1,1)]⟩ else none) else(
 bif Nat.blt f 13 then(
  bif Nat.beq f 11 then some ⟨[],ra 13 0 [],.q [0,1]::.q [0,1]::rp 6 (.q [0]) [.w 0,.q [1],.w 1,.q [2],.w 2],[[],[0],[],[2],[],[2,3,4],[2,3,4,5],[],ra 6 2 [],ra 7 2 [],ra 10 0 [],ra 11 0 [],ra 12 0 []],rp 13 [] [],[(0,1),(1,1)]⟩ else none) else(
  bif Nat.beq f 13 then some ⟨[],ra 12 0 [],.q [0,1]::.q [0,1]::rp 5 (.q [0]) [.w 0,.q [1],.w 1,.q [2],.w 2],[[],[0],[],[2],[],[2,3,4],[2,3,4,5],[2,3,4,5,6],ra 6 2 [],ra 9 0 [],ra 10 0 [],ra 11 0 []],rp 12 [] [],[(0,1),(1,1)]⟩ else none))
def ASb (f:Nat):Option Bl:=bif Nat.beq f 8 then some ⟨[],ra 13 0 [],.q [0,1,2]::.q [0,1]::rp 6 (.q [0]) [.w 0,.q [0,1],.w 1,.w 2,.q [3]],rp 6 [] [[4,5],[4,5,6],ra 6 2 [],[],ra 9 1 [],ra 11 0 [],ra 12 0 []],[8]::rp 12 [] [],[]⟩ else none
def ASc (f:Nat):Option Bl:=bif Nat.beq f 6 then some ⟨[],ra 8 0 [],[.q [0,1],.q [0,1],.q [0],.q [0],.w 0,.q [1],.w 1,.q [2]],[[],[],[],[],[2,3],[1,2,3,4],ra 6 0 [],ra 7 0 []],rp 8 [] [],[(0,1)]⟩ else none
def ASd (f:Nat):Option Bl:=bif Nat.blt f 15 then(
 bif Nat.beq f 11 then some ⟨[],ra 9 0 [],rp 8 (.q [0]) [.w 0],[[],[],[],[1,2],[0,1,2,3],[],[],[5,6],ra 8 0 []],rp 9 [] [],[]⟩ else none) else(
 bif Nat.beq f 15 then some ⟨[],ra 9 0 [],rp 8 (.q [0]) [.w 0],[[],[],[],[1,2],[0,1,2,3],[],[],[5,6],ra 8 0 []],rp 9 [] [],[]⟩ else none)
def ASe (f:Nat):Option Bl:=bif Nat.beq f 6 then some ⟨[],ra 8 0 [],[.q [0,1],.q [0,1],.q [0],.w 0,.q [1],.w 1,.q [2],.w 2],[[],[0],[],[2],[2,3],[0,1,2,3,4],ra 6 0 [],ra 7 0 []],rp 8 [] [],[(0,1),(1,1)]⟩ else none
def ASf (f:Nat):Option Bl:=bif Nat.beq f 6 then some ⟨[],ra 13 0 [],rp 4 (.q [0]) (.w 0::.q [0,1]::.q [0,1]::.w 1::rp 3 (.q [0,1,2]) [.w 2,.q [3]]),[[],[],[],[1,2],[0,1,2,3],[],[5],ra 7 0 [],[],[],[8,9],ra 11 0 [],ra 12 0 []],rp 13 [] [],[(10,0),(10,1)]⟩ else none
def ASg (f:Nat):Option Bl:=bif Nat.beq f 1 then some ⟨[],ra 7 0 [],[.q [0,1],.q [0],.w 0,.q [0,1],.q [1],.w 1,.q [2]],[[],[],[1],[],[0,1,2,3],[0,1,2,3,4],ra 6 0 []],rp 7 [] [],[(3,0)]⟩ else none
def ASh (f:Nat):Option Bl:=bif Nat.beq f 1 then some ⟨[],ra 7 0 [],[.q [0,1],.q [0],.w 0,.q [0,1],.q [1],.w 1,.q [2]],[[],[],[1],[],[0,1,2,3],[0,1,2,3,4],ra 6 0 []],rp 7 [] [],[(3,0)]⟩ else none
def ASi (f:Nat):Option Bl:=bif Nat.blt f 10 then(
 bif Nat.blt f 8 then(
  bif Nat.beq f 7 then some ⟨[],ra 15 0 [],rp 3 (.q [0]) (rp 3 (.q [0,1]) (rp 3 (.q [0]) [.q [0,1],.q [0,1],.q [0],.w 0,.q [1],.w 1])),[[],[],[1],[],[],[4],[],[6],[6,7],[],[9],[0,1,2,6,7,8],[0,1,2,6,7,8,11],ra 13 0 [],ra 14 0 []],rp 15 [] [],[(5,1)]⟩ else none) else(
  bif Nat.blt f 9 then(
   bif Nat.beq f 8 then some ⟨[],ra 15 0 [],rp 3 (.q [0]) (rp 3 (.q [0,1]) (rp 3 (.q [0]) [.q [0,1],.q [0,1],.q [0],.w 0,.q [1],.w 1])),[[],[],[1],[],[],[4],[],[6],[6,7],[],[9],[0,1,2,6,7,8],[0,1,2,6,7,8,11],ra 13 0 [],ra 14 0 []],rp 15 [] [],[(5,1)]⟩ else none) else(
   bif Nat.beq f 9 then some ⟨[],ra 15 0 [],rp 3 (.q [0]) (rp 3 (.q [0,1]) (rp 3 (.q [0]) [.q [0,1],.q [0,1],.q [0],.w 0,.q [1],.w 1])),[[],[],[1],[],[],[4],[],[6],[6,7],[],[9],[0,1,2,6,7,8],[0,1,2,6,7,8,11],ra 13 0 [],ra 14 0 []],rp 15 [] [],[(5,1)]⟩ else none))) else(
 bif Nat.blt f 18 then(
  bif Nat.blt f 17 then(
   bif Nat.beq f 10 then some ⟨[],ra 15 0 [],rp 3 (.q [0]) (rp 3 (.q [0,1]) (rp 3 (.q [0]) [.q [0,1],.q [0,1],.q [0],.w 0,.q [1],.w 1])),[[],[],[1],[],[],[4],[],[6],[6,7],[],[9],[0,1,2,6,7,8],[0,1,2,6,7,8,11],ra 13 0 [],ra 14 0 []],rp 15 [] [],[(5,1)]⟩ else none) else(
   bif Nat.beq f 17 then some ⟨[],ra 15 0 [],rp 3 (.q [0]) (rp 3 (.q [0,1]) (rp 3 (.q [0]) [.q [0,1],.q [0,1],.q [0],.w 0,.q [1],.w 1])),[[],[],[1],[],[],[4],[],[6],[6,7],[],[9],[0,1,2,6,7,8],[0,1,2,6,7,8,11],ra 13 0 [],ra 14 0 []],rp 15 [] [],[(5,1)]⟩ else none)) else(
  bif Nat.blt f 23 then(
   bif Nat.beq f 18 then some ⟨[],ra 15 0 [],rp 3 (.q [0]) (rp 3 (.q [0,1]) (rp 3 (.q [0]) [.q [0,1],.q [0,1],.q [0],.w 0,.q [1],.w 1])),[[],[],[1],[],[],[4],[],[6],[6,7],[],[9],[0,1,2,6,7,8],[0,1,2,6,7,8,11],ra 13 0 [],ra 14 0 []],rp 15 [] [],[(5,1)]⟩ else none) else(
   bif Nat.beq f 23 then some ⟨[],ra 15 0 [],rp 3 (.q [0]) (rp 3 (.q [0,1]) (rp 3 (.q [0]) [.q [0,1],.q [0,1],.q [0],.w 0,.q [1],.w 1])),[[],[],[1],[],[],[4],[],[6],[6,7],[],[9],[0,1,2,6,7,8],[0,1,2,6,7,8,11],ra 13 0 [],ra 14 0 []],rp 15 [] [],[(5,1)]⟩ else none)))
def ASj (f:Nat):Option Bl:=bif Nat.beq f 3 then some ⟨[],ra 16 0 [],.q [0]::.q [0]::.q [0,1]::.q [0,1]::rp 9 (.q [0]) [.w 0,.q [1],.w 1],rp 6 [] [[4,5],[4,5,6],[],[],[8,9],[8,9,10],0::1::ra 8 4 [],0::1::ra 9 4 [],ra 14 0 [],ra 15 0 []],rp 16 [] [],[]⟩ else none
def ASk (f id:Nat):Option Bl:=lk [(6,pl6),(7,pl7),(8,pl8),(9,pl9),(12,AZq),(14,AZr),(16,AZs),(17,AZt),(18,AZu),(24,AZv),(27,AZw),(29,AZx),(31,AZy),(34,AZz),(36,AZ0),(37,AZ1),(38,AZ2),(40,AZ3),(41,AZ4),(44,AZ5),(45,AZ6),(49,AZ7),(50,AZ8),(54,AZ9),(55,AaA),(59,AaB),(65,AaC),(67,AaD),(75,AaE),(78,AaF),(79,AaG),(82,AaH),(83,AaI),(87,AaJ),(91,AaK),(92,AaL),(98,AaM),(100,ASR),(101,ASS),(104,AST),(111,ASU),(114,ASV),(115,ASW),(120,ASX),(121,ASY),(126,ASZ),(127,ASa),(130,ASb),(141,ASc),(143,ASd),(146,ASe),(150,ASf),(169,ASg),(170,ASh),(177,ASi),(182,ASj)] f id
def okB (t n:Nat):Bool:=false
def kZ (f:Nat):Option (BL->List AV->AQ->Option (AV×AQ)):=bif Nat.blt f 124 then(
 bif Nat.beq f 123 then some oQ else none) else(
 bif Nat.blt f 143 then(
  bif Nat.beq f 124 then some gU else none) else(
  bif Nat.beq f 143 then some bI else none))
def bzT (f:Nat):Bool:=false
def uF (f:Nat):Option Nat:=bif Nat.beq f 106 then some 25 else none
noncomputable def env (R:Nat->Option (List PV)):Env:=⟨Tryz.prog,uC R,ASP,muT,rrT,gW,ASk,kZ,bzT,uF⟩
end
end Go.Proofs.YtpgfpakdnijngaaGreatDoor
