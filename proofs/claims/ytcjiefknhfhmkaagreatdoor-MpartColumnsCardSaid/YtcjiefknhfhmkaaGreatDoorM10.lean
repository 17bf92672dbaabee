import Derived.Lib.UnsafeStr
import Derived.Tactics2
import Derived.RegionTactic
import Derived.WalkKit
import Derived.Test.YtcjiefknhfhmkaaGreatDoorM09
namespace Go.Proofs.YtcjiefknhfhmkaaGreatDoor
open Go.Abs
set_option maxRecDepth 100000
set_option maxHeartbeats 4000000
set_option linter.unusedVariables false
set_option linter.unusedSimpArgs false
def nF (s:Schema) (row:List Val):Int:=if row.length≠s.1.length then 1 else bX (fun i v=>bE s.1[i.toNat]! v) 0 row
abbrev pI:Rank:=((false,0,⟨#[]⟩),0)
def fK (s:Schema) (r:Rec):Rank:=if s.2<0\/s.2>=r.2.length then pI else(r.2[s.2.toNat]!,r.1)
def gC (t:Int) (a b:Rank):Int:=if bA t a.1 b.1≠0 then bA t a.1 b.1 else iM a.2 b.2
def nP (s:Schema) (r:Rec):Bool:=decide (0<=r.1)&&decide (r.1<=1099511627776)&&decide (nF s r.2=0)
def cV (s:Schema) (l:List Rec):Bool:=decide (aW s=0)&&l.all (nP s)
def nE (s:Schema) (a b:Rec):Int:=gC s.1[s.2.toNat]!.2.1 (fK s a) (fK s b)
def SL (s:Schema) (l:List Rec):Bool:=(List.range (l.length-1)).all fun i=>decide (nE s l[i]! l[i+1]! <0)
def cW (s:Schema) (l:List Rec):Bool:=cV s l&&SL s l
theorem dZ {s:Schema} {l:List Rec} (h:cV s l=true):aW s=0/\∀i:Nat,i<l.length->nF s l[i]!.2=0:=by
 simp only[cV,Bool.and_eq_true,decide_eq_true_eq,List.all_eq_true]at h;refine⟨h.1,fun i hi=>?_⟩;have q:=h.2 l[i]! (by rw[getElem!_pos l i hi];exact List.getElem_mem hi);simp only[nP,Bool.and_eq_true,decide_eq_true_eq]at q;exact q.2
theorem lL {b:Bool} (h:(!b)=false):b=true:=by cases b;cases h;rfl
theorem qAV {b:Bool} (h:(!b)=true):b=false:=by cases b;rfl;cases h
def orI:List Int->Int
 | []=>0
 |x::l=>if x≠0 then x else orI l
theorem bC {s:Schema} (h:aW s=0):s.1.length<=12/\0<=s.2/\s.2<s.1.length:=by
 unfold aW at h;split at h
 ·cases h
 split at h
 ·cases h
 split at h
 ·contradiction
 split at h
 ·cases h
 ·omega
theorem qVR {i n:Nat} {k:Int} (h:i<n) (hk:¬k<n):i<k.toNat:=by omega
theorem qUA {s:Schema} {l:List Rec} {k:Int} (h:1<=k/\k<l.length) (hn:nE s l[(k-1).toNat]! l[k.toNat]! >=0):SL s l=false:=by
 rw[SL,List.all_eq_false];refine⟨(k-1).toNat,by rw[List.mem_range];omega,?_⟩;rw[show(k-1).toNat+1=k.toNat by omega,decide_eq_true_eq];omega
theorem qUB {s:Schema} {l:List Rec} (h:∀i:Nat,1<=i->i<l.length->nE s l[i-1]! l[i]! <0):SL s l=true:=by
 rw[SL,List.all_eq_true];intro i hi;rw[List.mem_range]at hi;rw[decide_eq_true_eq];exact h (i+1) (by omega) (by omega)
def oS (s:Schema) (r:Rec) (l:List Rec):Nat->Nat
 |0=>0
 |n+1=>if nE s r l[n]! <0 then oS s r l n else n+1
theorem qM2 (s:Schema) (r:Rec) (l:List Rec) (n:Nat):oS s r l n<=n:=by
 induction n with
 |zero=>exact Nat.le_refl _
 |succ n ih=>rw[oS];split<;>omega
theorem qM1 {s:Schema} {r:Rec} {l:List Rec} {k:Int} (h:k>0) (ho:nE s r l[(k-1).toNat]! <0):oS s r l k.toNat=oS s r l (k-1).toNat:=by
 obtain⟨n,rfl⟩:∃n:Nat,k=(n:Int)+1:=⟨(k-1).toNat,by omega⟩
 rw[show((n:Int)+1).toNat=n+1 by omega,show((n:Int)+1-1).toNat=n by omega]at *;rw[oS,if_pos ho]
theorem qAH {s:Schema} {r:Rec} {l:List Rec} {k:Int} (h:k>0) (ho:¬nE s r l[(k-1).toNat]! <0):oS s r l k.toNat=k.toNat:=by
 obtain⟨n,rfl⟩:∃n:Nat,k=(n:Int)+1:=⟨(k-1).toNat,by omega⟩
 rw[show((n:Int)+1).toNat=n+1 by omega,show((n:Int)+1-1).toNat=n by omega]at *;rw[oS,if_neg ho]
def kU (s:Schema) (o:List Rec) (r:Rec):List Rec:=o.take (oS s r o o.length)++ [r]++o.drop (oS s r o o.length)
theorem ID (s:Schema) (o:List Rec) (r:Rec):(kU s o r).length=o.length+1:=by
 have:=qM2 s r o o.length;simp only[kU,List.length_append,List.length_take,List.length_drop,List.length_cons,List.length_nil];omega
theorem qM0 {s:Schema} {r:Rec} {l:List Rec} {j:Int} (h:oS s r l l.length=oS s r l j.toNat) (h0:0<=j) (hs:¬j>0\/¬nE s r l[(j-1).toNat]! <0):oS s r l l.length=j.toNat:=by
 by_cases q:j>0
 ·rcases hs with hs|hs
  ·exact absurd q hs
  ·exact h.trans (qAH q hs)
 ·rw[h,show j.toNat=0 by omega];rfl
theorem AE {α:Type} (l:List α) (a n:Nat):RU l a n=(l.drop a).take n:=by cases a<;>rfl
theorem qD7 {α:Type} (l:List α) (a n:Nat):(RU l a n).length=min n (l.length-a):=by rw[AE,List.length_take,List.length_drop]
theorem OU {α:Type} (l:List α) (j:Int) (h:0<=j/\j<=l.length):RU l j.toNat ((l.length:Int)-j).toNat=l.drop j.toNat:=by rw[AE,List.take_of_length_le (by rw[List.length_drop];omega)]
theorem qYS {O:List Rec} {x:Rec} {j:Int} (h:j=O.length):RU O 0 j.toNat++ [x]++ []=O.take j.toNat++ [x]++O.drop j.toNat:=by rw[AE,List.drop_zero,List.drop_eq_nil_of_le (by omega)]
theorem qYT {O:List Rec} {x:Rec} {j:Int} (h:0<=j/\j<=O.length):RU O 0 j.toNat++ [x]++RU O j.toNat ((O.length:Int)-j).toNat=O.take j.toNat++ [x]++O.drop j.toNat:=by rw[AE,List.drop_zero,OU O j h]
theorem qYU {O:List Rec} {x:Rec} {j:Int} (h:O.length=0) (hj:0<=j/\j<=O.length):[x]++ []=O.take j.toNat++ [x]++O.drop j.toNat:=by rw[List.drop_eq_nil_of_le (by omega),show j.toNat=0 by omega];rfl
theorem qYV {O:List Rec} {x:Rec} {j:Int} (hj:0<=j/\j<=O.length) (h:j<=0):[x]++RU O j.toNat ((O.length:Int)-j).toNat=O.take j.toNat++ [x]++O.drop j.toNat:=by rw[OU O j hj,show j.toNat=0 by omega];rfl
def EC (s:Schema) (l:List Rec):List Rec:=if cV s l=true then l.foldl (kU s) []else[]
abbrev wJ:Ct:=.fn [cE,.list bS] (some (fun(s:Schema) (row:List Val)=>(s.1.length<=12))) (fun(s:Schema) (row:List Val)=>.d (.int .i64) (nF s row))
theorem TM:aH Tryz.prog 118 wJ:=by
 refine aH.fn qGN mixed [] [] rfl rfl ?_;rintro⟨(s:Schema),(row:List Val),_⟩ hpre;replace hpre:=hpre _ rfl;dsimp only[cu]at hpre;have hs:=hpre;refine⟨[(0,8,LA.mk [.sl 16 (.int .i64)] (fun y=>Tag 61/\cu [.int .i64] (fun(k:Int)=>(0<=k/\k<=row.length)/\(bX (fun i v=>bE s.1[i.toNat]! v) 0 row=bX (fun i v=>bE s.1[i.toNat]! v) k (row.drop k.toNat))) y) (cu [.int .i64] (fun(k:Int)=>((row.length:Int)-k).toNat)) (cu [.int .i64] (fun(k:Int)=>([]:List (Nat×Nat×LA)))))],?_⟩;repeat' (first
  |(
 with_reducible refine Side.mk ⟨(⟨⟩:Tag 61),?_⟩
 dsimp only[cu,aC,aB,gts,eE,eN]
 refine⟨?_,?_⟩
 ·omega
 ·first
  |simp;done
  |(
  rw[bN _ _ (by omega)]at hr
  rw[hr,bX,if_pos (by assumption)]))
  |(
 with_reducible apply Side.mk
 (try dsimp only[cu,aC,aB,gts,loK,hiK,eE,eN])
 omega)
  |(conv=>whnf
    first
     |with_reducible first|done|exact trivial|refine NilBr.mk (fun h=>?_) ?_|apply aJ|apply aI|refine aK (by kernel_rfl) ?_|apply aL|apply bG|apply bF|apply aR
     |((with_reducible first|apply aT|apply aS|apply bD)<;>intro h<;>(try dsimp only[cu,eE,eN]at h)<;>(try(exfalso;omega)))
     |(
 intro yy (hy:Tag 61/\_)
 obtain⟨(k:Int),_⟩:=yy
 replace hy:=hy.2
 dsimp only[cu,aC,aB,gts,eE,eN]at hy
 obtain⟨hk,hr⟩:=hy)))
 all_goals(
 with_reducible apply Leaf.mk
 (try dsimp only[cu,aC,aB,gts,eE,eN]at *)
 first
 |grind [nF]
 |(
  rw[bN _ _ (by omega),bX]at hr;grind [nF])
 |(
  rw[mS _ _ (by omega)]at hr;grind [nF,bX]))
abbrev qbE:Tbl:=(118,wJ)::qbD
theorem qGO:aD Tryz.prog qbE:=aD.cons TM qGN
abbrev KR:Ct:=.fn [cE,.list bS] (some (fun(s:Schema) (row:List Val)=>(s.1.length<=12))) (fun(s:Schema) (row:List Val)=>.d (.int .i64) (nF s row))
theorem qQS:aH Tryz.prog 137 KR:=by
 refine aH.fn qGO mixed [] [] rfl rfl ?_;rintro⟨(s:Schema),(row:List Val),_⟩ hpre;replace hpre:=hpre _ rfl;dsimp only[cu]at hpre;have hs:=hpre;refine⟨[(0,8,LA.mk [.sl 16 (.int .i64)] (fun y=>Tag 62/\cu [.int .i64] (fun(k:Int)=>(0<=k/\k<=row.length)/\(bX (fun i v=>bE s.1[i.toNat]! v) 0 row=bX (fun i v=>bE s.1[i.toNat]! v) k (row.drop k.toNat))) y) (cu [.int .i64] (fun(k:Int)=>((row.length:Int)-k).toNat)) (cu [.int .i64] (fun(k:Int)=>([]:List (Nat×Nat×LA)))))],?_⟩;repeat' (first
  |(
 with_reducible refine Side.mk ⟨(⟨⟩:Tag 62),?_⟩
 dsimp only[cu,aC,aB,gts,eE,eN]
 refine⟨?_,?_⟩
 ·omega
 ·first
  |simp;done
  |(
  rw[bN _ _ (by omega)]at hr
  rw[hr,bX,if_pos (by assumption)]))
  |(
 with_reducible apply Side.mk
 (try dsimp only[cu,aC,aB,gts,loK,hiK,eE,eN])
 omega)
  |(conv=>whnf
    first
     |with_reducible first|done|exact trivial|refine NilBr.mk (fun h=>?_) ?_|apply aJ|apply aI|refine aK (by kernel_rfl) ?_|apply aL|apply bG|apply bF|apply aR
     |((with_reducible first|apply aT|apply aS|apply bD)<;>intro h<;>(try dsimp only[cu,eE,eN]at h)<;>(try(exfalso;omega)))
     |(
 intro yy (hy:Tag 62/\_)
 obtain⟨(k:Int),_⟩:=yy
 replace hy:=hy.2
 dsimp only[cu,aC,aB,gts,eE,eN]at hy
 obtain⟨hk,hr⟩:=hy)))
 all_goals(
 with_reducible apply Leaf.mk
 (try dsimp only[cu,aC,aB,gts,eE,eN]at *)
 first
 |grind [nF]
 |(
  rw[bN _ _ (by omega),bX]at hr;grind [nF])
 |(
  rw[mS _ _ (by omega)]at hr;grind [nF,bX]))
abbrev qbF:Tbl:=(137,KR)::qbE
theorem qGP:aD Tryz.prog qbF:=aD.cons qQS qGO
abbrev GT:Ct:=.fn [cE,gN] (none) (fun(s:Schema) (r:Rec)=>.d uM (fK s r))
theorem qOV:aH Tryz.prog 30 GT:=by
 refine aH.fn qGP mixed [] [] rfl rfl ?_;rintro⟨(s:Schema),(r:Rec),_⟩ -;refine⟨[],?_⟩;repeat' (first
  |(
 with_reducible apply Side.mk
 (try dsimp only[cu,aC,aB,gts,loK,hiK,eE,eN])
 omega)
  |(conv=>whnf
    first
     |with_reducible first|done|exact trivial|refine NilBr.mk (fun h=>?_) ?_|apply aJ|apply aI|refine aK (by kernel_rfl) ?_|apply aL|apply bG|apply bF|apply aR
     |((with_reducible first|apply aT|apply aS|apply bD)<;>intro h<;>(try dsimp only[cu,eE,eN]at h)<;>(try(exfalso;omega)))))
 all_goals(
 with_reducible apply Leaf.mk
 (try dsimp only[cu,aC,aB,gts,eE,eN]at *)
 first
 |rw[fK,if_pos (by omega)]
 |(rw[fK,if_neg (by omega)]))
abbrev qbG:Tbl:=(30,GT)::qbF
theorem qGQ:aD Tryz.prog qbG:=aD.cons qOV qGP
abbrev FW:Ct:=.fn [cE,gN] (none) (fun(s:Schema) (r:Rec)=>.d uM (fK s r))
theorem qLF:aH Tryz.prog 98 FW:=by
 refine aH.fn qGQ mixed [] [] rfl rfl ?_;rintro⟨(s:Schema),(r:Rec),_⟩ -;refine⟨[],?_⟩;repeat' (first
  |(
 with_reducible apply Side.mk
 (try dsimp only[cu,aC,aB,gts,loK,hiK,eE,eN])
 omega)
  |(conv=>whnf
    first
     |with_reducible first|done|exact trivial|refine NilBr.mk (fun h=>?_) ?_|apply aJ|apply aI|refine aK (by kernel_rfl) ?_|apply aL|apply bG|apply bF|apply aR
     |((with_reducible first|apply aT|apply aS|apply bD)<;>intro h<;>(try dsimp only[cu,eE,eN]at h)<;>(try(exfalso;omega)))))
 all_goals(
 with_reducible apply Leaf.mk
 (try dsimp only[cu,aC,aB,gts,eE,eN]at *)
 first
 |rw[fK,if_pos (by omega)]
 |(rw[fK,if_neg (by omega)]))
abbrev qbH:Tbl:=(98,FW)::qbG
theorem qGR:aD Tryz.prog qbH:=aD.cons qLF qGQ
abbrev GU:Ct:=.fn [.int .i64,uM,uM] (none) (fun(t:Int) (a:Rank) (b:Rank)=>.d (.int .i64) (gC t a b))
theorem qOW:aH Tryz.prog 78 GU:=by
 refine aH.fn qGR mixed [] [] rfl rfl ?_;rintro⟨(t:Int),(a:Rank),(b:Rank),_⟩ -;refine⟨[],?_⟩;repeat' (first
  |(
 with_reducible apply Side.mk
 (try dsimp only[cu,aC,aB,gts,loK,hiK,eE,eN])
 done)
  |(conv=>whnf
    first
     |with_reducible first|done|exact trivial|refine NilBr.mk (fun h=>?_) ?_|apply aJ|apply aI|refine aK (by kernel_rfl) ?_|apply aL|apply bG|apply bF|apply aR
     |((with_reducible first|apply aT|apply aS|apply bD)<;>intro h<;>(try dsimp only[cu,eE,eN]at h)<;>(try(exfalso;omega)))))
 all_goals(
 with_reducible apply Leaf.mk
 (try dsimp only[cu,aC,aB,gts,eE,eN]at *)
 grind [gC,iM])
abbrev qbI:Tbl:=(78,GU)::qbH
theorem qGS:aD Tryz.prog qbI:=aD.cons qOW qGR
abbrev SY:Ct:=.fn [.list (.int .i64)] (some (fun(l:List Int)=>(l.length<=9223372036854775807))) (fun(l:List Int)=>.d (.int .i64) (orI l))
theorem qW7:aH Tryz.prog 130 SY:=by
 refine aH.fn qGS mixed [] [] rfl rfl ?_;rintro⟨(l:List Int),_⟩ hpre;replace hpre:=hpre _ rfl;dsimp only[cu]at hpre;have hl:=hpre;refine⟨[(0,6,LA.mk [.sl 8 (.int .i64)] (fun y=>Tag 63/\cu [.int .i64] (fun(k:Int)=>(0<=k/\k<=l.length)/\(orI l=orI (l.drop k.toNat))) y) (cu [.int .i64] (fun(k:Int)=>((l.length:Int)-k).toNat)) (cu [.int .i64] (fun(k:Int)=>([]:List (Nat×Nat×LA)))))],?_⟩;repeat' (first
  |(
 with_reducible refine Side.mk ⟨(⟨⟩:Tag 63),?_⟩
 dsimp only[cu,aC,aB,gts,eE,eN]
 refine⟨?_,?_⟩
 ·omega
 ·first
  |rfl
  |(
  rw[bN _ _ (by omega),orI,if_neg (fun q=>q (by assumption))]at hz
  exact hz))
  |(
 with_reducible apply Side.mk
 (try dsimp only[cu,aC,aB,gts,loK,hiK,eE,eN])
 omega)
  |(conv=>whnf
    first
     |with_reducible first|done|exact trivial|refine NilBr.mk (fun h=>?_) ?_|apply aJ|apply aI|refine aK (by kernel_rfl) ?_|apply aL|apply bG|apply bF|apply aR
     |((with_reducible first|apply aT|apply aS|apply bD)<;>intro h<;>(try dsimp only[cu,eE,eN]at h)<;>(try(exfalso;omega)))
     |(
 intro yy (hy:Tag 63/\_)
 obtain⟨(k:Int),_⟩:=yy
 replace hy:=hy.2
 dsimp only[cu,aC,aB,gts,eE,eN]at hy
 obtain⟨hk,hz⟩:=hy)))
 all_goals(
 with_reducible apply Leaf.mk
 (try dsimp only[cu,aC,aB,gts,eE,eN]at *)
 first
 |rw[hz,bN _ _ (by omega),orI,if_pos (by assumption)]
 |(
  rw[hz,mS _ _ (by omega)];rfl))
abbrev qbJ:Tbl:=(130,SY)::qbI
theorem qGT:aD Tryz.prog qbJ:=aD.cons qW7 qGS
abbrev FX:Ct:=.fn [.int .i64,uM,uM] (none) (fun(t:Int) (a:Rank) (b:Rank)=>.d (.int .i64) (gC t a b))
theorem qLG:aH Tryz.prog 94 FX:=by
 refine aH.fn qGT mixed [] [] rfl rfl ?_;rintro⟨(t:Int),(a:Rank),(b:Rank),_⟩ -;refine⟨[],?_⟩;repeat' (first
  |(
 with_reducible apply Side.mk
 (try dsimp only[cu,aC,aB,gts,loK,hiK,eE,eN])
 (simp only[List.length_append,List.length_cons,List.length_nil];omega))
  |(conv=>whnf
    first
     |with_reducible first|done|exact trivial|refine NilBr.mk (fun h=>?_) ?_|apply aJ|apply aI|refine aK (by kernel_rfl) ?_|apply aL|apply bG|apply bF|apply aR
     |((with_reducible first|apply aT|apply aS|apply bD)<;>intro h<;>(try dsimp only[cu,eE,eN]at h)<;>(try(exfalso;omega)))))
 all_goals(
 with_reducible apply Leaf.mk
 (try dsimp only[cu,aC,aB,gts,eE,eN]at *)
 (
  simp only[orI,gC];grind))
abbrev qbK:Tbl:=(94,FX)::qbJ
theorem qGU:aD Tryz.prog qbK:=aD.cons qLG qGT
abbrev CZ:Ct:=.fn [cE,gN,gN] (some (fun(s:Schema) (a:Rec) (b:Rec)=>(0<=s.2/\s.2<s.1.length))) (fun(s:Schema) (a:Rec) (b:Rec)=>.d (.int .i64) (nE s a b))
theorem qJD:aH Tryz.prog 97 CZ:=by
 refine aH.fn qGU mixed [] [] rfl rfl ?_;rintro⟨(s:Schema),(a:Rec),(b:Rec),_⟩ hpre;replace hpre:=hpre _ rfl;dsimp only[cu]at hpre;have hk:=hpre;refine⟨[],?_⟩;repeat' (first
  |(
 with_reducible apply Side.mk
 (try dsimp only[cu,aC,aB,gts,loK,hiK,eE,eN])
 omega)
  |(conv=>whnf
    first
     |with_reducible first|done|exact trivial|refine NilBr.mk (fun h=>?_) ?_|apply aJ|apply aI|refine aK (by kernel_rfl) ?_|apply aL|apply bG|apply bF|apply aR
     |((with_reducible first|apply aT|apply aS|apply bD)<;>intro h<;>(try dsimp only[cu,eE,eN]at h)<;>(try(exfalso;omega)))))
 all_goals(
 with_reducible apply Leaf.mk
 (try dsimp only[cu,aC,aB,gts,eE,eN]at *)
 rfl)
abbrev qbL:Tbl:=(97,CZ)::qbK
theorem qGV:aD Tryz.prog qbL:=aD.cons qJD qGU
abbrev yC:Ct:=.fn [cE] (some (fun(s:Schema)=>(0<=s.2/\s.2<s.1.length))) (fun(s:Schema)=>.d (.int .i64) (s.1[s.2.toNat]!.2.1))
theorem qAM:aH Tryz.prog 79 yC:=by
 refine aH.fn qGV mixed [] [] rfl rfl ?_;rintro⟨(s:Schema),_⟩ hpre;replace hpre:=hpre _ rfl;dsimp only[cu]at hpre;have hk:=hpre;refine⟨[],?_⟩;repeat' (first
  |(
 with_reducible apply Side.mk
 (try dsimp only[cu,aC,aB,gts,loK,hiK,eE,eN])
 omega)
  |(conv=>whnf
    first
     |with_reducible first|done|exact trivial|refine NilBr.mk (fun h=>?_) ?_|apply aJ|apply aI|refine aK (by kernel_rfl) ?_|apply aL|apply bG|apply bF|apply aR
     |((with_reducible first|apply aT|apply aS|apply bD)<;>intro h<;>(try dsimp only[cu,eE,eN]at h)<;>(try(exfalso;omega)))))
 all_goals(
 with_reducible apply Leaf.mk
 (try dsimp only[cu,aC,aB,gts,eE,eN]at *)
 done)
abbrev qbM:Tbl:=(79,yC)::qbL
theorem qGW:aD Tryz.prog qbM:=aD.cons qAM qGV
abbrev DB:Ct:=.fn [cE,.list gN] (some (fun(s:Schema) (l:List Rec)=>(l.length<=9223372036854775807))) (fun(s:Schema) (l:List Rec)=>.d .bool (cV s l))
theorem qJI:aH Tryz.prog 77 DB:=by
 refine aH.fn qGW mixed [] [] rfl rfl ?_;rintro⟨(s:Schema),(l:List Rec),_⟩ hpre;replace hpre:=hpre _ rfl;dsimp only[cu]at hpre;have hl:=hpre;refine⟨[(0,8,LA.mk [.sl 12 (.int .i64)] (fun y=>Tag 64/\cu [.int .i64] (fun(k:Int)=>(0<=k/\k<=l.length)/\(l.all (nP s)=(l.drop k.toNat).all (nP s))) y) (cu [.int .i64] (fun(k:Int)=>((l.length:Int)-k).toNat)) (cu [.int .i64] (fun(k:Int)=>([]:List (Nat×Nat×LA)))))],?_⟩;repeat' (first
  |(
 with_reducible refine Side.mk ⟨(⟨⟩:Tag 64),?_⟩
 dsimp only[cu,aC,aB,gts,eE,eN]
 refine⟨?_,?_⟩
 ·omega
 ·first
  |simp;done
  |(
  rw[bN _ _ (by omega)]at hv
  rw[hv,List.all_cons,show nP s l[k.toNat]! =true by grind [nP],Bool.true_and]))
  |(
 with_reducible apply Side.mk
 (try dsimp only[cu,aC,aB,gts,loK,hiK,eE,eN])
 first
 |omega
 |(have:=(bC (s:=s) (by assumption)).1;omega))
  |(conv=>whnf
    first
     |with_reducible first|done|exact trivial|refine NilBr.mk (fun h=>?_) ?_|apply aJ|apply aI|refine aK (by kernel_rfl) ?_|apply aL|apply bG|apply bF|apply aR
     |((with_reducible first|apply aT|apply aS|apply bD)<;>intro h<;>(try dsimp only[cu,eE,eN]at h)<;>(try(exfalso;omega)))
     |(
 intro yy (hy:Tag 64/\_)
 obtain⟨(k:Int),_⟩:=yy
 replace hy:=hy.2
 dsimp only[cu,aC,aB,gts,eE,eN]at hy
 obtain⟨hk,hv⟩:=hy)))
 all_goals(
 with_reducible apply Leaf.mk
 (try dsimp only[cu,aC,aB,gts,eE,eN]at *)
 first
 |(
  rw[cV,decide_eq_false (by assumption)];rfl)
 |(
  rw[bN _ _ (by omega)]at hv;rw[cV,hv,List.all_cons,show nP s l[k.toNat]! =false by grind [nP]];simp;done)
 |(
  rw[mS _ _ (by omega)]at hv;rw[cV,hv];simp_all))
abbrev qbN:Tbl:=(77,DB)::qbM
theorem qGX:aD Tryz.prog qbN:=aD.cons qJI qGW
abbrev CO:Ct:=.fn [cE,.list gN] (some (fun(s:Schema) (l:List Rec)=>(l.length<=9223372036854775807))) (fun(s:Schema) (l:List Rec)=>.d .bool (cV s l))
theorem qHX:aH Tryz.prog 96 CO:=by
 refine aH.fn qGX mixed [] [135,167,136] rfl rfl ?_;rintro⟨(s:Schema),(l:List Rec),_⟩ hpre;replace hpre:=hpre _ rfl;dsimp only[cu]at hpre;have hl:=hpre;refine⟨[(167,4,LA.mk [.sl 8 (.int .i64)] (fun y=>Tag 65/\cu [.int .i64] (fun(k:Int)=>(0<=k/\k<=l.length)/\(l.all (nP s)=(l.drop k.toNat).all (nP s))) y) (cu [.int .i64] (fun(k:Int)=>((l.length:Int)-k).toNat)) (cu [.int .i64] (fun(k:Int)=>([]:List (Nat×Nat×LA)))))],?_⟩;repeat' (first
  |(
 with_reducible refine Side.mk ⟨(⟨⟩:Tag 65),?_⟩
 dsimp only[cu,aC,aB,gts,eE,eN]
 refine⟨?_,?_⟩
 ·omega
 ·first
  |simp;done
  |(
  rw[bN _ _ (by omega)]at hv
  rw[hv,List.all_cons,show nP s l[k.toNat]! =true by grind [nP],Bool.true_and]))
  |(
 with_reducible apply Side.mk
 (try dsimp only[cu,aC,aB,gts,loK,hiK,eE,eN])
 first
 |omega
 |(have:=(bC (s:=s) (by assumption)).1;omega))
  |(conv=>whnf
    first
     |with_reducible first|done|exact trivial|refine NilBr.mk (fun h=>?_) ?_|apply aJ|apply aI|refine aK (by kernel_rfl) ?_|apply aL|apply bG|apply bF|apply aR
     |((with_reducible first|apply aT|apply aS|apply bD)<;>intro h<;>(try dsimp only[cu,eE,eN]at h)<;>(try(exfalso;omega)))
     |(
 intro yy (hy:Tag 65/\_)
 obtain⟨(k:Int),_⟩:=yy
 replace hy:=hy.2
 dsimp only[cu,aC,aB,gts,eE,eN]at hy
 obtain⟨hk,hv⟩:=hy)))
 all_goals(
 with_reducible apply Leaf.mk
 (try dsimp only[cu,aC,aB,gts,eE,eN]at *)
 first
 |(
  rw[cV,decide_eq_false (by assumption)];rfl)
 |(
  rw[bN _ _ (by omega)]at hv;rw[cV,hv,List.all_cons,show nP s l[k.toNat]! =false by grind [nP]];simp;omega)
 |(
  rw[mS _ _ (by omega)]at hv;rw[cV,hv];simp_all))
abbrev qUQ:Tbl:=(96,CO)::qbN
theorem WV:aD Tryz.prog qUQ:=aD.cons qHX qGX
abbrev yL:Ct:=.fn [cE,.list gN] (some (fun(s:Schema) (l:List Rec)=>(l.length<=1099511627776))) (fun(s:Schema) (l:List Rec)=>.d .bool (cW s l))
theorem qBC:aH Tryz.prog 38 yL:=by
 refine aH.fn WV mixed [] [] rfl rfl ?_;rintro⟨(s:Schema),(l:List Rec),_⟩ hpre;replace hpre:=hpre _ rfl;dsimp only[cu]at hpre;have hl:=hpre;refine⟨[(0,8,LA.mk [.sl 5 (.int .i64)] (fun y=>Tag 66/\cu [.int .i64] (fun(k:Int)=>(1<=k/\(k<=l.length\/k=1))/\(∀i:Nat,1<=i->i<k.toNat->nE s l[i-1]! l[i]! <0)) y) (cu [.int .i64] (fun(k:Int)=>((l.length:Int)-k).toNat)) (cu [.int .i64] (fun(k:Int)=>([]:List (Nat×Nat×LA)))))],?_⟩;repeat' (first
  |(
 with_reducible refine Side.mk ⟨(⟨⟩:Tag 66),?_⟩
 dsimp only[cu,aC,aB,gts,eE,eN]
 refine⟨?_,?_⟩
 ·omega
 ·first
  |intro i h1 h2;omega
  |(
  intro i h1 h2
  by_cases q:i<k.toNat
  ·exact ha i h1 q
  ·have e:i=k.toNat:=by omega
   subst e;rw[show k.toNat-1=(k-1).toNat by omega];unfold nE;omega))
  |(
 with_reducible apply Side.mk
 (try dsimp only[cu,aC,aB,gts,loK,hiK,eE,eN])
 first
 |omega
 |(exact(bC (dZ (s:=s) (l:=l) (lL (by assumption))).1).2))
  |(conv=>whnf
    first
     |with_reducible first|done|exact trivial|refine NilBr.mk (fun h=>?_) ?_|apply aJ|apply aI|refine aK (by kernel_rfl) ?_|apply aL|apply bG|apply bF|apply aR
     |((with_reducible first|apply aT|apply aS|apply bD)<;>intro h<;>(try dsimp only[cu,eE,eN]at h)<;>(try(exfalso;omega)))
     |(
 intro yy (hy:Tag 66/\_)
 obtain⟨(k:Int),_⟩:=yy
 replace hy:=hy.2
 dsimp only[cu,aC,aB,gts,eE,eN]at hy
 obtain⟨hk,ha⟩:=hy)))
 all_goals(
 with_reducible apply Leaf.mk
 (try dsimp only[cu,aC,aB,gts,eE,eN]at *)
 first
 |(
  rw[cW,qAV (b:=cV s l) (by assumption)];rfl)
 |(
  have q:=qUA (s:=s) (l:=l) (k:=k) (by omega) (by assumption);rw[cW,q,Bool.and_false])
 |(
  have q:=qUB (s:=s) (l:=l) (fun i h1 h2=>ha i h1 (qVR h2 (by omega)));rw[cW,q,lL (b:=cV s l) (by assumption)];rfl))
abbrev qUR:Tbl:=(38,yL)::qUQ
theorem WW:aD Tryz.prog qUR:=aD.cons qBC WV
abbrev xZ:Ct:=.fn [cE,.list gN] (some (fun(s:Schema) (l:List Rec)=>(l.length<=1099511627776))) (fun(s:Schema) (l:List Rec)=>.d .bool (cW s l))
theorem ZA:aH Tryz.prog 50 xZ:=by
 refine aH.fn WW mixed [] [] rfl rfl ?_;rintro⟨(s:Schema),(l:List Rec),_⟩ hpre;replace hpre:=hpre _ rfl;dsimp only[cu]at hpre;have hl:=hpre;refine⟨[(0,8,LA.mk [.sl 5 (.int .i64)] (fun y=>Tag 67/\cu [.int .i64] (fun(k:Int)=>(1<=k/\(k<=l.length\/k=1))/\(∀i:Nat,1<=i->i<k.toNat->nE s l[i-1]! l[i]! <0)) y) (cu [.int .i64] (fun(k:Int)=>((l.length:Int)-k).toNat)) (cu [.int .i64] (fun(k:Int)=>([]:List (Nat×Nat×LA)))))],?_⟩;repeat' (first
  |(
 with_reducible refine Side.mk ⟨(⟨⟩:Tag 67),?_⟩
 dsimp only[cu,aC,aB,gts,eE,eN]
 refine⟨?_,?_⟩
 ·omega
 ·first
  |intro i h1 h2;omega
  |(
  intro i h1 h2
  by_cases q:i<k.toNat
  ·exact ha i h1 q
  ·have e:i=k.toNat:=by omega
   subst e;rw[show k.toNat-1=(k-1).toNat by omega];omega))
  |(
 with_reducible apply Side.mk
 (try dsimp only[cu,aC,aB,gts,loK,hiK,eE,eN])
 first
 |omega
 |(exact(bC (dZ (s:=s) (l:=l) (lL (by assumption))).1).2))
  |(conv=>whnf
    first
     |with_reducible first|done|exact trivial|refine NilBr.mk (fun h=>?_) ?_|apply aJ|apply aI|refine aK (by kernel_rfl) ?_|apply aL|apply bG|apply bF|apply aR
     |((with_reducible first|apply aT|apply aS|apply bD)<;>intro h<;>(try dsimp only[cu,eE,eN]at h)<;>(try(exfalso;omega)))
     |(
 intro yy (hy:Tag 67/\_)
 obtain⟨(k:Int),_⟩:=yy
 replace hy:=hy.2
 dsimp only[cu,aC,aB,gts,eE,eN]at hy
 obtain⟨hk,ha⟩:=hy)))
 all_goals(
 with_reducible apply Leaf.mk
 (try dsimp only[cu,aC,aB,gts,eE,eN]at *)
 first
 |(
  rw[cW,qAV (b:=cV s l) (by assumption)];rfl)
 |(
  have q:=qUA (s:=s) (l:=l) (k:=k) (by omega) (by assumption);rw[cW,q,Bool.and_false])
 |(
  have q:=qUB (s:=s) (l:=l) (fun i h1 h2=>ha i h1 (qVR h2 (by omega)));rw[cW,q,lL (b:=cV s l) (by assumption)];rfl))
abbrev qUS:Tbl:=(50,xZ)::qUR
theorem WX:aD Tryz.prog qUS:=aD.cons ZA WW
abbrev yN:Ct:=.fn [gN,gN] (some (fun(a:Rec) (b:Rec)=>(a.2.length<=9223372036854775807))) (fun(a:Rec) (b:Rec)=>.d .bool (decide (a=b)))
theorem qBH:aH Tryz.prog 76 yN:=by
 refine aH.fn WX mixed [] [] rfl rfl ?_;rintro⟨(a:Rec),(b:Rec),_⟩ hpre;replace hpre:=hpre _ rfl;dsimp only[cu]at hpre;have ha:=hpre;refine⟨[],?_⟩;repeat' (first
  |(
 with_reducible apply Side.mk
 (try dsimp only[cu,aC,aB,gts,loK,hiK,eE,eN])
 omega)
  |(conv=>whnf
    first
     |with_reducible first|done|exact trivial|refine NilBr.mk (fun h=>?_) ?_|apply aJ|apply aI|refine aK (by kernel_rfl) ?_|apply aL|apply bG|apply bF|apply aR
     |((with_reducible first|apply aT|apply aS|apply bD)<;>intro h<;>(try dsimp only[cu,eE,eN]at h)<;>(try(exfalso;omega)))))
 all_goals(
 with_reducible apply Leaf.mk
 (try dsimp only[cu,aC,aB,gts,eE,eN]at *)
 (simp_all [Prod.ext_iff];done))
abbrev qUT:Tbl:=(76,yN)::qUS
theorem WY:aD Tryz.prog qUT:=aD.cons qBH WX
abbrev wM:Ct:=.fn [.list gN,.list gN] (some (fun(a:List Rec) (b:List Rec)=>(a.length<=9223372036854775807)/\(∀i:Nat,a[i]!.2.length<=1099511627776))) (fun(a:List Rec) (b:List Rec)=>.d .bool (decide (a=b)))
theorem WK:aH Tryz.prog 29 wM:=by
 refine aH.fn WY mixed [] [] rfl rfl ?_;rintro⟨(a:List Rec),(b:List Rec),_⟩ hpre;replace hpre:=hpre _ rfl;dsimp only[cu]at hpre;obtain⟨ha,hr⟩:=hpre;refine⟨[(0,8,LA.mk [.sl 13 (.int .i64)] (fun y=>Tag 68/\cu [.int .i64] (fun(k:Int)=>(0<=k/\k<=a.length)/\(a.take k.toNat=b.take k.toNat)) y) (cu [.int .i64] (fun(k:Int)=>((a.length:Int)-k).toNat)) (cu [.int .i64] (fun(k:Int)=>([]:List (Nat×Nat×LA)))))],?_⟩;repeat' (first
  |(
 with_reducible refine Side.mk ⟨(⟨⟩:Tag 68),?_⟩
 dsimp only[cu,aC,aB,gts,eE,eN]
 refine⟨?_,?_⟩
 ·omega
 ·first
  |rfl
  |(
  have e1:k.toNat<a.length:=by omega
  have e2:k.toNat<b.length:=by omega
  have e3:a[k.toNat]! =b[k.toNat]!:=by simp_all
  rw[getElem!_pos a k.toNat e1,getElem!_pos b k.toNat e2]at e3
  rw[show(k+1).toNat=k.toNat+1 by omega,List.take_add_one,List.take_add_one,hs,List.getElem?_eq_getElem e1,List.getElem?_eq_getElem e2,e3]))
  |(
 with_reducible apply Side.mk
 (try dsimp only[cu,aC,aB,gts,loK,hiK,eE,eN])
 first
 |omega
 |(have:=hr k.toNat;omega))
  |(conv=>whnf
    first
     |with_reducible first|done|exact trivial|refine NilBr.mk (fun h=>?_) ?_|apply aJ|apply aI|refine aK (by kernel_rfl) ?_|apply aL|apply bG|apply bF|apply aR
     |((with_reducible first|apply aT|apply aS|apply bD)<;>intro h<;>(try dsimp only[cu,eE,eN]at h)<;>(try(exfalso;omega)))
     |(
 intro yy (hy:Tag 68/\_)
 obtain⟨(k:Int),_⟩:=yy
 replace hy:=hy.2
 dsimp only[cu,aC,aB,gts,eE,eN]at hy
 obtain⟨hk,hs⟩:=hy)))
 all_goals(
 with_reducible apply Leaf.mk
 (try dsimp only[cu,aC,aB,gts,eE,eN]at *)
 first
 |(
  have hab:a=b:=by
   have h2:=hs;rw[List.take_of_length_le (by omega),List.take_of_length_le (by omega)]at h2;exact h2
  rw[decide_eq_true hab])
 |(
  have hne:¬a=b:=fun q=>by subst q;omega
  rw[decide_eq_false hne])
 |(
  have hne:¬a=b:=fun q=>by subst q;simp_all
  rw[decide_eq_false hne]))
abbrev qUU:Tbl:=(29,wM)::qUT
theorem WZ:aD Tryz.prog qUU:=aD.cons WK WY
instance zoneDec:DecidableEq Zone:=fun a b=>decidable_of_iff (a.1=b.1/\a.2.1=b.2.1/\a.2.2.1=b.2.2.1/\a.2.2.2=b.2.2.2) (by simp only[Prod.ext_iff])
instance zonesDec:DecidableEq (List Zone):=@instDecidableEqList Zone zoneDec
instance infoDec:DecidableEq Info:=fun a b=>@decidable_of_iff _ (a.1=b.1/\a.2.1=b.2.1/\a.2.2.1=b.2.2.1/\a.2.2.2=b.2.2.2) (by simp only[Prod.ext_iff]) (@instDecidableAnd _ _ _ (@instDecidableAnd _ _ (zonesDec _ _) _))
abbrev SV:Ct:=.fn [.list lO,.list lO] (some (fun(a:List Zone) (b:List Zone)=>(a.length<=9223372036854775807))) (fun(a:List Zone) (b:List Zone)=>.d .bool (decide (a=b)))
theorem qWB:aH Tryz.prog 52 SV:=by
 refine aH.fn WZ mixed [] [] rfl rfl ?_;rintro⟨(a:List Zone),(b:List Zone),_⟩ hpre;replace hpre:=hpre _ rfl;dsimp only[cu]at hpre;have ha:=hpre;refine⟨[(0,8,LA.mk [.sl 13 (.int .i64)] (fun y=>Tag 69/\cu [.int .i64] (fun(k:Int)=>(0<=k/\k<=a.length)/\(a.take k.toNat=b.take k.toNat)) y) (cu [.int .i64] (fun(k:Int)=>((a.length:Int)-k).toNat)) (cu [.int .i64] (fun(k:Int)=>([]:List (Nat×Nat×LA)))))],?_⟩;repeat' (first
  |(
 with_reducible refine Side.mk ⟨(⟨⟩:Tag 69),?_⟩
 dsimp only[cu,aC,aB,gts,eE,eN]
 refine⟨?_,?_⟩
 ·omega
 ·first
  |rfl
  |(
  have e1:k.toNat<a.length:=by omega
  have e2:k.toNat<b.length:=by omega
  have e3:a[k.toNat]! =b[k.toNat]!:=by simp_all [Prod.ext_iff]
  rw[getElem!_pos a k.toNat e1,getElem!_pos b k.toNat e2]at e3
  rw[show(k+1).toNat=k.toNat+1 by omega,List.take_add_one,List.take_add_one,hs,List.getElem?_eq_getElem e1,List.getElem?_eq_getElem e2,e3]))
  |(
 with_reducible apply Side.mk
 (try dsimp only[cu,aC,aB,gts,loK,hiK,eE,eN])
 first
 |omega
 |(kernel_rfl))
  |(conv=>whnf
    first
     |with_reducible first|done|exact trivial|refine NilBr.mk (fun h=>?_) ?_|apply aJ|apply aI|refine aK (by kernel_rfl) ?_|apply aL|apply bG|apply bF|apply aR
     |((with_reducible first|apply aT|apply aS|apply bD)<;>intro h<;>(try dsimp only[cu,eE,eN]at h)<;>(try(exfalso;omega)))
     |(
 intro yy (hy:Tag 69/\_)
 obtain⟨(k:Int),_⟩:=yy
 replace hy:=hy.2
 dsimp only[cu,aC,aB,gts,eE,eN]at hy
 obtain⟨hk,hs⟩:=hy)))
 all_goals(
 with_reducible apply Leaf.mk
 (try dsimp only[cu,aC,aB,gts,eE,eN]at *)
 first
 |(
  have hab:a=b:=by
   have h2:=hs;rw[List.take_of_length_le (by omega),List.take_of_length_le (by omega)]at h2;exact h2
  rw[decide_eq_true hab])
 |(
  have hne:¬a=b:=fun q=>by subst q;omega
  rw[decide_eq_false hne])
 |(
  have hne:¬a=b:=fun q=>by subst q;simp_all
  rw[decide_eq_false hne]))
abbrev qUV:Tbl:=(52,SV)::qUU
theorem XA:aD Tryz.prog qUV:=aD.cons qWB WZ
abbrev GW:Ct:=.fn [cE,.list gN] (some (fun(s:Schema) (l:List Rec)=>(l.length<=1099511627776))) (fun(s:Schema) (l:List Rec)=>.d (.list gN) (EC s l))
theorem qOY:aH Tryz.prog 34 GW:=by
 refine aH.fn XA mixed [] [] rfl rfl ?_;rintro⟨(s:Schema),(l:List Rec),_⟩ hpre;replace hpre:=hpre _ rfl;dsimp only[cu]at hpre;have hl:=hpre;refine⟨[(0,10,LA.mk [.sl 16 (.int .i64),.lst 5 gN 56] (fun y=>Tag 70/\cu [.int .i64,.list gN] (fun(k:Int) (O:List Rec)=>(0<=k/\k<=l.length)/\(O=(l.take k.toNat).foldl (kU s) [])/\((O.length:Int)=k)) y) (cu [.int .i64,.list gN] (fun(k:Int) (O:List Rec)=>((l.length:Int)-k).toNat)) (cu [.int .i64,.list gN] (fun(k:Int) (O:List Rec)=>([(0,16,LA.mk [.sl 8 (.int .i64)] (fun y=>Tag 71/\cu [.int .i64] (fun(j:Int)=>(0<=j/\j<=O.length)/\(oS s l[k.toNat]! O O.length=oS s l[k.toNat]! O j.toNat)) y) (cu [.int .i64] (fun(j:Int)=>j.toNat)) (cu [.int .i64] (fun(j:Int)=>([]:List (Nat×Nat×LA)))))]:List (Nat×Nat×LA)))))],?_⟩;repeat' (first
  |(
 with_reducible refine Side.mk ⟨(⟨⟩:Tag 70),?_⟩
 dsimp only[cu,aC,aB,gts,eE,eN]
 refine⟨?_,?_,?_⟩
 ·omega
 ·first
  |rfl
  |(
  have e:=qM0 hi (by omega) (by first|exact Or.inl (by omega)|exact Or.inr (by assumption))
  rw[vV l k (by omega),List.foldl_append,<-ho]
  show _=kU s O l[k.toNat]!
  rw[kU,e]
  first|(exact qYS (by omega))|(exact qYT (by omega))|(exact qYU (by omega) (by omega))|(exact qYV (by omega) (by omega)))
 ·first
  |simp;done
  |(simp only[qD7,List.length_append,List.length_cons,List.length_nil,List.length_take,List.length_drop];omega))
  |(
 with_reducible refine Side.mk ⟨(⟨⟩:Tag 71),?_⟩
 dsimp only[cu,aC,aB,gts,eE,eN]
 refine⟨?_,?_⟩
 ·omega
 ·first
  |rfl
  |(
  rw[hi]
  exact qM1 (by omega) (by assumption)))
  |(
 with_reducible apply Side.mk
 (try dsimp only[cu,aC,aB,gts,loK,hiK,eE,eN])
 first
 |done
 |omega
 |exact Eq.refl _
 |simp only[List.length_append,List.length_cons,List.length_nil];omega
 |exact(bC (dZ (s:=s) (l:=l) (lL (by assumption))).1).2
 |(simp only[qD7,List.length_append,List.length_cons,List.length_nil,List.length_take,List.length_drop];omega))
  |(conv=>whnf
    first
     |with_reducible first|done|exact trivial|refine NilBr.mk (fun h=>?_) ?_|apply aJ|apply aI|refine aK (by kernel_rfl) ?_|apply aL|apply bG|apply bF|apply aR
     |((with_reducible first|apply aT|apply aS|apply bD)<;>intro h<;>(try dsimp only[cu,eE,eN]at h)<;>(try(exfalso;omega)))
     |(
 intro yy (hy:Tag 70/\_)
 obtain⟨(k:Int),(O:List Rec),_⟩:=yy
 replace hy:=hy.2
 dsimp only[cu,aC,aB,gts,eE,eN]at hy
 obtain⟨hk,ho,hol⟩:=hy)
     |(
 intro yy (hy:Tag 71/\_)
 obtain⟨(j:Int),_⟩:=yy
 replace hy:=hy.2
 dsimp only[cu,aC,aB,gts,eE,eN]at hy
 obtain⟨hj,hi⟩:=hy)))
 all_goals(
 with_reducible apply Leaf.mk
 (try dsimp only[cu,aC,aB,gts,eE,eN]at *)
 first
 |rw[EC,if_neg (by rw[qAV (b:=cV s l) (by assumption)];exact Bool.noConfusion)]
 |(rw[EC,if_pos (lL (b:=cV s l) (by assumption)),ho,List.take_of_length_le (by omega)]))
abbrev qUW:Tbl:=(34,GW)::qUV
theorem XB:aD Tryz.prog qUW:=aD.cons qOY XA
abbrev tFr:Ty:=.pair .str (.pair (.int .i64) .bool)
abbrev Fr:Type:=ByteArray×Int×Bool
@[reducible] instance:Inhabited Fr:=instInhabitedDen tFr
abbrev qO:Col:=(⟨#[115,101,113]⟩,1,0,false)
def iV (s:Schema) (i:Int):Col:=if i=s.1.length then qO else s.1[i.toNat]!
def iO (r:Fr) (m:Int):Int×Fr:=if r.2.2=true\/(aA r.1 r.2.1).2.2≠0\/(aA r.1 r.2.1).1>m then(0,(r.1,r.2.1,true))else((aA r.1 r.2.1).1,(r.1,(aA r.1 r.2.1).2.1,false))
def nO (r:Fr) (c:Col):Rank×Fr:=if r.2.2=true\/(dN r.1 r.2.1).2.2≠0\/bE c (dN r.1 r.2.1).1≠0 then(pI,(r.1,r.2.1,true))else(((dN r.1 r.2.1).1,(iO (r.1,(dN r.1 r.2.1).2.1,false) 1099511627776).1),(iO (r.1,(dN r.1 r.2.1).2.1,false) 1099511627776).2)
def sZ (r:Fr) (c:Col) (rows:Int):Zone×Fr:=((gG r.1 r.2.1).1,(r.1,(gG r.1 r.2.1).2.1,r.2.2||(decide ((gG r.1 r.2.1).2.2≠0)||(!lJ c (gG r.1 r.2.1).1||decide ((gG r.1 r.2.1).1.1≠rows)))))
def fO (l:List Int):Int:=l.foldr (fun a b=>a+b) 0
theorem vU {l:List Int} {k:Int} (h:0<=k/\k<l.length):fO (l.take (k+1).toNat)=fO (l.take k.toNat)+l[k.toNat]!:=by
 have e:∀a b:List Int,fO (a++b)=fO a+fO b:=fun a b=>by
  induction a with
  |nil=>simp [fO]
  |cons x a ih=>simp only[fO,List.cons_append,List.foldr_cons]at ih ⊢;omega
 rw[vV l k h,e];simp [fO]
def qDE (n:Nat) (l:List Int):Prop:=∀k:Int,0<=k->k<l.length->0<=l[k.toNat]! /\0<=fO (l.take k.toNat)/\4+fO (l.take k.toNat)+l[k.toNat]! <=n
def zK (file:ByteArray) (l:List Int) (i:Int):ByteArray:=file.extract (4+fO (l.take i.toNat)).toNat (4+fO (l.take i.toNat)+l[i.toNat]!).toNat
def jR (s:Schema) (file:ByteArray) (rows:Int) (l:List Int) (i:Int):List Val×Int:=if(jV (iV s i) (zK file l i)).2≠0 then([],(jV (iV s i) (zK file l i)).2)else if(jV (iV s i) (zK file l i)).1.length≠rows then([],2)else((jV (iV s i) (zK file l i)).1,0)
def fI (s:Schema) (l:List Rec):List Nat->List Zone:=fun r=>r.map fun i=>pJ s.1[i]!.2.1 (eZ l i)
def DM (s:Schema) (l:List Rec):Info:=((l.length:Int),fI s l (List.range s.1.length),fK s l[0]!,fK s l[l.length-1]!)
def kJ (s:Schema) (f:ByteArray) (a:Int):Rank×Int×Bool:=if(dN f a).2.2≠0\/bE s.1[s.2.toNat]! (dN f a).1≠0 then(pI,0,false)else if(aA f (dN f a).2.1).2.2≠0\/(aA f (dN f a).2.1).1>1099511627776 then(pI,0,false)else(((dN f a).1,(aA f (dN f a).2.1).1),(aA f (dN f a).2.1).2.1,true)
abbrev LM:Ct:=.fn [.str] (some (fun(s:ByteArray)=>(4<=s.size/\s.size<=4611686018427387904))) (fun(s:ByteArray)=>.d (.int .u32) (dA s 0))
theorem qSE:aH Tryz.prog 88 LM:=by
 refine aH.fn XB mixed [(0,1,2),(0,1,5),(0,1,10),(0,1,15)] [] rfl rfl ?_;rintro⟨(s:ByteArray),_⟩ hpre;replace hpre:=hpre _ rfl;dsimp only[cu]at hpre;have hs:=hpre;refine⟨[],?_⟩;repeat' (first
  |(
 with_reducible apply Side.mk
 (try dsimp only[cu,aC,aB,gts,loK,hiK,eE,eN])
 first
 |omega
 |(
  have h0:=cI s (Int.toNat 0);have h1:=cI s (Int.toNat 1);have h2:=cI s (Int.toNat 2);have h3:=cI s (Int.toNat 3);omega))
  |(conv=>whnf
    first
     |with_reducible first|done|exact trivial|refine NilBr.mk (fun h=>?_) ?_|apply aJ|apply aI|refine aK (by kernel_rfl) ?_|apply aL|apply bG|apply bF|apply aR
     |((with_reducible first|apply aT|apply aS|apply bD)<;>intro h<;>(try dsimp only[cu,eE,eN]at h)<;>(try(exfalso;omega)))))
 all_goals(
 with_reducible apply Leaf.mk
 (try dsimp only[cu,aC,aB,gts,eE,eN]at *)
 rfl)
abbrev qUX:Tbl:=(88,LM)::qUW
theorem XC:aD Tryz.prog qUX:=aD.cons qSE XB
abbrev LO:Ct:=.fn [] (none) (.d rI qO)
theorem qSI:aH Tryz.prog 114 LO:=by
 refine aH.fn XC mixed [] [] rfl rfl ?_;rintro⟨⟩ -;refine⟨[],?_⟩;repeat' (first
  |(
 with_reducible apply Side.mk
 (try dsimp only[cu,aC,aB,gts,loK,hiK,eE,eN])
 done)
  |(conv=>whnf
    first
     |with_reducible first|done|exact trivial|refine NilBr.mk (fun h=>?_) ?_|apply aJ|apply aI|refine aK (by kernel_rfl) ?_|apply aL|apply bG|apply bF|apply aR
     |((with_reducible first|apply aT|apply aS|apply bD)<;>intro h<;>(try dsimp only[cu,eE,eN]at h)<;>(try(exfalso;omega)))))
 all_goals(
 with_reducible apply Leaf.mk
 (try dsimp only[cu,aC,aB,gts,eE,eN]at *)
 done)
abbrev qUY:Tbl:=(114,LO)::qUX
theorem XD:aD Tryz.prog qUY:=aD.cons qSI XC
abbrev GV:Ct:=.fn [] (none) (.d rI qO)
theorem qOX:aH Tryz.prog 42 GV:=by
 refine aH.fn XD mixed [] [] rfl rfl ?_;rintro⟨⟩ -;refine⟨[],?_⟩;repeat' (first
  |(
 with_reducible apply Side.mk
 (try dsimp only[cu,aC,aB,gts,loK,hiK,eE,eN])
 done)
  |(conv=>whnf
    first
     |with_reducible first|done|exact trivial|refine NilBr.mk (fun h=>?_) ?_|apply aJ|apply aI|refine aK (by kernel_rfl) ?_|apply aL|apply bG|apply bF|apply aR
     |((with_reducible first|apply aT|apply aS|apply bD)<;>intro h<;>(try dsimp only[cu,eE,eN]at h)<;>(try(exfalso;omega)))))
 all_goals(
 with_reducible apply Leaf.mk
 (try dsimp only[cu,aC,aB,gts,eE,eN]at *)
 done)
abbrev qUZ:Tbl:=(42,GV)::qUY
theorem XE:aD Tryz.prog qUZ:=aD.cons qOX XD
abbrev LL:Ct:=.fn [cE,.int .i64] (some (fun(s:Schema) (i:Int)=>(0<=i/\i<=s.1.length))) (fun(s:Schema) (i:Int)=>.d rI (iV s i))
theorem qSD:aH Tryz.prog 67 LL:=by
 refine aH.fn XE mixed [] [] rfl rfl ?_;rintro⟨(s:Schema),(i:Int),_⟩ hpre;replace hpre:=hpre _ rfl;dsimp only[cu]at hpre;have hi:=hpre;refine⟨[],?_⟩;repeat' (first
  |(
 with_reducible apply Side.mk
 (try dsimp only[cu,aC,aB,gts,loK,hiK,eE,eN])
 omega)
  |(conv=>whnf
    first
     |with_reducible first|done|exact trivial|refine NilBr.mk (fun h=>?_) ?_|apply aJ|apply aI|refine aK (by kernel_rfl) ?_|apply aL|apply bG|apply bF|apply aR
     |((with_reducible first|apply aT|apply aS|apply bD)<;>intro h<;>(try dsimp only[cu,eE,eN]at h)<;>(try(exfalso;omega)))))
 all_goals(
 with_reducible apply Leaf.mk
 (try dsimp only[cu,aC,aB,gts,eE,eN]at *)
 first
 |rw[iV,if_pos (by assumption)]
 |(rw[iV,if_neg (by assumption)]))
abbrev qU0:Tbl:=(67,LL)::qUZ
theorem XF:aD Tryz.prog qU0:=aD.cons qSD XE
abbrev LB:Ct:=.meth tFr 134 [.int .i64] (some (fun(r:Fr) (m:Int)=>(r.1.size<=4611686018427387904)/\(0<=m/\m<=4611686018427387904))) (fun(r:Fr) (m:Int)=>.d (.int .i64) ((iO r m).1)) (fun(r:Fr) (m:Int)=>(iO r m).2)
theorem qRM:aH Tryz.prog 91 LB:=by
 refine aH.meth XF mixed [] [] rfl rfl ?_;rintro(r:Fr) ⟨(m:Int),_⟩ hpre;replace hpre:=hpre _ rfl;dsimp only[cu]at hpre;obtain⟨hs,hm⟩:=hpre;refine⟨[],?_⟩;repeat' (first
  |(
 with_reducible apply Side.mk
 (try dsimp only[cu,aC,aB,gts,loK,hiK,eE,eN])
 first
 |omega
 |(
  have hg:=bB r.1 r.2.1;have hm:=aY (n:=m) (by omega);omega))
  |(conv=>whnf
    first
     |with_reducible first|done|exact trivial|refine NilBr.mk (fun h=>?_) ?_|apply aJ|apply aI|refine aK (by kernel_rfl) ?_|apply aL|apply bG|apply bF|apply aR
     |((with_reducible first|apply aT|apply aS|apply bD)<;>intro h<;>(try dsimp only[cu,eE,eN]at h)<;>(try(exfalso;omega)))))
 all_goals(
 with_reducible apply Leaf.mk
 (try dsimp only[cu,aC,aB,gts,eE,eN]at *)
 first
 |(
  have hg:=bB r.1 r.2.1;have hw:=aY (n:=m) (by omega);first
  |(
   simp_all [iO];done)
  |(
   have h2:=h;rw[hw]at h2;first
   |(
    rw[iO,if_neg (by grind)];done)
   |(
    rw[iO,if_neg (by grind),decide_eq_false h];done))))
abbrev qU1:Tbl:=(91,LB)::qU0
theorem XG:aD Tryz.prog qU1:=aD.cons qRM XF
abbrev FZ:Ct:=.meth tFr 134 [rI] (some (fun(r:Fr) (c:Col)=>(r.1.size<=4611686018427387904))) (fun(r:Fr) (c:Col)=>.d uM ((nO r c).1)) (fun(r:Fr) (c:Col)=>(nO r c).2)
theorem qMQ:aH Tryz.prog 93 FZ:=by
 refine aH.meth XG mixed [] [] rfl rfl ?_;rintro(r:Fr) ⟨(c:Col),_⟩ hpre;replace hpre:=hpre _ rfl;dsimp only[cu]at hpre;have hs:=hpre;refine⟨[],?_⟩;repeat' (first
  |(
 with_reducible apply Side.mk
 (try dsimp only[cu,aC,aB,gts,loK,hiK,eE,eN])
 omega)
  |(conv=>whnf
    first
     |with_reducible first|done|exact trivial|refine NilBr.mk (fun h=>?_) ?_|apply aJ|apply aI|refine aK (by kernel_rfl) ?_|apply aL|apply bG|apply bF|apply aR
     |((with_reducible first|apply aT|apply aS|apply bD)<;>intro h<;>(try dsimp only[cu,eE,eN]at h)<;>(try(exfalso;omega)))))
 all_goals(
 with_reducible apply Leaf.mk
 (try dsimp only[cu,aC,aB,gts,eE,eN]at *)
 (
  simp_all [nO];done))
abbrev qU2:Tbl:=(93,FZ)::qU1
theorem XH:aD Tryz.prog qU2:=aD.cons qMQ XG
abbrev GA:Ct:=.meth tFr 134 [rI,.int .i64] (some (fun(r:Fr) (c:Col) (rows:Int)=>(r.1.size<=4611686018427387904))) (fun(r:Fr) (c:Col) (rows:Int)=>.d lO ((sZ r c rows).1)) (fun(r:Fr) (c:Col) (rows:Int)=>(sZ r c rows).2)
theorem qMU:aH Tryz.prog 92 GA:=by
 refine aH.meth XH mixed [] [] rfl rfl ?_;rintro(r:Fr) ⟨(c:Col),(rows:Int),_⟩ hpre;replace hpre:=hpre _ rfl;dsimp only[cu]at hpre;have hs:=hpre;refine⟨[],?_⟩;repeat' (first
  |(
 with_reducible apply Side.mk
 (try dsimp only[cu,aC,aB,gts,loK,hiK,eE,eN])
 omega)
  |(conv=>whnf
    first
     |with_reducible first|done|exact trivial|refine NilBr.mk (fun h=>?_) ?_|apply aJ|apply aI|refine aK (by kernel_rfl) ?_|apply aL|apply bG|apply bF|apply aR
     |((with_reducible first|apply aT|apply aS|apply bD)<;>intro h<;>(try dsimp only[cu,eE,eN]at h)<;>(try(exfalso;omega)))))
 all_goals(
 with_reducible apply Leaf.mk
 (try dsimp only[cu,aC,aB,gts,eE,eN]at *)
 (
  simp_all [sZ];done))
abbrev qU3:Tbl:=(92,GA)::qU2
theorem XI:aD Tryz.prog qU3:=aD.cons qMU XH
abbrev GG:Ct:=.fn [cE,.str,.int .i64,.list (.int .i64),.int .i64] (some (fun(s:Schema) (file:ByteArray) (rows:Int) (sizes:List Int) (i:Int)=>(0<=i/\i<sizes.length/\i<=s.1.length/\sizes.length<=4096)/\(file.size<=288230376151711744/\qDE file.size sizes))) (fun(s:Schema) (file:ByteArray) (rows:Int) (sizes:List Int) (i:Int)=>.tup [.list bS,.int .i64] ((jR s file rows sizes i).1,(jR s file rows sizes i).2,()))
theorem qNK:aH Tryz.prog 49 GG:=by
 refine aH.fn XI mixed [] [] rfl rfl ?_;rintro⟨(s:Schema),(file:ByteArray),(rows:Int),(sizes:List Int),(i:Int),_⟩ hpre;replace hpre:=hpre _ rfl;dsimp only[cu]at hpre;obtain⟨hi,hp⟩:=hpre;refine⟨[(0,6,LA.mk [.sl 21 (.int .i64),.sl 12 (.int .i64)] (fun y=>Tag 72/\cu [.int .i64,.int .i64] (fun(k:Int) (w:Int)=>(0<=k/\k<=i)/\(w=4+fO (sizes.take k.toNat))) y) (cu [.int .i64,.int .i64] (fun(k:Int) (w:Int)=>((i:Int)-k).toNat)) (cu [.int .i64,.int .i64] (fun(k:Int) (w:Int)=>([]:List (Nat×Nat×LA)))))],?_⟩;repeat' (first
  |(
 with_reducible refine Side.mk ⟨(⟨⟩:Tag 72),?_⟩
 dsimp only[cu,aC,aB,gts,eE,eN]
 refine⟨?_,?_⟩
 ·omega
 ·first
  |(
  simp [fO]
  done)
  |(
  have e:(sizes.take i.toNat)[k.toNat]! =sizes[k.toNat]!:=mL sizes i.toNat k.toNat (by omega)
  have ho:=hp.2 k (by omega) (by omega)
  rw[e,hat,vU (by omega)]
  omega))
  |(
 with_reducible apply Side.mk
 (try dsimp only[cu,aC,aB,gts,loK,hiK,eE,eN])
 first
 |omega
 |(
  have e:(sizes.take i.toNat)[k.toNat]! =sizes[k.toNat]!:=mL sizes i.toNat k.toNat (by omega);have ho:=hp.2 k (by omega) (by omega);rw[e];omega)
 |(
  have hki:k=i:=by omega
  subst hki;have ho:=hp.2 k (by omega) (by omega);first
  |omega
  |(
   rw[ByteArray.size_extract];omega)))
  |(conv=>whnf
    first
     |with_reducible first|done|exact trivial|refine NilBr.mk (fun h=>?_) ?_|apply aJ|apply aI|refine aK (by kernel_rfl) ?_|apply aL|apply bG|apply bF|apply aR
     |((with_reducible first|apply aT|apply aS|apply bD)<;>intro h<;>(try dsimp only[cu,eE,eN]at h)<;>(try(exfalso;omega)))
     |(
 intro yy (hy:Tag 72/\_)
 obtain⟨(k:Int),(w:Int),_⟩:=yy
 replace hy:=hy.2
 dsimp only[cu,aC,aB,gts,eE,eN]at hy
 obtain⟨hk,hat⟩:=hy
 have hlt:(sizes.take i.toNat).length=i.toNat:=by rw[List.length_take];omega)))
 all_goals(
 with_reducible apply Leaf.mk
 (try dsimp only[cu,aC,aB,gts,eE,eN]at *)
 (
  have hki:k=i:=by omega
  subst hki;subst hat;simp_all [jR,zK];done))
abbrev qU4:Tbl:=(49,GG)::qU3
theorem XJ:aD Tryz.prog qU4:=aD.cons qNK XI
theorem tM {l:List Rec} {n:Int} (h:1<=n/\n<=12):((pU l n).length:Int)=n/\∀k:Nat,(k:Int)<n->(pU l n)[k]! =eZ l k:=by
 rw[pU,if_neg (by omega)];refine⟨by rw[List.length_map,List.length_range];omega,fun k hk=>?_⟩;have q:k<((List.range n.toNat).map (eZ l)).length:=by rw[List.length_map,List.length_range];omega
 rw[getElem!_pos _ k q,List.getElem_map,List.getElem_range]
theorem EI {s:Schema} {l:List Rec} {k:Int} (h:0<=k):fI s l (List.range (k+1).toNat)=fI s l (List.range k.toNat)++ [pJ s.1[k.toNat]!.2.1 (eZ l k.toNat)]:=by
 rw[show(k+1).toNat=k.toNat+1 by omega,List.range_succ,fI,List.map_append];rfl
abbrev KX:Ct:=.fn [cE,.list gN] (some (fun(s:Schema) (l:List Rec)=>(1<=l.length/\l.length<=1073741824)/\(1<=s.1.length/\s.1.length<=12))) (fun(s:Schema) (l:List Rec)=>.d qEB (DM s l))
theorem qQ7:aH Tryz.prog 51 KX:=by
 refine aH.fn XJ mixed [] [] rfl rfl ?_;rintro⟨(s:Schema),(l:List Rec),_⟩ hpre;replace hpre:=hpre _ rfl;dsimp only[cu]at hpre;obtain⟨hl,hs⟩:=hpre;refine⟨[(0,6,LA.mk [.sl 30 (.int .i64),.row 2 [.same,.own lO 67,.same,.same,.same,.same,.same,.same,.same,.same]] (fun y=>Tag 73/\cu [.int .i64,.list lO] (fun(k:Int) (Z:List Zone)=>(0<=k/\k<=(s.1.length:Int))/\(Z=fI s l (List.range k.toNat))/\((Z.length:Int)=k)) y) (cu [.int .i64,.list lO] (fun(k:Int) (Z:List Zone)=>(((s.1.length:Int):Int)-k).toNat)) (cu [.int .i64,.list lO] (fun(k:Int) (Z:List Zone)=>([]:List (Nat×Nat×LA)))))],?_⟩;repeat' (first
  |(
 with_reducible refine Side.mk ⟨(⟨⟩:Tag 73),?_⟩
 dsimp only[cu,aC,aB,gts,eE,eN]
 refine⟨?_,?_,?_⟩
 ·omega
 ·first
  |rfl
  |(
  obtain⟨hcl,hce⟩:=tM (l:=l) (n:=(s.1.length:Int)) (by omega)
  have hck:=hce k.toNat (by omega)
  show Z++ [pJ s.1[k.toNat]!.2.1 (pU l (s.1.length:Int))[k.toNat]!]=_
  rw[hz,hck,EI (by omega)])
 ·first
  |(
  simp
  done)
  |(
  simp only[List.length_append,List.length_cons,List.length_nil]
  omega))
  |(
 with_reducible apply Side.mk
 (try dsimp only[cu,aC,aB,gts,loK,hiK,eE,eN])
 first
 |done
 |omega
 |exact Eq.refl _
 |simp only[List.length_append,List.length_cons,List.length_nil];omega
 |(
  obtain⟨hcl,hce⟩:=tM (l:=l) (n:=(s.1.length:Int)) (by omega);have hck:=hce k.toNat (by omega);show(pU l (s.1.length:Int))[k.toNat]!.length<=_;rw[hck,eZ,List.length_map];omega))
  |(conv=>whnf
    first
     |with_reducible first|done|exact trivial|refine NilBr.mk (fun h=>?_) ?_|apply aJ|apply aI|refine aK (by kernel_rfl) ?_|apply aL|apply bG|apply bF|apply aR
     |((with_reducible first|apply aT|apply aS|apply bD)<;>intro h<;>(try dsimp only[cu,eE,eN]at h)<;>(try(exfalso;omega)))
     |(
 intro yy (hy:Tag 73/\_)
 obtain⟨(k:Int),(Z:List Zone),_⟩:=yy
 replace hy:=hy.2
 dsimp only[cu,aC,aB,gts,eE,eN]at hy
 obtain⟨hk,hz,hzl⟩:=hy
 have hcl:=(tM (l:=l) (n:=(s.1.length:Int)) (by omega)).1)))
 all_goals(
 with_reducible apply Leaf.mk
 (try dsimp only[cu,aC,aB,gts,eE,eN]at *)
 (
  have h2:¬k<(pU l (s.1.length:Int)).length:=h;show((l.length:Int),Z,fK s l[0]!,fK s l[((l.length:Int)-1).toNat]!)=_;rw[DM,hz,show k.toNat=s.1.length by omega,show((l.length:Int)-1).toNat=l.length-1 by omega]))
abbrev qU5:Tbl:=(51,KX)::qU4
theorem XK:aD Tryz.prog qU5:=aD.cons qQ7 XJ
def dQ (l:List Rec):List Val:=l.map fun r=>((false,r.1,⟨#[]⟩):Val)
def fE (r:Rank):ByteArray:=zO r.1++aV (put r.2)
theorem qBJ {l:List Rec} {k:Int} (h:0<=k/\k<l.length):dQ (l.take (k+1).toNat)=dQ (l.take k.toNat)++ [((false,l[k.toNat]!.1,⟨#[]⟩):Val)]:=by
 rw[vV l k h,dQ,List.map_append];rfl
abbrev MF:Ct:=.fn [.list gN] (some (fun(l:List Rec)=>(l.length<=1099511627776))) (fun(l:List Rec)=>.d (.list bS) (dQ l))
theorem qTL:aH Tryz.prog 43 MF:=by
 refine aH.fn XK mixed [] [] rfl rfl ?_;rintro⟨(l:List Rec),_⟩ hpre;replace hpre:=hpre _ rfl;dsimp only[cu]at hpre;have hl:=hpre;refine⟨[(0,6,LA.mk [.sl 8 (.int .i64),.lst 3 bS 43] (fun y=>Tag 74/\cu [.int .i64,.list bS] (fun(k:Int) (M:List Val)=>(0<=k/\k<=l.length)/\(M=dQ (l.take k.toNat))/\((M.length:Int)=k)) y) (cu [.int .i64,.list bS] (fun(k:Int) (M:List Val)=>((l.length:Int)-k).toNat)) (cu [.int .i64,.list bS] (fun(k:Int) (M:List Val)=>([]:List (Nat×Nat×LA)))))],?_⟩;repeat' (first
  |(
 with_reducible refine Side.mk ⟨(⟨⟩:Tag 74),?_⟩
 dsimp only[cu,aC,aB,gts,eE,eN]
 refine⟨?_,?_,?_⟩
 ·omega
 ·first
  |rfl
  |rw[hm,qBJ (by omega)]
 ·first
  |(
  simp
  done)
  |(
  simp only[List.length_append,List.length_cons,List.length_nil]
  omega))
  |(
 with_reducible apply Side.mk
 (try dsimp only[cu,aC,aB,gts,loK,hiK,eE,eN])
 first
 |done
 |omega
 |exact Eq.refl _
 |(simp only[List.length_append,List.length_cons,List.length_nil];omega))
  |(conv=>whnf
    first
     |with_reducible first|done|exact trivial|refine NilBr.mk (fun h=>?_) ?_|apply aJ|apply aI|refine aK (by kernel_rfl) ?_|apply aL|apply bG|apply bF|apply aR
     |((with_reducible first|apply aT|apply aS|apply bD)<;>intro h<;>(try dsimp only[cu,eE,eN]at h)<;>(try(exfalso;omega)))
     |(
 intro yy (hy:Tag 74/\_)
 obtain⟨(k:Int),(M:List Val),_⟩:=yy
 replace hy:=hy.2
 dsimp only[cu,aC,aB,gts,eE,eN]at hy
 obtain⟨hk,hm,hml⟩:=hy)))
 all_goals(
 with_reducible apply Leaf.mk
 (try dsimp only[cu,aC,aB,gts,eE,eN]at *)
 rw[hm,List.take_of_length_le (by omega)])
abbrev qU6:Tbl:=(43,MF)::qU5
theorem XL:aD Tryz.prog qU6:=aD.cons qTL XK
abbrev yI:Ct:=.fn [uM] (some (fun(r:Rank)=>(0<=r.2/\r.2<=1099511627776)/\(inI r.1.2.1/\r.1.2.2.size<=1073741824))) (fun(r:Rank)=>.d .str (fE r))
theorem qA7:aH Tryz.prog 45 yI:=by
 refine aH.fn XL mixed [] [] rfl rfl ?_;rintro⟨(r:Rank),_⟩ hpre;replace hpre:=hpre _ rfl;dsimp only[cu]at hpre;obtain⟨hr,hs⟩:=hpre;refine⟨[],?_⟩;repeat' (first
  |(
 with_reducible apply Side.mk
 (try dsimp only[cu,aC,aB,gts,loK,hiK,eE,eN])
 first
 |omega
 |(
  rw[aY (by omega)];omega)
 |(
  have h1:=vP (v:=r.1);have h2:=bM (IntKind.u64.wrap r.2);simp only[bP];omega))
  |(conv=>whnf
    first
     |with_reducible first|done|exact trivial|refine NilBr.mk (fun h=>?_) ?_|apply aJ|apply aI|refine aK (by kernel_rfl) ?_|apply aL|apply bG|apply bF|apply aR
     |((with_reducible first|apply aT|apply aS|apply bD)<;>intro h<;>(try dsimp only[cu,eE,eN]at h)<;>(try(exfalso;omega)))))
 all_goals(
 with_reducible apply Leaf.mk
 (try dsimp only[cu,aC,aB,gts,eE,eN]at *)
 rw[fE,aY (by omega)])
abbrev qU7:Tbl:=(45,yI)::qU6
theorem XM:aD Tryz.prog qU7:=aD.cons qA7 XL
abbrev GL:Ct:=.fn [.list gN,.int .i64] (some (fun(l:List Rec) (n:Int)=>(l.length<=1099511627776))) (fun(l:List Rec) (n:Int)=>.d (.list (.list bS)) (pU l n))
theorem qOA:aH Tryz.prog 27 GL:=by
 refine aH.fn XM mixed [] [] rfl rfl ?_;rintro⟨(l:List Rec),(n:Int),_⟩ hpre;replace hpre:=hpre _ rfl;dsimp only[cu]at hpre;have hl:=hpre;refine⟨[(0,10,LA.mk [.sl 6 (.int .i64),.lst 5 (.list bS) 52] (fun y=>Tag 75/\cu [.int .i64,.list (.list bS)] (fun(k:Int) (O:List (List Val))=>(0<=k/\k<=n)/\(O=(List.range k.toNat).map (eZ l))/\((O.length:Int)=k)) y) (cu [.int .i64,.list (.list bS)] (fun(k:Int) (O:List (List Val))=>(n-k).toNat)) (cu [.int .i64,.list (.list bS)] (fun(k:Int) (O:List (List Val))=>([(0,18,LA.mk [.sl 23 (.int .i64),.lst 7 bS 43] (fun y=>Tag 76/\cu [.int .i64,.list bS] (fun(j:Int) (M:List Val)=>(0<=j/\j<=l.length)/\(M=eZ (l.take j.toNat) k.toNat)/\((M.length:Int)=j)) y) (cu [.int .i64,.list bS] (fun(j:Int) (M:List Val)=>((l.length:Int)-j).toNat)) (cu [.int .i64,.list bS] (fun(j:Int) (M:List Val)=>([]:List (Nat×Nat×LA)))))]:List (Nat×Nat×LA)))))],?_⟩;repeat' (first
  |(
 with_reducible refine Side.mk ⟨(⟨⟩:Tag 75),?_⟩
 dsimp only[cu,aC,aB,gts,eE,eN]
 refine⟨?_,?_,?_⟩
 ·omega
 ·first
  |rfl
  |(
  rw[ho,hm,List.take_of_length_le (by omega),show(k+1).toNat=k.toNat+1 by omega,List.range_succ,List.map_append]
  rfl)
 ·first
  |(
  simp
  done)
  |(
  simp only[List.length_append,List.length_cons,List.length_nil]
  omega))
  |(
 with_reducible refine Side.mk ⟨(⟨⟩:Tag 76),?_⟩
 dsimp only[cu,aC,aB,gts,eE,eN]
 refine⟨?_,?_,?_⟩
 ·omega
 ·first
  |rfl
  |(
  rw[hm,vV l j (by omega)]
  simp only[eZ,List.map_append,List.map_cons,List.map_nil,atV]
  first|(rw[if_pos (by omega)]
         done)|(rw[if_neg (by omega)]
                done))
 ·first
  |(
  simp
  done)
  |(
  simp only[List.length_append,List.length_cons,List.length_nil]
  omega))
  |(
 with_reducible apply Side.mk
 (try dsimp only[cu,aC,aB,gts,loK,hiK,eE,eN])
 first
 |done
 |omega
 |exact Eq.refl _
 |(simp only[List.length_append,List.length_cons,List.length_nil];omega))
  |(conv=>whnf
    first
     |with_reducible first|done|exact trivial|refine NilBr.mk (fun h=>?_) ?_|apply aJ|apply aI|refine aK (by kernel_rfl) ?_|apply aL|apply bG|apply bF|apply aR
     |((with_reducible first|apply aT|apply aS|apply bD)<;>intro h<;>(try dsimp only[cu,eE,eN]at h)<;>(try(exfalso;omega)))
     |(
 intro yy (hy:Tag 75/\_)
 obtain⟨(k:Int),(O:List (List Val)),_⟩:=yy
 replace hy:=hy.2
 dsimp only[cu,aC,aB,gts,eE,eN]at hy
 obtain⟨hk,ho,hol⟩:=hy)
     |(
 intro yy (hy:Tag 76/\_)
 obtain⟨(j:Int),(M:List Val),_⟩:=yy
 replace hy:=hy.2
 dsimp only[cu,aC,aB,gts,eE,eN]at hy
 obtain⟨hj,hm,hml⟩:=hy)))
 all_goals(
 with_reducible apply Leaf.mk
 (try dsimp only[cu,aC,aB,gts,eE,eN]at *)
 first
 |rw[pU,if_pos (by omega)]
 |(rw[pU,if_neg (by omega),ho,show k=n by omega]))
abbrev qU8:Tbl:=(27,GL)::qU7
theorem XN:aD Tryz.prog qU8:=aD.cons qOA XM
end Go.Proofs.YtcjiefknhfhmkaaGreatDoor
namespace Go.Abs
set_option maxRecDepth 100000
set_option maxHeartbeats 4000000
set_option linter.unusedVariables false
set_option linter.unusedSimpArgs false
theorem Rep.ext {w:World} {ι ι2:Iota} {M M2:Nat->Prop} (hi:∀i l,ι i=some l->ι2 i=some l) (hm:∀b,M2 b->M b) {x:V} {y:Value} (r:Rep w ι M x y):Rep w ι2 M2 x y:=by
 induction r with
 |v x=>exact .v x
 |any x=>exact .any x
 |pF row off b o cells hb hn hc _ ih=>exact .pF row off b o cells hb (fun q=>hn (hm _ q)) hc ih
 |pO id row off l hl=>exact .pO id row off l (hi _ _ hl)
 |sF sz rows a cap cells hb hcap hr hc _ ih=>exact .sF sz rows a cap cells (fun hne=>let ⟨h1,h2,h3⟩:=hb hne;⟨h1,h2,fun q=>h3 (hm _ q)⟩) hcap hr hc ih
 |sN sz=>exact .sN sz
 |sO id off len cap l c e fr hl h1 h2 h3=>exact .sO id off len cap l c e fr (hi _ _ hl) h1 h2 h3
 |agg xs vs hl _ ih=>exact .agg xs vs hl ih
 |tup xs vs hl _ ih=>exact .tup xs vs hl ih
 |fn f first caps vs us h1 h2 _ _ ih1 ih2=>exact .fn f first caps vs us h1 h2 ih1 ih2
 |ifc t x y _ ih=>exact .ifc t x y ih
 |sL t l y _ ih=>exact .sL t l y ih
 |oL id n y _ ih=>exact .oL id n y ih
structure Out (σ N:List Nat) (k:Heap) (h':Heap) (k':Heap) (τ:List Nat):Prop where
 len:τ.length=k'.length
 le:k.length<=k'.length
 other:∀i:Nat,i<k.length->¬i∈σ->¬i∈N->τ[i]? =some (List.length h')/\k'[i]? =k[i]?
 old:∀j i:Nat,σ[j]? =some i->τ[i]? =some j
 obj:∀i:Nat,(i∈σ\/(i∈N\/k.length<=i))->i<k'.length->∃m x z,τ[i]? =some m/\h'[m]? =some x/\k'[i]? =some z/\kX τ x z
 inj:∀(i1 i2 m:Nat) (o1 o2:AObj),(i1∈σ\/(i1∈N\/k.length<=i1))->(i2∈σ\/(i2∈N\/k.length<=i2))->k'[i1]? =some (.live o1)->k'[i2]? =some (.live o2)->τ[i1]? =some m->τ[i2]? =some m->i1=i2
theorem PC.liftN {P:Program} {f:FuncId} {args0 args:List V} {h0 k:Heap} {σ N:List Nat} {R:V->Heap->Prop} {y':V} {k':Heap} (hσ:σ.Nodup) (hN:∀i,i∈N->k[i]? =some .free) (hl0:h0.length=σ.length)
  (hobj:∀(j i:Nat),σ[j]? =some i->∃x y,k[i]? =some y/\h0[j]? =some x/\kX σ y x) (harg:Pairs (cF σ) args args0) (hc:PC P f args0 h0 R)
  (hout:∀y h',R y h'->∃τ,Out σ N k h' k' τ/\cF τ y y'):PC P f args k (fun y k2=>y=y'/\k2=k'):=by
 intro ι w vals hp H;let X0:Nat->Prop:=fun b=>Mt k ι b/\¬Ob h0 (ι.ren σ) b
 let ι0:Iota:={at':=(ι.ren σ).at',X:=X0}
 have e0:∀j,ι0 j=(ι.ren σ) j:=fun _=>rfl
 have at0:∀(j i:Nat),σ[j]? =some i->ι0 j=ι i:=by intro j i h;rw[e0];simp [Iota.ren,h]
 have ob0:∀b,Ob h0 ι0 b↔Ob h0 (ι.ren σ) b:=fun b=>Iff.rfl
 have getσ:∀(j:Nat) (o:AObj),h0[j]? =some (.live o)->∃i oc,σ[j]? =some i/\k[i]? =some (.live oc)/\RenL σ oc o:=by
  intro j o h;have hj:j<σ.length:=by rw[<-hl0];exact aN h
  obtain⟨x,y,h1,h2,h3⟩:=hobj j σ[j] (List.getElem?_eq_getElem hj);rw[h]at h2;injection h2 with h2;subst h2;obtain⟨oc,rfl,h4⟩:=h3.2 o rfl;exact⟨σ[j],oc,List.getElem?_eq_getElem hj,h1,h4⟩
 have obk:∀b,Ob h0 ι0 b->Ob k ι b:=by
  rintro b ⟨j,o,l,h1,h2,h3⟩;obtain⟨i,oc,g1,g2,_⟩:=getσ j o h1;rw[at0 j i g1]at h2;exact⟨i,oc,l,g2,h2,h3⟩
 have mt0:∀b,Mt h0 ι0 b->Mt k ι b:=fun b q=>q.elim (fun q=>q.1) (fun q=>.inr (obk b q))
 have mlt:∀b,Mt k ι b->b<w.heap.size:=by
  rintro b (q|q)
  ·exact H.xlt b q
  ·exact H.blk_lt q
 have rep0:∀ {x y:V} {z:Value},cF σ x y->Rep w ι (Mt k ι) x z->Rep w ι0 (Mt h0 ι0) y z:=fun hr r=>
  Rep.ext (ι:=ι.ren σ) (ι2:=ι0) (fun i l q=>q) (fun b q=>q) (hr w ι _ _ mt0 _ r)
 have H0:HRel h0 ι0 w:=by
  refine⟨fun j o ho=>?_,fun j hj=>?_,fun j hj=>?_,fun j1 o1 l1 j2 o2 l2 a1 a2 b1 b2 hb=>?_,fun b q=>mlt b q.1,fun b q r=>q.2 r⟩
  ·obtain⟨i,oc,g1,g2,g3⟩:=getσ j o ho
   obtain⟨l,c,fr,h1,la⟩:=H.live i oc g2;refine⟨l,c,fr,(at0 j i g1).trans h1,⟨by rw[<-g3.elem];exact la.blk,by rw[<-g3.elem,<-g3.sz];exact la.unfrozen,by rw[<-g3.sz];exact la.sz,fun r' hr'=>?_,by rw[<-g3.sz,<-g3.len];exact la.fits,fun a ha b hb=>?_⟩⟩
   ·obtain⟨a,ha,e⟩:=List.getElem_of_mem hr'
    have ha1:a<oc.rows.length:=by rw[g3.len];exact ha
    have u:=g3.rows a _ _ (List.getElem?_eq_getElem ha1) (List.getElem?_eq_getElem ha);rw[<-e,<-u.1,<-g3.sz];exact la.rows _ (List.getElem_mem ha1)
   ·have ha1:a<oc.rows.length:=by rw[g3.len];exact ha
    have u:=g3.rows a _ _ (List.getElem?_eq_getElem ha1) (List.getElem?_eq_getElem ha);have hb1:b<oc.rows[a].length:=by rw[u.1];exact hb
    obtain⟨z,z1,z2⟩:=la.reads a ha1 b hb1;exact⟨z,by rw[<-g3.sz];exact z1,rep0 (u.2 b _ _ (List.getElem?_eq_getElem hb1) (List.getElem?_eq_getElem hb)) z2⟩
  ·exfalso
   have hj':j<σ.length:=by rw[<-hl0];exact aN hj
   obtain⟨x,y,h1,h2,h3⟩:=hobj j σ[j] (List.getElem?_eq_getElem hj');rw[hj]at h2;injection h2 with h2;subst h2;exact h3.1 rfl
  ·have:σ[j]? =none:=List.getElem?_eq_none (by rw[<-hl0];exact hj)
   rw[e0];simp [Iota.ren,this]
  ·obtain⟨i1,p1,g1,g2,_⟩:=getσ j1 o1 a1
   obtain⟨i2,p2,f1,f2,_⟩:=getσ j2 o2 b1;rw[at0 j1 i1 g1]at a2;rw[at0 j2 i2 f1]at b2;have:=H.apart _ _ _ _ _ _ g2 a2 f2 b2 hb;subst this;have h1:=aN g1;have h2:=aN f1;rw[List.getElem?_eq_getElem h1]at g1;injection g1 with g1;rw[List.getElem?_eq_getElem h2]at f1;injection f1 with f1;have hpw:=List.pairwise_iff_getElem.1 hσ;rcases Nat.lt_trichotomy j1 j2 with q|q|q
   ·exact absurd (g1.trans f1.symm) (hpw j1 j2 h1 h2 q)
   ·exact q
   ·exact absurd (f1.trans g1.symm) (hpw j2 j1 h2 h1 q)
 have hp0:PW2 w ι0 (Mt h0 ι0) args0 vals:=by
  refine⟨harg.1.symm.trans hp.1,fun i y hy=>?_⟩;have hi:i<args.length:=by rw[harg.1];exact aN hy
  obtain⟨z,z1,z2⟩:=hp.2 i _ (List.getElem?_eq_getElem hi);exact⟨z,z1,rep0 (harg.2 i _ _ (List.getElem?_eq_getElem hi) hy) z2⟩
 refine(hc ι0 w vals hp0 H0).mono ?_;rintro e w' ⟨z,y,h',ι',rfl,hR,rz,H',ev⟩;obtain⟨τ,O,hy⟩:=hout y h' hR;have hX:ι'.X=X0:=ev.away;have dec:∀i,Decidable (i∈σ\/(i∈N\/k.length<=i)):=fun i=>inferInstance
 let ι2:Iota:={at':=fun i=>(match τ[i]? with
  |some m=>if i∈σ\/(i∈N\/k.length<=i)then ι' m else ι i
  |none=>none),X:=ι.X}
 have at2:∀i m,τ[i]? =some m->(i∈σ\/(i∈N\/k.length<=i))->ι2 i=ι' m:=fun i m h1 h2=>by
  show(match τ[i]? with
   |some m=>if i∈σ\/(i∈N\/k.length<=i)then ι' m else ι i
   |none=>none)=_
  rw[h1];simp only[if_pos h2]
 have at2o:∀i,i<k.length->(¬i∈σ/\¬i∈N)->ι2 i=ι i:=fun i h1 h2=>by
  show(match τ[i]? with
   |some m=>if i∈σ\/(i∈N\/k.length<=i)then ι' m else ι i
   |none=>none)=_
  rw[(O.other i h1 h2.1 h2.2).1];simp only[if_neg (show ¬(i∈σ\/(i∈N\/k.length<=i))by rintro(q|q|q);exact h2.1 q;exact h2.2 q;omega)]
 have side:∀i,i<k'.length->(i<k.length/\(¬i∈σ/\¬i∈N))\/(i∈σ\/(i∈N\/k.length<=i)):=fun i _=>by
  by_cases h1:i∈σ
  ·exact .inr (.inl h1)
  ·by_cases h3:i∈N
   ·exact .inr (.inr (.inl h3))
   ·rcases Nat.lt_or_ge i k.length with h2|h2
    ·exact .inl ⟨h2,h1,h3⟩
    ·exact .inr (.inr (.inr h2))
 have ext2:∀i l,(ι'.ren τ) i=some l->ι2 i=some l:=by
  intro i l h;have hi:i<k'.length:=by
   rcases Nat.lt_or_ge i k'.length with q|q
   ·exact q
   ·rw[<-O.len]at q
    simp [Iota.ren,List.getElem?_eq_none q]at h
  rcases side i hi with⟨h1,h2⟩|h1
  ·rw[show(ι'.ren τ) i=none by simp [Iota.ren,(O.other i h1 h2.1 h2.2).1];exact H'.out _ (Nat.le_refl _)]at h
   cases h
  ·obtain⟨m,x,zz,g1,_⟩:=O.obj i h1 hi
   rw[at2 i m g1 h1,<-h];simp [Iota.ren,g1]
 have obO:∀b,Ob k' ι2 b->(Ob k ι b/\¬Ob h0 ι0 b)\/Ob h' ι' b:=by
  rintro b ⟨i,o,l,g1,g2,g3⟩;rcases side i (aN g1)with⟨h1,h2⟩|h1
  ·rw[(O.other i h1 h2.1 h2.2).2]at g1
   rw[at2o i h1 h2]at g2;refine .inl ⟨⟨i,o,l,g1,g2,g3⟩,?_⟩;rintro⟨j,o2,l2,f1,f2,f3⟩;obtain⟨i2,oc,d1,d2,_⟩:=getσ j o2 f1;rw[at0 j i2 d1]at f2;have:=H.apart _ _ _ _ _ _ g1 g2 d2 f2 (by rw[g3,f3]);subst this;exact h2.1 (cJ d1)
  ·obtain⟨m,x,zz,d1,d2,d3,d4⟩:=O.obj i h1 (aN g1)
   rw[g1]at d3;injection d3 with d3;subst d3;obtain⟨ox,rfl,_⟩:=d4.2 o rfl;rw[at2 i m d1 h1]at g2;exact .inr ⟨m,ox,l,d2,g2,g3⟩
 have x0:∀b,ι.X b->X0 b:=fun b q=>⟨.inl q,fun r=>H.xob b q (obk b r)⟩
 have mt2:∀b,Mt k' ι2 b->Mt h' ι' b:=by
  rintro b (q|q)
  ·exact .inl (by rw[hX];exact x0 b q)
  ·rcases obO b q with⟨q1,q2⟩|q1
   ·exact .inl (by rw[hX];exact⟨.inr q1,q2⟩)
   ·exact .inr q1
 have ev2:Evolve k ι w k' ι2 w':=by
  refine⟨ev.os,ev.tape,ev.output,ev.size,fun i l hl=>?_,rfl,fun b hb hn=>?_,ev.sizes⟩
  ·have hi:i<k.length:=by
     rcases Nat.lt_or_ge i k.length with q|q
     ·exact q
     ·rw[H.out i q]at hl;cases hl
   by_cases h1:i∈σ
   ·obtain⟨j,hj,rfl⟩:=List.getElem_of_mem h1
    have hs:=List.getElem?_eq_getElem hj;rw[at2 _ j (O.old j _ hs) (.inl h1)];exact ev.iota j l ((at0 j _ hs).trans hl)
   ·by_cases h3:i∈N
    ·rw[H.free i (hN i h3)]at hl;cases hl
    ·rw[at2o i hi ⟨h1,h3⟩];exact hl
  ·have hn0:¬Ob h0 ι0 b:=fun q=>hn (obk b q)
   obtain⟨g1,g2⟩:=ev.frame b hb hn0;refine⟨g1,fun q=>?_⟩;rcases obO b q with⟨q1,_⟩|q1
   ·exact hn q1
   ·exact g2 q1
 have rep2:∀ {x y:V} {v:Value},cF τ x y->Rep w' ι' (Mt h' ι') x v->Rep w' ι2 (Mt k' ι2) y v:=fun hr r=>
  Rep.ext ext2 (fun b q=>q) (hr w' ι' _ _ mt2 _ r)
 refine⟨z,y',k',ι2,rfl,⟨rfl,rfl⟩,rep2 hy rz,?_,ev2⟩;refine⟨fun i o ho=>?_,fun i hi=>?_,fun i hi=>?_,fun i1 o1 l1 i2 o2 l2 a1 a2 b1 b2 hb=>?_,fun b hb=>Nat.lt_of_lt_of_le (H.xlt b hb) ev.size,fun b hb q=>?_⟩
 ·rcases side i (aN ho)with⟨h1,h2⟩|h1
  ·have hok:=ho
   rw[(O.other i h1 h2.1 h2.2).2]at hok;obtain⟨l,c,fr,g1,la⟩:=H.live i o hok;have hob:Ob k ι l.blk:=⟨i,o,l,hok,g1,rfl⟩
   have hn0:¬Ob h0 ι0 l.blk:=by
    rintro⟨j,o2,l2,f1,f2,f3⟩;obtain⟨i2,oc,d1,d2,_⟩:=getσ j o2 f1;rw[at0 j i2 d1]at f2;have:=H.apart _ _ _ _ _ _ hok g1 d2 f2 f3.symm;subst this;exact h2.1 (cJ d1)
   refine⟨l,c,fr,(at2o i h1 h2).trans g1,⟨((ev.frame _ (H.blk_lt hob) hn0).1).trans la.blk,la.unfrozen,la.sz,la.rows,la.fits,fun a ha b hb=>?_⟩⟩;obtain⟨v,v1,v2⟩:=la.reads a ha b hb;exact⟨v,v1,v2.mono ev2⟩
  ·obtain⟨m,x,zz,d1,d2,d3,d4⟩:=O.obj i h1 (aN ho)
   rw[ho]at d3;injection d3 with d3;subst d3;obtain⟨ox,rfl,g3⟩:=d4.2 o rfl;obtain⟨l,c,fr,g1,la⟩:=H'.live m ox d2;refine⟨l,c,fr,(at2 i m d1 h1).trans g1,⟨by rw[<-g3.elem];exact la.blk,by rw[<-g3.elem,<-g3.sz];exact la.unfrozen,by rw[<-g3.sz];exact la.sz,fun r' hr'=>?_,by rw[<-g3.sz,<-g3.len];exact la.fits,fun a ha b hb=>?_⟩⟩
   ·obtain⟨a,ha,e⟩:=List.getElem_of_mem hr'
    have ha1:a<ox.rows.length:=by rw[g3.len];exact ha
    have u:=g3.rows a _ _ (List.getElem?_eq_getElem ha1) (List.getElem?_eq_getElem ha);rw[<-e,<-u.1,<-g3.sz];exact la.rows _ (List.getElem_mem ha1)
   ·have ha1:a<ox.rows.length:=by rw[g3.len];exact ha
    have u:=g3.rows a _ _ (List.getElem?_eq_getElem ha1) (List.getElem?_eq_getElem ha);have hb1:b<ox.rows[a].length:=by rw[u.1];exact hb
    obtain⟨v,v1,v2⟩:=la.reads a ha1 b hb1;exact⟨v,by rw[<-g3.sz];exact v1,rep2 (u.2 b _ _ (List.getElem?_eq_getElem hb1) (List.getElem?_eq_getElem hb)) v2⟩
 ·rcases side i (aN hi)with⟨h1,h2⟩|h1
  ·rw[(O.other i h1 h2.1 h2.2).2]at hi
   rw[at2o i h1 h2];exact H.free i hi
  ·exfalso
   obtain⟨m,x,zz,d1,d2,d3,d4⟩:=O.obj i h1 (aN hi);rw[hi]at d3;injection d3 with d3;subst d3;exact d4.1 rfl
 ·show(match τ[i]? with
    |some m=>if i∈σ\/(i∈N\/k.length<=i)then ι' m else ι i
    |none=>none)=_
  rw[List.getElem?_eq_none (by rw[O.len];exact hi)]
 ·rcases side i1 (aN a1)with⟨h1,h2⟩|h1<;>rcases side i2 (aN b1)with⟨f1,f2⟩|f1
  ·rw[(O.other i1 h1 h2.1 h2.2).2]at a1
   rw[(O.other i2 f1 f2.1 f2.2).2]at b1;rw[at2o i1 h1 h2]at a2;rw[at2o i2 f1 f2]at b2;exact H.apart _ _ _ _ _ _ a1 a2 b1 b2 hb
  ·exfalso
   have q:Ob k' ι2 l1.blk:=⟨i1,o1,l1,a1,a2,rfl⟩
   rw[(O.other i1 h1 h2.1 h2.2).2]at a1;rw[at2o i1 h1 h2]at a2;obtain⟨m,x,zz,d1,d2,d3,d4⟩:=O.obj i2 f1 (aN b1);rw[b1]at d3;injection d3 with d3;subst d3;obtain⟨ox,rfl,_⟩:=d4.2 o2 rfl;rw[at2 i2 m d1 f1]at b2;have hx:X0 l1.blk:=by
    refine⟨.inr ⟨i1,o1,l1,a1,a2,rfl⟩,?_⟩;rintro⟨j,o3,l3,g1,g2,g3⟩;obtain⟨i3,oc,e1,e2,_⟩:=getσ j o3 g1;have g2':ι i3=some l3:=(at0 j i3 e1).symm.trans g2;have:=H.apart _ _ _ _ _ _ a1 a2 e2 g2' g3.symm;subst this;exact h2.1 (cJ e1)
   exact H'.xob _ (by rw[hX];exact hx) ⟨m,ox,l2,d2,b2,hb.symm⟩
  ·exfalso
   rw[(O.other i2 f1 f2.1 f2.2).2]at b1;rw[at2o i2 f1 f2]at b2;obtain⟨m,x,zz,d1,d2,d3,d4⟩:=O.obj i1 h1 (aN a1);rw[a1]at d3;injection d3 with d3;subst d3;obtain⟨ox,rfl,_⟩:=d4.2 o1 rfl;rw[at2 i1 m d1 h1]at a2;have hx:X0 l2.blk:=by
    refine⟨.inr ⟨i2,o2,l2,b1,b2,rfl⟩,?_⟩;rintro⟨j,o3,l3,g1,g2,g3⟩;obtain⟨i3,oc,e1,e2,_⟩:=getσ j o3 g1;have g2':ι i3=some l3:=(at0 j i3 e1).symm.trans g2;have:=H.apart _ _ _ _ _ _ b1 b2 e2 g2' g3.symm;subst this;exact f2.1 (cJ e1)
   exact H'.xob _ (by rw[hX];exact hx) ⟨m,ox,l1,d2,a2,hb⟩
  ·obtain⟨m1,x1,z1,d1,d2,d3,d4⟩:=O.obj i1 h1 (aN a1)
   obtain⟨m2,x2,z2,c1,c2,c3,c4⟩:=O.obj i2 f1 (aN b1);rw[a1]at d3;injection d3 with d3;subst d3;rw[b1]at c3;injection c3 with c3;subst c3;obtain⟨ox1,rfl,_⟩:=d4.2 o1 rfl;obtain⟨ox2,rfl,_⟩:=c4.2 o2 rfl;rw[at2 i1 m1 d1 h1]at a2;rw[at2 i2 m2 c1 f1]at b2;have:=H'.apart _ _ _ _ _ _ d2 a2 c2 b2 hb;subst this;exact O.inj i1 i2 _ o1 o2 h1 f1 a1 b1 d1 c1
 ·rcases obO b q with⟨q1,_⟩|q1
  ·exact H.xob b hb q1
  ·exact H'.xob b (by rw[hX];exact x0 b hb) q1
def qRJ (P:Program) (rs:List ResultVar) (n:Nat) (l:List Int) (e eb:TypeId) (m:Nat) (x:Exit) (s:Y):Prop:=
 match s with
 |⟨sl,h,_,_⟩=>match x with
  | .ret=>(match ares P rs sl (dens h),pR e eb h 0 with
    |some y,some (true,cs,some j,l')=>needs cs (Kern (Nat.ble m j&&Nat.ble m h.length)/\(Leaf (y=wrR n)/\(Leaf (l'=l)/\True)))
    |_,_=>False)
  |_=>False
theorem qCJ {P:Program} {rs:List ResultVar} {n m:Nat} {l:List Int} {e eb:TypeId} {x:Exit} {s:Y} (h:qRJ P rs n l e eb m x s):(x = .normal\/x = .ret)/\ares P rs s.sl (dens s.h)=some (wrR n)/\∃cs j,pR e eb s.h 0=some (true,cs,some j,l)/\dI cs/\m<=j/\m<=s.h.length:=by
 obtain⟨sl,hp,tch,an⟩:=s;simp only[qRJ]at h;split at h
 ·split at h
  ·rename_i y cs j l' hy hr
   obtain⟨hc,⟨hk⟩,⟨rfl⟩,⟨rfl⟩,_⟩:=bO h;simp only[Bool.and_eq_true]at hk;exact⟨.inr rfl,hy,cs,j,hr,hc,Nat.le_of_ble_eq_true hk.1,Nat.le_of_ble_eq_true hk.2⟩
  ·exact h.elim
 ·exact h.elim
theorem wW {e eb:TypeId} {h:List XO} {i:Nat} {b:Bool} {cs:List Bool} {j:Option Nat} {l:List Int} (hr:pR e eb h i=some (b,cs,j,l)) (hc:dI cs) :
  ∃c1,h[i]? =some (.raw (.live ⟨2,[[rF i b,c1]],eb⟩))/\((j=none/\l= []/\c1 = .v (.slice none 0 0))\/∃k,j=some k/\c1 = .oL k l.length/\h[k]? =some (.opt (.int .u8) l e)):=by
 unfold pR at hr;split at hr
 ·rename_i o ho
  split at hr
  ·rename_i c0 c1 hrow
   split at hr
   ·rename_i b' hb hz
    have ho':∀b2,c0=rF i b2->h[i]? =some (.raw (.live ⟨2,[[rF i b2,c1]],eb⟩)):=by
     intro b2 q;simp only[Bool.and_eq_true]at hz;have z1:=Nat.eq_of_beq_eq_true hz.1;have z2:=El.is_eq hz.2;rw[ho];obtain⟨sz,rows,el⟩:=o;(try simp only at z1 z2 hrow);subst z1 z2 hrow q;rfl
    have hself:c0=rF i b':=by
     unfold IW at hb;split at hb
     ·injection hb with hb;subst hb;rfl
     ·split at hb
      ·rename_i q
       have q:=Nat.eq_of_beq_eq_true q;injection hb with hb;subst hb q;rfl
      ·cases hb
     ·cases hb
    split at hr
    ·rename_i j' n
     split at hr
     ·rename_i t l' e' hj'
      split at hr
      ·rename_i l'' hl he
       injection hr with hr;injection hr with e1 hr;injection hr with e2 hr;injection hr with e3 e4;subst e1 e2 e3 e4;have hn:n=l''.length:=of_decide_eq_true (hc _ (by simp));obtain⟨et,el⟩:=iT hl;have he:=Nat.eq_of_beq_eq_true he;subst et;subst el he;exact⟨_,ho' _ hself,.inr ⟨_,rfl,by rw[hn],hj'⟩⟩
      ·cases hr
     ·cases hr
    ·injection hr with hr;injection hr with e1 hr;injection hr with e2 hr;injection hr with e3 e4;subst e1 e2 e3 e4
     exact⟨_,ho' _ hself,.inl ⟨rfl,rfl,rfl⟩⟩
    ·cases hr
   ·cases hr
  ·cases hr
 ·cases hr
theorem cF.self {σ:List Nat} {i k:Nat} (b:Bool) (h:σ[k]? =some i):cF σ (rF i b) (rF k b):=by
 cases b with
 |true=>exact cF.pO 0 0 h
 |false=>exact cF.tree (LE.refl _) (.v _)
theorem kX.two {σ:List Nat} {a b c d:V} {eb:TypeId} (h1:cF σ a c) (h2:cF σ b d):kX σ (.live ⟨2,[[a,b]],eb⟩) (.live ⟨2,[[c,d]],eb⟩):=
 ⟨by simp,fun o' q=>by
   injection q with q;subst q;refine⟨_,rfl,⟨rfl,rfl,rfl,fun m r r' g1 g2=>?_⟩⟩;match m,g1,g2 with
   |0,g1,g2=>
    simp at g1 g2;subst g1 g2;refine⟨rfl,fun n x y g3 g4=>?_⟩;match n,g3,g4 with
    |0,g3,g4=>simp at g3 g4;subst g3 g4;exact h1
    |1,g3,g4=>simp at g3 g4;subst g3 g4;exact h2
    |n+2,g3,g4=>simp at g3
   |m+1,g1,g2=>simp at g1⟩
theorem qHB.lift {P:Program} {f:FuncId} {e eb:TypeId} {h:List XO} {i new:Nat} {s:ByteArray} {b:Bool} {l l2:List Int} {j:Option Nat} {c1:V} (hi:h[i]? =some (.raw (.live ⟨2,[[rF i b,c1]],eb⟩)))
  (hj:∀k,j=some k->k≠i/\h[k]? =some (.opt (.int .u8) l e)) (hnew:h[new]? =some (.raw .free)) (c0:V) (hc0:cF (i::kB j []) c1 c0)
  (hc:PC P f [.pO 0 0 0,.v (.string s)] (.live ⟨2,[[rF 0 b,c0]],eb⟩::(match j with|some _=>[(XO.opt (.int .u8) l e).den]|none=>[]))
    (fun y k=>y=wrR s.size/\∃(hs:List XO) (cs:List Bool) (jj:Nat),k=dens hs/\pR e eb hs 0=some (true,cs,some jj,l2)/\dI cs/\(i::kB j []).length<=jj/\(i::kB j []).length<=hs.length)) :
  PC P f [.pO i 0 0,.v (.string s)] (dens h) (fun y k=>y=wrR s.size/\k=dens ((cK (h.set i (FR eb i new l2.length)) j).set new (.opt (.int .u8) l2 e))):=by
 have hni:new≠i:=by intro q;subst q;rw[hi]at hnew;cases hnew
 have hnj:∀k,j=some k->new≠k:=by intro k hk q;subst q;rw[(hj _ hk).2]at hnew;cases hnew
 have hilt:=aN hi;have hnlt:=aN hnew;have hnd:(i::kB j []).Nodup:=by
  cases j with
  |none=>simp [kB]
  |some k=>simp only[kB,List.nodup_cons,List.mem_cons,List.not_mem_nil,or_false,not_false_eq_true,List.nodup_nil,and_true];exact Ne.symm (hj k rfl).1
 have hs0:(i::kB j [])[0]? =some i:=rfl;refine PC.liftN (σ:=i::kB j []) (N:=[new]) hnd (fun x hx=>?_) ?_ (fun a c hac=>?_) ?_ hc ?_
 ·simp only[List.mem_cons,List.not_mem_nil,or_false]at hx
  subst hx;rw[aM,hnew];rfl
 ·cases j<;>rfl
 ·match a,hac with
  |0,hac=>
   have hac:i=c:=by simpa using hac
   subst hac;refine⟨_,_,by rw[aM,hi];rfl,rfl,kX.two (cF.self b hs0) hc0⟩
  |a+1,hac=>
   cases j with
   |none=>simp [kB]at hac
   |some k=>
    match a,hac with
    |0,hac=>
     have hac:k=c:=by simpa [kB]using hac
     subst hac;exact⟨_,_,by rw[aM,(hj k rfl).2];rfl,rfl,kX.opt _ _ _⟩
    |a+1,hac=>simp [kB]at hac
 ·refine⟨rfl,fun m x y h1 h2=>?_⟩
  match m,h1,h2 with
  |0,h1,h2=>simp at h1 h2;subst h1 h2;exact cF.pO 0 0 hs0
  |1,h1,h2=>simp at h1 h2;subst h1 h2;exact cF.tree (LE.refl _) (.v _)
  |m+2,h1,h2=>simp at h1
 rintro y k ⟨rfl,hs,cs,jj,rfl,hr,hcs,hjj,hlen⟩;obtain⟨d1,r1,r2⟩:=wW hr hcs;obtain⟨k2,q,rfl,r3⟩:∃k2,some jj=some k2/\d1 = .oL k2 l2.length/\hs[k2]? =some (.opt (.int .u8) l2 e):=by
  rcases r2 with⟨q,_⟩|r2
  ·cases q
  ·exact r2
 injection q with q;subst q;let g:Nat->Nat:=fun x=>if x=i then 0 else if x=new then jj else if j=some x then 1 else hs.length
 have gi:g i=0:=by simp [g]
 have gn:g new=jj:=by simp [g,hni]
 have gj:∀k,j=some k->g k=1:=fun k hk=>by simp [g,(hj k hk).1,Ne.symm (hnj k hk),hk]
 have go:∀x,x≠i->x≠new->j≠some x->g x=hs.length:=fun x h1 h2 h3=>by simp [g,h1,h2,h3]
 have hL:(dens ((cK (h.set i (FR eb i new l2.length)) j).set new (.opt (.int .u8) l2 e))).length=h.length:=by rw[dK];simp [fY]
 have hτ:∀x,x<h.length->((List.range h.length).map g)[x]? =some (g x):=fun x hx=>by simp [hx]
 have ki:(dens ((cK (h.set i (FR eb i new l2.length)) j).set new (.opt (.int .u8) l2 e)))[i]? =some (.live ⟨2,[[.pO i 0 0,.oL new l2.length]],eb⟩):=by
  rw[aM,List.getElem?_set_ne hni,oI (fun k hk=>(hj k hk).1),List.getElem?_set_self hilt];rfl
 have kn:(dens ((cK (h.set i (FR eb i new l2.length)) j).set new (.opt (.int .u8) l2 e)))[new]? =some (XO.opt (.int .u8) l2 e).den:=by
  rw[aM,List.getElem?_set_self (by simpa [fY]using hnlt)];rfl
 have kj:∀k,j=some k->(dens ((cK (h.set i (FR eb i new l2.length)) j).set new (.opt (.int .u8) l2 e)))[k]? =some .dead:=fun k hk=>by
  subst hk;rw[aM,List.getElem?_set_ne (hnj k rfl)];simp only[cK];rw[List.getElem?_set_self (by simpa using aN (hj k rfl).2)];rfl
 have mem:∀x,x∈i::kB j []->x=i\/j=some x:=fun x hx=>by
  rcases List.mem_cons.1 hx with q|q
  ·exact .inl q
  ·cases j with
   |none=>simp [kB]at q
   |some k=>simp [kB]at q;subst q;exact .inr rfl
 have mem2:∀x,j=some x->x∈i::kB j []:=fun x hx=>by subst hx;simp [kB]
 have h2l:∀k,j=some k->2<=jj/\2<=hs.length:=fun k hk=>by subst hk;simp [kB]at hjj hlen;omega
 have h1l:1<=jj/\1<=hs.length:=by simp at hjj hlen;omega
 refine⟨(List.range h.length).map g,⟨by rw[hL];simp,by rw[dK,hL];exact Nat.le_refl _,fun x hx hs1 hs2=>?_,fun a x hx=>?_,fun x hx hlt=>?_,fun x1 x2 m o1 o2 g1 g2 g3 g4 g5 g6=>?_⟩,cF.tree (LE.refl _) (.tup fun z hz=>?_)⟩
 ·rw[dK]at hx
  have n1:x≠i:=fun q=>hs1 (by rw[q];exact List.mem_cons_self ..)
  have n2:x≠new:=fun q=>hs2 (by rw[q];simp)
  have n3:j≠some x:=fun q=>hs1 (mem2 x q)
  refine⟨by rw[hτ x hx,go x n1 n2 n3,dK],?_⟩;rw[aM,aM,List.getElem?_set_ne (Ne.symm n2),oI (fun k hk q=>n3 (by rw[hk,q])),List.getElem?_set_ne (Ne.symm n1)]
 ·match a,hx with
  |0,hx=>have hx:i=x:=by simpa using hx
         subst hx;rw[hτ _ hilt,gi]
  |a+1,hx=>
   cases hj0:j with
   |none=>subst hj0;simp [kB]at hx
   |some k=>
    subst hj0;match a,hx with
    |0,hx=>
     have hx:k=x:=by simpa [kB]using hx
     subst hx;rw[hτ _ (aN (hj k rfl).2),gj k rfl]
    |a+1,hx=>simp [kB]at hx
 ·rw[hL]at hlt
  have cases3:x=i\/j=some x\/x=new:=by
   rcases hx with hx|hx|hx
   ·exact(mem x hx).imp (fun q=>q) .inl
   ·exact .inr (.inr (by simpa using hx))
   ·rw[dK]at hx;omega
  rcases cases3 with rfl|q|rfl
  ·refine⟨0,_,_,by rw[hτ _ hilt,gi],by rw[aM,r1];rfl,ki,kX.two ?_ ?_⟩
   ·exact cF.pO 0 0 (by rw[hτ _ hilt,gi])
   ·exact cF.oL _ (by rw[hτ _ hnlt,gn])
  ·obtain⟨z,hz⟩:∃z,hs[1]? =some z:=⟨_,List.getElem?_eq_getElem (by have:=(h2l x q).2;omega)⟩
   exact⟨1,_,_,by rw[hτ _ hlt,gj x q],by rw[aM,hz];rfl,kj x q,⟨by simp,fun _ q=>by cases q⟩⟩
  ·exact⟨jj,_,_,by rw[hτ _ hnlt,gn],by rw[aM,r3];rfl,kn,kX.opt _ _ _⟩
 ·have live:∀x,(x∈i::kB j []\/(x∈ [new]\/(dens h).length<=x))->∀o,(dens ((cK (h.set i (FR eb i new l2.length)) j).set new (.opt (.int .u8) l2 e)))[x]? =some (.live o)->x=i\/x=new:=by
    intro x hx o ho;rcases hx with hx|hx|hx
    ·rcases mem x hx with q|q
     ·exact .inl q
     ·rw[kj x q]at ho;cases ho
    ·exact .inr (by simpa using hx)
    ·have:=aN ho;rw[hL]at this;rw[dK]at hx;omega
  have t1:∀x,x<h.length->((List.range h.length).map g)[x]? =some m->g x=m:=fun x hx q=>by rw[hτ x hx]at q;injection q
  rcases live x1 g1 o1 g3 with rfl|rfl<;>rcases live x2 g2 o2 g4 with rfl|rfl
  ·rfl
  ·have a1:=t1 _ hilt g5;have a2:=t1 _ hnlt g6;rw[gi]at a1;rw[gn]at a2;omega
  ·have a1:=t1 _ hnlt g5;have a2:=t1 _ hilt g6;rw[gn]at a1;rw[gi]at a2;omega
  ·rfl
 ·simp at hz;rcases hz with rfl|rfl<;>exact .v _
theorem qHB.mk {P:Program} {T:Tbl} {f:FuncId} {fn:Func} {c:Code} {e eb:TypeId} (hT:aD P T) (hM:P.follows .mixedOrders=true) (fl:List (Nat×Nat×Nat)) (I:List Nat)
  (hf:P.funcs[f]? =some fn) (hb:fn.body=some c)
  (h1:∀(b:Bool) (l:List Int) (s:ByteArray),l.length+s.size<=1099511627776->∃an:List (Nat×Nat×LA),fVs (.pO 0 0 0 :: .v (.string s)::List.replicate (fn.ntmps-2) (.v undef)) fun sl=>fH [.raw (.live ⟨2,[[rF 0 b,.oL 1 l.length]],eb⟩),.opt (.int .u8) l e] fun h=>xcode ⟨P,T,2,0,fl,tV P T fl I 4⟩ c ⟨sl,h,[],an⟩
    (qRJ P fn.results.toList s.size (l++aE s) e eb 2))
  (h2:∀(b:Bool) (s:ByteArray),s.size<=1099511627776->∃an:List (Nat×Nat×LA),fVs (.pO 0 0 0 :: .v (.string s)::List.replicate (fn.ntmps-2) (.v undef)) fun sl=>fH [.raw (.live ⟨2,[[rF 0 b,.v (.slice none 0 0)]],eb⟩)] fun h=>xcode ⟨P,T,1,0,fl,tV P T fl I 4⟩ c ⟨sl,h,[],an⟩
    (qRJ P fn.results.toList s.size (aE s) e eb 1)):aH P f (.bld true e eb):=by
 intro h i new s b cs j l hr hcs hn hfree;obtain⟨c1,g1,g2⟩:=wW hr hcs;rcases g2 with⟨rfl,rfl,rfl⟩|⟨k,rfl,rfl,g3⟩
 ·refine qHB.lift (j:=none) (l:=[]) g1 (fun k hk=>by cases hk) hfree (.v (.slice none 0 0)) (cF.tree (LE.refl _) (.v _)) ?_
  obtain⟨an,hw⟩:=h2 b s (by simpa using hn);rw[lX,eP]at hw;refine PC.of_bodyV hf hb _ rfl (fun K hK=>?_);have hw:=kD (E:=⟨P,T,1,0,fl,tV P T fl I 4⟩) hT hM (jH hT hM fl I 4 _ _) c _ _ hw;refine PV.mono hw ?_;rintro e st ⟨s',rfl,q1,_⟩;obtain⟨he,hy,cs',jj,q2,q3,q4,q5⟩:=qCJ q1;exact hK e _ _ he hy ⟨rfl,s'.h,cs',jj,rfl,q2,q3,q4,q5⟩
 ·have hki:k≠i:=by intro q;subst q;rw[g1]at g3;cases g3
  refine qHB.lift (j:=some k) (l:=l) g1 (fun k' hk=>by injection hk with hk;subst hk;exact⟨hki,g3⟩) hfree (.oL 1 l.length) (cF.oL _ rfl) ?_;obtain⟨an,hw⟩:=h1 b l s hn;rw[lX,eP]at hw;refine PC.of_bodyV hf hb _ rfl (fun K hK=>?_);have hw:=kD (E:=⟨P,T,2,0,fl,tV P T fl I 4⟩) hT hM (jH hT hM fl I 4 _ _) c _ _ hw;refine PV.mono hw ?_;rintro e st ⟨s',rfl,q1,_⟩;obtain⟨he,hy,cs',jj,q2,q3,q4,q5⟩:=qCJ q1;exact hK e _ _ he hy ⟨rfl,s'.h,cs',jj,rfl,q2,q3,q4,q5⟩
theorem HRel.killed {h h':Heap} {ι:Iota} {w w':World} (H:HRel h ι w) (hk:∀id:Nat,h'[id]? =h[id]? \/h'[id]? =some HS.dead) (hl:h'.length=h.length) (Pb:Nat->Prop) (h1:∀b,Pb b->Ob h ι b/\¬Ob h' ι b)
  (hos:w'.os=w.os) (htp:w'.tape=w.tape) (hou:w'.output=w.output) (hsz:w'.heap.size=w.heap.size) (hsame:∀b,¬Pb b->w'.heap[b]? =w.heap[b]?)
  (hcs:∀(b:Nat) (c:Array Value) (e:TypeId) (fr:Nat×Nat),w.heap[b]? =some (.cells c e fr)->∃(c':Array Value) (fr':Nat×Nat),w'.heap[b]? =some (.cells c' e fr')/\c'.size=c.size):HRel h' ι w'/\Evolve h ι w h' ι w':=by
 have old:∀(id:Nat) (o:AObj),h'[id]? =some (.live o)->h[id]? =some (.live o):=fun id o q=>by
  rcases hk id with r|r
  ·rw[<-r];exact q
  ·rw[r]at q;cases q
 have ob:∀b,Ob h' ι b->Ob h ι b:=fun b ⟨id,o,l,q1,q2,q3⟩=>⟨id,o,l,old id o q1,q2,q3⟩
 have ev:Evolve h ι w h' ι w':=⟨hos,htp,hou,by rw[hsz];exact Nat.le_refl _,fun _ _ q=>q,rfl,fun b hb hn=>⟨hsame b (fun q=>hn (h1 b q).1),fun q=>hn (ob b q)⟩,hcs⟩
 refine⟨⟨fun id o ho=>?_,fun id ho=>?_,fun id ho=>H.out id (by rw[<-hl];exact ho),fun id o l id' o' l' a1 a2 b1 b2 hb=>H.apart id o l id' o' l' (old _ _ a1) a2 (old _ _ b1) b2 hb,fun b hb=>by rw[hsz];exact H.xlt b hb,fun b hb q=>H.xob b hb (ob b q)⟩,ev⟩
 ·obtain⟨l,c,fr,q1,la⟩:=H.live id o (old id o ho)
  have hn:¬Pb l.blk:=fun q=>(h1 _ q).2 ⟨id,o,l,ho,q1,rfl⟩
  exact⟨l,c,fr,q1,⟨(hsame _ hn).trans la.blk,la.unfrozen,la.sz,la.rows,la.fits,fun i hi j hj=>let ⟨y,g1,g2⟩:=la.reads i hi j hj;⟨y,g1,g2.mono ev⟩⟩⟩
 ·refine H.free id ?_
  rcases hk id with r|r
  ·rw[<-r];exact ho
  ·rw[r]at ho;cases ho
theorem II (h:List XO) (i:Nat) (j:Option Nat) (id:Nat):(dens (cK (h.set i (.raw .dead)) j))[id]? =(dens h)[id]? \/(dens (cK (h.set i (.raw .dead)) j))[id]? =some HS.dead:=by
 have one:∀(h:List XO) (i id:Nat),(dens (h.set i (.raw .dead)))[id]? =(dens h)[id]? \/(dens (h.set i (.raw .dead)))[id]? =some HS.dead:=by
  intro h i id;rw[aZ];by_cases q:i=id
  ·subst q
   rw[List.getElem?_set];simp only[if_pos];split
   ·exact .inr rfl
   ·rename_i hlt;left;rw[List.getElem?_eq_none (by omega)]
  ·left;rw[List.getElem?_set_ne q]
 cases j with
 |none=>exact one h i id
 |some k=>
  rcases one (h.set i (.raw .dead)) k id with r|r
  ·rcases one h i id with r2|r2
   ·exact .inl (r.trans r2)
   ·exact .inr (r.trans r2)
  ·exact .inr r
theorem zW {P:Program} (w:World):∀(l:List Int) (a:Addr) (acc:ByteArray),(∀j x,l[j]? =some x->w.cell? (a.add j)=some (.int .u8 x)) ->
  (loadBytes a acc l.length).run P w = .ok ⟨acc.data++(l.map fun n=>UInt8.ofNat n.toNat).toArray⟩ w
 | [],a,acc,_=>by simp [loadBytes]
 |x::l,a,acc,h=>by
  have h0:w.cell? a=some (.int .u8 x):=by
   have:=h 0 x rfl;simpa [Addr.add]using this
  have ih:=zW (P:=P) w l (a.add 1) (acc.push (UInt8.ofNat x.toNat)) (fun j y hy=>by
   have:=h (j+1) y (by simpa using hy);have e:(a.add 1).add j=a.add (j+1):=by
    unfold Addr.add;by_cases hj:j=0
    ·subst hj;simp
    ·simp [hj];omega
   rw[e];exact this)
  have hx:x.toNat.toUInt8=UInt8.ofNat x.toNat:=rfl;simp only[List.length_cons,loadBytes,Sem.run_bind,run_load,h0,Result.andThen,hx];rw[ih];congr 1
  apply ByteArray.ext;simp [ByteArray.push]
theorem wE {P:Program} (w:World) (pt it ty e:TypeId) (hp:P.underlying pt=some (.pointer e)) (hc:P.cellsOf e=1) (g o cells:Nat) (hsh:w.shape? g=some (e,cells)) (l:List Int) (h0:l≠ []) (hn:o+l.length<=cells) (h63:l.length<=9223372036854775807)
  (hcell:∀j x,l[j]? =some x->w.cell? ((⟨g,o,none⟩:Addr).add j)=some (.int .u8 x)) :
  (Builtin.unsafeString_ #[pt,it] ty #[.pointer (some ⟨g,o,none⟩),.int .i64 l.length]).run P w = .ok (.string (aV l)) (w.freeze ⟨g,o,none⟩ l.length):=by
 have hl:l.length≠0:=by simpa using h0
 have hlb:=zW (P:=P) w l ⟨g,o,none⟩ .empty hcell;have hlies:liesAt P P.depth e (cells/P.cellsOf e) o e l.length=true:=by
  have hd:P.depth=(2*(P.types.size+Made.depth)+1)+1:=rfl;rw[hd];simp only[liesAt,Bool.or_eq_true];left;rw[hd];simp [Go.rowAt,hc,hn,sameLayout,Nat.mod_one]
 have h63':¬(9223372036854775807:Int)<(l.length:Int):=by omega
 have hdef:Builtin.unsafeString_ #[pt,it] ty #[.pointer (some ⟨g,o,none⟩),.int .i64 l.length] =
  (do
    let n <- asInt (.int .i64 l.length)
    if n < 0 then runtimePanic (.error "unsafe.String: len out of range")
    if n > IntKind.i64.max then unsupported (.unsafePointer "String: a length above the largest int")
    if n=0 then pure (.string .empty)
    else if <- variablesAt ⟨g,o,none⟩ (<-elemOf pt) n.toNat then do
     let s <- loadBytes ⟨g,o,none⟩ .empty n.toNat
     freeze ⟨g,o,none⟩ n.toNat
     pure (.string s)
    else unsupported (.unsafePointer "String: not so many bytes at ptr")) := rfl
 rw[hdef];have hmax:IntKind.i64.max=9223372036854775807:=rfl;have hneg:¬(l.length:Int)<0:=by omega
 simp [asInt,asIntOf,hmax,h63',hneg,hl,variablesAt,hsh,elemOf,run_underlying hp,hlies,hlb,aV]
theorem DP (w:World) (a:Addr) (n b:Nat) (hb:b≠a.block):(w.freeze a n).heap[b]? =w.heap[b]?:=by
 unfold World.freeze;split
 ·rfl
 ·simp only[Array.getElem?_modify];rw[if_neg (Ne.symm hb)]
theorem UK (w:World) (a:Addr) (n:Nat):(w.freeze a n).heap.size=w.heap.size:=by
 unfold World.freeze;split
 ·rfl
 ·simp
theorem QO (w:World) (a:Addr) (n b:Nat) (c:Array Value) (e:TypeId) (fr:Nat×Nat) (h:w.heap[b]? =some (.cells c e fr)):∃fr',(w.freeze a n).heap[b]? =some (.cells c e fr'):=by
 by_cases hb:b=a.block
 ·subst hb
  unfold World.freeze;split
  ·exact⟨fr,h⟩
  ·simp only[Array.getElem?_modify,if_pos,h]
   exact⟨_,rfl⟩
 ·exact⟨fr,by rw[DP w a n b hb];exact h⟩
theorem qVT.mk {P:Program} {f:FuncId} {e eb pt it ty:TypeId} (hp:P.underlying pt=some (.pointer e)) (hcell:P.cellsOf e=1)
  (hnil:∀(b o:Nat) (w:World),w.cell? ⟨b,o+1,none⟩=some (.slice none 0 0)->Calls P f #[.pointer (some ⟨b,o,none⟩)] w fun x w'=>x = .returned (.string ⟨#[]⟩)/\w'=w.drew)
  (hsome:∀(b o:Nat) (a:Addr) (n cap:Nat) (s:ByteArray) (w:World),w.cell? ⟨b,o+1,none⟩=some (.slice (some a) n cap)->cap≠0->(Builtin.unsafeString_ #[pt,it] ty #[.pointer (some a),.int .i64 n]).run P w.drew = .ok (.string s) (w.drew.freeze a n) ->
    Calls P f #[.pointer (some ⟨b,o,none⟩)] w fun x w'=>x = .returned (.string s)/\w'=w.drew.freeze a n):aH P f (.bld false e eb):=by
 intro h i b cs j l hr hcs hlen ι w vals hpv H;obtain⟨c1,g1,g2⟩:=wW hr hcs;have hden:(dens h)[i]? =some (.live ⟨2,[[rF i b,c1]],eb⟩):=by rw[aM,g1];rfl
 obtain⟨L,c,fr,hL,la⟩:=H.live i _ hden;have hLs:L.sz=2:=la.sz;obtain⟨v0,hv0,rv0⟩:=hpv.2 0 _ rfl;cases rv0 with
 |pO _ _ _ L2 hL2=>
  rw[hL]at hL2;injection hL2 with hL2;subst hL2;have hvals:vals = #[.pointer (some ⟨L.blk,L.base+0*L.sz+0,none⟩)]:=by
   have hs:vals.size=1:=hpv.1.symm;exact Array.ext (by rw[hs];rfl) (fun q q1 q2=>by
    have h0:q=0:=by rw[hs]at q1;omega
    subst h0;rw[Array.getElem?_eq_getElem q1]at hv0;exact Option.some.inj hv0)
  subst hvals;obtain⟨x,x1,x2⟩:=la.reads 0 (by simp) 1 (by simp);have x2:Rep w ι (Mt (dens h) ι) c1 x:=x2;have hcx:w.cell? ⟨L.blk,L.base+0*L.sz+0+1,none⟩=some x:=by
   have:L.base+0*L.sz+0+1=L.base+0*2+1:=by omega
   rw[this];simp only[World.cell?,la.blk];exact x1
  have nilcase:x = .slice none 0 0->l= []->Calls P f #[.pointer (some ⟨L.blk,L.base+0*L.sz+0,none⟩)] w fun e' w'=>∃y x h' ι',e' = .returned y/\(x = .v (.string (aV l))/\h'=dens (cK (h.set i (.raw .dead)) j))/\Rep w' ι' (Mt h' ι') x y/\HRel h' ι' w'/\Evolve (dens h) ι w h' ι' w':=by
   intro hx hl0;subst hx hl0;refine(hnil _ _ w hcx).mono ?_;rintro e' w' ⟨rfl,rfl⟩;obtain⟨H2,ev⟩:=H.killed (h':=dens (cK (h.set i (.raw .dead)) j)) (w':=w.drew) (fun id=>II h i j id) (by rw[dK,dK,fY];simp) (fun _=>False) (fun _ q=>q.elim) rfl rfl rfl rfl (fun _ _=>rfl) (fun _ c _ fr q=>⟨c,fr,q,rfl⟩);exact⟨_,_,_,ι,rfl,⟨rfl,rfl⟩,.v _,H2,ev⟩
  rcases g2 with⟨rfl,rfl,rfl⟩|⟨k,rfl,rfl,g3⟩
  ·cases x2
   exact nilcase rfl rfl
  ·by_cases hl0:l= []
   ·subst hl0
    cases x2 with
    |oL _ _ _ q=>simp at q;cases q;exact nilcase rfl rfl
   ·have hlen0:l.length≠0:=fun q=>hl0 (List.length_eq_zero_iff.1 q)
    have hdk:(dens h)[k]? =some (.live ⟨1,l.map (Ty.row (.int .u8)),e⟩):=by rw[aM,g3];simp [XO.den,hl0,Ty.size]
    have hki:k≠i:=by intro q;subst q;rw[g1]at g3;cases g3
    cases x2 with
    |oL _ _ _ q=>
     rw[if_neg hlen0]at q;cases q with
     |sO _ _ _ cap Lk ck ek frk hLk hcap hbk hszk=>
      obtain⟨Lk2,ck2,frk2,hLk2,lak⟩:=H.live k _ hdk;rw[hLk]at hLk2;injection hLk2 with hLk2;subst hLk2;have hsk:Lk.sz=1:=lak.sz;have hfit:Lk.base+l.length<=ck2.size:=by have:=lak.fits;simp at this;omega
      have hoff:Lk.base+0*Lk.sz=Lk.base:=by omega
      rw[hoff]at hcx;have hUS:=wE (P:=P) w.drew pt it ty e hp hcell Lk.blk Lk.base ck2.size (by show(match w.heap[Lk.blk]? with|some (.cells c elem _)=>some (elem,c.size)|_=>none)=_;rw[lak.blk]) l hl0 hfit (by omega) (fun q z hz=>by
       have hq:=aN hz;obtain⟨y,y1,y2⟩:=lak.reads q (by simpa using hq) 0 (by simp [Ty.cells]);have e1:(l.map (Ty.row (.int .u8)))[q]'(by simpa using hq)= [.v (.int .u8 z)]:=by
        rw[List.getElem?_eq_getElem hq]at hz;injection hz with hz;simp [hz,Ty.cells]
       have y2:Rep w ι (Mt (dens h) ι) (.v (.int .u8 z)) y:=by
        have:=y2;simp only[e1]at this;exact this
       cases y2;have:(⟨Lk.blk,Lk.base,none⟩:Addr).add q=⟨Lk.blk,Lk.base+q,none⟩:=nD _ _ _;rw[this];show w.cell? ⟨Lk.blk,Lk.base+q,none⟩=_;simp only[World.cell?,lak.blk];rw[<-y1];congr 1
       simp [Ty.size])
      refine(hsome _ _ ⟨Lk.blk,Lk.base,none⟩ l.length cap (aV l) w hcx (by omega) hUS).mono ?_;rintro e' w' ⟨rfl,rfl⟩;have hPb:∀q,q=Lk.blk->Ob (dens h) ι q/\¬Ob (dens (cK (h.set i (.raw .dead)) (some k))) ι q:=by
       intro q hq;subst hq;refine⟨⟨k,_,Lk,hdk,hLk,rfl⟩,?_⟩;rintro⟨id,o,L3,q1,q2,q3⟩;have hid:(dens h)[id]? =some (.live o):=by
        rcases II h i (some k) id with r|r
        ·rw[<-r];exact q1
        ·rw[r]at q1;cases q1
       have:=H.apart _ _ _ _ _ _ hid q2 hdk hLk q3;subst this;rw[aM]at q1;simp only[cK]at q1;rw[List.getElem?_set_self (by simpa using aN g3)]at q1;cases q1
      obtain⟨H2,ev⟩:=H.killed (h':=dens (cK (h.set i (.raw .dead)) (some k))) (w':=w.drew.freeze ⟨Lk.blk,Lk.base,none⟩ l.length) (fun id=>II h i (some k) id) (by rw[dK,dK,fY];simp) (fun q=>q=Lk.blk) hPb
       (by unfold World.freeze;split<;>rfl) (by unfold World.freeze;split<;>rfl) (by unfold World.freeze;split<;>rfl) (UK _ _ _) (fun q hq=>DP w.drew _ _ _ hq)
       (fun q c2 e2 fr2 hq=>let ⟨fr',q'⟩:=QO w.drew ⟨Lk.blk,Lk.base,none⟩ l.length q c2 e2 fr2 hq;⟨c2,fr',q',rfl⟩)
      exact⟨_,_,_,ι,rfl,⟨rfl,rfl⟩,.v _,H2,ev⟩
end Go.Abs
namespace Go.Proofs.YtcjiefknhfhmkaaGreatDoor
open Go.Abs
set_option maxRecDepth 100000
set_option maxHeartbeats 4000000
set_option linter.unusedVariables false
set_option linter.unusedSimpArgs false
abbrev TG:Ct:=.bld true 5 106
theorem qX2:aH Tryz.prog 62 TG:=by
 refine qHB.mk XN mixed [] [107] rfl rfl ?_ ?_;all_goals first|rintro(_|_) (l:List Int) s hs|rintro(_|_) s hs
 all_goals refine⟨[],?_⟩
 repeat' (first
  |(
 with_reducible apply Side.mk
 (try dsimp only[cu,aC,aB,gts,loK,hiK,eE,eN])
 first
 |done
 |(
  (try simp only[aQ,List.length_nil]);omega))
  |(conv=>whnf
    first
     |with_reducible first|done|exact trivial|refine NilBr.mk (fun h=>?_) ?_|apply aJ|apply aI|refine aK (by kernel_rfl) ?_|apply aL|apply bG|apply bF|apply aR
     |((with_reducible first|apply aT|apply aS|apply bD)<;>intro h<;>(try dsimp only[cu,eE,eN]at h)<;>(try(exfalso;omega)))))
 all_goals(
 with_reducible apply Leaf.mk
 (try dsimp only[cu,aC,aB,gts,eE,eN]at *)
 first
 |done
 |(rfl))
abbrev qU9:Tbl:=(62,TG)::qU8
theorem qPF:aD Tryz.prog qU9:=aD.cons qX2 XN
abbrev KS:Ct:=.bld false 5 106
theorem SS (b o:Nat) (w:World) (hc:w.cell? ⟨b,o+1,none⟩=some (.slice none 0 0)) :
  Calls Tryz.prog 72 #[.pointer (some ⟨b,o,none⟩)] w fun e w'=>e = .returned (.string ⟨#[]⟩)/\w'=w.drew:=by
 have hUS:∀W:World,(Builtin.unsafeString_ #[150,3] 9 #[.pointer none,.int .i64 0]).run Tryz.prog W = .ok (.string .empty) W:=fun W=>Lib.run_unsafeString_none W _ _ _ none
 have c1:w.drew.cell? ⟨b,o+1,none⟩=some (.slice none 0 0):=hc;have hSD:∀W:World,(Builtin.unsafeSliceData_ #[36] 150 #[.slice none 0 0]).run Tryz.prog W = .ok (.pointer none) W:=fun W=>rfl
 go_enter Tryz.func72,Tryz.ntmps72
 go_wp2
 go_region
 all_goals(go_wp2;go_ret;exact⟨rfl,rfl⟩)
theorem PU (b o:Nat) (a:Addr) (n cap:Nat) (s:ByteArray) (w:World) (hc:w.cell? ⟨b,o+1,none⟩=some (.slice (some a) n cap)) (h0:cap≠0)
  (hUS:(Builtin.unsafeString_ #[150,3] 9 #[.pointer (some a),.int .i64 n]).run Tryz.prog w.drew = .ok (.string s) (w.drew.freeze a n)) :
  Calls Tryz.prog 72 #[.pointer (some ⟨b,o,none⟩)] w fun e w'=>e = .returned (.string s)/\w'=w.drew.freeze a n:=by
 have c1:w.drew.cell? ⟨b,o+1,none⟩=some (.slice (some a) n cap):=hc;have hSD:(Builtin.unsafeSliceData_ #[36] 150 #[.slice (some a) n cap]).run Tryz.prog w.drew = .ok (.pointer (some a)) w.drew:=Lib.run_unsafeSliceData_row _ _ _ _ _ _ h0;go_enter Tryz.func72,Tryz.ntmps72
 go_wp2
 go_region
 all_goals(go_wp2;go_ret;exact⟨rfl,rfl⟩)
theorem qQT:aH Tryz.prog 72 KS:=qVT.mk (pt:=150) (it:=3) (ty:=9) (by kernel_rfl) (by kernel_rfl) SS PU
abbrev qVA:Tbl:=(72,KS)::qU9
theorem XP:aD Tryz.prog qVA:=aD.cons qQT qPF
def TX (n:Int):ByteArray:=if n<10 then⟨#[UInt8.ofNat (48+n.toNat)]⟩else⟨#[49,UInt8.ofNat (38+n.toNat)]⟩
def xL:List ByteArray:=[⟨#[105,110,116]⟩,⟨#[98,111,111,108]⟩,⟨#[98,121,116,101,115]⟩,⟨#[100,97,116,101]⟩,⟨#[100,101,99,105,109,97,108]⟩]
def tw (t:Int):ByteArray:=⟨#[32]⟩++xL[(t-1).toNat]!
abbrev nlB:ByteArray:=⟨#[10]⟩
abbrev nuB:ByteArray:=⟨#[32,110,117,108,108]⟩
def scT (c:Col):ByteArray:=if c.2.1=5 then⟨#[32]⟩++TX c.2.2.1 else⟨#[]⟩
def nuT (c:Col):ByteArray:=if c.2.2.2=true then nuB else⟨#[]⟩
def tA (c:Col):ByteArray:=c.1++tw c.2.1++scT c++nuT c++nlB
def nN:List Col->ByteArray
 | []=>⟨#[]⟩
 |c::l=>tA c++nN l
def qR6 (s:Schema):ByteArray:=⟨#[107,101,121,32]⟩++s.1[s.2.toNat]!.1++nlB
def tS (s:Schema):ByteArray:=nN s.1++qR6 s
def lN (s:Schema):ByteArray×Int:=if aW s≠0 then(⟨#[]⟩,aW s)else(tS s,0)
def idS (s:Schema):Int×Int:=if aW s≠0 then(0,aW s)else(jS (tS s),0)
theorem dJ {l:List Col} {k:Int} (h:0<=k/\k<l.length):nN (l.drop k.toNat)=tA l[k.toNat]! ++nN (l.drop (k+1).toNat):=by
 rw[bN l k h];rfl
theorem fF {s:Schema} (h:aW s=0) {k:Int} (hk:0<=k/\k<s.1.length):(1<=s.1[k.toNat]!.2.1/\s.1[k.toNat]!.2.1<=5)/\(0<=s.1[k.toNat]!.2.2.1/\s.1[k.toNat]!.2.2.1<=18)/\s.1[k.toNat]!.1.size<=16:=by
 have he:bX (eD s.1) 0 s.1=0:=by
  unfold aW at h;split at h
  ·cases h
  split at h
  ·cases h
  split at h
  ·contradiction
  ·rename_i q;exact Decidable.not_not.1 q
 have h1:=qW he k hk;unfold eD at h1;split at h1
 ·cases h1
 rename_i h2;split at h1
 ·cases h1
 split at h1
 ·cases h1
 rename_i h3;split at h1
 ·cases h1
 rename_i h4;simp only[Bool.not_eq_false]at h2 h3 h4;simp only[oT,Bool.and_eq_true,decide_eq_true_eq]at h2;simp only[bV,Bool.and_eq_true,decide_eq_true_eq]at h3;simp only[kF,Bool.and_eq_true,decide_eq_true_eq]at h4;omega
theorem qYW {t:Int} (h:1<=t/\t<=5):t=1\/t=2\/t=3\/t=4\/t=5:=by omega
theorem qbO {t:Int} (h:1<=t/\t<=5):(tw t).size<=8:=by
 rcases qYW h with rfl|rfl|rfl|rfl|rfl<;>decide
theorem qGZ {t:Int} (h:1<=t/\t<=5):(xL[(t-1).toNat]!).size<=7:=by
 rcases qYW h with rfl|rfl|rfl|rfl|rfl<;>decide
theorem uY (n:Int):(TX n).size<=2:=by
 unfold TX;split
 ·show 1<=2;decide
 ·show 2<=2;decide
theorem qXM (c:Col):(scT c).size<=3:=by
 unfold scT;split
 ·rw[ByteArray.size_append];have:=uY c.2.2.1;have e:(⟨#[32]⟩:ByteArray).size=1:=rfl;omega
 ·exact Nat.zero_le _
theorem qW0 (c:Col):(nuT c).size<=5:=by unfold nuT;split<;>decide
theorem qQW {c:Col} (h:1<=c.2.1/\c.2.1<=5) (hn:c.1.size<=16):(tA c).size<=33:=by
 have h1:=qbO h;have h2:=qXM c;have h3:=qW0 c;have e:nlB.size=1:=rfl;simp only[tA,ByteArray.size_append];omega
theorem gP (a:ByteArray):(⟨#[]⟩:ByteArray)++a=a:=ByteArray.empty_append
theorem EO (a:ByteArray):a++⟨#[]⟩=a:=ByteArray.append_empty
theorem TO:∀(l:List Col),(∀c,c∈l->(1<=c.2.1/\c.2.1<=5)/\c.1.size<=16)->(nN l).size<=33*l.length
 | [],_=>Nat.zero_le _
 |c::l,h=>by
  have h1:=h c (List.mem_cons_self ..);have h2:=qQW h1.1 h1.2;have h3:=TO l fun x hx=>h x (List.mem_cons_of_mem _ hx)
  rw[nN,ByteArray.size_append,List.length_cons];omega
theorem qWF {s:Schema} (h:aW s=0):(tS s).size<=1000:=by
 have q0:=bC h;have h1:=TO s.1 fun c hc=>by
  obtain⟨i,hi,rfl⟩:=List.mem_iff_getElem.1 hc;have:=fF h (k:=(i:Int)) ⟨by omega,by omega⟩;rw[Int.toNat_natCast,getElem!_pos s.1 i hi]at this;exact⟨this.1,this.2.2⟩
 have h2:=fF h (k:=s.2) q0.2;have u1:(⟨#[107,101,121,32]⟩:ByteArray).size=4:=rfl;have u2:nlB.size=1:=rfl;unfold tS qR6;simp only[ByteArray.size_append];omega
theorem qCM {s:Schema}:(lN s).1.size<=1000:=by
 unfold lN;split
 ·exact Nat.zero_le _
 ·rename_i h;exact qWF (Decidable.not_not.1 h)
theorem qYP {s:Schema} (h:(lN s).2=0):idS s=(AF cY (lN s).1,0):=by
 unfold lN idS at *;by_cases q:aW s≠0
 ·rw[if_pos q]at h;exact absurd h q
 ·rw[if_neg q,if_neg q];rfl
theorem qYQ {s:Schema} (h:¬(lN s).2=0):idS s=(0,(lN s).2):=by
 unfold lN idS at *;by_cases q:aW s≠0
 ·rw[if_pos q,if_pos q]
 ·rw[if_neg q]at h;exact absurd rfl h
theorem qb3 {q:Int} (h:0<=q/\q<=18):(0<=Int.tmod q 10/\Int.tmod q 10<10)/\0<=Int.tdiv q 10/\Int.tdiv q 10<=1/\(0<q->Int.tdiv q 10<q):=by
 rw[Int.tmod_eq_emod_of_nonneg h.1,Int.tdiv_eq_ediv_of_nonneg h.1];omega
def EL (s p:ByteArray):Bool:=decide (p.size<=s.size)&&decide (s.extract 0 p.size=p)
def EM (s p:ByteArray):Bool:=decide (p.size<=s.size)&&decide (s.extract (s.size-p.size) s.size=p)
abbrev TB:Ct:=.fn [.str,.str] (some (fun(s:ByteArray) (p:ByteArray)=>(s.size<=4611686018427387904/\p.size<=4611686018427387904))) (fun(s:ByteArray) (p:ByteArray)=>.d .bool (EL s p))
theorem qXC:aH Tryz.prog 89 TB:=by
 refine aH.fn XP mixed [] [124] rfl rfl ?_;rintro⟨(s:ByteArray),(p:ByteArray),_⟩ hpre;replace hpre:=hpre _ rfl;dsimp only[cu]at hpre;have hs:=hpre;refine⟨[],?_⟩;repeat' (first
  |(
 with_reducible apply Side.mk
 (try dsimp only[cu,aC,aB,gts,loK,hiK,eE,eN])
 omega)
  |(conv=>whnf
    first
     |with_reducible first|done|exact trivial|refine NilBr.mk (fun h=>?_) ?_|apply aJ|apply aI|refine aK (by kernel_rfl) ?_|apply aL|apply bG|apply bF|apply aR
     |((with_reducible first|apply aT|apply aS|apply bD)<;>intro h<;>(try dsimp only[cu,eE,eN]at h)<;>(try(exfalso;omega)))))
 all_goals(
 with_reducible apply Leaf.mk
 (try dsimp only[cu,aC,aB,gts,eE,eN]at *)
 grind [EL])
abbrev qVB:Tbl:=(89,TB)::qVA
theorem XQ:aD Tryz.prog qVB:=aD.cons qXC XP
abbrev TE:Ct:=.fn [.str,.str] (some (fun(s:ByteArray) (p:ByteArray)=>(s.size<=4611686018427387904/\p.size<=4611686018427387904))) (fun(s:ByteArray) (p:ByteArray)=>.d .bool (EM s p))
theorem qXS:aH Tryz.prog 90 TE:=by
 refine aH.fn XQ mixed [] [125] rfl rfl ?_;rintro⟨(s:ByteArray),(p:ByteArray),_⟩ hpre;replace hpre:=hpre _ rfl;dsimp only[cu]at hpre;have hs:=hpre;refine⟨[],?_⟩;repeat' (first
  |(
 with_reducible apply Side.mk
 (try dsimp only[cu,aC,aB,gts,loK,hiK,eE,eN])
 omega)
  |(conv=>whnf
    first
     |with_reducible first|done|exact trivial|refine NilBr.mk (fun h=>?_) ?_|apply aJ|apply aI|refine aK (by kernel_rfl) ?_|apply aL|apply bG|apply bF|apply aR
     |((with_reducible first|apply aT|apply aS|apply bD)<;>intro h<;>(try dsimp only[cu,eE,eN]at h)<;>(try(exfalso;omega)))))
 all_goals(
 with_reducible apply Leaf.mk
 (try dsimp only[cu,aC,aB,gts,eE,eN]at *)
 grind [EM])
abbrev qVC:Tbl:=(90,TE)::qVB
theorem XR:aD Tryz.prog qVC:=aD.cons qXS XQ
abbrev LI:Ct:=.fn [.int .i64] (some (fun(n:Int)=>(0<=n/\n<=18))) (fun(n:Int)=>.d .str (TX n))
theorem qR3:aH Tryz.prog 146 LI:=by
 refine aH.fn XR mixed [] [175,199,216] rfl rfl ?_;rintro⟨(n:Int),_⟩ hpre;replace hpre:=hpre _ rfl;dsimp only[cu]at hpre;have hn:=hpre;refine⟨[],?_⟩;repeat' (first
  |(
 with_reducible apply Side.mk
 (try dsimp only[cu,aC,aB,gts,loK,hiK,eE,eN])
 first
 |omega
 |(
  show _<=((36:Nat):Int);omega)
 |(
  show _<=((200:Nat):Int);omega))
  |(conv=>whnf
    first
     |with_reducible first|done|exact trivial|refine NilBr.mk (fun h=>?_) ?_|apply aJ|apply aI|refine aK (by kernel_rfl) ?_|apply aL|apply bG|apply bF|apply aR
     |((with_reducible first|apply aT|apply aS|apply bD)<;>intro h<;>(try dsimp only[cu,eE,eN]at h)<;>(try(exfalso;omega)))))
 all_goals(
 with_reducible apply Leaf.mk
 (try dsimp only[cu,aC,aB,gts,eE,eN]at *)
 (rcases(show n=0\/n=1\/n=2\/n=3\/n=4\/n=5\/n=6\/n=7\/n=8\/n=9\/n=10\/n=11\/n=12\/n=13\/n=14\/n=15\/n=16\/n=17\/n=18 by omega)with rfl|rfl|rfl|rfl|rfl|rfl|rfl|rfl|rfl|rfl|rfl|rfl|rfl|rfl|rfl|rfl|rfl|rfl|rfl<;>first|(exfalso;omega)|decide))
abbrev qVD:Tbl:=(146,LI)::qVC
theorem XS:aD Tryz.prog qVD:=aD.cons qR3 XR
abbrev MA:Ct:=.fn [.int .i64] (some (fun(n:Int)=>(0<=n/\n<=18))) (fun(n:Int)=>.d .str (TX n))
theorem qTA:aH Tryz.prog 119 MA:=by
 refine aH.fn XS mixed [] [] rfl rfl ?_;rintro⟨(n:Int),_⟩ hpre;replace hpre:=hpre _ rfl;dsimp only[cu]at hpre;have hn:=hpre;refine⟨[(0,10,LA.mk [.sl 0 (.int .i64),.sl 3 .str] (fun y=>Tag 77/\cu [.int .i64,.str] (fun(q:Int) (w:ByteArray)=>((q=n/\w=⟨#[]⟩)\/(q=1/\w=⟨#[UInt8.ofNat (38+n.toNat)]⟩)\/(q=0/\w=TX n))/\(0<=q/\q<=18)) y) (cu [.int .i64,.str] (fun(q:Int) (w:ByteArray)=>q.toNat)) (cu [.int .i64,.str] (fun(q:Int) (w:ByteArray)=>([]:List (Nat×Nat×LA)))))],?_⟩;repeat' (first
  |(
 with_reducible refine Side.mk ⟨(⟨⟩:Tag 77),?_⟩
 dsimp only[cu,aC,aB,gts,eE,eN]
 refine⟨?_,?_⟩
 ·first
  |exact Or.inl ⟨rfl,rfl⟩
  |(
  rcases hq with⟨rfl,rfl⟩|⟨rfl,rfl⟩|⟨rfl,rfl⟩
  ·refine Or.inr (Or.inl ⟨?_,?_⟩)<;>(rcases(show q=10\/q=11\/q=12\/q=13\/q=14\/q=15\/q=16\/q=17\/q=18 by omega)with rfl|rfl|rfl|rfl|rfl|rfl|rfl|rfl|rfl<;>decide)
  ·refine Or.inr (Or.inr ⟨by decide,?_⟩)
   rcases(show n=10\/n=11\/n=12\/n=13\/n=14\/n=15\/n=16\/n=17\/n=18 by omega)with rfl|rfl|rfl|rfl|rfl|rfl|rfl|rfl|rfl<;>decide
  ·exact absurd rfl (by with_reducible assumption))
 ·omega)
  |(
 with_reducible apply Side.mk
 (try dsimp only[cu,aC,aB,gts,loK,hiK,eE,eN])
 first
 |omega
 |(
  show _<=((10:Nat):Int);omega)
 |(
  have hws:w.size<=2:=by
   rcases hq with⟨_,h⟩|⟨_,h⟩|⟨_,h⟩<;>rw[h]
   ·exact Nat.zero_le _
   ·show 1<=2;decide
   ·exact uY n
  have u:(⟨#[48,49,50,51,52,53,54,55,56,57]⟩:ByteArray).size=10:=rfl;rw[ByteArray.size_extract];omega))
  |(conv=>whnf
    first
     |with_reducible first|done|exact trivial|refine NilBr.mk (fun h=>?_) ?_|apply aJ|apply aI|refine aK (by kernel_rfl) ?_|apply aL|apply bG|apply bF|apply aR
     |((with_reducible first|apply aT|apply aS|apply bD)<;>intro h<;>(try dsimp only[cu,eE,eN]at h)<;>(try(exfalso;omega)))
     |(
 intro yy (hy:Tag 77/\_)
 obtain⟨(q:Int),(w:ByteArray),_⟩:=yy
 replace hy:=hy.2
 dsimp only[cu,aC,aB,gts,eE,eN]at hy
 obtain⟨hq,hqb⟩:=hy
 have hm:=qb3 hqb)))
 all_goals(
 with_reducible apply Leaf.mk
 (try dsimp only[cu,aC,aB,gts,eE,eN]at *)
 first
 |(
  rcases hq with⟨h1,h2⟩|⟨h1,h2⟩|⟨h1,h2⟩
  ·exfalso;omega
  ·exfalso;omega
  ·exact h2)
 |(rcases(show n=0\/n=1\/n=2\/n=3\/n=4\/n=5\/n=6\/n=7\/n=8\/n=9\/n=10\/n=11\/n=12\/n=13\/n=14\/n=15\/n=16\/n=17\/n=18 by omega)with rfl|rfl|rfl|rfl|rfl|rfl|rfl|rfl|rfl|rfl|rfl|rfl|rfl|rfl|rfl|rfl|rfl|rfl|rfl<;>first|(exfalso;omega)|decide))
abbrev qVE:Tbl:=(119,MA)::qVD
theorem XT:aD Tryz.prog qVE:=aD.cons qTA XS
abbrev HC:Ct:=.fn [] (none) (.d (.list .str) xL)
theorem qPW:aH Tryz.prog 145 HC:=by
 refine aH.fn XT mixed [] [] rfl rfl ?_;rintro⟨⟩ -;refine⟨[],?_⟩;repeat' (first
  |(
 with_reducible apply Side.mk
 (try dsimp only[cu,aC,aB,gts,loK,hiK,eE,eN])
 exact Eq.refl _)
  |(conv=>whnf
    first
     |with_reducible first|done|exact trivial|refine NilBr.mk (fun h=>?_) ?_|apply aJ|apply aI|refine aK (by kernel_rfl) ?_|apply aL|apply bG|apply bF|apply aR
     |((with_reducible first|apply aT|apply aS|apply bD)<;>intro h<;>(try dsimp only[cu,eE,eN]at h)<;>(try(exfalso;omega)))))
 all_goals(
 with_reducible apply Leaf.mk
 (try dsimp only[cu,aC,aB,gts,eE,eN]at *)
 rfl)
abbrev qVF:Tbl:=(145,HC)::qVE
theorem XU:aD Tryz.prog qVF:=aD.cons qPW XT
abbrev LD:Ct:=.fn [cE] (none) (fun(s:Schema)=>.tup [.str,.int .i64] ((lN s).1,(lN s).2,()))
theorem qRO:aH Tryz.prog 106 LD:=by
 refine aH.fn XU mixed [] [] rfl rfl ?_;rintro⟨(s:Schema),_⟩ -;refine⟨[(0,12,LA.mk [.sl 16 (.int .i64),.row 1 [.osf 1,.own (.int .u8) 5]] (fun y=>Tag 78/\cu [.int .i64,.bool,.list (.int .u8)] (fun(k:Int) (b0:Bool) (B:List Int)=>(0<=k/\k<=s.1.length)/\(nN s.1=aV B++nN (s.1.drop k.toNat))/\((B.length:Int)<=33*k)) y) (cu [.int .i64,.bool,.list (.int .u8)] (fun(k:Int) (b0:Bool) (B:List Int)=>((s.1.length:Int)-k).toNat)) (cu [.int .i64,.bool,.list (.int .u8)] (fun(k:Int) (b0:Bool) (B:List Int)=>([]:List (Nat×Nat×LA)))))],?_⟩;repeat' (first
  |(
 with_reducible refine Side.mk ⟨(⟨⟩:Tag 78),?_⟩
 dsimp only[cu,aC,aB,gts,eE,eN]
 refine⟨?_,?_,?_⟩
 ·omega
 ·first
  |(
  show nN s.1=ByteArray.empty++nN s.1
  rw[ByteArray.empty_append])
  |(
  have t1:scT s.1[k.toNat]! =⟨#[32]⟩++TX s.1[k.toNat]!.2.2.1:=if_pos (by with_reducible assumption)
  first
  |(
   have t2:nuT s.1[k.toNat]! =nuB:=if_pos (by with_reducible assumption);rw[hB,dJ (by omega),tA,t1,t2,tw];simp only[iZ,iI,ByteArray.append_assoc,gP];done)
  |(
   have t2:nuT s.1[k.toNat]! =⟨#[]⟩:=if_neg (by rw[show s.1[k.toNat]!.2.2.2=false by with_reducible assumption];exact Bool.noConfusion);rw[hB,dJ (by omega),tA,t1,t2,tw];simp only[iZ,iI,ByteArray.append_assoc,gP];done))
  |(
  have t1:scT s.1[k.toNat]! =⟨#[]⟩:=if_neg (by with_reducible assumption)
  first
  |(
   have t2:nuT s.1[k.toNat]! =nuB:=if_pos (by with_reducible assumption);rw[hB,dJ (by omega),tA,t1,t2,tw];simp only[iZ,iI,ByteArray.append_assoc,gP];done)
  |(
   have t2:nuT s.1[k.toNat]! =⟨#[]⟩:=if_neg (by rw[show s.1[k.toNat]!.2.2.2=false by with_reducible assumption];exact Bool.noConfusion);rw[hB,dJ (by omega),tA,t1,t2,tw];simp only[iZ,iI,ByteArray.append_assoc,gP];done))
 ·first
  |exact Int.le_refl _
  |(
  have kk:0<=k/\k<s.1.length:=by omega
  have qq:=fF (s:=s) (by with_reducible assumption) kk
  obtain⟨q1,q2,q3⟩:=qq
  have z1:=qGZ q1
  have z2:=uY s.1[k.toNat]!.2.2.1
  have u1:(⟨#[32]⟩:ByteArray).size=1:=rfl
  have u2:(⟨#[10]⟩:ByteArray).size=1:=rfl
  have u3:(⟨#[32,110,117,108,108]⟩:ByteArray).size=5:=rfl
  have u5:xL.length=5:=rfl
  have v0:(⟨#[32,105,110,116]⟩:ByteArray).size=4:=rfl
  have v1:(⟨#[32,98,111,111,108]⟩:ByteArray).size=5:=rfl
  have v2:(⟨#[32,98,121,116,101,115]⟩:ByteArray).size=6:=rfl
  have v3:(⟨#[32,100,97,116,101]⟩:ByteArray).size=5:=rfl
  have v4:(⟨#[32,100,101,99,105,109,97,108,32]⟩:ByteArray).size=9:=rfl
  have q0:=bC (s:=s) (by with_reducible assumption)
  simp only[List.length_append,aQ,ByteArray.size_append]
  omega))
  |(
 with_reducible apply Side.mk
 (try dsimp only[cu,aC,aB,gts,loK,hiK,eE,eN])
 first
 |done
 |omega
 |exact Eq.refl _
 |(
  show _/\_;have kk:0<=k/\k<s.1.length:=by omega
  have qq:=fF (s:=s) (by with_reducible assumption) kk;obtain⟨q1,q2,q3⟩:=qq;omega)
 |(
  have kk:0<=k/\k<s.1.length:=by omega
  have qq:=fF (s:=s) (by with_reducible assumption) kk;obtain⟨q1,q2,q3⟩:=qq;have z1:=qGZ q1;have z2:=uY s.1[k.toNat]!.2.2.1;have u1:(⟨#[32]⟩:ByteArray).size=1:=rfl;have u2:(⟨#[10]⟩:ByteArray).size=1:=rfl;have u3:(⟨#[32,110,117,108,108]⟩:ByteArray).size=5:=rfl;have u5:xL.length=5:=rfl;have v0:(⟨#[32,105,110,116]⟩:ByteArray).size=4:=rfl;have v1:(⟨#[32,98,111,111,108]⟩:ByteArray).size=5:=rfl;have v2:(⟨#[32,98,121,116,101,115]⟩:ByteArray).size=6:=rfl;have v3:(⟨#[32,100,97,116,101]⟩:ByteArray).size=5:=rfl;have v4:(⟨#[32,100,101,99,105,109,97,108,32]⟩:ByteArray).size=9:=rfl;have q0:=bC (s:=s) (by with_reducible assumption);have w1:=q1.1;have w2:=q1.2;(try simp only[List.length_append,aQ,ByteArray.size_append]);omega)
 |(
  have q0:=bC (s:=s) (by with_reducible assumption);have kk:0<=s.2/\s.2<s.1.length:=by omega
  have qq:=fF (s:=s) (by with_reducible assumption) kk;obtain⟨q1,q2,q3⟩:=qq;have u1:(⟨#[107,101,121,32]⟩:ByteArray).size=4:=rfl;have u2:(⟨#[10]⟩:ByteArray).size=1:=rfl;(try simp only[List.length_append,aQ,ByteArray.size_append]);omega))
  |(conv=>whnf
    first
     |with_reducible first|done|exact trivial|refine NilBr.mk (fun h=>?_) ?_|apply aJ|apply aI|refine aK (by kernel_rfl) ?_|apply aL|apply bG|apply bF|apply aR
     |((with_reducible first|apply aT|apply aS|apply bD)<;>intro h<;>(try dsimp only[cu,eE,eN]at h)<;>(try(exfalso;omega)))
     |(
 intro yy (hy:Tag 78/\_)
 obtain⟨(k:Int),(b0:Bool),(B:List Int),_⟩:=yy
 replace hy:=hy.2
 dsimp only[cu,aC,aB,gts,eE,eN]at hy
 obtain⟨hk,hB,hz⟩:=hy
 rcases b0 with _|_)))
 all_goals(
 with_reducible apply Leaf.mk
 (try dsimp only[cu,aC,aB,gts,eE,eN]at *)
 first
 |rw[lN,if_pos (by with_reducible assumption)]
 |(
  have hk2:k=s.1.length:=by omega
  have hd:s.1.drop k.toNat= []:=List.drop_eq_nil_of_le (by omega);rw[hd]at hB;have hB2:nN []=(⟨#[]⟩:ByteArray):=rfl;rw[hB2,EO]at hB;rw[lN,if_neg (fun q=>q (by with_reducible assumption)),tS,qR6,hB];simp only[iZ,iI,ByteArray.append_assoc,gP];done)
 |(rw[lN,if_neg (fun q=>q (by with_reducible assumption))]))
abbrev qVG:Tbl:=(106,LD)::qVF
theorem XV:aD Tryz.prog qVG:=aD.cons qRO XU
abbrev GP:Ct:=.fn [cE] (none) (fun(s:Schema)=>.tup [.str,.int .i64] ((lN s).1,(lN s).2,()))
theorem qOO:aH Tryz.prog 80 GP:=by
 refine aH.fn XV mixed [] [] rfl rfl ?_;rintro⟨(s:Schema),_⟩ -;refine⟨[(0,12,LA.mk [.sl 16 (.int .i64),.sl 5 .str] (fun y=>Tag 79/\cu [.int .i64,.str] (fun(k:Int) (b:ByteArray)=>(0<=k/\k<=s.1.length)/\(nN s.1=b++nN (s.1.drop k.toNat))/\((b.size:Int)<=33*k)) y) (cu [.int .i64,.str] (fun(k:Int) (b:ByteArray)=>((s.1.length:Int)-k).toNat)) (cu [.int .i64,.str] (fun(k:Int) (b:ByteArray)=>([]:List (Nat×Nat×LA)))))],?_⟩;repeat' (first
  |(
 with_reducible refine Side.mk ⟨(⟨⟩:Tag 79),?_⟩
 dsimp only[cu,aC,aB,gts,eE,eN]
 refine⟨?_,?_,?_⟩
 ·omega
 ·first
  |(
  show nN s.1=ByteArray.empty++nN s.1
  rw[ByteArray.empty_append])
  |(
  have t0:s.1[k.toNat]!.2.1=1:=by with_reducible assumption
  have t1:scT s.1[k.toNat]! =⟨#[]⟩:=if_neg (by rw[t0];decide)
  have t3:tw s.1[k.toNat]!.2.1=(⟨#[32,105,110,116]⟩:ByteArray):=by rw[t0];decide
  first
  |(
   have t2:nuT s.1[k.toNat]! =nuB:=if_pos (by with_reducible assumption);rw[hB,dJ (by omega),tA,t1,t2,t3];simp only[ByteArray.append_assoc,gP];done)
  |(
   have t2:nuT s.1[k.toNat]! =⟨#[]⟩:=if_neg (by rw[show s.1[k.toNat]!.2.2.2=false by with_reducible assumption];exact Bool.noConfusion);rw[hB,dJ (by omega),tA,t1,t2,t3];simp only[ByteArray.append_assoc,gP];done))
  |(
  have t0:s.1[k.toNat]!.2.1=2:=by with_reducible assumption
  have t1:scT s.1[k.toNat]! =⟨#[]⟩:=if_neg (by rw[t0];decide)
  have t3:tw s.1[k.toNat]!.2.1=(⟨#[32,98,111,111,108]⟩:ByteArray):=by rw[t0];decide
  first
  |(
   have t2:nuT s.1[k.toNat]! =nuB:=if_pos (by with_reducible assumption);rw[hB,dJ (by omega),tA,t1,t2,t3];simp only[ByteArray.append_assoc,gP];done)
  |(
   have t2:nuT s.1[k.toNat]! =⟨#[]⟩:=if_neg (by rw[show s.1[k.toNat]!.2.2.2=false by with_reducible assumption];exact Bool.noConfusion);rw[hB,dJ (by omega),tA,t1,t2,t3];simp only[ByteArray.append_assoc,gP];done))
  |(
  have t0:s.1[k.toNat]!.2.1=3:=by with_reducible assumption
  have t1:scT s.1[k.toNat]! =⟨#[]⟩:=if_neg (by rw[t0];decide)
  have t3:tw s.1[k.toNat]!.2.1=(⟨#[32,98,121,116,101,115]⟩:ByteArray):=by rw[t0];decide
  first
  |(
   have t2:nuT s.1[k.toNat]! =nuB:=if_pos (by with_reducible assumption);rw[hB,dJ (by omega),tA,t1,t2,t3];simp only[ByteArray.append_assoc,gP];done)
  |(
   have t2:nuT s.1[k.toNat]! =⟨#[]⟩:=if_neg (by rw[show s.1[k.toNat]!.2.2.2=false by with_reducible assumption];exact Bool.noConfusion);rw[hB,dJ (by omega),tA,t1,t2,t3];simp only[ByteArray.append_assoc,gP];done))
  |(
  have t0:s.1[k.toNat]!.2.1=4:=by with_reducible assumption
  have t1:scT s.1[k.toNat]! =⟨#[]⟩:=if_neg (by rw[t0];decide)
  have t3:tw s.1[k.toNat]!.2.1=(⟨#[32,100,97,116,101]⟩:ByteArray):=by rw[t0];decide
  first
  |(
   have t2:nuT s.1[k.toNat]! =nuB:=if_pos (by with_reducible assumption);rw[hB,dJ (by omega),tA,t1,t2,t3];simp only[ByteArray.append_assoc,gP];done)
  |(
   have t2:nuT s.1[k.toNat]! =⟨#[]⟩:=if_neg (by rw[show s.1[k.toNat]!.2.2.2=false by with_reducible assumption];exact Bool.noConfusion);rw[hB,dJ (by omega),tA,t1,t2,t3];simp only[ByteArray.append_assoc,gP];done))
  |(
  have kk:0<=k/\k<s.1.length:=by omega
  have qq:=fF (s:=s) (by with_reducible assumption) kk
  obtain⟨q1,q2,q3⟩:=qq
  have t0:s.1[k.toNat]!.2.1=5:=by omega
  have t1:scT s.1[k.toNat]! =⟨#[32]⟩++TX s.1[k.toNat]!.2.2.1:=if_pos t0
  have t3:tw s.1[k.toNat]!.2.1=(⟨#[32,100,101,99,105,109,97,108]⟩:ByteArray):=by rw[t0];decide
  have t4:(⟨#[32,100,101,99,105,109,97,108,32]⟩:ByteArray)=(⟨#[32,100,101,99,105,109,97,108]⟩:ByteArray)++⟨#[32]⟩:=by decide
  first
  |(
   have t2:nuT s.1[k.toNat]! =nuB:=if_pos (by with_reducible assumption);rw[hB,dJ (by omega),tA,t1,t2,t3,t4];simp only[ByteArray.append_assoc,gP];done)
  |(
   have t2:nuT s.1[k.toNat]! =⟨#[]⟩:=if_neg (by rw[show s.1[k.toNat]!.2.2.2=false by with_reducible assumption];exact Bool.noConfusion);rw[hB,dJ (by omega),tA,t1,t2,t3,t4];simp only[ByteArray.append_assoc,gP];done))
 ·first
  |exact Int.le_refl _
  |(
  have kk:0<=k/\k<s.1.length:=by omega
  have qq:=fF (s:=s) (by with_reducible assumption) kk
  obtain⟨q1,q2,q3⟩:=qq
  have z1:=qGZ q1
  have z2:=uY s.1[k.toNat]!.2.2.1
  have u1:(⟨#[32]⟩:ByteArray).size=1:=rfl
  have u2:(⟨#[10]⟩:ByteArray).size=1:=rfl
  have u3:(⟨#[32,110,117,108,108]⟩:ByteArray).size=5:=rfl
  have u5:xL.length=5:=rfl
  have v0:(⟨#[32,105,110,116]⟩:ByteArray).size=4:=rfl
  have v1:(⟨#[32,98,111,111,108]⟩:ByteArray).size=5:=rfl
  have v2:(⟨#[32,98,121,116,101,115]⟩:ByteArray).size=6:=rfl
  have v3:(⟨#[32,100,97,116,101]⟩:ByteArray).size=5:=rfl
  have v4:(⟨#[32,100,101,99,105,109,97,108,32]⟩:ByteArray).size=9:=rfl
  have q0:=bC (s:=s) (by with_reducible assumption)
  simp only[ByteArray.size_append]
  omega))
  |(
 with_reducible apply Side.mk
 (try dsimp only[cu,aC,aB,gts,loK,hiK,eE,eN])
 first
 |omega
 |(
  show _/\_;have kk:0<=k/\k<s.1.length:=by omega
  have qq:=fF (s:=s) (by with_reducible assumption) kk;obtain⟨q1,q2,q3⟩:=qq;omega)
 |(
  have kk:0<=k/\k<s.1.length:=by omega
  have qq:=fF (s:=s) (by with_reducible assumption) kk;obtain⟨q1,q2,q3⟩:=qq;have z1:=qGZ q1;have z2:=uY s.1[k.toNat]!.2.2.1;have u1:(⟨#[32]⟩:ByteArray).size=1:=rfl;have u2:(⟨#[10]⟩:ByteArray).size=1:=rfl;have u3:(⟨#[32,110,117,108,108]⟩:ByteArray).size=5:=rfl;have u5:xL.length=5:=rfl;have v0:(⟨#[32,105,110,116]⟩:ByteArray).size=4:=rfl;have v1:(⟨#[32,98,111,111,108]⟩:ByteArray).size=5:=rfl;have v2:(⟨#[32,98,121,116,101,115]⟩:ByteArray).size=6:=rfl;have v3:(⟨#[32,100,97,116,101]⟩:ByteArray).size=5:=rfl;have v4:(⟨#[32,100,101,99,105,109,97,108,32]⟩:ByteArray).size=9:=rfl;have q0:=bC (s:=s) (by with_reducible assumption);have w1:=q1.1;have w2:=q1.2;(try simp only[List.length_append,aQ,ByteArray.size_append]);omega)
 |(
  have q0:=bC (s:=s) (by with_reducible assumption);have kk:0<=s.2/\s.2<s.1.length:=by omega
  have qq:=fF (s:=s) (by with_reducible assumption) kk;obtain⟨q1,q2,q3⟩:=qq;have u1:(⟨#[107,101,121,32]⟩:ByteArray).size=4:=rfl;have u2:(⟨#[10]⟩:ByteArray).size=1:=rfl;(try simp only[List.length_append,aQ,ByteArray.size_append]);omega))
  |(conv=>whnf
    first
     |with_reducible first|done|exact trivial|refine NilBr.mk (fun h=>?_) ?_|apply aJ|apply aI|refine aK (by kernel_rfl) ?_|apply aL|apply bG|apply bF|apply aR
     |((with_reducible first|apply aT|apply aS|apply bD)<;>intro h<;>(try dsimp only[cu,eE,eN]at h)<;>(try(exfalso;omega)))
     |(
 intro yy (hy:Tag 79/\_)
 obtain⟨(k:Int),(b:ByteArray),_⟩:=yy
 replace hy:=hy.2
 dsimp only[cu,aC,aB,gts,eE,eN]at hy
 obtain⟨hk,hB,hz⟩:=hy)))
 all_goals(
 with_reducible apply Leaf.mk
 (try dsimp only[cu,aC,aB,gts,eE,eN]at *)
 first
 |rw[lN,if_pos (by with_reducible assumption)]
 |(
  have hk2:k=s.1.length:=by omega
  have hd:s.1.drop k.toNat= []:=List.drop_eq_nil_of_le (by omega);rw[hd]at hB;have hB2:nN []=(⟨#[]⟩:ByteArray):=rfl;rw[hB2,EO]at hB;rw[lN,if_neg (fun q=>q (by with_reducible assumption)),tS,qR6,hB];simp only[iZ,iI,ByteArray.append_assoc,gP];done)
 |(rw[lN,if_neg (fun q=>q (by with_reducible assumption))]))
abbrev qVH:Tbl:=(80,GP)::qVG
theorem XW:aD Tryz.prog qVH:=aD.cons qOO XV
abbrev qB6:Ct:=.fn [cE] (none) (fun(s:Schema)=>.tup [.int .u32,.int .i64] ((idS s).1,(idS s).2,()))
theorem qYR:aH Tryz.prog 61 qB6:=by
 refine aH.fn XW mixed [] [] rfl rfl ?_;rintro⟨(s:Schema),_⟩ -;refine⟨[],?_⟩;repeat' (first
  |(
 with_reducible apply Side.mk
 (try dsimp only[cu,aC,aB,gts,loK,hiK,eE,eN])
 (
  have hfs:=qCM (s:=s);omega))
  |(conv=>whnf
    first
     |with_reducible first|done|exact trivial|refine NilBr.mk (fun h=>?_) ?_|apply aJ|apply aI|refine aK (by kernel_rfl) ?_|apply aL|apply bG|apply bF|apply aR
     |((with_reducible first|apply aT|apply aS|apply bD)<;>intro h<;>(try dsimp only[cu,eE,eN]at h)<;>(try(exfalso;omega)))))
 all_goals(
 with_reducible apply Leaf.mk
 (try dsimp only[cu,aC,aB,gts,eE,eN]at *)
 first
 |(
  rw[qYP (by with_reducible assumption)];first|done|rfl)
 |(rw[qYQ (by with_reducible assumption)]))
abbrev qVI:Tbl:=(61,qB6)::qVH
theorem XX:aD Tryz.prog qVI:=aD.cons qYR XW
abbrev TD:Ct:=.fn [cE] (none) (fun(s:Schema)=>.tup [.int .u32,.int .i64] ((idS s).1,(idS s).2,()))
theorem qXK:aH Tryz.prog 37 TD:=by
 refine aH.fn XX mixed [] [] rfl rfl ?_;rintro⟨(s:Schema),_⟩ -;refine⟨[],?_⟩;repeat' (first
  |(
 with_reducible apply Side.mk
 (try dsimp only[cu,aC,aB,gts,loK,hiK,eE,eN])
 (
  have hfs:=qCM (s:=s);omega))
  |(conv=>whnf
    first
     |with_reducible first|done|exact trivial|refine NilBr.mk (fun h=>?_) ?_|apply aJ|apply aI|refine aK (by kernel_rfl) ?_|apply aL|apply bG|apply bF|apply aR
     |((with_reducible first|apply aT|apply aS|apply bD)<;>intro h<;>(try dsimp only[cu,eE,eN]at h)<;>(try(exfalso;omega)))))
 all_goals(
 with_reducible apply Leaf.mk
 (try dsimp only[cu,aC,aB,gts,eE,eN]at *)
 first
 |(
  rw[qYP (by with_reducible assumption)];first|done|rfl)
 |(rw[qYQ (by with_reducible assumption)]))
abbrev qVJ:Tbl:=(37,TD)::qVI
theorem XY:aD Tryz.prog qVJ:=aD.cons qXK XX
end Go.Proofs.YtcjiefknhfhmkaaGreatDoor
