import Derived.Lib.UnsafeStr
import Derived.Tactics2
import Derived.RegionTactic
import Derived.WalkKit
import Derived.Test.YtcjiefknhfhmkaaGreatDoorM10
namespace Go.Proofs.YtcjiefknhfhmkaaGreatDoor
open Go.Abs
set_option maxRecDepth 100000
set_option maxHeartbeats 4000000
set_option linter.unusedVariables false
set_option linter.unusedSimpArgs false
def nI (s:Schema) (row:List Val):Int:=if row.length≠s.1.length then 1 else bY (fun i v=>bN s.1[i.toNat]! v) 0 row
abbrev lK:Rank:=((false,0,⟨#[]⟩),0)
def eX (s:Schema) (r:Rec):Rank:=if s.2<0\/s.2>=r.2.length then lK else(r.2[s.2.toNat]!,r.1)
def mQ (t:Int) (a b:Rank):Int:=if gC t a.1 b.1≠0 then gC t a.1 b.1 else oX a.2 b.2
def nT (s:Schema) (r:Rec):Bool:=decide (0<=r.1)&&decide (r.1<=1099511627776)&&decide (nI s r.2=0)
def dB (s:Schema) (l:List Rec):Bool:=decide (bF s=0)&&l.all (nT s)
def pB (s:Schema) (a b:Rec):Int:=mQ s.1[s.2.toNat]!.2.1 (eX s a) (eX s b)
def qMG (s:Schema) (l:List Rec):Bool:=(List.range (l.length-1)).all fun i=>decide (pB s l[i]! l[i+1]! <0)
def cQ (s:Schema) (l:List Rec):Bool:=dB s l&&qMG s l
theorem eH {s:Schema} {l:List Rec} (h:dB s l=true):bF s=0/\∀i:Nat,i<l.length->nI s l[i]!.2=0:=by
 simp only[dB,Bool.and_eq_true,decide_eq_true_eq,List.all_eq_true]at h;refine⟨h.1,fun i hi=>?_⟩;have q:=h.2 l[i]! (by rw[getElem!_pos l i hi];exact List.getElem_mem hi);simp only[nT,Bool.and_eq_true,decide_eq_true_eq]at q;exact q.2
theorem gZ {b:Bool} (h:(!b)=false):b=true:=by cases b;cases h;rfl
theorem FB {b:Bool} (h:(!b)=true):b=false:=by cases b;rfl;cases h
def orI:List Int->Int
 | []=>0
 |x::l=>if x≠0 then x else orI l
theorem aX {s:Schema} (h:bF s=0):s.1.length<=12/\0<=s.2/\s.2<s.1.length:=by
 unfold bF at h;split at h
 ·cases h
 split at h
 ·cases h
 split at h
 ·contradiction
 split at h
 ·cases h
 ·omega
theorem qXU {i n:Nat} {k:Int} (h:i<n) (hk:¬k<n):i<k.toNat:=by omega
theorem qVE {s:Schema} {l:List Rec} {k:Int} (h:1<=k/\k<l.length) (hn:pB s l[(k-1).toNat]! l[k.toNat]! >=0):qMG s l=false:=by
 rw[qMG,List.all_eq_false];refine⟨(k-1).toNat,by rw[List.mem_range];omega,?_⟩;rw[show(k-1).toNat+1=k.toNat by omega,decide_eq_true_eq];omega
theorem qVF {s:Schema} {l:List Rec} (h:∀i:Nat,1<=i->i<l.length->pB s l[i-1]! l[i]! <0):qMG s l=true:=by
 rw[qMG,List.all_eq_true];intro i hi;rw[List.mem_range]at hi;rw[decide_eq_true_eq];exact h (i+1) (by omega) (by omega)
def oW (s:Schema) (r:Rec) (l:List Rec):Nat->Nat
 |0=>0
 |n+1=>if pB s r l[n]! <0 then oW s r l n else n+1
theorem qN8 (s:Schema) (r:Rec) (l:List Rec) (n:Nat):oW s r l n<=n:=by
 induction n with
 |zero=>exact Nat.le_refl _
 |succ n ih=>rw[oW];split<;>omega
theorem qN7 {s:Schema} {r:Rec} {l:List Rec} {k:Int} (h:k>0) (ho:pB s r l[(k-1).toNat]! <0):oW s r l k.toNat=oW s r l (k-1).toNat:=by
 obtain⟨n,rfl⟩:∃n:Nat,k=(n:Int)+1:=⟨(k-1).toNat,by omega⟩
 rw[show((n:Int)+1).toNat=n+1 by omega,show((n:Int)+1-1).toNat=n by omega]at *;rw[oW,if_pos ho]
theorem qCP {s:Schema} {r:Rec} {l:List Rec} {k:Int} (h:k>0) (ho:¬pB s r l[(k-1).toNat]! <0):oW s r l k.toNat=k.toNat:=by
 obtain⟨n,rfl⟩:∃n:Nat,k=(n:Int)+1:=⟨(k-1).toNat,by omega⟩
 rw[show((n:Int)+1).toNat=n+1 by omega,show((n:Int)+1-1).toNat=n by omega]at *;rw[oW,if_neg ho]
def kT (s:Schema) (o:List Rec) (r:Rec):List Rec:=o.take (oW s r o o.length)++ [r]++o.drop (oW s r o o.length)
theorem JP (s:Schema) (o:List Rec) (r:Rec):(kT s o r).length=o.length+1:=by
 have:=qN8 s r o o.length;simp only[kT,List.length_append,List.length_take,List.length_drop,List.length_cons,List.length_nil];omega
theorem qN6 {s:Schema} {r:Rec} {l:List Rec} {j:Int} (h:oW s r l l.length=oW s r l j.toNat) (h0:0<=j) (hs:¬j>0\/¬pB s r l[(j-1).toNat]! <0):oW s r l l.length=j.toNat:=by
 by_cases q:j>0
 ·rcases hs with hs|hs
  ·exact absurd q hs
  ·exact h.trans (qCP q hs)
 ·rw[h,show j.toNat=0 by omega];rfl
theorem AV {α:Type} (l:List α) (a n:Nat):TY l a n=(l.drop a).take n:=by cases a<;>rfl
theorem qFZ {α:Type} (l:List α) (a n:Nat):(TY l a n).length=min n (l.length-a):=by rw[AV,List.length_take,List.length_drop]
theorem QV {α:Type} (l:List α) (j:Int) (h:0<=j/\j<=l.length):TY l j.toNat ((l.length:Int)-j).toNat=l.drop j.toNat:=by rw[AV,List.take_of_length_le (by rw[List.length_drop];omega)]
theorem qZ7 {O:List Rec} {x:Rec} {j:Int} (h:j=O.length):TY O 0 j.toNat++ [x]++ []=O.take j.toNat++ [x]++O.drop j.toNat:=by rw[AV,List.drop_zero,List.drop_eq_nil_of_le (by omega)]
theorem qZ8 {O:List Rec} {x:Rec} {j:Int} (h:0<=j/\j<=O.length):TY O 0 j.toNat++ [x]++TY O j.toNat ((O.length:Int)-j).toNat=O.take j.toNat++ [x]++O.drop j.toNat:=by rw[AV,List.drop_zero,QV O j h]
theorem qZ9 {O:List Rec} {x:Rec} {j:Int} (h:O.length=0) (hj:0<=j/\j<=O.length):[x]++ []=O.take j.toNat++ [x]++O.drop j.toNat:=by rw[List.drop_eq_nil_of_le (by omega),show j.toNat=0 by omega];rfl
theorem qaA {O:List Rec} {x:Rec} {j:Int} (hj:0<=j/\j<=O.length) (h:j<=0):[x]++TY O j.toNat ((O.length:Int)-j).toNat=O.take j.toNat++ [x]++O.drop j.toNat:=by rw[QV O j hj,show j.toNat=0 by omega];rfl
def EP (s:Schema) (l:List Rec):List Rec:=if dB s l=true then l.foldl (kT s) []else[]
abbrev wO:Ct:=.fn [bM,.list bK] (some (fun(s:Schema) (row:List Val)=>(s.1.length<=12))) (fun(s:Schema) (row:List Val)=>.d (.int .i64) (nI s row))
theorem VP:aF Tryz.prog 118 wO:=by
 refine aF.fn ZA mixed [] [] rfl rfl ?_;rintro⟨(s:Schema),(row:List Val),_⟩ hpre;replace hpre:=hpre _ rfl;dsimp only[cu]at hpre;have hs:=hpre;refine⟨[(0,8,LA.mk [.sl 16 (.int .i64)] (fun y=>Tag 76/\cu [.int .i64] (fun(k:Int)=>(0<=k/\k<=row.length)/\(bY (fun i v=>bN s.1[i.toNat]! v) 0 row=bY (fun i v=>bN s.1[i.toNat]! v) k (row.drop k.toNat))) y) (cu [.int .i64] (fun(k:Int)=>((row.length:Int)-k).toNat)) (cu [.int .i64] (fun(k:Int)=>([]:List (Nat×Nat×LA)))))],?_⟩;repeat' (first
  |(
 with_reducible refine Side.mk ⟨(⟨⟩:Tag 76),?_⟩
 dsimp only[cu,aC,aB,gts,eE,eN]
 refine⟨?_,?_⟩
 ·omega
 ·first
  |simp;done
  |(
  rw[bO _ _ (by omega)]at hr
  rw[hr,bY,if_pos (by assumption)]))
  |(
 with_reducible apply Side.mk
 (try dsimp only[cu,aC,aB,gts,loK,hiK,eE,eN])
 omega)
  |(conv=>whnf
    first
     |with_reducible first|done|exact trivial|refine NilBr.mk (fun h=>?_) ?_|apply aI|apply aH|refine aJ (by kernel_rfl) ?_|apply aK|apply bE|apply bD|apply aQ
     |((with_reducible first|apply aS|apply aR|apply bB)<;>intro h<;>(try dsimp only[cu,eE,eN]at h)<;>(try(exfalso;omega)))
     |(
 intro yy (hy:Tag 76/\_)
 obtain⟨(k:Int),_⟩:=yy
 replace hy:=hy.2
 dsimp only[cu,aC,aB,gts,eE,eN]at hy
 obtain⟨hk,hr⟩:=hy)))
 all_goals(
 with_reducible apply Leaf.mk
 (try dsimp only[cu,aC,aB,gts,eE,eN]at *)
 first
 |grind [nI]
 |(
  rw[bO _ _ (by omega),bY]at hr;grind [nI])
 |(
  rw[mV _ _ (by omega)]at hr;grind [nI,bY]))
abbrev qV7:Tbl:=(118,wO)::qV6
theorem ZB:aD Tryz.prog qV7:=aD.cons VP ZA
abbrev MK:Ct:=.fn [bM,.list bK] (some (fun(s:Schema) (row:List Val)=>(s.1.length<=12))) (fun(s:Schema) (row:List Val)=>.d (.int .i64) (nI s row))
theorem qRW:aF Tryz.prog 137 MK:=by
 refine aF.fn ZB mixed [] [] rfl rfl ?_;rintro⟨(s:Schema),(row:List Val),_⟩ hpre;replace hpre:=hpre _ rfl;dsimp only[cu]at hpre;have hs:=hpre;refine⟨[(0,8,LA.mk [.sl 16 (.int .i64)] (fun y=>Tag 77/\cu [.int .i64] (fun(k:Int)=>(0<=k/\k<=row.length)/\(bY (fun i v=>bN s.1[i.toNat]! v) 0 row=bY (fun i v=>bN s.1[i.toNat]! v) k (row.drop k.toNat))) y) (cu [.int .i64] (fun(k:Int)=>((row.length:Int)-k).toNat)) (cu [.int .i64] (fun(k:Int)=>([]:List (Nat×Nat×LA)))))],?_⟩;repeat' (first
  |(
 with_reducible refine Side.mk ⟨(⟨⟩:Tag 77),?_⟩
 dsimp only[cu,aC,aB,gts,eE,eN]
 refine⟨?_,?_⟩
 ·omega
 ·first
  |simp;done
  |(
  rw[bO _ _ (by omega)]at hr
  rw[hr,bY,if_pos (by assumption)]))
  |(
 with_reducible apply Side.mk
 (try dsimp only[cu,aC,aB,gts,loK,hiK,eE,eN])
 omega)
  |(conv=>whnf
    first
     |with_reducible first|done|exact trivial|refine NilBr.mk (fun h=>?_) ?_|apply aI|apply aH|refine aJ (by kernel_rfl) ?_|apply aK|apply bE|apply bD|apply aQ
     |((with_reducible first|apply aS|apply aR|apply bB)<;>intro h<;>(try dsimp only[cu,eE,eN]at h)<;>(try(exfalso;omega)))
     |(
 intro yy (hy:Tag 77/\_)
 obtain⟨(k:Int),_⟩:=yy
 replace hy:=hy.2
 dsimp only[cu,aC,aB,gts,eE,eN]at hy
 obtain⟨hk,hr⟩:=hy)))
 all_goals(
 with_reducible apply Leaf.mk
 (try dsimp only[cu,aC,aB,gts,eE,eN]at *)
 first
 |grind [nI]
 |(
  rw[bO _ _ (by omega),bY]at hr;grind [nI])
 |(
  rw[mV _ _ (by omega)]at hr;grind [nI,bY]))
abbrev qV8:Tbl:=(137,MK)::qV7
theorem ZC:aD Tryz.prog qV8:=aD.cons qRW ZB
abbrev HZ:Ct:=.fn [bM,eF] (none) (fun(s:Schema) (r:Rec)=>.d tE (eX s r))
theorem qP2:aF Tryz.prog 30 HZ:=by
 refine aF.fn ZC mixed [] [] rfl rfl ?_;rintro⟨(s:Schema),(r:Rec),_⟩ -;refine⟨[],?_⟩;repeat' (first
  |(
 with_reducible apply Side.mk
 (try dsimp only[cu,aC,aB,gts,loK,hiK,eE,eN])
 omega)
  |(conv=>whnf
    first
     |with_reducible first|done|exact trivial|refine NilBr.mk (fun h=>?_) ?_|apply aI|apply aH|refine aJ (by kernel_rfl) ?_|apply aK|apply bE|apply bD|apply aQ
     |((with_reducible first|apply aS|apply aR|apply bB)<;>intro h<;>(try dsimp only[cu,eE,eN]at h)<;>(try(exfalso;omega)))))
 all_goals(
 with_reducible apply Leaf.mk
 (try dsimp only[cu,aC,aB,gts,eE,eN]at *)
 first
 |rw[eX,if_pos (by omega)]
 |(rw[eX,if_neg (by omega)]))
abbrev qV9:Tbl:=(30,HZ)::qV8
theorem ZD:aD Tryz.prog qV9:=aD.cons qP2 ZC
abbrev GS:Ct:=.fn [bM,eF] (none) (fun(s:Schema) (r:Rec)=>.d tE (eX s r))
theorem qMM:aF Tryz.prog 98 GS:=by
 refine aF.fn ZD mixed [] [] rfl rfl ?_;rintro⟨(s:Schema),(r:Rec),_⟩ -;refine⟨[],?_⟩;repeat' (first
  |(
 with_reducible apply Side.mk
 (try dsimp only[cu,aC,aB,gts,loK,hiK,eE,eN])
 omega)
  |(conv=>whnf
    first
     |with_reducible first|done|exact trivial|refine NilBr.mk (fun h=>?_) ?_|apply aI|apply aH|refine aJ (by kernel_rfl) ?_|apply aK|apply bE|apply bD|apply aQ
     |((with_reducible first|apply aS|apply aR|apply bB)<;>intro h<;>(try dsimp only[cu,eE,eN]at h)<;>(try(exfalso;omega)))))
 all_goals(
 with_reducible apply Leaf.mk
 (try dsimp only[cu,aC,aB,gts,eE,eN]at *)
 first
 |rw[eX,if_pos (by omega)]
 |(rw[eX,if_neg (by omega)]))
abbrev qWA:Tbl:=(98,GS)::qV9
theorem ZE:aD Tryz.prog qWA:=aD.cons qMM ZD
abbrev IA:Ct:=.fn [.int .i64,tE,tE] (none) (fun(t:Int) (a:Rank) (b:Rank)=>.d (.int .i64) (mQ t a b))
theorem qP3:aF Tryz.prog 78 IA:=by
 refine aF.fn ZE mixed [] [] rfl rfl ?_;rintro⟨(t:Int),(a:Rank),(b:Rank),_⟩ -;refine⟨[],?_⟩;repeat' (first
  |(
 with_reducible apply Side.mk
 (try dsimp only[cu,aC,aB,gts,loK,hiK,eE,eN])
 done)
  |(conv=>whnf
    first
     |with_reducible first|done|exact trivial|refine NilBr.mk (fun h=>?_) ?_|apply aI|apply aH|refine aJ (by kernel_rfl) ?_|apply aK|apply bE|apply bD|apply aQ
     |((with_reducible first|apply aS|apply aR|apply bB)<;>intro h<;>(try dsimp only[cu,eE,eN]at h)<;>(try(exfalso;omega)))))
 all_goals(
 with_reducible apply Leaf.mk
 (try dsimp only[cu,aC,aB,gts,eE,eN]at *)
 grind [mQ,oX])
abbrev qWB:Tbl:=(78,IA)::qWA
theorem ZF:aD Tryz.prog qWB:=aD.cons qP3 ZE
abbrev VB:Ct:=.fn [.list (.int .i64)] (some (fun(l:List Int)=>(l.length<=9223372036854775807))) (fun(l:List Int)=>.d (.int .i64) (orI l))
theorem qYY:aF Tryz.prog 130 VB:=by
 refine aF.fn ZF mixed [] [] rfl rfl ?_;rintro⟨(l:List Int),_⟩ hpre;replace hpre:=hpre _ rfl;dsimp only[cu]at hpre;have hl:=hpre;refine⟨[(0,6,LA.mk [.sl 8 (.int .i64)] (fun y=>Tag 78/\cu [.int .i64] (fun(k:Int)=>(0<=k/\k<=l.length)/\(orI l=orI (l.drop k.toNat))) y) (cu [.int .i64] (fun(k:Int)=>((l.length:Int)-k).toNat)) (cu [.int .i64] (fun(k:Int)=>([]:List (Nat×Nat×LA)))))],?_⟩;repeat' (first
  |(
 with_reducible refine Side.mk ⟨(⟨⟩:Tag 78),?_⟩
 dsimp only[cu,aC,aB,gts,eE,eN]
 refine⟨?_,?_⟩
 ·omega
 ·first
  |rfl
  |(
  rw[bO _ _ (by omega),orI,if_neg (fun q=>q (by assumption))]at hz
  exact hz))
  |(
 with_reducible apply Side.mk
 (try dsimp only[cu,aC,aB,gts,loK,hiK,eE,eN])
 omega)
  |(conv=>whnf
    first
     |with_reducible first|done|exact trivial|refine NilBr.mk (fun h=>?_) ?_|apply aI|apply aH|refine aJ (by kernel_rfl) ?_|apply aK|apply bE|apply bD|apply aQ
     |((with_reducible first|apply aS|apply aR|apply bB)<;>intro h<;>(try dsimp only[cu,eE,eN]at h)<;>(try(exfalso;omega)))
     |(
 intro yy (hy:Tag 78/\_)
 obtain⟨(k:Int),_⟩:=yy
 replace hy:=hy.2
 dsimp only[cu,aC,aB,gts,eE,eN]at hy
 obtain⟨hk,hz⟩:=hy)))
 all_goals(
 with_reducible apply Leaf.mk
 (try dsimp only[cu,aC,aB,gts,eE,eN]at *)
 first
 |rw[hz,bO _ _ (by omega),orI,if_pos (by assumption)]
 |(
  rw[hz,mV _ _ (by omega)];rfl))
abbrev qWC:Tbl:=(130,VB)::qWB
theorem ZG:aD Tryz.prog qWC:=aD.cons qYY ZF
abbrev GT:Ct:=.fn [.int .i64,tE,tE] (none) (fun(t:Int) (a:Rank) (b:Rank)=>.d (.int .i64) (mQ t a b))
theorem qMN:aF Tryz.prog 94 GT:=by
 refine aF.fn ZG mixed [] [] rfl rfl ?_;rintro⟨(t:Int),(a:Rank),(b:Rank),_⟩ -;refine⟨[],?_⟩;repeat' (first
  |(
 with_reducible apply Side.mk
 (try dsimp only[cu,aC,aB,gts,loK,hiK,eE,eN])
 (simp only[List.length_append,List.length_cons,List.length_nil];omega))
  |(conv=>whnf
    first
     |with_reducible first|done|exact trivial|refine NilBr.mk (fun h=>?_) ?_|apply aI|apply aH|refine aJ (by kernel_rfl) ?_|apply aK|apply bE|apply bD|apply aQ
     |((with_reducible first|apply aS|apply aR|apply bB)<;>intro h<;>(try dsimp only[cu,eE,eN]at h)<;>(try(exfalso;omega)))))
 all_goals(
 with_reducible apply Leaf.mk
 (try dsimp only[cu,aC,aB,gts,eE,eN]at *)
 (
  simp only[orI,mQ];grind))
abbrev qWD:Tbl:=(94,GT)::qWC
theorem ZH:aD Tryz.prog qWD:=aD.cons qMN ZG
abbrev DM:Ct:=.fn [bM,eF,eF] (some (fun(s:Schema) (a:Rec) (b:Rec)=>(0<=s.2/\s.2<s.1.length))) (fun(s:Schema) (a:Rec) (b:Rec)=>.d (.int .i64) (pB s a b))
theorem qKR:aF Tryz.prog 97 DM:=by
 refine aF.fn ZH mixed [] [] rfl rfl ?_;rintro⟨(s:Schema),(a:Rec),(b:Rec),_⟩ hpre;replace hpre:=hpre _ rfl;dsimp only[cu]at hpre;have hk:=hpre;refine⟨[],?_⟩;repeat' (first
  |(
 with_reducible apply Side.mk
 (try dsimp only[cu,aC,aB,gts,loK,hiK,eE,eN])
 omega)
  |(conv=>whnf
    first
     |with_reducible first|done|exact trivial|refine NilBr.mk (fun h=>?_) ?_|apply aI|apply aH|refine aJ (by kernel_rfl) ?_|apply aK|apply bE|apply bD|apply aQ
     |((with_reducible first|apply aS|apply aR|apply bB)<;>intro h<;>(try dsimp only[cu,eE,eN]at h)<;>(try(exfalso;omega)))))
 all_goals(
 with_reducible apply Leaf.mk
 (try dsimp only[cu,aC,aB,gts,eE,eN]at *)
 rfl)
abbrev qWE:Tbl:=(97,DM)::qWD
theorem ZI:aD Tryz.prog qWE:=aD.cons qKR ZH
abbrev yM:Ct:=.fn [bM] (some (fun(s:Schema)=>(0<=s.2/\s.2<s.1.length))) (fun(s:Schema)=>.d (.int .i64) (s.1[s.2.toNat]!.2.1))
theorem qCU:aF Tryz.prog 79 yM:=by
 refine aF.fn ZI mixed [] [] rfl rfl ?_;rintro⟨(s:Schema),_⟩ hpre;replace hpre:=hpre _ rfl;dsimp only[cu]at hpre;have hk:=hpre;refine⟨[],?_⟩;repeat' (first
  |(
 with_reducible apply Side.mk
 (try dsimp only[cu,aC,aB,gts,loK,hiK,eE,eN])
 omega)
  |(conv=>whnf
    first
     |with_reducible first|done|exact trivial|refine NilBr.mk (fun h=>?_) ?_|apply aI|apply aH|refine aJ (by kernel_rfl) ?_|apply aK|apply bE|apply bD|apply aQ
     |((with_reducible first|apply aS|apply aR|apply bB)<;>intro h<;>(try dsimp only[cu,eE,eN]at h)<;>(try(exfalso;omega)))))
 all_goals(
 with_reducible apply Leaf.mk
 (try dsimp only[cu,aC,aB,gts,eE,eN]at *)
 done)
abbrev qWF:Tbl:=(79,yM)::qWE
theorem ZJ:aD Tryz.prog qWF:=aD.cons qCU ZI
abbrev DQ:Ct:=.fn [bM,.list eF] (some (fun(s:Schema) (l:List Rec)=>(l.length<=9223372036854775807))) (fun(s:Schema) (l:List Rec)=>.d .bool (dB s l))
theorem qKX:aF Tryz.prog 77 DQ:=by
 refine aF.fn ZJ mixed [] [] rfl rfl ?_;rintro⟨(s:Schema),(l:List Rec),_⟩ hpre;replace hpre:=hpre _ rfl;dsimp only[cu]at hpre;have hl:=hpre;refine⟨[(0,8,LA.mk [.sl 12 (.int .i64)] (fun y=>Tag 79/\cu [.int .i64] (fun(k:Int)=>(0<=k/\k<=l.length)/\(l.all (nT s)=(l.drop k.toNat).all (nT s))) y) (cu [.int .i64] (fun(k:Int)=>((l.length:Int)-k).toNat)) (cu [.int .i64] (fun(k:Int)=>([]:List (Nat×Nat×LA)))))],?_⟩;repeat' (first
  |(
 with_reducible refine Side.mk ⟨(⟨⟩:Tag 79),?_⟩
 dsimp only[cu,aC,aB,gts,eE,eN]
 refine⟨?_,?_⟩
 ·omega
 ·first
  |simp;done
  |(
  rw[bO _ _ (by omega)]at hv
  rw[hv,List.all_cons,show nT s l[k.toNat]! =true by grind [nT],Bool.true_and]))
  |(
 with_reducible apply Side.mk
 (try dsimp only[cu,aC,aB,gts,loK,hiK,eE,eN])
 first
 |omega
 |(have:=(aX (s:=s) (by assumption)).1;omega))
  |(conv=>whnf
    first
     |with_reducible first|done|exact trivial|refine NilBr.mk (fun h=>?_) ?_|apply aI|apply aH|refine aJ (by kernel_rfl) ?_|apply aK|apply bE|apply bD|apply aQ
     |((with_reducible first|apply aS|apply aR|apply bB)<;>intro h<;>(try dsimp only[cu,eE,eN]at h)<;>(try(exfalso;omega)))
     |(
 intro yy (hy:Tag 79/\_)
 obtain⟨(k:Int),_⟩:=yy
 replace hy:=hy.2
 dsimp only[cu,aC,aB,gts,eE,eN]at hy
 obtain⟨hk,hv⟩:=hy)))
 all_goals(
 with_reducible apply Leaf.mk
 (try dsimp only[cu,aC,aB,gts,eE,eN]at *)
 first
 |(
  rw[dB,decide_eq_false (by assumption)];rfl)
 |(
  rw[bO _ _ (by omega)]at hv;rw[dB,hv,List.all_cons,show nT s l[k.toNat]! =false by grind [nT]];simp;done)
 |(
  rw[mV _ _ (by omega)]at hv;rw[dB,hv];simp_all))
abbrev qWG:Tbl:=(77,DQ)::qWF
theorem ZK:aD Tryz.prog qWG:=aD.cons qKX ZJ
abbrev DA:Ct:=.fn [bM,.list eF] (some (fun(s:Schema) (l:List Rec)=>(l.length<=9223372036854775807))) (fun(s:Schema) (l:List Rec)=>.d .bool (dB s l))
theorem qJI:aF Tryz.prog 96 DA:=by
 refine aF.fn ZK mixed [] [135,167,136] rfl rfl ?_;rintro⟨(s:Schema),(l:List Rec),_⟩ hpre;replace hpre:=hpre _ rfl;dsimp only[cu]at hpre;have hl:=hpre;refine⟨[(167,4,LA.mk [.sl 8 (.int .i64)] (fun y=>Tag 80/\cu [.int .i64] (fun(k:Int)=>(0<=k/\k<=l.length)/\(l.all (nT s)=(l.drop k.toNat).all (nT s))) y) (cu [.int .i64] (fun(k:Int)=>((l.length:Int)-k).toNat)) (cu [.int .i64] (fun(k:Int)=>([]:List (Nat×Nat×LA)))))],?_⟩;repeat' (first
  |(
 with_reducible refine Side.mk ⟨(⟨⟩:Tag 80),?_⟩
 dsimp only[cu,aC,aB,gts,eE,eN]
 refine⟨?_,?_⟩
 ·omega
 ·first
  |simp;done
  |(
  rw[bO _ _ (by omega)]at hv
  rw[hv,List.all_cons,show nT s l[k.toNat]! =true by grind [nT],Bool.true_and]))
  |(
 with_reducible apply Side.mk
 (try dsimp only[cu,aC,aB,gts,loK,hiK,eE,eN])
 first
 |omega
 |(have:=(aX (s:=s) (by assumption)).1;omega))
  |(conv=>whnf
    first
     |with_reducible first|done|exact trivial|refine NilBr.mk (fun h=>?_) ?_|apply aI|apply aH|refine aJ (by kernel_rfl) ?_|apply aK|apply bE|apply bD|apply aQ
     |((with_reducible first|apply aS|apply aR|apply bB)<;>intro h<;>(try dsimp only[cu,eE,eN]at h)<;>(try(exfalso;omega)))
     |(
 intro yy (hy:Tag 80/\_)
 obtain⟨(k:Int),_⟩:=yy
 replace hy:=hy.2
 dsimp only[cu,aC,aB,gts,eE,eN]at hy
 obtain⟨hk,hv⟩:=hy)))
 all_goals(
 with_reducible apply Leaf.mk
 (try dsimp only[cu,aC,aB,gts,eE,eN]at *)
 first
 |(
  rw[dB,decide_eq_false (by assumption)];rfl)
 |(
  rw[bO _ _ (by omega)]at hv;rw[dB,hv,List.all_cons,show nT s l[k.toNat]! =false by grind [nT]];simp;omega)
 |(
  rw[mV _ _ (by omega)]at hv;rw[dB,hv];simp_all))
abbrev qWH:Tbl:=(96,DA)::qWG
theorem ZL:aD Tryz.prog qWH:=aD.cons qJI ZK
abbrev yZ:Ct:=.fn [bM,.list eF] (some (fun(s:Schema) (l:List Rec)=>(l.length<=1099511627776))) (fun(s:Schema) (l:List Rec)=>.d .bool (cQ s l))
theorem qDM:aF Tryz.prog 38 yZ:=by
 refine aF.fn ZL mixed [] [] rfl rfl ?_;rintro⟨(s:Schema),(l:List Rec),_⟩ hpre;replace hpre:=hpre _ rfl;dsimp only[cu]at hpre;have hl:=hpre;refine⟨[(0,8,LA.mk [.sl 5 (.int .i64)] (fun y=>Tag 81/\cu [.int .i64] (fun(k:Int)=>(1<=k/\(k<=l.length\/k=1))/\(∀i:Nat,1<=i->i<k.toNat->pB s l[i-1]! l[i]! <0)) y) (cu [.int .i64] (fun(k:Int)=>((l.length:Int)-k).toNat)) (cu [.int .i64] (fun(k:Int)=>([]:List (Nat×Nat×LA)))))],?_⟩;repeat' (first
  |(
 with_reducible refine Side.mk ⟨(⟨⟩:Tag 81),?_⟩
 dsimp only[cu,aC,aB,gts,eE,eN]
 refine⟨?_,?_⟩
 ·omega
 ·first
  |intro i h1 h2;omega
  |(
  intro i h1 h2
  by_cases q:i<k.toNat
  ·exact ha i h1 q
  ·have e:i=k.toNat:=by omega
   subst e;rw[show k.toNat-1=(k-1).toNat by omega];unfold pB;omega))
  |(
 with_reducible apply Side.mk
 (try dsimp only[cu,aC,aB,gts,loK,hiK,eE,eN])
 first
 |omega
 |(exact(aX (eH (s:=s) (l:=l) (gZ (by assumption))).1).2))
  |(conv=>whnf
    first
     |with_reducible first|done|exact trivial|refine NilBr.mk (fun h=>?_) ?_|apply aI|apply aH|refine aJ (by kernel_rfl) ?_|apply aK|apply bE|apply bD|apply aQ
     |((with_reducible first|apply aS|apply aR|apply bB)<;>intro h<;>(try dsimp only[cu,eE,eN]at h)<;>(try(exfalso;omega)))
     |(
 intro yy (hy:Tag 81/\_)
 obtain⟨(k:Int),_⟩:=yy
 replace hy:=hy.2
 dsimp only[cu,aC,aB,gts,eE,eN]at hy
 obtain⟨hk,ha⟩:=hy)))
 all_goals(
 with_reducible apply Leaf.mk
 (try dsimp only[cu,aC,aB,gts,eE,eN]at *)
 first
 |(
  rw[cQ,FB (b:=dB s l) (by assumption)];rfl)
 |(
  have q:=qVE (s:=s) (l:=l) (k:=k) (by omega) (by assumption);rw[cQ,q,Bool.and_false])
 |(
  have q:=qVF (s:=s) (l:=l) (fun i h1 h2=>ha i h1 (qXU h2 (by omega)));rw[cQ,q,gZ (b:=dB s l) (by assumption)];rfl))
abbrev qWI:Tbl:=(38,yZ)::qWH
theorem ZM:aD Tryz.prog qWI:=aD.cons qDM ZL
abbrev yJ:Ct:=.fn [bM,.list eF] (some (fun(s:Schema) (l:List Rec)=>(l.length<=1099511627776))) (fun(s:Schema) (l:List Rec)=>.d .bool (cQ s l))
theorem qBV:aF Tryz.prog 50 yJ:=by
 refine aF.fn ZM mixed [] [] rfl rfl ?_;rintro⟨(s:Schema),(l:List Rec),_⟩ hpre;replace hpre:=hpre _ rfl;dsimp only[cu]at hpre;have hl:=hpre;refine⟨[(0,8,LA.mk [.sl 5 (.int .i64)] (fun y=>Tag 82/\cu [.int .i64] (fun(k:Int)=>(1<=k/\(k<=l.length\/k=1))/\(∀i:Nat,1<=i->i<k.toNat->pB s l[i-1]! l[i]! <0)) y) (cu [.int .i64] (fun(k:Int)=>((l.length:Int)-k).toNat)) (cu [.int .i64] (fun(k:Int)=>([]:List (Nat×Nat×LA)))))],?_⟩;repeat' (first
  |(
 with_reducible refine Side.mk ⟨(⟨⟩:Tag 82),?_⟩
 dsimp only[cu,aC,aB,gts,eE,eN]
 refine⟨?_,?_⟩
 ·omega
 ·first
  |intro i h1 h2;omega
  |(
  intro i h1 h2
  by_cases q:i<k.toNat
  ·exact ha i h1 q
  ·have e:i=k.toNat:=by omega
   subst e;rw[show k.toNat-1=(k-1).toNat by omega];omega))
  |(
 with_reducible apply Side.mk
 (try dsimp only[cu,aC,aB,gts,loK,hiK,eE,eN])
 first
 |omega
 |(exact(aX (eH (s:=s) (l:=l) (gZ (by assumption))).1).2))
  |(conv=>whnf
    first
     |with_reducible first|done|exact trivial|refine NilBr.mk (fun h=>?_) ?_|apply aI|apply aH|refine aJ (by kernel_rfl) ?_|apply aK|apply bE|apply bD|apply aQ
     |((with_reducible first|apply aS|apply aR|apply bB)<;>intro h<;>(try dsimp only[cu,eE,eN]at h)<;>(try(exfalso;omega)))
     |(
 intro yy (hy:Tag 82/\_)
 obtain⟨(k:Int),_⟩:=yy
 replace hy:=hy.2
 dsimp only[cu,aC,aB,gts,eE,eN]at hy
 obtain⟨hk,ha⟩:=hy)))
 all_goals(
 with_reducible apply Leaf.mk
 (try dsimp only[cu,aC,aB,gts,eE,eN]at *)
 first
 |(
  rw[cQ,FB (b:=dB s l) (by assumption)];rfl)
 |(
  have q:=qVE (s:=s) (l:=l) (k:=k) (by omega) (by assumption);rw[cQ,q,Bool.and_false])
 |(
  have q:=qVF (s:=s) (l:=l) (fun i h1 h2=>ha i h1 (qXU h2 (by omega)));rw[cQ,q,gZ (b:=dB s l) (by assumption)];rfl))
abbrev qWJ:Tbl:=(50,yJ)::qWI
theorem ZN:aD Tryz.prog qWJ:=aD.cons qBV ZM
abbrev zC:Ct:=.fn [eF,eF] (some (fun(a:Rec) (b:Rec)=>(a.2.length<=9223372036854775807))) (fun(a:Rec) (b:Rec)=>.d .bool (decide (a=b)))
theorem qDS:aF Tryz.prog 76 zC:=by
 refine aF.fn ZN mixed [] [] rfl rfl ?_;rintro⟨(a:Rec),(b:Rec),_⟩ hpre;replace hpre:=hpre _ rfl;dsimp only[cu]at hpre;have ha:=hpre;refine⟨[],?_⟩;repeat' (first
  |(
 with_reducible apply Side.mk
 (try dsimp only[cu,aC,aB,gts,loK,hiK,eE,eN])
 omega)
  |(conv=>whnf
    first
     |with_reducible first|done|exact trivial|refine NilBr.mk (fun h=>?_) ?_|apply aI|apply aH|refine aJ (by kernel_rfl) ?_|apply aK|apply bE|apply bD|apply aQ
     |((with_reducible first|apply aS|apply aR|apply bB)<;>intro h<;>(try dsimp only[cu,eE,eN]at h)<;>(try(exfalso;omega)))))
 all_goals(
 with_reducible apply Leaf.mk
 (try dsimp only[cu,aC,aB,gts,eE,eN]at *)
 (simp_all [Prod.ext_iff];done))
abbrev qWK:Tbl:=(76,zC)::qWJ
theorem ZO:aD Tryz.prog qWK:=aD.cons qDS ZN
abbrev wV:Ct:=.fn [.list eF,.list eF] (some (fun(a:List Rec) (b:List Rec)=>(a.length<=9223372036854775807)/\(∀i:Nat,a[i]!.2.length<=1099511627776))) (fun(a:List Rec) (b:List Rec)=>.d .bool (decide (a=b)))
theorem YL:aF Tryz.prog 29 wV:=by
 refine aF.fn ZO mixed [] [] rfl rfl ?_;rintro⟨(a:List Rec),(b:List Rec),_⟩ hpre;replace hpre:=hpre _ rfl;dsimp only[cu]at hpre;obtain⟨ha,hr⟩:=hpre;refine⟨[(0,8,LA.mk [.sl 13 (.int .i64)] (fun y=>Tag 83/\cu [.int .i64] (fun(k:Int)=>(0<=k/\k<=a.length)/\(a.take k.toNat=b.take k.toNat)) y) (cu [.int .i64] (fun(k:Int)=>((a.length:Int)-k).toNat)) (cu [.int .i64] (fun(k:Int)=>([]:List (Nat×Nat×LA)))))],?_⟩;repeat' (first
  |(
 with_reducible refine Side.mk ⟨(⟨⟩:Tag 83),?_⟩
 dsimp only[cu,aC,aB,gts,eE,eN]
 refine⟨?_,?_⟩
 ·omega
 ·first
  |rfl
  |(
  have e1:k.toNat<a.length:=by omega
  have e2:k.toNat<b.length:=by omega
  have e3:a[k.toNat]! =b[k.toNat]!:=by simp_all
  rw[getElem!_pos a k.toNat e1,getElem!_pos b k.toNat e2]at e3
  rw[show(k+1).toNat=k.toNat+1 by omega,List.take_add_one,List.take_add_one,hs,List.getElem?_eq_getElem e1,List.getElem?_eq_getElem e2,e3]))
  |(
 with_reducible apply Side.mk
 (try dsimp only[cu,aC,aB,gts,loK,hiK,eE,eN])
 first
 |omega
 |(have:=hr k.toNat;omega))
  |(conv=>whnf
    first
     |with_reducible first|done|exact trivial|refine NilBr.mk (fun h=>?_) ?_|apply aI|apply aH|refine aJ (by kernel_rfl) ?_|apply aK|apply bE|apply bD|apply aQ
     |((with_reducible first|apply aS|apply aR|apply bB)<;>intro h<;>(try dsimp only[cu,eE,eN]at h)<;>(try(exfalso;omega)))
     |(
 intro yy (hy:Tag 83/\_)
 obtain⟨(k:Int),_⟩:=yy
 replace hy:=hy.2
 dsimp only[cu,aC,aB,gts,eE,eN]at hy
 obtain⟨hk,hs⟩:=hy)))
 all_goals(
 with_reducible apply Leaf.mk
 (try dsimp only[cu,aC,aB,gts,eE,eN]at *)
 first
 |(
  have hab:a=b:=by
   have h2:=hs;rw[List.take_of_length_le (by omega),List.take_of_length_le (by omega)]at h2;exact h2
  rw[decide_eq_true hab])
 |(
  have hne:¬a=b:=fun q=>by subst q;omega
  rw[decide_eq_false hne])
 |(
  have hne:¬a=b:=fun q=>by subst q;simp_all
  rw[decide_eq_false hne]))
abbrev qWL:Tbl:=(29,wV)::qWK
theorem ZP:aD Tryz.prog qWL:=aD.cons YL ZO
instance zoneDec:DecidableEq Zone:=fun a b=>decidable_of_iff (a.1=b.1/\a.2.1=b.2.1/\a.2.2.1=b.2.2.1/\a.2.2.2=b.2.2.2) (by simp only[Prod.ext_iff])
instance zonesDec:DecidableEq (List Zone):=@instDecidableEqList Zone zoneDec
instance infoDec:DecidableEq Info:=fun a b=>@decidable_of_iff _ (a.1=b.1/\a.2.1=b.2.1/\a.2.2.1=b.2.2.1/\a.2.2.2=b.2.2.2) (by simp only[Prod.ext_iff]) (@instDecidableAnd _ _ _ (@instDecidableAnd _ _ (zonesDec _ _) _))
abbrev IK:Ct:=.fn [.list gA,.list gA] (some (fun(a:List Zone) (b:List Zone)=>(a.length<=9223372036854775807))) (fun(a:List Zone) (b:List Zone)=>.d .bool (decide (a=b)))
theorem qQD:aF Tryz.prog 102 IK:=by
 refine aF.fn ZP mixed [] [] rfl rfl ?_;rintro⟨(a:List Zone),(b:List Zone),_⟩ hpre;replace hpre:=hpre _ rfl;dsimp only[cu]at hpre;have ha:=hpre;refine⟨[(0,8,LA.mk [.sl 13 (.int .i64)] (fun y=>Tag 84/\cu [.int .i64] (fun(k:Int)=>(0<=k/\k<=a.length)/\(a.take k.toNat=b.take k.toNat)) y) (cu [.int .i64] (fun(k:Int)=>((a.length:Int)-k).toNat)) (cu [.int .i64] (fun(k:Int)=>([]:List (Nat×Nat×LA)))))],?_⟩;repeat' (first
  |(
 with_reducible refine Side.mk ⟨(⟨⟩:Tag 84),?_⟩
 dsimp only[cu,aC,aB,gts,eE,eN]
 refine⟨?_,?_⟩
 ·omega
 ·first
  |rfl
  |(
  have e1:k.toNat<a.length:=by omega
  have e2:k.toNat<b.length:=by omega
  have e3:a[k.toNat]! =b[k.toNat]!:=by simp_all [Prod.ext_iff]
  rw[getElem!_pos a k.toNat e1,getElem!_pos b k.toNat e2]at e3
  rw[show(k+1).toNat=k.toNat+1 by omega,List.take_add_one,List.take_add_one,hs,List.getElem?_eq_getElem e1,List.getElem?_eq_getElem e2,e3]))
  |(
 with_reducible apply Side.mk
 (try dsimp only[cu,aC,aB,gts,loK,hiK,eE,eN])
 first
 |omega
 |(kernel_rfl))
  |(conv=>whnf
    first
     |with_reducible first|done|exact trivial|refine NilBr.mk (fun h=>?_) ?_|apply aI|apply aH|refine aJ (by kernel_rfl) ?_|apply aK|apply bE|apply bD|apply aQ
     |((with_reducible first|apply aS|apply aR|apply bB)<;>intro h<;>(try dsimp only[cu,eE,eN]at h)<;>(try(exfalso;omega)))
     |(
 intro yy (hy:Tag 84/\_)
 obtain⟨(k:Int),_⟩:=yy
 replace hy:=hy.2
 dsimp only[cu,aC,aB,gts,eE,eN]at hy
 obtain⟨hk,hs⟩:=hy)))
 all_goals(
 with_reducible apply Leaf.mk
 (try dsimp only[cu,aC,aB,gts,eE,eN]at *)
 first
 |(
  have hab:a=b:=by
   have h2:=hs;rw[List.take_of_length_le (by omega),List.take_of_length_le (by omega)]at h2;exact h2
  rw[decide_eq_true hab])
 |(
  have hne:¬a=b:=fun q=>by subst q;omega
  rw[decide_eq_false hne])
 |(
  have hne:¬a=b:=fun q=>by subst q;simp_all
  rw[decide_eq_false hne]))
abbrev qWM:Tbl:=(102,IK)::qWL
theorem ZQ:aD Tryz.prog qWM:=aD.cons qQD ZP
abbrev UY:Ct:=.fn [.list gA,.list gA] (some (fun(a:List Zone) (b:List Zone)=>(a.length<=9223372036854775807))) (fun(a:List Zone) (b:List Zone)=>.d .bool (decide (a=b)))
theorem qX7:aF Tryz.prog 52 UY:=by
 refine aF.fn ZQ mixed [] [] rfl rfl ?_;rintro⟨(a:List Zone),(b:List Zone),_⟩ hpre;replace hpre:=hpre _ rfl;dsimp only[cu]at hpre;have ha:=hpre;refine⟨[(0,8,LA.mk [.sl 13 (.int .i64)] (fun y=>Tag 85/\cu [.int .i64] (fun(k:Int)=>(0<=k/\k<=a.length)/\(a.take k.toNat=b.take k.toNat)) y) (cu [.int .i64] (fun(k:Int)=>((a.length:Int)-k).toNat)) (cu [.int .i64] (fun(k:Int)=>([]:List (Nat×Nat×LA)))))],?_⟩;repeat' (first
  |(
 with_reducible refine Side.mk ⟨(⟨⟩:Tag 85),?_⟩
 dsimp only[cu,aC,aB,gts,eE,eN]
 refine⟨?_,?_⟩
 ·omega
 ·first
  |rfl
  |(
  have e1:k.toNat<a.length:=by omega
  have e2:k.toNat<b.length:=by omega
  have e3:a[k.toNat]! =b[k.toNat]!:=by simp_all [Prod.ext_iff]
  rw[getElem!_pos a k.toNat e1,getElem!_pos b k.toNat e2]at e3
  rw[show(k+1).toNat=k.toNat+1 by omega,List.take_add_one,List.take_add_one,hs,List.getElem?_eq_getElem e1,List.getElem?_eq_getElem e2,e3]))
  |(
 with_reducible apply Side.mk
 (try dsimp only[cu,aC,aB,gts,loK,hiK,eE,eN])
 first
 |omega
 |(kernel_rfl))
  |(conv=>whnf
    first
     |with_reducible first|done|exact trivial|refine NilBr.mk (fun h=>?_) ?_|apply aI|apply aH|refine aJ (by kernel_rfl) ?_|apply aK|apply bE|apply bD|apply aQ
     |((with_reducible first|apply aS|apply aR|apply bB)<;>intro h<;>(try dsimp only[cu,eE,eN]at h)<;>(try(exfalso;omega)))
     |(
 intro yy (hy:Tag 85/\_)
 obtain⟨(k:Int),_⟩:=yy
 replace hy:=hy.2
 dsimp only[cu,aC,aB,gts,eE,eN]at hy
 obtain⟨hk,hs⟩:=hy)))
 all_goals(
 with_reducible apply Leaf.mk
 (try dsimp only[cu,aC,aB,gts,eE,eN]at *)
 first
 |(
  have hab:a=b:=by
   have h2:=hs;rw[List.take_of_length_le (by omega),List.take_of_length_le (by omega)]at h2;exact h2
  rw[decide_eq_true hab])
 |(
  have hne:¬a=b:=fun q=>by subst q;omega
  rw[decide_eq_false hne])
 |(
  have hne:¬a=b:=fun q=>by subst q;simp_all
  rw[decide_eq_false hne]))
abbrev qWN:Tbl:=(52,UY)::qWM
theorem ZR:aD Tryz.prog qWN:=aD.cons qX7 ZQ
abbrev wU:Ct:=.fn [ER,ER] (some (fun(a:Info) (b:Info)=>(a.2.1.length<=9223372036854775807))) (fun(a:Info) (b:Info)=>.d .bool (decide (a=b)))
theorem YK:aF Tryz.prog 56 wU:=by
 refine aF.fn ZR mixed [] [] rfl rfl ?_;rintro⟨(a:Info),(b:Info),_⟩ hpre;replace hpre:=hpre _ rfl;dsimp only[cu]at hpre;have ha:=hpre;refine⟨[],?_⟩;repeat' (first
  |(
 with_reducible apply Side.mk
 (try dsimp only[cu,aC,aB,gts,loK,hiK,eE,eN])
 first
 |omega
 |(kernel_rfl))
  |(conv=>whnf
    first
     |with_reducible first|done|exact trivial|refine NilBr.mk (fun h=>?_) ?_|apply aI|apply aH|refine aJ (by kernel_rfl) ?_|apply aK|apply bE|apply bD|apply aQ
     |((with_reducible first|apply aS|apply aR|apply bB)<;>intro h<;>(try dsimp only[cu,eE,eN]at h)<;>(try(exfalso;omega)))))
 all_goals(
 with_reducible apply Leaf.mk
 (try dsimp only[cu,aC,aB,gts,eE,eN]at *)
 first
 |(simp_all [Prod.ext_iff];done)
 |(grind [Prod.ext_iff]))
abbrev qWO:Tbl:=(56,wU)::qWN
theorem ZS:aD Tryz.prog qWO:=aD.cons YK ZR
abbrev IE:Ct:=.fn [bM,.list eF] (some (fun(s:Schema) (l:List Rec)=>(l.length<=1099511627776))) (fun(s:Schema) (l:List Rec)=>.d (.list eF) (EP s l))
theorem qP7:aF Tryz.prog 34 IE:=by
 refine aF.fn ZS mixed [] [] rfl rfl ?_;rintro⟨(s:Schema),(l:List Rec),_⟩ hpre;replace hpre:=hpre _ rfl;dsimp only[cu]at hpre;have hl:=hpre;refine⟨[(0,10,LA.mk [.sl 16 (.int .i64),.lst 5 eF 56] (fun y=>Tag 86/\cu [.int .i64,.list eF] (fun(k:Int) (O:List Rec)=>(0<=k/\k<=l.length)/\(O=(l.take k.toNat).foldl (kT s) [])/\((O.length:Int)=k)) y) (cu [.int .i64,.list eF] (fun(k:Int) (O:List Rec)=>((l.length:Int)-k).toNat)) (cu [.int .i64,.list eF] (fun(k:Int) (O:List Rec)=>([(0,16,LA.mk [.sl 8 (.int .i64)] (fun y=>Tag 87/\cu [.int .i64] (fun(j:Int)=>(0<=j/\j<=O.length)/\(oW s l[k.toNat]! O O.length=oW s l[k.toNat]! O j.toNat)) y) (cu [.int .i64] (fun(j:Int)=>j.toNat)) (cu [.int .i64] (fun(j:Int)=>([]:List (Nat×Nat×LA)))))]:List (Nat×Nat×LA)))))],?_⟩;repeat' (first
  |(
 with_reducible refine Side.mk ⟨(⟨⟩:Tag 86),?_⟩
 dsimp only[cu,aC,aB,gts,eE,eN]
 refine⟨?_,?_,?_⟩
 ·omega
 ·first
  |rfl
  |(
  have e:=qN6 hi (by omega) (by first|exact Or.inl (by omega)|exact Or.inr (by assumption))
  rw[wD l k (by omega),List.foldl_append,<-ho]
  show _=kT s O l[k.toNat]!
  rw[kT,e]
  first|(exact qZ7 (by omega))|(exact qZ8 (by omega))|(exact qZ9 (by omega) (by omega))|(exact qaA (by omega) (by omega)))
 ·first
  |simp;done
  |(simp only[qFZ,List.length_append,List.length_cons,List.length_nil,List.length_take,List.length_drop];omega))
  |(
 with_reducible refine Side.mk ⟨(⟨⟩:Tag 87),?_⟩
 dsimp only[cu,aC,aB,gts,eE,eN]
 refine⟨?_,?_⟩
 ·omega
 ·first
  |rfl
  |(
  rw[hi]
  exact qN7 (by omega) (by assumption)))
  |(
 with_reducible apply Side.mk
 (try dsimp only[cu,aC,aB,gts,loK,hiK,eE,eN])
 first
 |done
 |omega
 |exact Eq.refl _
 |simp only[List.length_append,List.length_cons,List.length_nil];omega
 |exact(aX (eH (s:=s) (l:=l) (gZ (by assumption))).1).2
 |(simp only[qFZ,List.length_append,List.length_cons,List.length_nil,List.length_take,List.length_drop];omega))
  |(conv=>whnf
    first
     |with_reducible first|done|exact trivial|refine NilBr.mk (fun h=>?_) ?_|apply aI|apply aH|refine aJ (by kernel_rfl) ?_|apply aK|apply bE|apply bD|apply aQ
     |((with_reducible first|apply aS|apply aR|apply bB)<;>intro h<;>(try dsimp only[cu,eE,eN]at h)<;>(try(exfalso;omega)))
     |(
 intro yy (hy:Tag 86/\_)
 obtain⟨(k:Int),(O:List Rec),_⟩:=yy
 replace hy:=hy.2
 dsimp only[cu,aC,aB,gts,eE,eN]at hy
 obtain⟨hk,ho,hol⟩:=hy)
     |(
 intro yy (hy:Tag 87/\_)
 obtain⟨(j:Int),_⟩:=yy
 replace hy:=hy.2
 dsimp only[cu,aC,aB,gts,eE,eN]at hy
 obtain⟨hj,hi⟩:=hy)))
 all_goals(
 with_reducible apply Leaf.mk
 (try dsimp only[cu,aC,aB,gts,eE,eN]at *)
 first
 |rw[EP,if_neg (by rw[FB (b:=dB s l) (by assumption)];exact Bool.noConfusion)]
 |(rw[EP,if_pos (gZ (b:=dB s l) (by assumption)),ho,List.take_of_length_le (by omega)]))
abbrev qWP:Tbl:=(34,IE)::qWO
theorem ZT:aD Tryz.prog qWP:=aD.cons qP7 ZS
abbrev tFr:Ty:=.pair .str (.pair (.int .i64) .bool)
abbrev Fr:Type:=ByteArray×Int×Bool
@[reducible] instance:Inhabited Fr:=instInhabitedDen tFr
abbrev xW:Col:=(⟨#[115,101,113]⟩,1,0,false)
def lM (s:Schema) (i:Int):Col:=if i=s.1.length then xW else s.1[i.toNat]!
def iM (r:Fr) (m:Int):Int×Fr:=if r.2.2=true\/(aA r.1 r.2.1).2.2≠0\/(aA r.1 r.2.1).1>m then(0,(r.1,r.2.1,true))else((aA r.1 r.2.1).1,(r.1,(aA r.1 r.2.1).2.1,false))
def nS (r:Fr) (c:Col):Rank×Fr:=if r.2.2=true\/(cZ r.1 r.2.1).2.2≠0\/bN c (cZ r.1 r.2.1).1≠0 then(lK,(r.1,r.2.1,true))else(((cZ r.1 r.2.1).1,(iM (r.1,(cZ r.1 r.2.1).2.1,false) 1099511627776).1),(iM (r.1,(cZ r.1 r.2.1).2.1,false) 1099511627776).2)
def tF (r:Fr) (c:Col) (rows:Int):Zone×Fr:=((dQ r.1 r.2.1).1,(r.1,(dQ r.1 r.2.1).2.1,r.2.2||(decide ((dQ r.1 r.2.1).2.2≠0)||(!jQ c (dQ r.1 r.2.1).1||decide ((dQ r.1 r.2.1).1.1≠rows)))))
def fJ (l:List Int):Int:=l.foldr (fun a b=>a+b) 0
theorem oO {l:List Int} {k:Int} (h:0<=k/\k<l.length):fJ (l.take (k+1).toNat)=fJ (l.take k.toNat)+l[k.toNat]!:=by
 have e:∀a b:List Int,fJ (a++b)=fJ a+fJ b:=fun a b=>by
  induction a with
  |nil=>simp [fJ]
  |cons x a ih=>simp only[fJ,List.cons_append,List.foldr_cons]at ih ⊢;omega
 rw[wD l k h,e];simp [fJ]
def qFE (n:Nat) (l:List Int):Prop:=∀k:Int,0<=k->k<l.length->0<=l[k.toNat]! /\0<=fJ (l.take k.toNat)/\4+fJ (l.take k.toNat)+l[k.toNat]! <=n
def xE (file:ByteArray) (l:List Int) (i:Int):ByteArray:=file.extract (4+fJ (l.take i.toNat)).toNat (4+fJ (l.take i.toNat)+l[i.toNat]!).toNat
def dP (s:Schema) (file:ByteArray) (rows:Int) (l:List Int) (i:Int):List Val×Int:=if(nH (lM s i) (xE file l i)).2≠0 then([],(nH (lM s i) (xE file l i)).2)else if(nH (lM s i) (xE file l i)).1.length≠rows then([],2)else((nH (lM s i) (xE file l i)).1,0)
def eL (s:Schema) (l:List Rec):List Nat->List Zone:=fun r=>r.map fun i=>pR s.1[i]!.2.1 (fP l i)
def tB (s:Schema) (l:List Rec):Info:=((l.length:Int),eL s l (List.range s.1.length),eX s l[0]!,eX s l[l.length-1]!)
def eC (s:Schema) (f:ByteArray) (a:Int):Rank×Int×Bool:=if(cZ f a).2.2≠0\/bN s.1[s.2.toNat]! (cZ f a).1≠0 then(lK,0,false)else if(aA f (cZ f a).2.1).2.2≠0\/(aA f (cZ f a).2.1).1>1099511627776 then(lK,0,false)else(((cZ f a).1,(aA f (cZ f a).2.1).1),(aA f (cZ f a).2.1).2.1,true)
abbrev ND:Ct:=.fn [.str] (some (fun(s:ByteArray)=>(4<=s.size/\s.size<=4611686018427387904))) (fun(s:ByteArray)=>.d (.int .u32) (bQ s 0))
theorem qTH:aF Tryz.prog 88 ND:=by
 refine aF.fn ZT mixed [(0,1,2),(0,1,5),(0,1,10),(0,1,15)] [] rfl rfl ?_;rintro⟨(s:ByteArray),_⟩ hpre;replace hpre:=hpre _ rfl;dsimp only[cu]at hpre;have hs:=hpre;refine⟨[],?_⟩;repeat' (first
  |(
 with_reducible apply Side.mk
 (try dsimp only[cu,aC,aB,gts,loK,hiK,eE,eN])
 first
 |omega
 |(
  have h0:=bI s (Int.toNat 0);have h1:=bI s (Int.toNat 1);have h2:=bI s (Int.toNat 2);have h3:=bI s (Int.toNat 3);omega))
  |(conv=>whnf
    first
     |with_reducible first|done|exact trivial|refine NilBr.mk (fun h=>?_) ?_|apply aI|apply aH|refine aJ (by kernel_rfl) ?_|apply aK|apply bE|apply bD|apply aQ
     |((with_reducible first|apply aS|apply aR|apply bB)<;>intro h<;>(try dsimp only[cu,eE,eN]at h)<;>(try(exfalso;omega)))))
 all_goals(
 with_reducible apply Leaf.mk
 (try dsimp only[cu,aC,aB,gts,eE,eN]at *)
 rfl)
abbrev qWQ:Tbl:=(88,ND)::qWP
theorem ZU:aD Tryz.prog qWQ:=aD.cons qTH ZT
abbrev NG:Ct:=.fn [] (none) (.d pJ xW)
theorem qTL:aF Tryz.prog 114 NG:=by
 refine aF.fn ZU mixed [] [] rfl rfl ?_;rintro⟨⟩ -;refine⟨[],?_⟩;repeat' (first
  |(
 with_reducible apply Side.mk
 (try dsimp only[cu,aC,aB,gts,loK,hiK,eE,eN])
 done)
  |(conv=>whnf
    first
     |with_reducible first|done|exact trivial|refine NilBr.mk (fun h=>?_) ?_|apply aI|apply aH|refine aJ (by kernel_rfl) ?_|apply aK|apply bE|apply bD|apply aQ
     |((with_reducible first|apply aS|apply aR|apply bB)<;>intro h<;>(try dsimp only[cu,eE,eN]at h)<;>(try(exfalso;omega)))))
 all_goals(
 with_reducible apply Leaf.mk
 (try dsimp only[cu,aC,aB,gts,eE,eN]at *)
 done)
abbrev qWR:Tbl:=(114,NG)::qWQ
theorem ZW:aD Tryz.prog qWR:=aD.cons qTL ZU
abbrev IC:Ct:=.fn [] (none) (.d pJ xW)
theorem qP5:aF Tryz.prog 42 IC:=by
 refine aF.fn ZW mixed [] [] rfl rfl ?_;rintro⟨⟩ -;refine⟨[],?_⟩;repeat' (first
  |(
 with_reducible apply Side.mk
 (try dsimp only[cu,aC,aB,gts,loK,hiK,eE,eN])
 done)
  |(conv=>whnf
    first
     |with_reducible first|done|exact trivial|refine NilBr.mk (fun h=>?_) ?_|apply aI|apply aH|refine aJ (by kernel_rfl) ?_|apply aK|apply bE|apply bD|apply aQ
     |((with_reducible first|apply aS|apply aR|apply bB)<;>intro h<;>(try dsimp only[cu,eE,eN]at h)<;>(try(exfalso;omega)))))
 all_goals(
 with_reducible apply Leaf.mk
 (try dsimp only[cu,aC,aB,gts,eE,eN]at *)
 done)
abbrev qWS:Tbl:=(42,IC)::qWR
theorem ZX:aD Tryz.prog qWS:=aD.cons qP5 ZW
abbrev NC:Ct:=.fn [bM,.int .i64] (some (fun(s:Schema) (i:Int)=>(0<=i/\i<=s.1.length))) (fun(s:Schema) (i:Int)=>.d pJ (lM s i))
theorem qTF:aF Tryz.prog 67 NC:=by
 refine aF.fn ZX mixed [] [] rfl rfl ?_;rintro⟨(s:Schema),(i:Int),_⟩ hpre;replace hpre:=hpre _ rfl;dsimp only[cu]at hpre;have hi:=hpre;refine⟨[],?_⟩;repeat' (first
  |(
 with_reducible apply Side.mk
 (try dsimp only[cu,aC,aB,gts,loK,hiK,eE,eN])
 omega)
  |(conv=>whnf
    first
     |with_reducible first|done|exact trivial|refine NilBr.mk (fun h=>?_) ?_|apply aI|apply aH|refine aJ (by kernel_rfl) ?_|apply aK|apply bE|apply bD|apply aQ
     |((with_reducible first|apply aS|apply aR|apply bB)<;>intro h<;>(try dsimp only[cu,eE,eN]at h)<;>(try(exfalso;omega)))))
 all_goals(
 with_reducible apply Leaf.mk
 (try dsimp only[cu,aC,aB,gts,eE,eN]at *)
 first
 |rw[lM,if_pos (by assumption)]
 |(rw[lM,if_neg (by assumption)]))
abbrev qWT:Tbl:=(67,NC)::qWS
theorem ZY:aD Tryz.prog qWT:=aD.cons qTF ZX
abbrev MT:Ct:=.meth tFr 134 [.int .i64] (some (fun(r:Fr) (m:Int)=>(r.1.size<=4611686018427387904)/\(0<=m/\m<=4611686018427387904))) (fun(r:Fr) (m:Int)=>.d (.int .i64) ((iM r m).1)) (fun(r:Fr) (m:Int)=>(iM r m).2)
theorem qSQ:aF Tryz.prog 91 MT:=by
 refine aF.meth ZY mixed [] [] rfl rfl ?_;rintro(r:Fr) ⟨(m:Int),_⟩ hpre;replace hpre:=hpre _ rfl;dsimp only[cu]at hpre;obtain⟨hs,hm⟩:=hpre;refine⟨[],?_⟩;repeat' (first
  |(
 with_reducible apply Side.mk
 (try dsimp only[cu,aC,aB,gts,loK,hiK,eE,eN])
 first
 |omega
 |(
  have hg:=aG r.1 r.2.1;have hm:=aN (n:=m) (by omega);omega))
  |(conv=>whnf
    first
     |with_reducible first|done|exact trivial|refine NilBr.mk (fun h=>?_) ?_|apply aI|apply aH|refine aJ (by kernel_rfl) ?_|apply aK|apply bE|apply bD|apply aQ
     |((with_reducible first|apply aS|apply aR|apply bB)<;>intro h<;>(try dsimp only[cu,eE,eN]at h)<;>(try(exfalso;omega)))))
 all_goals(
 with_reducible apply Leaf.mk
 (try dsimp only[cu,aC,aB,gts,eE,eN]at *)
 first
 |(
  have hg:=aG r.1 r.2.1;have hw:=aN (n:=m) (by omega);first
  |(
   simp_all [iM];done)
  |(
   have h2:=h;rw[hw]at h2;first
   |(
    rw[iM,if_neg (by grind)];done)
   |(
    rw[iM,if_neg (by grind),decide_eq_false h];done))))
abbrev qWU:Tbl:=(91,MT)::qWT
theorem ZZ:aD Tryz.prog qWU:=aD.cons qSQ ZY
abbrev GV:Ct:=.meth tFr 134 [pJ] (some (fun(r:Fr) (c:Col)=>(r.1.size<=4611686018427387904))) (fun(r:Fr) (c:Col)=>.d tE ((nS r c).1)) (fun(r:Fr) (c:Col)=>(nS r c).2)
theorem qNT:aF Tryz.prog 93 GV:=by
 refine aF.meth ZZ mixed [] [] rfl rfl ?_;rintro(r:Fr) ⟨(c:Col),_⟩ hpre;replace hpre:=hpre _ rfl;dsimp only[cu]at hpre;have hs:=hpre;refine⟨[],?_⟩;repeat' (first
  |(
 with_reducible apply Side.mk
 (try dsimp only[cu,aC,aB,gts,loK,hiK,eE,eN])
 omega)
  |(conv=>whnf
    first
     |with_reducible first|done|exact trivial|refine NilBr.mk (fun h=>?_) ?_|apply aI|apply aH|refine aJ (by kernel_rfl) ?_|apply aK|apply bE|apply bD|apply aQ
     |((with_reducible first|apply aS|apply aR|apply bB)<;>intro h<;>(try dsimp only[cu,eE,eN]at h)<;>(try(exfalso;omega)))))
 all_goals(
 with_reducible apply Leaf.mk
 (try dsimp only[cu,aC,aB,gts,eE,eN]at *)
 (
  simp_all [nS];done))
abbrev qWV:Tbl:=(93,GV)::qWU
theorem qAA:aD Tryz.prog qWV:=aD.cons qNT ZZ
abbrev GW:Ct:=.meth tFr 134 [pJ,.int .i64] (some (fun(r:Fr) (c:Col) (rows:Int)=>(r.1.size<=4611686018427387904))) (fun(r:Fr) (c:Col) (rows:Int)=>.d gA ((tF r c rows).1)) (fun(r:Fr) (c:Col) (rows:Int)=>(tF r c rows).2)
theorem qNX:aF Tryz.prog 92 GW:=by
 refine aF.meth qAA mixed [] [] rfl rfl ?_;rintro(r:Fr) ⟨(c:Col),(rows:Int),_⟩ hpre;replace hpre:=hpre _ rfl;dsimp only[cu]at hpre;have hs:=hpre;refine⟨[],?_⟩;repeat' (first
  |(
 with_reducible apply Side.mk
 (try dsimp only[cu,aC,aB,gts,loK,hiK,eE,eN])
 omega)
  |(conv=>whnf
    first
     |with_reducible first|done|exact trivial|refine NilBr.mk (fun h=>?_) ?_|apply aI|apply aH|refine aJ (by kernel_rfl) ?_|apply aK|apply bE|apply bD|apply aQ
     |((with_reducible first|apply aS|apply aR|apply bB)<;>intro h<;>(try dsimp only[cu,eE,eN]at h)<;>(try(exfalso;omega)))))
 all_goals(
 with_reducible apply Leaf.mk
 (try dsimp only[cu,aC,aB,gts,eE,eN]at *)
 (
  simp_all [tF];done))
abbrev qWW:Tbl:=(92,GW)::qWV
theorem qAB:aD Tryz.prog qWW:=aD.cons qNX qAA
abbrev GX:Ct:=.fn [bM,.str,.int .i64] (some (fun(s:Schema) (f:ByteArray) (a:Int)=>(f.size<=4611686018427387904)/\(0<=s.2/\s.2<s.1.length))) (fun(s:Schema) (f:ByteArray) (a:Int)=>.tup [tE,.int .i64,.bool] ((eC s f a).1,(eC s f a).2.1,(eC s f a).2.2,()))
theorem qNZ:aF Tryz.prog 171 GX:=by
 refine aF.fn qAB mixed [] [] rfl rfl ?_;rintro⟨(s:Schema),(f:ByteArray),(a:Int),_⟩ hpre;replace hpre:=hpre _ rfl;dsimp only[cu]at hpre;obtain⟨hs,hk⟩:=hpre;refine⟨[],?_⟩;repeat' (first
  |(
 with_reducible apply Side.mk
 (try dsimp only[cu,aC,aB,gts,loK,hiK,eE,eN])
 first
 |omega
 |(
  have hg:=aG f (cZ f a).2.1;omega))
  |(conv=>whnf
    first
     |with_reducible first|done|exact trivial|refine NilBr.mk (fun h=>?_) ?_|apply aI|apply aH|refine aJ (by kernel_rfl) ?_|apply aK|apply bE|apply bD|apply aQ
     |((with_reducible first|apply aS|apply aR|apply bB)<;>intro h<;>(try dsimp only[cu,eE,eN]at h)<;>(try(exfalso;omega)))))
 all_goals(
 with_reducible apply Leaf.mk
 (try dsimp only[cu,aC,aB,gts,eE,eN]at *)
 first
 |rw[eC,if_pos (by grind)]
 |rw[eC,if_neg (by grind),if_pos (by grind)]
 |(rw[eC,if_neg (by grind),if_neg (by grind)]))
abbrev qWX:Tbl:=(171,GX)::qWW
theorem qAC:aD Tryz.prog qWX:=aD.cons qNZ qAB
abbrev HE:Ct:=.fn [bM,.str,.int .i64,.list (.int .i64),.int .i64] (some (fun(s:Schema) (file:ByteArray) (rows:Int) (sizes:List Int) (i:Int)=>(0<=i/\i<sizes.length/\i<=s.1.length/\sizes.length<=4096)/\(file.size<=288230376151711744/\qFE file.size sizes))) (fun(s:Schema) (file:ByteArray) (rows:Int) (sizes:List Int) (i:Int)=>.tup [.list bK,.int .i64] ((dP s file rows sizes i).1,(dP s file rows sizes i).2,()))
theorem qOO:aF Tryz.prog 49 HE:=by
 refine aF.fn qAC mixed [] [] rfl rfl ?_;rintro⟨(s:Schema),(file:ByteArray),(rows:Int),(sizes:List Int),(i:Int),_⟩ hpre;replace hpre:=hpre _ rfl;dsimp only[cu]at hpre;obtain⟨hi,hp⟩:=hpre;refine⟨[(0,6,LA.mk [.sl 21 (.int .i64),.sl 12 (.int .i64)] (fun y=>Tag 88/\cu [.int .i64,.int .i64] (fun(k:Int) (w:Int)=>(0<=k/\k<=i)/\(w=4+fJ (sizes.take k.toNat))) y) (cu [.int .i64,.int .i64] (fun(k:Int) (w:Int)=>((i:Int)-k).toNat)) (cu [.int .i64,.int .i64] (fun(k:Int) (w:Int)=>([]:List (Nat×Nat×LA)))))],?_⟩;repeat' (first
  |(
 with_reducible refine Side.mk ⟨(⟨⟩:Tag 88),?_⟩
 dsimp only[cu,aC,aB,gts,eE,eN]
 refine⟨?_,?_⟩
 ·omega
 ·first
  |(
  simp [fJ]
  done)
  |(
  have e:(sizes.take i.toNat)[k.toNat]! =sizes[k.toNat]!:=mM sizes i.toNat k.toNat (by omega)
  have ho:=hp.2 k (by omega) (by omega)
  rw[e,hat,oO (by omega)]
  omega))
  |(
 with_reducible apply Side.mk
 (try dsimp only[cu,aC,aB,gts,loK,hiK,eE,eN])
 first
 |omega
 |(
  have e:(sizes.take i.toNat)[k.toNat]! =sizes[k.toNat]!:=mM sizes i.toNat k.toNat (by omega);have ho:=hp.2 k (by omega) (by omega);rw[e];omega)
 |(
  have hki:k=i:=by omega
  subst hki;have ho:=hp.2 k (by omega) (by omega);first
  |omega
  |(
   rw[ByteArray.size_extract];omega)))
  |(conv=>whnf
    first
     |with_reducible first|done|exact trivial|refine NilBr.mk (fun h=>?_) ?_|apply aI|apply aH|refine aJ (by kernel_rfl) ?_|apply aK|apply bE|apply bD|apply aQ
     |((with_reducible first|apply aS|apply aR|apply bB)<;>intro h<;>(try dsimp only[cu,eE,eN]at h)<;>(try(exfalso;omega)))
     |(
 intro yy (hy:Tag 88/\_)
 obtain⟨(k:Int),(w:Int),_⟩:=yy
 replace hy:=hy.2
 dsimp only[cu,aC,aB,gts,eE,eN]at hy
 obtain⟨hk,hat⟩:=hy
 have hlt:(sizes.take i.toNat).length=i.toNat:=by rw[List.length_take];omega)))
 all_goals(
 with_reducible apply Leaf.mk
 (try dsimp only[cu,aC,aB,gts,eE,eN]at *)
 (
  have hki:k=i:=by omega
  subst hki;subst hat;simp_all [dP,xE];done))
abbrev qWY:Tbl:=(49,HE)::qWX
theorem qAD:aD Tryz.prog qWY:=aD.cons qOO qAC
theorem tS {l:List Rec} {n:Int} (h:1<=n/\n<=12):((pZ l n).length:Int)=n/\∀k:Nat,(k:Int)<n->(pZ l n)[k]! =fP l k:=by
 rw[pZ,if_neg (by omega)];refine⟨by rw[List.length_map,List.length_range];omega,fun k hk=>?_⟩;have q:k<((List.range n.toNat).map (fP l)).length:=by rw[List.length_map,List.length_range];omega
 rw[getElem!_pos _ k q,List.getElem_map,List.getElem_range]
theorem EV {s:Schema} {l:List Rec} {k:Int} (h:0<=k):eL s l (List.range (k+1).toNat)=eL s l (List.range k.toNat)++ [pR s.1[k.toNat]!.2.1 (fP l k.toNat)]:=by
 rw[show(k+1).toNat=k.toNat+1 by omega,List.range_succ,eL,List.map_append];rfl
abbrev MQ:Ct:=.fn [bM,.list eF] (some (fun(s:Schema) (l:List Rec)=>(1<=l.length/\l.length<=1073741824)/\(1<=s.1.length/\s.1.length<=12))) (fun(s:Schema) (l:List Rec)=>.d ER (tB s l))
theorem qSB:aF Tryz.prog 51 MQ:=by
 refine aF.fn qAD mixed [] [] rfl rfl ?_;rintro⟨(s:Schema),(l:List Rec),_⟩ hpre;replace hpre:=hpre _ rfl;dsimp only[cu]at hpre;obtain⟨hl,hs⟩:=hpre;refine⟨[(0,6,LA.mk [.sl 30 (.int .i64),.row 2 [.same,.own gA 67,.same,.same,.same,.same,.same,.same,.same,.same]] (fun y=>Tag 89/\cu [.int .i64,.list gA] (fun(k:Int) (Z:List Zone)=>(0<=k/\k<=(s.1.length:Int))/\(Z=eL s l (List.range k.toNat))/\((Z.length:Int)=k)) y) (cu [.int .i64,.list gA] (fun(k:Int) (Z:List Zone)=>(((s.1.length:Int):Int)-k).toNat)) (cu [.int .i64,.list gA] (fun(k:Int) (Z:List Zone)=>([]:List (Nat×Nat×LA)))))],?_⟩;repeat' (first
  |(
 with_reducible refine Side.mk ⟨(⟨⟩:Tag 89),?_⟩
 dsimp only[cu,aC,aB,gts,eE,eN]
 refine⟨?_,?_,?_⟩
 ·omega
 ·first
  |rfl
  |(
  obtain⟨hcl,hce⟩:=tS (l:=l) (n:=(s.1.length:Int)) (by omega)
  have hck:=hce k.toNat (by omega)
  show Z++ [pR s.1[k.toNat]!.2.1 (pZ l (s.1.length:Int))[k.toNat]!]=_
  rw[hz,hck,EV (by omega)])
 ·first
  |(
  simp
  done)
  |(
  simp only[List.length_append,List.length_cons,List.length_nil]
  omega))
  |(
 with_reducible apply Side.mk
 (try dsimp only[cu,aC,aB,gts,loK,hiK,eE,eN])
 first
 |done
 |omega
 |exact Eq.refl _
 |simp only[List.length_append,List.length_cons,List.length_nil];omega
 |(
  obtain⟨hcl,hce⟩:=tS (l:=l) (n:=(s.1.length:Int)) (by omega);have hck:=hce k.toNat (by omega);show(pZ l (s.1.length:Int))[k.toNat]!.length<=_;rw[hck,fP,List.length_map];omega))
  |(conv=>whnf
    first
     |with_reducible first|done|exact trivial|refine NilBr.mk (fun h=>?_) ?_|apply aI|apply aH|refine aJ (by kernel_rfl) ?_|apply aK|apply bE|apply bD|apply aQ
     |((with_reducible first|apply aS|apply aR|apply bB)<;>intro h<;>(try dsimp only[cu,eE,eN]at h)<;>(try(exfalso;omega)))
     |(
 intro yy (hy:Tag 89/\_)
 obtain⟨(k:Int),(Z:List Zone),_⟩:=yy
 replace hy:=hy.2
 dsimp only[cu,aC,aB,gts,eE,eN]at hy
 obtain⟨hk,hz,hzl⟩:=hy
 have hcl:=(tS (l:=l) (n:=(s.1.length:Int)) (by omega)).1)))
 all_goals(
 with_reducible apply Leaf.mk
 (try dsimp only[cu,aC,aB,gts,eE,eN]at *)
 (
  have h2:¬k<(pZ l (s.1.length:Int)).length:=h;show((l.length:Int),Z,eX s l[0]!,eX s l[((l.length:Int)-1).toNat]!)=_;rw[tB,hz,show k.toNat=s.1.length by omega,show((l.length:Int)-1).toNat=l.length-1 by omega]))
abbrev qWZ:Tbl:=(51,MQ)::qWY
theorem qAE:aD Tryz.prog qWZ:=aD.cons qSB qAD
def iE (l:List Rec):List Val:=l.map fun r=>((false,r.1,⟨#[]⟩):Val)
def eV (r:Rank):ByteArray:=AI r.1++bH (put r.2)
theorem qDU {l:List Rec} {k:Int} (h:0<=k/\k<l.length):iE (l.take (k+1).toNat)=iE (l.take k.toNat)++ [((false,l[k.toNat]!.1,⟨#[]⟩):Val)]:=by
 rw[wD l k h,iE,List.map_append];rfl
abbrev OD:Ct:=.fn [.list eF] (some (fun(l:List Rec)=>(l.length<=1099511627776))) (fun(l:List Rec)=>.d (.list bK) (iE l))
theorem qUR:aF Tryz.prog 43 OD:=by
 refine aF.fn qAE mixed [] [] rfl rfl ?_;rintro⟨(l:List Rec),_⟩ hpre;replace hpre:=hpre _ rfl;dsimp only[cu]at hpre;have hl:=hpre;refine⟨[(0,6,LA.mk [.sl 8 (.int .i64),.lst 3 bK 43] (fun y=>Tag 90/\cu [.int .i64,.list bK] (fun(k:Int) (M:List Val)=>(0<=k/\k<=l.length)/\(M=iE (l.take k.toNat))/\((M.length:Int)=k)) y) (cu [.int .i64,.list bK] (fun(k:Int) (M:List Val)=>((l.length:Int)-k).toNat)) (cu [.int .i64,.list bK] (fun(k:Int) (M:List Val)=>([]:List (Nat×Nat×LA)))))],?_⟩;repeat' (first
  |(
 with_reducible refine Side.mk ⟨(⟨⟩:Tag 90),?_⟩
 dsimp only[cu,aC,aB,gts,eE,eN]
 refine⟨?_,?_,?_⟩
 ·omega
 ·first
  |rfl
  |rw[hm,qDU (by omega)]
 ·first
  |(
  simp
  done)
  |(
  simp only[List.length_append,List.length_cons,List.length_nil]
  omega))
  |(
 with_reducible apply Side.mk
 (try dsimp only[cu,aC,aB,gts,loK,hiK,eE,eN])
 first
 |done
 |omega
 |exact Eq.refl _
 |(simp only[List.length_append,List.length_cons,List.length_nil];omega))
  |(conv=>whnf
    first
     |with_reducible first|done|exact trivial|refine NilBr.mk (fun h=>?_) ?_|apply aI|apply aH|refine aJ (by kernel_rfl) ?_|apply aK|apply bE|apply bD|apply aQ
     |((with_reducible first|apply aS|apply aR|apply bB)<;>intro h<;>(try dsimp only[cu,eE,eN]at h)<;>(try(exfalso;omega)))
     |(
 intro yy (hy:Tag 90/\_)
 obtain⟨(k:Int),(M:List Val),_⟩:=yy
 replace hy:=hy.2
 dsimp only[cu,aC,aB,gts,eE,eN]at hy
 obtain⟨hk,hm,hml⟩:=hy)))
 all_goals(
 with_reducible apply Leaf.mk
 (try dsimp only[cu,aC,aB,gts,eE,eN]at *)
 rw[hm,List.take_of_length_le (by omega)])
abbrev qW0:Tbl:=(43,OD)::qWZ
theorem qAF:aD Tryz.prog qW0:=aD.cons qUR qAE
abbrev yS:Ct:=.fn [tE] (some (fun(r:Rank)=>(0<=r.2/\r.2<=1099511627776)/\(inI r.1.2.1/\r.1.2.2.size<=1073741824))) (fun(r:Rank)=>.d .str (eV r))
theorem qDC:aF Tryz.prog 45 yS:=by
 refine aF.fn qAF mixed [] [] rfl rfl ?_;rintro⟨(r:Rank),_⟩ hpre;replace hpre:=hpre _ rfl;dsimp only[cu]at hpre;obtain⟨hr,hs⟩:=hpre;refine⟨[],?_⟩;repeat' (first
  |(
 with_reducible apply Side.mk
 (try dsimp only[cu,aC,aB,gts,loK,hiK,eE,eN])
 first
 |omega
 |(
  rw[aN (by omega)];omega)
 |(
  have h1:=vY (v:=r.1);have h2:=bU (IntKind.u64.wrap r.2);simp only[bS];omega))
  |(conv=>whnf
    first
     |with_reducible first|done|exact trivial|refine NilBr.mk (fun h=>?_) ?_|apply aI|apply aH|refine aJ (by kernel_rfl) ?_|apply aK|apply bE|apply bD|apply aQ
     |((with_reducible first|apply aS|apply aR|apply bB)<;>intro h<;>(try dsimp only[cu,eE,eN]at h)<;>(try(exfalso;omega)))))
 all_goals(
 with_reducible apply Leaf.mk
 (try dsimp only[cu,aC,aB,gts,eE,eN]at *)
 rw[eV,aN (by omega)])
abbrev qW1:Tbl:=(45,yS)::qW0
theorem qAG:aD Tryz.prog qW1:=aD.cons qDC qAF
abbrev HL:Ct:=.fn [.list eF,.int .i64] (some (fun(l:List Rec) (n:Int)=>(l.length<=1099511627776))) (fun(l:List Rec) (n:Int)=>.d (.list (.list bK)) (pZ l n))
theorem qPH:aF Tryz.prog 27 HL:=by
 refine aF.fn qAG mixed [] [] rfl rfl ?_;rintro⟨(l:List Rec),(n:Int),_⟩ hpre;replace hpre:=hpre _ rfl;dsimp only[cu]at hpre;have hl:=hpre;refine⟨[(0,10,LA.mk [.sl 6 (.int .i64),.lst 5 (.list bK) 52] (fun y=>Tag 91/\cu [.int .i64,.list (.list bK)] (fun(k:Int) (O:List (List Val))=>(0<=k/\k<=n)/\(O=(List.range k.toNat).map (fP l))/\((O.length:Int)=k)) y) (cu [.int .i64,.list (.list bK)] (fun(k:Int) (O:List (List Val))=>(n-k).toNat)) (cu [.int .i64,.list (.list bK)] (fun(k:Int) (O:List (List Val))=>([(0,18,LA.mk [.sl 23 (.int .i64),.lst 7 bK 43] (fun y=>Tag 92/\cu [.int .i64,.list bK] (fun(j:Int) (M:List Val)=>(0<=j/\j<=l.length)/\(M=fP (l.take j.toNat) k.toNat)/\((M.length:Int)=j)) y) (cu [.int .i64,.list bK] (fun(j:Int) (M:List Val)=>((l.length:Int)-j).toNat)) (cu [.int .i64,.list bK] (fun(j:Int) (M:List Val)=>([]:List (Nat×Nat×LA)))))]:List (Nat×Nat×LA)))))],?_⟩;repeat' (first
  |(
 with_reducible refine Side.mk ⟨(⟨⟩:Tag 91),?_⟩
 dsimp only[cu,aC,aB,gts,eE,eN]
 refine⟨?_,?_,?_⟩
 ·omega
 ·first
  |rfl
  |(
  rw[ho,hm,List.take_of_length_le (by omega),show(k+1).toNat=k.toNat+1 by omega,List.range_succ,List.map_append]
  rfl)
 ·first
  |(
  simp
  done)
  |(
  simp only[List.length_append,List.length_cons,List.length_nil]
  omega))
  |(
 with_reducible refine Side.mk ⟨(⟨⟩:Tag 92),?_⟩
 dsimp only[cu,aC,aB,gts,eE,eN]
 refine⟨?_,?_,?_⟩
 ·omega
 ·first
  |rfl
  |(
  rw[hm,wD l j (by omega)]
  simp only[fP,List.map_append,List.map_cons,List.map_nil,atV]
  first|(rw[if_pos (by omega)]
         done)|(rw[if_neg (by omega)]
                done))
 ·first
  |(
  simp
  done)
  |(
  simp only[List.length_append,List.length_cons,List.length_nil]
  omega))
  |(
 with_reducible apply Side.mk
 (try dsimp only[cu,aC,aB,gts,loK,hiK,eE,eN])
 first
 |done
 |omega
 |exact Eq.refl _
 |(simp only[List.length_append,List.length_cons,List.length_nil];omega))
  |(conv=>whnf
    first
     |with_reducible first|done|exact trivial|refine NilBr.mk (fun h=>?_) ?_|apply aI|apply aH|refine aJ (by kernel_rfl) ?_|apply aK|apply bE|apply bD|apply aQ
     |((with_reducible first|apply aS|apply aR|apply bB)<;>intro h<;>(try dsimp only[cu,eE,eN]at h)<;>(try(exfalso;omega)))
     |(
 intro yy (hy:Tag 91/\_)
 obtain⟨(k:Int),(O:List (List Val)),_⟩:=yy
 replace hy:=hy.2
 dsimp only[cu,aC,aB,gts,eE,eN]at hy
 obtain⟨hk,ho,hol⟩:=hy)
     |(
 intro yy (hy:Tag 92/\_)
 obtain⟨(j:Int),(M:List Val),_⟩:=yy
 replace hy:=hy.2
 dsimp only[cu,aC,aB,gts,eE,eN]at hy
 obtain⟨hj,hm,hml⟩:=hy)))
 all_goals(
 with_reducible apply Leaf.mk
 (try dsimp only[cu,aC,aB,gts,eE,eN]at *)
 first
 |rw[pZ,if_pos (by omega)]
 |(rw[pZ,if_neg (by omega),ho,show k=n by omega]))
abbrev qW2:Tbl:=(27,HL)::qW1
theorem qAH:aD Tryz.prog qW2:=aD.cons qPH qAG
end Go.Proofs.YtcjiefknhfhmkaaGreatDoor
namespace Go.Abs
set_option maxRecDepth 100000
set_option maxHeartbeats 4000000
set_option linter.unusedVariables false
set_option linter.unusedSimpArgs false
theorem Rep.ext {w:World} {ι ι2:Iota} {M M2:Nat->Prop} (hi:∀i l,ι i=some l->ι2 i=some l) (hm:∀b,M2 b->M b) {x:V} {y:Value} (r:Rep w ι M x y):Rep w ι2 M2 x y:=by
 induction r with
 |v x=>exact .v x
 |any x=>exact .any x
 |pF row off b o cells hb hn hc _ ih=>exact .pF row off b o cells hb (fun q=>hn (hm _ q)) hc ih
 |pO id row off l hl=>exact .pO id row off l (hi _ _ hl)
 |sF sz rows a cap cells hb hcap hr hc _ ih=>exact .sF sz rows a cap cells (fun hne=>let ⟨h1,h2,h3⟩:=hb hne;⟨h1,h2,fun q=>h3 (hm _ q)⟩) hcap hr hc ih
 |sN sz=>exact .sN sz
 |sO id off len cap l c e fr hl h1 h2 h3=>exact .sO id off len cap l c e fr (hi _ _ hl) h1 h2 h3
 |agg xs vs hl _ ih=>exact .agg xs vs hl ih
 |tup xs vs hl _ ih=>exact .tup xs vs hl ih
 |fn f first caps vs us h1 h2 _ _ ih1 ih2=>exact .fn f first caps vs us h1 h2 ih1 ih2
 |ifc t x y _ ih=>exact .ifc t x y ih
 |sL t l y _ ih=>exact .sL t l y ih
 |oL id n y _ ih=>exact .oL id n y ih
structure Out (σ N:List Nat) (k:Heap) (h':Heap) (k':Heap) (τ:List Nat):Prop where
 len:τ.length=k'.length
 le:k.length<=k'.length
 other:∀i:Nat,i<k.length->¬i∈σ->¬i∈N->τ[i]? =some (List.length h')/\k'[i]? =k[i]?
 old:∀j i:Nat,σ[j]? =some i->τ[i]? =some j
 obj:∀i:Nat,(i∈σ\/(i∈N\/k.length<=i))->i<k'.length->∃m x z,τ[i]? =some m/\h'[m]? =some x/\k'[i]? =some z/\kW τ x z
 inj:∀(i1 i2 m:Nat) (o1 o2:AObj),(i1∈σ\/(i1∈N\/k.length<=i1))->(i2∈σ\/(i2∈N\/k.length<=i2))->k'[i1]? =some (.live o1)->k'[i2]? =some (.live o2)->τ[i1]? =some m->τ[i2]? =some m->i1=i2
theorem PC.liftN {P:Program} {f:FuncId} {args0 args:List V} {h0 k:Heap} {σ N:List Nat} {R:V->Heap->Prop} {y':V} {k':Heap} (hσ:σ.Nodup) (hN:∀i,i∈N->k[i]? =some .free) (hl0:h0.length=σ.length)
  (hobj:∀(j i:Nat),σ[j]? =some i->∃x y,k[i]? =some y/\h0[j]? =some x/\kW σ y x) (harg:Pairs (cJ σ) args args0) (hc:PC P f args0 h0 R)
  (hout:∀y h',R y h'->∃τ,Out σ N k h' k' τ/\cJ τ y y'):PC P f args k (fun y k2=>y=y'/\k2=k'):=by
 intro ι w vals hp H;let X0:Nat->Prop:=fun b=>Mt k ι b/\¬Ob h0 (ι.ren σ) b
 let ι0:Iota:={at':=(ι.ren σ).at',X:=X0}
 have e0:∀j,ι0 j=(ι.ren σ) j:=fun _=>rfl
 have at0:∀(j i:Nat),σ[j]? =some i->ι0 j=ι i:=by intro j i h;rw[e0];simp [Iota.ren,h]
 have ob0:∀b,Ob h0 ι0 b↔Ob h0 (ι.ren σ) b:=fun b=>Iff.rfl
 have getσ:∀(j:Nat) (o:AObj),h0[j]? =some (.live o)->∃i oc,σ[j]? =some i/\k[i]? =some (.live oc)/\RenL σ oc o:=by
  intro j o h;have hj:j<σ.length:=by rw[<-hl0];exact aP h
  obtain⟨x,y,h1,h2,h3⟩:=hobj j σ[j] (List.getElem?_eq_getElem hj);rw[h]at h2;injection h2 with h2;subst h2;obtain⟨oc,rfl,h4⟩:=h3.2 o rfl;exact⟨σ[j],oc,List.getElem?_eq_getElem hj,h1,h4⟩
 have obk:∀b,Ob h0 ι0 b->Ob k ι b:=by
  rintro b ⟨j,o,l,h1,h2,h3⟩;obtain⟨i,oc,g1,g2,_⟩:=getσ j o h1;rw[at0 j i g1]at h2;exact⟨i,oc,l,g2,h2,h3⟩
 have mt0:∀b,Mt h0 ι0 b->Mt k ι b:=fun b q=>q.elim (fun q=>q.1) (fun q=>.inr (obk b q))
 have mlt:∀b,Mt k ι b->b<w.heap.size:=by
  rintro b (q|q)
  ·exact H.xlt b q
  ·exact H.blk_lt q
 have rep0:∀ {x y:V} {z:Value},cJ σ x y->Rep w ι (Mt k ι) x z->Rep w ι0 (Mt h0 ι0) y z:=fun hr r=>
  Rep.ext (ι:=ι.ren σ) (ι2:=ι0) (fun i l q=>q) (fun b q=>q) (hr w ι _ _ mt0 _ r)
 have H0:HRel h0 ι0 w:=by
  refine⟨fun j o ho=>?_,fun j hj=>?_,fun j hj=>?_,fun j1 o1 l1 j2 o2 l2 a1 a2 b1 b2 hb=>?_,fun b q=>mlt b q.1,fun b q r=>q.2 r⟩
  ·obtain⟨i,oc,g1,g2,g3⟩:=getσ j o ho
   obtain⟨l,c,fr,h1,la⟩:=H.live i oc g2;refine⟨l,c,fr,(at0 j i g1).trans h1,⟨by rw[<-g3.elem];exact la.blk,by rw[<-g3.sz];exact la.unfrozen,by rw[<-g3.sz];exact la.sz,fun r' hr'=>?_,by rw[<-g3.sz,<-g3.len];exact la.fits,fun a ha b hb=>?_⟩⟩
   ·obtain⟨a,ha,e⟩:=List.getElem_of_mem hr'
    have ha1:a<oc.rows.length:=by rw[g3.len];exact ha
    have u:=g3.rows a _ _ (List.getElem?_eq_getElem ha1) (List.getElem?_eq_getElem ha);rw[<-e,<-u.1,<-g3.sz];exact la.rows _ (List.getElem_mem ha1)
   ·have ha1:a<oc.rows.length:=by rw[g3.len];exact ha
    have u:=g3.rows a _ _ (List.getElem?_eq_getElem ha1) (List.getElem?_eq_getElem ha);have hb1:b<oc.rows[a].length:=by rw[u.1];exact hb
    obtain⟨z,z1,z2⟩:=la.reads a ha1 b hb1;exact⟨z,by rw[<-g3.sz];exact z1,rep0 (u.2 b _ _ (List.getElem?_eq_getElem hb1) (List.getElem?_eq_getElem hb)) z2⟩
  ·exfalso
   have hj':j<σ.length:=by rw[<-hl0];exact aP hj
   obtain⟨x,y,h1,h2,h3⟩:=hobj j σ[j] (List.getElem?_eq_getElem hj');rw[hj]at h2;injection h2 with h2;subst h2;exact h3.1 rfl
  ·have:σ[j]? =none:=List.getElem?_eq_none (by rw[<-hl0];exact hj)
   rw[e0];simp [Iota.ren,this]
  ·obtain⟨i1,p1,g1,g2,_⟩:=getσ j1 o1 a1
   obtain⟨i2,p2,f1,f2,_⟩:=getσ j2 o2 b1;rw[at0 j1 i1 g1]at a2;rw[at0 j2 i2 f1]at b2;have:=H.apart _ _ _ _ _ _ g2 a2 f2 b2 hb;subst this;have h1:=aP g1;have h2:=aP f1;rw[List.getElem?_eq_getElem h1]at g1;injection g1 with g1;rw[List.getElem?_eq_getElem h2]at f1;injection f1 with f1;have hpw:=List.pairwise_iff_getElem.1 hσ;rcases Nat.lt_trichotomy j1 j2 with q|q|q
   ·exact absurd (g1.trans f1.symm) (hpw j1 j2 h1 h2 q)
   ·exact q
   ·exact absurd (f1.trans g1.symm) (hpw j2 j1 h2 h1 q)
 have hp0:PW2 w ι0 (Mt h0 ι0) args0 vals:=by
  refine⟨harg.1.symm.trans hp.1,fun i y hy=>?_⟩;have hi:i<args.length:=by rw[harg.1];exact aP hy
  obtain⟨z,z1,z2⟩:=hp.2 i _ (List.getElem?_eq_getElem hi);exact⟨z,z1,rep0 (harg.2 i _ _ (List.getElem?_eq_getElem hi) hy) z2⟩
 refine(hc ι0 w vals hp0 H0).mono ?_;rintro e w' ⟨z,y,h',ι',rfl,hR,rz,H',ev⟩;obtain⟨τ,O,hy⟩:=hout y h' hR;have hX:ι'.X=X0:=ev.away;have dec:∀i,Decidable (i∈σ\/(i∈N\/k.length<=i)):=fun i=>inferInstance
 let ι2:Iota:={at':=fun i=>(match τ[i]? with
  |some m=>if i∈σ\/(i∈N\/k.length<=i)then ι' m else ι i
  |none=>none),X:=ι.X}
 have at2:∀i m,τ[i]? =some m->(i∈σ\/(i∈N\/k.length<=i))->ι2 i=ι' m:=fun i m h1 h2=>by
  show(match τ[i]? with
   |some m=>if i∈σ\/(i∈N\/k.length<=i)then ι' m else ι i
   |none=>none)=_
  rw[h1];simp only[if_pos h2]
 have at2o:∀i,i<k.length->(¬i∈σ/\¬i∈N)->ι2 i=ι i:=fun i h1 h2=>by
  show(match τ[i]? with
   |some m=>if i∈σ\/(i∈N\/k.length<=i)then ι' m else ι i
   |none=>none)=_
  rw[(O.other i h1 h2.1 h2.2).1];simp only[if_neg (show ¬(i∈σ\/(i∈N\/k.length<=i))by rintro(q|q|q);exact h2.1 q;exact h2.2 q;omega)]
 have side:∀i,i<k'.length->(i<k.length/\(¬i∈σ/\¬i∈N))\/(i∈σ\/(i∈N\/k.length<=i)):=fun i _=>by
  by_cases h1:i∈σ
  ·exact .inr (.inl h1)
  ·by_cases h3:i∈N
   ·exact .inr (.inr (.inl h3))
   ·rcases Nat.lt_or_ge i k.length with h2|h2
    ·exact .inl ⟨h2,h1,h3⟩
    ·exact .inr (.inr (.inr h2))
 have ext2:∀i l,(ι'.ren τ) i=some l->ι2 i=some l:=by
  intro i l h;have hi:i<k'.length:=by
   rcases Nat.lt_or_ge i k'.length with q|q
   ·exact q
   ·rw[<-O.len]at q
    simp [Iota.ren,List.getElem?_eq_none q]at h
  rcases side i hi with⟨h1,h2⟩|h1
  ·rw[show(ι'.ren τ) i=none by simp [Iota.ren,(O.other i h1 h2.1 h2.2).1];exact H'.out _ (Nat.le_refl _)]at h
   cases h
  ·obtain⟨m,x,zz,g1,_⟩:=O.obj i h1 hi
   rw[at2 i m g1 h1,<-h];simp [Iota.ren,g1]
 have obO:∀b,Ob k' ι2 b->(Ob k ι b/\¬Ob h0 ι0 b)\/Ob h' ι' b:=by
  rintro b ⟨i,o,l,g1,g2,g3⟩;rcases side i (aP g1)with⟨h1,h2⟩|h1
  ·rw[(O.other i h1 h2.1 h2.2).2]at g1
   rw[at2o i h1 h2]at g2;refine .inl ⟨⟨i,o,l,g1,g2,g3⟩,?_⟩;rintro⟨j,o2,l2,f1,f2,f3⟩;obtain⟨i2,oc,d1,d2,_⟩:=getσ j o2 f1;rw[at0 j i2 d1]at f2;have:=H.apart _ _ _ _ _ _ g1 g2 d2 f2 (by rw[g3,f3]);subst this;exact h2.1 (cK d1)
  ·obtain⟨m,x,zz,d1,d2,d3,d4⟩:=O.obj i h1 (aP g1)
   rw[g1]at d3;injection d3 with d3;subst d3;obtain⟨ox,rfl,_⟩:=d4.2 o rfl;rw[at2 i m d1 h1]at g2;exact .inr ⟨m,ox,l,d2,g2,g3⟩
 have x0:∀b,ι.X b->X0 b:=fun b q=>⟨.inl q,fun r=>H.xob b q (obk b r)⟩
 have mt2:∀b,Mt k' ι2 b->Mt h' ι' b:=by
  rintro b (q|q)
  ·exact .inl (by rw[hX];exact x0 b q)
  ·rcases obO b q with⟨q1,q2⟩|q1
   ·exact .inl (by rw[hX];exact⟨.inr q1,q2⟩)
   ·exact .inr q1
 have ev2:Evolve k ι w k' ι2 w':=by
  refine⟨ev.os,ev.tape,ev.output,ev.size,fun i l hl=>?_,rfl,fun b hb hn=>?_,ev.sizes⟩
  ·have hi:i<k.length:=by
     rcases Nat.lt_or_ge i k.length with q|q
     ·exact q
     ·rw[H.out i q]at hl;cases hl
   by_cases h1:i∈σ
   ·obtain⟨j,hj,rfl⟩:=List.getElem_of_mem h1
    have hs:=List.getElem?_eq_getElem hj;rw[at2 _ j (O.old j _ hs) (.inl h1)];exact ev.iota j l ((at0 j _ hs).trans hl)
   ·by_cases h3:i∈N
    ·rw[H.free i (hN i h3)]at hl;cases hl
    ·rw[at2o i hi ⟨h1,h3⟩];exact hl
  ·have hn0:¬Ob h0 ι0 b:=fun q=>hn (obk b q)
   obtain⟨g1,g2⟩:=ev.frame b hb hn0;refine⟨g1,fun q=>?_⟩;rcases obO b q with⟨q1,_⟩|q1
   ·exact hn q1
   ·exact g2 q1
 have rep2:∀ {x y:V} {v:Value},cJ τ x y->Rep w' ι' (Mt h' ι') x v->Rep w' ι2 (Mt k' ι2) y v:=fun hr r=>
  Rep.ext ext2 (fun b q=>q) (hr w' ι' _ _ mt2 _ r)
 refine⟨z,y',k',ι2,rfl,⟨rfl,rfl⟩,rep2 hy rz,?_,ev2⟩;refine⟨fun i o ho=>?_,fun i hi=>?_,fun i hi=>?_,fun i1 o1 l1 i2 o2 l2 a1 a2 b1 b2 hb=>?_,fun b hb=>Nat.lt_of_lt_of_le (H.xlt b hb) ev.size,fun b hb q=>?_⟩
 ·rcases side i (aP ho)with⟨h1,h2⟩|h1
  ·have hok:=ho
   rw[(O.other i h1 h2.1 h2.2).2]at hok;obtain⟨l,c,fr,g1,la⟩:=H.live i o hok;have hob:Ob k ι l.blk:=⟨i,o,l,hok,g1,rfl⟩
   have hn0:¬Ob h0 ι0 l.blk:=by
    rintro⟨j,o2,l2,f1,f2,f3⟩;obtain⟨i2,oc,d1,d2,_⟩:=getσ j o2 f1;rw[at0 j i2 d1]at f2;have:=H.apart _ _ _ _ _ _ hok g1 d2 f2 f3.symm;subst this;exact h2.1 (cK d1)
   refine⟨l,c,fr,(at2o i h1 h2).trans g1,⟨((ev.frame _ (H.blk_lt hob) hn0).1).trans la.blk,la.unfrozen,la.sz,la.rows,la.fits,fun a ha b hb=>?_⟩⟩;obtain⟨v,v1,v2⟩:=la.reads a ha b hb;exact⟨v,v1,v2.mono ev2⟩
  ·obtain⟨m,x,zz,d1,d2,d3,d4⟩:=O.obj i h1 (aP ho)
   rw[ho]at d3;injection d3 with d3;subst d3;obtain⟨ox,rfl,g3⟩:=d4.2 o rfl;obtain⟨l,c,fr,g1,la⟩:=H'.live m ox d2;refine⟨l,c,fr,(at2 i m d1 h1).trans g1,⟨by rw[<-g3.elem];exact la.blk,by rw[<-g3.sz];exact la.unfrozen,by rw[<-g3.sz];exact la.sz,fun r' hr'=>?_,by rw[<-g3.sz,<-g3.len];exact la.fits,fun a ha b hb=>?_⟩⟩
   ·obtain⟨a,ha,e⟩:=List.getElem_of_mem hr'
    have ha1:a<ox.rows.length:=by rw[g3.len];exact ha
    have u:=g3.rows a _ _ (List.getElem?_eq_getElem ha1) (List.getElem?_eq_getElem ha);rw[<-e,<-u.1,<-g3.sz];exact la.rows _ (List.getElem_mem ha1)
   ·have ha1:a<ox.rows.length:=by rw[g3.len];exact ha
    have u:=g3.rows a _ _ (List.getElem?_eq_getElem ha1) (List.getElem?_eq_getElem ha);have hb1:b<ox.rows[a].length:=by rw[u.1];exact hb
    obtain⟨v,v1,v2⟩:=la.reads a ha1 b hb1;exact⟨v,by rw[<-g3.sz];exact v1,rep2 (u.2 b _ _ (List.getElem?_eq_getElem hb1) (List.getElem?_eq_getElem hb)) v2⟩
 ·rcases side i (aP hi)with⟨h1,h2⟩|h1
  ·rw[(O.other i h1 h2.1 h2.2).2]at hi
   rw[at2o i h1 h2];exact H.free i hi
  ·exfalso
   obtain⟨m,x,zz,d1,d2,d3,d4⟩:=O.obj i h1 (aP hi);rw[hi]at d3;injection d3 with d3;subst d3;exact d4.1 rfl
 ·show(match τ[i]? with
    |some m=>if i∈σ\/(i∈N\/k.length<=i)then ι' m else ι i
    |none=>none)=_
  rw[List.getElem?_eq_none (by rw[O.len];exact hi)]
 ·rcases side i1 (aP a1)with⟨h1,h2⟩|h1<;>rcases side i2 (aP b1)with⟨f1,f2⟩|f1
  ·rw[(O.other i1 h1 h2.1 h2.2).2]at a1
   rw[(O.other i2 f1 f2.1 f2.2).2]at b1;rw[at2o i1 h1 h2]at a2;rw[at2o i2 f1 f2]at b2;exact H.apart _ _ _ _ _ _ a1 a2 b1 b2 hb
  ·exfalso
   have q:Ob k' ι2 l1.blk:=⟨i1,o1,l1,a1,a2,rfl⟩
   rw[(O.other i1 h1 h2.1 h2.2).2]at a1;rw[at2o i1 h1 h2]at a2;obtain⟨m,x,zz,d1,d2,d3,d4⟩:=O.obj i2 f1 (aP b1);rw[b1]at d3;injection d3 with d3;subst d3;obtain⟨ox,rfl,_⟩:=d4.2 o2 rfl;rw[at2 i2 m d1 f1]at b2;have hx:X0 l1.blk:=by
    refine⟨.inr ⟨i1,o1,l1,a1,a2,rfl⟩,?_⟩;rintro⟨j,o3,l3,g1,g2,g3⟩;obtain⟨i3,oc,e1,e2,_⟩:=getσ j o3 g1;have g2':ι i3=some l3:=(at0 j i3 e1).symm.trans g2;have:=H.apart _ _ _ _ _ _ a1 a2 e2 g2' g3.symm;subst this;exact h2.1 (cK e1)
   exact H'.xob _ (by rw[hX];exact hx) ⟨m,ox,l2,d2,b2,hb.symm⟩
  ·exfalso
   rw[(O.other i2 f1 f2.1 f2.2).2]at b1;rw[at2o i2 f1 f2]at b2;obtain⟨m,x,zz,d1,d2,d3,d4⟩:=O.obj i1 h1 (aP a1);rw[a1]at d3;injection d3 with d3;subst d3;obtain⟨ox,rfl,_⟩:=d4.2 o1 rfl;rw[at2 i1 m d1 h1]at a2;have hx:X0 l2.blk:=by
    refine⟨.inr ⟨i2,o2,l2,b1,b2,rfl⟩,?_⟩;rintro⟨j,o3,l3,g1,g2,g3⟩;obtain⟨i3,oc,e1,e2,_⟩:=getσ j o3 g1;have g2':ι i3=some l3:=(at0 j i3 e1).symm.trans g2;have:=H.apart _ _ _ _ _ _ b1 b2 e2 g2' g3.symm;subst this;exact f2.1 (cK e1)
   exact H'.xob _ (by rw[hX];exact hx) ⟨m,ox,l1,d2,a2,hb⟩
  ·obtain⟨m1,x1,z1,d1,d2,d3,d4⟩:=O.obj i1 h1 (aP a1)
   obtain⟨m2,x2,z2,c1,c2,c3,c4⟩:=O.obj i2 f1 (aP b1);rw[a1]at d3;injection d3 with d3;subst d3;rw[b1]at c3;injection c3 with c3;subst c3;obtain⟨ox1,rfl,_⟩:=d4.2 o1 rfl;obtain⟨ox2,rfl,_⟩:=c4.2 o2 rfl;rw[at2 i1 m1 d1 h1]at a2;rw[at2 i2 m2 c1 f1]at b2;have:=H'.apart _ _ _ _ _ _ d2 a2 c2 b2 hb;subst this;exact O.inj i1 i2 _ o1 o2 h1 f1 a1 b1 d1 c1
 ·rcases obO b q with⟨q1,_⟩|q1
  ·exact H.xob b hb q1
  ·exact H'.xob b (by rw[hX];exact x0 b hb) q1
def qSN (P:Program) (rs:List ResultVar) (n:Nat) (l:List Int) (e eb:TypeId) (m:Nat) (x:Exit) (s:Y):Prop:=
 match s with
 |⟨sl,h,_,_⟩=>match x with
  | .ret=>(match ares P rs sl (dens h),pX e eb h 0 with
    |some y,some (true,cs,some j,l')=>needs cs (Kern (Nat.ble m j&&Nat.ble m h.length)/\(Leaf (y=wrR n)/\(Leaf (l'=l)/\True)))
    |_,_=>False)
  |_=>False
theorem qEQ {P:Program} {rs:List ResultVar} {n m:Nat} {l:List Int} {e eb:TypeId} {x:Exit} {s:Y} (h:qSN P rs n l e eb m x s):(x = .normal\/x = .ret)/\ares P rs s.sl (dens s.h)=some (wrR n)/\∃cs j,pX e eb s.h 0=some (true,cs,some j,l)/\dJ cs/\m<=j/\m<=s.h.length:=by
 obtain⟨sl,hp,tch,an⟩:=s;simp only[qSN]at h;split at h
 ·split at h
  ·rename_i y cs j l' hy hr
   obtain⟨hc,⟨hk⟩,⟨rfl⟩,⟨rfl⟩,_⟩:=bR h;simp only[Bool.and_eq_true]at hk;exact⟨.inr rfl,hy,cs,j,hr,hc,Nat.le_of_ble_eq_true hk.1,Nat.le_of_ble_eq_true hk.2⟩
  ·exact h.elim
 ·exact h.elim
theorem xK {e eb:TypeId} {h:List XO} {i:Nat} {b:Bool} {cs:List Bool} {j:Option Nat} {l:List Int} (hr:pX e eb h i=some (b,cs,j,l)) (hc:dJ cs) :
  ∃c1,h[i]? =some (.raw (.live ⟨2,[[rH i b,c1]],eb⟩))/\((j=none/\l= []/\c1 = .v (.slice none 0 0))\/∃k,j=some k/\c1 = .oL k l.length/\h[k]? =some (.opt (.int .u8) l e)):=by
 unfold pX at hr;split at hr
 ·rename_i o ho
  split at hr
  ·rename_i c0 c1 hrow
   split at hr
   ·rename_i b' hb hz
    have ho':∀b2,c0=rH i b2->h[i]? =some (.raw (.live ⟨2,[[rH i b2,c1]],eb⟩)):=by
     intro b2 q;simp only[Bool.and_eq_true]at hz;have z1:=Nat.eq_of_beq_eq_true hz.1;have z2:=Nat.eq_of_beq_eq_true hz.2;rw[ho];obtain⟨sz,rows,el⟩:=o;(try simp only at z1 z2 hrow);subst z1 z2 hrow q;rfl
    have hself:c0=rH i b':=by
     unfold KH at hb;split at hb
     ·injection hb with hb;subst hb;rfl
     ·split at hb
      ·rename_i q
       have q:=Nat.eq_of_beq_eq_true q;injection hb with hb;subst hb q;rfl
      ·cases hb
     ·cases hb
    split at hr
    ·rename_i j' n
     split at hr
     ·rename_i t l' e' hj'
      split at hr
      ·rename_i l'' hl he
       injection hr with hr;injection hr with e1 hr;injection hr with e2 hr;injection hr with e3 e4;subst e1 e2 e3 e4;have hn:n=l''.length:=of_decide_eq_true (hc _ (by simp));obtain⟨et,el⟩:=iR hl;have he:=Nat.eq_of_beq_eq_true he;subst et;subst el he;exact⟨_,ho' _ hself,.inr ⟨_,rfl,by rw[hn],hj'⟩⟩
      ·cases hr
     ·cases hr
    ·injection hr with hr;injection hr with e1 hr;injection hr with e2 hr;injection hr with e3 e4;subst e1 e2 e3 e4
     exact⟨_,ho' _ hself,.inl ⟨rfl,rfl,rfl⟩⟩
    ·cases hr
   ·cases hr
  ·cases hr
 ·cases hr
theorem cJ.self {σ:List Nat} {i k:Nat} (b:Bool) (h:σ[k]? =some i):cJ σ (rH i b) (rH k b):=by
 cases b with
 |true=>exact cJ.pO 0 0 h
 |false=>exact cJ.tree (LE.refl _) (.v _)
theorem kW.two {σ:List Nat} {a b c d:V} {eb:TypeId} (h1:cJ σ a c) (h2:cJ σ b d):kW σ (.live ⟨2,[[a,b]],eb⟩) (.live ⟨2,[[c,d]],eb⟩):=
 ⟨by simp,fun o' q=>by
   injection q with q;subst q;refine⟨_,rfl,⟨rfl,rfl,rfl,fun m r r' g1 g2=>?_⟩⟩;match m,g1,g2 with
   |0,g1,g2=>
    simp at g1 g2;subst g1 g2;refine⟨rfl,fun n x y g3 g4=>?_⟩;match n,g3,g4 with
    |0,g3,g4=>simp at g3 g4;subst g3 g4;exact h1
    |1,g3,g4=>simp at g3 g4;subst g3 g4;exact h2
    |n+2,g3,g4=>simp at g3
   |m+1,g1,g2=>simp at g1⟩
theorem qIY.lift {P:Program} {f:FuncId} {e eb:TypeId} {h:List XO} {i new:Nat} {s:ByteArray} {b:Bool} {l l2:List Int} {j:Option Nat} {c1:V} (hi:h[i]? =some (.raw (.live ⟨2,[[rH i b,c1]],eb⟩)))
  (hj:∀k,j=some k->k≠i/\h[k]? =some (.opt (.int .u8) l e)) (hnew:h[new]? =some (.raw .free)) (c0:V) (hc0:cJ (i::jY j []) c1 c0)
  (hc:PC P f [.pO 0 0 0,.v (.string s)] (.live ⟨2,[[rH 0 b,c0]],eb⟩::(match j with|some _=>[(XO.opt (.int .u8) l e).den]|none=>[]))
    (fun y k=>y=wrR s.size/\∃(hs:List XO) (cs:List Bool) (jj:Nat),k=dens hs/\pX e eb hs 0=some (true,cs,some jj,l2)/\dJ cs/\(i::jY j []).length<=jj/\(i::jY j []).length<=hs.length)) :
  PC P f [.pO i 0 0,.v (.string s)] (dens h) (fun y k=>y=wrR s.size/\k=dens ((cO (h.set i (GM eb i new l2.length)) j).set new (.opt (.int .u8) l2 e))):=by
 have hni:new≠i:=by intro q;subst q;rw[hi]at hnew;cases hnew
 have hnj:∀k,j=some k->new≠k:=by intro k hk q;subst q;rw[(hj _ hk).2]at hnew;cases hnew
 have hilt:=aP hi;have hnlt:=aP hnew;have hnd:(i::jY j []).Nodup:=by
  cases j with
  |none=>simp [jY]
  |some k=>simp only[jY,List.nodup_cons,List.mem_cons,List.not_mem_nil,or_false,not_false_eq_true,List.nodup_nil,and_true];exact Ne.symm (hj k rfl).1
 have hs0:(i::jY j [])[0]? =some i:=rfl;refine PC.liftN (σ:=i::jY j []) (N:=[new]) hnd (fun x hx=>?_) ?_ (fun a c hac=>?_) ?_ hc ?_
 ·simp only[List.mem_cons,List.not_mem_nil,or_false]at hx
  subst hx;rw[aO,hnew];rfl
 ·cases j<;>rfl
 ·match a,hac with
  |0,hac=>
   have hac:i=c:=by simpa using hac
   subst hac;refine⟨_,_,by rw[aO,hi];rfl,rfl,kW.two (cJ.self b hs0) hc0⟩
  |a+1,hac=>
   cases j with
   |none=>simp [jY]at hac
   |some k=>
    match a,hac with
    |0,hac=>
     have hac:k=c:=by simpa [jY]using hac
     subst hac;exact⟨_,_,by rw[aO,(hj k rfl).2];rfl,rfl,kW.opt _ _ _⟩
    |a+1,hac=>simp [jY]at hac
 ·refine⟨rfl,fun m x y h1 h2=>?_⟩
  match m,h1,h2 with
  |0,h1,h2=>simp at h1 h2;subst h1 h2;exact cJ.pO 0 0 hs0
  |1,h1,h2=>simp at h1 h2;subst h1 h2;exact cJ.tree (LE.refl _) (.v _)
  |m+2,h1,h2=>simp at h1
 rintro y k ⟨rfl,hs,cs,jj,rfl,hr,hcs,hjj,hlen⟩;obtain⟨d1,r1,r2⟩:=xK hr hcs;obtain⟨k2,q,rfl,r3⟩:∃k2,some jj=some k2/\d1 = .oL k2 l2.length/\hs[k2]? =some (.opt (.int .u8) l2 e):=by
  rcases r2 with⟨q,_⟩|r2
  ·cases q
  ·exact r2
 injection q with q;subst q;let g:Nat->Nat:=fun x=>if x=i then 0 else if x=new then jj else if j=some x then 1 else hs.length
 have gi:g i=0:=by simp [g]
 have gn:g new=jj:=by simp [g,hni]
 have gj:∀k,j=some k->g k=1:=fun k hk=>by simp [g,(hj k hk).1,Ne.symm (hnj k hk),hk]
 have go:∀x,x≠i->x≠new->j≠some x->g x=hs.length:=fun x h1 h2 h3=>by simp [g,h1,h2,h3]
 have hL:(dens ((cO (h.set i (GM eb i new l2.length)) j).set new (.opt (.int .u8) l2 e))).length=h.length:=by rw[dM];simp [fR]
 have hτ:∀x,x<h.length->((List.range h.length).map g)[x]? =some (g x):=fun x hx=>by simp [hx]
 have ki:(dens ((cO (h.set i (GM eb i new l2.length)) j).set new (.opt (.int .u8) l2 e)))[i]? =some (.live ⟨2,[[.pO i 0 0,.oL new l2.length]],eb⟩):=by
  rw[aO,List.getElem?_set_ne hni,oK (fun k hk=>(hj k hk).1),List.getElem?_set_self hilt];rfl
 have kn:(dens ((cO (h.set i (GM eb i new l2.length)) j).set new (.opt (.int .u8) l2 e)))[new]? =some (XO.opt (.int .u8) l2 e).den:=by
  rw[aO,List.getElem?_set_self (by simpa [fR]using hnlt)];rfl
 have kj:∀k,j=some k->(dens ((cO (h.set i (GM eb i new l2.length)) j).set new (.opt (.int .u8) l2 e)))[k]? =some .dead:=fun k hk=>by
  subst hk;rw[aO,List.getElem?_set_ne (hnj k rfl)];simp only[cO];rw[List.getElem?_set_self (by simpa using aP (hj k rfl).2)];rfl
 have mem:∀x,x∈i::jY j []->x=i\/j=some x:=fun x hx=>by
  rcases List.mem_cons.1 hx with q|q
  ·exact .inl q
  ·cases j with
   |none=>simp [jY]at q
   |some k=>simp [jY]at q;subst q;exact .inr rfl
 have mem2:∀x,j=some x->x∈i::jY j []:=fun x hx=>by subst hx;simp [jY]
 have h2l:∀k,j=some k->2<=jj/\2<=hs.length:=fun k hk=>by subst hk;simp [jY]at hjj hlen;omega
 have h1l:1<=jj/\1<=hs.length:=by simp at hjj hlen;omega
 refine⟨(List.range h.length).map g,⟨by rw[hL];simp,by rw[dM,hL];exact Nat.le_refl _,fun x hx hs1 hs2=>?_,fun a x hx=>?_,fun x hx hlt=>?_,fun x1 x2 m o1 o2 g1 g2 g3 g4 g5 g6=>?_⟩,cJ.tree (LE.refl _) (.tup fun z hz=>?_)⟩
 ·rw[dM]at hx
  have n1:x≠i:=fun q=>hs1 (by rw[q];exact List.mem_cons_self ..)
  have n2:x≠new:=fun q=>hs2 (by rw[q];simp)
  have n3:j≠some x:=fun q=>hs1 (mem2 x q)
  refine⟨by rw[hτ x hx,go x n1 n2 n3,dM],?_⟩;rw[aO,aO,List.getElem?_set_ne (Ne.symm n2),oK (fun k hk q=>n3 (by rw[hk,q])),List.getElem?_set_ne (Ne.symm n1)]
 ·match a,hx with
  |0,hx=>have hx:i=x:=by simpa using hx
         subst hx;rw[hτ _ hilt,gi]
  |a+1,hx=>
   cases hj0:j with
   |none=>subst hj0;simp [jY]at hx
   |some k=>
    subst hj0;match a,hx with
    |0,hx=>
     have hx:k=x:=by simpa [jY]using hx
     subst hx;rw[hτ _ (aP (hj k rfl).2),gj k rfl]
    |a+1,hx=>simp [jY]at hx
 ·rw[hL]at hlt
  have cases3:x=i\/j=some x\/x=new:=by
   rcases hx with hx|hx|hx
   ·exact(mem x hx).imp (fun q=>q) .inl
   ·exact .inr (.inr (by simpa using hx))
   ·rw[dM]at hx;omega
  rcases cases3 with rfl|q|rfl
  ·refine⟨0,_,_,by rw[hτ _ hilt,gi],by rw[aO,r1];rfl,ki,kW.two ?_ ?_⟩
   ·exact cJ.pO 0 0 (by rw[hτ _ hilt,gi])
   ·exact cJ.oL _ (by rw[hτ _ hnlt,gn])
  ·obtain⟨z,hz⟩:∃z,hs[1]? =some z:=⟨_,List.getElem?_eq_getElem (by have:=(h2l x q).2;omega)⟩
   exact⟨1,_,_,by rw[hτ _ hlt,gj x q],by rw[aO,hz];rfl,kj x q,⟨by simp,fun _ q=>by cases q⟩⟩
  ·exact⟨jj,_,_,by rw[hτ _ hnlt,gn],by rw[aO,r3];rfl,kn,kW.opt _ _ _⟩
 ·have live:∀x,(x∈i::jY j []\/(x∈ [new]\/(dens h).length<=x))->∀o,(dens ((cO (h.set i (GM eb i new l2.length)) j).set new (.opt (.int .u8) l2 e)))[x]? =some (.live o)->x=i\/x=new:=by
    intro x hx o ho;rcases hx with hx|hx|hx
    ·rcases mem x hx with q|q
     ·exact .inl q
     ·rw[kj x q]at ho;cases ho
    ·exact .inr (by simpa using hx)
    ·have:=aP ho;rw[hL]at this;rw[dM]at hx;omega
  have t1:∀x,x<h.length->((List.range h.length).map g)[x]? =some m->g x=m:=fun x hx q=>by rw[hτ x hx]at q;injection q
  rcases live x1 g1 o1 g3 with rfl|rfl<;>rcases live x2 g2 o2 g4 with rfl|rfl
  ·rfl
  ·have a1:=t1 _ hilt g5;have a2:=t1 _ hnlt g6;rw[gi]at a1;rw[gn]at a2;omega
  ·have a1:=t1 _ hnlt g5;have a2:=t1 _ hilt g6;rw[gn]at a1;rw[gi]at a2;omega
  ·rfl
 ·simp at hz;rcases hz with rfl|rfl<;>exact .v _
theorem qIY.mk {P:Program} {T:Tbl} {f:FuncId} {fn:Func} {c:Code} {e eb:TypeId} (hT:aD P T) (hM:P.follows .mixedOrders=true) (fl:List (Nat×Nat×Nat)) (I:List Nat)
  (hf:P.funcs[f]? =some fn) (hb:fn.body=some c)
  (h1:∀(b:Bool) (l:List Int) (s:ByteArray),l.length+s.size<=1099511627776->∃an:List (Nat×Nat×LA),fVs (.pO 0 0 0 :: .v (.string s)::List.replicate (fn.ntmps-2) (.v undef)) fun sl=>fH [.raw (.live ⟨2,[[rH 0 b,.oL 1 l.length]],eb⟩),.opt (.int .u8) l e] fun h=>xcode ⟨P,T,2,0,fl,uD P T fl I 4⟩ c ⟨sl,h,[],an⟩
    (qSN P fn.results.toList s.size (l++aU s) e eb 2))
  (h2:∀(b:Bool) (s:ByteArray),s.size<=1099511627776->∃an:List (Nat×Nat×LA),fVs (.pO 0 0 0 :: .v (.string s)::List.replicate (fn.ntmps-2) (.v undef)) fun sl=>fH [.raw (.live ⟨2,[[rH 0 b,.v (.slice none 0 0)]],eb⟩)] fun h=>xcode ⟨P,T,1,0,fl,uD P T fl I 4⟩ c ⟨sl,h,[],an⟩
    (qSN P fn.results.toList s.size (aU s) e eb 1)):aF P f (.bld true e eb):=by
 intro h i new s b cs j l hr hcs hn hfree;obtain⟨c1,g1,g2⟩:=xK hr hcs;rcases g2 with⟨rfl,rfl,rfl⟩|⟨k,rfl,rfl,g3⟩
 ·refine qIY.lift (j:=none) (l:=[]) g1 (fun k hk=>by cases hk) hfree (.v (.slice none 0 0)) (cJ.tree (LE.refl _) (.v _)) ?_
  obtain⟨an,hw⟩:=h2 b s (by simpa using hn);rw[lZ,eM]at hw;refine PC.of_bodyV hf hb _ rfl (fun K hK=>?_);have hw:=kA (E:=⟨P,T,1,0,fl,uD P T fl I 4⟩) hT hM (gJ hT hM fl I 4 _ _) c _ _ hw;refine PV.mono hw ?_;rintro e st ⟨s',rfl,q1,_⟩;obtain⟨he,hy,cs',jj,q2,q3,q4,q5⟩:=qEQ q1;exact hK e _ _ he hy ⟨rfl,s'.h,cs',jj,rfl,q2,q3,q4,q5⟩
 ·have hki:k≠i:=by intro q;subst q;rw[g1]at g3;cases g3
  refine qIY.lift (j:=some k) (l:=l) g1 (fun k' hk=>by injection hk with hk;subst hk;exact⟨hki,g3⟩) hfree (.oL 1 l.length) (cJ.oL _ rfl) ?_;obtain⟨an,hw⟩:=h1 b l s hn;rw[lZ,eM]at hw;refine PC.of_bodyV hf hb _ rfl (fun K hK=>?_);have hw:=kA (E:=⟨P,T,2,0,fl,uD P T fl I 4⟩) hT hM (gJ hT hM fl I 4 _ _) c _ _ hw;refine PV.mono hw ?_;rintro e st ⟨s',rfl,q1,_⟩;obtain⟨he,hy,cs',jj,q2,q3,q4,q5⟩:=qEQ q1;exact hK e _ _ he hy ⟨rfl,s'.h,cs',jj,rfl,q2,q3,q4,q5⟩
theorem HRel.killed {h h':Heap} {ι:Iota} {w w':World} (H:HRel h ι w) (hk:∀id:Nat,h'[id]? =h[id]? \/h'[id]? =some HS.dead) (hl:h'.length=h.length) (Pb:Nat->Prop) (h1:∀b,Pb b->Ob h ι b/\¬Ob h' ι b)
  (hos:w'.os=w.os) (htp:w'.tape=w.tape) (hou:w'.output=w.output) (hsz:w'.heap.size=w.heap.size) (hsame:∀b,¬Pb b->w'.heap[b]? =w.heap[b]?)
  (hcs:∀(b:Nat) (c:Array Value) (e:TypeId) (fr:Nat×Nat),w.heap[b]? =some (.cells c e fr)->∃(c':Array Value) (fr':Nat×Nat),w'.heap[b]? =some (.cells c' e fr')/\c'.size=c.size):HRel h' ι w'/\Evolve h ι w h' ι w':=by
 have old:∀(id:Nat) (o:AObj),h'[id]? =some (.live o)->h[id]? =some (.live o):=fun id o q=>by
  rcases hk id with r|r
  ·rw[<-r];exact q
  ·rw[r]at q;cases q
 have ob:∀b,Ob h' ι b->Ob h ι b:=fun b ⟨id,o,l,q1,q2,q3⟩=>⟨id,o,l,old id o q1,q2,q3⟩
 have ev:Evolve h ι w h' ι w':=⟨hos,htp,hou,by rw[hsz];exact Nat.le_refl _,fun _ _ q=>q,rfl,fun b hb hn=>⟨hsame b (fun q=>hn (h1 b q).1),fun q=>hn (ob b q)⟩,hcs⟩
 refine⟨⟨fun id o ho=>?_,fun id ho=>?_,fun id ho=>H.out id (by rw[<-hl];exact ho),fun id o l id' o' l' a1 a2 b1 b2 hb=>H.apart id o l id' o' l' (old _ _ a1) a2 (old _ _ b1) b2 hb,fun b hb=>by rw[hsz];exact H.xlt b hb,fun b hb q=>H.xob b hb (ob b q)⟩,ev⟩
 ·obtain⟨l,c,fr,q1,la⟩:=H.live id o (old id o ho)
  have hn:¬Pb l.blk:=fun q=>(h1 _ q).2 ⟨id,o,l,ho,q1,rfl⟩
  exact⟨l,c,fr,q1,⟨(hsame _ hn).trans la.blk,la.unfrozen,la.sz,la.rows,la.fits,fun i hi j hj=>let ⟨y,g1,g2⟩:=la.reads i hi j hj;⟨y,g1,g2.mono ev⟩⟩⟩
 ·refine H.free id ?_
  rcases hk id with r|r
  ·rw[<-r];exact ho
  ·rw[r]at ho;cases ho
theorem JT (h:List XO) (i:Nat) (j:Option Nat) (id:Nat):(dens (cO (h.set i (.raw .dead)) j))[id]? =(dens h)[id]? \/(dens (cO (h.set i (.raw .dead)) j))[id]? =some HS.dead:=by
 have one:∀(h:List XO) (i id:Nat),(dens (h.set i (.raw .dead)))[id]? =(dens h)[id]? \/(dens (h.set i (.raw .dead)))[id]? =some HS.dead:=by
  intro h i id;rw[bG];by_cases q:i=id
  ·subst q
   rw[List.getElem?_set];simp only[if_pos];split
   ·exact .inr rfl
   ·rename_i hlt;left;rw[List.getElem?_eq_none (by omega)]
  ·left;rw[List.getElem?_set_ne q]
 cases j with
 |none=>exact one h i id
 |some k=>
  rcases one (h.set i (.raw .dead)) k id with r|r
  ·rcases one h i id with r2|r2
   ·exact .inl (r.trans r2)
   ·exact .inr (r.trans r2)
  ·exact .inr r
theorem AN {P:Program} (w:World):∀(l:List Int) (a:Addr) (acc:ByteArray),(∀j x,l[j]? =some x->w.cell? (a.add j)=some (.int .u8 x)) ->
  (loadBytes a acc l.length).run P w = .ok ⟨acc.data++(l.map fun n=>UInt8.ofNat n.toNat).toArray⟩ w
 | [],a,acc,_=>by simp [loadBytes]
 |x::l,a,acc,h=>by
  have h0:w.cell? a=some (.int .u8 x):=by
   have:=h 0 x rfl;simpa [Addr.add]using this
  have ih:=AN (P:=P) w l (a.add 1) (acc.push (UInt8.ofNat x.toNat)) (fun j y hy=>by
   have:=h (j+1) y (by simpa using hy);have e:(a.add 1).add j=a.add (j+1):=by
    unfold Addr.add;by_cases hj:j=0
    ·subst hj;simp
    ·simp [hj];omega
   rw[e];exact this)
  have hx:x.toNat.toUInt8=UInt8.ofNat x.toNat:=rfl;simp only[List.length_cons,loadBytes,Sem.run_bind,run_load,h0,Result.andThen,hx];rw[ih];congr 1
  apply ByteArray.ext;simp [ByteArray.push]
theorem wJ {P:Program} (w:World) (pt it ty e:TypeId) (hp:P.underlying pt=some (.pointer e)) (hc:P.cellsOf e=1) (g o cells:Nat) (hsh:w.shape? g=some (e,cells)) (l:List Int) (h0:l≠ []) (hn:o+l.length<=cells) (h63:l.length<=9223372036854775807)
  (hcell:∀j x,l[j]? =some x->w.cell? ((⟨g,o,none⟩:Addr).add j)=some (.int .u8 x)) :
  (Builtin.unsafeString_ #[pt,it] ty #[.pointer (some ⟨g,o,none⟩),.int .i64 l.length]).run P w = .ok (.string (bH l)) (w.freeze ⟨g,o,none⟩ l.length):=by
 have hl:l.length≠0:=by simpa using h0
 have hlb:=AN (P:=P) w l ⟨g,o,none⟩ .empty hcell;have hlies:liesAt P P.depth e (cells/P.cellsOf e) o e l.length=true:=by
  have hd:P.depth=(2*(P.types.size+Made.depth)+1)+1:=rfl;rw[hd];simp only[liesAt,Bool.or_eq_true];left;rw[hd];simp [Go.rowAt,hc,hn,sameLayout,Nat.mod_one]
 have h63':¬(9223372036854775807:Int)<(l.length:Int):=by omega
 have hdef:Builtin.unsafeString_ #[pt,it] ty #[.pointer (some ⟨g,o,none⟩),.int .i64 l.length] =
  (do
    let n <- asInt (.int .i64 l.length)
    if n < 0 then runtimePanic (.error "unsafe.String: len out of range")
    if n > IntKind.i64.max then unsupported (.unsafePointer "String: a length above the largest int")
    if n=0 then pure (.string .empty)
    else if <- variablesAt ⟨g,o,none⟩ (<-elemOf pt) n.toNat then do
     let s <- loadBytes ⟨g,o,none⟩ .empty n.toNat
     freeze ⟨g,o,none⟩ n.toNat
     pure (.string s)
    else unsupported (.unsafePointer "String: not so many bytes at ptr")) := rfl
 rw[hdef];have hmax:IntKind.i64.max=9223372036854775807:=rfl;have hneg:¬(l.length:Int)<0:=by omega
 simp [asInt,asIntOf,hmax,h63',hneg,hl,variablesAt,hsh,elemOf,run_underlying hp,hlies,hlb,bH]
theorem EF (w:World) (a:Addr) (n b:Nat) (hb:b≠a.block):(w.freeze a n).heap[b]? =w.heap[b]?:=by
 unfold World.freeze;split
 ·rfl
 ·simp only[Array.getElem?_modify];rw[if_neg (Ne.symm hb)]
theorem WI (w:World) (a:Addr) (n:Nat):(w.freeze a n).heap.size=w.heap.size:=by
 unfold World.freeze;split
 ·rfl
 ·simp
theorem SQ (w:World) (a:Addr) (n b:Nat) (c:Array Value) (e:TypeId) (fr:Nat×Nat) (h:w.heap[b]? =some (.cells c e fr)):∃fr',(w.freeze a n).heap[b]? =some (.cells c e fr'):=by
 by_cases hb:b=a.block
 ·subst hb
  unfold World.freeze;split
  ·exact⟨fr,h⟩
  ·simp only[Array.getElem?_modify,if_pos,h]
   exact⟨_,rfl⟩
 ·exact⟨fr,by rw[EF w a n b hb];exact h⟩
theorem qXX.mk {P:Program} {f:FuncId} {e eb pt it ty:TypeId} (hp:P.underlying pt=some (.pointer e)) (hcell:P.cellsOf e=1)
  (hnil:∀(b o:Nat) (w:World),w.cell? ⟨b,o+1,none⟩=some (.slice none 0 0)->Calls P f #[.pointer (some ⟨b,o,none⟩)] w fun x w'=>x = .returned (.string ⟨#[]⟩)/\w'=w.drew)
  (hsome:∀(b o:Nat) (a:Addr) (n cap:Nat) (s:ByteArray) (w:World),w.cell? ⟨b,o+1,none⟩=some (.slice (some a) n cap)->cap≠0->(Builtin.unsafeString_ #[pt,it] ty #[.pointer (some a),.int .i64 n]).run P w.drew = .ok (.string s) (w.drew.freeze a n) ->
    Calls P f #[.pointer (some ⟨b,o,none⟩)] w fun x w'=>x = .returned (.string s)/\w'=w.drew.freeze a n):aF P f (.bld false e eb):=by
 intro h i b cs j l hr hcs hlen ι w vals hpv H;obtain⟨c1,g1,g2⟩:=xK hr hcs;have hden:(dens h)[i]? =some (.live ⟨2,[[rH i b,c1]],eb⟩):=by rw[aO,g1];rfl
 obtain⟨L,c,fr,hL,la⟩:=H.live i _ hden;have hLs:L.sz=2:=la.sz;obtain⟨v0,hv0,rv0⟩:=hpv.2 0 _ rfl;cases rv0 with
 |pO _ _ _ L2 hL2=>
  rw[hL]at hL2;injection hL2 with hL2;subst hL2;have hvals:vals = #[.pointer (some ⟨L.blk,L.base+0*L.sz+0,none⟩)]:=by
   have hs:vals.size=1:=hpv.1.symm;exact Array.ext (by rw[hs];rfl) (fun q q1 q2=>by
    have h0:q=0:=by rw[hs]at q1;omega
    subst h0;rw[Array.getElem?_eq_getElem q1]at hv0;exact Option.some.inj hv0)
  subst hvals;obtain⟨x,x1,x2⟩:=la.reads 0 (by simp) 1 (by simp);have x2:Rep w ι (Mt (dens h) ι) c1 x:=x2;have hcx:w.cell? ⟨L.blk,L.base+0*L.sz+0+1,none⟩=some x:=by
   have:L.base+0*L.sz+0+1=L.base+0*2+1:=by omega
   rw[this];simp only[World.cell?,la.blk];exact x1
  have nilcase:x = .slice none 0 0->l= []->Calls P f #[.pointer (some ⟨L.blk,L.base+0*L.sz+0,none⟩)] w fun e' w'=>∃y x h' ι',e' = .returned y/\(x = .v (.string (bH l))/\h'=dens (cO (h.set i (.raw .dead)) j))/\Rep w' ι' (Mt h' ι') x y/\HRel h' ι' w'/\Evolve (dens h) ι w h' ι' w':=by
   intro hx hl0;subst hx hl0;refine(hnil _ _ w hcx).mono ?_;rintro e' w' ⟨rfl,rfl⟩;obtain⟨H2,ev⟩:=H.killed (h':=dens (cO (h.set i (.raw .dead)) j)) (w':=w.drew) (fun id=>JT h i j id) (by rw[dM,dM,fR];simp) (fun _=>False) (fun _ q=>q.elim) rfl rfl rfl rfl (fun _ _=>rfl) (fun _ c _ fr q=>⟨c,fr,q,rfl⟩);exact⟨_,_,_,ι,rfl,⟨rfl,rfl⟩,.v _,H2,ev⟩
  rcases g2 with⟨rfl,rfl,rfl⟩|⟨k,rfl,rfl,g3⟩
  ·cases x2
   exact nilcase rfl rfl
  ·by_cases hl0:l= []
   ·subst hl0
    cases x2 with
    |oL _ _ _ q=>simp at q;cases q;exact nilcase rfl rfl
   ·have hlen0:l.length≠0:=fun q=>hl0 (List.length_eq_zero_iff.1 q)
    have hdk:(dens h)[k]? =some (.live ⟨1,l.map (Ty.row (.int .u8)),e⟩):=by rw[aO,g3];simp [XO.den,hl0,Ty.size]
    have hki:k≠i:=by intro q;subst q;rw[g1]at g3;cases g3
    cases x2 with
    |oL _ _ _ q=>
     rw[if_neg hlen0]at q;cases q with
     |sO _ _ _ cap Lk ck ek frk hLk hcap hbk hszk=>
      obtain⟨Lk2,ck2,frk2,hLk2,lak⟩:=H.live k _ hdk;rw[hLk]at hLk2;injection hLk2 with hLk2;subst hLk2;have hsk:Lk.sz=1:=lak.sz;have hfit:Lk.base+l.length<=ck2.size:=by have:=lak.fits;simp at this;omega
      have hoff:Lk.base+0*Lk.sz=Lk.base:=by omega
      rw[hoff]at hcx;have hUS:=wJ (P:=P) w.drew pt it ty e hp hcell Lk.blk Lk.base ck2.size (by show(match w.heap[Lk.blk]? with|some (.cells c elem _)=>some (elem,c.size)|_=>none)=_;rw[lak.blk]) l hl0 hfit (by omega) (fun q z hz=>by
       have hq:=aP hz;obtain⟨y,y1,y2⟩:=lak.reads q (by simpa using hq) 0 (by simp [Ty.cells]);have e1:(l.map (Ty.row (.int .u8)))[q]'(by simpa using hq)= [.v (.int .u8 z)]:=by
        rw[List.getElem?_eq_getElem hq]at hz;injection hz with hz;simp [hz,Ty.cells]
       have y2:Rep w ι (Mt (dens h) ι) (.v (.int .u8 z)) y:=by
        have:=y2;simp only[e1]at this;exact this
       cases y2;have:(⟨Lk.blk,Lk.base,none⟩:Addr).add q=⟨Lk.blk,Lk.base+q,none⟩:=kY _ _ _;rw[this];show w.cell? ⟨Lk.blk,Lk.base+q,none⟩=_;simp only[World.cell?,lak.blk];rw[<-y1];congr 1
       simp [Ty.size])
      refine(hsome _ _ ⟨Lk.blk,Lk.base,none⟩ l.length cap (bH l) w hcx (by omega) hUS).mono ?_;rintro e' w' ⟨rfl,rfl⟩;have hPb:∀q,q=Lk.blk->Ob (dens h) ι q/\¬Ob (dens (cO (h.set i (.raw .dead)) (some k))) ι q:=by
       intro q hq;subst hq;refine⟨⟨k,_,Lk,hdk,hLk,rfl⟩,?_⟩;rintro⟨id,o,L3,q1,q2,q3⟩;have hid:(dens h)[id]? =some (.live o):=by
        rcases JT h i (some k) id with r|r
        ·rw[<-r];exact q1
        ·rw[r]at q1;cases q1
       have:=H.apart _ _ _ _ _ _ hid q2 hdk hLk q3;subst this;rw[aO]at q1;simp only[cO]at q1;rw[List.getElem?_set_self (by simpa using aP g3)]at q1;cases q1
      obtain⟨H2,ev⟩:=H.killed (h':=dens (cO (h.set i (.raw .dead)) (some k))) (w':=w.drew.freeze ⟨Lk.blk,Lk.base,none⟩ l.length) (fun id=>JT h i (some k) id) (by rw[dM,dM,fR];simp) (fun q=>q=Lk.blk) hPb
       (by unfold World.freeze;split<;>rfl) (by unfold World.freeze;split<;>rfl) (by unfold World.freeze;split<;>rfl) (WI _ _ _) (fun q hq=>EF w.drew _ _ _ hq)
       (fun q c2 e2 fr2 hq=>let ⟨fr',q'⟩:=SQ w.drew ⟨Lk.blk,Lk.base,none⟩ l.length q c2 e2 fr2 hq;⟨c2,fr',q',rfl⟩)
      exact⟨_,_,_,ι,rfl,⟨rfl,rfl⟩,.v _,H2,ev⟩
end Go.Abs
namespace Go.Proofs.YtcjiefknhfhmkaaGreatDoor
open Go.Abs
set_option maxRecDepth 100000
set_option maxHeartbeats 4000000
set_option linter.unusedVariables false
set_option linter.unusedSimpArgs false
abbrev VJ:Ct:=.bld true 5 106
theorem qZP:aF Tryz.prog 62 VJ:=by
 refine qIY.mk qAH mixed [] [107] rfl rfl ?_ ?_;all_goals first|rintro(_|_) (l:List Int) s hs|rintro(_|_) s hs
 all_goals refine⟨[],?_⟩
 repeat' (first
  |(
 with_reducible apply Side.mk
 (try dsimp only[cu,aC,aB,gts,loK,hiK,eE,eN])
 first
 |done
 |(
  (try simp only[bX,List.length_nil]);omega))
  |(conv=>whnf
    first
     |with_reducible first|done|exact trivial|refine NilBr.mk (fun h=>?_) ?_|apply aI|apply aH|refine aJ (by kernel_rfl) ?_|apply aK|apply bE|apply bD|apply aQ
     |((with_reducible first|apply aS|apply aR|apply bB)<;>intro h<;>(try dsimp only[cu,eE,eN]at h)<;>(try(exfalso;omega)))))
 all_goals(
 with_reducible apply Leaf.mk
 (try dsimp only[cu,aC,aB,gts,eE,eN]at *)
 first
 |done
 |(rfl))
abbrev qW3:Tbl:=(62,VJ)::qW2
theorem qQQ:aD Tryz.prog qW3:=aD.cons qZP qAH
abbrev ML:Ct:=.bld false 5 106
theorem UV (b o:Nat) (w:World) (hc:w.cell? ⟨b,o+1,none⟩=some (.slice none 0 0)) :
  Calls Tryz.prog 72 #[.pointer (some ⟨b,o,none⟩)] w fun e w'=>e = .returned (.string ⟨#[]⟩)/\w'=w.drew:=by
 have hUS:∀W:World,(Builtin.unsafeString_ #[150,3] 9 #[.pointer none,.int .i64 0]).run Tryz.prog W = .ok (.string .empty) W:=fun W=>Lib.run_unsafeString_none W _ _ _ none
 have c1:w.drew.cell? ⟨b,o+1,none⟩=some (.slice none 0 0):=hc;have hSD:∀W:World,(Builtin.unsafeSliceData_ #[36] 150 #[.slice none 0 0]).run Tryz.prog W = .ok (.pointer none) W:=fun W=>rfl
 go_enter Tryz.func72,Tryz.ntmps72
 go_wp2
 go_region
 all_goals(go_wp2;go_ret;exact⟨rfl,rfl⟩)
theorem RT (b o:Nat) (a:Addr) (n cap:Nat) (s:ByteArray) (w:World) (hc:w.cell? ⟨b,o+1,none⟩=some (.slice (some a) n cap)) (h0:cap≠0)
  (hUS:(Builtin.unsafeString_ #[150,3] 9 #[.pointer (some a),.int .i64 n]).run Tryz.prog w.drew = .ok (.string s) (w.drew.freeze a n)) :
  Calls Tryz.prog 72 #[.pointer (some ⟨b,o,none⟩)] w fun e w'=>e = .returned (.string s)/\w'=w.drew.freeze a n:=by
 have c1:w.drew.cell? ⟨b,o+1,none⟩=some (.slice (some a) n cap):=hc;have hSD:(Builtin.unsafeSliceData_ #[36] 150 #[.slice (some a) n cap]).run Tryz.prog w.drew = .ok (.pointer (some a)) w.drew:=Lib.run_unsafeSliceData_row _ _ _ _ _ _ h0;go_enter Tryz.func72,Tryz.ntmps72
 go_wp2
 go_region
 all_goals(go_wp2;go_ret;exact⟨rfl,rfl⟩)
theorem qRX:aF Tryz.prog 72 ML:=qXX.mk (pt:=150) (it:=3) (ty:=9) (by kernel_rfl) (by kernel_rfl) UV RT
abbrev qW4:Tbl:=(72,ML)::qW3
theorem qAI:aD Tryz.prog qW4:=aD.cons qRX qQQ
def VY (n:Int):ByteArray:=if n<10 then⟨#[UInt8.ofNat (48+n.toNat)]⟩else⟨#[49,UInt8.ofNat (38+n.toNat)]⟩
def xX:List ByteArray:=[⟨#[105,110,116]⟩,⟨#[98,111,111,108]⟩,⟨#[98,121,116,101,115]⟩,⟨#[100,97,116,101]⟩,⟨#[100,101,99,105,109,97,108]⟩]
def tw (t:Int):ByteArray:=⟨#[32]⟩++xX[(t-1).toNat]!
abbrev nlB:ByteArray:=⟨#[10]⟩
abbrev nuB:ByteArray:=⟨#[32,110,117,108,108]⟩
def scT (c:Col):ByteArray:=if c.2.1=5 then⟨#[32]⟩++VY c.2.2.1 else⟨#[]⟩
def nuT (c:Col):ByteArray:=if c.2.2.2=true then nuB else⟨#[]⟩
def tH (c:Col):ByteArray:=c.1++tw c.2.1++scT c++nuT c++nlB
def nQ:List Col->ByteArray
 | []=>⟨#[]⟩
 |c::l=>tH c++nQ l
def qTA (s:Schema):ByteArray:=⟨#[107,101,121,32]⟩++s.1[s.2.toNat]!.1++nlB
def tZ (s:Schema):ByteArray:=nQ s.1++qTA s
def lN (s:Schema):ByteArray×Int:=if bF s≠0 then(⟨#[]⟩,bF s)else(tZ s,0)
def idS (s:Schema):Int×Int:=if bF s≠0 then(0,bF s)else(iQ (tZ s),0)
theorem dK {l:List Col} {k:Int} (h:0<=k/\k<l.length):nQ (l.drop k.toNat)=tH l[k.toNat]! ++nQ (l.drop (k+1).toNat):=by
 rw[bO l k h];rfl
theorem eY {s:Schema} (h:bF s=0) {k:Int} (hk:0<=k/\k<s.1.length):(1<=s.1[k.toNat]!.2.1/\s.1[k.toNat]!.2.1<=5)/\(0<=s.1[k.toNat]!.2.2.1/\s.1[k.toNat]!.2.2.1<=18)/\s.1[k.toNat]!.1.size<=16:=by
 have he:bY (dY s.1) 0 s.1=0:=by
  unfold bF at h;split at h
  ·cases h
  split at h
  ·cases h
  split at h
  ·contradiction
  ·rename_i q;exact Decidable.not_not.1 q
 have h1:=qX he k hk;unfold dY at h1;split at h1
 ·cases h1
 rename_i h2;split at h1
 ·cases h1
 split at h1
 ·cases h1
 rename_i h3;split at h1
 ·cases h1
 rename_i h4;simp only[Bool.not_eq_false]at h2 h3 h4;simp only[oZ,Bool.and_eq_true,decide_eq_true_eq]at h2;simp only[cB,Bool.and_eq_true,decide_eq_true_eq]at h3;simp only[kB,Bool.and_eq_true,decide_eq_true_eq]at h4;omega
theorem qaB {t:Int} (h:1<=t/\t<=5):t=1\/t=2\/t=3\/t=4\/t=5:=by omega
theorem qc8 {t:Int} (h:1<=t/\t<=5):(tw t).size<=8:=by
 rcases qaB h with rfl|rfl|rfl|rfl|rfl<;>decide
theorem qIL {t:Int} (h:1<=t/\t<=5):(xX[(t-1).toNat]!).size<=7:=by
 rcases qaB h with rfl|rfl|rfl|rfl|rfl<;>decide
theorem vJ (n:Int):(VY n).size<=2:=by
 unfold VY;split
 ·show 1<=2;decide
 ·show 2<=2;decide
theorem qZB (c:Col):(scT c).size<=3:=by
 unfold scT;split
 ·rw[ByteArray.size_append];have:=vJ c.2.2.1;have e:(⟨#[32]⟩:ByteArray).size=1:=rfl;omega
 ·exact Nat.zero_le _
theorem qYS (c:Col):(nuT c).size<=5:=by unfold nuT;split<;>decide
theorem qR3 {c:Col} (h:1<=c.2.1/\c.2.1<=5) (hn:c.1.size<=16):(tH c).size<=33:=by
 have h1:=qc8 h;have h2:=qZB c;have h3:=qYS c;have e:nlB.size=1:=rfl;simp only[tH,ByteArray.size_append];omega
theorem gK (a:ByteArray):(⟨#[]⟩:ByteArray)++a=a:=ByteArray.empty_append
theorem FD (a:ByteArray):a++⟨#[]⟩=a:=ByteArray.append_empty
theorem VQ:∀(l:List Col),(∀c,c∈l->(1<=c.2.1/\c.2.1<=5)/\c.1.size<=16)->(nQ l).size<=33*l.length
 | [],_=>Nat.zero_le _
 |c::l,h=>by
  have h1:=h c (List.mem_cons_self ..);have h2:=qR3 h1.1 h1.2;have h3:=VQ l fun x hx=>h x (List.mem_cons_of_mem _ hx)
  rw[nQ,ByteArray.size_append,List.length_cons];omega
theorem qYB {s:Schema} (h:bF s=0):(tZ s).size<=1000:=by
 have q0:=aX h;have h1:=VQ s.1 fun c hc=>by
  obtain⟨i,hi,rfl⟩:=List.mem_iff_getElem.1 hc;have:=eY h (k:=(i:Int)) ⟨by omega,by omega⟩;rw[Int.toNat_natCast,getElem!_pos s.1 i hi]at this;exact⟨this.1,this.2.2⟩
 have h2:=eY h (k:=s.2) q0.2;have u1:(⟨#[107,101,121,32]⟩:ByteArray).size=4:=rfl;have u2:nlB.size=1:=rfl;unfold tZ qTA;simp only[ByteArray.size_append];omega
theorem qES {s:Schema}:(lN s).1.size<=1000:=by
 unfold lN;split
 ·exact Nat.zero_le _
 ·rename_i h;exact qYB (Decidable.not_not.1 h)
theorem qZ4 {s:Schema} (h:(lN s).2=0):idS s=(CN rR (lN s).1,0):=by
 unfold lN idS at *;by_cases q:bF s≠0
 ·rw[if_pos q]at h;exact absurd h q
 ·rw[if_neg q,if_neg q];rfl
theorem qZ5 {s:Schema} (h:¬(lN s).2=0):idS s=(0,(lN s).2):=by
 unfold lN idS at *;by_cases q:bF s≠0
 ·rw[if_pos q,if_pos q]
 ·rw[if_neg q]at h;exact absurd rfl h
theorem qdM {q:Int} (h:0<=q/\q<=18):(0<=Int.tmod q 10/\Int.tmod q 10<10)/\0<=Int.tdiv q 10/\Int.tdiv q 10<=1/\(0<q->Int.tdiv q 10<q):=by
 rw[Int.tmod_eq_emod_of_nonneg h.1,Int.tdiv_eq_ediv_of_nonneg h.1];omega
def AE (s p:ByteArray):Bool:=decide (p.size<=s.size)&&decide (s.extract 0 p.size=p)
def AW (s p:ByteArray):Bool:=decide (p.size<=s.size)&&decide (s.extract (s.size-p.size) s.size=p)
abbrev VE:Ct:=.fn [.str,.str] (some (fun(s:ByteArray) (p:ByteArray)=>(s.size<=4611686018427387904/\p.size<=4611686018427387904))) (fun(s:ByteArray) (p:ByteArray)=>.d .bool (AE s p))
theorem qY3:aF Tryz.prog 89 VE:=by
 refine aF.fn qAI mixed [] [124] rfl rfl ?_;rintro⟨(s:ByteArray),(p:ByteArray),_⟩ hpre;replace hpre:=hpre _ rfl;dsimp only[cu]at hpre;have hs:=hpre;refine⟨[],?_⟩;repeat' (first
  |(
 with_reducible apply Side.mk
 (try dsimp only[cu,aC,aB,gts,loK,hiK,eE,eN])
 omega)
  |(conv=>whnf
    first
     |with_reducible first|done|exact trivial|refine NilBr.mk (fun h=>?_) ?_|apply aI|apply aH|refine aJ (by kernel_rfl) ?_|apply aK|apply bE|apply bD|apply aQ
     |((with_reducible first|apply aS|apply aR|apply bB)<;>intro h<;>(try dsimp only[cu,eE,eN]at h)<;>(try(exfalso;omega)))))
 all_goals(
 with_reducible apply Leaf.mk
 (try dsimp only[cu,aC,aB,gts,eE,eN]at *)
 grind [AE])
abbrev qW5:Tbl:=(89,VE)::qW4
theorem qAJ:aD Tryz.prog qW5:=aD.cons qY3 qAI
abbrev VH:Ct:=.fn [.str,.str] (some (fun(s:ByteArray) (p:ByteArray)=>(s.size<=4611686018427387904/\p.size<=4611686018427387904))) (fun(s:ByteArray) (p:ByteArray)=>.d .bool (AW s p))
theorem qZG:aF Tryz.prog 90 VH:=by
 refine aF.fn qAJ mixed [] [125] rfl rfl ?_;rintro⟨(s:ByteArray),(p:ByteArray),_⟩ hpre;replace hpre:=hpre _ rfl;dsimp only[cu]at hpre;have hs:=hpre;refine⟨[],?_⟩;repeat' (first
  |(
 with_reducible apply Side.mk
 (try dsimp only[cu,aC,aB,gts,loK,hiK,eE,eN])
 omega)
  |(conv=>whnf
    first
     |with_reducible first|done|exact trivial|refine NilBr.mk (fun h=>?_) ?_|apply aI|apply aH|refine aJ (by kernel_rfl) ?_|apply aK|apply bE|apply bD|apply aQ
     |((with_reducible first|apply aS|apply aR|apply bB)<;>intro h<;>(try dsimp only[cu,eE,eN]at h)<;>(try(exfalso;omega)))))
 all_goals(
 with_reducible apply Leaf.mk
 (try dsimp only[cu,aC,aB,gts,eE,eN]at *)
 grind [AW])
abbrev qW6:Tbl:=(90,VH)::qW5
theorem qAK:aD Tryz.prog qW6:=aD.cons qZG qAJ
abbrev MZ:Ct:=.fn [.int .i64] (some (fun(n:Int)=>(0<=n/\n<=18))) (fun(n:Int)=>.d .str (VY n))
theorem qS8:aF Tryz.prog 146 MZ:=by
 refine aF.fn qAK mixed [] [175,199,216] rfl rfl ?_;rintro⟨(n:Int),_⟩ hpre;replace hpre:=hpre _ rfl;dsimp only[cu]at hpre;have hn:=hpre;refine⟨[],?_⟩;repeat' (first
  |(
 with_reducible apply Side.mk
 (try dsimp only[cu,aC,aB,gts,loK,hiK,eE,eN])
 first
 |omega
 |(
  show _<=((36:Nat):Int);omega)
 |(
  show _<=((200:Nat):Int);omega))
  |(conv=>whnf
    first
     |with_reducible first|done|exact trivial|refine NilBr.mk (fun h=>?_) ?_|apply aI|apply aH|refine aJ (by kernel_rfl) ?_|apply aK|apply bE|apply bD|apply aQ
     |((with_reducible first|apply aS|apply aR|apply bB)<;>intro h<;>(try dsimp only[cu,eE,eN]at h)<;>(try(exfalso;omega)))))
 all_goals(
 with_reducible apply Leaf.mk
 (try dsimp only[cu,aC,aB,gts,eE,eN]at *)
 (rcases(show n=0\/n=1\/n=2\/n=3\/n=4\/n=5\/n=6\/n=7\/n=8\/n=9\/n=10\/n=11\/n=12\/n=13\/n=14\/n=15\/n=16\/n=17\/n=18 by omega)with rfl|rfl|rfl|rfl|rfl|rfl|rfl|rfl|rfl|rfl|rfl|rfl|rfl|rfl|rfl|rfl|rfl|rfl|rfl<;>first|(exfalso;omega)|decide))
abbrev qW7:Tbl:=(146,MZ)::qW6
theorem qAL:aD Tryz.prog qW7:=aD.cons qS8 qAK
abbrev NU:Ct:=.fn [.int .i64] (some (fun(n:Int)=>(0<=n/\n<=18))) (fun(n:Int)=>.d .str (VY n))
theorem qUH:aF Tryz.prog 119 NU:=by
 refine aF.fn qAL mixed [] [] rfl rfl ?_;rintro⟨(n:Int),_⟩ hpre;replace hpre:=hpre _ rfl;dsimp only[cu]at hpre;have hn:=hpre;refine⟨[(0,10,LA.mk [.sl 0 (.int .i64),.sl 3 .str] (fun y=>Tag 93/\cu [.int .i64,.str] (fun(q:Int) (w:ByteArray)=>((q=n/\w=⟨#[]⟩)\/(q=1/\w=⟨#[UInt8.ofNat (38+n.toNat)]⟩)\/(q=0/\w=VY n))/\(0<=q/\q<=18)) y) (cu [.int .i64,.str] (fun(q:Int) (w:ByteArray)=>q.toNat)) (cu [.int .i64,.str] (fun(q:Int) (w:ByteArray)=>([]:List (Nat×Nat×LA)))))],?_⟩;repeat' (first
  |(
 with_reducible refine Side.mk ⟨(⟨⟩:Tag 93),?_⟩
 dsimp only[cu,aC,aB,gts,eE,eN]
 refine⟨?_,?_⟩
 ·first
  |exact Or.inl ⟨rfl,rfl⟩
  |(
  rcases hq with⟨rfl,rfl⟩|⟨rfl,rfl⟩|⟨rfl,rfl⟩
  ·refine Or.inr (Or.inl ⟨?_,?_⟩)<;>(rcases(show q=10\/q=11\/q=12\/q=13\/q=14\/q=15\/q=16\/q=17\/q=18 by omega)with rfl|rfl|rfl|rfl|rfl|rfl|rfl|rfl|rfl<;>decide)
  ·refine Or.inr (Or.inr ⟨by decide,?_⟩)
   rcases(show n=10\/n=11\/n=12\/n=13\/n=14\/n=15\/n=16\/n=17\/n=18 by omega)with rfl|rfl|rfl|rfl|rfl|rfl|rfl|rfl|rfl<;>decide
  ·exact absurd rfl (by with_reducible assumption))
 ·omega)
  |(
 with_reducible apply Side.mk
 (try dsimp only[cu,aC,aB,gts,loK,hiK,eE,eN])
 first
 |omega
 |(
  show _<=((10:Nat):Int);omega)
 |(
  have hws:w.size<=2:=by
   rcases hq with⟨_,h⟩|⟨_,h⟩|⟨_,h⟩<;>rw[h]
   ·exact Nat.zero_le _
   ·show 1<=2;decide
   ·exact vJ n
  have u:(⟨#[48,49,50,51,52,53,54,55,56,57]⟩:ByteArray).size=10:=rfl;rw[ByteArray.size_extract];omega))
  |(conv=>whnf
    first
     |with_reducible first|done|exact trivial|refine NilBr.mk (fun h=>?_) ?_|apply aI|apply aH|refine aJ (by kernel_rfl) ?_|apply aK|apply bE|apply bD|apply aQ
     |((with_reducible first|apply aS|apply aR|apply bB)<;>intro h<;>(try dsimp only[cu,eE,eN]at h)<;>(try(exfalso;omega)))
     |(
 intro yy (hy:Tag 93/\_)
 obtain⟨(q:Int),(w:ByteArray),_⟩:=yy
 replace hy:=hy.2
 dsimp only[cu,aC,aB,gts,eE,eN]at hy
 obtain⟨hq,hqb⟩:=hy
 have hm:=qdM hqb)))
 all_goals(
 with_reducible apply Leaf.mk
 (try dsimp only[cu,aC,aB,gts,eE,eN]at *)
 first
 |(
  rcases hq with⟨h1,h2⟩|⟨h1,h2⟩|⟨h1,h2⟩
  ·exfalso;omega
  ·exfalso;omega
  ·exact h2)
 |(rcases(show n=0\/n=1\/n=2\/n=3\/n=4\/n=5\/n=6\/n=7\/n=8\/n=9\/n=10\/n=11\/n=12\/n=13\/n=14\/n=15\/n=16\/n=17\/n=18 by omega)with rfl|rfl|rfl|rfl|rfl|rfl|rfl|rfl|rfl|rfl|rfl|rfl|rfl|rfl|rfl|rfl|rfl|rfl|rfl<;>first|(exfalso;omega)|decide))
abbrev qW8:Tbl:=(119,NU)::qW7
theorem qAM:aD Tryz.prog qW8:=aD.cons qUH qAL
abbrev IO:Ct:=.fn [] (none) (.d (.list .str) xX)
theorem qQ7:aF Tryz.prog 145 IO:=by
 refine aF.fn qAM mixed [] [] rfl rfl ?_;rintro⟨⟩ -;refine⟨[],?_⟩;repeat' (first
  |(
 with_reducible apply Side.mk
 (try dsimp only[cu,aC,aB,gts,loK,hiK,eE,eN])
 exact Eq.refl _)
  |(conv=>whnf
    first
     |with_reducible first|done|exact trivial|refine NilBr.mk (fun h=>?_) ?_|apply aI|apply aH|refine aJ (by kernel_rfl) ?_|apply aK|apply bE|apply bD|apply aQ
     |((with_reducible first|apply aS|apply aR|apply bB)<;>intro h<;>(try dsimp only[cu,eE,eN]at h)<;>(try(exfalso;omega)))))
 all_goals(
 with_reducible apply Leaf.mk
 (try dsimp only[cu,aC,aB,gts,eE,eN]at *)
 rfl)
abbrev qW9:Tbl:=(145,IO)::qW8
theorem qAN:aD Tryz.prog qW9:=aD.cons qQ7 qAM
abbrev MV:Ct:=.fn [bM] (none) (fun(s:Schema)=>.tup [.str,.int .i64] ((lN s).1,(lN s).2,()))
theorem qSU:aF Tryz.prog 106 MV:=by
 refine aF.fn qAN mixed [] [] rfl rfl ?_;rintro⟨(s:Schema),_⟩ -;refine⟨[(0,12,LA.mk [.sl 16 (.int .i64),.row 1 [.osf 1,.own (.int .u8) 5]] (fun y=>Tag 94/\cu [.int .i64,.bool,.list (.int .u8)] (fun(k:Int) (b0:Bool) (B:List Int)=>(0<=k/\k<=s.1.length)/\(nQ s.1=bH B++nQ (s.1.drop k.toNat))/\((B.length:Int)<=33*k)) y) (cu [.int .i64,.bool,.list (.int .u8)] (fun(k:Int) (b0:Bool) (B:List Int)=>((s.1.length:Int)-k).toNat)) (cu [.int .i64,.bool,.list (.int .u8)] (fun(k:Int) (b0:Bool) (B:List Int)=>([]:List (Nat×Nat×LA)))))],?_⟩;repeat' (first
  |(
 with_reducible refine Side.mk ⟨(⟨⟩:Tag 94),?_⟩
 dsimp only[cu,aC,aB,gts,eE,eN]
 refine⟨?_,?_,?_⟩
 ·omega
 ·first
  |(
  show nQ s.1=ByteArray.empty++nQ s.1
  rw[ByteArray.empty_append])
  |(
  have t1:scT s.1[k.toNat]! =⟨#[32]⟩++VY s.1[k.toNat]!.2.2.1:=if_pos (by with_reducible assumption)
  first
  |(
   have t2:nuT s.1[k.toNat]! =nuB:=if_pos (by with_reducible assumption);rw[hB,dK (by omega),tH,t1,t2,tw];simp only[iT,iI,ByteArray.append_assoc,gK];done)
  |(
   have t2:nuT s.1[k.toNat]! =⟨#[]⟩:=if_neg (by rw[show s.1[k.toNat]!.2.2.2=false by with_reducible assumption];exact Bool.noConfusion);rw[hB,dK (by omega),tH,t1,t2,tw];simp only[iT,iI,ByteArray.append_assoc,gK];done))
  |(
  have t1:scT s.1[k.toNat]! =⟨#[]⟩:=if_neg (by with_reducible assumption)
  first
  |(
   have t2:nuT s.1[k.toNat]! =nuB:=if_pos (by with_reducible assumption);rw[hB,dK (by omega),tH,t1,t2,tw];simp only[iT,iI,ByteArray.append_assoc,gK];done)
  |(
   have t2:nuT s.1[k.toNat]! =⟨#[]⟩:=if_neg (by rw[show s.1[k.toNat]!.2.2.2=false by with_reducible assumption];exact Bool.noConfusion);rw[hB,dK (by omega),tH,t1,t2,tw];simp only[iT,iI,ByteArray.append_assoc,gK];done))
 ·first
  |exact Int.le_refl _
  |(
  have kk:0<=k/\k<s.1.length:=by omega
  have qq:=eY (s:=s) (by with_reducible assumption) kk
  obtain⟨q1,q2,q3⟩:=qq
  have z1:=qIL q1
  have z2:=vJ s.1[k.toNat]!.2.2.1
  have u1:(⟨#[32]⟩:ByteArray).size=1:=rfl
  have u2:(⟨#[10]⟩:ByteArray).size=1:=rfl
  have u3:(⟨#[32,110,117,108,108]⟩:ByteArray).size=5:=rfl
  have u5:xX.length=5:=rfl
  have v0:(⟨#[32,105,110,116]⟩:ByteArray).size=4:=rfl
  have v1:(⟨#[32,98,111,111,108]⟩:ByteArray).size=5:=rfl
  have v2:(⟨#[32,98,121,116,101,115]⟩:ByteArray).size=6:=rfl
  have v3:(⟨#[32,100,97,116,101]⟩:ByteArray).size=5:=rfl
  have v4:(⟨#[32,100,101,99,105,109,97,108,32]⟩:ByteArray).size=9:=rfl
  have q0:=aX (s:=s) (by with_reducible assumption)
  simp only[List.length_append,bX,ByteArray.size_append]
  omega))
  |(
 with_reducible apply Side.mk
 (try dsimp only[cu,aC,aB,gts,loK,hiK,eE,eN])
 first
 |done
 |omega
 |exact Eq.refl _
 |(
  show _/\_;have kk:0<=k/\k<s.1.length:=by omega
  have qq:=eY (s:=s) (by with_reducible assumption) kk;obtain⟨q1,q2,q3⟩:=qq;omega)
 |(
  have kk:0<=k/\k<s.1.length:=by omega
  have qq:=eY (s:=s) (by with_reducible assumption) kk;obtain⟨q1,q2,q3⟩:=qq;have z1:=qIL q1;have z2:=vJ s.1[k.toNat]!.2.2.1;have u1:(⟨#[32]⟩:ByteArray).size=1:=rfl;have u2:(⟨#[10]⟩:ByteArray).size=1:=rfl;have u3:(⟨#[32,110,117,108,108]⟩:ByteArray).size=5:=rfl;have u5:xX.length=5:=rfl;have v0:(⟨#[32,105,110,116]⟩:ByteArray).size=4:=rfl;have v1:(⟨#[32,98,111,111,108]⟩:ByteArray).size=5:=rfl;have v2:(⟨#[32,98,121,116,101,115]⟩:ByteArray).size=6:=rfl;have v3:(⟨#[32,100,97,116,101]⟩:ByteArray).size=5:=rfl;have v4:(⟨#[32,100,101,99,105,109,97,108,32]⟩:ByteArray).size=9:=rfl;have q0:=aX (s:=s) (by with_reducible assumption);have w1:=q1.1;have w2:=q1.2;(try simp only[List.length_append,bX,ByteArray.size_append]);omega)
 |(
  have q0:=aX (s:=s) (by with_reducible assumption);have kk:0<=s.2/\s.2<s.1.length:=by omega
  have qq:=eY (s:=s) (by with_reducible assumption) kk;obtain⟨q1,q2,q3⟩:=qq;have u1:(⟨#[107,101,121,32]⟩:ByteArray).size=4:=rfl;have u2:(⟨#[10]⟩:ByteArray).size=1:=rfl;(try simp only[List.length_append,bX,ByteArray.size_append]);omega))
  |(conv=>whnf
    first
     |with_reducible first|done|exact trivial|refine NilBr.mk (fun h=>?_) ?_|apply aI|apply aH|refine aJ (by kernel_rfl) ?_|apply aK|apply bE|apply bD|apply aQ
     |((with_reducible first|apply aS|apply aR|apply bB)<;>intro h<;>(try dsimp only[cu,eE,eN]at h)<;>(try(exfalso;omega)))
     |(
 intro yy (hy:Tag 94/\_)
 obtain⟨(k:Int),(b0:Bool),(B:List Int),_⟩:=yy
 replace hy:=hy.2
 dsimp only[cu,aC,aB,gts,eE,eN]at hy
 obtain⟨hk,hB,hz⟩:=hy
 rcases b0 with _|_)))
 all_goals(
 with_reducible apply Leaf.mk
 (try dsimp only[cu,aC,aB,gts,eE,eN]at *)
 first
 |rw[lN,if_pos (by with_reducible assumption)]
 |(
  have hk2:k=s.1.length:=by omega
  have hd:s.1.drop k.toNat= []:=List.drop_eq_nil_of_le (by omega);rw[hd]at hB;have hB2:nQ []=(⟨#[]⟩:ByteArray):=rfl;rw[hB2,FD]at hB;rw[lN,if_neg (fun q=>q (by with_reducible assumption)),tZ,qTA,hB];simp only[iT,iI,ByteArray.append_assoc,gK];done)
 |(rw[lN,if_neg (fun q=>q (by with_reducible assumption))]))
abbrev qXA:Tbl:=(106,MV)::qW9
theorem qAO:aD Tryz.prog qXA:=aD.cons qSU qAN
abbrev HR:Ct:=.fn [bM] (none) (fun(s:Schema)=>.tup [.str,.int .i64] ((lN s).1,(lN s).2,()))
theorem qPU:aF Tryz.prog 80 HR:=by
 refine aF.fn qAO mixed [] [] rfl rfl ?_;rintro⟨(s:Schema),_⟩ -;refine⟨[(0,12,LA.mk [.sl 16 (.int .i64),.sl 5 .str] (fun y=>Tag 95/\cu [.int .i64,.str] (fun(k:Int) (b:ByteArray)=>(0<=k/\k<=s.1.length)/\(nQ s.1=b++nQ (s.1.drop k.toNat))/\((b.size:Int)<=33*k)) y) (cu [.int .i64,.str] (fun(k:Int) (b:ByteArray)=>((s.1.length:Int)-k).toNat)) (cu [.int .i64,.str] (fun(k:Int) (b:ByteArray)=>([]:List (Nat×Nat×LA)))))],?_⟩;repeat' (first
  |(
 with_reducible refine Side.mk ⟨(⟨⟩:Tag 95),?_⟩
 dsimp only[cu,aC,aB,gts,eE,eN]
 refine⟨?_,?_,?_⟩
 ·omega
 ·first
  |(
  show nQ s.1=ByteArray.empty++nQ s.1
  rw[ByteArray.empty_append])
  |(
  have t0:s.1[k.toNat]!.2.1=1:=by with_reducible assumption
  have t1:scT s.1[k.toNat]! =⟨#[]⟩:=if_neg (by rw[t0];decide)
  have t3:tw s.1[k.toNat]!.2.1=(⟨#[32,105,110,116]⟩:ByteArray):=by rw[t0];decide
  first
  |(
   have t2:nuT s.1[k.toNat]! =nuB:=if_pos (by with_reducible assumption);rw[hB,dK (by omega),tH,t1,t2,t3];simp only[ByteArray.append_assoc,gK];done)
  |(
   have t2:nuT s.1[k.toNat]! =⟨#[]⟩:=if_neg (by rw[show s.1[k.toNat]!.2.2.2=false by with_reducible assumption];exact Bool.noConfusion);rw[hB,dK (by omega),tH,t1,t2,t3];simp only[ByteArray.append_assoc,gK];done))
  |(
  have t0:s.1[k.toNat]!.2.1=2:=by with_reducible assumption
  have t1:scT s.1[k.toNat]! =⟨#[]⟩:=if_neg (by rw[t0];decide)
  have t3:tw s.1[k.toNat]!.2.1=(⟨#[32,98,111,111,108]⟩:ByteArray):=by rw[t0];decide
  first
  |(
   have t2:nuT s.1[k.toNat]! =nuB:=if_pos (by with_reducible assumption);rw[hB,dK (by omega),tH,t1,t2,t3];simp only[ByteArray.append_assoc,gK];done)
  |(
   have t2:nuT s.1[k.toNat]! =⟨#[]⟩:=if_neg (by rw[show s.1[k.toNat]!.2.2.2=false by with_reducible assumption];exact Bool.noConfusion);rw[hB,dK (by omega),tH,t1,t2,t3];simp only[ByteArray.append_assoc,gK];done))
  |(
  have t0:s.1[k.toNat]!.2.1=3:=by with_reducible assumption
  have t1:scT s.1[k.toNat]! =⟨#[]⟩:=if_neg (by rw[t0];decide)
  have t3:tw s.1[k.toNat]!.2.1=(⟨#[32,98,121,116,101,115]⟩:ByteArray):=by rw[t0];decide
  first
  |(
   have t2:nuT s.1[k.toNat]! =nuB:=if_pos (by with_reducible assumption);rw[hB,dK (by omega),tH,t1,t2,t3];simp only[ByteArray.append_assoc,gK];done)
  |(
   have t2:nuT s.1[k.toNat]! =⟨#[]⟩:=if_neg (by rw[show s.1[k.toNat]!.2.2.2=false by with_reducible assumption];exact Bool.noConfusion);rw[hB,dK (by omega),tH,t1,t2,t3];simp only[ByteArray.append_assoc,gK];done))
  |(
  have t0:s.1[k.toNat]!.2.1=4:=by with_reducible assumption
  have t1:scT s.1[k.toNat]! =⟨#[]⟩:=if_neg (by rw[t0];decide)
  have t3:tw s.1[k.toNat]!.2.1=(⟨#[32,100,97,116,101]⟩:ByteArray):=by rw[t0];decide
  first
  |(
   have t2:nuT s.1[k.toNat]! =nuB:=if_pos (by with_reducible assumption);rw[hB,dK (by omega),tH,t1,t2,t3];simp only[ByteArray.append_assoc,gK];done)
  |(
   have t2:nuT s.1[k.toNat]! =⟨#[]⟩:=if_neg (by rw[show s.1[k.toNat]!.2.2.2=false by with_reducible assumption];exact Bool.noConfusion);rw[hB,dK (by omega),tH,t1,t2,t3];simp only[ByteArray.append_assoc,gK];done))
  |(
  have kk:0<=k/\k<s.1.length:=by omega
  have qq:=eY (s:=s) (by with_reducible assumption) kk
  obtain⟨q1,q2,q3⟩:=qq
  have t0:s.1[k.toNat]!.2.1=5:=by omega
  have t1:scT s.1[k.toNat]! =⟨#[32]⟩++VY s.1[k.toNat]!.2.2.1:=if_pos t0
  have t3:tw s.1[k.toNat]!.2.1=(⟨#[32,100,101,99,105,109,97,108]⟩:ByteArray):=by rw[t0];decide
  have t4:(⟨#[32,100,101,99,105,109,97,108,32]⟩:ByteArray)=(⟨#[32,100,101,99,105,109,97,108]⟩:ByteArray)++⟨#[32]⟩:=by decide
  first
  |(
   have t2:nuT s.1[k.toNat]! =nuB:=if_pos (by with_reducible assumption);rw[hB,dK (by omega),tH,t1,t2,t3,t4];simp only[ByteArray.append_assoc,gK];done)
  |(
   have t2:nuT s.1[k.toNat]! =⟨#[]⟩:=if_neg (by rw[show s.1[k.toNat]!.2.2.2=false by with_reducible assumption];exact Bool.noConfusion);rw[hB,dK (by omega),tH,t1,t2,t3,t4];simp only[ByteArray.append_assoc,gK];done))
 ·first
  |exact Int.le_refl _
  |(
  have kk:0<=k/\k<s.1.length:=by omega
  have qq:=eY (s:=s) (by with_reducible assumption) kk
  obtain⟨q1,q2,q3⟩:=qq
  have z1:=qIL q1
  have z2:=vJ s.1[k.toNat]!.2.2.1
  have u1:(⟨#[32]⟩:ByteArray).size=1:=rfl
  have u2:(⟨#[10]⟩:ByteArray).size=1:=rfl
  have u3:(⟨#[32,110,117,108,108]⟩:ByteArray).size=5:=rfl
  have u5:xX.length=5:=rfl
  have v0:(⟨#[32,105,110,116]⟩:ByteArray).size=4:=rfl
  have v1:(⟨#[32,98,111,111,108]⟩:ByteArray).size=5:=rfl
  have v2:(⟨#[32,98,121,116,101,115]⟩:ByteArray).size=6:=rfl
  have v3:(⟨#[32,100,97,116,101]⟩:ByteArray).size=5:=rfl
  have v4:(⟨#[32,100,101,99,105,109,97,108,32]⟩:ByteArray).size=9:=rfl
  have q0:=aX (s:=s) (by with_reducible assumption)
  simp only[ByteArray.size_append]
  omega))
  |(
 with_reducible apply Side.mk
 (try dsimp only[cu,aC,aB,gts,loK,hiK,eE,eN])
 first
 |omega
 |(
  show _/\_;have kk:0<=k/\k<s.1.length:=by omega
  have qq:=eY (s:=s) (by with_reducible assumption) kk;obtain⟨q1,q2,q3⟩:=qq;omega)
 |(
  have kk:0<=k/\k<s.1.length:=by omega
  have qq:=eY (s:=s) (by with_reducible assumption) kk;obtain⟨q1,q2,q3⟩:=qq;have z1:=qIL q1;have z2:=vJ s.1[k.toNat]!.2.2.1;have u1:(⟨#[32]⟩:ByteArray).size=1:=rfl;have u2:(⟨#[10]⟩:ByteArray).size=1:=rfl;have u3:(⟨#[32,110,117,108,108]⟩:ByteArray).size=5:=rfl;have u5:xX.length=5:=rfl;have v0:(⟨#[32,105,110,116]⟩:ByteArray).size=4:=rfl;have v1:(⟨#[32,98,111,111,108]⟩:ByteArray).size=5:=rfl;have v2:(⟨#[32,98,121,116,101,115]⟩:ByteArray).size=6:=rfl;have v3:(⟨#[32,100,97,116,101]⟩:ByteArray).size=5:=rfl;have v4:(⟨#[32,100,101,99,105,109,97,108,32]⟩:ByteArray).size=9:=rfl;have q0:=aX (s:=s) (by with_reducible assumption);have w1:=q1.1;have w2:=q1.2;(try simp only[List.length_append,bX,ByteArray.size_append]);omega)
 |(
  have q0:=aX (s:=s) (by with_reducible assumption);have kk:0<=s.2/\s.2<s.1.length:=by omega
  have qq:=eY (s:=s) (by with_reducible assumption) kk;obtain⟨q1,q2,q3⟩:=qq;have u1:(⟨#[107,101,121,32]⟩:ByteArray).size=4:=rfl;have u2:(⟨#[10]⟩:ByteArray).size=1:=rfl;(try simp only[List.length_append,bX,ByteArray.size_append]);omega))
  |(conv=>whnf
    first
     |with_reducible first|done|exact trivial|refine NilBr.mk (fun h=>?_) ?_|apply aI|apply aH|refine aJ (by kernel_rfl) ?_|apply aK|apply bE|apply bD|apply aQ
     |((with_reducible first|apply aS|apply aR|apply bB)<;>intro h<;>(try dsimp only[cu,eE,eN]at h)<;>(try(exfalso;omega)))
     |(
 intro yy (hy:Tag 95/\_)
 obtain⟨(k:Int),(b:ByteArray),_⟩:=yy
 replace hy:=hy.2
 dsimp only[cu,aC,aB,gts,eE,eN]at hy
 obtain⟨hk,hB,hz⟩:=hy)))
 all_goals(
 with_reducible apply Leaf.mk
 (try dsimp only[cu,aC,aB,gts,eE,eN]at *)
 first
 |rw[lN,if_pos (by with_reducible assumption)]
 |(
  have hk2:k=s.1.length:=by omega
  have hd:s.1.drop k.toNat= []:=List.drop_eq_nil_of_le (by omega);rw[hd]at hB;have hB2:nQ []=(⟨#[]⟩:ByteArray):=rfl;rw[hB2,FD]at hB;rw[lN,if_neg (fun q=>q (by with_reducible assumption)),tZ,qTA,hB];simp only[iT,iI,ByteArray.append_assoc,gK];done)
 |(rw[lN,if_neg (fun q=>q (by with_reducible assumption))]))
abbrev qXB:Tbl:=(80,HR)::qXA
theorem qAP:aD Tryz.prog qXB:=aD.cons qPU qAO
abbrev qED:Ct:=.fn [bM] (none) (fun(s:Schema)=>.tup [.int .u32,.int .i64] ((idS s).1,(idS s).2,()))
theorem qZ6:aF Tryz.prog 61 qED:=by
 refine aF.fn qAP mixed [] [] rfl rfl ?_;rintro⟨(s:Schema),_⟩ -;refine⟨[],?_⟩;repeat' (first
  |(
 with_reducible apply Side.mk
 (try dsimp only[cu,aC,aB,gts,loK,hiK,eE,eN])
 (
  have hfs:=qES (s:=s);omega))
  |(conv=>whnf
    first
     |with_reducible first|done|exact trivial|refine NilBr.mk (fun h=>?_) ?_|apply aI|apply aH|refine aJ (by kernel_rfl) ?_|apply aK|apply bE|apply bD|apply aQ
     |((with_reducible first|apply aS|apply aR|apply bB)<;>intro h<;>(try dsimp only[cu,eE,eN]at h)<;>(try(exfalso;omega)))))
 all_goals(
 with_reducible apply Leaf.mk
 (try dsimp only[cu,aC,aB,gts,eE,eN]at *)
 first
 |(
  rw[qZ4 (by with_reducible assumption)];first|done|rfl)
 |(rw[qZ5 (by with_reducible assumption)]))
abbrev qXC:Tbl:=(61,qED)::qXB
theorem qAQ:aD Tryz.prog qXC:=aD.cons qZ6 qAP
abbrev VG:Ct:=.fn [bM] (none) (fun(s:Schema)=>.tup [.int .u32,.int .i64] ((idS s).1,(idS s).2,()))
theorem qZA:aF Tryz.prog 37 VG:=by
 refine aF.fn qAQ mixed [] [] rfl rfl ?_;rintro⟨(s:Schema),_⟩ -;refine⟨[],?_⟩;repeat' (first
  |(
 with_reducible apply Side.mk
 (try dsimp only[cu,aC,aB,gts,loK,hiK,eE,eN])
 (
  have hfs:=qES (s:=s);omega))
  |(conv=>whnf
    first
     |with_reducible first|done|exact trivial|refine NilBr.mk (fun h=>?_) ?_|apply aI|apply aH|refine aJ (by kernel_rfl) ?_|apply aK|apply bE|apply bD|apply aQ
     |((with_reducible first|apply aS|apply aR|apply bB)<;>intro h<;>(try dsimp only[cu,eE,eN]at h)<;>(try(exfalso;omega)))))
 all_goals(
 with_reducible apply Leaf.mk
 (try dsimp only[cu,aC,aB,gts,eE,eN]at *)
 first
 |(
  rw[qZ4 (by with_reducible assumption)];first|done|rfl)
 |(rw[qZ5 (by with_reducible assumption)]))
abbrev qXD:Tbl:=(37,VG)::qXC
theorem qAR:aD Tryz.prog qXD:=aD.cons qZA qAQ
end Go.Proofs.YtcjiefknhfhmkaaGreatDoor
