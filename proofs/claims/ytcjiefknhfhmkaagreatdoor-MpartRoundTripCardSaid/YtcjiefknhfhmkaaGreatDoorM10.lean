import Derived.Lib.UnsafeStr
import Derived.Tactics2
import Derived.RegionTactic
import Derived.WalkKit
import Derived.Test.YtcjiefknhfhmkaaGreatDoorM09
open List renaming getElem?_eq_getElem -> ga, length_append -> gb, length_cons -> gc, length_nil -> ge, take_of_length_le -> gf, getElem?_set_ne -> gl, getElem?_eq_none -> gp, length_take -> gr, length_drop -> gt, map_append -> gu, drop_eq_nil_of_le -> gw, take_add_one -> gx, getElem?_set_self -> gz, getElem!_eq_getElem?_getD -> ht, foldr_cons -> hu, getElem_of_mem -> ka, mem_cons_self -> kb, replicate -> kc, all_cons -> ke, getElem_mem -> kf, cons_append -> kh, length_map -> kp, range_succ -> kq, length_singleton -> ku, mem_range -> kv, mem_cons_of_mem -> kx, mem_iff_getElem -> ky, mem_cons -> kz, length_range -> ua
open ByteArray renaming size_append -> gg, append_assoc -> gh, size_extract -> gy, empty_append -> ko
open Bool renaming and_eq_true -> gk, noConfusion -> kg
open Prod renaming ext -> gm, ext_iff -> kl
open Nat renaming le_refl -> gq, eq_of_beq_eq_true -> hh, le_of_ble_eq_true -> ks, zero_le -> kw, lt_or_ge -> ub
open Int renaming le_refl -> kd
open Eq renaming refl -> km
open Array renaming getElem?_modify -> kt
namespace Go.Proofs.YtcjiefknhfhmkaaGreatDoor
open Go.Abs
set_option maxRecDepth 100000
set_option maxHeartbeats 4000000
set_option linter.unusedVariables false
set_option linter.unusedSimpArgs false
def kO (s:Schema) (row:List Val):Int:=if row.length≠s.1.length then 1 else bV (fun i v=>aZ s.1[i.toNat]! v) 0 row
abbrev qN:Rank:=((false,0,⟨#[]⟩),0)
def fD (s:Schema) (r:Rec):Rank:=if s.2<0\/s.2>=r.2.length then qN else(r.2[s.2.toNat]!,r.1)
def eC (t:Int) (a b:Rank):Int:=if aY t a.1 b.1≠0 then aY t a.1 b.1 else iO a.2 b.2
def iU (s:Schema) (r:Rec):Bool:=decide (0<=r.1)&&decide (r.1<=1099511627776)&&decide (kO s r.2=0)
def cO (s:Schema) (l:List Rec):Bool:=decide (aS s=0)&&l.all (iU s)
def lM (s:Schema) (a b:Rec):Int:=eC s.1[s.2.toNat]!.2.1 (fD s a) (fD s b)
def ER (s:Schema) (l:List Rec):Bool:=(List.range (l.length-1)).all fun i=>decide (lM s l[i]! l[i+1]! <0)
def dN (s:Schema) (l:List Rec):Bool:=cO s l&&ER s l
theorem dR {s:Schema} {l:List Rec} (h:cO s l=true):aS s=0/\∀i:Nat,i<l.length->kO s l[i]!.2=0:=by
 simp only[cO,gk,decide_eq_true_eq,List.all_eq_true]at h;refine⟨h.1,fun i hi=>?_⟩;have q:=h.2 l[i]! (by rw[getElem!_pos l i hi];exact kf hi);simp only[iU,gk,decide_eq_true_eq]at q;exact q.2
theorem oC {b:Bool} (h:(!b)=false):b=true:=by cases b;cases h;rfl
theorem qKX {b:Bool} (h:(!b)=true):b=false:=by cases b;rfl;cases h
def orI:List Int->Int
 | []=>0
 |x::l=>if x≠0 then x else orI l
theorem bI {s:Schema} (h:aS s=0):s.1.length<=12/\0<=s.2/\s.2<s.1.length:=by
 unfold aS at h;split at h
 ·cases h
 split at h
 ·cases h
 split at h
 ·contradiction
 split at h
 ·cases h
 ·omega
theorem qd2 {i n:Nat} {k:Int} (h:i<n) (hk:¬k<n):i<k.toNat:=om
theorem qaD {s:Schema} {l:List Rec} {k:Int} (h:1<=k/\k<l.length) (hn:lM s l[(k-1).toNat]! l[k.toNat]! >=0):ER s l=false:=by
 rw[ER,List.all_eq_false];refine⟨(k-1).toNat,by rw[kv];omega,?_⟩;rw[show(k-1).toNat+1=k.toNat by omega,decide_eq_true_eq];omega
theorem qWJ {s:Schema} {l:List Rec} (h:∀i:Nat,1<=i->i<l.length->lM s l[i-1]! l[i]! <0):ER s l=true:=by
 rw[ER,List.all_eq_true];intro i hi;rw[kv]at hi;rw[decide_eq_true_eq];exact h (i+1) om om
def jZ (s:Schema) (r:Rec) (l:List Rec):Nat->Nat
 |0=>0
 |n+1=>if lM s r l[n]! <0 then jZ s r l n else n+1
theorem qO4 (s:Schema) (r:Rec) (l:List Rec) (n:Nat):jZ s r l n<=n:=by
 induction n with
 |zero=>exact gq _
 |succ n ih=>rw[jZ];split<;>omega
theorem qO3 {s:Schema} {r:Rec} {l:List Rec} {k:Int} (h:k>0) (ho:lM s r l[(k-1).toNat]! <0):jZ s r l k.toNat=jZ s r l (k-1).toNat:=by
 obtain⟨n,rfl⟩:∃n:Nat,k=(n:Int)+1:=⟨(k-1).toNat,om⟩
 rw[show((n:Int)+1).toNat=n+1 by omega,show((n:Int)+1-1).toNat=n by omega]at *;rw[jZ,if_pos ho]
theorem qCC {s:Schema} {r:Rec} {l:List Rec} {k:Int} (h:k>0) (ho:¬lM s r l[(k-1).toNat]! <0):jZ s r l k.toNat=k.toNat:=by
 obtain⟨n,rfl⟩:∃n:Nat,k=(n:Int)+1:=⟨(k-1).toNat,om⟩
 rw[show((n:Int)+1).toNat=n+1 by omega,show((n:Int)+1-1).toNat=n by omega]at *;rw[jZ,if_neg ho]
def lJ (s:Schema) (o:List Rec) (r:Rec):List Rec:=o.take (jZ s r o o.length)++ [r]++o.drop (jZ s r o o.length)
theorem zG (s:Schema) (o:List Rec) (r:Rec):(lJ s o r).length=o.length+1:=by
 have:=qO4 s r o o.length;simp only[lJ,gb,gr,gt,gc,ge];omega
theorem qO2 {s:Schema} {r:Rec} {l:List Rec} {j:Int} (h:jZ s r l l.length=jZ s r l j.toNat) (h0:0<=j) (hs:¬j>0\/¬lM s r l[(j-1).toNat]! <0):jZ s r l l.length=j.toNat:=by
 by_cases q:j>0
 ·rcases hs with hs|hs
  ·exact absurd q hs
  ·exact h.trans (qCC q hs)
 ·rw[h,show j.toNat=0 by omega];rfl
theorem AK {α:Type} (l:List α) (a n:Nat):TY l a n=(l.drop a).take n:=by cases a<;>rfl
theorem qF8 {α:Type} (l:List α) (a n:Nat):(TY l a n).length=min n (l.length-a):=by rw[AK,gr,gt]
theorem QL {α:Type} (l:List α) (j:Int) (h:0<=j/\j<=l.length):TY l j.toNat ((l.length:Int)-j).toNat=l.drop j.toNat:=by rw[AK,gf (by rw[gt];omega)]
theorem qaZ {O:List Rec} {x:Rec} {j:Int} (h:j=O.length):TY O 0 j.toNat++ [x]++ []=O.take j.toNat++ [x]++O.drop j.toNat:=by rw[AK,List.drop_zero,gw om]
theorem qa0 {O:List Rec} {x:Rec} {j:Int} (h:0<=j/\j<=O.length):TY O 0 j.toNat++ [x]++TY O j.toNat ((O.length:Int)-j).toNat=O.take j.toNat++ [x]++O.drop j.toNat:=by rw[AK,List.drop_zero,QL O j h]
theorem qa1 {O:List Rec} {x:Rec} {j:Int} (h:O.length=0) (hj:0<=j/\j<=O.length):[x]++ []=O.take j.toNat++ [x]++O.drop j.toNat:=by rw[gw om,show j.toNat=0 by omega];rfl
theorem qa2 {O:List Rec} {x:Rec} {j:Int} (hj:0<=j/\j<=O.length) (h:j<=0):[x]++TY O j.toNat ((O.length:Int)-j).toNat=O.take j.toNat++ [x]++O.drop j.toNat:=by rw[QL O j hj,show j.toNat=0 by omega];rfl
def jU (s:Schema) (l:List Rec):List Rec:=if cO s l=true then l.foldl (lJ s) []else[]
abbrev wP:Ct:=.fn [cX,.list bU] (some (fun(s:Schema) (row:List Val)=>(s.1.length<=12))) (fun(s:Schema) (row:List Val)=>.d (.int .i64) (kO s row))
theorem VU:aH Tryz.prog 118 wP:=by
 refine aH.fn qH8 mixed [] [] rfl rfl ?_;rintro⟨(s:Schema),(row:List Val),_⟩ hpre;replace hpre:=hpre _ rfl;dsimp only[cu]at hpre;have hs:=hpre;refine⟨[(0,8,LA.mk [.sl 16 (.int .i64)] (fun y=>Tag 49/\cu [.int .i64] (fun(k:Int)=>(0<=k/\k<=row.length)/\(bV (fun i v=>aZ s.1[i.toNat]! v) 0 row=bV (fun i v=>aZ s.1[i.toNat]! v) k (row.drop k.toNat))) y) (cu [.int .i64] (fun(k:Int)=>((row.length:Int)-k).toNat)) (cu [.int .i64] (fun(k:Int)=>([]:List (Nat×Nat×LA)))))],?_⟩;repeat' (first
  |(
 with_reducible refine Side.mk ⟨(⟨⟩:Tag 49),?_⟩
 dsimp only[cu,aC,aB,gts,eE,eN]
 refine⟨?_,?_⟩
 ·omega
 ·first
  |simp;done
  |(
  rw[bQ _ _ om]at hr
  rw[hr,bV,if_pos av]))
  |(
 with_reducible apply Side.mk
 (try dsimp only[cu,aC,aB,gts,loK,hiK,eE,eN])
 omega)
  |(conv=>whnf
    first
     |with_reducible first|done|exact trivial|refine NilBr.mk (fun h=>?_) ?_|apply aL|apply aK|refine aM kr ?_|apply aN|apply bL|apply bK|apply aU
     |((with_reducible first|apply aW|apply aV|apply bH)<;>intro h<;>(try dsimp only[cu,eE,eN]at h)<;>(try(exfalso;omega)))
     |(
 intro yy (hy:Tag 49/\_)
 obtain⟨(k:Int),_⟩:=yy
 replace hy:=hy.2
 dsimp only[cu,aC,aB,gts,eE,eN]at hy
 obtain⟨hk,hr⟩:=hy)))
 all_goals(
 with_reducible apply Leaf.mk
 (try dsimp only[cu,aC,aB,gts,eE,eN]at *)
 first
 |grind [kO]
 |(
  rw[bQ _ _ om,bV]at hr;grind [kO])
 |(
  rw[nO _ _ om]at hr;grind [kO,bV]))
abbrev qdH:Tbl:=(118,wP)::qdG
theorem qH9:aD Tryz.prog qdH:=aD.cons VU qH8
abbrev MI:Ct:=.fn [cX,.list bU] (some (fun(s:Schema) (row:List Val)=>(s.1.length<=12))) (fun(s:Schema) (row:List Val)=>.d (.int .i64) (kO s row))
theorem qSS:aH Tryz.prog 137 MI:=by
 refine aH.fn qH9 mixed [] [] rfl rfl ?_;rintro⟨(s:Schema),(row:List Val),_⟩ hpre;replace hpre:=hpre _ rfl;dsimp only[cu]at hpre;have hs:=hpre;refine⟨[(0,8,LA.mk [.sl 16 (.int .i64)] (fun y=>Tag 50/\cu [.int .i64] (fun(k:Int)=>(0<=k/\k<=row.length)/\(bV (fun i v=>aZ s.1[i.toNat]! v) 0 row=bV (fun i v=>aZ s.1[i.toNat]! v) k (row.drop k.toNat))) y) (cu [.int .i64] (fun(k:Int)=>((row.length:Int)-k).toNat)) (cu [.int .i64] (fun(k:Int)=>([]:List (Nat×Nat×LA)))))],?_⟩;repeat' (first
  |(
 with_reducible refine Side.mk ⟨(⟨⟩:Tag 50),?_⟩
 dsimp only[cu,aC,aB,gts,eE,eN]
 refine⟨?_,?_⟩
 ·omega
 ·first
  |simp;done
  |(
  rw[bQ _ _ om]at hr
  rw[hr,bV,if_pos av]))
  |(
 with_reducible apply Side.mk
 (try dsimp only[cu,aC,aB,gts,loK,hiK,eE,eN])
 omega)
  |(conv=>whnf
    first
     |with_reducible first|done|exact trivial|refine NilBr.mk (fun h=>?_) ?_|apply aL|apply aK|refine aM kr ?_|apply aN|apply bL|apply bK|apply aU
     |((with_reducible first|apply aW|apply aV|apply bH)<;>intro h<;>(try dsimp only[cu,eE,eN]at h)<;>(try(exfalso;omega)))
     |(
 intro yy (hy:Tag 50/\_)
 obtain⟨(k:Int),_⟩:=yy
 replace hy:=hy.2
 dsimp only[cu,aC,aB,gts,eE,eN]at hy
 obtain⟨hk,hr⟩:=hy)))
 all_goals(
 with_reducible apply Leaf.mk
 (try dsimp only[cu,aC,aB,gts,eE,eN]at *)
 first
 |grind [kO]
 |(
  rw[bQ _ _ om,bV]at hr;grind [kO])
 |(
  rw[nO _ _ om]at hr;grind [kO,bV]))
abbrev qdI:Tbl:=(137,MI)::qdH
theorem qIA:aD Tryz.prog qdI:=aD.cons qSS qH9
abbrev HL:Ct:=.fn [cX,gZ] (none) (fun(s:Schema) (r:Rec)=>.d vC (fD s r))
theorem qQ1:aH Tryz.prog 30 HL:=by
 refine aH.fn qIA mixed [] [] rfl rfl ?_;rintro⟨(s:Schema),(r:Rec),_⟩ -;refine⟨[],?_⟩;repeat' (first
  |(
 with_reducible apply Side.mk
 (try dsimp only[cu,aC,aB,gts,loK,hiK,eE,eN])
 omega)
  |(conv=>whnf
    first
     |with_reducible first|done|exact trivial|refine NilBr.mk (fun h=>?_) ?_|apply aL|apply aK|refine aM kr ?_|apply aN|apply bL|apply bK|apply aU
     |((with_reducible first|apply aW|apply aV|apply bH)<;>intro h<;>(try dsimp only[cu,eE,eN]at h)<;>(try(exfalso;omega)))))
 all_goals(
 with_reducible apply Leaf.mk
 (try dsimp only[cu,aC,aB,gts,eE,eN]at *)
 first
 |rw[fD,if_pos om]
 |(rw[fD,if_neg om]))
abbrev qdJ:Tbl:=(30,HL)::qdI
theorem qIB:aD Tryz.prog qdJ:=aD.cons qQ1 qIA
abbrev GR:Ct:=.fn [cX,gZ] (none) (fun(s:Schema) (r:Rec)=>.d vC (fD s r))
theorem qNB:aH Tryz.prog 98 GR:=by
 refine aH.fn qIB mixed [] [] rfl rfl ?_;rintro⟨(s:Schema),(r:Rec),_⟩ -;refine⟨[],?_⟩;repeat' (first
  |(
 with_reducible apply Side.mk
 (try dsimp only[cu,aC,aB,gts,loK,hiK,eE,eN])
 omega)
  |(conv=>whnf
    first
     |with_reducible first|done|exact trivial|refine NilBr.mk (fun h=>?_) ?_|apply aL|apply aK|refine aM kr ?_|apply aN|apply bL|apply bK|apply aU
     |((with_reducible first|apply aW|apply aV|apply bH)<;>intro h<;>(try dsimp only[cu,eE,eN]at h)<;>(try(exfalso;omega)))))
 all_goals(
 with_reducible apply Leaf.mk
 (try dsimp only[cu,aC,aB,gts,eE,eN]at *)
 first
 |rw[fD,if_pos om]
 |(rw[fD,if_neg om]))
abbrev qdK:Tbl:=(98,GR)::qdJ
theorem qIC:aD Tryz.prog qdK:=aD.cons qNB qIB
abbrev HM:Ct:=.fn [.int .i64,vC,vC] (none) (fun(t:Int) (a:Rank) (b:Rank)=>.d (.int .i64) (eC t a b))
theorem qQ2:aH Tryz.prog 78 HM:=by
 refine aH.fn qIC mixed [] [] rfl rfl ?_;rintro⟨(t:Int),(a:Rank),(b:Rank),_⟩ -;refine⟨[],?_⟩;repeat' (first
  |(
 with_reducible apply Side.mk
 (try dsimp only[cu,aC,aB,gts,loK,hiK,eE,eN])
 done)
  |(conv=>whnf
    first
     |with_reducible first|done|exact trivial|refine NilBr.mk (fun h=>?_) ?_|apply aL|apply aK|refine aM kr ?_|apply aN|apply bL|apply bK|apply aU
     |((with_reducible first|apply aW|apply aV|apply bH)<;>intro h<;>(try dsimp only[cu,eE,eN]at h)<;>(try(exfalso;omega)))))
 all_goals(
 with_reducible apply Leaf.mk
 (try dsimp only[cu,aC,aB,gts,eE,eN]at *)
 grind [eC,iO])
abbrev qdL:Tbl:=(78,HM)::qdK
theorem qID:aD Tryz.prog qdL:=aD.cons qQ2 qIC
abbrev VE:Ct:=.fn [.list (.int .i64)] (some (fun(l:List Int)=>(l.length<=9223372036854775807))) (fun(l:List Int)=>.d (.int .i64) (orI l))
theorem qZE:aH Tryz.prog 130 VE:=by
 refine aH.fn qID mixed [] [] rfl rfl ?_;rintro⟨(l:List Int),_⟩ hpre;replace hpre:=hpre _ rfl;dsimp only[cu]at hpre;have hl:=hpre;refine⟨[(0,6,LA.mk [.sl 8 (.int .i64)] (fun y=>Tag 51/\cu [.int .i64] (fun(k:Int)=>(0<=k/\k<=l.length)/\(orI l=orI (l.drop k.toNat))) y) (cu [.int .i64] (fun(k:Int)=>((l.length:Int)-k).toNat)) (cu [.int .i64] (fun(k:Int)=>([]:List (Nat×Nat×LA)))))],?_⟩;repeat' (first
  |(
 with_reducible refine Side.mk ⟨(⟨⟩:Tag 51),?_⟩
 dsimp only[cu,aC,aB,gts,eE,eN]
 refine⟨?_,?_⟩
 ·omega
 ·first
  |rfl
  |(
  rw[bQ _ _ om,orI,if_neg (fun q=>q av)]at hz
  exact hz))
  |(
 with_reducible apply Side.mk
 (try dsimp only[cu,aC,aB,gts,loK,hiK,eE,eN])
 omega)
  |(conv=>whnf
    first
     |with_reducible first|done|exact trivial|refine NilBr.mk (fun h=>?_) ?_|apply aL|apply aK|refine aM kr ?_|apply aN|apply bL|apply bK|apply aU
     |((with_reducible first|apply aW|apply aV|apply bH)<;>intro h<;>(try dsimp only[cu,eE,eN]at h)<;>(try(exfalso;omega)))
     |(
 intro yy (hy:Tag 51/\_)
 obtain⟨(k:Int),_⟩:=yy
 replace hy:=hy.2
 dsimp only[cu,aC,aB,gts,eE,eN]at hy
 obtain⟨hk,hz⟩:=hy)))
 all_goals(
 with_reducible apply Leaf.mk
 (try dsimp only[cu,aC,aB,gts,eE,eN]at *)
 first
 |rw[hz,bQ _ _ om,orI,if_pos av]
 |(
  rw[hz,nO _ _ om];rfl))
abbrev qdM:Tbl:=(130,VE)::qdL
theorem qIE:aD Tryz.prog qdM:=aD.cons qZE qID
abbrev GS:Ct:=.fn [.int .i64,vC,vC] (none) (fun(t:Int) (a:Rank) (b:Rank)=>.d (.int .i64) (eC t a b))
theorem qNC:aH Tryz.prog 94 GS:=by
 refine aH.fn qIE mixed [] [] rfl rfl ?_;rintro⟨(t:Int),(a:Rank),(b:Rank),_⟩ -;refine⟨[],?_⟩;repeat' (first
  |(
 with_reducible apply Side.mk
 (try dsimp only[cu,aC,aB,gts,loK,hiK,eE,eN])
 (simp only[gb,gc,ge];omega))
  |(conv=>whnf
    first
     |with_reducible first|done|exact trivial|refine NilBr.mk (fun h=>?_) ?_|apply aL|apply aK|refine aM kr ?_|apply aN|apply bL|apply bK|apply aU
     |((with_reducible first|apply aW|apply aV|apply bH)<;>intro h<;>(try dsimp only[cu,eE,eN]at h)<;>(try(exfalso;omega)))))
 all_goals(
 with_reducible apply Leaf.mk
 (try dsimp only[cu,aC,aB,gts,eE,eN]at *)
 (
  simp only[orI,eC];grind))
abbrev qdN:Tbl:=(94,GS)::qdM
theorem qIF:aD Tryz.prog qdN:=aD.cons qNC qIE
abbrev DE:Ct:=.fn [cX,gZ,gZ] (some (fun(s:Schema) (a:Rec) (b:Rec)=>(0<=s.2/\s.2<s.1.length))) (fun(s:Schema) (a:Rec) (b:Rec)=>.d (.int .i64) (lM s a b))
theorem qLF:aH Tryz.prog 97 DE:=by
 refine aH.fn qIF mixed [] [] rfl rfl ?_;rintro⟨(s:Schema),(a:Rec),(b:Rec),_⟩ hpre;replace hpre:=hpre _ rfl;dsimp only[cu]at hpre;have hk:=hpre;refine⟨[],?_⟩;repeat' (first
  |(
 with_reducible apply Side.mk
 (try dsimp only[cu,aC,aB,gts,loK,hiK,eE,eN])
 omega)
  |(conv=>whnf
    first
     |with_reducible first|done|exact trivial|refine NilBr.mk (fun h=>?_) ?_|apply aL|apply aK|refine aM kr ?_|apply aN|apply bL|apply bK|apply aU
     |((with_reducible first|apply aW|apply aV|apply bH)<;>intro h<;>(try dsimp only[cu,eE,eN]at h)<;>(try(exfalso;omega)))))
 all_goals(
 with_reducible apply Leaf.mk
 (try dsimp only[cu,aC,aB,gts,eE,eN]at *)
 rfl)
abbrev qdO:Tbl:=(97,DE)::qdN
theorem qIG:aD Tryz.prog qdO:=aD.cons qLF qIF
abbrev yM:Ct:=.fn [cX] (some (fun(s:Schema)=>(0<=s.2/\s.2<s.1.length))) (fun(s:Schema)=>.d (.int .i64) (s.1[s.2.toNat]!.2.1))
theorem qCG:aH Tryz.prog 79 yM:=by
 refine aH.fn qIG mixed [] [] rfl rfl ?_;rintro⟨(s:Schema),_⟩ hpre;replace hpre:=hpre _ rfl;dsimp only[cu]at hpre;have hk:=hpre;refine⟨[],?_⟩;repeat' (first
  |(
 with_reducible apply Side.mk
 (try dsimp only[cu,aC,aB,gts,loK,hiK,eE,eN])
 omega)
  |(conv=>whnf
    first
     |with_reducible first|done|exact trivial|refine NilBr.mk (fun h=>?_) ?_|apply aL|apply aK|refine aM kr ?_|apply aN|apply bL|apply bK|apply aU
     |((with_reducible first|apply aW|apply aV|apply bH)<;>intro h<;>(try dsimp only[cu,eE,eN]at h)<;>(try(exfalso;omega)))))
 all_goals(
 with_reducible apply Leaf.mk
 (try dsimp only[cu,aC,aB,gts,eE,eN]at *)
 done)
abbrev qdP:Tbl:=(79,yM)::qdO
theorem qIH:aD Tryz.prog qdP:=aD.cons qCG qIG
abbrev DG:Ct:=.fn [cX,.list gZ] (some (fun(s:Schema) (l:List Rec)=>(l.length<=9223372036854775807))) (fun(s:Schema) (l:List Rec)=>.d .bool (cO s l))
theorem qLK:aH Tryz.prog 77 DG:=by
 refine aH.fn qIH mixed [] [] rfl rfl ?_;rintro⟨(s:Schema),(l:List Rec),_⟩ hpre;replace hpre:=hpre _ rfl;dsimp only[cu]at hpre;have hl:=hpre;refine⟨[(0,8,LA.mk [.sl 12 (.int .i64)] (fun y=>Tag 52/\cu [.int .i64] (fun(k:Int)=>(0<=k/\k<=l.length)/\(l.all (iU s)=(l.drop k.toNat).all (iU s))) y) (cu [.int .i64] (fun(k:Int)=>((l.length:Int)-k).toNat)) (cu [.int .i64] (fun(k:Int)=>([]:List (Nat×Nat×LA)))))],?_⟩;repeat' (first
  |(
 with_reducible refine Side.mk ⟨(⟨⟩:Tag 52),?_⟩
 dsimp only[cu,aC,aB,gts,eE,eN]
 refine⟨?_,?_⟩
 ·omega
 ·first
  |simp;done
  |(
  rw[bQ _ _ om]at hv
  rw[hv,ke,show iU s l[k.toNat]! =true by grind [iU],Bool.true_and]))
  |(
 with_reducible apply Side.mk
 (try dsimp only[cu,aC,aB,gts,loK,hiK,eE,eN])
 first
 |omega
 |(have:=(bI (s:=s) av).1;omega))
  |(conv=>whnf
    first
     |with_reducible first|done|exact trivial|refine NilBr.mk (fun h=>?_) ?_|apply aL|apply aK|refine aM kr ?_|apply aN|apply bL|apply bK|apply aU
     |((with_reducible first|apply aW|apply aV|apply bH)<;>intro h<;>(try dsimp only[cu,eE,eN]at h)<;>(try(exfalso;omega)))
     |(
 intro yy (hy:Tag 52/\_)
 obtain⟨(k:Int),_⟩:=yy
 replace hy:=hy.2
 dsimp only[cu,aC,aB,gts,eE,eN]at hy
 obtain⟨hk,hv⟩:=hy)))
 all_goals(
 with_reducible apply Leaf.mk
 (try dsimp only[cu,aC,aB,gts,eE,eN]at *)
 first
 |(
  rw[cO,decide_eq_false av];rfl)
 |(
  rw[bQ _ _ om]at hv;rw[cO,hv,ke,show iU s l[k.toNat]! =false by grind [iU]];simp;done)
 |(
  rw[nO _ _ om]at hv;rw[cO,hv];simp_all))
abbrev qdQ:Tbl:=(77,DG)::qdP
theorem qII:aD Tryz.prog qdQ:=aD.cons qLK qIH
abbrev CT:Ct:=.fn [cX,.list gZ] (some (fun(s:Schema) (l:List Rec)=>(l.length<=9223372036854775807))) (fun(s:Schema) (l:List Rec)=>.d .bool (cO s l))
theorem qJP:aH Tryz.prog 96 CT:=by
 refine aH.fn qII mixed [] [135,167,136] rfl rfl ?_;rintro⟨(s:Schema),(l:List Rec),_⟩ hpre;replace hpre:=hpre _ rfl;dsimp only[cu]at hpre;have hl:=hpre;refine⟨[(167,4,LA.mk [.sl 8 (.int .i64)] (fun y=>Tag 53/\cu [.int .i64] (fun(k:Int)=>(0<=k/\k<=l.length)/\(l.all (iU s)=(l.drop k.toNat).all (iU s))) y) (cu [.int .i64] (fun(k:Int)=>((l.length:Int)-k).toNat)) (cu [.int .i64] (fun(k:Int)=>([]:List (Nat×Nat×LA)))))],?_⟩;repeat' (first
  |(
 with_reducible refine Side.mk ⟨(⟨⟩:Tag 53),?_⟩
 dsimp only[cu,aC,aB,gts,eE,eN]
 refine⟨?_,?_⟩
 ·omega
 ·first
  |simp;done
  |(
  rw[bQ _ _ om]at hv
  rw[hv,ke,show iU s l[k.toNat]! =true by grind [iU],Bool.true_and]))
  |(
 with_reducible apply Side.mk
 (try dsimp only[cu,aC,aB,gts,loK,hiK,eE,eN])
 first
 |omega
 |(have:=(bI (s:=s) av).1;omega))
  |(conv=>whnf
    first
     |with_reducible first|done|exact trivial|refine NilBr.mk (fun h=>?_) ?_|apply aL|apply aK|refine aM kr ?_|apply aN|apply bL|apply bK|apply aU
     |((with_reducible first|apply aW|apply aV|apply bH)<;>intro h<;>(try dsimp only[cu,eE,eN]at h)<;>(try(exfalso;omega)))
     |(
 intro yy (hy:Tag 53/\_)
 obtain⟨(k:Int),_⟩:=yy
 replace hy:=hy.2
 dsimp only[cu,aC,aB,gts,eE,eN]at hy
 obtain⟨hk,hv⟩:=hy)))
 all_goals(
 with_reducible apply Leaf.mk
 (try dsimp only[cu,aC,aB,gts,eE,eN]at *)
 first
 |(
  rw[cO,decide_eq_false av];rfl)
 |(
  rw[bQ _ _ om]at hv;rw[cO,hv,ke,show iU s l[k.toNat]! =false by grind [iU]];simp;omega)
 |(
  rw[nO _ _ om]at hv;rw[cO,hv];simp_all))
abbrev qdR:Tbl:=(96,CT)::qdQ
theorem qIJ:aD Tryz.prog qdR:=aD.cons qJP qII
abbrev yI:Ct:=.fn [cX,.list gZ] (some (fun(s:Schema) (l:List Rec)=>(l.length<=1099511627776))) (fun(s:Schema) (l:List Rec)=>.d .bool (dN s l))
theorem qBF:aH Tryz.prog 50 yI:=by
 refine aH.fn qIJ mixed [] [] rfl rfl ?_;rintro⟨(s:Schema),(l:List Rec),_⟩ hpre;replace hpre:=hpre _ rfl;dsimp only[cu]at hpre;have hl:=hpre;refine⟨[(0,8,LA.mk [.sl 5 (.int .i64)] (fun y=>Tag 54/\cu [.int .i64] (fun(k:Int)=>(1<=k/\(k<=l.length\/k=1))/\(∀i:Nat,1<=i->i<k.toNat->lM s l[i-1]! l[i]! <0)) y) (cu [.int .i64] (fun(k:Int)=>((l.length:Int)-k).toNat)) (cu [.int .i64] (fun(k:Int)=>([]:List (Nat×Nat×LA)))))],?_⟩;repeat' (first
  |(
 with_reducible refine Side.mk ⟨(⟨⟩:Tag 54),?_⟩
 dsimp only[cu,aC,aB,gts,eE,eN]
 refine⟨?_,?_⟩
 ·omega
 ·first
  |intro i h1 h2;omega
  |(
  intro i h1 h2
  by_cases q:i<k.toNat
  ·exact ha i h1 q
  ·have e:i=k.toNat:=om
   subst e;rw[show k.toNat-1=(k-1).toNat by omega];omega))
  |(
 with_reducible apply Side.mk
 (try dsimp only[cu,aC,aB,gts,loK,hiK,eE,eN])
 first
 |omega
 |(exact(bI (dR (s:=s) (l:=l) (oC av)).1).2))
  |(conv=>whnf
    first
     |with_reducible first|done|exact trivial|refine NilBr.mk (fun h=>?_) ?_|apply aL|apply aK|refine aM kr ?_|apply aN|apply bL|apply bK|apply aU
     |((with_reducible first|apply aW|apply aV|apply bH)<;>intro h<;>(try dsimp only[cu,eE,eN]at h)<;>(try(exfalso;omega)))
     |(
 intro yy (hy:Tag 54/\_)
 obtain⟨(k:Int),_⟩:=yy
 replace hy:=hy.2
 dsimp only[cu,aC,aB,gts,eE,eN]at hy
 obtain⟨hk,ha⟩:=hy)))
 all_goals(
 with_reducible apply Leaf.mk
 (try dsimp only[cu,aC,aB,gts,eE,eN]at *)
 first
 |(
  rw[dN,qKX (b:=cO s l) av];rfl)
 |(
  have q:=qaD (s:=s) (l:=l) (k:=k) om av;rw[dN,q,Bool.and_false])
 |(
  have q:=qWJ (s:=s) (l:=l) (fun i h1 h2=>ha i h1 (qd2 h2 om));rw[dN,q,oC (b:=cO s l) av];rfl))
abbrev qdS:Tbl:=(50,yI)::qdR
theorem qIK:aD Tryz.prog qdS:=aD.cons qBF qIJ
abbrev yS:Ct:=.fn [gZ,gZ] (some (fun(a:Rec) (b:Rec)=>(a.2.length<=9223372036854775807))) (fun(a:Rec) (b:Rec)=>.d .bool (decide (a=b)))
theorem qDG:aH Tryz.prog 76 yS:=by
 refine aH.fn qIK mixed [] [] rfl rfl ?_;rintro⟨(a:Rec),(b:Rec),_⟩ hpre;replace hpre:=hpre _ rfl;dsimp only[cu]at hpre;have ha:=hpre;refine⟨[],?_⟩;repeat' (first
  |(
 with_reducible apply Side.mk
 (try dsimp only[cu,aC,aB,gts,loK,hiK,eE,eN])
 omega)
  |(conv=>whnf
    first
     |with_reducible first|done|exact trivial|refine NilBr.mk (fun h=>?_) ?_|apply aL|apply aK|refine aM kr ?_|apply aN|apply bL|apply bK|apply aU
     |((with_reducible first|apply aW|apply aV|apply bH)<;>intro h<;>(try dsimp only[cu,eE,eN]at h)<;>(try(exfalso;omega)))))
 all_goals(
 with_reducible apply Leaf.mk
 (try dsimp only[cu,aC,aB,gts,eE,eN]at *)
 (simp_all [kl];done))
abbrev qdT:Tbl:=(76,yS)::qdS
theorem qIL:aD Tryz.prog qdT:=aD.cons qDG qIK
abbrev wV:Ct:=.fn [.list gZ,.list gZ] (some (fun(a:List Rec) (b:List Rec)=>(a.length<=9223372036854775807)/\(∀i:Nat,a[i]!.2.length<=1099511627776))) (fun(a:List Rec) (b:List Rec)=>.d .bool (decide (a=b)))
theorem ZF:aH Tryz.prog 29 wV:=by
 refine aH.fn qIL mixed [] [] rfl rfl ?_;rintro⟨(a:List Rec),(b:List Rec),_⟩ hpre;replace hpre:=hpre _ rfl;dsimp only[cu]at hpre;obtain⟨ha,hr⟩:=hpre;refine⟨[(0,8,LA.mk [.sl 13 (.int .i64)] (fun y=>Tag 55/\cu [.int .i64] (fun(k:Int)=>(0<=k/\k<=a.length)/\(a.take k.toNat=b.take k.toNat)) y) (cu [.int .i64] (fun(k:Int)=>((a.length:Int)-k).toNat)) (cu [.int .i64] (fun(k:Int)=>([]:List (Nat×Nat×LA)))))],?_⟩;repeat' (first
  |(
 with_reducible refine Side.mk ⟨(⟨⟩:Tag 55),?_⟩
 dsimp only[cu,aC,aB,gts,eE,eN]
 refine⟨?_,?_⟩
 ·omega
 ·first
  |rfl
  |(
  have e1:k.toNat<a.length:=om
  have e2:k.toNat<b.length:=om
  have e3:a[k.toNat]! =b[k.toNat]!:=by simp_all
  rw[getElem!_pos a k.toNat e1,getElem!_pos b k.toNat e2]at e3
  rw[show(k+1).toNat=k.toNat+1 by omega,gx,gx,hs,ga e1,ga e2,e3]))
  |(
 with_reducible apply Side.mk
 (try dsimp only[cu,aC,aB,gts,loK,hiK,eE,eN])
 first
 |omega
 |(have:=hr k.toNat;omega))
  |(conv=>whnf
    first
     |with_reducible first|done|exact trivial|refine NilBr.mk (fun h=>?_) ?_|apply aL|apply aK|refine aM kr ?_|apply aN|apply bL|apply bK|apply aU
     |((with_reducible first|apply aW|apply aV|apply bH)<;>intro h<;>(try dsimp only[cu,eE,eN]at h)<;>(try(exfalso;omega)))
     |(
 intro yy (hy:Tag 55/\_)
 obtain⟨(k:Int),_⟩:=yy
 replace hy:=hy.2
 dsimp only[cu,aC,aB,gts,eE,eN]at hy
 obtain⟨hk,hs⟩:=hy)))
 all_goals(
 with_reducible apply Leaf.mk
 (try dsimp only[cu,aC,aB,gts,eE,eN]at *)
 first
 |(
  have hab:a=b:=by
   have h2:=hs;rw[gf om,gf om]at h2;exact h2
  rw[decide_eq_true hab])
 |(
  have hne:¬a=b:=fun q=>by subst q;omega
  rw[decide_eq_false hne])
 |(
  have hne:¬a=b:=fun q=>by subst q;simp_all
  rw[decide_eq_false hne]))
abbrev qdU:Tbl:=(29,wV)::qdT
theorem qIM:aD Tryz.prog qdU:=aD.cons ZF qIL
instance zoneDec:DecidableEq Zone:=fun a b=>decidable_of_iff (a.1=b.1/\a.2.1=b.2.1/\a.2.2.1=b.2.2.1/\a.2.2.2=b.2.2.2) (by simp only[kl])
instance zonesDec:DecidableEq (List Zone):=@instDecidableEqList Zone zoneDec
instance infoDec:DecidableEq Info:=fun a b=>@decidable_of_iff _ (a.1=b.1/\a.2.1=b.2.1/\a.2.2.1=b.2.2.1/\a.2.2.2=b.2.2.2) (by simp only[kl]) (@instDecidableAnd _ _ _ (@instDecidableAnd _ _ (zonesDec _ _) _))
abbrev VB:Ct:=.fn [.list lZ,.list lZ] (some (fun(a:List Zone) (b:List Zone)=>(a.length<=9223372036854775807))) (fun(a:List Zone) (b:List Zone)=>.d .bool (decide (a=b)))
theorem qYB:aH Tryz.prog 52 VB:=by
 refine aH.fn qIM mixed [] [] rfl rfl ?_;rintro⟨(a:List Zone),(b:List Zone),_⟩ hpre;replace hpre:=hpre _ rfl;dsimp only[cu]at hpre;have ha:=hpre;refine⟨[(0,8,LA.mk [.sl 13 (.int .i64)] (fun y=>Tag 56/\cu [.int .i64] (fun(k:Int)=>(0<=k/\k<=a.length)/\(a.take k.toNat=b.take k.toNat)) y) (cu [.int .i64] (fun(k:Int)=>((a.length:Int)-k).toNat)) (cu [.int .i64] (fun(k:Int)=>([]:List (Nat×Nat×LA)))))],?_⟩;repeat' (first
  |(
 with_reducible refine Side.mk ⟨(⟨⟩:Tag 56),?_⟩
 dsimp only[cu,aC,aB,gts,eE,eN]
 refine⟨?_,?_⟩
 ·omega
 ·first
  |rfl
  |(
  have e1:k.toNat<a.length:=om
  have e2:k.toNat<b.length:=om
  have e3:a[k.toNat]! =b[k.toNat]!:=by simp_all [kl]
  rw[getElem!_pos a k.toNat e1,getElem!_pos b k.toNat e2]at e3
  rw[show(k+1).toNat=k.toNat+1 by omega,gx,gx,hs,ga e1,ga e2,e3]))
  |(
 with_reducible apply Side.mk
 (try dsimp only[cu,aC,aB,gts,loK,hiK,eE,eN])
 first
 |omega
 |(kernel_rfl))
  |(conv=>whnf
    first
     |with_reducible first|done|exact trivial|refine NilBr.mk (fun h=>?_) ?_|apply aL|apply aK|refine aM kr ?_|apply aN|apply bL|apply bK|apply aU
     |((with_reducible first|apply aW|apply aV|apply bH)<;>intro h<;>(try dsimp only[cu,eE,eN]at h)<;>(try(exfalso;omega)))
     |(
 intro yy (hy:Tag 56/\_)
 obtain⟨(k:Int),_⟩:=yy
 replace hy:=hy.2
 dsimp only[cu,aC,aB,gts,eE,eN]at hy
 obtain⟨hk,hs⟩:=hy)))
 all_goals(
 with_reducible apply Leaf.mk
 (try dsimp only[cu,aC,aB,gts,eE,eN]at *)
 first
 |(
  have hab:a=b:=by
   have h2:=hs;rw[gf om,gf om]at h2;exact h2
  rw[decide_eq_true hab])
 |(
  have hne:¬a=b:=fun q=>by subst q;omega
  rw[decide_eq_false hne])
 |(
  have hne:¬a=b:=fun q=>by subst q;simp_all
  rw[decide_eq_false hne]))
abbrev qdV:Tbl:=(52,VB)::qdU
theorem qIN:aD Tryz.prog qdV:=aD.cons qYB qIM
abbrev HN:Ct:=.fn [cX,.list gZ] (some (fun(s:Schema) (l:List Rec)=>(l.length<=1099511627776))) (fun(s:Schema) (l:List Rec)=>.d (.list gZ) (jU s l))
theorem qQ4:aH Tryz.prog 34 HN:=by
 refine aH.fn qIN mixed [] [] rfl rfl ?_;rintro⟨(s:Schema),(l:List Rec),_⟩ hpre;replace hpre:=hpre _ rfl;dsimp only[cu]at hpre;have hl:=hpre;refine⟨[(0,10,LA.mk [.sl 16 (.int .i64),.lst 5 gZ 56] (fun y=>Tag 57/\cu [.int .i64,.list gZ] (fun(k:Int) (O:List Rec)=>(0<=k/\k<=l.length)/\(O=(l.take k.toNat).foldl (lJ s) [])/\((O.length:Int)=k)) y) (cu [.int .i64,.list gZ] (fun(k:Int) (O:List Rec)=>((l.length:Int)-k).toNat)) (cu [.int .i64,.list gZ] (fun(k:Int) (O:List Rec)=>([(0,16,LA.mk [.sl 8 (.int .i64)] (fun y=>Tag 58/\cu [.int .i64] (fun(j:Int)=>(0<=j/\j<=O.length)/\(jZ s l[k.toNat]! O O.length=jZ s l[k.toNat]! O j.toNat)) y) (cu [.int .i64] (fun(j:Int)=>j.toNat)) (cu [.int .i64] (fun(j:Int)=>([]:List (Nat×Nat×LA)))))]:List (Nat×Nat×LA)))))],?_⟩;repeat' (first
  |(
 with_reducible refine Side.mk ⟨(⟨⟩:Tag 57),?_⟩
 dsimp only[cu,aC,aB,gts,eE,eN]
 refine⟨?_,?_,?_⟩
 ·omega
 ·first
  |rfl
  |(
  have e:=qO2 hi om (by first|exact Or.inl om|exact Or.inr av)
  rw[sH l k om,List.foldl_append,<-ho]
  show _=lJ s O l[k.toNat]!
  rw[lJ,e]
  first|(exact qaZ om)|(exact qa0 om)|(exact qa1 om om)|(exact qa2 om om))
 ·first
  |simp;done
  |(simp only[qF8,gb,gc,ge,gr,gt];omega))
  |(
 with_reducible refine Side.mk ⟨(⟨⟩:Tag 58),?_⟩
 dsimp only[cu,aC,aB,gts,eE,eN]
 refine⟨?_,?_⟩
 ·omega
 ·first
  |rfl
  |(
  rw[hi]
  exact qO3 om av))
  |(
 with_reducible apply Side.mk
 (try dsimp only[cu,aC,aB,gts,loK,hiK,eE,eN])
 first
 |done
 |omega
 |exact km _
 |simp only[gb,gc,ge];omega
 |exact(bI (dR (s:=s) (l:=l) (oC av)).1).2
 |(simp only[qF8,gb,gc,ge,gr,gt];omega))
  |(conv=>whnf
    first
     |with_reducible first|done|exact trivial|refine NilBr.mk (fun h=>?_) ?_|apply aL|apply aK|refine aM kr ?_|apply aN|apply bL|apply bK|apply aU
     |((with_reducible first|apply aW|apply aV|apply bH)<;>intro h<;>(try dsimp only[cu,eE,eN]at h)<;>(try(exfalso;omega)))
     |(
 intro yy (hy:Tag 57/\_)
 obtain⟨(k:Int),(O:List Rec),_⟩:=yy
 replace hy:=hy.2
 dsimp only[cu,aC,aB,gts,eE,eN]at hy
 obtain⟨hk,ho,hol⟩:=hy)
     |(
 intro yy (hy:Tag 58/\_)
 obtain⟨(j:Int),_⟩:=yy
 replace hy:=hy.2
 dsimp only[cu,aC,aB,gts,eE,eN]at hy
 obtain⟨hj,hi⟩:=hy)))
 all_goals(
 with_reducible apply Leaf.mk
 (try dsimp only[cu,aC,aB,gts,eE,eN]at *)
 first
 |rw[jU,if_neg (by rw[qKX (b:=cO s l) av];exact kg)]
 |(rw[jU,if_pos (oC (b:=cO s l) av),ho,gf om]))
abbrev qdW:Tbl:=(34,HN)::qdV
theorem qIO:aD Tryz.prog qdW:=aD.cons qQ4 qIN
abbrev tFr:Ty:=.pair .str (.pair (.int .i64) .bool)
abbrev Fr:Type:=ByteArray×Int×Bool
@[reducible] instance:Inhabited Fr:=instInhabitedDen tFr
abbrev CG:Col:=(⟨#[115,101,113]⟩,1,0,false)
def kX (s:Schema) (i:Int):Col:=if i=s.1.length then CG else s.1[i.toNat]!
def iQ (r:Fr) (m:Int):Int×Fr:=if r.2.2=true\/(aA r.1 r.2.1).2.2≠0\/(aA r.1 r.2.1).1>m then(0,(r.1,r.2.1,true))else((aA r.1 r.2.1).1,(r.1,(aA r.1 r.2.1).2.1,false))
def oN (r:Fr) (c:Col):Rank×Fr:=if r.2.2=true\/(dT r.1 r.2.1).2.2≠0\/aZ c (dT r.1 r.2.1).1≠0 then(qN,(r.1,r.2.1,true))else(((dT r.1 r.2.1).1,(iQ (r.1,(dT r.1 r.2.1).2.1,false) 1099511627776).1),(iQ (r.1,(dT r.1 r.2.1).2.1,false) 1099511627776).2)
def tV (r:Fr) (c:Col) (rows:Int):Zone×Fr:=((gG r.1 r.2.1).1,(r.1,(gG r.1 r.2.1).2.1,r.2.2||(decide ((gG r.1 r.2.1).2.2≠0)||(!lU c (gG r.1 r.2.1).1||decide ((gG r.1 r.2.1).1.1≠rows)))))
def fU (l:List Int):Int:=l.foldr (fun a b=>a+b) 0
theorem wF {l:List Int} {k:Int} (h:0<=k/\k<l.length):fU (l.take (k+1).toNat)=fU (l.take k.toNat)+l[k.toNat]!:=by
 have e:∀a b:List Int,fU (a++b)=fU a+fU b:=fun a b=>by
  induction a with
  |nil=>simp [fU]
  |cons x a ih=>simp only[fU,kh,hu]at ih ⊢;omega
 rw[sH l k h,e];simp [fU]
def qFE (n:Nat) (l:List Int):Prop:=∀k:Int,0<=k->k<l.length->0<=l[k.toNat]! /\0<=fU (l.take k.toNat)/\4+fU (l.take k.toNat)+l[k.toNat]! <=n
def EC (file:ByteArray) (l:List Int) (i:Int):ByteArray:=file.extract (4+fU (l.take i.toNat)).toNat (4+fU (l.take i.toNat)+l[i.toNat]!).toNat
def lS (s:Schema) (file:ByteArray) (rows:Int) (l:List Int) (i:Int):List Val×Int:=if(rL (kX s i) (EC file l i)).2≠0 then([],(rL (kX s i) (EC file l i)).2)else if(rL (kX s i) (EC file l i)).1.length≠rows then([],2)else((rL (kX s i) (EC file l i)).1,0)
def dC (s:Schema) (l:List Rec):List Nat->List Zone:=fun r=>r.map fun i=>qO s.1[i]!.2.1 (jW l i)
def dV (s:Schema) (l:List Rec):Info:=((l.length:Int),dC s l (List.range s.1.length),fD s l[0]!,fD s l[l.length-1]!)
def kN (s:Schema) (f:ByteArray) (a:Int):Rank×Int×Bool:=if(dT f a).2.2≠0\/aZ s.1[s.2.toNat]! (dT f a).1≠0 then(qN,0,false)else if(aA f (dT f a).2.1).2.2≠0\/(aA f (dT f a).2.1).1>1099511627776 then(qN,0,false)else(((dT f a).1,(aA f (dT f a).2.1).1),(aA f (dT f a).2.1).2.1,true)
abbrev NC:Ct:=.fn [.str] (some (fun(s:ByteArray)=>(4<=s.size/\s.size<=4611686018427387904))) (fun(s:ByteArray)=>.d (.int .u32) (dS s 0))
theorem qUH:aH Tryz.prog 88 NC:=by
 refine aH.fn qIO mixed [(0,1,2),(0,1,5),(0,1,10),(0,1,15)] [] rfl rfl ?_;rintro⟨(s:ByteArray),_⟩ hpre;replace hpre:=hpre _ rfl;dsimp only[cu]at hpre;have hs:=hpre;refine⟨[],?_⟩;repeat' (first
  |(
 with_reducible apply Side.mk
 (try dsimp only[cu,aC,aB,gts,loK,hiK,eE,eN])
 first
 |omega
 |(
  have h0:=cZ s (Int.toNat 0);have h1:=cZ s (Int.toNat 1);have h2:=cZ s (Int.toNat 2);have h3:=cZ s (Int.toNat 3);omega))
  |(conv=>whnf
    first
     |with_reducible first|done|exact trivial|refine NilBr.mk (fun h=>?_) ?_|apply aL|apply aK|refine aM kr ?_|apply aN|apply bL|apply bK|apply aU
     |((with_reducible first|apply aW|apply aV|apply bH)<;>intro h<;>(try dsimp only[cu,eE,eN]at h)<;>(try(exfalso;omega)))))
 all_goals(
 with_reducible apply Leaf.mk
 (try dsimp only[cu,aC,aB,gts,eE,eN]at *)
 rfl)
abbrev qdX:Tbl:=(88,NC)::qdW
theorem qIP:aD Tryz.prog qdX:=aD.cons qUH qIO
abbrev NF:Ct:=.fn [] (none) (.d tY CG)
theorem qUM:aH Tryz.prog 114 NF:=by
 refine aH.fn qIP mixed [] [] rfl rfl ?_;rintro⟨⟩ -;refine⟨[],?_⟩;repeat' (first
  |(
 with_reducible apply Side.mk
 (try dsimp only[cu,aC,aB,gts,loK,hiK,eE,eN])
 done)
  |(conv=>whnf
    first
     |with_reducible first|done|exact trivial|refine NilBr.mk (fun h=>?_) ?_|apply aL|apply aK|refine aM kr ?_|apply aN|apply bL|apply bK|apply aU
     |((with_reducible first|apply aW|apply aV|apply bH)<;>intro h<;>(try dsimp only[cu,eE,eN]at h)<;>(try(exfalso;omega)))))
 all_goals(
 with_reducible apply Leaf.mk
 (try dsimp only[cu,aC,aB,gts,eE,eN]at *)
 done)
abbrev qdY:Tbl:=(114,NF)::qdX
theorem qIQ:aD Tryz.prog qdY:=aD.cons qUM qIP
abbrev NB:Ct:=.fn [cX,.int .i64] (some (fun(s:Schema) (i:Int)=>(0<=i/\i<=s.1.length))) (fun(s:Schema) (i:Int)=>.d tY (kX s i))
theorem qUF:aH Tryz.prog 67 NB:=by
 refine aH.fn qIQ mixed [] [] rfl rfl ?_;rintro⟨(s:Schema),(i:Int),_⟩ hpre;replace hpre:=hpre _ rfl;dsimp only[cu]at hpre;have hi:=hpre;refine⟨[],?_⟩;repeat' (first
  |(
 with_reducible apply Side.mk
 (try dsimp only[cu,aC,aB,gts,loK,hiK,eE,eN])
 omega)
  |(conv=>whnf
    first
     |with_reducible first|done|exact trivial|refine NilBr.mk (fun h=>?_) ?_|apply aL|apply aK|refine aM kr ?_|apply aN|apply bL|apply bK|apply aU
     |((with_reducible first|apply aW|apply aV|apply bH)<;>intro h<;>(try dsimp only[cu,eE,eN]at h)<;>(try(exfalso;omega)))))
 all_goals(
 with_reducible apply Leaf.mk
 (try dsimp only[cu,aC,aB,gts,eE,eN]at *)
 first
 |rw[kX,if_pos av]
 |(rw[kX,if_neg av]))
abbrev qdZ:Tbl:=(67,NB)::qdY
theorem qIR:aD Tryz.prog qdZ:=aD.cons qUF qIQ
abbrev MT:Ct:=.meth tFr 134 [.int .i64] (some (fun(r:Fr) (m:Int)=>(r.1.size<=4611686018427387904)/\(0<=m/\m<=4611686018427387904))) (fun(r:Fr) (m:Int)=>.d (.int .i64) ((iQ r m).1)) (fun(r:Fr) (m:Int)=>(iQ r m).2)
theorem qTO:aH Tryz.prog 91 MT:=by
 refine aH.meth qIR mixed [] [] rfl rfl ?_;rintro(r:Fr) ⟨(m:Int),_⟩ hpre;replace hpre:=hpre _ rfl;dsimp only[cu]at hpre;obtain⟨hs,hm⟩:=hpre;refine⟨[],?_⟩;repeat' (first
  |(
 with_reducible apply Side.mk
 (try dsimp only[cu,aC,aB,gts,loK,hiK,eE,eN])
 first
 |omega
 |(
  have hg:=bA r.1 r.2.1;have hm:=bF (n:=m) om;omega))
  |(conv=>whnf
    first
     |with_reducible first|done|exact trivial|refine NilBr.mk (fun h=>?_) ?_|apply aL|apply aK|refine aM kr ?_|apply aN|apply bL|apply bK|apply aU
     |((with_reducible first|apply aW|apply aV|apply bH)<;>intro h<;>(try dsimp only[cu,eE,eN]at h)<;>(try(exfalso;omega)))))
 all_goals(
 with_reducible apply Leaf.mk
 (try dsimp only[cu,aC,aB,gts,eE,eN]at *)
 first
 |(
  have hg:=bA r.1 r.2.1;have hw:=bF (n:=m) om;first
  |(
   simp_all [iQ];done)
  |(
   have h2:=h;rw[hw]at h2;first
   |(
    rw[iQ,if_neg (by grind)];done)
   |(
    rw[iQ,if_neg (by grind),decide_eq_false h];done))))
abbrev qd0:Tbl:=(91,MT)::qdZ
theorem qIS:aD Tryz.prog qd0:=aD.cons qTO qIR
abbrev GW:Ct:=.meth tFr 134 [tY] (some (fun(r:Fr) (c:Col)=>(r.1.size<=4611686018427387904))) (fun(r:Fr) (c:Col)=>.d vC ((oN r c).1)) (fun(r:Fr) (c:Col)=>(oN r c).2)
theorem qOS:aH Tryz.prog 93 GW:=by
 refine aH.meth qIS mixed [] [] rfl rfl ?_;rintro(r:Fr) ⟨(c:Col),_⟩ hpre;replace hpre:=hpre _ rfl;dsimp only[cu]at hpre;have hs:=hpre;refine⟨[],?_⟩;repeat' (first
  |(
 with_reducible apply Side.mk
 (try dsimp only[cu,aC,aB,gts,loK,hiK,eE,eN])
 omega)
  |(conv=>whnf
    first
     |with_reducible first|done|exact trivial|refine NilBr.mk (fun h=>?_) ?_|apply aL|apply aK|refine aM kr ?_|apply aN|apply bL|apply bK|apply aU
     |((with_reducible first|apply aW|apply aV|apply bH)<;>intro h<;>(try dsimp only[cu,eE,eN]at h)<;>(try(exfalso;omega)))))
 all_goals(
 with_reducible apply Leaf.mk
 (try dsimp only[cu,aC,aB,gts,eE,eN]at *)
 (
  simp_all [oN];done))
abbrev qd1:Tbl:=(93,GW)::qd0
theorem qIT:aD Tryz.prog qd1:=aD.cons qOS qIS
abbrev GX:Ct:=.meth tFr 134 [tY,.int .i64] (some (fun(r:Fr) (c:Col) (rows:Int)=>(r.1.size<=4611686018427387904))) (fun(r:Fr) (c:Col) (rows:Int)=>.d lZ ((tV r c rows).1)) (fun(r:Fr) (c:Col) (rows:Int)=>(tV r c rows).2)
theorem qOW:aH Tryz.prog 92 GX:=by
 refine aH.meth qIT mixed [] [] rfl rfl ?_;rintro(r:Fr) ⟨(c:Col),(rows:Int),_⟩ hpre;replace hpre:=hpre _ rfl;dsimp only[cu]at hpre;have hs:=hpre;refine⟨[],?_⟩;repeat' (first
  |(
 with_reducible apply Side.mk
 (try dsimp only[cu,aC,aB,gts,loK,hiK,eE,eN])
 omega)
  |(conv=>whnf
    first
     |with_reducible first|done|exact trivial|refine NilBr.mk (fun h=>?_) ?_|apply aL|apply aK|refine aM kr ?_|apply aN|apply bL|apply bK|apply aU
     |((with_reducible first|apply aW|apply aV|apply bH)<;>intro h<;>(try dsimp only[cu,eE,eN]at h)<;>(try(exfalso;omega)))))
 all_goals(
 with_reducible apply Leaf.mk
 (try dsimp only[cu,aC,aB,gts,eE,eN]at *)
 (
  simp_all [tV];done))
abbrev qWX:Tbl:=(92,GX)::qd1
theorem ZQ:aD Tryz.prog qWX:=aD.cons qOW qIT
abbrev HE:Ct:=.fn [cX,.str,.int .i64,.list (.int .i64),.int .i64] (some (fun(s:Schema) (file:ByteArray) (rows:Int) (sizes:List Int) (i:Int)=>(0<=i/\i<sizes.length/\i<=s.1.length/\sizes.length<=4096)/\(file.size<=288230376151711744/\qFE file.size sizes))) (fun(s:Schema) (file:ByteArray) (rows:Int) (sizes:List Int) (i:Int)=>.tup [.list bU,.int .i64] ((lS s file rows sizes i).1,(lS s file rows sizes i).2,()))
theorem qPK:aH Tryz.prog 49 HE:=by
 refine aH.fn ZQ mixed [] [] rfl rfl ?_;rintro⟨(s:Schema),(file:ByteArray),(rows:Int),(sizes:List Int),(i:Int),_⟩ hpre;replace hpre:=hpre _ rfl;dsimp only[cu]at hpre;obtain⟨hi,hp⟩:=hpre;refine⟨[(0,6,LA.mk [.sl 21 (.int .i64),.sl 12 (.int .i64)] (fun y=>Tag 59/\cu [.int .i64,.int .i64] (fun(k:Int) (w:Int)=>(0<=k/\k<=i)/\(w=4+fU (sizes.take k.toNat))) y) (cu [.int .i64,.int .i64] (fun(k:Int) (w:Int)=>((i:Int)-k).toNat)) (cu [.int .i64,.int .i64] (fun(k:Int) (w:Int)=>([]:List (Nat×Nat×LA)))))],?_⟩;repeat' (first
  |(
 with_reducible refine Side.mk ⟨(⟨⟩:Tag 59),?_⟩
 dsimp only[cu,aC,aB,gts,eE,eN]
 refine⟨?_,?_⟩
 ·omega
 ·first
  |(
  simp [fU]
  done)
  |(
  have e:(sizes.take i.toNat)[k.toNat]! =sizes[k.toNat]!:=nH sizes i.toNat k.toNat om
  have ho:=hp.2 k om om
  rw[e,hat,wF om]
  omega))
  |(
 with_reducible apply Side.mk
 (try dsimp only[cu,aC,aB,gts,loK,hiK,eE,eN])
 first
 |omega
 |(
  have e:(sizes.take i.toNat)[k.toNat]! =sizes[k.toNat]!:=nH sizes i.toNat k.toNat om;have ho:=hp.2 k om om;rw[e];omega)
 |(
  have hki:k=i:=om
  subst hki;have ho:=hp.2 k om om;first
  |omega
  |(
   rw[gy];omega)))
  |(conv=>whnf
    first
     |with_reducible first|done|exact trivial|refine NilBr.mk (fun h=>?_) ?_|apply aL|apply aK|refine aM kr ?_|apply aN|apply bL|apply bK|apply aU
     |((with_reducible first|apply aW|apply aV|apply bH)<;>intro h<;>(try dsimp only[cu,eE,eN]at h)<;>(try(exfalso;omega)))
     |(
 intro yy (hy:Tag 59/\_)
 obtain⟨(k:Int),(w:Int),_⟩:=yy
 replace hy:=hy.2
 dsimp only[cu,aC,aB,gts,eE,eN]at hy
 obtain⟨hk,hat⟩:=hy
 have hlt:(sizes.take i.toNat).length=i.toNat:=by rw[gr];omega)))
 all_goals(
 with_reducible apply Leaf.mk
 (try dsimp only[cu,aC,aB,gts,eE,eN]at *)
 (
  have hki:k=i:=om
  subst hki;subst hat;simp_all [lS,EC];done))
abbrev qWY:Tbl:=(49,HE)::qWX
theorem ZR:aD Tryz.prog qWY:=aD.cons qPK ZQ
theorem lG {l:List Rec} {n:Int} (h:1<=n/\n<=12):((jX l n).length:Int)=n/\∀k:Nat,(k:Int)<n->(jX l n)[k]! =jW l k:=by
 rw[jX,if_neg om];refine⟨by rw[kp,ua];omega,fun k hk=>?_⟩;have q:k<((List.range n.toNat).map (jW l)).length:=by rw[kp,ua];omega
 rw[getElem!_pos _ k q,List.getElem_map,List.getElem_range]
theorem qA3 {s:Schema} {l:List Rec} {k:Int} (h:0<=k):dC s l (List.range (k+1).toNat)=dC s l (List.range k.toNat)++ [qO s.1[k.toNat]!.2.1 (jW l k.toNat)]:=by
 rw[show(k+1).toNat=k.toNat+1 by omega,kq,dC,gu];rfl
abbrev MP:Ct:=.fn [cX,.list gZ] (some (fun(s:Schema) (l:List Rec)=>(1<=l.length/\l.length<=1073741824)/\(1<=s.1.length/\s.1.length<=12))) (fun(s:Schema) (l:List Rec)=>.d ZM (dV s l))
theorem qS7:aH Tryz.prog 51 MP:=by
 refine aH.fn ZR mixed [] [] rfl rfl ?_;rintro⟨(s:Schema),(l:List Rec),_⟩ hpre;replace hpre:=hpre _ rfl;dsimp only[cu]at hpre;obtain⟨hl,hs⟩:=hpre;refine⟨[(0,6,LA.mk [.sl 30 (.int .i64),.row 2 [.same,.own lZ 67,.same,.same,.same,.same,.same,.same,.same,.same]] (fun y=>Tag 60/\cu [.int .i64,.list lZ] (fun(k:Int) (Z:List Zone)=>(0<=k/\k<=(s.1.length:Int))/\(Z=dC s l (List.range k.toNat))/\((Z.length:Int)=k)) y) (cu [.int .i64,.list lZ] (fun(k:Int) (Z:List Zone)=>(((s.1.length:Int):Int)-k).toNat)) (cu [.int .i64,.list lZ] (fun(k:Int) (Z:List Zone)=>([]:List (Nat×Nat×LA)))))],?_⟩;repeat' (first
  |(
 with_reducible refine Side.mk ⟨(⟨⟩:Tag 60),?_⟩
 dsimp only[cu,aC,aB,gts,eE,eN]
 refine⟨?_,?_,?_⟩
 ·omega
 ·first
  |rfl
  |(
  obtain⟨hcl,hce⟩:=lG (l:=l) (n:=(s.1.length:Int)) om
  have hck:=hce k.toNat om
  show Z++ [qO s.1[k.toNat]!.2.1 (jX l (s.1.length:Int))[k.toNat]!]=_
  rw[hz,hck,qA3 om])
 ·first
  |(
  simp
  done)
  |(
  simp only[gb,gc,ge]
  omega))
  |(
 with_reducible apply Side.mk
 (try dsimp only[cu,aC,aB,gts,loK,hiK,eE,eN])
 first
 |done
 |omega
 |exact km _
 |simp only[gb,gc,ge];omega
 |(
  obtain⟨hcl,hce⟩:=lG (l:=l) (n:=(s.1.length:Int)) om;have hck:=hce k.toNat om;show(jX l (s.1.length:Int))[k.toNat]!.length<=_;rw[hck,jW,kp];omega))
  |(conv=>whnf
    first
     |with_reducible first|done|exact trivial|refine NilBr.mk (fun h=>?_) ?_|apply aL|apply aK|refine aM kr ?_|apply aN|apply bL|apply bK|apply aU
     |((with_reducible first|apply aW|apply aV|apply bH)<;>intro h<;>(try dsimp only[cu,eE,eN]at h)<;>(try(exfalso;omega)))
     |(
 intro yy (hy:Tag 60/\_)
 obtain⟨(k:Int),(Z:List Zone),_⟩:=yy
 replace hy:=hy.2
 dsimp only[cu,aC,aB,gts,eE,eN]at hy
 obtain⟨hk,hz,hzl⟩:=hy
 have hcl:=(lG (l:=l) (n:=(s.1.length:Int)) om).1)))
 all_goals(
 with_reducible apply Leaf.mk
 (try dsimp only[cu,aC,aB,gts,eE,eN]at *)
 (
  have h2:¬k<(jX l (s.1.length:Int)).length:=h;show((l.length:Int),Z,fD s l[0]!,fD s l[((l.length:Int)-1).toNat]!)=_;rw[dV,hz,show k.toNat=s.1.length by omega,show((l.length:Int)-1).toNat=l.length-1 by omega]))
abbrev qWZ:Tbl:=(51,MP)::qWY
theorem ZS:aD Tryz.prog qWZ:=aD.cons qS7 ZR
def kB (l:List Rec):List Val:=l.map fun r=>((false,r.1,⟨#[]⟩):Val)
def dG (r:Rank):ByteArray:=zU r.1++aT (put r.2)
theorem qDI {l:List Rec} {k:Int} (h:0<=k/\k<l.length):kB (l.take (k+1).toNat)=kB (l.take k.toNat)++ [((false,l[k.toNat]!.1,⟨#[]⟩):Val)]:=by
 rw[sH l k h,kB,gu];rfl
abbrev HJ:Ct:=.fn [.list gZ,.int .i64] (some (fun(l:List Rec) (n:Int)=>(l.length<=1099511627776))) (fun(l:List Rec) (n:Int)=>.d (.list (.list bU)) (jX l n))
theorem qQH:aH Tryz.prog 27 HJ:=by
 refine aH.fn ZS mixed [] [] rfl rfl ?_;rintro⟨(l:List Rec),(n:Int),_⟩ hpre;replace hpre:=hpre _ rfl;dsimp only[cu]at hpre;have hl:=hpre;refine⟨[(0,10,LA.mk [.sl 6 (.int .i64),.lst 5 (.list bU) 52] (fun y=>Tag 61/\cu [.int .i64,.list (.list bU)] (fun(k:Int) (O:List (List Val))=>(0<=k/\k<=n)/\(O=(List.range k.toNat).map (jW l))/\((O.length:Int)=k)) y) (cu [.int .i64,.list (.list bU)] (fun(k:Int) (O:List (List Val))=>(n-k).toNat)) (cu [.int .i64,.list (.list bU)] (fun(k:Int) (O:List (List Val))=>([(0,18,LA.mk [.sl 23 (.int .i64),.lst 7 bU 43] (fun y=>Tag 62/\cu [.int .i64,.list bU] (fun(j:Int) (M:List Val)=>(0<=j/\j<=l.length)/\(M=jW (l.take j.toNat) k.toNat)/\((M.length:Int)=j)) y) (cu [.int .i64,.list bU] (fun(j:Int) (M:List Val)=>((l.length:Int)-j).toNat)) (cu [.int .i64,.list bU] (fun(j:Int) (M:List Val)=>([]:List (Nat×Nat×LA)))))]:List (Nat×Nat×LA)))))],?_⟩;repeat' (first
  |(
 with_reducible refine Side.mk ⟨(⟨⟩:Tag 61),?_⟩
 dsimp only[cu,aC,aB,gts,eE,eN]
 refine⟨?_,?_,?_⟩
 ·omega
 ·first
  |rfl
  |(
  rw[ho,hm,gf om,show(k+1).toNat=k.toNat+1 by omega,kq,gu]
  rfl)
 ·first
  |(
  simp
  done)
  |(
  simp only[gb,gc,ge]
  omega))
  |(
 with_reducible refine Side.mk ⟨(⟨⟩:Tag 62),?_⟩
 dsimp only[cu,aC,aB,gts,eE,eN]
 refine⟨?_,?_,?_⟩
 ·omega
 ·first
  |rfl
  |(
  rw[hm,sH l j om]
  simp only[jW,gu,List.map_cons,List.map_nil,atV]
  first|(rw[if_pos om]
         done)|(rw[if_neg om]
                done))
 ·first
  |(
  simp
  done)
  |(
  simp only[gb,gc,ge]
  omega))
  |(
 with_reducible apply Side.mk
 (try dsimp only[cu,aC,aB,gts,loK,hiK,eE,eN])
 first
 |done
 |omega
 |exact km _
 |(simp only[gb,gc,ge];omega))
  |(conv=>whnf
    first
     |with_reducible first|done|exact trivial|refine NilBr.mk (fun h=>?_) ?_|apply aL|apply aK|refine aM kr ?_|apply aN|apply bL|apply bK|apply aU
     |((with_reducible first|apply aW|apply aV|apply bH)<;>intro h<;>(try dsimp only[cu,eE,eN]at h)<;>(try(exfalso;omega)))
     |(
 intro yy (hy:Tag 61/\_)
 obtain⟨(k:Int),(O:List (List Val)),_⟩:=yy
 replace hy:=hy.2
 dsimp only[cu,aC,aB,gts,eE,eN]at hy
 obtain⟨hk,ho,hol⟩:=hy)
     |(
 intro yy (hy:Tag 62/\_)
 obtain⟨(j:Int),(M:List Val),_⟩:=yy
 replace hy:=hy.2
 dsimp only[cu,aC,aB,gts,eE,eN]at hy
 obtain⟨hj,hm,hml⟩:=hy)))
 all_goals(
 with_reducible apply Leaf.mk
 (try dsimp only[cu,aC,aB,gts,eE,eN]at *)
 first
 |rw[jX,if_pos om]
 |(rw[jX,if_neg om,ho,show k=n by omega]))
abbrev qW0:Tbl:=(27,HJ)::qWZ
theorem ZT:aD Tryz.prog qW0:=aD.cons qQH ZS
end Go.Proofs.YtcjiefknhfhmkaaGreatDoor
namespace Go.Abs
set_option maxRecDepth 100000
set_option maxHeartbeats 4000000
set_option linter.unusedVariables false
set_option linter.unusedSimpArgs false
theorem Rep.ext {w:World} {ι ι2:Iota} {M M2:Nat->Prop} (hi:∀i l,ι i=some l->ι2 i=some l) (hm:∀b,M2 b->M b) {x:V} {y:Value} (r:Rep w ι M x y):Rep w ι2 M2 x y:=by
 induction r with
 |v x=>exact .v x
 |any x=>exact .any x
 |pF row off b o cells hb hn hc _ ih=>exact .pF row off b o cells hb (fun q=>hn (hm _ q)) hc ih
 |pO id row off l hl=>exact .pO id row off l (hi _ _ hl)
 |sF sz rows a cap cells hb hcap hr hc _ ih=>exact .sF sz rows a cap cells (fun hne=>let ⟨h1,h2,h3⟩:=hb hne;⟨h1,h2,fun q=>h3 (hm _ q)⟩) hcap hr hc ih
 |sN sz=>exact .sN sz
 |sO id off len cap l c e fr hl h1 h2 h3=>exact .sO id off len cap l c e fr (hi _ _ hl) h1 h2 h3
 |agg xs vs hl _ ih=>exact .agg xs vs hl ih
 |tup xs vs hl _ ih=>exact .tup xs vs hl ih
 |fn f first caps vs us h1 h2 _ _ ih1 ih2=>exact .fn f first caps vs us h1 h2 ih1 ih2
 |ifc t x y _ ih=>exact .ifc t x y ih
 |sL t l y _ ih=>exact .sL t l y ih
 |oL id n y _ ih=>exact .oL id n y ih
structure Out (σ N:List Nat) (k:Heap) (h':Heap) (k':Heap) (τ:List Nat):Prop where
 len:τ.length=k'.length
 le:k.length<=k'.length
 other:∀i:Nat,i<k.length->¬i∈σ->¬i∈N->τ[i]? =some (List.length h')/\k'[i]? =k[i]?
 old:∀j i:Nat,σ[j]? =some i->τ[i]? =some j
 obj:∀i:Nat,(i∈σ\/(i∈N\/k.length<=i))->i<k'.length->∃m x z,τ[i]? =some m/\h'[m]? =some x/\k'[i]? =some z/\lE τ x z
 inj:∀(i1 i2 m:Nat) (o1 o2:AObj),(i1∈σ\/(i1∈N\/k.length<=i1))->(i2∈σ\/(i2∈N\/k.length<=i2))->k'[i1]? =some (.live o1)->k'[i2]? =some (.live o2)->τ[i1]? =some m->τ[i2]? =some m->i1=i2
theorem PC.liftN {P:Program} {f:FuncId} {args0 args:List V} {h0 k:Heap} {σ N:List Nat} {R:V->Heap->Prop} {y':V} {k':Heap} (hσ:σ.Nodup) (hN:∀i,i∈N->k[i]? =some .free) (hl0:h0.length=σ.length)
  (hobj:∀(j i:Nat),σ[j]? =some i->∃x y,k[i]? =some y/\h0[j]? =some x/\lE σ y x) (harg:Pairs (cE σ) args args0) (hc:PC P f args0 h0 R)
  (hout:∀y h',R y h'->∃τ,Out σ N k h' k' τ/\cE τ y y'):PC P f args k (fun y k2=>y=y'/\k2=k'):=by
 intro ι w vals hp H;let X0:Nat->Prop:=fun b=>Mt k ι b/\¬Ob h0 (ι.ren σ) b
 let ι0:Iota:={at':=(ι.ren σ).at',X:=X0}
 have e0:∀j,ι0 j=(ι.ren σ) j:=fun _=>rfl
 have at0:∀(j i:Nat),σ[j]? =some i->ι0 j=ι i:=by intro j i h;rw[e0];simp [Iota.ren,h]
 have ob0:∀b,Ob h0 ι0 b↔Ob h0 (ι.ren σ) b:=fun b=>Iff.rfl
 have getσ:∀(j:Nat) (o:AObj),h0[j]? =some (.live o)->∃i oc,σ[j]? =some i/\k[i]? =some (.live oc)/\RenL σ oc o:=by
  intro j o h;have hj:j<σ.length:=by rw[<-hl0];exact aI h
  obtain⟨x,y,h1,h2,h3⟩:=hobj j σ[j] (ga hj);rw[h]at h2;injection h2 with h2;subst h2;obtain⟨oc,rfl,h4⟩:=h3.2 o rfl;exact⟨σ[j],oc,ga hj,h1,h4⟩
 have obk:∀b,Ob h0 ι0 b->Ob k ι b:=by
  rintro b ⟨j,o,l,h1,h2,h3⟩;obtain⟨i,oc,g1,g2,_⟩:=getσ j o h1;rw[at0 j i g1]at h2;exact⟨i,oc,l,g2,h2,h3⟩
 have mt0:∀b,Mt h0 ι0 b->Mt k ι b:=fun b q=>q.elim (fun q=>q.1) (fun q=>.inr (obk b q))
 have mlt:∀b,Mt k ι b->b<w.heap.size:=by
  rintro b (q|q)
  ·exact H.xlt b q
  ·exact H.blk_lt q
 have rep0:∀ {x y:V} {z:Value},cE σ x y->Rep w ι (Mt k ι) x z->Rep w ι0 (Mt h0 ι0) y z:=fun hr r=>
  Rep.ext (ι:=ι.ren σ) (ι2:=ι0) (fun i l q=>q) (fun b q=>q) (hr w ι _ _ mt0 _ r)
 have H0:HRel h0 ι0 w:=by
  refine⟨fun j o ho=>?_,fun j hj=>?_,fun j hj=>?_,fun j1 o1 l1 j2 o2 l2 a1 a2 b1 b2 hb=>?_,fun b q=>mlt b q.1,fun b q r=>q.2 r⟩
  ·obtain⟨i,oc,g1,g2,g3⟩:=getσ j o ho
   obtain⟨l,c,fr,h1,la⟩:=H.live i oc g2;refine⟨l,c,fr,(at0 j i g1).trans h1,⟨by rw[<-g3.elem];exact la.blk,by rw[<-g3.elem,<-g3.sz];exact la.unfrozen,by rw[<-g3.sz];exact la.sz,fun r' hr'=>?_,by rw[<-g3.sz,<-g3.len];exact la.fits,fun a ha b hb=>?_⟩⟩
   ·obtain⟨a,ha,e⟩:=ka hr'
    have ha1:a<oc.rows.length:=by rw[g3.len];exact ha
    have u:=g3.rows a _ _ (ga ha1) (ga ha);rw[<-e,<-u.1,<-g3.sz];exact la.rows _ (kf ha1)
   ·have ha1:a<oc.rows.length:=by rw[g3.len];exact ha
    have u:=g3.rows a _ _ (ga ha1) (ga ha);have hb1:b<oc.rows[a].length:=by rw[u.1];exact hb
    obtain⟨z,z1,z2⟩:=la.reads a ha1 b hb1;exact⟨z,by rw[<-g3.sz];exact z1,rep0 (u.2 b _ _ (ga hb1) (ga hb)) z2⟩
  ·exfalso
   have hj':j<σ.length:=by rw[<-hl0];exact aI hj
   obtain⟨x,y,h1,h2,h3⟩:=hobj j σ[j] (ga hj');rw[hj]at h2;injection h2 with h2;subst h2;exact h3.1 rfl
  ·have:σ[j]? =none:=gp (by rw[<-hl0];exact hj)
   rw[e0];simp [Iota.ren,this]
  ·obtain⟨i1,p1,g1,g2,_⟩:=getσ j1 o1 a1
   obtain⟨i2,p2,f1,f2,_⟩:=getσ j2 o2 b1;rw[at0 j1 i1 g1]at a2;rw[at0 j2 i2 f1]at b2;have:=H.apart _ _ _ _ _ _ g2 a2 f2 b2 hb;subst this;have h1:=aI g1;have h2:=aI f1;rw[ga h1]at g1;injection g1 with g1;rw[ga h2]at f1;injection f1 with f1;have hpw:=List.pairwise_iff_getElem.1 hσ;rcases Nat.lt_trichotomy j1 j2 with q|q|q
   ·exact absurd (g1.trans f1.symm) (hpw j1 j2 h1 h2 q)
   ·exact q
   ·exact absurd (f1.trans g1.symm) (hpw j2 j1 h2 h1 q)
 have hp0:PW2 w ι0 (Mt h0 ι0) args0 vals:=by
  refine⟨harg.1.symm.trans hp.1,fun i y hy=>?_⟩;have hi:i<args.length:=by rw[harg.1];exact aI hy
  obtain⟨z,z1,z2⟩:=hp.2 i _ (ga hi);exact⟨z,z1,rep0 (harg.2 i _ _ (ga hi) hy) z2⟩
 refine(hc ι0 w vals hp0 H0).mono ?_;rintro e w' ⟨z,y,h',ι',rfl,hR,rz,H',ev⟩;obtain⟨τ,O,hy⟩:=hout y h' hR;have hX:ι'.X=X0:=ev.away;have dec:∀i,Decidable (i∈σ\/(i∈N\/k.length<=i)):=fun i=>inferInstance
 let ι2:Iota:={at':=fun i=>(match τ[i]? with
  |some m=>if i∈σ\/(i∈N\/k.length<=i)then ι' m else ι i
  |none=>none),X:=ι.X}
 have at2:∀i m,τ[i]? =some m->(i∈σ\/(i∈N\/k.length<=i))->ι2 i=ι' m:=fun i m h1 h2=>by
  show(match τ[i]? with
   |some m=>if i∈σ\/(i∈N\/k.length<=i)then ι' m else ι i
   |none=>none)=_
  rw[h1];simp only[if_pos h2]
 have at2o:∀i,i<k.length->(¬i∈σ/\¬i∈N)->ι2 i=ι i:=fun i h1 h2=>by
  show(match τ[i]? with
   |some m=>if i∈σ\/(i∈N\/k.length<=i)then ι' m else ι i
   |none=>none)=_
  rw[(O.other i h1 h2.1 h2.2).1];simp only[if_neg (show ¬(i∈σ\/(i∈N\/k.length<=i))by rintro(q|q|q);exact h2.1 q;exact h2.2 q;omega)]
 have side:∀i,i<k'.length->(i<k.length/\(¬i∈σ/\¬i∈N))\/(i∈σ\/(i∈N\/k.length<=i)):=fun i _=>by
  by_cases h1:i∈σ
  ·exact .inr (.inl h1)
  ·by_cases h3:i∈N
   ·exact .inr (.inr (.inl h3))
   ·rcases ub i k.length with h2|h2
    ·exact .inl ⟨h2,h1,h3⟩
    ·exact .inr (.inr (.inr h2))
 have ext2:∀i l,(ι'.ren τ) i=some l->ι2 i=some l:=by
  intro i l h;have hi:i<k'.length:=by
   rcases ub i k'.length with q|q
   ·exact q
   ·rw[<-O.len]at q
    simp [Iota.ren,gp q]at h
  rcases side i hi with⟨h1,h2⟩|h1
  ·rw[show(ι'.ren τ) i=none by simp [Iota.ren,(O.other i h1 h2.1 h2.2).1];exact H'.out _ (gq _)]at h
   cases h
  ·obtain⟨m,x,zz,g1,_⟩:=O.obj i h1 hi
   rw[at2 i m g1 h1,<-h];simp [Iota.ren,g1]
 have obO:∀b,Ob k' ι2 b->(Ob k ι b/\¬Ob h0 ι0 b)\/Ob h' ι' b:=by
  rintro b ⟨i,o,l,g1,g2,g3⟩;rcases side i (aI g1)with⟨h1,h2⟩|h1
  ·rw[(O.other i h1 h2.1 h2.2).2]at g1
   rw[at2o i h1 h2]at g2;refine .inl ⟨⟨i,o,l,g1,g2,g3⟩,?_⟩;rintro⟨j,o2,l2,f1,f2,f3⟩;obtain⟨i2,oc,d1,d2,_⟩:=getσ j o2 f1;rw[at0 j i2 d1]at f2;have:=H.apart _ _ _ _ _ _ g1 g2 d2 f2 (by rw[g3,f3]);subst this;exact h2.1 (cD d1)
  ·obtain⟨m,x,zz,d1,d2,d3,d4⟩:=O.obj i h1 (aI g1)
   rw[g1]at d3;injection d3 with d3;subst d3;obtain⟨ox,rfl,_⟩:=d4.2 o rfl;rw[at2 i m d1 h1]at g2;exact .inr ⟨m,ox,l,d2,g2,g3⟩
 have x0:∀b,ι.X b->X0 b:=fun b q=>⟨.inl q,fun r=>H.xob b q (obk b r)⟩
 have mt2:∀b,Mt k' ι2 b->Mt h' ι' b:=by
  rintro b (q|q)
  ·exact .inl (by rw[hX];exact x0 b q)
  ·rcases obO b q with⟨q1,q2⟩|q1
   ·exact .inl (by rw[hX];exact⟨.inr q1,q2⟩)
   ·exact .inr q1
 have ev2:Evolve k ι w k' ι2 w':=by
  refine⟨ev.os,ev.tape,ev.output,ev.size,fun i l hl=>?_,rfl,fun b hb hn=>?_,ev.sizes⟩
  ·have hi:i<k.length:=by
     rcases ub i k.length with q|q
     ·exact q
     ·rw[H.out i q]at hl;cases hl
   by_cases h1:i∈σ
   ·obtain⟨j,hj,rfl⟩:=ka h1
    have hs:=ga hj;rw[at2 _ j (O.old j _ hs) (.inl h1)];exact ev.iota j l ((at0 j _ hs).trans hl)
   ·by_cases h3:i∈N
    ·rw[H.free i (hN i h3)]at hl;cases hl
    ·rw[at2o i hi ⟨h1,h3⟩];exact hl
  ·have hn0:¬Ob h0 ι0 b:=fun q=>hn (obk b q)
   obtain⟨g1,g2⟩:=ev.frame b hb hn0;refine⟨g1,fun q=>?_⟩;rcases obO b q with⟨q1,_⟩|q1
   ·exact hn q1
   ·exact g2 q1
 have rep2:∀ {x y:V} {v:Value},cE τ x y->Rep w' ι' (Mt h' ι') x v->Rep w' ι2 (Mt k' ι2) y v:=fun hr r=>
  Rep.ext ext2 (fun b q=>q) (hr w' ι' _ _ mt2 _ r)
 refine⟨z,y',k',ι2,rfl,⟨rfl,rfl⟩,rep2 hy rz,?_,ev2⟩;refine⟨fun i o ho=>?_,fun i hi=>?_,fun i hi=>?_,fun i1 o1 l1 i2 o2 l2 a1 a2 b1 b2 hb=>?_,fun b hb=>Nat.lt_of_lt_of_le (H.xlt b hb) ev.size,fun b hb q=>?_⟩
 ·rcases side i (aI ho)with⟨h1,h2⟩|h1
  ·have hok:=ho
   rw[(O.other i h1 h2.1 h2.2).2]at hok;obtain⟨l,c,fr,g1,la⟩:=H.live i o hok;have hob:Ob k ι l.blk:=⟨i,o,l,hok,g1,rfl⟩
   have hn0:¬Ob h0 ι0 l.blk:=by
    rintro⟨j,o2,l2,f1,f2,f3⟩;obtain⟨i2,oc,d1,d2,_⟩:=getσ j o2 f1;rw[at0 j i2 d1]at f2;have:=H.apart _ _ _ _ _ _ hok g1 d2 f2 f3.symm;subst this;exact h2.1 (cD d1)
   refine⟨l,c,fr,(at2o i h1 h2).trans g1,⟨((ev.frame _ (H.blk_lt hob) hn0).1).trans la.blk,la.unfrozen,la.sz,la.rows,la.fits,fun a ha b hb=>?_⟩⟩;obtain⟨v,v1,v2⟩:=la.reads a ha b hb;exact⟨v,v1,v2.mono ev2⟩
  ·obtain⟨m,x,zz,d1,d2,d3,d4⟩:=O.obj i h1 (aI ho)
   rw[ho]at d3;injection d3 with d3;subst d3;obtain⟨ox,rfl,g3⟩:=d4.2 o rfl;obtain⟨l,c,fr,g1,la⟩:=H'.live m ox d2;refine⟨l,c,fr,(at2 i m d1 h1).trans g1,⟨by rw[<-g3.elem];exact la.blk,by rw[<-g3.elem,<-g3.sz];exact la.unfrozen,by rw[<-g3.sz];exact la.sz,fun r' hr'=>?_,by rw[<-g3.sz,<-g3.len];exact la.fits,fun a ha b hb=>?_⟩⟩
   ·obtain⟨a,ha,e⟩:=ka hr'
    have ha1:a<ox.rows.length:=by rw[g3.len];exact ha
    have u:=g3.rows a _ _ (ga ha1) (ga ha);rw[<-e,<-u.1,<-g3.sz];exact la.rows _ (kf ha1)
   ·have ha1:a<ox.rows.length:=by rw[g3.len];exact ha
    have u:=g3.rows a _ _ (ga ha1) (ga ha);have hb1:b<ox.rows[a].length:=by rw[u.1];exact hb
    obtain⟨v,v1,v2⟩:=la.reads a ha1 b hb1;exact⟨v,by rw[<-g3.sz];exact v1,rep2 (u.2 b _ _ (ga hb1) (ga hb)) v2⟩
 ·rcases side i (aI hi)with⟨h1,h2⟩|h1
  ·rw[(O.other i h1 h2.1 h2.2).2]at hi
   rw[at2o i h1 h2];exact H.free i hi
  ·exfalso
   obtain⟨m,x,zz,d1,d2,d3,d4⟩:=O.obj i h1 (aI hi);rw[hi]at d3;injection d3 with d3;subst d3;exact d4.1 rfl
 ·show(match τ[i]? with
    |some m=>if i∈σ\/(i∈N\/k.length<=i)then ι' m else ι i
    |none=>none)=_
  rw[gp (by rw[O.len];exact hi)]
 ·rcases side i1 (aI a1)with⟨h1,h2⟩|h1<;>rcases side i2 (aI b1)with⟨f1,f2⟩|f1
  ·rw[(O.other i1 h1 h2.1 h2.2).2]at a1
   rw[(O.other i2 f1 f2.1 f2.2).2]at b1;rw[at2o i1 h1 h2]at a2;rw[at2o i2 f1 f2]at b2;exact H.apart _ _ _ _ _ _ a1 a2 b1 b2 hb
  ·exfalso
   have q:Ob k' ι2 l1.blk:=⟨i1,o1,l1,a1,a2,rfl⟩
   rw[(O.other i1 h1 h2.1 h2.2).2]at a1;rw[at2o i1 h1 h2]at a2;obtain⟨m,x,zz,d1,d2,d3,d4⟩:=O.obj i2 f1 (aI b1);rw[b1]at d3;injection d3 with d3;subst d3;obtain⟨ox,rfl,_⟩:=d4.2 o2 rfl;rw[at2 i2 m d1 f1]at b2;have hx:X0 l1.blk:=by
    refine⟨.inr ⟨i1,o1,l1,a1,a2,rfl⟩,?_⟩;rintro⟨j,o3,l3,g1,g2,g3⟩;obtain⟨i3,oc,e1,e2,_⟩:=getσ j o3 g1;have g2':ι i3=some l3:=(at0 j i3 e1).symm.trans g2;have:=H.apart _ _ _ _ _ _ a1 a2 e2 g2' g3.symm;subst this;exact h2.1 (cD e1)
   exact H'.xob _ (by rw[hX];exact hx) ⟨m,ox,l2,d2,b2,hb.symm⟩
  ·exfalso
   rw[(O.other i2 f1 f2.1 f2.2).2]at b1;rw[at2o i2 f1 f2]at b2;obtain⟨m,x,zz,d1,d2,d3,d4⟩:=O.obj i1 h1 (aI a1);rw[a1]at d3;injection d3 with d3;subst d3;obtain⟨ox,rfl,_⟩:=d4.2 o1 rfl;rw[at2 i1 m d1 h1]at a2;have hx:X0 l2.blk:=by
    refine⟨.inr ⟨i2,o2,l2,b1,b2,rfl⟩,?_⟩;rintro⟨j,o3,l3,g1,g2,g3⟩;obtain⟨i3,oc,e1,e2,_⟩:=getσ j o3 g1;have g2':ι i3=some l3:=(at0 j i3 e1).symm.trans g2;have:=H.apart _ _ _ _ _ _ b1 b2 e2 g2' g3.symm;subst this;exact f2.1 (cD e1)
   exact H'.xob _ (by rw[hX];exact hx) ⟨m,ox,l1,d2,a2,hb⟩
  ·obtain⟨m1,x1,z1,d1,d2,d3,d4⟩:=O.obj i1 h1 (aI a1)
   obtain⟨m2,x2,z2,c1,c2,c3,c4⟩:=O.obj i2 f1 (aI b1);rw[a1]at d3;injection d3 with d3;subst d3;rw[b1]at c3;injection c3 with c3;subst c3;obtain⟨ox1,rfl,_⟩:=d4.2 o1 rfl;obtain⟨ox2,rfl,_⟩:=c4.2 o2 rfl;rw[at2 i1 m1 d1 h1]at a2;rw[at2 i2 m2 c1 f1]at b2;have:=H'.apart _ _ _ _ _ _ d2 a2 c2 b2 hb;subst this;exact O.inj i1 i2 _ o1 o2 h1 f1 a1 b1 d1 c1
 ·rcases obO b q with⟨q1,_⟩|q1
  ·exact H.xob b hb q1
  ·exact H'.xob b (by rw[hX];exact x0 b hb) q1
def qKD (P:Program) (rs:List ResultVar) (n:Nat) (l:List Int) (e eb:TypeId) (z:Nat) (m:Nat) (x:Exit) (s:Y):Prop:=
 match s with
 |⟨sl,h,_,_⟩=>match x with
  | .ret=>(match ares P rs sl (dens h),qT e eb h 0 with
    |some y,some (true,cs,some j,l',el)=>needs cs (Kern (Nat.ble m j&&Nat.ble m h.length)/\(Leaf (y=wrR n)/\(Leaf (l'=l)/\(Leaf (el=⟨e,z⟩)/\True))))
    |_,_=>False)
  |_=>False
theorem qEK {P:Program} {rs:List ResultVar} {n m z:Nat} {l:List Int} {e eb:TypeId} {x:Exit} {s:Y} (h:qKD P rs n l e eb z m x s):(x = .normal\/x = .ret)/\ares P rs s.sl (dens s.h)=some (wrR n)/\∃cs j,qT e eb s.h 0=some (true,cs,some j,l,⟨e,z⟩)/\dK cs/\m<=j/\m<=s.h.length:=by
 obtain⟨sl,hp,tch,an⟩:=s;simp only[qKD]at h;split at h
 ·split at h
  ·rename_i y cs j l' el hy hr
   obtain⟨hc,⟨hk⟩,⟨rfl⟩,⟨rfl⟩,⟨rfl⟩,_⟩:=bR h;simp only[gk]at hk;exact⟨.inr rfl,hy,cs,j,hr,hc,ks hk.1,ks hk.2⟩
  ·exact h.elim
 ·exact h.elim
theorem xK {e eb:TypeId} {h:List XO} {i:Nat} {b:Bool} {cs:List Bool} {j:Option Nat} {l:List Int} {el:El} (hr:qT e eb h i=some (b,cs,j,l,el)) (hc:dK cs) :
  ∃c1,h[i]? =some (.raw (.live ⟨2,[[qH i b,c1]],eb⟩))/\((j=none/\l= []/\c1 = .v (.slice none 0 0)/\el=⟨e,1⟩)\/∃k,j=some k/\c1 = .oL k l.length/\h[k]? =some (.opt (.int .u8) l el)/\el.t=e/\1<=el.fz/\el.fz<=l.length+1):=by
 unfold qT at hr;split at hr
 ·rename_i o ho
  split at hr
  ·rename_i c0 c1 hrow
   split at hr
   ·rename_i b' hb hz
    have ho':∀b2,c0=qH i b2->h[i]? =some (.raw (.live ⟨2,[[qH i b2,c1]],eb⟩)):=by
     intro b2 q;simp only[gk]at hz;have z1:=hh hz.1;have z2:=El.is_eq hz.2;rw[ho];obtain⟨sz,rows,el⟩:=o;(try simp only at z1 z2 hrow);subst z1 z2 hrow q;rfl
    have hself:c0=qH i b':=by
     unfold KC at hb;split at hb
     ·injection hb with hb;subst hb;rfl
     ·split at hb
      ·rename_i q
       have q:=hh q;injection hb with hb;subst hb q;rfl
      ·cases hb
     ·cases hb
    split at hr
    ·rename_i j' n
     split at hr
     ·rename_i t l' e' hj'
      split at hr
      ·rename_i l'' hl he
       injection hr with hr;injection hr with e1 hr;injection hr with e2 hr;injection hr with e3 e4;injection e4 with e4 e5;subst e1 e2 e3 e4 e5;have hn:n=l''.length:=of_decide_eq_true (hc _ sm);have hz:=qYS (aF hc).2;obtain⟨et,el⟩:=gM hl;have he:=hh he;subst et;subst el;exact⟨_,ho' _ hself,.inr ⟨_,rfl,by rw[hn],hj',he,hz.1,hz.2⟩⟩
      ·cases hr
     ·cases hr
    ·injection hr with hr;injection hr with e1 hr;injection hr with e2 hr;injection hr with e3 e4;injection e4 with e4 e5;subst e1 e2 e3 e4 e5
     exact⟨_,ho' _ hself,.inl ⟨rfl,rfl,rfl,rfl⟩⟩
    ·cases hr
   ·cases hr
  ·cases hr
 ·cases hr
theorem cE.self {σ:List Nat} {i k:Nat} (b:Bool) (h:σ[k]? =some i):cE σ (qH i b) (qH k b):=by
 cases b with
 |true=>exact cE.pO 0 0 h
 |false=>exact cE.tree (LE.refl _) (.v _)
theorem lE.two {σ:List Nat} {a b c d:V} {eb:TypeId} (h1:cE σ a c) (h2:cE σ b d):lE σ (.live ⟨2,[[a,b]],eb⟩) (.live ⟨2,[[c,d]],eb⟩):=
 ⟨sm,fun o' q=>by
   injection q with q;subst q;refine⟨_,rfl,⟨rfl,rfl,rfl,fun m r r' g1 g2=>?_⟩⟩;match m,g1,g2 with
   |0,g1,g2=>
    simp at g1 g2;subst g1 g2;refine⟨rfl,fun n x y g3 g4=>?_⟩;match n,g3,g4 with
    |0,g3,g4=>simp at g3 g4;subst g3 g4;exact h1
    |1,g3,g4=>simp at g3 g4;subst g3 g4;exact h2
    |n+2,g3,g4=>simp at g3
   |m+1,g1,g2=>simp at g1⟩
theorem qI5.lift {P:Program} {f:FuncId} {e eb:TypeId} {el:El} {h:List XO} {i new:Nat} {s:ByteArray} {b:Bool} {l l2:List Int} {j:Option Nat} {c1:V} (hi:h[i]? =some (.raw (.live ⟨2,[[qH i b,c1]],eb⟩)))
  (hj:∀k,j=some k->k≠i/\h[k]? =some (.opt (.int .u8) l el)) (hnew:h[new]? =some (.raw .free)) (c0:V) (hc0:cE (i::kE j []) c1 c0)
  (hc:PC P f [.pO 0 0 0,.v (.string s)] (.live ⟨2,[[qH 0 b,c0]],eb⟩::(match j with|some _=>[(XO.opt (.int .u8) l el).den]|none=>[]))
    (fun y k=>y=wrR s.size/\∃(hs:List XO) (cs:List Bool) (jj:Nat),k=dens hs/\qT e eb hs 0=some (true,cs,some jj,l2,el)/\dK cs/\(i::kE j []).length<=jj/\(i::kE j []).length<=hs.length)) :
  PC P f [.pO i 0 0,.v (.string s)] (dens h) (fun y k=>y=wrR s.size/\k=dens ((dO (h.set i (GI eb i new l2.length)) j).set new (.opt (.int .u8) l2 el))):=by
 have hni:new≠i:=by intro q;subst q;rw[hi]at hnew;cases hnew
 have hnj:∀k,j=some k->new≠k:=by intro k hk q;subst q;rw[(hj _ hk).2]at hnew;cases hnew
 have hilt:=aI hi;have hnlt:=aI hnew;have hnd:(i::kE j []).Nodup:=by
  cases j with
  |none=>simp [kE]
  |some k=>simp only[kE,List.nodup_cons,kz,List.not_mem_nil,or_false,not_false_eq_true,List.nodup_nil,and_true];exact Ne.symm (hj k rfl).1
 have hs0:(i::kE j [])[0]? =some i:=rfl;refine PC.liftN (σ:=i::kE j []) (N:=[new]) hnd (fun x hx=>?_) ?_ (fun a c hac=>?_) ?_ hc ?_
 ·simp only[kz,List.not_mem_nil,or_false]at hx
  subst hx;rw[aJ,hnew];rfl
 ·cases j<;>rfl
 ·match a,hac with
  |0,hac=>
   have hac:i=c:=by simpa using hac
   subst hac;refine⟨_,_,by rw[aJ,hi];rfl,rfl,lE.two (cE.self b hs0) hc0⟩
  |a+1,hac=>
   cases j with
   |none=>simp [kE]at hac
   |some k=>
    match a,hac with
    |0,hac=>
     have hac:k=c:=by simpa [kE]using hac
     subst hac;exact⟨_,_,by rw[aJ,(hj k rfl).2];rfl,rfl,lE.opt _ _ _⟩
    |a+1,hac=>simp [kE]at hac
 ·refine⟨rfl,fun m x y h1 h2=>?_⟩
  match m,h1,h2 with
  |0,h1,h2=>simp at h1 h2;subst h1 h2;exact cE.pO 0 0 hs0
  |1,h1,h2=>simp at h1 h2;subst h1 h2;exact cE.tree (LE.refl _) (.v _)
  |m+2,h1,h2=>simp at h1
 rintro y k ⟨rfl,hs,cs,jj,rfl,hr,hcs,hjj,hlen⟩;obtain⟨d1,r1,r2⟩:=xK hr hcs;obtain⟨k2,q,rfl,r3⟩:∃k2,some jj=some k2/\d1 = .oL k2 l2.length/\hs[k2]? =some (.opt (.int .u8) l2 el):=by
  rcases r2 with⟨q,_⟩|r2
  ·cases q
  ·obtain⟨k2,a1,a2,a3,_⟩:=r2;exact⟨k2,a1,a2,a3⟩
 injection q with q;subst q;let g:Nat->Nat:=fun x=>if x=i then 0 else if x=new then jj else if j=some x then 1 else hs.length
 have gi:g i=0:=by simp [g]
 have gn:g new=jj:=by simp [g,hni]
 have gj:∀k,j=some k->g k=1:=fun k hk=>by simp [g,(hj k hk).1,Ne.symm (hnj k hk),hk]
 have go:∀x,x≠i->x≠new->j≠some x->g x=hs.length:=fun x h1 h2 h3=>by simp [g,h1,h2,h3]
 have hL:(dens ((dO (h.set i (GI eb i new l2.length)) j).set new (.opt (.int .u8) l2 el))).length=h.length:=by rw[eD];simp [oY]
 have hτ:∀x,x<h.length->((List.range h.length).map g)[x]? =some (g x):=fun x hx=>by simp [hx]
 have ki:(dens ((dO (h.set i (GI eb i new l2.length)) j).set new (.opt (.int .u8) l2 el)))[i]? =some (.live ⟨2,[[.pO i 0 0,.oL new l2.length]],eb⟩):=by
  rw[aJ,gl hni,vP (fun k hk=>(hj k hk).1),gz hilt];rfl
 have kn:(dens ((dO (h.set i (GI eb i new l2.length)) j).set new (.opt (.int .u8) l2 el)))[new]? =some (XO.opt (.int .u8) l2 el).den:=by
  rw[aJ,gz (by simpa [oY]using hnlt)];rfl
 have kj:∀k,j=some k->(dens ((dO (h.set i (GI eb i new l2.length)) j).set new (.opt (.int .u8) l2 el)))[k]? =some .dead:=fun k hk=>by
  subst hk;rw[aJ,gl (hnj k rfl)];simp only[dO];rw[gz (by simpa using aI (hj k rfl).2)];rfl
 have mem:∀x,x∈i::kE j []->x=i\/j=some x:=fun x hx=>by
  rcases kz.1 hx with q|q
  ·exact .inl q
  ·cases j with
   |none=>simp [kE]at q
   |some k=>simp [kE]at q;subst q;exact .inr rfl
 have mem2:∀x,j=some x->x∈i::kE j []:=fun x hx=>by subst hx;simp [kE]
 have h2l:∀k,j=some k->2<=jj/\2<=hs.length:=fun k hk=>by subst hk;simp [kE]at hjj hlen;omega
 have h1l:1<=jj/\1<=hs.length:=by simp at hjj hlen;omega
 refine⟨(List.range h.length).map g,⟨by rw[hL];simp,by rw[eD,hL];exact gq _,fun x hx hs1 hs2=>?_,fun a x hx=>?_,fun x hx hlt=>?_,fun x1 x2 m o1 o2 g1 g2 g3 g4 g5 g6=>?_⟩,cE.tree (LE.refl _) (.tup fun z hz=>?_)⟩
 ·rw[eD]at hx
  have n1:x≠i:=fun q=>hs1 (by rw[q];exact kb ..)
  have n2:x≠new:=fun q=>hs2 (by rw[q];simp)
  have n3:j≠some x:=fun q=>hs1 (mem2 x q)
  refine⟨by rw[hτ x hx,go x n1 n2 n3,eD],?_⟩;rw[aJ,aJ,gl (Ne.symm n2),vP (fun k hk q=>n3 (by rw[hk,q])),gl (Ne.symm n1)]
 ·match a,hx with
  |0,hx=>have hx:i=x:=by simpa using hx
         subst hx;rw[hτ _ hilt,gi]
  |a+1,hx=>
   cases hj0:j with
   |none=>subst hj0;simp [kE]at hx
   |some k=>
    subst hj0;match a,hx with
    |0,hx=>
     have hx:k=x:=by simpa [kE]using hx
     subst hx;rw[hτ _ (aI (hj k rfl).2),gj k rfl]
    |a+1,hx=>simp [kE]at hx
 ·rw[hL]at hlt
  have cases3:x=i\/j=some x\/x=new:=by
   rcases hx with hx|hx|hx
   ·exact(mem x hx).imp (fun q=>q) .inl
   ·exact .inr (.inr (by simpa using hx))
   ·rw[eD]at hx;omega
  rcases cases3 with rfl|q|rfl
  ·refine⟨0,_,_,by rw[hτ _ hilt,gi],by rw[aJ,r1];rfl,ki,lE.two ?_ ?_⟩
   ·exact cE.pO 0 0 (by rw[hτ _ hilt,gi])
   ·exact cE.oL _ (by rw[hτ _ hnlt,gn])
  ·obtain⟨z,hz⟩:∃z,hs[1]? =some z:=⟨_,ga (by have:=(h2l x q).2;omega)⟩
   exact⟨1,_,_,by rw[hτ _ hlt,gj x q],by rw[aJ,hz];rfl,kj x q,⟨sm,fun _ q=>by cases q⟩⟩
  ·exact⟨jj,_,_,by rw[hτ _ hnlt,gn],by rw[aJ,r3];rfl,kn,lE.opt _ _ _⟩
 ·have live:∀x,(x∈i::kE j []\/(x∈ [new]\/(dens h).length<=x))->∀o,(dens ((dO (h.set i (GI eb i new l2.length)) j).set new (.opt (.int .u8) l2 el)))[x]? =some (.live o)->x=i\/x=new:=by
    intro x hx o ho;rcases hx with hx|hx|hx
    ·rcases mem x hx with q|q
     ·exact .inl q
     ·rw[kj x q]at ho;cases ho
    ·exact .inr (by simpa using hx)
    ·have:=aI ho;rw[hL]at this;rw[eD]at hx;omega
  have t1:∀x,x<h.length->((List.range h.length).map g)[x]? =some m->g x=m:=fun x hx q=>by rw[hτ x hx]at q;injection q
  rcases live x1 g1 o1 g3 with rfl|rfl<;>rcases live x2 g2 o2 g4 with rfl|rfl
  ·rfl
  ·have a1:=t1 _ hilt g5;have a2:=t1 _ hnlt g6;rw[gi]at a1;rw[gn]at a2;omega
  ·have a1:=t1 _ hnlt g5;have a2:=t1 _ hilt g6;rw[gn]at a1;rw[gi]at a2;omega
  ·rfl
 ·simp at hz;rcases hz with rfl|rfl<;>exact .v _
theorem qI5.mk {P:Program} {T:Tbl} {f:FuncId} {fn:Func} {c:Code} {e eb:TypeId} (hT:aD P T) (hM:P.follows .mixedOrders=true) (fl:List (Nat×Nat×Nat)) (I:List Nat)
  (hf:P.funcs[f]? =some fn) (hb:fn.body=some c)
  (h1:∀(b:Bool) (l:List Int) (s:ByteArray),l.length+s.size<=70368744177664->∃an:List (Nat×Nat×LA),fVs (.pO 0 0 0 :: .v (.string s)::kc (fn.ntmps-2) (.v undef)) fun sl=>fH [.raw (.live ⟨2,[[qH 0 b,.oL 1 l.length]],eb⟩),.opt (.int .u8) l ⟨e,1⟩] fun h=>xcode ⟨P,T,2,0,fl,lC P T fl I 4⟩ c ⟨sl,h,[],an⟩
    (qKD P fn.results.toList s.size (l++aE s) e eb 1 2))
  (h3:∀(z:Nat) (b:Bool) (l:List Int) (s:ByteArray),l.length+s.size<=70368744177664->z+1<=l.length->∃an:List (Nat×Nat×LA),fVs (.pO 0 0 0 :: .v (.string s)::kc (fn.ntmps-2) (.v undef)) fun sl=>fH [.raw (.live ⟨2,[[qH 0 b,.oL 1 l.length]],eb⟩),.opt (.int .u8) l ⟨e,z+2⟩] fun h=>xcode ⟨P,T,2,0,fl,lC P T fl I 4⟩ c ⟨sl,h,[],an⟩
    (qKD P fn.results.toList s.size (l++aE s) e eb (z+2) 2))
  (h2:∀(b:Bool) (s:ByteArray),s.size<=70368744177664->∃an:List (Nat×Nat×LA),fVs (.pO 0 0 0 :: .v (.string s)::kc (fn.ntmps-2) (.v undef)) fun sl=>fH [.raw (.live ⟨2,[[qH 0 b,.v (.slice none 0 0)]],eb⟩)] fun h=>xcode ⟨P,T,1,0,fl,lC P T fl I 4⟩ c ⟨sl,h,[],an⟩
    (qKD P fn.results.toList s.size (aE s) e eb 1 1)):aH P f (.bld true e eb):=by
 intro h i new s b cs j l el hr hcs hn hfree;obtain⟨c1,g1,g2⟩:=xK hr hcs;rcases g2 with⟨rfl,rfl,rfl,rfl⟩|⟨k,rfl,rfl,g3,g4,g5,g6⟩
 ·refine qI5.lift (e:=e) (j:=none) (l:=[]) g1 (fun k hk=>by cases hk) hfree (.v (.slice none 0 0)) (cE.tree (LE.refl _) (.v _)) ?_
  obtain⟨an,hw⟩:=h2 b s (by simpa using hn);rw[kM,eQ]at hw;refine PC.of_bodyV hf hb _ rfl (fun K hK=>?_);have hw:=jJ (E:=⟨P,T,1,0,fl,lC P T fl I 4⟩) hT hM (iS hT hM fl I 4 _ _) c _ _ hw;refine PV.mono hw ?_;rintro e st ⟨s',rfl,q1,_⟩;obtain⟨he,hy,cs',jj,q2,q3,q4,q5⟩:=qEK q1;exact hK e _ _ he hy ⟨rfl,s'.h,cs',jj,rfl,q2,q3,q4,q5⟩
 ·have hki:k≠i:=by intro q;subst q;rw[g1]at g3;cases g3
  refine qI5.lift (e:=e) (j:=some k) (l:=l) g1 (fun k' hk=>by injection hk with hk;subst hk;exact⟨hki,g3⟩) hfree (.oL 1 l.length) (cE.oL _ rfl) ?_;obtain⟨an,hw⟩:∃an:List (Nat×Nat×LA),fVs (.pO 0 0 0 :: .v (.string s)::kc (fn.ntmps-2) (.v undef)) fun sl=>fH [.raw (.live ⟨2,[[qH 0 b,.oL 1 l.length]],eb⟩),.opt (.int .u8) l el] fun h=>xcode ⟨P,T,2,0,fl,lC P T fl I 4⟩ c ⟨sl,h,[],an⟩
    (qKD P fn.results.toList s.size (l++aE s) e eb el.fz 2):=by
   obtain⟨t,z⟩:=el;(try simp only at g4 g5 g6);subst g4;match z,g5,g6 with
   |1,_,_=>exact h1 b l s hn
   |z+2,_,g6=>exact h3 z b l s hn om
  have hel:(⟨e,el.fz⟩:El)=el:=by rw[<-g4]
  rw[kM,eQ]at hw;refine PC.of_bodyV hf hb _ rfl (fun K hK=>?_);have hw:=jJ (E:=⟨P,T,2,0,fl,lC P T fl I 4⟩) hT hM (iS hT hM fl I 4 _ _) c _ _ hw;refine PV.mono hw ?_;rintro e st ⟨s',rfl,q1,_⟩;obtain⟨he,hy,cs',jj,q2,q3,q4,q5⟩:=qEK q1;exact hK e _ _ he hy ⟨rfl,s'.h,cs',jj,rfl,hel ▸ q2,q3,q4,q5⟩
theorem HRel.killed {h h':Heap} {ι:Iota} {w w':World} (H:HRel h ι w) (hk:∀id:Nat,h'[id]? =h[id]? \/h'[id]? =some HS.dead) (hl:h'.length=h.length) (Pb:Nat->Prop) (h1:∀b,Pb b->Ob h ι b/\¬Ob h' ι b)
  (hos:w'.os=w.os) (htp:w'.tape=w.tape) (hou:w'.output=w.output) (hsz:w'.heap.size=w.heap.size) (hsame:∀b,¬Pb b->w'.heap[b]? =w.heap[b]?)
  (hcs:∀(b:Nat) (c:Array Value) (e:TypeId) (fr:Nat×Nat),w.heap[b]? =some (.cells c e fr)->∃(c':Array Value) (fr':Nat×Nat),w'.heap[b]? =some (.cells c' e fr')/\c'.size=c.size):HRel h' ι w'/\Evolve h ι w h' ι w':=by
 have old:∀(id:Nat) (o:AObj),h'[id]? =some (.live o)->h[id]? =some (.live o):=fun id o q=>by
  rcases hk id with r|r
  ·rw[<-r];exact q
  ·rw[r]at q;cases q
 have ob:∀b,Ob h' ι b->Ob h ι b:=fun b ⟨id,o,l,q1,q2,q3⟩=>⟨id,o,l,old id o q1,q2,q3⟩
 have ev:Evolve h ι w h' ι w':=⟨hos,htp,hou,by rw[hsz];exact gq _,fun _ _ q=>q,rfl,fun b hb hn=>⟨hsame b (fun q=>hn (h1 b q).1),fun q=>hn (ob b q)⟩,hcs⟩
 refine⟨⟨fun id o ho=>?_,fun id ho=>?_,fun id ho=>H.out id (by rw[<-hl];exact ho),fun id o l id' o' l' a1 a2 b1 b2 hb=>H.apart id o l id' o' l' (old _ _ a1) a2 (old _ _ b1) b2 hb,fun b hb=>by rw[hsz];exact H.xlt b hb,fun b hb q=>H.xob b hb (ob b q)⟩,ev⟩
 ·obtain⟨l,c,fr,q1,la⟩:=H.live id o (old id o ho)
  have hn:¬Pb l.blk:=fun q=>(h1 _ q).2 ⟨id,o,l,ho,q1,rfl⟩
  exact⟨l,c,fr,q1,⟨(hsame _ hn).trans la.blk,la.unfrozen,la.sz,la.rows,la.fits,fun i hi j hj=>let ⟨y,g1,g2⟩:=la.reads i hi j hj;⟨y,g1,g2.mono ev⟩⟩⟩
 ·refine H.free id ?_
  rcases hk id with r|r
  ·rw[<-r];exact ho
  ·rw[r]at ho;cases ho
theorem qPA (h:List XO) (i:Nat) (j:Option Nat) (id:Nat):(dens (dO (h.set i (.raw .dead)) j))[id]? =(dens h)[id]? \/(dens (dO (h.set i (.raw .dead)) j))[id]? =some HS.dead:=by
 have one:∀(h:List XO) (i id:Nat),(dens (h.set i (.raw .dead)))[id]? =(dens h)[id]? \/(dens (h.set i (.raw .dead)))[id]? =some HS.dead:=by
  intro h i id;rw[aX];by_cases q:i=id
  ·subst q
   rw[List.getElem?_set];simp only[if_pos];split
   ·exact .inr rfl
   ·rename_i hlt;left;rw[gp om]
  ·left;rw[gl q]
 cases j with
 |none=>exact one h i id
 |some k=>
  rcases one (h.set i (.raw .dead)) k id with r|r
  ·rcases one h i id with r2|r2
   ·exact .inl (r.trans r2)
   ·exact .inr (r.trans r2)
  ·exact .inr r
theorem AC {P:Program} (w:World):∀(l:List Int) (a:Addr) (acc:ByteArray),(∀j x,l[j]? =some x->w.cell? (a.add j)=some (.int .u8 x)) ->
  (loadBytes a acc l.length).run P w = .ok ⟨acc.data++(l.map fun n=>UInt8.ofNat n.toNat).toArray⟩ w
 | [],a,acc,_=>by simp [loadBytes]
 |x::l,a,acc,h=>by
  have h0:w.cell? a=some (.int .u8 x):=by
   have:=h 0 x rfl;simpa [Addr.add]using this
  have ih:=AC (P:=P) w l (a.add 1) (acc.push (UInt8.ofNat x.toNat)) (fun j y hy=>by
   have:=h (j+1) y (by simpa using hy);have e:(a.add 1).add j=a.add (j+1):=by
    unfold Addr.add;by_cases hj:j=0
    ·subst hj;simp
    ·simp [hj];omega
   rw[e];exact this)
  have hx:x.toNat.toUInt8=UInt8.ofNat x.toNat:=rfl;simp only[gc,loadBytes,Sem.run_bind,run_load,h0,Result.andThen,hx];rw[ih];congr 1
  apply ByteArray.ext;simp [ByteArray.push]
theorem oP {P:Program} (w:World) (pt it ty e:TypeId) (hp:P.underlying pt=some (.pointer e)) (hc:P.cellsOf e=1) (g o cells:Nat) (hsh:w.shape? g=some (e,cells)) (l:List Int) (h0:l≠ []) (hn:o+l.length<=cells) (h63:l.length<=9223372036854775807)
  (hcell:∀j x,l[j]? =some x->w.cell? ((⟨g,o,none⟩:Addr).add j)=some (.int .u8 x)) :
  (Builtin.unsafeString_ #[pt,it] ty #[.pointer (some ⟨g,o,none⟩),.int .i64 l.length]).run P w = .ok (.string (aT l)) (w.freeze ⟨g,o,none⟩ l.length):=by
 have hl:l.length≠0:=by simpa using h0
 have hlb:=AC (P:=P) w l ⟨g,o,none⟩ .empty hcell;have hlies:liesAt P P.depth e (cells/P.cellsOf e) o e l.length=true:=by
  have hd:P.depth=(2*(P.types.size+Made.depth)+1)+1:=rfl;rw[hd];simp only[liesAt,Bool.or_eq_true];left;rw[hd];simp [Go.rowAt,hc,hn,sameLayout,Nat.mod_one]
 have h63':¬(9223372036854775807:Int)<(l.length:Int):=om
 have hdef:Builtin.unsafeString_ #[pt,it] ty #[.pointer (some ⟨g,o,none⟩),.int .i64 l.length] =
  (do
    let n <- asInt (.int .i64 l.length)
    if n < 0 then runtimePanic (.error "unsafe.String: len out of range")
    if n > IntKind.i64.max then unsupported (.unsafePointer "String: a length above the largest int")
    if n=0 then pure (.string .empty)
    else if <- variablesAt ⟨g,o,none⟩ (<-elemOf pt) n.toNat then do
     let s <- loadBytes ⟨g,o,none⟩ .empty n.toNat
     freeze ⟨g,o,none⟩ n.toNat
     pure (.string s)
    else unsupported (.unsafePointer "String: not so many bytes at ptr")) := rfl
 rw[hdef];have hmax:IntKind.i64.max=9223372036854775807:=rfl;have hneg:¬(l.length:Int)<0:=om
 simp [asInt,asIntOf,hmax,h63',hneg,hl,variablesAt,hsh,elemOf,run_underlying hp,hlies,hlb,aT]
theorem DU (w:World) (a:Addr) (n b:Nat) (hb:b≠a.block):(w.freeze a n).heap[b]? =w.heap[b]?:=by
 unfold World.freeze;split
 ·rfl
 ·simp only[kt];rw[if_neg (Ne.symm hb)]
theorem DW (w:World) (a:Addr) (n:Nat):(w.freeze a n).heap.size=w.heap.size:=by
 unfold World.freeze;split
 ·rfl
 ·simp
theorem qXS.mk {P:Program} {f:FuncId} {e eb pt it ty:TypeId} (hp:P.underlying pt=some (.pointer e)) (hcell:P.cellsOf e=1)
  (hnil:∀(b o:Nat) (w:World),w.cell? ⟨b,o+1,none⟩=some (.slice none 0 0)->Calls P f #[.pointer (some ⟨b,o,none⟩)] w fun x w'=>x = .returned (.string ⟨#[]⟩)/\w'=w.drew)
  (hsome:∀(b o:Nat) (a:Addr) (n cap:Nat) (s:ByteArray) (w:World),w.cell? ⟨b,o+1,none⟩=some (.slice (some a) n cap)->cap≠0->(Builtin.unsafeString_ #[pt,it] ty #[.pointer (some a),.int .i64 n]).run P w.drew = .ok (.string s) (w.drew.freeze a n) ->
    Calls P f #[.pointer (some ⟨b,o,none⟩)] w fun x w'=>x = .returned (.string s)/\w'=w.drew.freeze a n):aH P f (.bld false e eb):=by
 intro h i b cs j l el hr hcs hlen ι w vals hpv H;obtain⟨c1,g1,g2⟩:=xK hr hcs;have hden:(dens h)[i]? =some (.live ⟨2,[[qH i b,c1]],eb⟩):=by rw[aJ,g1];rfl
 obtain⟨L,c,fr,hL,la⟩:=H.live i _ hden;have hLs:L.sz=2:=la.sz;obtain⟨v0,hv0,rv0⟩:=hpv.2 0 _ rfl;cases rv0 with
 |pO _ _ _ L2 hL2=>
  rw[hL]at hL2;injection hL2 with hL2;subst hL2;have hvals:vals = #[.pointer (some ⟨L.blk,L.base+0*L.sz+0,none⟩)]:=by
   have hs:vals.size=1:=hpv.1.symm;exact Array.ext (by rw[hs];rfl) (fun q q1 q2=>by
    have h0:q=0:=by rw[hs]at q1;omega
    subst h0;rw[Array.getElem?_eq_getElem q1]at hv0;exact Option.some.inj hv0)
  subst hvals;obtain⟨x,x1,x2⟩:=la.reads 0 sm 1 sm;have x2:Rep w ι (Mt (dens h) ι) c1 x:=x2;have hcx:w.cell? ⟨L.blk,L.base+0*L.sz+0+1,none⟩=some x:=by
   have:L.base+0*L.sz+0+1=L.base+0*2+1:=om
   rw[this];simp only[World.cell?,la.blk];exact x1
  have nilcase:x = .slice none 0 0->l= []->dens (zD h e l j)=dens h->Calls P f #[.pointer (some ⟨L.blk,L.base+0*L.sz+0,none⟩)] w fun e' w'=>∃y x h' ι',e' = .returned y/\(x = .v (.string (aT l))/\h'=dens (zD h e l j))/\Rep w' ι' (Mt h' ι') x y/\HRel h' ι' w'/\Evolve (dens h) ι w h' ι' w':=by
   intro hx hl0 hdn;subst hx hl0;refine(hnil _ _ w hcx).mono ?_;rintro e' w' ⟨rfl,rfl⟩;obtain⟨H2,ev⟩:=H.killed (h':=dens h) (w':=w.drew) (fun id=>.inl rfl) rfl (fun _=>False) (fun _ q=>q.elim) rfl rfl rfl rfl (fun _ _=>rfl) (fun _ c _ fr q=>⟨c,fr,q,rfl⟩);exact⟨_,_,_,ι,rfl,⟨rfl,rfl⟩,.v _,by rw[hdn];exact H2,by rw[hdn];exact ev⟩
  rcases g2 with⟨rfl,rfl,rfl,rfl⟩|⟨k,rfl,rfl,g3,g4,g5,g6⟩
  ·cases x2
   exact nilcase rfl rfl rfl
  ·have hklt:=aI g3
   have hset:dens (zD h e l (some k))=(dens h).set k (XO.opt (.int .u8) l ⟨e,l.length-1+2⟩).den:=by simp only[zD,aX]
   by_cases hl0:l= []
   ·subst hl0
    have hdn:dens (zD h e [] (some k))=dens h:=by
     rw[hset];have hk0:(dens h)[k]? =some HS.dead:=by rw[aJ,g3];rfl
     show(dens h).set k .dead=dens h;rw[<-(List.getElem?_eq_some_iff.1 hk0).2,List.set_getElem_self]
    cases x2 with
    |oL _ _ _ q=>simp at q;cases q;exact nilcase rfl rfl hdn
   ·have hlen0:l.length≠0:=fun q=>hl0 (List.length_eq_zero_iff.1 q)
    have hdk:(dens h)[k]? =some (.live ⟨1,l.map (Ty.row (.int .u8)),el⟩):=by rw[aJ,g3];simp [XO.den,hl0,Ty.size]
    have hset:dens (zD h e l (some k))=(dens h).set k (.live ⟨1,l.map (Ty.row (.int .u8)),⟨e,l.length-1+2⟩⟩):=by rw[hset];simp [XO.den,hl0,Ty.size]
    cases x2 with
    |oL _ _ _ q=>
     rw[if_neg hlen0]at q;cases q with
     |sO _ _ _ cap Lk ck ek frk hLk hcap hbk hszk=>
      obtain⟨Lk2,ck2,frk2,hLk2,lak⟩:=H.live k _ hdk;rw[hLk]at hLk2;injection hLk2 with hLk2;subst hLk2;have hsk:Lk.sz=1:=lak.sz;have hfit:Lk.base+l.length<=ck2.size:=by have:=lak.fits;simp at this;omega
      have hoff:Lk.base+0*Lk.sz=Lk.base:=om
      rw[hoff]at hcx;have hUS:=oP (P:=P) w.drew pt it ty e hp hcell Lk.blk Lk.base ck2.size (by show(match w.heap[Lk.blk]? with|some (.cells c elem _)=>some (elem,c.size)|_=>none)=_;rw[lak.blk,g4]) l hl0 hfit om (fun q z hz=>by
       have hq:=aI hz;obtain⟨y,y1,y2⟩:=lak.reads q (by simpa using hq) 0 (by simp [Ty.cells]);have e1:(l.map (Ty.row (.int .u8)))[q]'(by simpa using hq)= [.v (.int .u8 z)]:=by
        rw[ga hq]at hz;injection hz with hz;simp [hz,Ty.cells]
       have y2:Rep w ι (Mt (dens h) ι) (.v (.int .u8 z)) y:=by
        have:=y2;simp only[e1]at this;exact this
       cases y2;have:(⟨Lk.blk,Lk.base,none⟩:Addr).add q=⟨Lk.blk,Lk.base+q,none⟩:=oA _ _ _;rw[this];show w.cell? ⟨Lk.blk,Lk.base+q,none⟩=_;simp only[World.cell?,lak.blk];rw[<-y1];congr 1
       simp [Ty.size])
      refine(hsome _ _ ⟨Lk.blk,Lk.base,none⟩ l.length cap (aT l) w hcx om hUS).mono ?_;rintro e' w' ⟨rfl,rfl⟩;have hhp:(w.drew.freeze ⟨Lk.blk,Lk.base,none⟩ l.length).heap[Lk.blk]? =some (.cells ck2 el.t (if frk2.1 == frk2.2 then(Lk.base,Lk.base+l.length)else(min frk2.1 Lk.base,max frk2.2 (Lk.base+l.length)))):=by
       unfold World.freeze;rw[if_neg hlen0];have h0:w.drew.heap[Lk.blk]? =some (.cells ck2 el.t frk2):=lak.blk;simp only[kt,if_pos,h0];obtain⟨lo,hi⟩:=frk2;rfl
      have hun:Unfr (l.length-1+2) Lk.base 1 ck2.size (if frk2.1 == frk2.2 then(Lk.base,Lk.base+l.length)else(min frk2.1 Lk.base,max frk2.2 (Lk.base+l.length))):=by
       have u:=lak.unfrozen;obtain⟨hle,hcl⟩:=u.clean g5;have cl:∀fr:Nat×Nat,fr.1<=fr.2->(∀k,fr.1<=k->k<fr.2->Lk.base<=k/\k+1<Lk.base+(l.length-1+2))->Unfr (l.length-1+2) Lk.base 1 ck2.size fr:=fun fr h1 h2=>⟨fun k _=>h2 k,fun z=>(z rfl).elim,fun _=>⟨h1,h2⟩⟩
       split
       ·exact cl _ (Nat.le_add_right _ _) fun k h1 h2=>by simp only at h1 h2;omega
       ·rename_i hne
        have hne:frk2.1≠frk2.2:=by simpa using hne
        have a1:Lk.base<=frk2.1/\frk2.1+1<Lk.base+el.fz:=hcl frk2.1 (gq _) om;have a2:Lk.base<=frk2.2-1/\frk2.2-1+1<Lk.base+el.fz:=hcl (frk2.2-1) om om;exact cl _ (by simp only;omega) fun k h1 h2=>by simp only at h1 h2;omega
      obtain⟨H2,ev⟩:=H.updG hdk hLk lak (o':=⟨1,l.map (Ty.row (.int .u8)),⟨e,l.length-1+2⟩⟩) (c':=ck2) (w':=w.drew.freeze ⟨Lk.blk,Lk.base,none⟩ l.length)
       ⟨by unfold World.freeze;split<;>rfl,by unfold World.freeze;split<;>rfl,by unfold World.freeze;split<;>rfl,DW _ _ _,fun q hq=>DU w.drew _ _ _ hq⟩ hhp rfl g4.symm rfl hun lak.rows lak.fits lak.reads
      exact⟨_,_,_,ι,rfl,⟨rfl,rfl⟩,.v _,by rw[hset];exact H2,by rw[hset];exact ev⟩
end Go.Abs
namespace Go.Proofs.YtcjiefknhfhmkaaGreatDoor
open Go.Abs
set_option maxRecDepth 100000
set_option maxHeartbeats 4000000
set_option linter.unusedVariables false
set_option linter.unusedSimpArgs false
abbrev VM:Ct:=.bld true 5 106
theorem qZ6:aH Tryz.prog 62 VM:=by
 refine qI5.mk ZT mixed [] [107] rfl rfl ?_ ?_ ?_;all_goals first|rintro(z:Nat) (_|_) (l:List Int) s hs hz|rintro(_|_) (l:List Int) s hs|rintro(_|_) s hs
 all_goals refine⟨[],?_⟩
 repeat' (first
  |(
 with_reducible apply Side.mk
 (try dsimp only[cu,aC,aB,gts,loK,hiK,eE,eN])
 first
 |done
 |omega
 |exact km _
 |simp only[gb,gc,ge];omega
 |(
  (try simp only[aR,ge]);omega))
  |(conv=>whnf
    first
     |with_reducible first|done|exact trivial|refine NilBr.mk (fun h=>?_) ?_|apply aL|apply aK|refine aM kr ?_|apply aN|apply bL|apply bK|apply aU
     |((with_reducible first|apply aW|apply aV|apply bH)<;>intro h<;>(try dsimp only[cu,eE,eN]at h)<;>(try(exfalso;omega)))))
 all_goals(
 with_reducible apply Leaf.mk
 (try dsimp only[cu,aC,aB,gts,eE,eN]at *)
 first
 |done
 |(rfl))
abbrev qW1:Tbl:=(62,VM)::qW0
theorem qRJ:aD Tryz.prog qW1:=aD.cons qZ6 ZT
abbrev MJ:Ct:=.bld false 5 106
theorem UX (b o:Nat) (w:World) (hc:w.cell? ⟨b,o+1,none⟩=some (.slice none 0 0)) :
  Calls Tryz.prog 72 #[.pointer (some ⟨b,o,none⟩)] w fun e w'=>e = .returned (.string ⟨#[]⟩)/\w'=w.drew:=by
 have hUS:∀W:World,(Builtin.unsafeString_ #[150,3] 9 #[.pointer none,.int .i64 0]).run Tryz.prog W = .ok (.string .empty) W:=fun W=>Lib.run_unsafeString_none W _ _ _ none
 have c1:w.drew.cell? ⟨b,o+1,none⟩=some (.slice none 0 0):=hc;have hSD:∀W:World,(Builtin.unsafeSliceData_ #[36] 150 #[.slice none 0 0]).run Tryz.prog W = .ok (.pointer none) W:=fun W=>rfl
 go_enter Tryz.func72,Tryz.ntmps72
 go_wp2
 go_region
 all_goals(go_wp2;go_ret;exact⟨rfl,rfl⟩)
theorem RQ (b o:Nat) (a:Addr) (n cap:Nat) (s:ByteArray) (w:World) (hc:w.cell? ⟨b,o+1,none⟩=some (.slice (some a) n cap)) (h0:cap≠0)
  (hUS:(Builtin.unsafeString_ #[150,3] 9 #[.pointer (some a),.int .i64 n]).run Tryz.prog w.drew = .ok (.string s) (w.drew.freeze a n)) :
  Calls Tryz.prog 72 #[.pointer (some ⟨b,o,none⟩)] w fun e w'=>e = .returned (.string s)/\w'=w.drew.freeze a n:=by
 have c1:w.drew.cell? ⟨b,o+1,none⟩=some (.slice (some a) n cap):=hc;have hSD:(Builtin.unsafeSliceData_ #[36] 150 #[.slice (some a) n cap]).run Tryz.prog w.drew = .ok (.pointer (some a)) w.drew:=Lib.run_unsafeSliceData_row _ _ _ _ _ _ h0;go_enter Tryz.func72,Tryz.ntmps72
 go_wp2
 go_region
 all_goals(go_wp2;go_ret;exact⟨rfl,rfl⟩)
theorem qSU:aH Tryz.prog 72 MJ:=qXS.mk (pt:=150) (it:=3) (ty:=9) kr kr UX RQ
abbrev qW2:Tbl:=(72,MJ)::qW1
theorem ZU:aD Tryz.prog qW2:=aD.cons qSU qRJ
def qOA (n:Int):ByteArray:=if n<10 then⟨#[UInt8.ofNat (48+n.toNat)]⟩else⟨#[49,UInt8.ofNat (38+n.toNat)]⟩
def KU:List ByteArray:=[⟨#[105,110,116]⟩,⟨#[98,111,111,108]⟩,⟨#[98,121,116,101,115]⟩,⟨#[100,97,116,101]⟩,⟨#[100,101,99,105,109,97,108]⟩]
def tw (t:Int):ByteArray:=⟨#[32]⟩++KU[(t-1).toNat]!
abbrev nlB:ByteArray:=⟨#[10]⟩
abbrev nuB:ByteArray:=⟨#[32,110,117,108,108]⟩
def scT (c:Col):ByteArray:=if c.2.1=5 then⟨#[32]⟩++qOA c.2.2.1 else⟨#[]⟩
def nuT (c:Col):ByteArray:=if c.2.2.2=true then nuB else⟨#[]⟩
def VV (c:Col):ByteArray:=c.1++tw c.2.1++scT c++nuT c++nlB
def uF:List Col->ByteArray
 | []=>⟨#[]⟩
 |c::l=>VV c++uF l
def qYV (s:Schema):ByteArray:=⟨#[107,101,121,32]⟩++s.1[s.2.toNat]!.1++nlB
def wI (s:Schema):ByteArray:=uF s.1++qYV s
def rT (s:Schema):ByteArray×Int:=if aS s≠0 then(⟨#[]⟩,aS s)else(wI s,0)
def idS (s:Schema):Int×Int:=if aS s≠0 then(0,aS s)else(pX (wI s),0)
theorem sR {l:List Col} {k:Int} (h:0<=k/\k<l.length):uF (l.drop k.toNat)=VV l[k.toNat]! ++uF (l.drop (k+1).toNat):=by
 rw[bQ l k h];rfl
theorem mW {s:Schema} (h:aS s=0) {k:Int} (hk:0<=k/\k<s.1.length):(1<=s.1[k.toNat]!.2.1/\s.1[k.toNat]!.2.1<=5)/\(0<=s.1[k.toNat]!.2.2.1/\s.1[k.toNat]!.2.2.1<=18)/\s.1[k.toNat]!.1.size<=16:=by
 have he:bV (dZ s.1) 0 s.1=0:=by
  unfold aS at h;split at h
  ·cases h
  split at h
  ·cases h
  split at h
  ·contradiction
  ·rename_i q;exact Decidable.not_not.1 q
 have h1:=rS he k hk;unfold dZ at h1;split at h1
 ·cases h1
 rename_i h2;split at h1
 ·cases h1
 split at h1
 ·cases h1
 rename_i h3;split at h1
 ·cases h1
 rename_i h4;simp only[Bool.not_eq_false]at h2 h3 h4;simp only[oD,gk,decide_eq_true_eq]at h2;simp only[bJ,gk,decide_eq_true_eq]at h3;simp only[gX,gk,decide_eq_true_eq]at h4;omega
theorem qa3 {t:Int} (h:1<=t/\t<=5):t=1\/t=2\/t=3\/t=4\/t=5:=om
theorem qd3 {t:Int} (h:1<=t/\t<=5):(tw t).size<=8:=by
 rcases qa3 h with rfl|rfl|rfl|rfl|rfl<;>decide
theorem qXO {t:Int} (h:1<=t/\t<=5):(KU[(t-1).toNat]!).size<=7:=by
 rcases qa3 h with rfl|rfl|rfl|rfl|rfl<;>decide
theorem SH (n:Int):(qOA n).size<=2:=by
 unfold qOA;split
 ·show 1<=2;decide
 ·show 2<=2;decide
theorem qZS (c:Col):(scT c).size<=3:=by
 unfold scT;split
 ·rw[gg];have:=SH c.2.2.1;have e:(⟨#[32]⟩:ByteArray).size=1:=rfl;omega
 ·exact kw _
theorem qY8 (c:Col):(nuT c).size<=5:=by unfold nuT;split<;>decide
theorem qSY {c:Col} (h:1<=c.2.1/\c.2.1<=5) (hn:c.1.size<=16):(VV c).size<=33:=by
 have h1:=qd3 h;have h2:=qZS c;have h3:=qY8 c;have e:nlB.size=1:=rfl;simp only[VV,gg];omega
theorem zN (a:ByteArray):(⟨#[]⟩:ByteArray)++a=a:=ko
theorem EW (a:ByteArray):a++⟨#[]⟩=a:=ByteArray.append_empty
theorem VW:∀(l:List Col),(∀c,c∈l->(1<=c.2.1/\c.2.1<=5)/\c.1.size<=16)->(uF l).size<=33*l.length
 | [],_=>kw _
 |c::l,h=>by
  have h1:=h c (kb ..);have h2:=qSY h1.1 h1.2;have h3:=VW l fun x hx=>h x (kx _ hx)
  rw[uF,gg,gc];omega
theorem qYG {s:Schema} (h:aS s=0):(wI s).size<=1000:=by
 have q0:=bI h;have h1:=VW s.1 fun c hc=>by
  obtain⟨i,hi,rfl⟩:=ky.1 hc;have:=mW h (k:=(i:Int)) ⟨om,om⟩;rw[Int.toNat_natCast,getElem!_pos s.1 i hi]at this;exact⟨this.1,this.2.2⟩
 have h2:=mW h (k:=s.2) q0.2;have u1:(⟨#[107,101,121,32]⟩:ByteArray).size=4:=rfl;have u2:nlB.size=1:=rfl;unfold wI qYV;simp only[gg];omega
theorem qTS {s:Schema}:(rT s).1.size<=1000:=by
 unfold rT;split
 ·exact kw _
 ·rename_i h;exact qYG (Decidable.not_not.1 h)
theorem qeE {s:Schema} (h:(rT s).2=0):idS s=(LR oB (rT s).1,0):=by
 unfold rT idS at *;by_cases q:aS s≠0
 ·rw[if_pos q]at h;exact absurd h q
 ·rw[if_neg q,if_neg q];rfl
theorem qeF {s:Schema} (h:¬(rT s).2=0):idS s=(0,(rT s).2):=by
 unfold rT idS at *;by_cases q:aS s≠0
 ·rw[if_pos q,if_pos q]
 ·rw[if_neg q]at h;exact absurd rfl h
def ET (s p:ByteArray):Bool:=decide (p.size<=s.size)&&decide (s.extract 0 p.size=p)
def EU (s p:ByteArray):Bool:=decide (p.size<=s.size)&&decide (s.extract (s.size-p.size) s.size=p)
abbrev VG:Ct:=.fn [.str,.str] (some (fun(s:ByteArray) (p:ByteArray)=>(s.size<=4611686018427387904/\p.size<=4611686018427387904))) (fun(s:ByteArray) (p:ByteArray)=>.d .bool (ET s p))
theorem qZH:aH Tryz.prog 89 VG:=by
 refine aH.fn ZU mixed [] [124] rfl rfl ?_;rintro⟨(s:ByteArray),(p:ByteArray),_⟩ hpre;replace hpre:=hpre _ rfl;dsimp only[cu]at hpre;have hs:=hpre;refine⟨[],?_⟩;repeat' (first
  |(
 with_reducible apply Side.mk
 (try dsimp only[cu,aC,aB,gts,loK,hiK,eE,eN])
 first
 |done
 |with_reducible rfl
 |omega
 |exact km _
 |(simp only[gb,gc,ge];omega))
  |(conv=>whnf
    first
     |with_reducible first|done|exact trivial|refine NilBr.mk (fun h=>?_) ?_|apply aL|apply aK|refine aM kr ?_|apply aN|apply bL|apply bK|apply aU
     |((with_reducible first|apply aW|apply aV|apply bH)<;>intro h<;>(try dsimp only[cu,eE,eN]at h)<;>(try(exfalso;omega)))))
 all_goals(
 with_reducible apply Leaf.mk
 (try dsimp only[cu,aC,aB,gts,eE,eN]at *)
 first
 |done
 |rfl
 |(grind [ET]))
abbrev qW3:Tbl:=(89,VG)::qW2
theorem ZW:aD Tryz.prog qW3:=aD.cons qZH ZU
abbrev VK:Ct:=.fn [.str,.str] (some (fun(s:ByteArray) (p:ByteArray)=>(s.size<=4611686018427387904/\p.size<=4611686018427387904))) (fun(s:ByteArray) (p:ByteArray)=>.d .bool (EU s p))
theorem qZX:aH Tryz.prog 90 VK:=by
 refine aH.fn ZW mixed [] [125] rfl rfl ?_;rintro⟨(s:ByteArray),(p:ByteArray),_⟩ hpre;replace hpre:=hpre _ rfl;dsimp only[cu]at hpre;have hs:=hpre;refine⟨[],?_⟩;repeat' (first
  |(
 with_reducible apply Side.mk
 (try dsimp only[cu,aC,aB,gts,loK,hiK,eE,eN])
 first
 |done
 |with_reducible rfl
 |omega
 |exact km _
 |(simp only[gb,gc,ge];omega))
  |(conv=>whnf
    first
     |with_reducible first|done|exact trivial|refine NilBr.mk (fun h=>?_) ?_|apply aL|apply aK|refine aM kr ?_|apply aN|apply bL|apply bK|apply aU
     |((with_reducible first|apply aW|apply aV|apply bH)<;>intro h<;>(try dsimp only[cu,eE,eN]at h)<;>(try(exfalso;omega)))))
 all_goals(
 with_reducible apply Leaf.mk
 (try dsimp only[cu,aC,aB,gts,eE,eN]at *)
 first
 |done
 |rfl
 |(grind [EU]))
abbrev qW4:Tbl:=(90,VK)::qW3
theorem ZX:aD Tryz.prog qW4:=aD.cons qZX ZW
abbrev MY:Ct:=.fn [.int .i64] (some (fun(n:Int)=>(0<=n/\n<=18))) (fun(n:Int)=>.d .str (qOA n))
theorem qT7:aH Tryz.prog 146 MY:=by
 refine aH.fn ZX mixed [] [175,199,216] rfl rfl ?_;rintro⟨(n:Int),_⟩ hpre;replace hpre:=hpre _ rfl;dsimp only[cu]at hpre;have hn:=hpre;refine⟨[],?_⟩;repeat' (first
  |(
 with_reducible apply Side.mk
 (try dsimp only[cu,aC,aB,gts,loK,hiK,eE,eN])
 first
 |omega
 |(
  show _<=((36:Nat):Int);omega)
 |(
  show _<=((200:Nat):Int);omega))
  |(conv=>whnf
    first
     |with_reducible first|done|exact trivial|refine NilBr.mk (fun h=>?_) ?_|apply aL|apply aK|refine aM kr ?_|apply aN|apply bL|apply bK|apply aU
     |((with_reducible first|apply aW|apply aV|apply bH)<;>intro h<;>(try dsimp only[cu,eE,eN]at h)<;>(try(exfalso;omega)))))
 all_goals(
 with_reducible apply Leaf.mk
 (try dsimp only[cu,aC,aB,gts,eE,eN]at *)
 (rcases(show n=0\/n=1\/n=2\/n=3\/n=4\/n=5\/n=6\/n=7\/n=8\/n=9\/n=10\/n=11\/n=12\/n=13\/n=14\/n=15\/n=16\/n=17\/n=18 by omega)with rfl|rfl|rfl|rfl|rfl|rfl|rfl|rfl|rfl|rfl|rfl|rfl|rfl|rfl|rfl|rfl|rfl|rfl|rfl<;>first|(exfalso;omega)|decide))
abbrev qW5:Tbl:=(146,MY)::qW4
theorem ZY:aD Tryz.prog qW5:=aD.cons qT7 ZX
abbrev HU:Ct:=.fn [] (none) (.d (.list .str) KU)
theorem qRZ:aH Tryz.prog 145 HU:=by
 refine aH.fn ZY mixed [] [] rfl rfl ?_;rintro⟨⟩ -;refine⟨[],?_⟩;repeat' (first
  |(
 with_reducible apply Side.mk
 (try dsimp only[cu,aC,aB,gts,loK,hiK,eE,eN])
 exact km _)
  |(conv=>whnf
    first
     |with_reducible first|done|exact trivial|refine NilBr.mk (fun h=>?_) ?_|apply aL|apply aK|refine aM kr ?_|apply aN|apply bL|apply bK|apply aU
     |((with_reducible first|apply aW|apply aV|apply bH)<;>intro h<;>(try dsimp only[cu,eE,eN]at h)<;>(try(exfalso;omega)))))
 all_goals(
 with_reducible apply Leaf.mk
 (try dsimp only[cu,aC,aB,gts,eE,eN]at *)
 rfl)
abbrev qW6:Tbl:=(145,HU)::qW5
theorem ZZ:aD Tryz.prog qW6:=aD.cons qRZ ZY
abbrev MV:Ct:=.fn [cX] (none) (fun(s:Schema)=>.tup [.str,.int .i64] ((rT s).1,(rT s).2,()))
theorem qTR:aH Tryz.prog 106 MV:=by
 refine aH.fn ZZ mixed [] [] rfl rfl ?_;rintro⟨(s:Schema),_⟩ -;refine⟨[(0,12,LA.mk [.sl 16 (.int .i64),.row 1 [.osf 1,.own (.int .u8) (⟨5,1⟩:El)]] (fun y=>Tag 63/\cu [.int .i64,.bool,.list (.int .u8)] (fun(k:Int) (b0:Bool) (B:List Int)=>(0<=k/\k<=s.1.length)/\(uF s.1=aT B++uF (s.1.drop k.toNat))/\((B.length:Int)<=33*k)) y) (cu [.int .i64,.bool,.list (.int .u8)] (fun(k:Int) (b0:Bool) (B:List Int)=>((s.1.length:Int)-k).toNat)) (cu [.int .i64,.bool,.list (.int .u8)] (fun(k:Int) (b0:Bool) (B:List Int)=>([]:List (Nat×Nat×LA)))))],?_⟩;repeat' (first
  |(
 with_reducible refine Side.mk ⟨(⟨⟩:Tag 63),?_⟩
 dsimp only[cu,aC,aB,gts,eE,eN]
 refine⟨?_,?_,?_⟩
 ·omega
 ·first
  |(
  show uF s.1=ByteArray.empty++uF s.1
  rw[ko])
  |(
  have t1:scT s.1[k.toNat]! =⟨#[32]⟩++qOA s.1[k.toNat]!.2.2.1:=if_pos wa
  first
  |(
   have t2:nuT s.1[k.toNat]! =nuB:=if_pos wa;rw[hB,sR om,VV,t1,t2,tw];simp only[cR,bP,gh,zN];done)
  |(
   have t2:nuT s.1[k.toNat]! =⟨#[]⟩:=if_neg (by rw[show s.1[k.toNat]!.2.2.2=false by with_reducible assumption];exact kg);rw[hB,sR om,VV,t1,t2,tw];simp only[cR,bP,gh,zN];done))
  |(
  have t1:scT s.1[k.toNat]! =⟨#[]⟩:=if_neg wa
  first
  |(
   have t2:nuT s.1[k.toNat]! =nuB:=if_pos wa;rw[hB,sR om,VV,t1,t2,tw];simp only[cR,bP,gh,zN];done)
  |(
   have t2:nuT s.1[k.toNat]! =⟨#[]⟩:=if_neg (by rw[show s.1[k.toNat]!.2.2.2=false by with_reducible assumption];exact kg);rw[hB,sR om,VV,t1,t2,tw];simp only[cR,bP,gh,zN];done))
 ·first
  |exact kd _
  |(
  have kk:0<=k/\k<s.1.length:=om
  have qq:=mW (s:=s) wa kk
  obtain⟨q1,q2,q3⟩:=qq
  have z1:=qXO q1
  have z2:=SH s.1[k.toNat]!.2.2.1
  have u1:(⟨#[32]⟩:ByteArray).size=1:=rfl
  have u2:(⟨#[10]⟩:ByteArray).size=1:=rfl
  have u3:(⟨#[32,110,117,108,108]⟩:ByteArray).size=5:=rfl
  have u5:KU.length=5:=rfl
  have v0:(⟨#[32,105,110,116]⟩:ByteArray).size=4:=rfl
  have v1:(⟨#[32,98,111,111,108]⟩:ByteArray).size=5:=rfl
  have v2:(⟨#[32,98,121,116,101,115]⟩:ByteArray).size=6:=rfl
  have v3:(⟨#[32,100,97,116,101]⟩:ByteArray).size=5:=rfl
  have v4:(⟨#[32,100,101,99,105,109,97,108,32]⟩:ByteArray).size=9:=rfl
  have q0:=bI (s:=s) wa
  simp only[gb,aR,gg]
  omega))
  |(
 with_reducible apply Side.mk
 (try dsimp only[cu,aC,aB,gts,loK,hiK,eE,eN])
 first
 |done
 |omega
 |exact km _
 |(
  show _/\_;have kk:0<=k/\k<s.1.length:=om
  have qq:=mW (s:=s) wa kk;obtain⟨q1,q2,q3⟩:=qq;omega)
 |(
  have kk:0<=k/\k<s.1.length:=om
  have qq:=mW (s:=s) wa kk;obtain⟨q1,q2,q3⟩:=qq;have z1:=qXO q1;have z2:=SH s.1[k.toNat]!.2.2.1;have u1:(⟨#[32]⟩:ByteArray).size=1:=rfl;have u2:(⟨#[10]⟩:ByteArray).size=1:=rfl;have u3:(⟨#[32,110,117,108,108]⟩:ByteArray).size=5:=rfl;have u5:KU.length=5:=rfl;have v0:(⟨#[32,105,110,116]⟩:ByteArray).size=4:=rfl;have v1:(⟨#[32,98,111,111,108]⟩:ByteArray).size=5:=rfl;have v2:(⟨#[32,98,121,116,101,115]⟩:ByteArray).size=6:=rfl;have v3:(⟨#[32,100,97,116,101]⟩:ByteArray).size=5:=rfl;have v4:(⟨#[32,100,101,99,105,109,97,108,32]⟩:ByteArray).size=9:=rfl;have q0:=bI (s:=s) wa;have w1:=q1.1;have w2:=q1.2;(try simp only[gb,aR,gg]);omega)
 |(
  have q0:=bI (s:=s) wa;have kk:0<=s.2/\s.2<s.1.length:=om
  have qq:=mW (s:=s) wa kk;obtain⟨q1,q2,q3⟩:=qq;have u1:(⟨#[107,101,121,32]⟩:ByteArray).size=4:=rfl;have u2:(⟨#[10]⟩:ByteArray).size=1:=rfl;(try simp only[gb,aR,gg]);omega))
  |(conv=>whnf
    first
     |with_reducible first|done|exact trivial|refine NilBr.mk (fun h=>?_) ?_|apply aL|apply aK|refine aM kr ?_|apply aN|apply bL|apply bK|apply aU
     |((with_reducible first|apply aW|apply aV|apply bH)<;>intro h<;>(try dsimp only[cu,eE,eN]at h)<;>(try(exfalso;omega)))
     |(
 intro yy (hy:Tag 63/\_)
 obtain⟨(k:Int),(b0:Bool),(B:List Int),_⟩:=yy
 replace hy:=hy.2
 dsimp only[cu,aC,aB,gts,eE,eN]at hy
 obtain⟨hk,hB,hz⟩:=hy
 rcases b0 with _|_)))
 all_goals(
 with_reducible apply Leaf.mk
 (try dsimp only[cu,aC,aB,gts,eE,eN]at *)
 first
 |rw[rT,if_pos wa]
 |(
  have hk2:k=s.1.length:=om
  have hd:s.1.drop k.toNat= []:=gw om;rw[hd]at hB;have hB2:uF []=(⟨#[]⟩:ByteArray):=rfl;rw[hB2,EW]at hB;rw[rT,if_neg (fun q=>q wa),wI,qYV,hB];simp only[cR,bP,gh,zN];done)
 |(rw[rT,if_neg (fun q=>q wa)]))
abbrev qW7:Tbl:=(106,MV)::qW6
theorem qAA:aD Tryz.prog qW7:=aD.cons qTR ZZ
abbrev qD9:Ct:=.fn [cX] (none) (fun(s:Schema)=>.tup [.int .u32,.int .i64] ((idS s).1,(idS s).2,()))
theorem qaY:aH Tryz.prog 61 qD9:=by
 refine aH.fn qAA mixed [] [] rfl rfl ?_;rintro⟨(s:Schema),_⟩ -;refine⟨[],?_⟩;repeat' (first
  |(
 with_reducible apply Side.mk
 (try dsimp only[cu,aC,aB,gts,loK,hiK,eE,eN])
 (
  have hfs:=qTS (s:=s);omega))
  |(conv=>whnf
    first
     |with_reducible first|done|exact trivial|refine NilBr.mk (fun h=>?_) ?_|apply aL|apply aK|refine aM kr ?_|apply aN|apply bL|apply bK|apply aU
     |((with_reducible first|apply aW|apply aV|apply bH)<;>intro h<;>(try dsimp only[cu,eE,eN]at h)<;>(try(exfalso;omega)))))
 all_goals(
 with_reducible apply Leaf.mk
 (try dsimp only[cu,aC,aB,gts,eE,eN]at *)
 first
 |(
  rw[qeE wa];first|done|rfl)
 |(rw[qeF wa]))
abbrev qW8:Tbl:=(61,qD9)::qW7
theorem qAB:aD Tryz.prog qW8:=aD.cons qaY qAA
abbrev qeJ:Ty:=.pair ZM (.pair (.list (.int .i64)) (.int .i64))
abbrev Ftr:Type:=Info×(List Int)×Int
@[reducible] instance:Inhabited Ftr:=instInhabitedDen qeJ
abbrev lD:ByteArray:=⟨#[77,80,84,49]⟩
abbrev iW:Info:=(0,[],qN,qN)
abbrev BS (s:Schema):Col:=s.1[s.2.toNat]!
def nmF (m:Int):Nat->List Int->Int->Fr->List Int×Int×Fr
 |0,l,d,r=>(l,d,r)
 |n+1,l,d,r=>nmF m n (l++ [(iQ r m).1]) (d-(iQ r m).1) (iQ r m).2
def znF (rows:Int):List Col->List Zone->Fr->List Zone×Fr
 | [],z,r=>(z,r)
 |c::l,z,r=>znF rows l (z++ [(tV r c rows).1]) (tV r c rows).2
def pP3 (s:Schema) (n:Int) (rows:Int) (B:List Int×Int×Fr) (Z:List Zone) (lo hi:Rank×Fr):Info×List Int×Int:=
 if hi.2.2.2=true\/hi.2.2.1<n\/rows<1\/B.2.1≠0\/eC (BS s).2.1 lo.1 hi.1>0 then(iW,[],2)else((rows,Z,lo.1,hi.1),B.1,0)
def pP2 (s:Schema) (n:Int) (rows:Int) (B:List Int×Int×Fr) (Z:List Zone×Fr):Info×List Int×Int:=pP3 s n rows B Z.1 (oN Z.2 (BS s)) (oN (oN Z.2 (BS s)).2 (BS s))
def pP1 (s:Schema) (n:Int) (rows:Int) (B:List Int×Int×Fr):Info×List Int×Int:=pP2 s n rows B (znF rows s.1 [] B.2.2)
def pP0 (s:Schema) (n m d:Int) (A:Int×Fr):Info×List Int×Int:=pP1 s n A.1 (nmF m (s.1.length+1) [] d A.2)
def zQ (s:Schema) (t:ByteArray) (m d:Int):Info×List Int×Int:=pP0 s t.size m d (iQ (t,0,false) 1024)
def pY (s:Schema) (file f:ByteArray) (k:Int):Info×List Int×Int:=
 if pX f≠dS file (file.size-12)then(iW,[],9)else if dS f 0≠pX (wI s)then(iW,[],1)else zQ s (f.extract 4 f.size) file.size (file.size-12-k)
def OO (s:Schema) (file:ByteArray) (k:Int):Info×List Int×Int:=
 if k>file.size-12 then(iW,[],10)else if ET file lD=false\/EU file lD=false\/k<8 then(iW,[],2)else pY s file (file.extract (file.size-8-k).toNat (file.size-12)) k
def bE (s:Schema) (file:ByteArray):Info×List Int×Int:=
 if aS s≠0 then(iW,[],aS s)else if file.size<12 then(iW,[],10)else OO s file (dS file (file.size-8))
def offs (l:List Int):List Int:=(List.range (l.length+1)).map fun i=>4+fU (l.take i)
def rfN (f:ByteArray) (b:Int):Nat->List Int->Int->List Int×Int×Bool
 |0,F,a=>(F,a,true)
 |n+1,F,a=>if(aA f a).2.2≠0\/(aA f a).1>b then(F,a,false)else rfN f b n (F++ [F[F.length-1]! +(aA f a).1]) (aA f a).2.1
def rzN (f:ByteArray) (rows:Int):List Col->List Zone->Int->List Zone×Int×Bool
 | [],z,a=>(z,a,true)
 |c::l,z,a=>if(gG f a).2.2≠0\/lU c (gG f a).1=false\/(gG f a).1.1≠rows then(z,a,false)else rzN f rows l (z++ [(gG f a).1]) (gG f a).2.1
def rP4 (s:Schema) (f:ByteArray) (st rows:Int) (F:List Int) (Z:List Zone) (lo hi:Rank×Int×Bool):Ftr×Bool:=
 if hi.2.2=false\/hi.2.1≠f.size\/eC (BS s).2.1 lo.1 hi.1>0 then(((rows,Z,qN,qN),F,st),false)else(((rows,Z,lo.1,hi.1),F,st),true)
def rP3 (s:Schema) (f:ByteArray) (st rows:Int) (F:List Int) (Z:List Zone) (lo:Rank×Int×Bool):Ftr×Bool:=
 if lo.2.2=false then(((rows,Z,qN,qN),F,st),false)else rP4 s f st rows F Z lo (kN s f lo.2.1)
def rP2 (s:Schema) (f:ByteArray) (st rows:Int) (F:List Int) (Z:List Zone×Int×Bool):Ftr×Bool:=
 if Z.2.2=false then(((rows,Z.1,qN,qN),F,st),false)else rP3 s f st rows F Z.1 (kN s f Z.2.1)
def rP1 (s:Schema) (f:ByteArray) (st rows:Int) (B:List Int×Int×Bool):Ftr×Bool:=
 if B.2.2=false\/B.1[B.1.length-1]! ≠st then(((rows,[],qN,qN),B.1,st),false)else rP2 s f st rows B.1 (rzN f rows s.1 [] B.2.1)
def tS (s:Schema) (f:ByteArray) (st:Int):Ftr×Bool:=
 if(aA f 4).2.2≠0\/(aA f 4).1<1\/(aA f 4).1>1024 then((iW,[4],st),false)else rP1 s f st (aA f 4).1 (rfN f st (s.1.length+1) [4] (aA f 4).2.1)
abbrev qDZ:Ftr:=(iW,[],0)
def XN (s:Schema) (file f:ByteArray) (k:Int):Ftr×Int:=
 if pX f≠dS file (file.size-12)then(qDZ,9)else if dS f 0≠pX (wI s)then(qDZ,1)else if(tS s f (file.size-8-k)).2=false then(qDZ,2)else((tS s f (file.size-8-k)).1,0)
def qWS (s:Schema) (file:ByteArray) (k:Int):Ftr×Int:=
 if k>file.size-12 then(qDZ,10)else if ET file lD=false\/EU file lD=false\/k<8 then(qDZ,2)else XN s file (file.extract (file.size-8-k).toNat (file.size-12)) k
def qFF (s:Schema) (file:ByteArray):Ftr×Int:=
 if aS s≠0 then(qDZ,aS s)else if file.size<12 then(qDZ,10)else qWS s file (dS file (file.size-8))
def shK {α:Type} (k:Int) (x:α×Int×Int):α×Int×Int:=(x.1,if x.2.2=0 then x.2.1-k else 0,x.2.2)
theorem XB (s:ByteArray) (a b:Nat):aE (s.extract a b)=((aE s).drop a).take (b-a):=by
 unfold aE;simp [List.map_take,List.map_drop,List.take_drop]
theorem mD {f:ByteArray} {k e i:Nat} (h:k+i<e) (he:e<=f.size):aG (f.extract k e) i=aG f (k+i):=by
 rw[<-hE,<-hE,XB,ht,ht,List.getElem?_take,if_pos om,List.getElem?_drop]
theorem SM {f:ByteArray} {k:Nat} (h:k<=f.size):(f.extract k f.size).size=f.size-k:=by rw[gy];omega
theorem WT {f:ByteArray} {k:Nat} (hk:k<=f.size) {a:Int} (ha:0<=a):∀(n:Nat) (j v:Int),0<=j->jR (f.extract k f.size) a n j v=shK k (jR f (a+k) n j v)
 |0,j,v,_=>by rw[jR,jR];rfl
 |n+1,j,v,hj=>by
  rw[jR,jR,SM hk];by_cases h1:j>=(f.size:Int)-(a+k)
  ·rw[if_pos (show j>=((f.size-k:Nat):Int)-a by omega),if_pos h1];rfl
  ·rw[if_neg (show ¬j>=((f.size-k:Nat):Int)-a by omega),if_neg h1]
   have hb:aG (f.extract k f.size) (a+j).toNat=aG f (a+k+j).toNat:=by
    rw[mD om (gq _)];congr 1;omega
   rw[hb,WT hk ha n (j+1) _ om];split
   ·rfl
   ·split
    ·rfl
    ·split
     ·rfl
     ·simp only[shK,if_true,Prod.mk.injEq,true_and,and_true];omega
theorem zE {f:ByteArray} {k:Nat} (hk:k<=f.size) {a:Int} (ha:0<=a):aA (f.extract k f.size) a=shK k (aA f (a+k)):=by
 unfold aA;rw[SM hk];by_cases h:a+k>f.size
 ·rw[if_pos (.inr om),if_pos (.inr h)];rfl
 ·rw[if_neg om,if_neg om,WT hk ha 10 0 0 om]
theorem qTH {f:ByteArray} {k a b:Nat} (hk:k<=f.size) (hb:k+b<=f.size):(f.extract k f.size).extract a b=f.extract (k+a) (k+b):=by
 rw[ByteArray.extract_extract];congr 1;omega
theorem vA {α:Type} {k:Int} {x:α×Int×Int} (h:x.2.2=0):shK k x=(x.1,x.2.1-k,0):=by
 rw[shK,if_pos h,h]
theorem tU {α:Type} {k:Int} {x:α×Int×Int} (h:x.2.2≠0):shK k x=(x.1,0,x.2.2):=by
 rw[shK,if_neg h]
theorem ST {f:ByteArray} {k:Nat} (hk:k<=f.size) {a:Int} (ha:0<=a):dT (f.extract k f.size) a=shK k (dT f (a+k)):=by
 unfold dT;rw[SM hk];by_cases h1:a+k>f.size
 ·rw[if_pos (.inr om),if_pos (.inr h1)];rfl
 rw[if_neg (show ¬(a<0\/a>((f.size-k:Nat):Int))by omega),if_neg (show ¬(a+k<0\/a+k>(f.size:Int))by omega)];by_cases h2:a+k=f.size
 ·rw[if_pos om,if_pos h2];rfl
 rw[if_neg (show ¬a=((f.size-k:Nat):Int)by omega),if_neg h2];have hb:aG (f.extract k f.size) a.toNat=aG f (a+k).toNat:=by
  rw[mD om (gq _)];congr 1;omega
 rw[hb,zE hk (a:=a+1) om,show a+1+(k:Int)=a+k+1 by omega];by_cases h3:aG f (a+k).toNat>1
 ·rw[if_pos h3,if_pos h3];rfl
 rw[if_neg h3,if_neg h3];by_cases h4:aG f (a+k).toNat=0
 ·rw[if_pos h4,if_pos h4];simp only[shK,if_true,Prod.mk.injEq,true_and,and_true];omega
 rw[if_neg h4,if_neg h4];by_cases h5:(aA f (a+k+1)).2.2≠0
 ·rw[tU h5,if_pos h5,if_pos h5,tU (by exact h5)]
 have h5:=Decidable.not_not.1 h5;have o1:=bT h5;rw[vA h5];simp only[h5,ne_eq,not_true_eq_false,if_false];rw[zE hk (a:=(aA f (a+k+1)).2.1-k) om,show(aA f (a+k+1)).2.1-(k:Int)+k=(aA f (a+k+1)).2.1 by omega];by_cases h6:(aA f (aA f (a+k+1)).2.1).2.2≠0
 ·rw[tU h6,if_pos h6,if_pos h6,tU (by exact h6)]
 have h6:=Decidable.not_not.1 h6;have o2:=bT h6;have g2:=bA f (aA f (a+k+1)).2.1;rw[vA h6];simp only[h6,ne_eq,not_true_eq_false,if_false];by_cases h7:(aA f (aA f (a+k+1)).2.1).1>f.size-(aA f (aA f (a+k+1)).2.1).2.1
 ·rw[if_pos om,if_pos h7];rfl
 rw[if_neg om,if_neg h7,qTH hk om,vA rfl];refine gm (gm rfl (gm rfl ?_)) (gm ?_ rfl)
 ·show f.extract _ _=f.extract _ _
  congr 1<;>omega
 ·dsimp only;omega
theorem FG {s:ByteArray} {a:Int} (h:(dT s a).2.2=0):0<=a/\a<(dT s a).2.1/\(dT s a).2.1<=s.size:=by
 unfold dT at h ⊢;split at h
 ·cases h
 rename_i h1;split at h
 ·cases h
 rename_i h2;split at h
 ·cases h
 rename_i h3;rw[if_neg h1,if_neg h2,if_neg h3];split at h
 ·rename_i h4
  rw[if_pos h4];show 0<=a/\a<a+1/\a+1<=s.size;omega
 rename_i h4;split at h
 ·rename_i h5;exact absurd h h5
 rename_i h5;split at h
 ·rename_i h6;exact absurd h h6
 rename_i h6;split at h
 ·cases h
 rename_i h7;rw[if_neg h4,if_neg h5,if_neg h6,if_neg h7];have o1:=bT (Decidable.not_not.1 h5);have o2:=bT (Decidable.not_not.1 h6);have g2:=bA s (aA s (a+1)).2.1;show 0<=a/\a<_+_/\_+_<=(s.size:Int);omega
theorem qT1 {f:ByteArray} {k:Nat} (hk:k<=f.size) {a:Int} (ha:0<=a):gG (f.extract k f.size) a=shK k (gG f (a+k)):=by
 unfold gG;rw[zE hk ha];by_cases h1:(aA f (a+k)).2.2≠0
 ·rw[tU h1,if_pos h1,if_pos h1,tU (by exact h1)]
 have h1:=Decidable.not_not.1 h1;have o1:=bT h1;rw[vA h1];simp only[h1,ne_eq,not_true_eq_false,if_false];by_cases h2:(aA f (a+k)).1>4096
 ·rw[if_pos h2,if_pos h2];rfl
 rw[if_neg h2,if_neg h2,zE hk (a:=(aA f (a+k)).2.1-k) om,show(aA f (a+k)).2.1-(k:Int)+k=(aA f (a+k)).2.1 by omega];by_cases h3:(aA f (aA f (a+k)).2.1).2.2≠0
 ·rw[tU h3,if_pos h3,if_pos h3,tU (by exact h3)]
 have h3:=Decidable.not_not.1 h3;have o3:=bT h3;rw[vA h3];simp only[h3,ne_eq,not_true_eq_false,if_false];by_cases h4:(aA f (aA f (a+k)).2.1).1>4096
 ·rw[if_pos h4,if_pos h4];rfl
 rw[if_neg h4,if_neg h4];generalize hp:(aA f (aA f (a+k)).2.1).2.1=p at *;rw[ST hk (a:=p-k) om,show p-(k:Int)+k=p by omega];by_cases h5:(dT f p).2.2≠0
 ·rw[tU h5,if_pos h5,if_pos h5,tU (by exact h5)]
 have h5:=Decidable.not_not.1 h5;have o5:=FG h5;rw[vA h5];simp only[h5,ne_eq,not_true_eq_false,if_false];rw[ST hk (a:=(dT f p).2.1-k) om,show(dT f p).2.1-(k:Int)+k=(dT f p).2.1 by omega];by_cases h6:(dT f (dT f p).2.1).2.2≠0
 ·rw[tU h6,if_pos h6,if_pos h6,tU (by exact h6)]
 have h6:=Decidable.not_not.1 h6;rw[vA h6];simp only[h6,ne_eq,not_true_eq_false,if_false];rw[vA rfl]
theorem qT0 {s:ByteArray} {a:Int} (h:(gG s a).2.2=0):0<=a/\a<(gG s a).2.1/\(gG s a).2.1<=s.size:=by
 unfold gG at h ⊢;split at h
 ·rename_i q;exact absurd h q
 rename_i h1;split at h
 ·cases h
 rename_i h2;split at h
 ·rename_i q;exact absurd h q
 rename_i h3;split at h
 ·cases h
 rename_i h4;split at h
 ·rename_i q;exact absurd h q
 rename_i h5;split at h
 ·rename_i q;exact absurd h q
 rename_i h6;rw[if_neg h1,if_neg h2,if_neg h3,if_neg h4,if_neg h5,if_neg h6];have o1:=bT (Decidable.not_not.1 h1);have o3:=bT (Decidable.not_not.1 h3);have o5:=FG (Decidable.not_not.1 h5);have o6:=FG (Decidable.not_not.1 h6);show 0<=a/\a<(dT s _).2.1/\(dT s _).2.1<=(s.size:Int);omega
theorem qPQ {r:Fr} {m:Int} (h:r.2.2=true):iQ r m=(0,r):=by
 obtain⟨t,a,b⟩:=r;simp only at h;subst h;rw[iQ,if_pos (.inl rfl)]
theorem CC {r:Fr} {c:Col} (h:r.2.2=true):oN r c=(qN,r):=by
 obtain⟨t,a,b⟩:=r;simp only at h;subst h;rw[oN,if_pos (.inl rfl)]
theorem qMG {r:Fr} {c:Col} {rows:Int} (h:r.2.2=true):(tV r c rows).2.2.2=true:=by
 show(r.2.2||_)=true;rw[h,Bool.true_or]
theorem TC {m:Int}:∀(n:Nat) (l:List Int) (d:Int) (r:Fr),r.2.2=true->(nmF m n l d r).2.2.2.2=true
 |0,_,_,_,h=>h
 |n+1,l,d,r,h=>by rw[nmF,qPQ h];exact TC n _ _ _ h
theorem UH {rows:Int}:∀(cs:List Col) (z:List Zone) (r:Fr),r.2.2=true->(znF rows cs z r).2.2.2=true
 | [],_,_,h=>h
 |c::cs,z,r,h=>by rw[znF];exact UH cs _ _ (qMG h)
theorem TF (r:Fr) (m:Int):0<=(iQ r m).1:=by
 unfold iQ;split
 ·exact kd _
 ·exact(bA _ _).1
theorem qPN {m:Int}:∀(n:Nat) (l:List Int) (d:Int) (r:Fr),(nmF m n l d r).2.1<=d
 |0,_,_,_=>kd _
 |n+1,l,d,r=>by
  rw[nmF];have h1:=qPN (m:=m) n (l++ [(iQ r m).1]) (d-(iQ r m).1) (iQ r m).2;have h2:=TF r m;omega
theorem TE {f:ByteArray} (hk:4<=f.size) {a m:Int} (ha:0<=a):iQ (f.extract 4 f.size,a,false) m=if(aA f (a+4)).2.2≠0\/(aA f (a+4)).1>m then(0,(f.extract 4 f.size,a,true))else((aA f (a+4)).1,(f.extract 4 f.size,(aA f (a+4)).2.1-4,false)):=by
 unfold iQ;simp only;rw[zE hk ha];show(if(false=true\/(shK 4 (aA f (a+4))).2.2≠0\/(shK 4 (aA f (a+4))).1>m)then _ else _)=_;by_cases h:(aA f (a+4)).2.2≠0\/(aA f (a+4)).1>m
 ·rw[if_pos h,if_pos (.inr h)]
 ·rw[if_neg h,if_neg (by rintro(q|q);cases q;exact h q)]
  show((aA f (a+4)).1,_,(shK 4 (aA f (a+4))).2.1,false)=_;rw[vA (Decidable.not_not.1 fun q=>h (.inl q))]
theorem ZK (l:List Int) (v:Int):fU (l++ [v])=fU l+v:=by
 induction l with
 |nil=>simp [fU]
 |cons x l ih=>simp only[fU,kh,hu]at ih ⊢;omega
theorem XL (l:List Int):(offs l).length=l.length+1:=by simp [offs]
theorem TH {l:List Int} {i:Nat} (h:i<=l.length):(offs l)[i]! =4+fU (l.take i):=by
 rw[getElem!_pos _ i (by rw[XL];omega)];simp [offs]
theorem vT (l:List Int):(offs l)[(offs l).length-1]! =4+fU l:=by
 rw[XL,show l.length+1-1=l.length by omega,TH (gq _),List.take_length]
theorem XK (l:List Int) (v:Int):offs (l++ [v])=offs l++ [(offs l)[(offs l).length-1]! +v]:=by
 rw[vT];unfold offs;rw[gb,ku,kq,gu];congr 1
 ·apply List.map_congr_left
  intro i hi;rw[kv]at hi;rw[List.take_append_of_le_length om]
 ·simp only[List.map_cons,List.map_nil]
  rw[gf sm,ZK];congr 1;omega
theorem qWR {f:ByteArray} (hk:4<=f.size) {b m:Int} (hb:b<=m):∀(n:Nat) (l:List Int) (d a:Int),0<=a ->
  ((rfN f b n (offs l) (a+4)).2.2=true->∃l' a',nmF m n l d (f.extract 4 f.size,a,false)=(l',d+fU l-fU l',(f.extract 4 f.size,a'-4,false))/\rfN f b n (offs l) (a+4)=(offs l',a',true)/\4<=a'/\l'.length=l.length+n/\(∀i,l.length<=i->i<l'.length->0<=l'[i]!)/\l'=l++l'.drop l.length) /\
  ((rfN f b n (offs l) (a+4)).2.2=false->(nmF m n l d (f.extract 4 f.size,a,false)).2.2.2.2=true\/(nmF m n l d (f.extract 4 f.size,a,false)).2.1<d-b)
 |0,l,d,a,ha=>⟨fun _=>⟨l,a+4,by rw[nmF];refine gm rfl (gm ?_ (gm rfl (gm ?_ rfl)))<;>(simp only;omega),rfl,om,om,fun i h1 h2=>by omega,sm⟩,fun h=>by cases h⟩
 |n+1,l,d,a,ha=>by
  rw[rfN,nmF,TE hk ha];by_cases h1:(aA f (a+4)).2.2≠0\/(aA f (a+4)).1>b
  ·rw[if_pos h1]
   refine⟨(fun h=>by cases h),fun _=>?_⟩;by_cases h2:(aA f (a+4)).2.2≠0\/(aA f (a+4)).1>m
   ·rw[if_pos h2];exact .inl (TC n _ _ _ rfl)
   ·rw[if_neg h2]
    refine .inr ?_;have:=qPN (m:=m) n (l++ [(aA f (a+4)).1]) (d-(aA f (a+4)).1) (f.extract 4 f.size,(aA f (a+4)).2.1-4,false);simp only;omega
  ·have h0:(aA f (a+4)).2.2=0:=Decidable.not_not.1 fun q=>h1 (.inl q)
   have o:=bT h0;have g:=bA f (a+4);rw[if_neg h1,if_neg om];simp only;rw[<-XK];have ih:=qWR hk hb n (l++ [(aA f (a+4)).1]) (d-(aA f (a+4)).1) ((aA f (a+4)).2.1-4) om;rw[show(aA f (a+4)).2.1-4+4=(aA f (a+4)).2.1 by omega]at ih;refine⟨fun h=>?_,fun h=>?_⟩
   ·obtain⟨l',a',e1,e2,e3,e4,e5,e6⟩:=ih.1 h
    rw[gb,ku]at e4 e5 e6;have hd:l'[l.length]? =some (aA f (a+4)).1:=by
     rw[e6,List.getElem?_append_left sm];simp
    have hlt:l.length<l'.length:=om
    refine⟨l',a',by rw[e1,ZK];refine gm rfl (gm ?_ rfl);simp only;omega,e2,e3,om,fun i h1 h2=>?_,?_⟩
    ·by_cases q:i=l.length
     ·subst q;rw[getElem!_pos l' _ h2,<-Option.some.inj (hd.symm.trans (ga h2))];exact g.1
     ·exact e5 i om h2
    ·have h3:l'.drop l.length=(aA f (a+4)).1::l'.drop (l.length+1):=by
       rw[List.drop_eq_getElem_cons hlt];congr 1
       exact Option.some.inj ((ga hlt).symm.trans hd)
     rw[h3];rw[List.append_assoc]at e6;exact e6
   ·rcases ih.2 h with q|q
    ·exact .inl q
    ·exact .inr om
theorem qSH {f:ByteArray} (hk:4<=f.size) {a rows:Int} {c:Col} (ha:0<=a) :
  ((gG f (a+4)).2.2=0/\lU c (gG f (a+4)).1=true/\(gG f (a+4)).1.1=rows->tV (f.extract 4 f.size,a,false) c rows=((gG f (a+4)).1,(f.extract 4 f.size,(gG f (a+4)).2.1-4,false))) /\
  (((gG f (a+4)).2.2≠0\/lU c (gG f (a+4)).1=false\/(gG f (a+4)).1.1≠rows)->(tV (f.extract 4 f.size,a,false) c rows).2.2.2=true):=by
 unfold tV;simp only;rw[qT1 hk ha];refine⟨fun⟨h1,h2,h3⟩=>?_,fun h=>?_⟩
 ·rw[show((4:Nat):Int)=4 from rfl,vA h1]
  simp only[h2,h3,Bool.false_or,Bool.not_true,ne_eq,not_true_eq_false,decide_false,Bool.or_self]
 ·show(false||(decide ((gG f (a+4)).2.2≠0)||(!lU c (gG f (a+4)).1||decide ((gG f (a+4)).1.1≠rows))))=true
  rcases h with h|h|h
  ·rw[decide_eq_true h];rfl
  ·rw[h];simp
  ·rw[decide_eq_true h];simp
theorem qXR {f:ByteArray} (hk:4<=f.size) {rows:Int}:∀(cs:List Col) (z:List Zone) (a:Int),0<=a ->
  ((rzN f rows cs z (a+4)).2.2=true->znF rows cs z (f.extract 4 f.size,a,false)=((rzN f rows cs z (a+4)).1,(f.extract 4 f.size,(rzN f rows cs z (a+4)).2.1-4,false))/\4<=(rzN f rows cs z (a+4)).2.1) /\
  ((rzN f rows cs z (a+4)).2.2=false->(znF rows cs z (f.extract 4 f.size,a,false)).2.2.2=true)
 | [],z,a,ha=>⟨fun _=>⟨by rw[znF,rzN];refine gm rfl (gm rfl (gm ?_ rfl));simp only;omega,by rw[rzN];simp only;omega⟩,fun h=>by cases h⟩
 |c::cs,z,a,ha=>by
  rw[rzN,znF];obtain⟨z1,z2⟩:=qSH hk (rows:=rows) (c:=c) ha;by_cases h1:(gG f (a+4)).2.2≠0\/lU c (gG f (a+4)).1=false\/(gG f (a+4)).1.1≠rows
  ·rw[if_pos h1]
   exact⟨(fun h=>by cases h),fun _=>UH cs _ _ (z2 h1)⟩
  ·have h0:(gG f (a+4)).2.2=0:=Decidable.not_not.1 fun q=>h1 (.inl q)
   have o:=qT0 h0;rw[if_neg h1,z1 ⟨h0,by cases q:lU c (gG f (a+4)).1;exact absurd (.inr (.inl q)) h1;rfl,Decidable.not_not.1 fun q=>h1 (.inr (.inr q))⟩];simp only;have ih:=qXR hk (rows:=rows) cs (z++ [(gG f (a+4)).1]) ((gG f (a+4)).2.1-4) om;rw[show(gG f (a+4)).2.1-4+4=(gG f (a+4)).2.1 by omega]at ih;exact ih
theorem qFP {f:ByteArray} (hk:4<=f.size) {s:Schema} {a:Int} (ha:0<=a) :
  ((kN s f (a+4)).2.2=true->oN (f.extract 4 f.size,a,false) (BS s)=((kN s f (a+4)).1,(f.extract 4 f.size,(kN s f (a+4)).2.1-4,false))/\4<=(kN s f (a+4)).2.1/\(kN s f (a+4)).2.1<=f.size) /\
  ((kN s f (a+4)).2.2=false->(oN (f.extract 4 f.size,a,false) (BS s)).2.2.2=true):=by
 unfold oN kN;simp only;rw[ST hk ha];by_cases h1:(dT f (a+4)).2.2≠0\/aZ (BS s) (dT f (a+4)).1≠0
 ·rw[if_pos h1]
  refine⟨(fun h=>by cases h),fun _=>?_⟩;rw[if_pos (.inr h1)]
 ·have h0:(dT f (a+4)).2.2=0:=Decidable.not_not.1 fun q=>h1 (.inl q)
  have o:=FG h0;rw[if_neg h1,show((4:Nat):Int)=4 from rfl,vA h0];simp only;rw[if_neg (show ¬(false=true\/(0:Int)≠0\/aZ (BS s) (dT f (a+4)).1≠0)from fun q=>by
   rcases q with q|q|q
   ·cases q
   ·exact q rfl
   ·exact h1 (.inr q)),TE hk (show 0<=(dT f (a+4)).2.1-4 by omega),show(dT f (a+4)).2.1-4+4=(dT f (a+4)).2.1 by omega]
  by_cases h2:(aA f (dT f (a+4)).2.1).2.2≠0\/(aA f (dT f (a+4)).2.1).1>1099511627776
  ·rw[if_pos h2,if_pos h2]
   exact⟨(fun h=>by cases h),fun _=>rfl⟩
  ·have h3:(aA f (dT f (a+4)).2.1).2.2=0:=Decidable.not_not.1 fun q=>h2 (.inl q)
   have o3:=bT h3;rw[if_neg h2,if_neg h2];refine⟨fun _=>?_,fun h=>by cases h⟩;refine⟨rfl,?_,?_⟩<;>(simp only;omega)
theorem PL {s:Schema} {f:ByteArray} {st m:Int} (hk:4<=f.size) (hm:st<=m) :
  ((tS s f st).2=false->zQ s (f.extract 4 f.size) m (st-4)=(iW,[],2)) /\
  ((tS s f st).2=true->∃l,zQ s (f.extract 4 f.size) m (st-4)=((tS s f st).1.1,l,0)/\(tS s f st).1.2.1=offs l/\l.length=s.1.length+1/\(∀i,i<l.length->0<=l[i]!)/\4+fU l=st/\1<=(tS s f st).1.1.1/\(tS s f st).1.1.1<=1024):=by
 have bad3:∀ {n rows:Int} {B:List Int×Int×Fr} {Z:List Zone} {lo hi:Rank×Fr},hi.2.2.2=true->pP3 s n rows B Z lo hi=(iW,[],2):=fun h=>by rw[pP3,if_pos (.inl h)]
 have bad2:∀ {n rows:Int} {B:List Int×Int×Fr} {Z:List Zone×Fr},Z.2.2.2=true->pP2 s n rows B Z=(iW,[],2):=fun h=>by
  rw[pP2,CC h];exact bad3 (by rw[CC h];exact h)
 have bad1:∀ {n rows:Int} {B:List Int×Int×Fr},B.2.2.2.2=true->pP1 s n rows B=(iW,[],2):=fun h=>by rw[pP1];exact bad2 (UH _ _ _ h)
 have neg2:∀ {n rows:Int} {B:List Int×Int×Fr} {Z:List Zone×Fr},B.2.1≠0->pP2 s n rows B Z=(iW,[],2):=fun h=>by rw[pP2,pP3,if_pos (.inr (.inr (.inr (.inl h))))]
 have row2:∀ {n rows:Int} {B:List Int×Int×Fr} {Z:List Zone×Fr},rows<1->pP2 s n rows B Z=(iW,[],2):=fun h=>by rw[pP2,pP3,if_pos (.inr (.inr (.inl h)))]
 unfold zQ tS;rw[TE hk (kd 0),show(0:Int)+4=4 by omega,SM hk];by_cases h1:(aA f 4).2.2≠0\/(aA f 4).1>1024
 ·rw[if_pos h1,if_pos om,pP0]
  exact⟨fun _=>bad1 (TC _ _ _ _ rfl),fun h=>by cases h⟩
 rw[if_neg h1,pP0];by_cases h2:(aA f 4).1<1
 ·rw[if_pos (.inr (.inl h2)),pP1]
  exact⟨fun _=>row2 h2,fun h=>by cases h⟩
 have h0:(aA f 4).2.2=0:=Decidable.not_not.1 fun q=>h1 (.inl q)
 have o:=bT h0;rw[if_neg om,rP1];simp only;obtain⟨n1,n2⟩:=qWR hk hm (s.1.length+1) [] (st-4) ((aA f 4).2.1-4) om;rw[show offs []= [4]from rfl,show(aA f 4).2.1-4+4=(aA f 4).2.1 by omega]at n1 n2;cases hB:(rfN f st (s.1.length+1) [4] (aA f 4).2.1).2.2 with
 |false=>
  rw[if_pos (.inl rfl)];refine⟨fun _=>?_,fun h=>by cases h⟩;rcases n2 hB with q|q
  ·exact bad1 q
  ·rw[pP1];exact neg2 om
 |true=>
  obtain⟨l,a,e1,e2,e3,e4,e5,_⟩:=n1 hB;rw[e1,e2];simp only[ge,Nat.zero_add]at e4 e5;have hs0:fU ([]:List Int)=0:=rfl;rw[hs0];simp only;by_cases h3:(offs l)[(offs l).length-1]! ≠st
  ·rw[if_pos (.inr h3),pP1]
   rw[vT]at h3;exact⟨fun _=>neg2 (by simp only;omega),fun h=>by cases h⟩
  rw[if_neg (by rintro(q|q);cases q;exact h3 q),pP1,rP2];rw[vT]at h3;simp only;obtain⟨z1,z2⟩:=qXR hk (rows:=(aA f 4).1) s.1 [] (a-4) om;rw[show a-4+4=a by omega]at z1 z2;cases hZ:(rzN f (aA f 4).1 s.1 [] a).2.2 with
  |false=>
   rw[if_pos rfl];exact⟨fun _=>bad2 (z2 hZ),fun h=>by cases h⟩
  |true=>
   obtain⟨w1,w2⟩:=z1 hZ;rw[if_neg (by intro q;cases q),w1,rP3,pP2];generalize rzN f (aA f 4).1 s.1 [] a=Z at *;simp only;obtain⟨k1,k2⟩:=qFP hk (s:=s) (a:=Z.2.1-4) om;rw[show Z.2.1-4+4=Z.2.1 by omega]at k1 k2;cases hL:(kN s f Z.2.1).2.2 with
   |false=>
    rw[if_pos rfl];exact⟨fun _=>bad3 (by rw[CC (k2 hL)];exact k2 hL),fun h=>by cases h⟩
   |true=>
    obtain⟨v1,v2,v3⟩:=k1 hL;rw[if_neg (by intro q;cases q),v1,rP4];generalize kN s f Z.2.1=lo at *;simp only;obtain⟨m1,m2⟩:=qFP hk (s:=s) (a:=lo.2.1-4) om;rw[show lo.2.1-4+4=lo.2.1 by omega]at m1 m2;cases hH:(kN s f lo.2.1).2.2 with
    |false=>
     rw[if_pos (.inl rfl)];exact⟨fun _=>bad3 (m2 hH),fun h=>by cases h⟩
    |true=>
     obtain⟨x1,x2,x3⟩:=m1 hH;rw[x1,pP3];generalize kN s f lo.2.1=hi at *;simp only;by_cases h9:hi.2.1≠f.size\/eC (BS s).2.1 lo.1 hi.1>0
     ·rw[if_pos (.inr h9)]
      refine⟨fun _=>?_,fun h=>by cases h⟩;rw[if_pos];rcases h9 with q|q
      ·exact .inr (.inl om)
      ·exact .inr (.inr (.inr (.inr q)))
     ·rw[if_neg (by rintro(q|q);cases q;exact h9 q)]
      refine⟨(fun h=>by cases h),fun _=>⟨l,?_,rfl,om,fun i hi=>e5 i (kw _) hi,om,by simp only;omega,by simp only;omega⟩⟩;rw[if_neg];rintro(q|q|q|q|q)
      ·cases q
      ·omega
      ·exact h2 q
      ·exact q om
      ·exact h9 (.inr q)
theorem qPU {l:List Int} {n:Nat} (h0:∀i,i<l.length->0<=l[i]!) (hs:4+fU l<=n):qFE n l:=by
 have nn:∀(a:List Int),(∀x,x∈a->0<=x)->0<=fU a:=fun a ha=>by
  induction a with
  |nil=>exact kd _
  |cons x a ih=>
   have h1:=ha x (kb ..);have h2:=ih fun y hy=>ha y (kx _ hy)
   simp only[fU,hu]at h2 ⊢;omega
 have app:∀a b:List Int,fU (a++b)=fU a+fU b:=fun a b=>by
  induction a with
  |nil=>simp [fU]
  |cons x a ih=>simp only[fU,kh,hu]at ih ⊢;omega
 have mem:∀x,x∈l->0<=x:=fun x hx=>by
  obtain⟨i,hi,rfl⟩:=ky.1 hx;have:=h0 i hi;rwa [getElem!_pos l i hi]at this
 intro k hk hl;have h1:=wF (l:=l) (k:=k) ⟨hk,hl⟩;have h2:=app (l.take (k+1).toNat) (l.drop (k+1).toNat);rw[List.take_append_drop]at h2;have h3:=nn (l.drop (k+1).toNat) fun x hx=>mem x (List.mem_of_mem_drop hx)
 have h4:=nn (l.take k.toNat) fun x hx=>mem x (List.mem_of_mem_take hx)
 have h5:=h0 k.toNat om;omega
theorem qB6 {s:Schema} {file f:ByteArray} {k:Int} (h0:aS s=0) (hf:4<=f.size) (hk:8<=k) (hk2:k<=file.size-12):(XN s file f k).2=(pY s file f k).2.2/\(XN s file f k).1.1=(pY s file f k).1 /\
  ((pY s file f k).2.2=0->(XN s file f k).1.2.1=offs (pY s file f k).2.1/\(pY s file f k).2.1.length=s.1.length+1/\qFE file.size (pY s file f k).2.1/\1<=(pY s file f k).1.1/\(pY s file f k).1.1<=1024/\aS s=0):=by
 unfold XN pY;by_cases h1:pX f≠dS file (file.size-12)
 ·rw[if_pos h1,if_pos h1];exact⟨rfl,rfl,fun q=>by cases q⟩
 by_cases h2:dS f 0≠pX (wI s)
 ·rw[if_neg h1,if_neg h1,if_pos h2,if_pos h2];exact⟨rfl,rfl,fun q=>by cases q⟩
 rw[if_neg h1,if_neg h1,if_neg h2,if_neg h2];obtain⟨p1,p2⟩:=PL (s:=s) (f:=f) (st:=file.size-8-k) (m:=file.size) hf om;rw[show(file.size:Int)-8-k-4=file.size-12-k by omega]at p1 p2;cases hr:(tS s f (file.size-8-k)).2 with
 |false=>rw[if_pos rfl,p1 hr];exact⟨rfl,rfl,fun q=>by cases q⟩
 |true=>
  rw[if_neg (by intro q;cases q)];obtain⟨l,e1,e2,e3,e4,e5,e6,e7⟩:=p2 hr;rw[e1];exact⟨rfl,rfl,fun _=>⟨e2,e3,qPU (l:=l) e4 om,e6,e7,h0⟩⟩
theorem pI (s:Schema) (file:ByteArray):(qFF s file).2=(bE s file).2.2/\(qFF s file).1.1=(bE s file).1 /\
  ((bE s file).2.2=0->(qFF s file).1.2.1=offs (bE s file).2.1/\(bE s file).2.1.length=s.1.length+1/\qFE file.size (bE s file).2.1/\1<=(bE s file).1.1/\(bE s file).1.1<=1024/\aS s=0):=by
 unfold qFF bE;by_cases h0:aS s≠0
 ·rw[if_pos h0,if_pos h0];exact⟨rfl,rfl,fun q=>absurd q h0⟩
 rw[if_neg h0,if_neg h0];by_cases h1:file.size<12
 ·rw[if_pos h1,if_pos h1];exact⟨rfl,rfl,fun q=>by cases q⟩
 rw[if_neg h1,if_neg h1];generalize hk:dS file ((file.size:Int)-8)=k;unfold qWS OO;by_cases h2:k>file.size-12
 ·rw[if_pos h2,if_pos h2];exact⟨rfl,rfl,fun q=>by cases q⟩
 rw[if_neg h2,if_neg h2];by_cases h3:ET file lD=false\/EU file lD=false\/k<8
 ·rw[if_pos h3,if_pos h3];exact⟨rfl,rfl,fun q=>by cases q⟩
 rw[if_neg h3,if_neg h3];have h8:¬k<8:=fun q=>h3 (.inr (.inr q))
 exact qB6 (Decidable.not_not.1 h0) (by rw[gy];omega) om om
end Go.Proofs.YtcjiefknhfhmkaaGreatDoor
