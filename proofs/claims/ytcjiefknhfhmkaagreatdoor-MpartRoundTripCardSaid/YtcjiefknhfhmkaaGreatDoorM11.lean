import Derived.RangeFuncNested
import Derived.RangeFuncCalls
import Derived.ControlIn
import Derived.RangeFuncBound
import Derived.RangeFuncLeaves
import Derived.WalkKit
import Derived.OwnWalkIn
import Derived.TacticsInMore
import Derived.LoopNIn
import Derived.LoopIn
import Derived.Shelf.Abstract
import Derived.Test.YtcjiefknhfhmkaaGreatDoorM10
open ByteArray renaming size_append -> ga, size_extract -> gp, extract_extract -> gq, append_assoc -> ka, empty_append -> ky
open List renaming length_cons -> gb, append_assoc -> gc, length_nil -> ge, take_of_length_le -> gg, length_append -> gh, length_drop -> gi, drop_eq_nil_of_le -> gj, getElem?_eq_none -> gl, length_map -> gn, append_nil -> gr, mem_map -> gu, replicate -> gw, getElem!_eq_getElem?_getD -> gy, map_append -> kb, map_cons -> kc, mem_cons_of_mem -> ke, getElem_mem -> kf, nil_append -> kg, mem_cons_self -> kh, length_range -> ki, ext_getElem? -> kj, getElem_map -> km, drop_drop -> ko, drop_zero -> kp, getElem?_append_left -> kq, getElem?_eq_getElem -> ku, cons_append -> kw, all_eq_true -> kx, length_set -> kz, range_succ -> ua, set_append_right -> ub, getElem?_set_ne -> uc, mem_of_mem_drop -> uf, replicate_succ -> uh, replicate_zero -> ui, append_toArray -> uj, drop_succ_cons -> uk, getElem?_drop -> ul, set_cons_zero -> um, size_toArray -> uo, push_toArray -> uq, flatMap_cons -> ur
open Array renaming getElem?_eq_some_iff -> gk, replicate_succ -> ud, replicate_zero -> ue
open Nat renaming lt_of_lt_of_le -> gm, zero_le -> gz, le_refl -> kd, ne_of_beq_eq_false -> kk, lt_succ_self -> kl, not_lt_zero -> kn, min_eq_right -> kv
open Prod renaming ext -> go
open Bool renaming and_eq_true -> gx
open Int renaming toNat_natCast -> kt, toNat_zero -> ug
open Eq renaming refl -> va
namespace Go.Proofs.YtcjiefknhfhmkaaGreatDoor
open Go.Abs
set_option maxRecDepth 100000
set_option maxHeartbeats 4000000
set_option linter.unusedVariables false
set_option linter.unusedSimpArgs false
theorem qCR (r:Fr) (m:Int):(iQ r m).2.1=r.1:=by unfold iQ;split<;>rfl
theorem qWE (r:Fr) (c:Col) (n:Int):(tV r c n).2.1=r.1:=rfl
theorem TQ (r:Fr) (c:Col):(oN r c).2.1=r.1:=by
 unfold oN;split
 ·rfl
 ·simp only[qCR]
theorem qFD (r:Fr) {m:Int} (h:0<=m):(iQ r m).1<=m:=by
 unfold iQ;split
 ·exact h
 ·rename_i q;simp only;omega
theorem qPO {m k n d:Int} {l:List Int} {r:Fr} (h:0<=k/\k<n):nmF m (n-k).toNat l d r=nmF m (n-(k+1)).toNat (l++ [(iQ r m).1]) (d-(iQ r m).1) (iQ r m).2:=by
 rw[show(n-k).toNat=(n-(k+1)).toNat+1 by omega];rfl
theorem qSG {rows k:Int} {l:List Col} {z:List Zone} {r:Fr} (h:0<=k/\k<l.length):znF rows (l.drop k.toNat) z r=znF rows (l.drop (k+1).toNat) (z++ [(tV r l[k.toNat]! rows).1]) (tV r l[k.toNat]! rows).2:=by
 rw[bQ l k h];rfl
theorem QQ (s:ByteArray) (i:Int):0<=dS s i/\dS s i<4294967296:=qAT _
theorem pN {f:ByteArray} {a e:Nat} {i:Int} (hi:0<=i/\a+i+4<=e) (he:e<=f.size):dS (f.extract a e) i=dS f (a+i):=by
 unfold dS;rw[mD om he,mD om he,mD om he,mD om he];rw[show a+i.toNat=((a:Int)+i).toNat by omega,show a+(i+1).toNat=((a:Int)+i+1).toNat by omega,show a+(i+2).toNat=((a:Int)+i+2).toNat by omega,show a+(i+3).toNat=((a:Int)+i+3).toNat by omega]
abbrev fzK (file:ByteArray):Int:=dS (file.extract ((file.size:Int)-8).toNat file.size) 0
abbrev fzF (file:ByteArray):ByteArray:=file.extract ((file.size:Int)-8-fzK file).toNat ((file.size:Int)-8).toNat
abbrev fzT (file:ByteArray):ByteArray:=(fzF file).extract (4:Int).toNat (fzK file-4).toNat
abbrev fzG (file:ByteArray):ByteArray:=file.extract ((file.size:Int)-8-fzK file).toNat (file.size-12)
theorem qTW {file:ByteArray} (h:12<=file.size):fzK file=dS file (file.size-8):=by
 unfold fzK;rw[pN om (kd _)];congr 1;omega
theorem qB9 {file:ByteArray} (h:12<=file.size) (h2:¬fzK file>file.size-12) (h8:¬fzK file<8) :
  ((fzF file).size:Int)=fzK file/\((fzG file).size:Int)=fzK file-4/\(fzF file).extract 0 (fzK file-4).toNat=fzG file/\dS ((fzF file).extract (fzK file-4).toNat (fzF file).size) 0=dS file (file.size-12)/\dS (fzF file) 0=dS (fzG file) 0/\fzT file=(fzG file).extract 4 (fzG file).size:=by
 have s1:((fzF file).size:Int)=fzK file:=by unfold fzF;rw[gp];omega
 have s2:((fzG file).size:Int)=fzK file-4:=by unfold fzG;rw[gp];omega
 refine⟨s1,s2,?_,?_,?_,?_⟩
 ·unfold fzF fzG;rw[gq];congr 1<;>omega
 ·rw[pN om (kd _)]
  unfold fzF;rw[pN om om];congr 1;omega
 ·unfold fzF fzG
  rw[pN om om,pN om om]
 ·unfold fzT fzG fzF
  rw[gq,gq];have:(file.extract ((file.size:Int)-8-fzK file).toNat (file.size-12)).size=(fzK file-4).toNat:=by rw[gp];omega
  rw[this];congr 1<;>omega
theorem qCB {s:Schema} (h:aS s=0):(idS s).1=pX (wI s):=by rw[idS,if_neg (fun q=>q h)]
theorem qYH {s:Schema} {file:ByteArray} (h:aS s≠0):bE s file=(iW,[],aS s):=by rw[bE,if_pos h]
theorem qYI {s:Schema} {file:ByteArray} (h:aS s=0) (h1:file.size<12):bE s file=(iW,[],10):=by rw[bE,if_neg (fun q=>q h),if_pos h1]
theorem qYJ {s:Schema} {file:ByteArray} (h:aS s=0) (h1:¬file.size<12) (h2:fzK file>file.size-12):bE s file=(iW,[],10):=by
 rw[bE,if_neg (fun q=>q h),if_neg h1,OO,if_pos (by rw[<-qTW om];exact h2)]
theorem qB3 {s:Schema} {file:ByteArray} (h:aS s=0) (h1:¬file.size<12) (h2:¬fzK file>file.size-12) (h3:ET file lD=false\/EU file lD=false\/fzK file<8):bE s file=(iW,[],2):=by
 rw[bE,if_neg (fun q=>q h),if_neg h1,OO,if_neg (by rw[<-qTW om];exact h2),if_pos (by rw[<-qTW om];exact h3)]
theorem qB4 {s:Schema} {file:ByteArray} (h:aS s=0) (h1:¬file.size<12) (h2:¬fzK file>file.size-12) (h3:¬(ET file lD=false\/EU file lD=false\/fzK file<8)):bE s file=pY s file (fzG file) (fzK file):=by
 rw[bE,if_neg (fun q=>q h),if_neg h1,<-qTW om,OO,if_neg h2,if_neg h3]
theorem qYK {s:Schema} {file:ByteArray} (h:aS s=0) (h1:¬file.size<12) (h2:¬fzK file>file.size-12) (h3:ET file lD=true) (h4:EU file lD=true) (h5:¬fzK file<8)
  (h6:LR oB ((fzF file).extract 0 (fzK file-4).toNat)≠dS ((fzF file).extract (fzK file-4).toNat (fzF file).size) 0):bE s file=(iW,[],9):=by
 obtain⟨_,_,a3,a4,a5,a6⟩:=qB9 om h2 h5;rw[qB4 h h1 h2 (by rw[h3,h4];rintro(q|q|q);cases q;cases q;exact h5 q),pY,if_pos];rw[a3,a4]at h6;exact h6
theorem qYL {s:Schema} {file:ByteArray} (h:aS s=0) (h1:¬file.size<12) (h2:¬fzK file>file.size-12) (h3:ET file lD=true) (h4:EU file lD=true) (h5:¬fzK file<8)
  (h6:LR oB ((fzF file).extract 0 (fzK file-4).toNat)=dS ((fzF file).extract (fzK file-4).toNat (fzF file).size) 0) (h7:dS (fzF file) 0≠(idS s).1):bE s file=(iW,[],1):=by
 obtain⟨_,_,a3,a4,a5,a6⟩:=qB9 om h2 h5;rw[a3,a4]at h6;rw[qB4 h h1 h2 (by rw[h3,h4];rintro(q|q|q);cases q;cases q;exact h5 q),pY,if_neg (fun q=>q h6),if_pos];rw[a5,qCB h]at h7;exact h7
theorem qYM {s:Schema} {file:ByteArray} (h:aS s=0) (h1:¬file.size<12) (h2:¬fzK file>file.size-12) (h3:ET file lD=true) (h4:EU file lD=true) (h5:¬fzK file<8)
  (h6:LR oB ((fzF file).extract 0 (fzK file-4).toNat)=dS ((fzF file).extract (fzK file-4).toNat (fzF file).size) 0) (h7:dS (fzF file) 0=(idS s).1):bE s file=zQ s (fzT file) file.size (file.size-12-fzK file):=by
 obtain⟨_,_,a3,a4,a5,a6⟩:=qB9 om h2 h5;rw[a3,a4]at h6;rw[a5,qCB h]at h7;rw[qB4 h h1 h2 (by rw[h3,h4];rintro(q|q|q);cases q;cases q;exact h5 q),pY,if_neg (fun q=>q h6),if_neg (fun q=>q h7),a6]
theorem qYT (file:ByteArray):(fzT file).size<=file.size:=by
 unfold fzT fzF;simp only[gp];omega
abbrev fzL (s:Schema) (q:Fr):Rank×Fr:=oN q s.1[s.2.toNat]!
abbrev fzH (s:Schema) (q:Fr):Rank×Fr:=oN (oN q s.1[s.2.toNat]!).2 s.1[s.2.toNat]!
theorem qOR {s:Schema} {file:ByteArray} {P:List Int} {d D:Int} {r q:Fr} {Z:List Zone} (hf:bE s file=zQ s (fzT file) file.size D) (e1:nmF file.size (s.1.length+1) [] D (iQ (fzT file,0,false) 1024).2=(P,d,r))
  (e2:znF (iQ (fzT file,0,false) 1024).1 s.1 [] r=(Z,q)) (hq:q.1=fzT file) :
  bE s file=if(fzH s q).2.2.2=true\/(fzH s q).2.2.1<((fzH s q).2.1.size:Int)\/(iQ (fzT file,0,false) 1024).1<1\/d≠0\/eC s.1[s.2.toNat]!.2.1 (fzL s q).1 (fzH s q).1>0 then(iW,[],2)else(((iQ (fzT file,0,false) 1024).1,Z,(fzL s q).1,(fzH s q).1),P,0):=by
 have hz:((fzH s q).2.1.size:Int)=(fzT file).size:=by rw[fzH,TQ,TQ,hq]
 rw[hz,hf,zQ,pP0,pP1,e1];simp only;rw[e2,pP2,pP3]
theorem qaW {b:Bool} (h:b=false):¬b=true:=by rw[h];exact Bool.noConfusion
theorem WP {s:Schema} (h:aS s=0):s.1.length<=12/\0<=s.2/\s.2<s.1.length:=bI h
abbrev MU:Ct:=.fn [cX,.str] (some (fun(s:Schema) (file:ByteArray)=>(file.size<=288230376151711744))) (fun(s:Schema) (file:ByteArray)=>.tup [ZM,.list (.int .i64),.int .i64] ((bE s file).1,(bE s file).2.1,(bE s file).2.2,()))
theorem qTP:aH Tryz.prog 48 MU:=by
 refine aH.fn qAB mixed [] [] rfl rfl ?_;rintro⟨(s:Schema),(file:ByteArray),_⟩ hpre;replace hpre:=hpre _ rfl;dsimp only[cu]at hpre;have hs:=hpre;refine⟨[(0,46,LA.mk [.sl 107 (.int .i64),.sl 16 (.int .i64),.lst 15 (.int .i64) 3,.ob 2 tFr 134] (fun y=>Tag 64/\cu [.int .i64,.int .i64,.list (.int .i64),tFr] (fun(k:Int) (d:Int) (P:List Int) (r:Fr)=>(0<=k/\k<=((s.1.length:Int)+1))/\((nmF file.size (s.1.length+1) [] ((file.size:Int)-12-(dS (file.extract ((file.size:Int)-8).toNat file.size) 0)) (iQ (fzT file,0,false) 1024).2)=nmF file.size (((s.1.length:Int)+1)-k).toNat P d r)/\(r.1=fzT file)/\(((file.size:Int)-12-(dS (file.extract ((file.size:Int)-8).toNat file.size) 0))-288230376151711744*k<=d/\d<=((file.size:Int)-12-(dS (file.extract ((file.size:Int)-8).toNat file.size) 0)))/\((P.length:Int)=k)) y) (cu [.int .i64,.int .i64,.list (.int .i64),tFr] (fun(k:Int) (d:Int) (P:List Int) (r:Fr)=>((((s.1.length:Int)+1):Int)-k).toNat)) (cu [.int .i64,.int .i64,.list (.int .i64),tFr] (fun(k:Int) (d:Int) (P:List Int) (r:Fr)=>([]:List (Nat×Nat×LA))))),(0,58,LA.mk [.sl 124 (.int .i64),.row 3 [.same,.own lZ 67,.same,.same,.same,.same,.same,.same,.same,.same],.ob 2 tFr 134] (fun y=>Tag 65/\cu [.int .i64,.list lZ,tFr] (fun(j:Int) (Z:List Zone) (q:Fr)=>(0<=j/\j<=s.1.length)/\(znF (iQ (fzT file,0,false) 1024).1 s.1 [] (nmF file.size (s.1.length+1) [] ((file.size:Int)-12-(dS (file.extract ((file.size:Int)-8).toNat file.size) 0)) (iQ (fzT file,0,false) 1024).2).2.2=znF (iQ (fzT file,0,false) 1024).1 (s.1.drop j.toNat) Z q)/\(q.1=fzT file)/\((Z.length:Int)=j)) y) (cu [.int .i64,.list lZ,tFr] (fun(j:Int) (Z:List Zone) (q:Fr)=>((s.1.length:Int)-j).toNat)) (cu [.int .i64,.list lZ,tFr] (fun(j:Int) (Z:List Zone) (q:Fr)=>([]:List (Nat×Nat×LA)))))],?_⟩;repeat' (first
  |(
 with_reducible refine Side.mk ⟨(⟨⟩:Tag 64),?_⟩
 dsimp only[cu,aC,aB,gts,eE,eN]
 refine⟨?_,?_,?_,?_,?_⟩
 ·omega
 ·first
  |rfl
  |rw[hn,qPO om]
 ·first
  |exact qCR _ _
  |((rw[qCR];exact hr))
 ·first
  |omega
  |(
  have g1:=TF r file.size
  have g2:=qFD r (m:=file.size) om
  omega)
 ·first
  |rfl
  |(
  simp only[gh,gb,ge]
  omega))
  |(
 with_reducible refine Side.mk ⟨(⟨⟩:Tag 65),?_⟩
 dsimp only[cu,aC,aB,gts,eE,eN]
 refine⟨?_,?_,?_,?_⟩
 ·omega
 ·first
  |(
  rw[hn,show(((s.1.length:Int)+1)-k).toNat=0 by omega]
  rfl)
  |rw[hz,qSG om]
 ·first
  |exact hr
  |((rw[qWE];exact hq))
 ·first
  |rfl
  |(
  simp only[gh,gb,ge]
  omega))
  |(
 with_reducible apply Side.mk
 (try dsimp only[cu,aC,aB,gts,loK,hiK,eE,eN])
 first
 |done
 |omega
 |exact va _
 |simp only[gh,gb,ge];omega
 |(
  have hkey:=WP (s:=s) wa;first
  |omega
  |(
   have hK:=QQ (file.extract ((file.size:Int)-8).toNat file.size) 0;have u4:(⟨#[77,80,84,49]⟩:ByteArray).size=4:=rfl;have g1:=TF r file.size;have g2:=qFD r (m:=file.size) om;omega))
 |(
  have hK:=QQ (file.extract ((file.size:Int)-8).toNat file.size) 0;have u4:(⟨#[77,80,84,49]⟩:ByteArray).size=4:=rfl;first
  |omega
  |(
   simp only[gp];omega))
 |(
  have hkey:=WP (s:=s) wa;simp only[gh,gb,ge];omega)
 |(
  have hT:=qYT file;first
  |(
   rw[hr];omega)
  |(
   rw[hq];omega)
  |(
   rw[TQ,hq];omega)))
  |(conv=>whnf
    first
     |with_reducible first|done|exact trivial|refine NilBr.mk (fun h=>?_) ?_|apply aL|apply aK|refine aM kr ?_|apply aN|apply bL|apply bK|apply aU
     |((with_reducible first|apply aW|apply aV|apply bH)<;>intro h<;>(try dsimp only[cu,eE,eN]at h)<;>(try(exfalso;omega)))
     |(
 intro yy (hy:Tag 64/\_)
 obtain⟨(k:Int),(d:Int),(P:List Int),(r:Fr),_⟩:=yy
 replace hy:=hy.2
 dsimp only[cu,aC,aB,gts,eE,eN]at hy
 obtain⟨hk,hn,hr,hd,hp⟩:=hy)
     |(
 intro yy (hy:Tag 65/\_)
 obtain⟨(j:Int),(Z:List Zone),(q:Fr),_⟩:=yy
 replace hy:=hy.2
 dsimp only[cu,aC,aB,gts,eE,eN]at hy
 obtain⟨hj,hz,hq,hzl⟩:=hy)))
 all_goals(
 with_reducible apply Leaf.mk
 (try dsimp only[cu,aC,aB,gts,eE,eN]at *)
 first
 |rw[qYH wa]
 |rw[qYI wa om]
 |rw[qYJ wa om wa]
 |rw[qB3 wa om wa (.inl (qKX wa))]
 |rw[qB3 wa om wa (.inr (.inl (qKX wa)))]
 |rw[qB3 wa om wa (.inr (.inr wa))]
 |rw[qYK wa om wa (oC wa) (oC wa) wa wa]
 |rw[qYL wa om wa (oC wa) (oC wa) wa wa wa]
 |(
  have e1:(nmF file.size (s.1.length+1) [] ((file.size:Int)-12-(dS (file.extract ((file.size:Int)-8).toNat file.size) 0)) (iQ (fzT file,0,false) 1024).2)=(P,d,r):=by
   rw[hn,show(((s.1.length:Int)+1)-k).toNat=0 by omega];rfl
  have e2:znF (iQ (fzT file,0,false) 1024).1 s.1 [] r=(Z,q):=by
   have h2:=hz;rw[e1,gj om]at h2;exact h2
  have ff:=qOR (qYM wa om wa (oC wa) (oC wa) wa wa wa) e1 e2 hq;first
  |rw[ff,if_pos (.inl wa)]
  |rw[ff,if_pos (.inr (.inl wa))]
  |rw[ff,if_pos (.inr (.inr (.inl wa)))]
  |rw[ff,if_pos (.inr (.inr (.inr (.inl wa))))]
  |rw[ff,if_pos (.inr (.inr (.inr (.inr wa))))]
  |(
   rw[ff,if_neg (fun x=>by
    rcases x with x|x|x|x|x
    ·exact absurd x (qaW wa)
    ·exact absurd x wa
    ·exact absurd x wa
    ·exact x wa
    ·exact absurd x wa)])))
abbrev qW9:Tbl:=(48,MU)::qW8
theorem qAC:aD Tryz.prog qW9:=aD.cons qTP qAB
def BL (f:Nat->Int):Nat->Nat->Int
 |0,_=>0
 |m+1,k=>if f k≠0 then f k else BL f m (k+1)
theorem qKI {f:Nat->Int} {m i:Int} (h:0<=i/\i<m) (h0:f i.toNat=0):BL f (m-i).toNat i.toNat=BL f (m-(i+1)).toNat (i+1).toNat:=by
 rw[show(m-i).toNat=(m-(i+1)).toNat+1 by omega,BL,if_neg (fun q=>q h0),show(i+1).toNat=i.toNat+1 by omega]
theorem qKJ {f:Nat->Int} {m i:Int} (h:0<=i/\i<m) (h0:f i.toNat≠0):BL f (m-i).toNat i.toNat=f i.toNat:=by
 rw[show(m-i).toNat=(m-(i+1)).toNat+1 by omega,BL,if_pos h0]
def qZ (V:Nat->List Val) (nc i k j:Nat):Rec:=(if nc<i\/(i=nc/\j<k)then(V nc)[j]!.2.1 else 0,(List.range (min nc (if j<k then i+1 else i))).map fun c=>(V c)[j]!)
theorem qK9 (V:Nat->List Val) (nc i k j:Nat):(qZ V nc i k j).2.length<=nc:=by
 simp only[qZ,gn,ki];omega
def uU (V:Nat->List Val) (nc n i k:Nat):List Rec:=(List.range n).map (qZ V nc i k)
theorem kA (V:Nat->List Val) (nc n i k:Nat):(uU V nc n i k).length=n:=by simp [uU]
theorem qF {V:Nat->List Val} {nc n i k j:Nat} (h:j<n):(uU V nc n i k)[j]? =some (qZ V nc i k j):=by simp [uU,h]
theorem qZP (V:Nat->List Val) (nc n:Nat):uU V nc n 0 0=gw n ((0,[]):Rec):=by
 apply kj;intro j;by_cases h:j<n
 ·rw[qF h]
  simp [h,qZ]
 ·rw[gl (by rw[kA];omega),gl (by simp;omega)]
theorem qVD {V:Nat->List Val} {nc n i k:Nat} {a:Rec} (hk:k<n) (h:(uU V nc n i k)[k]? =some a):a=qZ V nc i k k:=by
 rw[qF hk]at h;exact(Option.some.inj h).symm
theorem YQ {V:Nat->List Val} {nc n i k:Nat} {a:Rec} (hk:k<n) (ha:a=qZ V nc i (k+1) k):(uU V nc n i k).set k a=uU V nc n i (k+1):=by
 apply kj;intro j;by_cases h:j<n
 ·rw[qF h]
  by_cases h2:k=j
  ·subst h2;rw[List.getElem?_set_self (by rw[kA];exact h),ha]
  ·rw[uc h2,qF h]
   have e:(j<k)=(j<k+1):=by apply propext;omega
   simp only[qZ,e]
 ·rw[gl (by rw[kz,kA];omega),gl (by rw[kA];omega)]
theorem qQO {V:Nat->List Val} {nc n i k:Nat} (hk:k<n) (hi:i<nc):(uU V nc n i k).set k ((qZ V nc i k k).1,(qZ V nc i k k).2++ [(V i)[k]!])=uU V nc n i (k+1):=by
 refine YQ hk ?_;simp only[qZ,Nat.lt_irrefl,if_false,kl,if_true];rw[if_neg om,if_neg om,kv om,kv om,ua,kb];rfl
theorem qQP {V:Nat->List Val} {nc n i k:Nat} (hk:k<n) (hi:i=nc):(uU V nc n i k).set k ((V i)[k]!.2.1,(qZ V nc i k k).2)=uU V nc n i (k+1):=by
 subst hi;refine YQ hk (go ?_ ?_)
 ·show _=if i<i\/(i=i/\k<k+1)then _ else _
  rw[if_pos (.inr ⟨rfl,kl k⟩)]
 ·show List.map _ (List.range (min i (if k<k then i+1 else i)))=List.map _ (List.range (min i (if k<k+1 then i+1 else i)))
  rw[if_neg (Nat.lt_irrefl k),if_pos (kl k),kv om,Nat.min_eq_left om]
theorem qLB (V:Nat->List Val) (nc n i:Nat):uU V nc n i n=uU V nc n (i+1) 0:=by
 apply kj;intro j;by_cases h:j<n
 ·rw[qF h,qF h]
  simp only[qZ,if_pos h,kn,if_false,h,and_true,and_false,or_false];simp only[show(nc<i\/i=nc)↔nc<i+1 by omega];rfl
 ·rw[gl (by rw[kA];omega),gl (by rw[kA];omega)]
abbrev chV (s:Schema) (file:ByteArray) (F:Info×List Int×Int) (i:Int):List Val×Int:=lS s file F.1.1 F.2.1 i
abbrev chL (s:Schema) (file:ByteArray) (F:Info×List Int×Int) (i:Nat):List Val:=(chV s file F i).1
abbrev chE (s:Schema) (file:ByteArray) (F:Info×List Int×Int) (i:Nat):Int:=(chV s file F i).2
def qQN (s:Schema) (file:ByteArray) (F:Info×List Int×Int):List Rec:=uU (chL s file F) s.1.length F.1.1.toNat (s.1.length+1) 0
def KE (s:Schema) (I:Info) (l:List Rec):List Rec×Int:=if dN s l=false then([],2)else if(dV s l).2.2.1≠I.2.2.1\/(dV s l).2.2.2≠I.2.2.2\/(dV s l).2.1≠I.2.1 then([],2)else(l,0)
def zY (s:Schema) (file:ByteArray) (F:Info×List Int×Int):List Rec×Int:=
 if F.2.2≠0 then([],F.2.2)else if BL (chE s file F) (s.1.length+1) 0≠0 then([],BL (chE s file F) (s.1.length+1) 0)else KE s F.1 (qQN s file F)
def oO (s:Schema) (file:ByteArray):List Rec×Int:=zY s file (bE s file)
theorem qQD {a b:Rank} (h:(!(decide (a.1.1=b.1.1)&&(decide (a.1.2.1=b.1.2.1)&&(decide (a.1.2.2=b.1.2.2)&&decide (a.2=b.2)))))=false):a=b:=by
 simp only[Bool.not_eq_eq_eq_not,Bool.not_false,gx,decide_eq_true_eq]at h;exact go (go h.1 (go h.2.1 h.2.2.1)) h.2.2.2
theorem qQC {a b:Rank} (h:(!(decide (a.1.1=b.1.1)&&(decide (a.1.2.1=b.1.2.1)&&(decide (a.1.2.2=b.1.2.2)&&decide (a.2=b.2)))))=true):a≠b:=by
 rintro rfl;simp at h
theorem SO {b:Bool} (h:b=true):¬b=false:=by rw[h];exact Bool.noConfusion
theorem qMI (s:Schema) (l:List Rec):(dV s l).2.1.length=s.1.length:=by simp [dV,dC]
theorem CJ {s:Schema} {file:ByteArray} {n i:Int} {l:List Int} (h:(lS s file n l i).2=0):((lS s file n l i).1.length:Int)=n:=by
 unfold lS at h ⊢;split at h
 ·rename_i q;exact absurd h q
 ·split at h
  ·cases h
  ·rename_i h1 h2
   rw[if_neg h1,if_neg h2];exact Decidable.not_not.1 h2
abbrev HC:Ct:=.fn [cX,.str] (some (fun(s:Schema) (file:ByteArray)=>(file.size<=288230376151711744))) (fun(s:Schema) (file:ByteArray)=>.tup [ZM,.int .i64] ((bE s file).1,(bE s file).2.2,()))
theorem qPH:aH Tryz.prog 19 HC:=by
 refine aH.fn qAC mixed [] [] rfl rfl ?_;rintro⟨(s:Schema),(file:ByteArray),_⟩ hpre;replace hpre:=hpre _ rfl;dsimp only[cu]at hpre;have hs:=hpre;refine⟨[],?_⟩;repeat' (first
  |(
 with_reducible apply Side.mk
 (try dsimp only[cu,aC,aB,gts,loK,hiK,eE,eN])
 omega)
  |(conv=>whnf
    first
     |with_reducible first|done|exact trivial|refine NilBr.mk (fun h=>?_) ?_|apply aL|apply aK|refine aM kr ?_|apply aN|apply bL|apply bK|apply aU
     |((with_reducible first|apply aW|apply aV|apply bH)<;>intro h<;>(try dsimp only[cu,eE,eN]at h)<;>(try(exfalso;omega)))))
 all_goals(
 with_reducible apply Leaf.mk
 (try dsimp only[cu,aC,aB,gts,eE,eN]at *)
 done)
abbrev qRK:Tbl:=(19,HC)::qW9
theorem qK:aD Tryz.prog qRK:=aD.cons qPH qAC
abbrev HD:Ct:=.fn [cX,.str] (some (fun(s:Schema) (file:ByteArray)=>(file.size<=288230376151711744))) (fun(s:Schema) (file:ByteArray)=>.tup [.list gZ,.int .i64] ((oO s file).1,(oO s file).2,()))
theorem qPJ:aH Tryz.prog 18 HD:=by
 refine aH.fnG (T:=qRK) [(0,4,2)] [] rfl rfl ?_;rintro⟨(s:Schema),(file:ByteArray),_⟩ hpre;replace hpre:=hpre _ rfl;dsimp only[cu]at hpre;have hs:=hpre;refine⟨[],?_⟩;repeat' (first
  |(
 with_reducible refine Side.mk ⟨(⟨⟩:Tag 66),?_⟩
 dsimp only[cu,aC,aB,gts,eE,eN]
 refine⟨?_,?_,?_⟩
 ·omega
 ·first
  |exact(qZP _ _ _).symm
  |(
  have hil:(((lS s file (bE s file).1.1 (bE s file).2.1 i).1.length:Nat):Int)=(bE s file).1.1:=CJ wa
  rw[hS2,show k.toNat=(bE s file).1.1.toNat by omega,qLB,show(i+1).toNat=i.toNat+1 by omega])
 ·first
  |rfl
  |(
  have hfo:=(pI s file).2.2 wa
  obtain⟨_,fo1,fo2,fo3,fo4,fo5⟩:=hfo
  have fo6:=bI fo5
  rw[he]
  exact qKI (m:=((s.1.length:Int)+1)) ⟨om,om⟩ (by
   show(lS s file (bE s file).1.1 (bE s file).2.1 ((i.toNat:Nat):Int)).2=0;rw[hic];with_reducible assumption)))
  |(
 with_reducible refine Side.mk ⟨(⟨⟩:Tag 67),?_⟩
 dsimp only[cu,aC,aB,gts,eE,eN]
 refine⟨?_,?_⟩
 ·omega
 ·first
  |exact hR
  |(
  have hfo:=(pI s file).2.2 wa
  obtain⟨_,fo1,fo2,fo3,fo4,fo5⟩:=hfo
  have fo6:=bI fo5
  first
  |(
   have hi2:i.toNat<s.1.length:=om
   rw[hS2,show(k+1).toNat=k.toNat+1 by omega,hra,<-hvi];exact qQO hkr hi2)
  |(
   have hi2:i.toNat=s.1.length:=om
   rw[hS2,show(k+1).toNat=k.toNat+1 by omega,hra,<-hvi];exact qQP hkr hi2)))
  |(
 with_reducible apply Side.mk
 (try dsimp only[cu,aC,aB,gts,loK,hiK,eE,eN])
 first
 |done
 |omega
 |simp only[gh,gb,ge];omega
 |(
  have hfo:=(pI s file).2.2 wa;obtain⟨_,fo1,fo2,fo3,fo4,fo5⟩:=hfo;have fo6:=bI fo5;first
  |omega
  |(exact⟨om,hs,fo2⟩))
 |exact⟨rfl,rfl,rfl,rfl⟩
 |exact⟨⟨rfl,rfl,rfl,rfl⟩,rfl,rfl,sm,dc,rfl⟩
 |(
  have hfo:=(pI s file).2.2 wa;obtain⟨_,fo1,fo2,fo3,fo4,fo5⟩:=hfo;have fo6:=bI fo5;have hrl:R.length=(bE s file).1.1.toNat:=by rw[hR,kA]
  first
  |omega
  |(
   rw[qMI];omega))
 |(
  have hil:(((lS s file (bE s file).1.1 (bE s file).2.1 i).1.length:Nat):Int)=(bE s file).1.1:=CJ wa;omega)
 |(
  have hr2:rows.length=(bE s file).1.1.toNat:=hrows;omega)
 |(
  have hfo:=(pI s file).2.2 wa;obtain⟨_,fo1,fo2,fo3,fo4,fo5⟩:=hfo;have fo6:=bI fo5;have hr2:=qK9 (chL s file (bE s file)) s.1.length i.toNat k.toNat k.toNat;rw[<-hra]at hr2;simp only[gb,ge];omega)
 |(kernel_rfl))
  |(conv=>whnf
    first
     |refine GoV.x 6 qK mixed (iS qK mixed [(0,4,2)] [] 4 _ _) (by exact rfl) ?_
     |refine GoV.nest (tO:=gZ) (t:=bU) 6 9 1 (fun a=>a.2) 56 43 (((0,[]):Rec)) qPS rfl rfl (by exact rfl) ?_
     |refine GoV.sq ?_
     |intro(nb:Nat) (no:Nat) (hS:Heap) (ιS:Iota) (wS:World)
     |intro(rows:List (List V)) (hrows:rows.length=_)
     |intro(nv:Value)
     |refine GoN.x 12 qK mixed (iS qK mixed [(0,4,2)] [] 4 _ _) (by exact rfl) (by exact rfl) ?_
     |refine GoN.block ?_
     |refine GoN.sq ?_
     |refine GoN.loop 6 [.sl 31 (.int .i64)] (fun y (R:List (Ty.den gZ))=>Tag 66/\cu [.int .i64] (fun(i:Int)=>fun(R:List (Ty.den gZ))=>(0<=i/\i<=(bE s file).2.1.length)/\(R=uU (chL s file (bE s file)) s.1.length (bE s file).1.1.toNat i.toNat 0)/\(BL (chE s file (bE s file)) (s.1.length+1) 0=BL (chE s file (bE s file)) (((s.1.length:Int)+1)-i).toNat i.toNat)) y R) (fun y _=>cu [.int .i64] (fun(i:Int)=>((bE s file).2.1.length-i).toNat) y) (by exact rfl) (by exact rfl) ?_ ?_
     |refine GoN.loopF (qPS _ _ _) qK mixed (iS qK mixed [(0,4,2)] [] 4 _ _) 12 [.sl 49 (.int .i64)] (fun y (R:List (Ty.den gZ))=>Tag 67/\cu [.int .i64] (fun(k:Int)=>fun(R:List (Ty.den gZ))=>(0<=k/\k<=(lS s file (bE s file).1.1 (bE s file).2.1 i).1.length)/\(R=uU (chL s file (bE s file)) s.1.length (bE s file).1.1.toNat i.toNat k.toNat)) y R) (fun y _=>cu [.int .i64] (fun(k:Int)=>((lS s file (bE s file).1.1 (bE s file).2.1 i).1.length-k).toNat) y) (cu [.int .i64] (fun(k:Int)=>k.toNat)) (by exact rfl) (by exact rfl) ?_ ?_ ?_
     |(
 intro yy (R:List (Ty.den gZ)) (hy:Tag 66/\_)
 obtain⟨(i:Int),_⟩:=yy
 replace hy:=hy.2
 dsimp only[cu,aC,aB,gts,eE,eN]at hy
 obtain⟨hi,hR,he⟩:=hy
 have hic:((i.toNat:Nat):Int)=i:=om
 have hvi:chL s file (bE s file) i.toNat=(lS s file (bE s file).1.1 (bE s file).2.1 i).1:=by
  show(lS s file (bE s file).1.1 (bE s file).2.1 ((i.toNat:Nat):Int)).1=_;rw[hic])
     |(
 intro yy (R:List (Ty.den gZ)) (ra:Ty.den gZ) (hy:Tag 67/\_) hra
 obtain⟨(k:Int),_⟩:=yy
 replace hy:=hy.2
 dsimp only[cu,aC,aB,gts,eE,eN]at hy hra
 obtain⟨hk,hS2⟩:=hy
 have hkr:=aI hra
 rw[hS2]at hra hkr
 rw[kA]at hkr
 replace hra:=qVD hkr hra)
     |(
 intro yy (R:List (Ty.den gZ)) (hy:Tag 67/\_) hle
 obtain⟨(k:Int),_⟩:=yy
 replace hy:=hy.2
 dsimp only[cu,aC,aB,gts,eE,eN]at hy hle
 obtain⟨hk,hS2⟩:=hy
 rw[hS2,kA]at hle
 have hil:(((lS s file (bE s file).1.1 (bE s file).2.1 i).1.length:Nat):Int)=(bE s file).1.1:=CJ wa)
     |with_reducible first|done|exact trivial|refine NilBr.mk (fun h=>?_) ?_|apply aL|apply aK|refine aM kr ?_|apply aN|apply bL|apply bK|apply aU
     |((with_reducible first|apply aW|apply aV|apply bH)<;>intro h<;>(try dsimp only[cu,eE,eN]at h)<;>(try(exfalso;omega)))))
 all_goals(
 with_reducible apply Leaf.mk
 (try dsimp only[cu,aC,aB,gts,eE,eN]at *)
 first
 |rw[oO,zY,if_pos wa]
 |(
  have hfo:=(pI s file).2.2 wa;obtain⟨_,fo1,fo2,fo3,fo4,fo5⟩:=hfo;have fo6:=bI fo5;first
  |(
   have hfe:=qKJ (f:=chE s file (bE s file)) (m:=((s.1.length:Int)+1)) (i:=i) ⟨om,om⟩ (by
    show(lS s file (bE s file).1.1 (bE s file).2.1 ((i.toNat:Nat):Int)).2≠0;rw[hic];with_reducible assumption)
   have hfe2:chE s file (bE s file) i.toNat=(lS s file (bE s file).1.1 (bE s file).2.1 i).2:=by
    show(lS s file (bE s file).1.1 (bE s file).2.1 ((i.toNat:Nat):Int)).2=_;rw[hic]
   rw[hfe2,<-he]at hfe;rw[oO,zY,if_neg (fun q=>q wa),if_pos (by rw[hfe];with_reducible assumption),hfe])
  |(
   have hie:i=((s.1.length:Int)+1):=om
   have hz:BL (chE s file (bE s file)) (s.1.length+1) 0=0:=by
    rw[he,show(((s.1.length:Int)+1)-i).toNat=0 by omega];rfl
   have hRL:qQN s file (bE s file)=R:=by rw[hR,qQN,show i.toNat=s.1.length+1 by omega]
   first
   |rw[oO,zY,if_neg (fun q=>q wa),if_neg (fun q=>q hz),hRL,KE,if_pos (qKX wa)]
   |rw[oO,zY,if_neg (fun q=>q wa),if_neg (fun q=>q hz),hRL,KE,if_neg (SO (oC (b:=dN s R) wa)),if_pos (.inl (qQC wa))]
   |rw[oO,zY,if_neg (fun q=>q wa),if_neg (fun q=>q hz),hRL,KE,if_neg (SO (oC (b:=dN s R) wa)),if_pos (.inr (.inl (qQC wa)))]
   |rw[oO,zY,if_neg (fun q=>q wa),if_neg (fun q=>q hz),hRL,KE,if_neg (SO (oC (b:=dN s R) wa)),if_pos (.inr (.inr wa))]
   |(
    rw[oO,zY,if_neg (fun q=>q wa),if_neg (fun q=>q hz),hRL,KE,if_neg (SO (oC (b:=dN s R) wa)),if_neg (fun x=>by
     rcases x with x|x|x
     ·exact x (qQD wa)
     ·exact x (qQD wa)
     ·exact x wa)]))))
abbrev qXA:Tbl:=(18,HD)::qRK
theorem qAD:aD Tryz.prog qXA:=aD.cons qPJ qK
theorem qKZ {b:ByteArray} (h:1<=b.size):iF (dH b)=0/\iZ (dH b)=b:=by
 have hb:iZ (dH b)=b:=qLM b;refine⟨?_,hb⟩;rw[iF,if_neg (by rw[mX];omega),hb,if_neg (fun q=>q rfl)]
theorem GD {a b:ByteArray} {k:Nat} (h:k<a.size):aG (a++b) k=aG a k:=by
 rw[<-hE,<-hE,bG,gy,kq (by rw[aR];exact h),<-gy]
theorem qEV {k:Int} (h:0<=k/\k<256) (l:List Val):aG (oM k l) 0=k:=by
 unfold oM;have h1:(aT [IntKind.u8.wrap k]).size=1:=rfl;rw[GD (by rw[ga];omega),GD om,<-hE,bD (fun b hb=>by rw[List.mem_singleton.1 hb];exact nJ k)];show IntKind.u8.wrap k=k;exact KW h
theorem qJT {t k:Int} (h:0<=k/\k<256) (l:List Val):aG (bZ t k l) 0=k:=by
 have h1:=BN k l;by_cases q:(bC l).length<l.length
 ·rw[IE q,GD (by rw[ga];omega),GD om,qEV h]
 ·rw[ID q,GD om,qEV h]
theorem qBG {t k:Int} {l:List Val} (hv:∀v,v∈l->okV v) (hl:l.length<=4096):(dX t k l).size<=4398046585379/\5<=(dX t k l).size:=by
 have:=DO (t:=t) (k:=k) hv hl;rw[dX,mX];omega
theorem mN {x:Int} (h:x=0):¬x≠0:=fun q=>q h
theorem xL {c:Col} {v:Val} (h:aZ c v=0) (hn:v.1=true):v=NV:=by
 obtain⟨x,y,z⟩:=v;have e1:x=true:=hn;subst e1;unfold aZ at h;split at h
 ·cases h
 ·split at h
  ·cases h
  ·rename_i h2
   split at h
   ·cases h
   ·rename_i h3
    have e2:z=EMP:=Decidable.not_not.1 fun q=>h2 ⟨.inl rfl,q⟩
    have e3:y=0:=Decidable.not_not.1 fun q=>h3 ⟨.inl rfl,q⟩
    subst e2 e3;rfl
def gF (c:Col):List Val->Int
 | []=>0
 |v::r=>if aZ c v≠0 then aZ c v else gF c r
def bst (t:Int) (l:List Val):Nat->Int->ByteArray->ByteArray
 |0,_,b=>b
 |n+1,k,b=>bst t l n (k+1) (if bY t k=true then(if b=⟨#[]⟩\/(dX t k l).size<b.size then dX t k l else b)else b)
def rQ (c:Col) (l:List Val):ByteArray×Int:=
 if bJ c.2.1=false then(⟨#[]⟩,1)else if l.length>4096 then(⟨#[]⟩,7)else if gF c l≠0 then(⟨#[]⟩,gF c l)else(bst c.2.1 l 4 1 ⟨#[]⟩,0)
theorem DN {c:Col} {l:List Val} {k:Int} (h:0<=k/\k<l.length):gF c (l.drop k.toNat)=if aZ c l[k.toNat]! ≠0 then aZ c l[k.toNat]! else gF c (l.drop (k+1).toNat):=by
 rw[bQ l k h];rfl
theorem mE {c:Col}:∀ {l:List Val},gF c l=0->∀v,v∈l->aZ c v=0
 | [],_,v,hv=>by cases hv
 |x::r,h,v,hv=>by
  rw[gF]at h;split at h
  ·rename_i q;exact absurd h q
  ·rename_i q
   rcases List.mem_cons.1 hv with p|p
   ·rw[p];exact Decidable.not_not.1 q
   ·exact mE h v p
theorem eO {c:Col} {v:Val} (h:aZ c v=0) (hi:inI v.2.1):okV v:=by
 refine⟨?_,hi⟩;by_cases hn:v.1=true
 ·rw[xL h hn];exact gz _
 ·have hn:v.1=false:=by simpa using hn
  unfold aZ at h;split at h
  ·cases h
  ·split at h
   ·cases h
   ·rename_i h2
    split at h
    ·cases h
    ·split at h
     ·cases h
     ·split at h
      ·cases h
      ·rename_i h5
       by_cases ht:c.2.1=3
       ·have hp:dQ c.2.1 v=true:=by
          refine Decidable.not_not.1 fun q=>h5 ⟨hn,by simpa using q⟩
        unfold dQ at hp;rw[if_neg om,if_neg om,if_neg om,if_pos ht]at hp;have:=of_decide_eq_true hp;omega
       ·have e:v.2.2=EMP:=Decidable.not_not.1 fun q=>h2 ⟨.inr ht,q⟩
        rw[e];exact gz _
theorem qNF {t:Int} {l:List Val}:∀(n:Nat) (k:Int) (b:ByteArray),(b=⟨#[]⟩\/∃j,bY t j=true/\b=dX t j l)->(bst t l n k b=⟨#[]⟩\/∃j,bY t j=true/\bst t l n k b=dX t j l)
 |0,k,b,h=>h
 |n+1,k,b,h=>by
  refine qNF n (k+1) _ ?_;split
  ·rename_i hu
   split
   ·exact .inr ⟨k,hu,rfl⟩
   ·exact h
  ·exact h
def dY:List ByteArray->ByteArray
 | []=>⟨#[]⟩
 |b::l=>b++dY l
def mG (s:Schema) (l:List Rec) (i:Nat):List Val:=if i=s.1.length then kB l else jW l i
def chnk (s:Schema) (l:List Rec) (i:Nat):ByteArray:=(rQ (kX s i) (mG s l i)).1
def chnks (s:Schema) (l:List Rec):List ByteArray:=(List.range (s.1.length+1)).map (chnk s l)
def szB (b:ByteArray):ByteArray:=aT (put (b.size:Int))
def jY (s:Schema) (l:List Rec):ByteArray:=aT (four (pX (wI s)))++aT (put (l.length:Int))++dY ((chnks s l).map szB)++dY ((dC s l (List.range s.1.length)).map sA)++dG (fD s l[0]!)++dG (fD s l[l.length-1]!)
def fO (C F:ByteArray):ByteArray:=lD++C++F++aT (four (F.size:Int))++lD
def eT (s:Schema) (l:List Rec):ByteArray:=fO (dY (chnks s l)) (dH (jY s l))
def lV (s:Schema) (l:List Rec):ByteArray×Int:=if aS s≠0 then(⟨#[]⟩,aS s)else if l.length>1024 then(⟨#[]⟩,7)else if l.length=0\/dN s l=false then(⟨#[]⟩,1)else(eT s l,0)
theorem HY (a b:List ByteArray):dY (a++b)=dY a++dY b:=by
 induction a with
 |nil=>exact ByteArray.empty_append.symm
 |cons x a ih=>rw[kw,dY,dY,ih,ka]
def lB (b:ByteArray):Int:=(b.size:Int)
theorem vL (l:List ByteArray):((dY l).size:Int)=fU (l.map lB):=by
 induction l with
 |nil=>rfl
 |cons b l ih=>rw[dY,ga];simp only[kc,fU,List.foldr_cons]at ih ⊢;rw[Int.natCast_add,ih];rfl
theorem vN {s:ByteArray} {a:Nat} {x:Int} {r:List Int} (h:(aE s).drop a=x::r):aG s a=x/\(aE s).drop (a+1)=r/\a+1<=s.size:=by
 have hl:=congrArg List.length h;simp only[gi,gb,aR]at hl;refine⟨?_,by rw[<-ko,h];rfl,om⟩;rw[<-hE,gy,show a=a+0 from rfl,<-ul,h];rfl
theorem tA {s:ByteArray} {a:Nat} {u:Int} {r:List Int} (hu:0<=u/\u<18446744073709551616) (h:(aE s).drop a=put u++r) :
  aA s a=(u,((a+(put u).length:Nat):Int),0)/\(aE s).drop (a+(put u).length)=r/\a+(put u).length<=s.size:=by
 have hg:=nI hu h;have hl:=congrArg List.length h;simp only[gi,gh,aR]at hl;have hp:=bW u;exact⟨by rw[hg,Int.natCast_add],by rw[<-ko,h,List.drop_left],om⟩
theorem iR {s w:ByteArray} {a:Nat} {r:List Int} (h:(aE s).drop a=aE w++r):s.extract a (a+w.size)=w/\(aE s).drop (a+w.size)=r/\w.size<=s.size-a:=by
 have hl:=congrArg List.length h;simp only[gi,gh,aR]at hl;refine⟨hU ?_,by rw[<-ko,h,<-aR w,List.drop_left],om⟩;rw[XB,h,show a+w.size-a=(aE w).length by rw[aR];omega,List.take_left]
def IX (v:Val):Prop:=(v.1=true->v=fC)/\inI v.2.1/\v.2.2.size<=1048576
theorem BM {s:ByteArray} {a:Nat} {v:Val} {r:List Int} (hv:IX v) (h:(aE s).drop a=aE (zU v)++r) :
  dT s a=(v,((a+(zU v).size:Nat):Int),0)/\(aE s).drop (a+(zU v).size)=r:=by
 obtain⟨hn,hi,hz⟩:=hv;refine⟨?_,(iR h).2.1⟩;by_cases q:v.1=true
 ·have e:=hn q
  subst e;obtain⟨d1,d2,d3⟩:=vN (x:=0) h;rw[dT,if_neg om,if_neg om,show((a:Int)).toNat=a from rfl,d1,if_neg dc,if_pos rfl];rfl
 ·have q:v.1=false:=by simpa using q
  rw[qP7 q]at h ⊢;rw[bG,bG,bG,bD (gE (iC hi)),bD (gE ⟨om,om⟩),gc,gc,gc]at h;obtain⟨d1,d2,d3⟩:=vN (x:=1) h;obtain⟨n1,n2,n3⟩:=tA (iC hi) d2;obtain⟨m1,m2,m3⟩:=tA (u:=(v.2.2.size:Int)) ⟨om,om⟩ n2;obtain⟨w1,w2,w3⟩:=iR m2;rw[show(((a+1:Nat)):Int)=(a:Int)+1 from rfl]at n1;rw[dT,if_neg om,if_neg om,show((a:Int)).toNat=a from rfl,d1,if_neg dc,if_neg dc,n1];simp only;rw[m1];simp only[ne_eq,not_true_eq_false,if_false];rw[if_neg om];refine go ?_ (go ?_ rfl)
  ·obtain⟨x,y,z⟩:=v
   (try simp only at q w1 ⊢);subst q;refine go rfl (go (AQ y) ?_);rw[show((a+1+(put (eK y)).length+(put (z.size:Int)).length:Nat):Int).toNat=a+1+(put (eK y)).length+(put (z.size:Int)).length from rfl,show(((a+1+(put (eK y)).length+(put (z.size:Int)).length:Nat):Int)+(z.size:Int)).toNat=a+1+(put (eK y)).length+(put (z.size:Int)).length+z.size by omega];exact w1
  ·simp only[ga,bO]
   have:(⟨#[1]⟩:ByteArray).size=1:=rfl;omega
def uM (z:Zone):Prop:=(0<=z.1/\z.1<=4096)/\(0<=z.2.1/\z.2.1<=4096)/\IX z.2.2.1/\IX z.2.2.2
theorem qa9 {n:Int} (h:0<=n):cH 0 n=n:=by unfold cH;split<;>omega
theorem qKK {s:ByteArray} {a:Nat} {z:Zone} {r:List Int} (hz:uM z) (h:(aE s).drop a=aE (sA z)++r) :
  gG s a=(z,((a+(sA z).size:Nat):Int),0)/\(aE s).drop (a+(sA z).size)=r:=by
 obtain⟨h1,h2,h3,h4⟩:=hz;refine⟨?_,(iR h).2.1⟩;rw[sA,qa9 h1.1,qa9 h2.1]at h ⊢;rw[bG,bG,bG,bD (gE ⟨h1.1,om⟩),bD (gE ⟨h2.1,om⟩),gc,gc,gc]at h;obtain⟨n1,n2,n3⟩:=tA (u:=z.1) ⟨h1.1,om⟩ h;obtain⟨m1,m2,m3⟩:=tA (u:=z.2.1) ⟨h2.1,om⟩ n2;obtain⟨v1,v2⟩:=BM h3 m2;obtain⟨w1,w2⟩:=BM h4 v2;rw[gG,n1];simp only[ne_eq,not_true_eq_false,if_false];rw[if_neg om,m1];simp only[ne_eq,not_true_eq_false,if_false];rw[if_neg om,v1];simp only[ne_eq,not_true_eq_false,if_false];rw[w1];simp only[ne_eq,not_true_eq_false,if_false];refine go rfl (go ?_ rfl);simp only[ga,bO];omega
def zF (s:Schema) (r:Rank):Prop:=IX r.1/\aZ (BS s) r.1=0/\0<=r.2/\r.2<=1099511627776
theorem PQ {s:Schema} {f:ByteArray} {a:Nat} {k:Rank} {r:List Int} (hk:zF s k) (h:(aE f).drop a=aE (dG k)++r) :
  kN s f a=(k,((a+(dG k).size:Nat):Int),true)/\(aE f).drop (a+(dG k).size)=r:=by
 obtain⟨h1,h2,h3⟩:=hk;refine⟨?_,(iR h).2.1⟩;unfold dG at h ⊢;rw[bG,bD (gE ⟨h3.1,om⟩),gc]at h;obtain⟨v1,v2⟩:=BM h1 h;obtain⟨n1,n2,n3⟩:=tA (u:=k.2) ⟨h3.1,om⟩ v2;rw[kN,v1];simp only;rw[if_neg (by rintro(q|q);exact q rfl;exact q h2),n1];simp only;rw[if_neg (by rintro(q|q);exact q rfl;omega)];refine go rfl (go ?_ rfl);simp only[ga,bO];omega
theorem YV {f:ByteArray} {b:Int}:∀(cs:List ByteArray) (l:List Int) (a:Nat) (r:List Int),(∀c,c∈cs->(c.size:Int)<=b/\c.size<=4398046585379)->(aE f).drop a=aE (dY (cs.map szB))++r ->
  rfN f b cs.length (offs l) a=(offs (l++cs.map lB),((a+(dY (cs.map szB)).size:Nat):Int),true)
 | [],l,a,r,_,h=>by rw[ge,rfN];simp [dY];rfl
 |c::cs,l,a,r,hc,h=>by
  have h0:=hc c (kh ..);rw[kc,dY,bG,gc,szB,bD (gE ⟨om,om⟩)]at h;obtain⟨n1,n2,n3⟩:=tA (u:=(c.size:Int)) ⟨om,om⟩ h;rw[gb,rfN,n1];simp only;rw[if_neg (by rintro(q|q);exact q rfl;omega),<-XK,YV cs _ _ r (fun x hx=>hc x (ke _ hx)) n2];refine go ?_ (go ?_ rfl)
  ·simp only[gc,kc,List.singleton_append];rfl
  ·simp only[kc,dY,ga,szB,bO];omega
theorem ZE {f:ByteArray} {rows:Int}:∀(cs:List Col) (zs z:List Zone) (a:Nat) (r:List Int),cs.length=zs.length->(∀i:Nat,i<cs.length->uM zs[i]! /\lU cs[i]! zs[i]! =true/\zs[i]!.1=rows)->(aE f).drop a=aE (dY (zs.map sA))++r ->
  rzN f rows cs z a=(z++zs,((a+(dY (zs.map sA)).size:Nat):Int),true)
 | [],[],z,a,r,_,_,h=>by rw[rzN];simp [dY];rfl
 | [],_::_,_,_,_,hl,_,_=>by cases hl
 |_::_,[],_,_,_,hl,_,_=>by cases hl
 |c::cs,y::zs,z,a,r,hl,hz,h=>by
  obtain⟨g1,g2,g3⟩:=hz 0 (Nat.zero_lt_succ _);have g1:uM y:=g1;have g2:lU c y=true:=g2;have g3:y.1=rows:=g3;rw[kc,dY,bG,gc]at h;obtain⟨n1,n2⟩:=qKK g1 h;rw[rzN,n1];simp only;rw[if_neg (by rintro(q|q|q);exact q rfl;rw[g2]at q;cases q;exact q g3),ZE cs zs _ _ r (by simpa using hl) (fun i hi=>hz (i+1) (by simpa using hi)) n2];refine go sm (go ?_ rfl);simp only[kc,dY,ga];omega
theorem SB (s:ByteArray):0<=pX s/\pX s<4294967296:=by
 unfold pX LR;rw[if_pos qBP];exact UV _ _
theorem qB7 {v:Int} (h:0<=v/\v<4294967296):four v= [v%256,v/256%256,v/65536%256,v/16777216]:=by
 obtain⟨e1,e2,e3⟩:=qbI h.1;simp only[four,e1,e2,e3,qR1];rw[show v/16777216%256=v/16777216 by omega]
theorem wG {s:ByteArray} {a:Nat} {v:Int} {r:List Int} (hv:0<=v/\v<4294967296) (h:(aE s).drop a=four v++r):dS s a=v/\(aE s).drop (a+4)=r:=by
 rw[qB7 hv]at h;obtain⟨a1,a2,_⟩:=vN h;obtain⟨b1,b2,_⟩:=vN a2;obtain⟨c1,c2,_⟩:=vN b2;obtain⟨d1,d2,_⟩:=vN c2;refine⟨?_,d2⟩;unfold dS;rw[show((a:Int)).toNat=a from rfl,show((a:Int)+1).toNat=a+1 from rfl,show((a:Int)+2).toNat=a+1+1 from rfl,show((a:Int)+3).toNat=a+1+1+1 from rfl,a1,b1,c1,d1,qV8 om om om om];omega
structure Made (s:Schema) (l:List Rec):Prop where
 sch:aS s=0
 len:1<=l.length/\l.length<=1024
 chunk:∀c,c∈chnks s l->c.size<=4398046585379
 zone:∀i:Nat,i<s.1.length->uM (qO s.1[i]!.2.1 (jW l i))/\lU s.1[i]! (qO s.1[i]!.2.1 (jW l i))=true
 lo:zF s (fD s l[0]!)
 hi:zF s (fD s l[l.length-1]!)
 le:¬eC (BS s).2.1 (fD s l[0]!) (fD s l[l.length-1]!)>0
theorem kV (s:Schema) (l:List Rec):(chnks s l).length=s.1.length+1:=by simp [chnks]
theorem qGB:∀(cs:List ByteArray) (c:ByteArray),c∈cs->(c.size:Int)<=fU (cs.map lB)
 | [],_,h=>by cases h
 |x::cs,c,h=>by
  have nn:∀l:List ByteArray,0<=fU (l.map lB):=fun l=>by rw[<-vL];omega
  have h1:=nn cs;have e:fU ((x::cs).map lB)=(x.size:Int)+fU (cs.map lB):=rfl;rw[e];rcases List.mem_cons.1 h with q|q
  ·subst q;omega
  ·have:=qGB cs c q;omega
theorem qK8 {s:Schema} {l:List Rec} (m:Made s l):tS s (jY s l) (4+fU ((chnks s l).map lB))=((((l.length:Int),dC s l (List.range s.1.length),fD s l[0]!,fD s l[l.length-1]!),offs ((chnks s l).map lB),4+fU ((chnks s l).map lB)),true):=by
 have h:(aE (jY s l)).drop 0=four (pX (wI s))++(put (l.length:Int)++(aE (dY ((chnks s l).map szB))++(aE (dY ((dC s l (List.range s.1.length)).map sA))++(aE (dG (fD s l[0]!))++(aE (dG (fD s l[l.length-1]!))++ []))))):=by
  rw[kp,jY];simp only[bG,bD (zC _),bD (gE ⟨show(0:Int)<=(l.length:Int)by omega,by have:=m.len;omega⟩),gc,gr]
 obtain⟨_,w2⟩:=wG (SB _) h;rw[show 0+4=4 from rfl]at w2;have hl:=m.len;obtain⟨n1,n2,n3⟩:=tA (u:=(l.length:Int)) ⟨om,om⟩ w2;have c1:=YV (b:=4+fU ((chnks s l).map lB)) (chnks s l) [] _ _ (fun c hc=>⟨by have:=qGB _ c hc;omega,m.chunk c hc⟩) n2;have c2:=(iR n2).2.1;have zl:(dC s l (List.range s.1.length)).length=s.1.length:=by simp [dC]
 have z1:=ZE (rows:=(l.length:Int)) s.1 (dC s l (List.range s.1.length)) [] _ _ zl.symm (fun i hi=>by
  have e:(dC s l (List.range s.1.length))[i]! =qO s.1[i]!.2.1 (jW l i):=by
   rw[getElem!_pos _ i (by rw[zl];exact hi)];simp [dC]
  rw[e];obtain⟨q1,q2⟩:=m.zone i hi;exact⟨q1,q2,by rw[qO,gN]⟩) c2
 have z2:=(iR c2).2.1;obtain⟨r1,r2⟩:=PQ m.lo z2;obtain⟨s1,s2⟩:=PQ m.hi r2;have e0:=congrArg List.length s2;simp only[gi,aR,ge]at e0;have e1:=(iR r2).2.2;rw[tS,show(4:Int)=((4:Nat):Int)from rfl,n1];simp only;rw[if_neg (by rintro(q|q|q);exact q rfl;omega;omega)];rw[show[((4:Nat):Int)]=offs []from rfl,<-kV s l,show(((4:Nat):Int))=4 from rfl,c1,rP1];simp only[kg];rw[if_neg (by rintro(q|q);cases q;exact q (vT _)),z1,rP2];simp only[kg];rw[if_neg (by intro q;cases q),r1,rP3];simp only;rw[if_neg (by intro q;cases q),s1,rP4,if_neg];rintro(q|q|q)
 ·cases q
 ·have u1:=(iR n2).2.2
  have u2:=(iR c2).2.2;have u3:=(iR z2).2.2;simp only at q;omega
 ·exact m.le q
theorem QR {C F:ByteArray}:aE (fO C F)=aE lD++(aE C++(aE F++(four (F.size:Int)++aE lD))):=by
 unfold fO;simp only[bG,bD (zC _),gc]
theorem wH (C F:ByteArray):(fO C F).size=12+C.size+F.size:=by
 unfold fO;simp only[ga,rU];have:lD.size=4:=rfl;omega
theorem qDV {C F:ByteArray} (hF:F.size<4294967296):ET (fO C F) lD=true/\EU (fO C F) lD=true/\dS (fO C F) ((fO C F).size-8)=F.size/\(fO C F).extract (4+C.size) (4+C.size+F.size)=F:=by
 have h0:(aE (fO C F)).drop 0=aE lD++(aE C++(aE F++(four (F.size:Int)++aE lD))):=QR;obtain⟨a1,a2,_⟩:=iR h0;obtain⟨b1,b2,_⟩:=iR a2;obtain⟨c1,c2,_⟩:=iR b2;obtain⟨d1,d2⟩:=wG ⟨om,om⟩ c2;obtain⟨e1,_,_⟩:=iR (s:=fO C F) (w:=lD) (r:=[]) (by rw[gr];exact d2);have hz:=wH C F;have h4:lD.size=4:=rfl;rw[h4]at a1 a2 b1 b2 c1 c2 d1 d2 e1;simp only[Nat.zero_add]at a1 a2 b1 b2 c1 c2 d1 d2 e1;refine⟨?_,?_,?_,c1⟩
 ·unfold ET;rw[h4,a1,decide_eq_true om,decide_eq_true rfl];rfl
 ·unfold EU
  rw[h4,show(fO C F).size-4=4+C.size+F.size+4 by omega,decide_eq_true (show 4<=(fO C F).size by omega)];have:(fO C F).size=4+C.size+F.size+4+4:=om
  rw[this,e1,decide_eq_true rfl];rfl
 ·rw[show(((fO C F).size:Nat):Int)-8=((4+C.size+F.size:Nat):Int)by omega];exact d1
theorem qDH {B:ByteArray}:(dH B).extract 0 B.size=B/\(aE (dH B)).drop B.size=four (pX B)++ []:=by
 have h:(aE (dH B)).drop 0=aE B++(four (pX B)++ []):=by
  rw[kp,dH,bG,bD (zC _),gr]
 obtain⟨a1,a2,_⟩:=iR h;simp only[Nat.zero_add]at a1 a2;exact⟨a1,a2⟩
theorem qKG {s:Schema} {C B:ByteArray} (h0:aS s=0) (h4:4<=B.size) (hB:B.size<4294967290) :
  bE s (fO C (dH B))=if dS B 0≠pX (wI s)then(iW,[],1)else zQ s (B.extract 4 B.size) (fO C (dH B)).size C.size:=by
 generalize hR:(if dS B 0≠pX (wI s)then(iW,[],1)else zQ s (B.extract 4 B.size) (fO C (dH B)).size C.size)=R;have hs:=mX B;obtain⟨f1,f2,f3,f4⟩:=qDV (C:=C) (F:=dH B) om;have hz:=wH C (dH B);obtain⟨p1,p2⟩:=qDH (B:=B);have e:(fO C (dH B)).extract (4+C.size) (4+C.size+B.size)=B:=by
  have h1:((fO C (dH B)).extract (4+C.size) (4+C.size+(dH B).size)).extract 0 B.size=B:=by rw[f4];exact p1
  rw[gq,show 4+C.size+0=4+C.size from rfl,show min (4+C.size+B.size) (4+C.size+(dH B).size)=4+C.size+B.size by omega]at h1;exact h1
 have w:dS (fO C (dH B)) ((fO C (dH B)).size-12)=pX B:=by
  have h1:dS ((fO C (dH B)).extract (4+C.size) (4+C.size+(dH B).size)) (B.size:Int)=pX B:=by rw[f4];exact(wG (SB B) p2).1
  rw[pN om om]at h1;rw[show((fO C (dH B)).size:Int)-12=((4+C.size:Nat):Int)+(B.size:Int)by omega];exact h1
 generalize fO C (dH B)=W at *;rw[bE,if_neg (fun q=>q h0),if_neg om,f3,OO,if_neg om,if_neg (by rw[f1,f2];rintro(q|q|q);cases q;cases q;omega),show(W.size:Int)-8-((dH B).size:Int)=((4+C.size:Nat):Int)by omega,show W.size-12=4+C.size+B.size by omega,kt,e,pY,w,if_neg (fun q=>q rfl),show(W.size:Int)-12-((dH B).size:Int)=(C.size:Int)by omega];exact hR
theorem vK {m:Nat}:∀ {l:List ByteArray},(∀b,b∈l->b.size<=m)->(dY l).size<=m*l.length
 | [],_=>gz _
 |b::l,h=>by
  have h1:=h b (kh ..);have h2:=vK fun x hx=>h x (ke _ hx)
  rw[dY,ga,gb,Nat.mul_succ];omega
theorem qVA (v:Val):1<=(zU v).size:=by
 unfold zU;split
 ·exact kd 1
 ·simp only[ga]
  have s1:(⟨#[1]⟩:ByteArray).size=1:=rfl;omega
theorem qY {s:Schema} {r:Rank} (h:zF s r):2<=(dG r).size/\(dG r).size<=1048700:=by
 have h1:=wA (v:=r.1);have h2:=qVA r.1;have h3:=bW r.2;have h4:=h.1.2.2;unfold dG;rw[ga,bO];omega
theorem AR {z:Zone} (h:uM z):(sA z).size<=2200000:=by
 obtain⟨_,_,h3,h4⟩:=h;have a1:=wA (v:=z.2.2.1);have a2:=wA (v:=z.2.2.2);have a3:=bW (cH 0 z.1);have a4:=bW (cH 0 z.2.1);have a5:=h3.2.2;have a6:=h4.2.2;unfold sA;simp only[ga,bO];omega
theorem qTQ {s:Schema} {l:List Rec} (m:Made s l):8<=(jY s l).size/\(jY s l).size<4294967290:=by
 have hs:=bI m.sch;have p1:=bW (l.length:Int);have b1:(dY ((chnks s l).map szB)).size<=10*((chnks s l).map szB).length:=vK fun b hb=>by
  obtain⟨c,_,rfl⟩:=gu.1 hb;rw[szB,bO];exact(bW _).1
 have b2:(dY ((dC s l (List.range s.1.length)).map sA)).size<=2200000*((dC s l (List.range s.1.length)).map sA).length:=vK fun b hb=>by
  obtain⟨z,hz,rfl⟩:=gu.1 hb;obtain⟨i,hi,rfl⟩:=gu.1 hz;rw[List.mem_range]at hi;exact AR (m.zone i hi).1
 rw[gn,kV]at b1;rw[gn,dC,gn,ki]at b2;have r1:=qY m.lo;have r2:=qY m.hi;have f4:(four (pX (wI s))).length=4:=rfl;unfold jY;simp only[ga,bO,rU,dC]at b2 ⊢;omega
theorem pH {s:Schema} {l:List Rec} (m:Made s l):bE s (eT s l)=(((l.length:Int),dC s l (List.range s.1.length),fD s l[0]!,fD s l[l.length-1]!),(chnks s l).map lB,0):=by
 have hsz:=qTQ m;have hw:dS (jY s l) 0=pX (wI s):=(wG (s:=jY s l) (a:=0) (SB _) (by
  rw[kp,jY];simp only[bG,bD (zC _),gc];rfl)).1
 rw[eT,qKG m.sch om hsz.2,if_neg (fun q=>q hw)];have hr:=qK8 m;obtain⟨_,p2⟩:=PL (s:=s) (f:=jY s l) (st:=4+fU ((chnks s l).map lB)) (m:=(fO (dY (chnks s l)) (dH (jY s l))).size) om (by rw[wH,<-vL];omega);obtain⟨k,e1,e2,e3,e4,e5,_⟩:=p2 (by rw[hr]);rw[show 4+fU ((chnks s l).map lB)-4=((dY (chnks s l)).size:Int)by rw[vL];omega]at e1;rw[e1,hr];rw[hr]at e2;(try simp only at e2);(try simp only);have hk:k=(chnks s l).map lB:=by
  apply List.ext_getElem
  ·rw[e3,gn,kV]
  ·intro i h1 h2
   have len:((chnks s l).map lB).length=k.length:=by rw[e3,gn,kV]
   have a0:=congrArg (fun x:List Int=>x[i]!) e2;have a1:=congrArg (fun x:List Int=>x[i+1]!) e2;rw[TH om,TH om]at a0 a1;have b0:=wF (l:=k) (k:=(i:Int)) ⟨om,om⟩;have b1:=wF (l:=(chnks s l).map lB) (k:=(i:Int)) ⟨om,om⟩;rw[show((i:Int)+1).toNat=i+1 by omega,show((i:Int)).toNat=i from rfl]at b0 b1;rw[getElem!_pos k i h1]at b0;rw[getElem!_pos _ i h2]at b1;omega
 rw[hk]
theorem NY:∀(cs:List ByteArray) (i:Nat) {f:ByteArray} {a:Nat} {r:List Int},i<cs.length->(aE f).drop a=aE (dY cs)++r ->
  f.extract (a+(dY (cs.take i)).size) (a+(dY (cs.take i)).size+(cs[i]!).size)=cs[i]!
 | [],_,_,_,_,h,_=>by cases h
 |c::cs,0,f,a,r,_,h=>by
  rw[dY,bG,gc]at h;exact(iR h).1
 |c::cs,i+1,f,a,r,hi,h=>by
  rw[dY,bG,gc]at h;have:=NY cs i (by simpa using hi) (iR h).2.1;rw[List.take_succ_cons,dY,ga];show f.extract (a+(c.size+(dY (cs.take i)).size)) (a+(c.size+(dY (cs.take i)).size)+(cs[i]!).size)=cs[i]!;rw[<-Nat.add_assoc];exact this
theorem qNK {s:Schema} {l:List Rec} {i:Nat} (hi:i<s.1.length+1):(chnks s l)[i]! =chnk s l i:=by
 rw[getElem!_pos _ i (by rw[kV];exact hi)];simp [chnks]
theorem qU6 {cs:List ByteArray} {f:ByteArray} {r:List Int} {i:Nat} (hi:i<cs.length) (h:(aE f).drop 4=aE (dY cs)++r):EC f (cs.map lB) i=cs[i]!:=by
 have e:=NY cs i hi h;have h1:fU ((cs.map lB).take i)=((dY (cs.take i)).size:Int):=by rw[<-List.map_take,vL]
 have h2:(cs.map lB)[i]! =(cs[i]!.size:Int):=by
  rw[getElem!_pos _ i (by rw[gn];exact hi),getElem!_pos cs i hi,km];rfl
 unfold EC;rw[kt,h1,h2,show(4+((dY (cs.take i)).size:Int)).toNat=4+(dY (cs.take i)).size by omega,show(4+((dY (cs.take i)).size:Int)+(cs[i]!.size:Int)).toNat=4+(dY (cs.take i)).size+cs[i]!.size by omega];exact e
theorem qA1 {C F:ByteArray}:∃r,(aE (fO C F)).drop 4=aE C++r:=by
 have h0:(aE (fO C F)).drop 0=aE lD++(aE C++(aE F++(four (F.size:Int)++aE lD))):=QR;have h:=(iR h0).2.1;exact⟨_,h⟩
theorem qNT (s:Schema) (l:List Rec) (i:Nat):(mG s l i).length=l.length:=by
 unfold mG;split
 ·simp [kB]
 ·exact gN l i
theorem VT {s:Schema} {l:List Rec} (m:Made s l) {i:Nat} (hi:i<s.1.length+1) (hd:rL (kX s i) (chnk s l i)=(mG s l i,0)):chV s (eT s l) (bE s (eT s l)) i=(mG s l i,0):=by
 obtain⟨r,hr⟩:=qA1 (C:=dY (chnks s l)) (F:=dH (jY s l));have hp:EC (eT s l) ((chnks s l).map lB) i=chnk s l i:=by
  rw[eT,qU6 (by rw[kV];exact hi) hr,qNK hi]
 unfold chV;rw[pH m];simp only;unfold lS;rw[hp,hd];simp only[qNT];rw[if_neg (fun q=>q rfl),if_neg (fun q=>q rfl)]
theorem FO {s:Schema} {l:List Rec} (hv:cO s l=true) {j:Nat} (hj:j<l.length):(l[j]!).2.length=s.1.length:=by
 have h:=(dR hv).2 j hj;unfold kO at h;split at h
 ·cases h
 ·rename_i q;exact Decidable.not_not.1 q
theorem qLA {s:Schema} {l:List Rec} (m:Made s l) (hv:cO s l=true) (hd:∀i:Nat,i<s.1.length+1->rL (kX s i) (chnk s l i)=(mG s l i,0)):qQN s (eT s l) (bE s (eT s l))=l:=by
 have hc:∀i:Nat,i<s.1.length+1->chL s (eT s l) (bE s (eT s l)) i=mG s l i:=fun i hi=>by
  show(chV s (eT s l) (bE s (eT s l)) i).1=_;rw[VT m hi (hd i hi)]
 have hn:(bE s (eT s l)).1.1.toNat=l.length:=by rw[pH m];rfl
 unfold qQN;rw[hn];apply kj;intro j;by_cases h:j<l.length
 ·rw[qF h,ku h,<-getElem!_pos l j h]
  congr 1
  have hr:=FO hv h;unfold qZ;rw[if_pos (.inl (kl _)),if_neg (kn _),Nat.min_eq_left om,hc _ om];refine go ?_ ?_
  ·show(mG s l s.1.length)[j]!.2.1=_
   rw[mG,if_pos rfl,kB,getElem!_pos _ j (by simpa using h),km,getElem!_pos l j h]
  ·show(List.range s.1.length).map _=l[j]!.2
   apply List.ext_getElem
   ·rw[gn,ki,hr]
   ·intro c h1 h2
    rw[gn,ki]at h1;rw[km,List.getElem_range,hc c om,mG,if_neg om,jW,getElem!_pos _ j (by simpa using h),km];unfold atV;rw[<-getElem!_pos l j h,if_pos h2,getElem!_pos _ c h2]
 ·rw[gl (by rw[kA];omega),gl om]
theorem qLC {s:Schema} {l:List Rec} (m:Made s l) (hs:dN s l=true) (hd:∀i:Nat,i<s.1.length+1->rL (kX s i) (chnk s l i)=(mG s l i,0)):oO s (eT s l)=(l,0):=by
 have hv:cO s l=true:=by
  unfold dN at hs;cases h:cO s l with
  |true=>rfl
  |false=>rw[h]at hs;cases hs
 have he:∀(k i:Nat),i+k=s.1.length+1->BL (chE s (eT s l) (bE s (eT s l))) k i=0:=by
  intro k;induction k with
  |zero=>intro i _;rfl
  |succ k ih=>
   intro i hi;have h0:chE s (eT s l) (bE s (eT s l)) i=0:=by
    show(chV s (eT s l) (bE s (eT s l)) i).2=0;rw[VT m om (hd i om)]
   rw[BL,if_neg (fun q=>q h0)];exact ih (i+1) om
 have hf:(bE s (eT s l)).2.2=0:=by rw[pH m]
 have hi:(bE s (eT s l)).1=dV s l:=by rw[pH m];rfl
 unfold oO zY;rw[if_neg (fun q=>q hf),if_neg (fun q=>q (he _ 0 om)),qLA m hv hd,hi,KE,if_neg (by rw[hs];intro q;cases q),if_neg (by rintro(q|q|q)<;>exact q rfl)]
def AZ (l:List Rec):Prop:=∀r,r∈l->∀v,v∈r.2->inI v.2.1
theorem yZ {c:Col} {l:List Val} (hl:l.length<=4096) (hv:∀v,v∈l->okV v):(rQ c l).1.size<=4398046585379:=by
 unfold rQ;split
 ·exact gz _
 split
 ·exact gz _
 split
 ·exact gz _
 rcases qNF (t:=c.2.1) (l:=l) 4 1 ⟨#[]⟩ (.inl rfl)with q|⟨j,hj,q⟩
 ·rw[q];exact gz _
 ·rw[q];exact(qBG hv hl).1
theorem qM {s:Schema} {l:List Rec} (hv:cO s l=true) (hi:AZ l) {i:Nat} (h:i<s.1.length):∀v,v∈jW l i->aZ s.1[i]! v=0/\inI v.2.1:=by
 intro v hm;obtain⟨r,hr,rfl⟩:=gu.1 hm;obtain⟨j,hj,rfl⟩:=List.mem_iff_getElem.1 hr;have h0:=(dR hv).2 j hj;have hn:=FO hv hj;rw[getElem!_pos l j hj]at h0 hn;unfold atV;rw[if_pos om];refine⟨?_,?_⟩
 ·unfold kO at h0
  rw[if_neg (fun q=>q hn)]at h0;have:=rS h0 (i:Int) ⟨om,om⟩;exact this
 ·rw[getElem!_pos _ i om]
  exact hi _ (kf hj) _ (kf _)
theorem uZ {s:Schema} {l:List Rec} (hv:cO s l=true):∀v,v∈kB l->aZ CG v=0/\inI v.2.1:=by
 intro v hm;obtain⟨r,hr,rfl⟩:=gu.1 hm;simp only[cO,gx,decide_eq_true_eq,kx]at hv;have q:=hv.2 r hr;simp only[iU,gx,decide_eq_true_eq]at q;refine⟨rfl,?_⟩;show inI r.1;unfold inI;omega
theorem qVP {s:Schema} {l:List Rec} (hv:cO s l=true) {j:Nat} (hj:j<l.length):0<=(l[j]!).1/\(l[j]!).1<=1099511627776:=by
 simp only[cO,gx,decide_eq_true_eq,kx]at hv;have q:=hv.2 l[j]! (by rw[getElem!_pos l j hj];exact kf hj);simp only[iU,gx,decide_eq_true_eq]at q;omega
theorem FH {c:Col} {v:Val} (h:aZ c v=0/\inI v.2.1):IX v:=by
 have ho:=eO h.1 h.2;exact⟨fun q=>xL h.1 q,h.2,ho.1⟩
theorem qWW {P:Val->Prop} (h0:P fC) {t g:Int} {a b:Val} (ha:P a) (hb:P b):P (oF t g a b):=by
 unfold oF;split
 ·exact h0
 split
 ·exact hb
 split
 ·exact ha
 split
 ·exact hb
 ·exact ha
theorem qSF {P:Val->Prop} (h0:P fC) {t:Int}:∀(l:List Val) (z:Int×Val×Val),P z.2.1->P z.2.2->(∀v,v∈l->P v)->P (zGo t l z).2.1/\P (zGo t l z).2.2/\z.1<=(zGo t l z).1/\(zGo t l z).1<=z.1+l.length
 | [],z,h1,h2,_=>⟨h1,h2,Int.le_refl _,by simp [zGo]⟩
 |v::l,z,h1,h2,h=>by
  have hv:=h v (kh ..);have hl:∀x,x∈l->P x:=fun x hx=>h x (ke _ hx)
  have e:zGo t (v::l) z=zGo t l (vE t z v):=rfl;rw[e,gb];unfold vE;split
  ·obtain⟨q1,q2,q3,q4⟩:=qSF h0 (t:=t) l (z.1+1,z.2.1,z.2.2) h1 h2 hl
   exact⟨q1,q2,by simp only at q3;omega,by simp only at q4;omega⟩
  ·obtain⟨q1,q2,q3,q4⟩:=qSF h0 (t:=t) l (z.1,oF t (-1) z.2.1 v,oF t 1 z.2.2 v) (qWW h0 h1 hv) (qWW h0 h2 hv) hl
   exact⟨q1,q2,by simp only at q3;omega,by simp only at q4;omega⟩
theorem BY:IX fC:=⟨fun _=>rfl,UG,gz _⟩
theorem CL {t:Int} {l:List Val} (hl:l.length<=4096) (h:∀v,v∈l->IX v):uM (qO t l):=by
 obtain⟨q1,q2,q3,q4⟩:=qSF BY (t:=t) l (0,fC,fC) BY BY h;refine⟨⟨?_,?_⟩,⟨q3,?_⟩,q1,q2⟩
 ·show(0:Int)<=(l.length:Int);omega
 ·show(l.length:Int)<=4096;omega
 ·show(zGo t l (0,fC,fC)).1<=4096
  simp only at q4;omega
theorem RW {s:Schema} {l:List Rec} {i:Nat} (h:i<s.1.length):chnk s l i=(rQ s.1[i]! (jW l i)).1:=by
 unfold chnk kX mG;rw[if_neg om,if_neg om,kt]
theorem IB {s:Schema} {l:List Rec}:chnk s l s.1.length=(rQ CG (kB l)).1:=by
 unfold chnk kX mG;rw[if_pos rfl,if_pos rfl]
theorem kZ {s:Schema} {l:List Rec} (hv:cO s l=true) (hi:AZ l) {j:Nat} (hj:j<l.length):zF s (fD s l[j]!):=by
 have hs:=bI (dR hv).1;have hn:=FO hv hj;have hq:=qVP hv hj;have ho:=qM hv hi (i:=s.2.toNat) om;have hm:(l[j]!).2[s.2.toNat]! ∈jW l s.2.toNat:=gu.2 ⟨l[j]!,by rw[getElem!_pos l j hj];exact kf hj,by unfold atV;rw[if_pos om]⟩;unfold fD;rw[if_neg om];have h1:=ho _ hm;exact⟨FH h1,h1.1,hq⟩
theorem cW {s:Schema} {l:List Rec} (h:dN s l=true):cO s l=true:=by
 unfold dN at h;cases q:cO s l with
 |true=>rfl
 |false=>rw[q]at h;cases h
abbrev chP (s:Schema) (l:List Rec) (k:Nat):List ByteArray:=(List.range k).map (chnk s l)
theorem VR {s:Schema} {l:List Rec} {k:Int} (h:0<=k):chP s l (k+1).toNat=chP s l k.toNat++ [chnk s l k.toNat]:=by
 rw[show(k+1).toNat=k.toNat+1 by omega,chP,ua,kb];rfl
theorem HZ (b:ByteArray):dY [b]=b:=EW b
end Go.Proofs.YtcjiefknhfhmkaaGreatDoor
namespace Go.Abs
set_option maxRecDepth 100000
set_option maxHeartbeats 4000000
set_option linter.unusedVariables false
set_option linter.unusedSimpArgs false
theorem YY {n:Nat} {P:Program} {row:String} {args:Array Value} {w:World} {R:Value->World->Prop} (h:Rows P row args w R):RowsIn Fence.wide n P row args w R:=
 fun c cs _=>let ⟨v,w',r,s⟩:=h c cs;⟨v,w',r,stepsIn_wide.2 s⟩
theorem xG {P:Program} {ops:Array Oper} {Q:Exit->Act->World->Prop} (lr n:Nat) (hd:∀(i:Nat) (o:Oper),ops[i]? =some o->∀c,o.op ≠ .defer c) (hQ:¬LetsOut Q) :
  ∀(l:List Nat) (a:Act) (w:World),wpOps P ops Q l a w->wpOpsIn (Fence.wide.inRound lr) n P ops Q l a w
 | [],_,_,h=>h
 |i::rest,a,w,h=>by
  have ih:=xG (P:=P) lr n hd hQ rest;simp only[wpOps]at h;simp only[wpOpsIn];cases ho:ops[i]? with
  |none=>simp only[ho]at h;exact ih _ _ h
  |some o=>
   simp only[ho]at h;by_cases hw:Region.wanted o (yielded ops a.tmps)=true
   ·simp only[hw,if_true]at h ⊢
    rcases h with h|⟨_,h⟩
    ·unfold Oper.wp at h
     unfold Oper.wpIn;refine⟨fun _ _=>trivial,?_⟩;rw[Oper.semAt_eq _ _ _ (hd i o ho)];generalize (execOp a.eval o).run P w=r at h ⊢;cases r with
     |ok x w'=>
      cases x with
      |value v=>exact ih _ _ h
      |skip=>exact ih _ _ h
      |defer d=>exact ih _ _ h
      |enter f args=>
       refine⟨(by intro q;cases q),CallsIn.inRound lr (callsIn_wide.2 (Calls.mono h ?_))⟩;intro e w'' he;cases e with
       |returned v=>exact ih _ _ he
       |panicked c=>exact he
       |outgrown=>exact he
      |row rw' args=>
       refine⟨(by intro q;cases q),?_⟩;exact RowsIn.mono (F:=Fence.wide.inRound lr) (YY h) fun v w'' he=>ih _ _ he
      |_=>exact h.elim
     |halt x w'=>cases x<;>exact h
    ·exact(hQ h).elim
   ·simp only[hw]at h ⊢
    exact⟨fun _ _=>trivial,ih _ _ h⟩
def EZ (ops:Array Oper):Bool:=ops.toList.all fun o=>match o.op with
 | .defer _=>false
 |_=>true
theorem qBH {ops:Array Oper} (h:EZ ops=true):∀(i:Nat) (o:Oper),ops[i]? =some o->∀c,o.op ≠ .defer c:=by
 intro i o ho c hc;have hi:i<ops.size:=(gk.1 ho).1;have:=kx.1 h o (by rw[<-Array.getElem?_toList]at ho;exact cD ho);rw[hc]at this;cases this
theorem qSD {E:Env} (hT:aD E.P E.T) (hM:E.P.follows .mixedOrders=true) {id:Nat} {ops:Array Oper} {s:Y} {K:Y->Prop} (hc:EZ ops=true) (h:xdraw E id ops s K) (lr n:Nat) :
  ∀(ι:Iota) (a:Act) (w:World),SR s.den ι a w->(Code.region id ops true).wpIn (Fence.wide.inRound lr) n E.P (qD2 E.n0 s.den ι w (fun e st=>e = .normal/\∃s',st=s'.den/\K s'/\FrW (lT ops.toList) s s')) a w:=
 QS hT hM h (fun Q a w=>(Code.region id ops true).wpIn (Fence.wide.inRound lr) n E.P Q a w) (fun q hq=>wpIn_mono q hq) (fun hq q=>wpIn_region_draw fun t=>xG lr n (qBH hc) hq _ _ _ (q t))
structure Calm (w w':World):Prop where
 os:w'.os=w.os
 tape:w'.tape=w.tape
 output:w'.output=w.output
 size:w.heap.size<=w'.heap.size
 cells:∀(b:Nat) (c:Array Value) (e:TypeId) (fr:Nat×Nat),w.heap[b]? =some (.cells c e fr)->w'.heap[b]? =some (.cells c e fr)
theorem Calm.cell {w w':World} (h:Calm w w') {b o:Nat} {v:Value} (hc:w.cell? ⟨b,o,none⟩=some v):w'.cell? ⟨b,o,none⟩=some v:=by
 unfold World.cell? at hc ⊢;split at hc
 ·rename_i c e fr hb
  simp only[h.cells _ _ _ _ hb];exact hc
 ·cases hc
theorem Rep.calm {w w':World} {ι:Iota} {M:Nat->Prop} (h:Calm w w') {x:V} {y:Value} (r:Rep w ι M x y):Rep w' ι M x y:=by
 induction r with
 |v x=>exact .v x
 |any x=>exact .any x
 |pF row off b o cells hb hm hc _ ih=>exact .pF row off b o cells (gm hb h.size) hm (fun j hj=>h.cell (hc j hj)) ih
 |pO id row off l hl=>exact .pO id row off l hl
 |sF sz rows a cap cells hb hcap hr hc _ ih=>
  refine .sF sz rows a cap cells (fun hne=>?_) hcap hr (fun i hi j hj=>h.cell (hc i hi j hj)) ih;obtain⟨hs,hb,hm⟩:=hb hne;exact⟨hs,gm hb h.size,hm⟩
 |sN sz=>exact .sN sz
 |sO id off len cap l c e fr hl hcap hb hs=>exact .sO id off len cap l c e fr hl hcap (h.cells _ _ _ _ hb) hs
 |agg xs vs hl _ ih=>exact .agg xs vs hl ih
 |tup xs vs hl _ ih=>exact .tup xs vs hl ih
 |fn f first caps vs us h1 h2 _ _ ih1 ih2=>exact .fn f first caps vs us h1 h2 ih1 ih2
 |ifc t x y _ ih=>exact .ifc t x y ih
 |sL t l y _ ih=>exact .sL t l y ih
 |oL id n y _ ih=>exact .oL id n y ih
theorem HRel.calm {h:Heap} {ι:Iota} {w w':World} (H:HRel h ι w) (hc:Calm w w'):HRel h ι w':=
 ⟨fun id o ho=>let ⟨l,c,fr,q1,la⟩:=H.live id o ho;⟨l,c,fr,q1,⟨hc.cells _ _ _ _ la.blk,la.unfrozen,la.sz,la.rows,la.fits,fun i hi j hj=>let ⟨y,g1,g2⟩:=la.reads i hi j hj;⟨y,g1,g2.calm hc⟩⟩⟩,H.free,H.out,H.apart,fun b hb=>gm (H.xlt b hb) hc.size,H.xob⟩
theorem SR.calm {s:St} {ι:Iota} {a:Act} {w w':World} (r:SR s ι a w) (hc:Calm w w'):SR s ι a w':=
 ⟨r.defers,⟨r.slots.1,fun i x hx=>let ⟨y,y1,y2⟩:=r.slots.2 i x hx;⟨y,y1,y2.calm hc⟩⟩,r.heap.calm hc⟩
theorem EvN.calm {n:Nat} {h h':Heap} {ι ι':Iota} {w0 w w':World} (e:EvN n h ι w0 h' ι' w) (hc:Calm w w') (hlow:∀b,b<w0.heap.size->w'.heap[b]? =w.heap[b]?):EvN n h ι w0 h' ι' w':=
 ⟨hc.os.trans e.os,hc.tape.trans e.tape,hc.output.trans e.output,Nat.le_trans e.size hc.size,e.iota,e.away,fun b hb hn=>let ⟨q1,q2⟩:=e.frame b hb hn;⟨(hlow b hb).trans q1,q2⟩,
   fun b c el fr hb=>let ⟨c',fr',q1,q2⟩:=e.sizes b c el fr hb;⟨c',fr',hc.cells _ _ _ _ q1,q2⟩⟩
theorem Calm.grown {w w':World} {row:Option Nat} (h:w.grownBy w' row) (hr:∀r,row=some r->∃o:Obj,w.heap[r]? =some o/\o.isCells=false):Calm w w':=
 ⟨h.os,h.tape,h.output,h.size,fun b c e fr hb=>by
   have hlt:b<w.heap.size:=(gk.1 hb).1;rw[h.block b hlt (fun q=>by
    obtain⟨o,ho,hc⟩:=hr b q.symm;rw[hb]at ho;injection ho with ho;subst ho;cases hc)]
   exact hb⟩
def Kp (A1 A2:Addr) (W W':World):Prop:=W'.cell? A1=W.cell? A1/\W'.cell? A2=W.cell? A2
abbrev Ck (len:Nat):={k:Nat // 32*k<len}
def ckV (g off len:Nat) (x:Ck len):Value:=.slice (some ⟨g,off+32*x.1,none⟩) (min 32 (len-32*x.1)) (min 32 (len-32*x.1))
def vG (P:Program) (gf:FuncId):Prop:=∀(n l b1 o1 b2 o2 g off len cap N:Nat) (sv:Value),((sv = .slice none 0 0/\len=0)\/(sv = .slice (some ⟨g,off,none⟩) len cap/\len<=cap))->len<=1099511627776->len<=32*N->∀(J Jx:List (Ck len)->World->Prop),
 (∀s W W' row,J s W->W.grownBy W' row->(∀r,row=some r->False)->J s W') ->
 (∀pre x W,J pre W->pre.length<N->YieldAt Fence.wide (n-1) P l #[ckV g off len x] W fun e W'=>
    (e = .returned (.bool true)/\J (pre++ [x]) W'/\Kp ⟨b1,o1,none⟩ ⟨b2,o2,none⟩ W W')\/(e = .returned (.bool false)/\Jx (pre++ [x]) W')) ->
 ∀(W:World),W.cell? ⟨b1,o1,none⟩=some sv->W.cell? ⟨b2,o2,none⟩=some (.int .i64 32)->J [] W ->
  CallsIn Fence.wide n P gf #[.func (.yield l) #[] #[],.pointer (some ⟨b1,o1,none⟩),.pointer (some ⟨b2,o2,none⟩)] W fun e W'=>(∃v,e = .returned v) /\
   ((∃ys,(∃k,ys.map (·.1)=List.range k/\len<=32*k/\32*k<len+32)/\J ys W')\/(∃pre,Jx pre W'))
theorem vG.stops {P:Program} {gf:FuncId} (It:vG P gf) (n b1 o1 b2 o2 g off len cap:Nat) (sv:Value) (w:World) (hsv:(sv = .slice none 0 0/\len=0)\/(sv = .slice (some ⟨g,off,none⟩) len cap/\len<=cap)) (hlen:len<=1099511627776)
  (hb1:b1<w.heap.size) (hb2:b2<w.heap.size) (h1:w.cell? ⟨b1,o1,none⟩=some sv) (h2:w.cell? ⟨b2,o2,none⟩=some (.int .i64 32)) :
  SeqStopsK Fence.wide n P gf #[.pointer (some ⟨b1,o1,none⟩),.pointer (some ⟨b2,o2,none⟩)] (fun x:Ck len=>#[ckV g off len x]) (Kp ⟨b1,o1,none⟩ ⟨b2,o2,none⟩)
   (fun ys=>∃k,ys.map (·.1)=List.range k/\len<=32*k/\32*k<len+32) (fun _=>True) len w:=by
 intro l J Jx W hW hJ hJx hY h0;refine(It n l b1 o1 b2 o2 g off len cap len sv hsv hlen om J Jx (fun s W1 W' row hs hg hr=>hJ s W1 W' row hs hg (fun r e=>(hr r e).elim)) hY W ((hW.cell (p:=⟨b1,o1,none⟩) hb1).trans h1) ((hW.cell (p:=⟨b2,o2,none⟩) hb2).trans h2) h0).mono ?_;rintro e W' ⟨he,h|⟨pre,h⟩⟩
 ·exact⟨he,.inl h⟩
 ·exact⟨he,.inr ⟨pre,trivial,h⟩⟩
theorem AM {P:Program} {ops:Array Oper} {Q:Exit->Act->World->Prop} (d:List Deferred) (hQ:¬LetsOut Q) :
  ∀(l:List Nat) (t:Array Value) (ds:List Deferred) (w:World),wpOps P ops Q l ⟨t,ds⟩ w->wpOps P ops (fun e a' w'=>∃ds',a'.defers=ds'++d/\Q e ⟨a'.tmps,ds'⟩ w') l ⟨t,ds++d⟩ w
 | [],_,ds,_,h=>⟨ds,rfl,h⟩
 |i::rest,t,ds,w,h=>by
  have ih:=AM (P:=P) (ops:=ops) d hQ rest;simp only[wpOps]at h ⊢;cases ho:ops[i]? with
  |none=>simp only[ho]at h;exact ih _ _ _ h
  |some o=>
   simp only[ho]at h;have put:∀(ds:List Deferred) v,(Act.put ⟨t,ds++d⟩ o.dst v)=⟨(Act.put ⟨t,ds⟩ o.dst v).tmps,ds++d⟩:=fun ds v=>by cases o.dst<;>rfl
   have put0:∀(ds:List Deferred) v,(Act.put ⟨t,ds⟩ o.dst v)=⟨(Act.put ⟨t,ds⟩ o.dst v).tmps,ds⟩:=fun ds v=>by cases o.dst<;>rfl
   by_cases hw:Region.wanted o (yielded ops t)=true
   ·simp only[hw,if_true]at h ⊢
    rcases h with h|⟨_,h⟩
    ·refine .inl ?_
     unfold Oper.wp at h ⊢;have he:(Act.eval ⟨t,ds++d⟩)=(Act.eval ⟨t,ds⟩):=by funext x;cases x<;>rfl
     rw[he];generalize (execOp (Act.eval ⟨t,ds⟩) o).run P w=r at h ⊢;cases r with
     |ok x w'=>
      cases x with
      |value v=>show wpOps _ _ _ rest (Act.put ⟨t,ds++d⟩ o.dst v) w';rw[put];exact ih _ _ _ (by rw[<-put0];exact h)
      |skip=>show wpOps _ _ _ rest (Act.put ⟨t,ds++d⟩ o.dst undef) w';rw[put];exact ih _ _ _ (by rw[<-put0];exact h)
      |defer dd=>
       show wpOps _ _ _ rest (Act.put ⟨t,(dd::ds)++d⟩ o.dst undef) w';rw[put];exact ih _ _ _ (by rw[<-put0];exact h)
      |enter f args=>
       refine Calls.mono h ?_;intro e w'' he;cases e with
       |returned v=>show wpOps _ _ _ rest (Act.put ⟨t,ds++d⟩ o.dst v) w'';rw[put];exact ih _ _ _ (by rw[<-put0];exact he)
       |panicked c=>exact⟨ds,rfl,he⟩
       |outgrown=>exact(hQ he).elim
      |row rw' args=>
       refine Rows.mono h ?_;intro v w'' he;show wpOps _ _ _ rest (Act.put ⟨t,ds++d⟩ o.dst v) w'';rw[put];exact ih _ _ _ (by rw[<-put0];exact he)
      |_=>exact h.elim
     |halt x w'=>cases x<;>first|exact h.elim|exact⟨ds,rfl,h⟩
    ·exact(hQ h).elim
   ·simp only[hw]at h ⊢
    rw[if_neg sm]at h ⊢;rw[put];exact ih _ _ _ (by rw[<-put0];exact h)
theorem sJ {E:Env} (hT:aD E.P E.T) (hM:E.P.follows .mixedOrders=true) (hI:tK E) {c rest:Code} {s:Y} {Q:Exit->Y->Prop} {Qw:Exit->Act->World->Prop} {k:Y->Prop} {ι:Iota} {a:Act} {w:World} (hx:xcode E c s (tP Q k)) (r:SR s.den ι a w)
  (hn:∀(s':Y) (ι':Iota) (a':Act) (w':World),k s'->SR s'.den ι' a' w'->EvN E.n0 s.den.h ι w s'.den.h ι' w'->rest.wp E.P Qw a' w')
  (he:∀(e:Exit) (s':Y) (ι':Iota) (a':Act) (w':World),e ≠ .normal->Q e s'->SR s'.den ι' a' w'->EvN E.n0 s.den.h ι w s'.den.h ι' w'->Qw e a' w'):(Code.seq c rest).wp E.P Qw a w:=by
 refine wp_seq (wp_mono (jJ hT hM hI c s _ hx ι a w r) ?_);rintro e a' w' ⟨st,ι',⟨s',rfl,hq,_⟩,r',ev⟩;cases e with
 |normal=>exact hn s' ι' a' w' hq r' ev
 |_=>exact he _ s' ι' a' w' sm hq r' ev
def KG (gf:FuncId) (gt:Nat) (s:Y):Option (List Bool×Nat×Nat×Nat×List Int):=match s.sl[gt]? with
 |some (.fn (.func g) [] [.pO i1 0 0,.pO i2 0 0])=>(match s.h[i1]?,s.h[i2]?,Nat.beq g gf with
  |some (.raw (.live o1)),some (.raw (.live o2)),true=>(match o1.rows,o2.rows with
   | [[.oL jd n]],[[.v (.int .i64 32)]]=>(match s.h[jd]? with
     |some (.opt t l _)=>(match fR (t':=.int .i64) l,!(Nat.beq i1 i2)&&(!(Nat.beq i1 jd) && !(Nat.beq i2 jd))with
      |some l,true=>some ([decide (n=l.length)],i1,i2,jd,l)
      |_,_=>none)
     |_=>none)
   |_,_=>none)
  |_,_,_=>none)
 |_=>none
def ck (D:List Int) (k:Nat):List Int:=(D.drop (32*k)).take 32
def ckL (D:List Int):List (List Int):=(List.range ((D.length+31)/32)).map (ck D)
def mS (i1 i2 jd:Nat) (h:List XO):List XO:=((h.set i1 (.raw .dead)).set i2 (.raw .dead)).set jd (.raw .dead)
def qa4 (D x:List Int):Prop:=∃k,32*k<D.length/\x=ck D k
structure RfAnd (A B C:Prop):Prop where
 a:A
 b:B
 c:C
def qQT (P:Program) (inl:FuncId->List V->Y->(V->Y->Prop)->Prop) (T:Tbl) (W:List Nat) (ib:Nat) (e5:TypeId) (p q id12:Nat) (ops12:Array Oper) (id13:Nat) (ops13:Array Oper) (rs:List ResultVar) (res:ByteArray)
  (BB:List (List Int)->List Int) (D:List Int) (s1:Y):Prop:=
 RfAnd (arrive 0 W [.row ib [.ows (.int .u8) e5]] s1 s1 (fun y=>Leaf (y.1=BB [])/\True))
  (∀(pre:List (List Int)) (x:List Int),(∀z,z∈pre++ [x]->qa4 D z)->pre.length<D.length ->
   fS W [.row ib [.ows (.int .u8) e5]] (BB pre,()) s1.bs fun sl h=>iH sl p (.sL (.int .i64) x) fun sl2=>iH sl2 q (.sL (.int .i64) x) fun sl2=>fN h.length fun L=>xdraw ⟨P,T,L,0,[],inl⟩ id12 ops12 ⟨sl2,h,[],[]⟩ fun s'=>match s' with
    |⟨_,h',tch',an'⟩=>arrive 0 W [.row ib [.ows (.int .u8) e5]] s1 ⟨sl,h',tch',an'⟩ (fun y=>Leaf (y.1=BB (pre++ [x]))/\True))
  (fS W [.row ib [.ows (.int .u8) e5]] (BB (ckL D),()) s1.bs fun sl h=>xops ⟨P,T,0,0,[],inl⟩ ops13 id13 ops13.toList 0 ⟨sl,h,[],[]⟩ fun s'=>match s' with
     |⟨sl',h',_,_⟩=>match ares P rs sl' (dens h')with
      |some y=>Leaf (y = .v (.string res))/\True
      |none=>False)
theorem YU {gf:FuncId} {gt:Nat} {s:Y} {cs:List Bool} {i1 i2 jd:Nat} {D:List Int} (h:KG gf gt s=some (cs,i1,i2,jd,D)) (hc:dK cs) :
  s.sl[gt]? =some (.fn (.func gf) [] [.pO i1 0 0,.pO i2 0 0])/\i1≠i2/\i1≠jd/\i2≠jd/\(∃o1,s.h[i1]? =some (.raw (.live o1))/\o1.rows= [[.oL jd D.length]])/\(∃o2,s.h[i2]? =some (.raw (.live o2))/\o2.rows= [[.v (.int .i64 32)]])/\∃e,s.h[jd]? =some (.opt (.int .i64) D e):=by
 unfold KG at h;split at h
 ·rename_i g i1' i2' hg
  split at h
  ·rename_i o1 o2 ho1 ho2 hb
   split at h
   ·rename_i jd' n r1 r2
    split at h
    ·rename_i t l e hl
     split at h
     ·rename_i l' hcl hne
      injection h with h;injection h with e1 h;injection h with e2 h;injection h with e3 h;injection h with e4 e5;subst e1 e2 e3 e4 e5;have hn:n=l'.length:=of_decide_eq_true (hc _ sm);obtain⟨et,el⟩:=gM hcl;subst et;subst el hn;have hb:=Nat.eq_of_beq_eq_true hb;subst hb;simp only[gx,Bool.not_eq_true']at hne;exact⟨hg,kk hne.1,kk hne.2.1,kk hne.2.2,⟨o1,ho1,r1⟩,⟨o2,ho2,r2⟩,_,hl⟩
     ·cases h
    ·cases h
   ·cases h
  ·cases h
 ·cases h
theorem qO9 {h:List XO} {ι:Iota} {w:World} (H:HRel (dens h) ι w) (id:Nat):HRel (dens (h.set id (.raw .dead))) ι w/\Evolve (dens h) ι w (dens (h.set id (.raw .dead))) ι w:=by
 have hk:∀x:Nat,(dens (h.set id (.raw .dead)))[x]? =(dens h)[x]? \/(dens (h.set id (.raw .dead)))[x]? =some HS.dead:=fun x=>qPA h id none x
 exact H.killed hk (by simp [eD]) (fun _=>False) (fun _ q=>q.elim) rfl rfl rfl rfl (fun _ _=>rfl) (fun _ c _ fr q=>⟨c,fr,q,rfl⟩)
theorem qQV {s:Y} {gf:FuncId} {gt:Nat} {cs:List Bool} {i1 i2 jd:Nat} {D:List Int} (hh:KG gf gt s=some (cs,i1,i2,jd,D)) (hc:dK cs) {ι:Iota} {a:Act} {w:World} (r:SR s.den ι a w) :
  ∃(A1 A2:Addr) (sv:Value) (g off cap:Nat),a.eval (.tmp gt) = .func (.func gf) #[] #[.pointer (some A1),.pointer (some A2)]/\A1.spot=none/\A2.spot=none/\A1.block<w.heap.size/\A2.block<w.heap.size/\w.cell? A1=some sv/\w.cell? A2=some (.int .i64 32) /\
   ((sv = .slice none 0 0/\D.length=0)\/(sv = .slice (some ⟨g,off,none⟩) D.length cap/\D.length<=cap)) /\
   SR ⟨s.sl,dens (mS i1 i2 jd s.h)⟩ ι a w/\Evolve (dens s.h) ι w (dens (mS i1 i2 jd s.h)) ι w/\¬Ob (dens (mS i1 i2 jd s.h)) ι A1.block/\¬Ob (dens (mS i1 i2 jd s.h)) ι A2.block /\
   (D≠ []->g<w.heap.size/\¬Mt (dens (mS i1 i2 jd s.h)) ι g/\∀(j:Nat) (x:Int),D[j]? =some x->w.cell? ⟨g,off+j,none⟩=some (.int .i64 x)):=by
 obtain⟨hg,n12,n1d,n2d,⟨o1,ho1,r1⟩,⟨o2,ho2,r2⟩,ed,hjd⟩:=YU hh hc;have H:=r.heap;obtain⟨y,y1,y2⟩:=r.slots.2 gt _ hg;have hev:a.eval (.tmp gt)=y:=by
  simp only[Act.eval];have hlt:=(gk.1 y1).1;rw[Array.getElem?_eq_getElem hlt]at y1;injection y1 with y1;simp [Array.getD,hlt,y1]
 have d1:(dens s.h)[i1]? =some (.live o1):=by rw[aJ,ho1];rfl
 have d2:(dens s.h)[i2]? =some (.live o2):=by rw[aJ,ho2];rfl
 obtain⟨L1,c1,fr1,hL1,la1⟩:=H.live i1 o1 d1;obtain⟨L2,c2,fr2,hL2,la2⟩:=H.live i2 o2 d2;obtain⟨H1,e1⟩:=qO9 H i1;obtain⟨H2,e2⟩:=qO9 H1 i2;obtain⟨H3,e3⟩:=qO9 H2 jd;have ev:=(e1.trans e2).trans e3;have sr:SR ⟨s.sl,dens (mS i1 i2 jd s.h)⟩ ι a w:=⟨r.defers,r.slots.mono ev,H3⟩
 have old:∀(id:Nat) (o:AObj),(dens (mS i1 i2 jd s.h))[id]? =some (.live o)->(dens s.h)[id]? =some (.live o)/\id≠i1/\id≠i2/\id≠jd:=by
  intro id o q;have one:∀(h:List XO) (k:Nat),(dens (h.set k (.raw .dead)))[id]? =some (.live o)->id≠k/\(dens h)[id]? =some (.live o):=by
   intro h k q;rw[aX]at q;by_cases e:k=id
   ·subst e
    rw[List.getElem?_set]at q;simp only[if_pos]at q;split at q
    ·cases q
    ·cases q
   ·rw[uc e]at q
    exact⟨Ne.symm e,q⟩
  obtain⟨q1,q2⟩:=one _ _ q;obtain⟨q3,q4⟩:=one _ _ q2;obtain⟨q5,q6⟩:=one _ _ q4;exact⟨q6,q5,q3,q1⟩
 have nob:∀(k:Nat) (o:AObj) (L:Loc),(k=i1\/k=i2\/k=jd)->(dens s.h)[k]? =some (.live o)->ι k=some L->¬Ob (dens (mS i1 i2 jd s.h)) ι L.blk:=by
  rintro k o L hk ho hl ⟨id,o',L',q1,q2,q3⟩;obtain⟨q4,m1,m2,m3⟩:=old id o' q1;have:=H.apart _ _ _ _ _ _ q4 q2 ho hl q3;subst this;rcases hk with q|q|q
  ·exact m1 q
  ·exact m2 q
  ·exact m3 q
 obtain⟨x1,hx1,rx1⟩:=la1.reads 0 (by simp [r1]) 0 (by simp [r1]);obtain⟨x2,hx2,rx2⟩:=la2.reads 0 (by simp [r2]) 0 (by simp [r2]);have rx1:Rep w ι (Mt s.den.h ι) (.oL jd D.length) x1:=by simpa [r1]using rx1
 have rx2:Rep w ι (Mt s.den.h ι) (.v (.int .i64 32)) x2:=by simpa [r2]using rx2
 cases rx2;have hlt1:L1.blk<w.heap.size:=(gk.1 la1.blk).1;have hlt2:L2.blk<w.heap.size:=(gk.1 la2.blk).1;have cc1:w.cell? ⟨L1.blk,L1.base+0*L1.sz+0,none⟩=some x1:=by
  simp only[World.cell?,la1.blk];rw[<-hx1];simp
 have cc2:w.cell? ⟨L2.blk,L2.base+0*L2.sz+0,none⟩=some (.int .i64 32):=by
  simp only[World.cell?,la2.blk];rw[<-hx2];simp
 have hfun:y = .func (.func gf) #[] #[.pointer (some ⟨L1.blk,L1.base+0*L1.sz+0,none⟩),.pointer (some ⟨L2.blk,L2.base+0*L2.sz+0,none⟩)]:=by
  cases y2 with
  |fn _ _ _ vs us q1 q2 q3 q4=>
   have hvs:vs = #[]:=by
    have:vs.size=0:=q1.symm;exact Array.eq_empty_of_size_eq_zero this
   have hus:us.size=2:=q2.symm;have u0:=q4 0 sm om;have u1:=q4 1 sm om;have u0:Rep w ι (Mt s.den.h ι) (.pO i1 0 0) us[0]:=u0;have u1:Rep w ι (Mt s.den.h ι) (.pO i2 0 0) us[1]:=u1;have v0:us[0] = .pointer (some ⟨L1.blk,L1.base+0*L1.sz+0,none⟩):=by
    generalize us[0]=z at u0;cases u0 with|pO _ _ _ l hl=>rw[hL1]at hl;injection hl with hl;subst hl;rfl
   have v1:us[1] = .pointer (some ⟨L2.blk,L2.base+0*L2.sz+0,none⟩):=by
    generalize us[1]=z at u1;cases u1 with|pO _ _ _ l hl=>rw[hL2]at hl;injection hl with hl;subst hl;rfl
   rw[hvs];congr 1
   refine Array.ext (by rw[hus];rfl) (fun i h1 h2=>?_);match i,h1 with
   |0,_=>exact v0
   |1,_=>exact v1
   |i+2,h1=>rw[hus]at h1;omega
 suffices fin:∃(g off cap:Nat),((x1 = .slice none 0 0/\D.length=0)\/(x1 = .slice (some ⟨g,off,none⟩) D.length cap/\D.length<=cap))/\(D≠ []->g<w.heap.size/\¬Mt (dens (mS i1 i2 jd s.h)) ι g/\∀(j:Nat) (x:Int),D[j]? =some x->w.cell? ⟨g,off+j,none⟩=some (.int .i64 x))by
  obtain⟨g,off,cap,k1,k2⟩:=fin;exact⟨⟨L1.blk,L1.base+0*L1.sz+0,none⟩,⟨L2.blk,L2.base+0*L2.sz+0,none⟩,x1,g,off,cap,hev.trans hfun,rfl,rfl,hlt1,hlt2,cc1,cc2,k1,sr,ev,nob i1 o1 L1 (.inl rfl) d1 hL1,nob i2 o2 L2 (.inr (.inl rfl)) d2 hL2,k2⟩
 by_cases hD:D= []
 ·subst hD
  cases rx1 with
  |oL _ _ _ q=>
   simp at q;cases q;exact⟨0,0,0,.inl ⟨rfl,rfl⟩,fun q=>(q rfl).elim⟩
 ·have hl0:D.length≠0:=fun q=>hD (List.length_eq_zero_iff.1 q)
  have dj:(dens s.h)[jd]? =some (.live ⟨1,D.map (Ty.row (.int .i64)),ed⟩):=by rw[aJ,hjd];simp [XO.den,hD,Ty.size]
  obtain⟨Ld,cd,frd,hLd,lad⟩:=H.live jd _ dj;have hsd:Ld.sz=1:=lad.sz;cases rx1 with
  |oL _ _ _ q=>
   rw[if_neg hl0]at q;cases q with
   |sO _ _ _ cap L c e fr hL hcap hb hs=>
    rw[hLd]at hL;injection hL with hL;subst hL;refine⟨Ld.blk,Ld.base+0*Ld.sz,cap,.inr ⟨rfl,hcap⟩,fun _=>⟨(gk.1 lad.blk).1,?_,fun j x hj=>?_⟩⟩
    ·rintro(q|q)
     ·exact H.xob _ q ⟨jd,_,Ld,dj,hLd,rfl⟩
     ·exact nob jd _ Ld (.inr (.inr rfl)) dj hLd q
    ·have hjl:=aI hj
     obtain⟨z,z1,z2⟩:=lad.reads j (by simpa using hjl) 0 (by simp [Ty.cells]);have e1:(D.map (Ty.row (.int .i64)))[j]'(by simpa using hjl)= [.v (.int .i64 x)]:=by
      rw[ku hjl]at hj;injection hj with hj;simp [hj,Ty.cells]
     have z2:Rep w ι (Mt (dens s.h) ι) (.v (.int .i64 x)) z:=by
      have:=z2;simp only[e1]at this;exact this
     cases z2;simp only[World.cell?,lad.blk];rw[<-z1];congr 1
     simp [Ty.size]
theorem EvN.zero {n:Nat} {h h':Heap} {ι ι':Iota} {w w':World} (e:EvN n h ι w h' ι' w'):EvN 0 h ι w h' ι' w':=
 ⟨e.os,e.tape,e.output,e.size,fun id l q=>(kn _ q).elim,e.away,e.frame,e.sizes⟩
theorem EvN.keepsOthers {n:Nat} {h h':Heap} {ι ι':Iota} {w w':World} (H:HRel h ι w) (e:EvN n h ι w h' ι' w'):KeepsOthers w w':=
 ⟨e.size,fun k o hk ho=>by
   have hlt:k<w.heap.size:=(gk.1 hk).1;refine((e.frame k hlt ?_).1).trans hk;rintro⟨id,x,l,q1,q2,q3⟩;obtain⟨l',c,fr,q4,la⟩:=H.live id x q1;rw[q2]at q4;injection q4 with q4;subst q4;have:=la.blk;rw[q3,hk]at this;injection this with this;subst this;cases ho⟩
theorem SRel.sets {sl:List V} {h ι w} {t:Array Value} (r:SRel sl h ι w t) (d:Nat) {x:V} {y:Value} (ry:Rep w ι (Mt h ι) x y):SRel (sl.set d x) h ι w (t.setIfInBounds d y):=
 SRel.put (a:=⟨t,[]⟩) r (some d) ry
theorem lF {w w':World} {A:Addr} (h:w'.heap[A.block]? =w.heap[A.block]?):w'.cell? A=w.cell? A:=by simp [World.cell?,h]
theorem qX0 {h:Heap} {ι:Iota} {W:World} {D:List Int} {g off:Nat} (x:Ck D.length) (hb:g<W.heap.size) (hm:¬Mt h ι g) (hc:∀(j:Nat) (x:Int),D[j]? =some x->W.cell? ⟨g,off+j,none⟩=some (.int .i64 x)) :
  Rep W ι (Mt h ι) (.sL (.int .i64) (ck D x.1)) (ckV g off D.length x):=by
 obtain⟨k,hk⟩:=x;refine .sL _ _ _ ?_;have hl:((ck D k).map (Ty.row (.int .i64))).length=min 32 (D.length-32*k):=by simp [ck]
 have:=Rep.sF_mk (w:=W) (ι:=ι) (M:=Mt h ι) (sz:=1) (rows:=(ck D k).map (Ty.row (.int .i64))) ⟨g,off+32*k,none⟩ (min 32 (D.length-32*k)) (fun _=>⟨rfl,hb,hm⟩) (by rw[hl];exact kd _)
  (fun r hr=>by obtain⟨z,_,rfl⟩:=gu.1 hr;rfl)
  (fun i j r x hi hj=>by
    rw[List.getElem?_map]at hi;cases hz:(ck D k)[i]? with
    |none=>rw[hz]at hi;cases hi
    |some z=>
     rw[hz]at hi;injection hi with hi;subst hi;have hj0:j=0:=by
      have:=aI hj;simp [Ty.row,Ty.cells]at this;omega
     subst hj0;have hx:x = .v (.int .i64 z):=by
      simp [Ty.row,Ty.cells]at hj;exact hj.symm
     subst hx;have hz2:D[32*k+i]? =some z:=by
      simp only[ck,List.getElem?_take,ul]at hz;split at hz
      ·exact hz
      ·cases hz
     have:=hc _ _ hz2;exact⟨_,by rw[show off+32*k+i*1+0=off+(32*k+i)by omega];exact this,.v _⟩)
 rw[hl]at this;exact this
theorem qJI {P:Program} {n l id p q:Nat} {v:Value} {t:Array Value} {w:World} {K:Act->World->Prop} {ty:TypeId} {pos:String} (hp:p<t.size) (h:K ⟨(t.setIfInBounds p v).setIfInBounds q v,[]⟩ w) :
  (Code.region id #[{dst:=some q,op:=.assign (.tmp p),type:=ty,pos:=pos,after:=#[],guard:=none}] false).wpIn (Fence.wide.inRound l) n P (Exit.then K (fun _ _ _=>False)) ⟨t.setIfInBounds p v,[]⟩ w:=by
 refine wpIn_region ?_;simp only[Array.size,gb,ge,List.range,List.range.loop,wpOpsIn];have e:(Act.eval ⟨t.setIfInBounds p v,[]⟩ (.tmp p))=v:=by
  simp [Act.eval,Array.getD,hp]
 simp only[Region.wanted,Oper.wpIn,List.getElem?_toArray,List.getElem?_cons_zero,if_true];refine⟨fun _ _=>trivial,?_⟩;rw[Oper.semAt_eq _ _ _ (by intro c q;cases q)];simp only[execOp,e];exact h
theorem qXZ {D:List Int} {xs:List (Ck D.length)} {k:Nat} (h:xs.map (·.1)=List.range k) (h1:D.length<=32*k) (h2:32*k<D.length+32):xs.map (fun x=>ck D x.1)=ckL D:=by
 have hk:k=(D.length+31)/32:=om
 have:xs.map (fun x=>ck D x.1)=(xs.map (·.1)).map (ck D):=sm
 rw[this,h,hk];rfl
theorem qQU {P:Program} {T:Tbl} {inl:FuncId->List V->Y->(V->Y->Prop)->Prop} (hT:aD P T) (hM:P.follows .mixedOrders=true) {gf:FuncId} (It:vG P gf) (eg:∀(args:Array Value) (w:World),(callFunc gf args).run P w = .ok (.enter gf args) w)
  {gt p q bid bid2 id12:Nat} {ops12:Array Oper} {W:List Nat} {ib:Nat} {e5:TypeId} {id13:Nat} {ops13:Array Oper} {rs:List ResultVar} {res:ByteArray} {BB:List (List Int)->List Int} {id11:Nat} {ty11:TypeId} {pos11:String}
  (hc12:EZ ops12=true) {s:Y} {cs:List Bool} {i1 i2 jd:Nat} {D:List Int} (hpa:p<s.sl.length) (hh:KG gf gt s=some (cs,i1,i2,jd,D)) (hc:dK cs) (hlen:D.length<=1099511627776)
  (hl:qQT P inl T W ib e5 p q id12 ops12 id13 ops13 rs res BB D ⟨s.sl,mS i1 i2 jd s.h,[],s.an⟩) {ι:Iota} {a:Act} {w:World} (r:SR s.den ι a w) {Qw:Exit->Act->World->Prop}
  (hq:∀(D0:Nat) (ι':Iota) (w':World) (sl:List V) (h:List XO),w.heap.size<=D0->w'.heap[D0]? =some (.deferred (some []))->SR ⟨sl,dens h⟩ ι' ⟨a.tmps,[]⟩ w'->EvN 0 s.den.h ι w (dens h) ι' w' ->
    xops ⟨P,T,0,0,[],inl⟩ ops13 id13 ops13.toList 0 ⟨sl,h,[],[]⟩ (fun s'=>match s' with
     |⟨sl',h',_,_⟩=>match ares P rs sl' (dens h')with
      |some y=>Leaf (y = .v (.string res))/\True
      |none=>False)->Qw .normal ⟨a.tmps,[{target:=.collected D0,args:=#[]}]⟩ w') :
  (Code.block bid (.rangeFunc (.tmp gt) #[p] (.region id11 #[{dst:=some q,op:=.assign (.tmp p),type:=ty11,pos:=pos11,after:=#[],guard:=none}] false) (.block bid2 (.region id12 ops12 true)))).wp P Qw a w:=by
 obtain⟨A1,A2,sv,g,off,cap,hev,hA1,hA2,hb1,hb2,hc1,hc2,hsv,r1,ev1,hn1,hn2,hD⟩:=qQV hh hc r;obtain⟨b1,o1,sp1⟩:=A1;obtain⟨b2,o2,sp2⟩:=A2;(try simp only at hA1 hA2 hb1 hb2 hn1 hn2);subst hA1 hA2;obtain⟨hstart,hround,hend⟩:=hl;generalize hs1:(⟨s.sl,mS i1 i2 jd s.h,[],s.an⟩:Y)=s1 at hstart hround hend;have hsl1:s1.sl=s.sl:=by rw[<-hs1]
 have hh1:s1.h=mS i1 i2 jd s.h:=by rw[<-hs1]
 rw[<-hsl1,<-hh1]at r1;rw[<-hh1]at ev1 hn1 hn2 hD;have hdef:a.defers= []:=r.defers;have hact:a=⟨a.tmps,[]⟩:=by cases a;simp at hdef;subst hdef;rfl
 let S:List Int->St:=fun y=>⟨fQ [.row ib [.ows (.int .u8) e5]] (y,()) s1.bs (kU W s1.sl),dens (gH [.row ib [.ows (.int .u8) e5]] (y,()) s1.bs s1.h)⟩
 have sizes:∀(x:List Int),(⟨(S x).sl,(S x).h⟩:St)=S x:=fun _=>rfl
 obtain⟨σ0,y0,cut0,⟨⟨hy0⟩,_⟩,hW⟩:=mC (s1:=s1) (s':=s1) ⟨fun _ _=>rfl,rfl,fun _ _ _ _=>rfl⟩ hstart;obtain⟨y0,u0⟩:=y0;(try simp only at hy0);subst hy0;obtain⟨r2,ev2⟩:=cut0.apply r1;have J0:∃ι',SR (S (BB [])) ι' ⟨a.tmps,[]⟩ w/\EvN 0 (dens s1.h) ι w (S (BB [])).h ι' w:=⟨_,hact ▸ r2,ev2⟩
 refine(wpIn_wide (n:=3)).1 ?_;refine wpIn_block ?_;refine wpIn_rangeFunc_ownF rfl om (gf:=gf) (lb:=#[.pointer (some ⟨b1,o1,none⟩),.pointer (some ⟨b2,o2,none⟩)]) hev trivial eg
  (It.stops (3-1) b1 o1 b2 o2 g off D.length cap sv w hsv hlen hb1 hb2 hc1 hc2) (fun h k=>⟨k.1.trans h.1,k.2.trans h.2⟩)
  (fun X l o o' hle ho hcell _=>⟨lF (World.putObj_heap_other (by simp only;omega)),lF (World.putObj_heap_other (by simp only;omega))⟩) (RowKit.Below.refl _ _) (fun _=>rfl)
  (fun pre X=>∃ι',SR (S (BB (pre.map (fun x=>ck D x.1)))) ι' ⟨a.tmps,[]⟩ X/\EvN 0 (dens s1.h) ι w (S (BB (pre.map (fun x=>ck D x.1)))).h ι' X)
  (fun _ _ _=>False) ?own (fun _ _ _ _ _ q _ _=>q) J0
  (fun x=>⟨(a.tmps.setIfInBounds p (ckV g off D.length x)).setIfInBounds q (ckV g off D.length x),[]⟩) ?assign ?body ?done ?stop
 case own=>
  rintro pre X Y row ⟨ι',q1,q2⟩ hg hr;refine⟨ι',q1.calm (Calm.grown hg (fun r e=>(hr r e).2)),q2.calm (Calm.grown hg (fun r e=>(hr r e).2)) (fun b hb=>?_)⟩;exact hg.block b (gm hb q2.size) (fun e=>by have:=(hr b e.symm).1;omega)
 case assign=>
  intro l x X K hK;have hz:(#[p].zip #[ckV g off D.length x]).foldl (fun t (p,v)=>t.setIfInBounds p v) a.tmps=a.tmps.setIfInBounds p (ckV g off D.length x):=sm
  rw[hz];exact qJI (by have:=r.slots.1;simp only[Y.den]at this;omega) hK
 case stop=>
  intro D0 c pre X _ _ hF _;exact hF.elim
 case done=>
  rintro D0 xs X hD0 ⟨k,k1,k2,k3⟩ ⟨ι',q1,q2⟩ hdf;simp only[Exit.inBlock];rw[qXZ k1 k2 k3]at q1 q2;rw[DS]at hend;have:=hq D0 ι' X _ _ hD0 hdf q1 ((EvN.of ev1).trans q2) hend;rw[hdef];exact this
 case body=>
  rintro l pre x X ⟨ι',q1,q2⟩ hpre;refine wpIn_block ?_;have hr0:=hround (pre.map (fun x=>ck D x.1)) (ck D x.1) (fun z hz=>by
   rcases List.mem_append.1 hz with hz|hz
   ·obtain⟨y,_,rfl⟩:=gu.1 hz;exact⟨y.1,y.2,rfl⟩
   ·simp at hz;subst hz;exact⟨x.1,x.2,rfl⟩) (by simpa using hpre)
  rw[DS,cG,cG,iD]at hr0;have hDne:D≠ []:=by intro e;subst e;exact absurd x.2 (kn _)
  obtain⟨d1,d2,d3⟩:=hD hDne;have ob1:∀b,b<w.heap.size->¬Ob (dens s1.h) ι b->X.heap[b]? =w.heap[b]? /\¬Ob (S (BB (pre.map (fun x=>ck D x.1)))).h ι' b:=fun b hb hn=>q2.frame b hb hn
  have hgX:=ob1 g d1 (fun h=>d2 (.inr h));have hmX:¬Mt (S (BB (pre.map (fun x=>ck D x.1)))).h ι' g:=by
   rintro(q|q)
   ·rw[q2.away]at q;exact d2 (.inl q)
   ·exact hgX.2 q
  have hrep:Rep X ι' (Mt (S (BB (pre.map (fun x=>ck D x.1)))).h ι') (.sL (.int .i64) (ck D x.1)) (ckV g off D.length x):=
   qX0 x (gm d1 q2.size) hmX (fun j z hj=>(lF hgX.1).trans (d3 j z hj))
  have sr:=q1.slots.sets p hrep;have sr:=SRel.sets sr q hrep;refine wpIn_mono (qSD (E:=⟨P,T,_,0,[],inl⟩) hT hM hc12 hr0 l _ ι' _ X ⟨rfl,sr,q1.heap⟩) ?_;rintro e a3 X3 ⟨st,ι3,⟨rfl,s',rfl,h1,h2⟩,r3,e3⟩;obtain⟨sl',h',tch',an'⟩:=s';(try simp only at h1);have e3':EvN (S (BB (pre.map (fun x=>ck D x.1)))).h.length (S (BB (pre.map (fun x=>ck D x.1)))).h ι' X (dens h') ι3 X3:=by
   have:(S (BB (pre.map (fun x=>ck D x.1)))).h.length=(gH [.row ib [.ows (.int .u8) e5]] (BB (pre.map (fun x=>ck D x.1)),()) s1.bs s1.h).length:=eD _;rw[this];exact e3
  have ev3:=e3'.to q1.heap;have sl3:=q1.slots.mono ev3;have fw:FrW W ⟨fQ [.row ib [.ows (.int .u8) e5]] (BB (pre.map (fun x=>ck D x.1)),()) s1.bs (kU W s1.sl),gH [.row ib [.ows (.int .u8) e5]] (BB (pre.map (fun x=>ck D x.1)),()) s1.bs s1.h,[],an'⟩ ⟨fQ [.row ib [.ows (.int .u8) e5]] (BB (pre.map (fun x=>ck D x.1)),()) s1.bs (kU W s1.sl),h',tch',an'⟩:=
   ⟨⟨h2.fr.len,h2.fr.tch,h2.fr.h⟩,rfl,fun _ _=>rfl⟩
  obtain⟨σ,y,cut,⟨⟨hy⟩,_⟩,_⟩:=mC (s1:=s1) (s':=⟨fQ [.row ib [.ows (.int .u8) e5]] (BB (pre.map (fun x=>ck D x.1)),()) s1.bs (kU W s1.sl),h',tch',an'⟩) (vR (sl:=s1.sl) (h:=s1.h) (tch:=s1.tch) (t0:=[]) (an:=s1.an) hW fw).1 h1;obtain⟨y,u⟩:=y;(try simp only at hy);subst hy;obtain⟨r4,e4⟩:=cut.apply (s:=(⟨fQ [.row ib [.ows (.int .u8) e5]] (BB (pre.map (fun x=>ck D x.1)),()) s1.bs (kU W s1.sl),h',tch',an'⟩:Y).den) (ι:=ι3) (a:=⟨a.tmps,[]⟩) (w:=X3) ⟨rfl,sl3,r3.heap⟩;have etot:EvN 0 (S (BB (pre.map (fun x=>ck D x.1)))).h ι' X (S (BB ((pre++ [x]).map (fun x=>ck D x.1)))).h (ι3.ren σ) X3:=by
   rw[kb];exact(e3'.zero).trans e4
  simp only[Exit.inBlock,ownPostK];have m1:=q2.frame b1 hb1 hn1;have m2:=q2.frame b2 hb2 hn2;refine⟨e3'.keepsOthers q1.heap,⟨lF (e3'.frame b1 (gm hb1 q2.size) m1.2).1,lF (e3'.frame b2 (gm hb2 q2.size) m2.2).1⟩,_,?_,q2.trans etot⟩;rw[kb];exact r4
def rfK (P:Program) (inl:FuncId->List V->Y->(V->Y->Prop)->Prop) (T:Tbl) (W:List Nat) (ib:Nat) (e5:TypeId) (gf:FuncId) (gt p q id12:Nat) (ops12:Array Oper) (id13:Nat) (ops13:Array Oper) (rs:List ResultVar) (res:ByteArray)
  (BB:List (List Int)->List Int) (s:Y):Prop:=match KG gf gt s with
 |some (cs,i1,i2,jd,D)=>(match s with
  |⟨sl,h,_,an⟩=>(match Nat.blt p sl.length with
   |true=>needs (decide (D.length<=1099511627776)::cs) (fH (mS i1 i2 jd h) fun h=>qQT P inl T W ib e5 p q id12 ops12 id13 ops13 rs res BB D ⟨sl,h,[],an⟩)
   |false=>False))
 |none=>False
theorem aH.rf {P:Program} {T:Tbl} {f:FuncId} {fn:Func} {a1 a2 a3 a4 a5 a6:Code} {id11:Nat} {ty11:TypeId} {pos11:String} {ps:List Ty} {pre:Option (Cu ps Prop)} {res:Cu ps RV} (hT:aD P T) (hM:P.follows .mixedOrders=true) (fl:List (Nat×Nat×Nat)) (I:List Nat)
  (hf:P.funcs[f]? =some fn) {gt p q bid bid2 id12:Nat} {ops12:Array Oper} {id13:Nat} {ops13:Array Oper}
  (hb:fn.body=some (.seq a1 (.seq a2 (.seq a3 (.seq a4 (.seq a5 (.seq (.seq a6 (.block bid (.rangeFunc (.tmp gt) #[p] (.region id11 #[{dst:=some q,op:=.assign (.tmp p),type:=ty11,pos:=pos11,after:=#[],guard:=none}] false) (.block bid2 (.region id12 ops12 true))))) (.seq (.region id13 ops13 false) .ret))))))))
  {gf:FuncId} (It:vG P gf) (eg:∀(args:Array Value) (w:World),(callFunc gf args).run P w = .ok (.enter gf args) w)
   (hc12:EZ ops12=true) (W:List Nat) (ib:Nat) (e5:TypeId) (rb:Tup ps->ByteArray) (hrb:∀x,(cu ps res x).val = .v (.string (rb x))) (BB:Tup ps->List (List Int)->List Int)
  (h:∀x:Tup ps,(∀p,pre=some p->cu ps p x)->∃an:List (Nat×Nat×LA),fVs (vals ps x++gw (fn.ntmps-ps.length) (.v undef)) fun sl=>
    xcode ⟨P,T,0,0,fl,lC P T fl I 4⟩ a1 ⟨sl,[],[],an⟩ (tP (fin P fn.results.toList 0 (cu ps res x) fun _=>True) fun s=>
      xcode ⟨P,T,0,0,fl,lC P T fl I 4⟩ a2 s (tP (fin P fn.results.toList 0 (cu ps res x) fun _=>True) fun s=>
      xcode ⟨P,T,0,0,fl,lC P T fl I 4⟩ a3 s (tP (fin P fn.results.toList 0 (cu ps res x) fun _=>True) fun s=>
      xcode ⟨P,T,0,0,fl,lC P T fl I 4⟩ a4 s (tP (fin P fn.results.toList 0 (cu ps res x) fun _=>True) fun s=>
      xcode ⟨P,T,0,0,fl,lC P T fl I 4⟩ a5 s (tP (fin P fn.results.toList 0 (cu ps res x) fun _=>True) fun s=>
      xcode ⟨P,T,0,0,fl,lC P T fl I 4⟩ a6 s (tP (fin P fn.results.toList 0 (cu ps res x) fun _=>True) fun s=>
       rfK P (lC P T fl I 4) T W ib e5 gf gt p q id12 ops12 id13 ops13 fn.results.toList (rb x) (BB x) s))))))):aH P f (.fn ps pre res):=by
 intro x hx;have hlen:=Tup.len ps x;refine⟨fun p hp=>(by cases hp),fun k _=>?_⟩;refine PC.mono (PC.frame (x0:=(cu ps res x).val) (Tup.ni 0 ps x) ?_ k) (fun y k' ⟨h1,h2⟩=>⟨h1,h2⟩);obtain⟨an,hw⟩:=h x hx;rw[kM]at hw;intro ι w vs hp2 hh;have hl:=hp2.1;refine callsIn_wide.1 (callsIn_of_wp_marks (F:=Fence.wide) (n:=3) hf hb trivial (wpIn_wide.2 ?_));have hI:tK ⟨P,T,0,0,fl,lC P T fl I 4⟩:=iS hT hM fl I 4 _ _;have r0:SR (⟨vals ps x++gw (fn.ntmps-ps.length) (.v undef),[],[],an⟩:Y).den ι ⟨vs++Array.replicate (fn.ntmps-vs.size) undef,[]⟩ w:=by
  refine⟨rfl,⟨by simp [Y.den,<-hl,hlen],fun i z hz=>?_⟩,hh⟩;simp only[Y.den]at hz;by_cases h1:i<(vals ps x).length
  ·rw[kq h1]at hz
   obtain⟨u,u1,u2⟩:=hp2.2 i z hz;exact⟨u,by rw[Array.getElem?_append_left om];exact u1,u2⟩
  ·rw[List.getElem?_append_right om,List.getElem?_replicate]at hz
   split at hz
   ·rename_i h2
    injection hz with hz;subst hz;refine⟨undef,?_,.v _⟩;rw[Array.getElem?_append_right om,Array.getElem?_replicate,if_pos om]
   ·cases hz
 let R:Ending->World->Prop:=fun e w'=>∃y z h' ι',e = .returned y/\Frz zO h' z (cu ps res x).val/\Rep w' ι' (Mt h' ι') z y/\HRel h' ι' w'/\Evolve [] ι w h' ι' w'
 show Code.wp P _ (bodyPostM Fence.wide 3 P fn R) _ w;have ex:∀(e:Exit) (s':Y) (ι':Iota) (a':Act) (w':World),e ≠ .normal->fin P fn.results.toList 0 (cu ps res x) (fun _=>True) e s'->SR s'.den ι' a' w'->EvN 0 (dens []) ι w s'.den.h ι' w'->bodyPostM Fence.wide 3 P fn R e a' w':=by
  intro e s' ι' a' w' he hq r' ev;obtain⟨he2,y,hy,hc⟩:=IS hq;obtain⟨v,v1,v2⟩:=GC r' hy;have:bodyPostM Fence.wide 3 P fn R .ret a' w':=by
   show LeavesInM Fence.wide 3 P fn a'.tmps R a'.defers .returning w';rw[r'.defers];exact⟨v,v1,v,y,s'.den.h,ι',rfl,(yW (τ:=zO) (fun _ _=>rfl) hc).1,v2,r'.heap,EvN.to (h:=[]) (w:=w) (ι:=ι) ev hh⟩
  rcases he2 with rfl|rfl
  ·exact(he rfl).elim
  ·exact this
 refine sJ hT hM hI hw r0 (fun s1 ι1 a1 w1 h1 r1 e1=>?_) (fun e s' ι' a' w' he hq r' ev=>ex e s' ι' a' w' he hq r' ev);refine sJ hT hM hI h1 r1 (fun s2 ι2 a2 w2 h2 r2 e2=>?_) (fun e s' ι' a' w' he hq r' ev=>ex e s' ι' a' w' he hq r' (e1.trans ev));have e2:=e1.trans e2;refine sJ hT hM hI h2 r2 (fun s3 ι3 a3 w3 h3 r3 e3=>?_) (fun e s' ι' a' w' he hq r' ev=>ex e s' ι' a' w' he hq r' (e2.trans ev));have e3:=e2.trans e3;refine sJ hT hM hI h3 r3 (fun s4 ι4 a4 w4 h4 r4 e4=>?_) (fun e s' ι' a' w' he hq r' ev=>ex e s' ι' a' w' he hq r' (e3.trans ev));have e4:=e3.trans e4;refine sJ hT hM hI h4 r4 (fun s5 ι5 a5 w5 h5 r5 e5'=>?_) (fun e s' ι' a' w' he hq r' ev=>ex e s' ι' a' w' he hq r' (e4.trans ev));have e5':=e4.trans e5';refine wp_seq ?_;refine sJ hT hM hI h5 r5 (fun s6 ι6 a6 w6 h6 r6 e6=>?_) (fun e s' ι' a' w' he hq r' ev=>by
  have:=ex e s' ι' a' w' he hq r' (e5'.trans ev);cases e with
  |normal=>exact(he rfl).elim
  |_=>exact this)
 have e6:=e5'.trans e6;unfold rfK at h6;split at h6
 ·rename_i cs i1 i2 jd D hh6
  obtain⟨sl6,hp6,tch6,an6⟩:=s6;(try simp only at h6);split at h6;case h_2=>exact h6.elim
  rename_i hblt;obtain⟨hcs,h6⟩:=bR h6;rw[eQ]at h6;refine qQU (T:=T) (inl:=lC P T fl I 4) hT hM It eg hc12 (by simpa only[Nat.blt_eq]using hblt) hh6 (fun c q=>hcs c (ke _ q)) (of_decide_eq_true (hcs _ (kh ..))) h6 r6 ?_;intro D0 ι7 w7 sl7 h7 hD0 hdf r7 e7 hx7;have e7:=e6.trans e7;show(Code.seq (.region id13 ops13 false) .ret).wp P (bodyPostM Fence.wide 3 P fn R) ⟨a6.tmps,[{target:=.collected D0,args:=#[]}]⟩ w7;refine wp_seq ?_;refine wp_region ?_;have pol:=UD (E:=⟨P,T,0,0,[],lC P T fl I 4⟩) hT hI (W:=lT ops13.toList) (fun _ q=>q) ops13.toList 0 ⟨sl7,dens h7 |> fun _=>h7,[],[]⟩ _ (fun o ho d hd=>AN ho d hd) hx7;have hr:List.range ops13.size=List.range' 0 ops13.toList.length:=by rw[List.range_eq_range'];simp
  rw[hr];have wo:=AM (P:=P) [{target:=.collected D0,args:=#[]}] (by rintro⟨a,w,_,_,q,_⟩;cases q.1) _ a6.tmps [] w7 (pol 0 (fun j o hj=>by simpa using hj) ι7 ⟨a6.tmps,[]⟩ w7 r7);refine iB ?_ _ _ _ wo;rintro e a8 w8 ⟨ds,hds,st,ι8,⟨rfl,s8,rfl,k8,_⟩,r8,ev8⟩;have hds0:ds= []:=r8.defers;subst hds0;simp only[kg]at hds;show Code.wp P .ret (bodyPostM Fence.wide 3 P fn R) a8 w8;refine wp_ret ?_;show LeavesInM Fence.wide 3 P fn a8.tmps R a8.defers .returning w8;rw[hds];have hdf8:w8.heap[D0]? =some (.deferred (some [])):=((EvN.of (n:=0) ev8).keepsOthers r7.heap).same D0 _ hdf rfl;refine⟨sm,.inl ⟨D0,_,rfl,run_takeDeferred hdf8,?_⟩⟩;have hg:=grownBy_putObj' w8 D0 (.deferred none);have hcalm:=Calm.grown hg (fun r e=>by cases e;exact⟨_,hdf8,rfl⟩);have r9:=r8.calm hcalm;have e9:=(e7.trans (EvN.of ev8)).calm hcalm (fun b hb=>hg.block b (gm hb (Nat.le_trans (e7.trans (EvN.of ev8)).size (kd _))) (fun q=>by injection q with q;have:=e6.size;omega));obtain⟨sl8,hp8,tch8,an8⟩:=s8;(try simp only at k8);split at k8
  ·rename_i y hy
   obtain⟨⟨hy2⟩,_⟩:=k8;obtain⟨v,v1,v2⟩:=GC r9 hy;subst hy2;exact⟨v,v1,v,_,_,ι8,rfl,by rw[hrb];exact Frz.tree (.v _),v2,r9.heap,EvN.to (h:=[]) (w:=w) (ι:=ι) e9 hh⟩
  ·exact k8.elim
 ·exact h6.elim
end Go.Abs
namespace Go.Proofs.YtcjiefknhfhmkaaGreatDoor
open Go.Abs
set_option maxRecDepth 100000
set_option maxHeartbeats 4000000
set_option linter.unusedVariables false
set_option linter.unusedSimpArgs false
abbrev CV:Ct:=.fn [.int .i64,.list bU] (some (fun(t:Int) (l:List Val)=>(l.length<=4096)/\(∀v,v∈l->okV v))) (fun(t:Int) (l:List Val)=>.d .str (plL t l))
theorem qJ1:aH Tryz.prog 109 CV:=by
 refine aH.fn qAD mixed [] [] rfl rfl ?_;rintro⟨(t:Int),(l:List Val),_⟩ hpre;replace hpre:=hpre _ rfl;dsimp only[cu]at hpre;obtain⟨hl,hv⟩:=hpre;refine⟨[(0,6,LA.mk [.sl 10 (.int .i64),.row 0 [.osf 0,.own (.int .u8) (⟨5,1⟩:El)]] (fun y=>Tag 68/\cu [.int .i64,.bool,.list (.int .u8)] (fun(k:Int) (b0:Bool) (B:List Int)=>(0<=k/\k<=l.length)/\(plL t l=aT B++plL t (l.drop k.toNat))/\((B.length:Int)<=1048586*k)) y) (cu [.int .i64,.bool,.list (.int .u8)] (fun(k:Int) (b0:Bool) (B:List Int)=>((l.length:Int)-k).toNat)) (cu [.int .i64,.bool,.list (.int .u8)] (fun(k:Int) (b0:Bool) (B:List Int)=>([]:List (Nat×Nat×LA)))))],?_⟩;repeat' (first
  |(
 with_reducible refine Side.mk ⟨(⟨⟩:Tag 68),?_⟩
 dsimp only[cu,aC,aB,gts,eE,eN]
 refine⟨?_,?_,?_⟩
 ·omega
 ·first
  |(
  show plL t l=ByteArray.empty++plL t l
  rw[ky])
  |(
  have hat:=qCT hv k.toNat
  have hat1:=hat.1
  have h64:=bF (n:=(l[k.toNat]!.2.2.size:Int)) om
  have p1:=dM (l[k.toNat]!.2.2.size:Int)
  have p2:=dM (eK l[k.toNat]!.2.1)
  first
  |(
   have ht:t=3:=wa
   rw[hB,YA om,plV,if_pos ht,h64,cR,bP];simp only[ka])
  |(
   have ht:¬t=3:=wa
   rw[hB,YA om,plV,if_neg ht,cR,bP];simp only[ka]))
 ·first
  |exact Int.le_refl _
  |(
  have hat:=qCT hv k.toNat
  have hat1:=hat.1
  have h64:=bF (n:=(l[k.toNat]!.2.2.size:Int)) om
  have p1:=dM (l[k.toNat]!.2.2.size:Int)
  have p2:=dM (eK l[k.toNat]!.2.1)
  simp only[gh,aR,ga,h64]
  omega))
  |(
 with_reducible apply Side.mk
 (try dsimp only[cu,aC,aB,gts,loK,hiK,eE,eN])
 first
 |done
 |omega
 |exact va _
 |exact iI _
 |(
  have hat:=qCT hv k.toNat;have hat1:=hat.1;have h64:=bF (n:=(l[k.toNat]!.2.2.size:Int)) om;have p1:=dM (l[k.toNat]!.2.2.size:Int);have p2:=dM (eK l[k.toNat]!.2.1);first
  |exact iC hat.2
  |exact hat.2
  |(
   (try simp only[ga,h64]);omega)))
  |(conv=>whnf
    first
     |with_reducible first|done|exact trivial|refine NilBr.mk (fun h=>?_) ?_|apply aL|apply aK|refine aM kr ?_|apply aN|apply bL|apply bK|apply aU
     |((with_reducible first|apply aW|apply aV|apply bH)<;>intro h<;>(try dsimp only[cu,eE,eN]at h)<;>(try(exfalso;omega)))
     |(
 intro yy (hy:Tag 68/\_)
 obtain⟨(k:Int),(b0:Bool),(B:List Int),_⟩:=yy
 replace hy:=hy.2
 dsimp only[cu,aC,aB,gts,eE,eN]at hy
 obtain⟨hk,hB,hz⟩:=hy
 rcases b0 with _|_)))
 all_goals(
 with_reducible apply Leaf.mk
 (try dsimp only[cu,aC,aB,gts,eE,eN]at *)
 rw[hB,gj om,plL,ByteArray.append_empty])
abbrev qXB:Tbl:=(109,CV)::qXA
theorem qAE:aD Tryz.prog qXB:=aD.cons qJ1 qAD
open Go.RowKit
theorem usub (v m:Int):IntKind.u64.wrap (IntKind.u64.wrap v-IntKind.u64.wrap m)=IntKind.u64.wrap (IntKind.i64.wrap (v-m)):=by
 simp [IntKind.wrap,IntKind.bits,IntKind.signed];omega
def usF (m:Int) (D:List Int) (k:Int):List Int:=usL m (D.take k.toNat)++gw (D.length-k.toNat) 0
theorem qR2 (m:Int) (D:List Int):gw D.length 0=usF m D 0:=by simp [usF,usL]
theorem UB (m:Int) (D:List Int) (k:Int) (h:0<=k/\k<=D.length):(usF m D k).length=D.length:=by
 simp [usF,usL];omega
theorem qV0 {m:Int} {D:List Int} {k:Int} (h:0<=k/\k<D.length):(usF m D k).set k.toNat (IntKind.u64.wrap (IntKind.i64.wrap (D[k.toNat]! - m)))=usF m D (k+1):=by
 unfold usF;rw[qAY h];have hl:(usL m (D.take k.toNat)).length=k.toNat:=by simp [usL];omega
 rw[ub _ _ om,hl,Nat.sub_self,show D.length-k.toNat=(D.length-(k+1).toNat)+1 by omega,uh,um,gc];rfl
theorem qIZ {m:Int} {D:List Int} {k:Int} (h:0<=k/\k<D.length) (v:Int):((usF m D k).set k.toNat v)[k.toNat]! =v:=by
 rw[getElem!_pos _ _ (by rw[kz,UB _ _ _ om];omega),List.getElem_set_self]
theorem qAX {m:Int} {D:List Int} {k:Int} (h:k=D.length):usF m D k=usL m D:=by
 unfold usF;rw[gg om,show D.length-k.toNat=0 by omega,ui,gr]
theorem qPL {m:Int} {D:List Int} {k:Int} (h:0<=k/\k<D.length):mwL (usL m (D.take (k+1).toNat))=cH (mwL (usL m (D.take k.toNat))) (iP (IntKind.u64.wrap (IntKind.i64.wrap (D[k.toNat]! - m)))):=by
 rw[qAY h,qUN]
theorem qPI {D:List Int} (h:1<=D.length) (hv:∀x,x∈D->inI x):inI (mnL D):=hv _ (zL (fun e=>by rw[e]at h;simp at h))
abbrev GQ:Ct:=.fn [.list (.int .i64)] (some (fun(d:List Int)=>(1<=d.length/\d.length<=1073741824)/\(∀x,x∈d->inI x))) (fun(d:List Int)=>.d .str (GJ d))
theorem qM9:aH Tryz.prog 178 GQ:=by
 refine aH.fn qAE mixed [] [] rfl rfl ?_;rintro⟨(d:List Int),_⟩ hpre;replace hpre:=hpre _ rfl;dsimp only[cu]at hpre;obtain⟨hl,hv⟩:=hpre;refine⟨[(0,10,LA.mk [.sl 17 (.int .i64),.ar 0 (.int .u64) 86,.sl 5 (.int .i64)] (fun y=>Tag 69/\cu [.int .i64,.list (.int .u64),.int .i64] (fun(k:Int) (o:List Int) (w:Int)=>(0<=k/\k<=d.length)/\(o=usF (mnL d) d k)/\(w=mwL (usL (mnL d) (d.take k.toNat)))) y) (cu [.int .i64,.list (.int .u64),.int .i64] (fun(k:Int) (o:List Int) (w:Int)=>((d.length:Int)-k).toNat)) (cu [.int .i64,.list (.int .u64),.int .i64] (fun(k:Int) (o:List Int) (w:Int)=>([]:List (Nat×Nat×LA)))))],?_⟩;repeat' (first
  |(
 with_reducible refine Side.mk ⟨(⟨⟩:Tag 69),?_⟩
 dsimp only[cu,aC,aB,gts,eE,eN]
 refine⟨?_,?_,?_⟩
 ·omega
 ·first
  |exact qR2 _ _
  |rw[ho,usub,qV0 om]
 ·first
  |rfl
  |(
  (try simp only[kJ])
  rw[ho,usub,qIZ om,qPL om,<-hw]))
  |(
 with_reducible apply Side.mk
 (try dsimp only[cu,aC,aB,gts,loK,hiK,eE,eN])
 first
 |omega
 |(
  have hol:=UB (mnL d) d k om;rw[<-ho]at hol;(try simp only[kz]);omega)
 |(
  (try simp only[kJ]);rw[ho,usub,qIZ om];exact iI _)
 |exact qPI hl.1 hv
 |exact iC (qPI hl.1 hv)
 |(
  have hof:o=usL (mnL d) d:=by rw[ho,qAX om]
  have hol:=UB (mnL d) d k om;rw[<-ho]at hol;refine⟨fun q=>?_,om⟩;rw[hof];exact qV1 _ _ q)
 |(
  have h1:=dM (eK (mnL d));have h2:=tC o w;simp only[ga,XM,cI [_],gb,ge];omega))
  |(conv=>whnf
    first
     |with_reducible first|done|exact trivial|refine NilBr.mk (fun h=>?_) ?_|apply aL|apply aK|refine aM kr ?_|apply aN|apply bL|apply bK|apply aU
     |((with_reducible first|apply aW|apply aV|apply bH)<;>intro h<;>(try dsimp only[cu,eE,eN]at h)<;>(try(exfalso;omega)))
     |(
 intro yy (hy:Tag 69/\_)
 obtain⟨(k:Int),(o:List Int),(w:Int),_⟩:=yy
 replace hy:=hy.2
 dsimp only[cu,aC,aB,gts,eE,eN]at hy
 obtain⟨hk,ho,hw⟩:=hy)))
 all_goals(
 with_reducible apply Leaf.mk
 (try dsimp only[cu,aC,aB,gts,eE,eN]at *)
 (
  have hof:o=usL (mnL d) d:=by rw[ho,qAX om]
  have hwf:w=mwL (usL (mnL d) d):=by rw[hw,gg om]
  unfold GJ;rw[<-hof,hwf,<-hof];(try rfl)))
abbrev qXC:Tbl:=(178,GQ)::qXB
theorem qAF:aD Tryz.prog qXC:=aD.cons qM9 qAE
set_option maxRecDepth 100000 in
set_option maxHeartbeats 2000000 in
theorem qNL:vG Tryz.prog 200:=by
 intro n l b1 o1 b2 o2 g off len cap N sv hsv hlen hN J Jx hJ hY W h1 h2 h0;rcases hsv with⟨rfl,rfl⟩|⟨rfl,hcap⟩
 ·refine callsIn_of_wp Tryz.func200 rfl trivial ?_ rfl
  simp only[Tryz.ntmps200,uo,gb,ge,Nat.reduceAdd,Nat.reduceSub,ud,ue,uq,uj,kg,kw];gi_wp2
  gi_loopw [4] (fun i wr=>i = .int .i64 0/\J [] wr/\Kp ⟨b1,o1,none⟩ ⟨b2,o2,none⟩ W wr) (fun i _=>0)
  case atStart=>exact⟨rfl,h0,rfl,rfl⟩
  case round=>
   obtain⟨rfl,hJs,hk1,hk2⟩:=hrel;have c1:wr.cell? ⟨b1,o1,none⟩=some (.slice none 0 0):=hk1.trans h1;have c2:wr.cell? ⟨b2,o2,none⟩=some (.int .i64 32):=hk2.trans h2;gi_wp2
   go_end0
   exact⟨⟨_,rfl⟩,.inl ⟨[],⟨0,rfl,om,om⟩,hJs⟩⟩
 ·refine callsIn_of_wp Tryz.func200 rfl trivial ?_ rfl
  simp only[Tryz.ntmps200,uo,gb,ge,Nat.reduceAdd,Nat.reduceSub,ud,ue,uq,uj,kg,kw];gi_wp2
  gi_loopw [4] (fun i wr=>∃(k:Nat) (ys:List (Ck len)),i = .int .i64 ((32*k:Nat):Int)/\ys.map (·.1)=List.range k/\32*k<len+32/\J ys wr/\Kp ⟨b1,o1,none⟩ ⟨b2,o2,none⟩ W wr)
   (fun i _=>len+32-(intOf i).toNat)
  case atStart=>exact⟨0,[],rfl,rfl,om,h0,rfl,rfl⟩
  case round=>
   obtain⟨k,ys,rfl,hys,hk,hJs,hk1,hk2⟩:=hrel;have c1:wr.cell? ⟨b1,o1,none⟩=some (.slice (some ⟨g,off,none⟩) len cap):=hk1.trans h1;have c2:wr.cell? ⟨b2,o2,none⟩=some (.int .i64 32):=hk2.trans h2;by_cases hlt:32*k<len
   ·have hyl:ys.length=k:=by have:=congrArg List.length hys;simpa using this
    gi_wp2
    gi_region
    obtain⟨m,hm⟩:∃m,m=min 32 (len-32*k):=⟨_,rfl⟩
    have hmi:(if((len-32*k:Nat):Int)<32 then((len-32*k:Nat):Int)else 32)=((m:Nat):Int):=by
     rw[hm];split<;>omega
    have hm1:32*k+m<=len/\1<=m/\m<=32:=om
    have hJd:J ys wr.drew:=hJ ys wr wr.drew none hJs ⟨rfl,rfl,rfl,kd _,fun k _ _=>rfl⟩ (fun r q=>by cases q);obtain⟨fn,tmps,assign,body,hy,hR⟩:=hY ys ⟨k,hlt⟩ wr.drew hJd om;have c1:wr.drew.cell? ⟨b1,o1,none⟩=some (.slice (some ⟨g,off,none⟩) len cap):=c1;have c2:wr.drew.cell? ⟨b2,o2,none⟩=some (.int .i64 32):=c2;dsimp only[ckV]at hy;first|rw[hmi]|rw[show min (32:Int) ((len-32*k:Nat):Int)=((m:Nat):Int)by rw[hm];omega]
    gi_wp2
    refine⟨(by intro q;cases q),hR.mono ?_⟩;rintro e W3 (⟨rfl,hJ3,hk31,hk32⟩|⟨rfl,hJx3⟩)
    ·have c3:W3.cell? ⟨b2,o2,none⟩=some (.int .i64 32):=hk32.trans c2
     gi_wp2
     go_roundw
     case rel=>exact⟨k+1,ys++ [⟨k,hlt⟩],by simp;omega,by rw[kb,hys,ua];rfl,om,hJ3,hk31.trans hk1,hk32.trans hk2⟩
     case measure=>simp [intOf];omega
    ·gi_wp2
     refine bodyPost_ret (results_none rfl _ _ _) rfl ?_;exact⟨⟨_,rfl⟩,.inr ⟨_,hJx3⟩⟩
   ·gi_wp2
    go_end0
    exact⟨⟨_,rfl⟩,.inl ⟨ys,⟨k,hys,om,om⟩,hJs⟩⟩
def bbD (x:Int) (cs:List (List Int)):List Int:=aE (aT (put (eK x)))++cs.flatMap fun c=>aE (GJ c)
theorem qSN (x:Int) (cs:List (List Int)) (c:List Int):bbD x (cs++ [c])=bbD x cs++aE (GJ c):=by simp [bbD]
theorem qSO (x:Int):∀cs:List (List Int),(bbD x cs).length<=10+32779*cs.length:=by
 intro cs;unfold bbD;have h1:=dM (eK x);rw[gh,aR];have:(cs.flatMap fun c=>aE (GJ c)).length<=32779*cs.length:=by
  induction cs with
  |nil=>exact gz _
  |cons c cs ih=>
   have h2:=BF c;rw[ur,gh,aR,gb];omega
 omega
theorem qT6 {D x:List Int} (h:qa4 D x):1<=x.length/\x.length<=32/\∀z,z∈x->z∈D:=by
 obtain⟨k,h1,rfl⟩:=h;unfold ck;refine⟨by simp;omega,by simp;omega,fun z hz=>uf (List.mem_of_mem_take hz)⟩
theorem WK:∀(n:Nat) (D:List Int),D.length<=n->wX D=aT ((ckL D).flatMap fun c=>aE (GJ c))
 |n,D,h=>by
  rw[wX];split
  ·rename_i h0
   have:ckL D= []:=by unfold ckL;rw[h0];rfl
   rw[this];rfl
  ·rename_i h0
   obtain⟨m,rfl⟩:∃m,n=m+1:=⟨n-1,om⟩
   have e:ckL D=D.take 32::ckL (D.drop 32):=by
    unfold ckL;rw[gi,show(D.length+31)/32=(D.length-32+31)/32+1 by omega,List.range_succ_eq_map,kc,List.map_map];rw[show ck D 0=D.take 32 by simp [ck]];congr 1
    refine List.map_congr_left fun k _=>?_
    simp only[Function.comp,ck,ko];rw[show 32*k.succ=32+32*k by omega]
   rw[e,ur,cR,bP,WK m (D.drop 32) (by simp;omega)]
theorem qX8 {l:List Int}:∀x,x∈dfs l->inI x:=fun x hx=>by
 unfold dfs at hx;obtain⟨j,_,rfl⟩:=gu.1 hx;exact FQ _
theorem qN9 {l:List Int} {k:Int} (h:0<=k/\k<(l.length:Int)-1):(dfs l).take (k+1).toNat=(dfs l).take k.toNat++ [IntKind.i64.wrap ((l.drop 1)[k.toNat]! - l[k.toNat]!)]:=by
 rw[qI (by rw[qV];omega),qS8 om,IN,Nat.add_comm 1]
theorem qTE {l:List Int} (h:¬(l.length=0\/l.length>4096)):aT (bbD l[0]! (ckL (dfs l)))=fK l:=by
 rw[fK,if_neg h,bbD,cR,bP,<-WK _ _ (kd _)]
abbrev MQ:Ct:=.fn [.list (.int .i64)] (some (fun(l:List Int)=>(l.length<=1073741824)/\(∀x,x∈l->inI x))) (fun(l:List Int)=>.d .str (fK l))
theorem qTF:aH Tryz.prog 152 MQ:=by
 refine aH.rf qAF mixed [(0,8,6)] [177] rfl rfl (qNL:vG Tryz.prog 200) (enters_of Tryz.func200 kr rfl) rfl [0,1,2,4,5,6,7,8,9,10,11,12,13,14,15,16,17,18,19,20,21,22,23,24,25,26,27,28,29,30,31,32,33,34,35,36,37,38,39,40,41,42,43,44,45,46,47,48] 1 5 (cu [.list (.int .i64)] (fun(l:List Int)=>fK l)) (fun _=>rfl) (cu [.list (.int .i64)] (fun(l:List Int)=>fun(cs:List (List Int))=>bbD l[0]! cs)) ?_;rintro⟨(l:List Int),_⟩ hpre;replace hpre:=hpre _ rfl;dsimp only[cu]at hpre;obtain⟨hl,hv⟩:=hpre;have hd:(List.drop (Int.toNat 1) l).length=l.length-1:=gi;refine⟨[(0,12,LA.mk [.sl 25 (.int .i64),.lst 4 (.int .i64) 2] (fun y=>Tag 70/\cu [.int .i64,.list (.int .i64)] (fun(k:Int) (M:List Int)=>(0<=k/\k<=(l.length:Int)-1)/\(M=(dfs l).take k.toNat)) y) (cu [.int .i64,.list (.int .i64)] (fun(k:Int) (M:List Int)=>((l.length:Int)-1-k).toNat)) (cu [.int .i64,.list (.int .i64)] (fun(k:Int) (M:List Int)=>([]:List (Nat×Nat×LA)))))],?_⟩;repeat' (first
  |(
 intro(pre:List (List Int)) (x:List Int) hz hp
 have hmf:M=dfs l:=by rw[hM,gg (by rw[qV];omega)]
 have hck:=qT6 (hz x sm)
 have hbl:=qSO l[0]! pre
 rw[hmf,qV]at hp
 rw[hmf]at hck)
  |(
 with_reducible refine Side.mk ⟨(⟨⟩:Tag 70),?_⟩
 dsimp only[cu,aC,aB,gts,eE,eN]
 refine⟨?_,?_⟩
 ·omega
 ·first
  |rfl
  |(
  rw[qN9 om,<-hM]
  (try rfl)))
  |(
 with_reducible apply Side.mk
 (try dsimp only[cu,aC,aB,gts,loK,hiK,eE,eN])
 first
 |done
 |omega
 |exact va _
 |exact(aR _).symm
 |exact IY hv _
 |exact iC (IY hv _)
 |(
  have hml:=congrArg List.length hM;rw[List.length_take,qV]at hml;(try simp only[gb,ge]);omega)
 |exact⟨⟨hck.1,om⟩,fun z q=>qX8 z (hck.2.2 z q)⟩
 |(
  have hb2:=BF x;(try simp only[aR,gh]);omega))
  |(conv=>whnf
    first
     |with_reducible first|done|exact trivial|refine RfAnd.mk ?_ ?_ ?_|refine NilBr.mk (fun h=>?_) ?_|apply aL|apply aK|refine aM kr ?_|apply aN|apply bL|apply bK|apply aU
     |((with_reducible first|apply aW|apply aV|apply bH)<;>intro h<;>(try dsimp only[cu,eE,eN]at h)<;>(try(exfalso;omega)))
     |(
 intro yy (hy:Tag 70/\_)
 obtain⟨(k:Int),(M:List Int),_⟩:=yy
 replace hy:=hy.2
 dsimp only[cu,aC,aB,gts,eE,eN]at hy
 obtain⟨hk,hM⟩:=hy)))
 all_goals(
 with_reducible apply Leaf.mk
 (try dsimp only[cu,aC,aB,gts,eE,eN]at *)
 first
 |rw[fK,if_pos om]
 |(
  (try simp only[List.flatMap_nil,gr,bbD]);rfl)
 |rw[qSN]
 |(
  have hmf:M=dfs l:=by rw[hM,gg (by rw[qV];omega)]
  rw[hmf,qTE om]))
abbrev qXD:Tbl:=(152,MQ)::qXC
theorem qAG:aD Tryz.prog qXD:=aD.cons qTF qAF
theorem qLJ {m:List Int} (h:1<=m.length):runs m=((cS m[0]! (m.drop 1):Int)+1,m[0]!)::runs (m.drop ((cS m[0]! (m.drop 1):Int)+1).toNat):=by
 cases m with
 |nil=>simp at h
 |cons v l=>
  rw[runs];simp only[uk,kp,List.getElem!_cons_zero];rw[show((cS v l:Int)+1).toNat=cS v l+1 by omega,uk]
abbrev MR:Ct:=.fn [.list (.int .i64)] (some (fun(l:List Int)=>(l.length<=1073741824)/\(∀x,x∈l->inI x))) (fun(l:List Int)=>.d .str (oU l))
theorem qTG:aH Tryz.prog 151 MR:=by
 refine aH.fn qAG mixed [] [] rfl rfl ?_;rintro⟨(l:List Int),_⟩ hpre;replace hpre:=hpre _ rfl;dsimp only[cu]at hpre;obtain⟨hl,hv⟩:=hpre;refine⟨[(0,4,LA.mk [.sl 0 (.list (.int .i64)),.lst 3 (.int .u8) (⟨5,1⟩:El)] (fun y=>Tag 71/\cu [.list (.int .i64),.list (.int .u8)] (fun(m:List Int) (B:List Int)=>(m.length<=l.length/\∀x,x∈m->inI x)/\(oU l=aT B++aT (BK (runs m)))/\((B.length:Int)<=20*(l.length-m.length))) y) (cu [.list (.int .i64),.list (.int .u8)] (fun(m:List Int) (B:List Int)=>m.length)) (cu [.list (.int .i64),.list (.int .u8)] (fun(m:List Int) (B:List Int)=>([]:List (Nat×Nat×LA)))))],?_⟩;repeat' (first
  |(
 with_reducible refine Side.mk ⟨(⟨⟩:Tag 71),?_⟩
 dsimp only[cu,aC,aB,gts,eE,eN]
 refine⟨?_,?_,?_⟩
 ·first
  |exact⟨kd _,hv⟩
  |(
  have hr:=lA m[0]! (m.drop 1)
  rw[gi]at hr
  exact⟨by simp;omega,fun x q=>hm.2 x (uf q)⟩)
 ·first
  |(
  show oU l=ByteArray.empty++oU l
  rw[ky])
  |(
  (try simp only[ug])
  have hr:=lA m[0]! (m.drop 1)
  rw[gi]at hr
  have hu:=bF (n:=(cS m[0]! (m.drop 1):Int)+1) om
  rw[hx,qLJ om,BK,hu]
  simp only[cR,bP,ka])
 ·first
  |simp only[ge];omega
  |(
  (try simp only[ug])
  have hr:=lA m[0]! (m.drop 1)
  rw[gi]at hr
  have p1:=dM (IntKind.u64.wrap ((cS m[0]! (m.drop 1):Int)+1))
  have p2:=dM (eK m[0]!)
  simp only[gh,aR,gi]
  omega))
  |(
 with_reducible apply Side.mk
 (try dsimp only[cu,aC,aB,gts,loK,hiK,eE,eN])
 first
 |done
 |omega
 |exact va _
 |exact IY hm.2 _
 |exact iC (IY hm.2 _)
 |exact iI _
 |(
  have hr:=lA m[0]! (m.drop 1);rw[gi]at hr;first
  |omega
  |(
   (try simp only[gi]);omega))
 |(
  (try simp only[ug]);have hr:=lA m[0]! (m.drop 1);rw[gi]at hr;have p1:=dM (IntKind.u64.wrap ((cS m[0]! (m.drop 1):Int)+1));have p2:=dM (eK m[0]!);(try simp only[gh,aR]);omega))
  |(conv=>whnf
    first
     |with_reducible first|done|exact trivial|refine NilBr.mk (fun h=>?_) ?_|apply aL|apply aK|refine aM kr ?_|apply aN|apply bL|apply bK|apply aU
     |((with_reducible first|apply aW|apply aV|apply bH)<;>intro h<;>(try dsimp only[cu,eE,eN]at h)<;>(try(exfalso;omega)))
     |(
 intro yy (hy:Tag 71/\_)
 obtain⟨(m:List Int),(B:List Int),_⟩:=yy
 replace hy:=hy.2
 dsimp only[cu,aC,aB,gts,eE,eN]at hy
 obtain⟨hm,hx,hz⟩:=hy)))
 all_goals(
 with_reducible apply Leaf.mk
 (try dsimp only[cu,aC,aB,gts,eE,eN]at *)
 (
  have hm0:m= []:=List.eq_nil_of_length_eq_zero om;rw[hx,hm0,runs,BK];show _=aT B++ByteArray.empty;simp))
abbrev qXE:Tbl:=(151,MR)::qXD
theorem qAH:aD Tryz.prog qXE:=aD.cons qTG qAG
def ES {α:Type} (f:Val->α) (z:α) (l:List Val) (k:Int):List α:=(l.take k.toNat).map f++gw (l.length-k.toNat) z
theorem CA {α:Type} (f:Val->α) (z:α) (l:List Val):gw l.length z=ES f z l 0:=by simp [ES]
theorem uQ {α:Type} (f:Val->α) (z:α) (l:List Val) (k:Int) (h:0<=k/\k<=l.length):(ES f z l k).length=l.length:=by simp [ES];omega
theorem JQ {α:Type} {f:Val->α} {z:α} {l:List Val} {k:Int} (h:0<=k/\k<l.length):(ES f z l k).set k.toNat (f l[k.toNat]!)=ES f z l (k+1):=by
 unfold ES;rw[CH h];have hl:((l.take k.toNat).map f).length=k.toNat:=by simp;omega
 rw[ub _ _ om,hl,Nat.sub_self,show l.length-k.toNat=(l.length-(k+1).toNat)+1 by omega,uh,um,kb,gc];rfl
theorem iL {α:Type} {f:Val->α} {z:α} {l:List Val} {k:Int} (h:k=l.length):ES f z l k=l.map f:=by
 unfold ES;rw[gg om,show l.length-k.toNat=0 by omega,ui,gr]
abbrev MN:Ct:=.fn [.int .i64,.list bU] (some (fun(c:Int) (l:List Val)=>(2<=c/\c<=4)/\(l.length<=4096)/\(∀v,v∈l->okV v))) (fun(c:Int) (l:List Val)=>.d .str (gQ 0 c l))
theorem qS1:aH Tryz.prog 111 MN:=by
 refine aH.fn qAH mixed [] [] rfl rfl ?_;rintro⟨(c:Int),(l:List Val),_⟩ hpre;replace hpre:=hpre _ rfl;dsimp only[cu]at hpre;obtain⟨hc,hl,hv⟩:=hpre;refine⟨[(0,6,LA.mk [.sl 17 (.int .i64),.ar 0 (.int .i64) 2,.ar 1 .str 9] (fun y=>Tag 72/\cu [.int .i64,.list (.int .i64),.list .str] (fun(k:Int) (M:List Int) (S:List ByteArray)=>(0<=k/\k<=l.length)/\(M=ES (fun v:Val=>v.2.1) (0:Int) l k)/\(S=ES (fun v:Val=>v.2.2) (⟨#[]⟩:ByteArray) l k)) y) (cu [.int .i64,.list (.int .i64),.list .str] (fun(k:Int) (M:List Int) (S:List ByteArray)=>((l.length:Int)-k).toNat)) (cu [.int .i64,.list (.int .i64),.list .str] (fun(k:Int) (M:List Int) (S:List ByteArray)=>([]:List (Nat×Nat×LA)))))],?_⟩;repeat' (first
  |(
 with_reducible refine Side.mk ⟨(⟨⟩:Tag 72),?_⟩
 dsimp only[cu,aC,aB,gts,eE,eN]
 refine⟨?_,?_,?_⟩
 ·omega
 ·first
  |exact CA _ _ _
  |(
  rw[hM]
  exact JQ (f:=fun v:Val=>v.2.1) om)
 ·first
  |exact CA _ _ _
  |(
  rw[hS]
  exact JQ (f:=fun v:Val=>v.2.2) om))
  |(
 with_reducible apply Side.mk
 (try dsimp only[cu,aC,aB,gts,loK,hiK,eE,eN])
 first
 |omega
 |(
  have hml:=uQ (fun v:Val=>v.2.1) (0:Int) l k om;rw[<-hM]at hml;have hsl:=uQ (fun v:Val=>v.2.2) (⟨#[]⟩:ByteArray) l k om;rw[<-hS]at hsl;omega)
 |(
  have hf:M=lY l:=by rw[hM,iL om];rfl
  have hg:S=xE l:=by rw[hS,iL om];rfl
  have hml:=uQ (fun v:Val=>v.2.1) (0:Int) l k om;rw[<-hM]at hml;have hsl:=uQ (fun v:Val=>v.2.2) (⟨#[]⟩:ByteArray) l k om;rw[<-hS]at hsl;first
  |(
   refine⟨om,?_⟩;rw[hf];exact qU0 hv)
  |(
   refine⟨?_,om⟩;rw[hg];exact qF7 hv)))
  |(conv=>whnf
    first
     |with_reducible first|done|exact trivial|refine NilBr.mk (fun h=>?_) ?_|apply aL|apply aK|refine aM kr ?_|apply aN|apply bL|apply bK|apply aU
     |((with_reducible first|apply aW|apply aV|apply bH)<;>intro h<;>(try dsimp only[cu,eE,eN]at h)<;>(try(exfalso;omega)))
     |(
 intro yy (hy:Tag 72/\_)
 obtain⟨(k:Int),(M:List Int),(S:List ByteArray),_⟩:=yy
 replace hy:=hy.2
 dsimp only[cu,aC,aB,gts,eE,eN]at hy
 obtain⟨hk,hM,hS⟩:=hy)))
 all_goals(
 with_reducible apply Leaf.mk
 (try dsimp only[cu,aC,aB,gts,eE,eN]at *)
 first
 |(
  have hf:M=lY l:=by rw[hM,iL om];rfl
  have hg:S=xE l:=by rw[hS,iL om];rfl
  first
  |(
   have hc2:c=2:=wa
   rw[gQ,if_pos hc2,hf])
  |(
   have hc2:¬c=2:=wa
   first
   |(
    have hc4:c=4:=wa
    rw[gQ,if_neg hc2,if_neg om,if_pos hc4,hf])
   |(
    have hc3:c=3:=wa
    rw[gQ,if_neg hc2,if_pos hc3,hg]))))
abbrev qXF:Tbl:=(111,MN)::qXE
theorem qAI:aD Tryz.prog qXF:=aD.cons qS1 qAH
def CR (t:Int) (P:List Val):List Int->Int->Int
 | [],q=>q
 |k::ks,q=>CR t P ks (if(gQ t k P).size<(gQ t q P).size then k else q)
theorem GF {t:Int} {P:List Val} {L:List Int} {j q:Int} (h:0<=j/\j<L.length):CR t P (L.drop j.toNat) q=CR t P (L.drop (j+1).toNat) (if(gQ t L[j.toNat]! P).size<(gQ t q P).size then L[j.toNat]! else q):=by
 rw[bQ L j h];rfl
theorem qNS (t:Int):((kK t).drop (Int.toNat 1)).length<=2:=by unfold kK;split<;>decide
theorem qSX (t:Int):2<=(kK t).length/\(kK t).length<=3:=by unfold kK;split<;>decide
theorem FB {t j:Int} (h:0<=j/\j<((kK t).drop (Int.toNat 1)).length):(2<=((kK t).drop (Int.toNat 1))[j.toNat]! /\((kK t).drop (Int.toNat 1))[j.toNat]! <=4):=by
 have:∀k,k∈(kK t).drop (Int.toNat 1)->2<=k/\k<=4:=by
  unfold kK;split<;>(intro k hk;simp [show Int.toNat 1=1 from rfl]at hk;omega)
 exact this _ (by rw[getElem!_pos _ _ om];exact kf _)
theorem qJU (t k q:Int) (l:List Val):(bZ t k l).size+(gQ t q (bC l)).size=(bZ t q l).size+(gQ t k (bC l)).size:=by
 have hh:(oM k l).size=(oM q l).size:=by
  unfold oM;simp only[ga,cI [_],gb,ge]
 unfold bZ;split<;>simp only[ga]<;>omega
theorem UY (t k q:Int) (l:List Val):(dX t k l).size<(dX t q l).size↔(gQ t k (bC l)).size<(gQ t q (bC l)).size:=by
 have:=qJU t k q l;unfold dX;rw[mX,mX];omega
theorem qNG (t k:Int) (l:List Val):¬dX t k l=⟨#[]⟩:=fun e=>by
 have:=congrArg ByteArray.size e;unfold dX at this;rw[mX]at this;have h0:(ByteArray.mk #[]).size=0:=rfl;omega
theorem qNE (t:Int) (l:List Val):bst t l 4 1 ⟨#[]⟩=dX t (CR t (bC l) ((kK t).drop (Int.toNat 1)) 1) l:=by
 have st:∀(k q:Int),(if dX t q l=⟨#[]⟩\/(dX t k l).size<(dX t q l).size then dX t k l else dX t q l)=dX t (if(gQ t k (bC l)).size<(gQ t q (bC l)).size then k else q) l:=fun k q=>by
  by_cases h:(gQ t k (bC l)).size<(gQ t q (bC l)).size
  ·rw[if_pos h,if_pos (.inr ((UY _ _ _ _).2 h))]
  ·rw[if_neg h,if_neg (fun p=>by
     rcases p with p|p
     ·exact qNG _ _ _ p
     ·exact h ((UY _ _ _ _).1 p))]
 by_cases ht:t=3
 ·have u1:bY t 1=true:=by unfold bY;rw[if_pos ht];rfl
  have u2:¬bY t (1+1)=true:=by unfold bY;rw[if_pos ht];decide
  have u3:bY t (1+1+1)=true:=by unfold bY;rw[if_pos ht];rfl
  have u4:¬bY t (1+1+1+1)=true:=by unfold bY;rw[if_pos ht];decide
  simp only[bst];rw[if_neg u4,if_pos u3,if_neg u2,if_pos u1];simp only[true_or,if_true];rw[st];unfold kK;rw[if_pos ht];rfl
 ·have u1:bY t 1=true:=by unfold bY;rw[if_neg ht];rfl
  have u2:bY t (1+1)=true:=by unfold bY;rw[if_neg ht];rfl
  have u3:¬bY t (1+1+1)=true:=by unfold bY;rw[if_neg ht];decide
  have u4:bY t (1+1+1+1)=true:=by unfold bY;rw[if_neg ht];rfl
  simp only[bst];rw[if_pos u4,if_neg u3,if_pos u2,if_pos u1];simp only[true_or,if_true];rw[st,st];unfold kK;rw[if_neg ht];rfl
theorem qP3 (t u k:Int) (l:List Val) (h:2<=k/\k<=4):gQ t k l=gQ u k l:=by
 unfold gQ;by_cases h2:k=2
 ·rw[if_pos h2,if_pos h2]
 ·by_cases h3:k=3
  ·rw[if_neg h2,if_neg h2,if_pos h3,if_pos h3]
  ·rw[if_neg h2,if_neg h2,if_neg h3,if_neg h3,if_pos om,if_pos om]
theorem SL {c:Col} {l:List Val} (h1:¬bJ c.2.1=false) (h2:¬l.length>4096) (h3:gF c l=0):rQ c l=(dX c.2.1 (CR c.2.1 (bC l) ((kK c.2.1).drop (Int.toNat 1)) 1) l,0):=by
 rw[rQ,if_neg h1,if_neg h2,if_neg (fun q=>q h3),qNE]
abbrev yJ:Ct:=.fn [tY,.list bU] (some (fun(c:Col) (l:List Val)=>(l.length<=9223372036854775807)/\(∀v,v∈l->inI v.2.1))) (fun(c:Col) (l:List Val)=>.tup [.str,.int .i64] ((rQ c l).1,(rQ c l).2,()))
theorem qBI:aH Tryz.prog 66 yJ:=by
 refine aH.fn qAI mixed [] [] rfl rfl ?_;rintro⟨(c:Col),(l:List Val),_⟩ hpre;replace hpre:=hpre _ rfl;dsimp only[cu]at hpre;obtain⟨hl,hin⟩:=hpre;refine⟨[(0,16,LA.mk [.sl 36 (.int .i64),.ar 1 .bool 4,.lst 7 bU 43] (fun y=>Tag 73/\cu [.int .i64,.list .bool,.list bU] (fun(i:Int) (N:List Bool) (P:List Val)=>(0<=i/\i<=l.length)/\(gF c l=gF c (l.drop i.toNat))/\(N=ES (fun v:Val=>v.1) false l i)/\(P=bC (l.take i.toNat))) y) (cu [.int .i64,.list .bool,.list bU] (fun(i:Int) (N:List Bool) (P:List Val)=>((l.length:Int)-i).toNat)) (cu [.int .i64,.list .bool,.list bU] (fun(i:Int) (N:List Bool) (P:List Val)=>([]:List (Nat×Nat×LA))))),(0,38,LA.mk [.sl 69 (.int .i64),.sl 11 .str,.sl 12 (.int .i64)] (fun y=>Tag 74/\cu [.int .i64,.str,.int .i64] (fun(j:Int) (b:ByteArray) (q:Int)=>(0<=j/\j<=((kK c.2.1).drop (Int.toNat 1)).length)/\(1<=q/\q<=4)/\(b=gQ c.2.1 q (bC l))/\(CR c.2.1 (bC l) ((kK c.2.1).drop (Int.toNat 1)) 1=CR c.2.1 (bC l) (((kK c.2.1).drop (Int.toNat 1)).drop j.toNat) q)) y) (cu [.int .i64,.str,.int .i64] (fun(j:Int) (b:ByteArray) (q:Int)=>((((kK c.2.1).drop (Int.toNat 1)).length:Int)-j).toNat)) (cu [.int .i64,.str,.int .i64] (fun(j:Int) (b:ByteArray) (q:Int)=>([]:List (Nat×Nat×LA)))))],?_⟩;repeat' (first
  |(
 with_reducible refine Side.mk ⟨(⟨⟩:Tag 73),?_⟩
 dsimp only[cu,aC,aB,gts,eE,eN]
 refine⟨?_,?_,?_,?_⟩
 ·omega
 ·first
  |rfl
  |(
  have hv:¬aZ c l[i.toNat]! ≠0:=mN wa
  rw[hc,DN om,if_neg hv])
 ·first
  |exact CA _ _ _
  |(
  rw[hN]
  exact JQ (f:=fun v:Val=>v.1) om)
 ·first
  |rfl
  |(
  have hb:l[i.toNat]!.1=true:=by first|exact wa|exact BZ wa
  rw[QG om,<-hP,if_pos hb,gr])
  |(
  have hb:¬l[i.toNat]!.1=true:=by first|exact wa|(simp_all;done)
  rw[QG om,<-hP,if_neg hb]))
  |(
 with_reducible refine Side.mk ⟨(⟨⟩:Tag 74),?_⟩
 dsimp only[cu,aC,aB,gts,eE,eN]
 refine⟨?_,?_,?_,?_⟩
 ·omega
 ·first
  |omega
  |(
  have hca:=FB (t:=c.2.1) (j:=j) om
  omega)
 ·first
  |exact hb
  |(
  have hch:gF c l=0:=by rw[hc,gj om];rfl
  have hok:∀v,v∈l->okV v:=fun v hv=>eO (mE hch v hv) (hin v hv)
  have hF:P=bC l:=by rw[hP,gg om]
  have hG:N=cL l:=by rw[hN,iL om];rfl
  have hpl:=kD l
  rw[<-hF]at hpl
  have hpo:=rC hok
  rw[<-hF]at hpo
  rw[<-hF]
  first
  |rfl
  |(
   have hca:=FB (t:=c.2.1) (j:=j) om;exact qP3 _ _ _ _ hca))
 ·first
  |rfl
  |(
  have hch:gF c l=0:=by rw[hc,gj om];rfl
  have hok:∀v,v∈l->okV v:=fun v hv=>eO (mE hch v hv) (hin v hv)
  have hF:P=bC l:=by rw[hP,gg om]
  have hG:N=cL l:=by rw[hN,iL om];rfl
  have hpl:=kD l
  rw[<-hF]at hpl
  have hpo:=rC hok
  rw[<-hF]at hpo
  have hca:=FB (t:=c.2.1) (j:=j) om
  have hpt:=qP3 0 c.2.1 _ (bC l) hca
  first
  |(
   have hlt:(gQ c.2.1 ((kK c.2.1).drop (Int.toNat 1))[j.toNat]! (bC l)).size<(gQ c.2.1 q (bC l)).size:=by rw[<-hpt,<-hb,<-hF];omega
   rw[hk,GF om,if_pos hlt])
  |(
   have hlt:¬(gQ c.2.1 ((kK c.2.1).drop (Int.toNat 1))[j.toNat]! (bC l)).size<(gQ c.2.1 q (bC l)).size:=by rw[<-hpt,<-hb,<-hF];omega
   rw[hk,GF om,if_neg hlt])))
  |(
 with_reducible apply Side.mk
 (try dsimp only[cu,aC,aB,gts,loK,hiK,eE,eN])
 first
 |done
 |omega
 |exact va _
 |(
  have hnl:=uQ (fun v:Val=>v.1) false l i om;rw[<-hN]at hnl;omega)
 |(
  have hp1:=kD (l.take i.toNat);rw[<-hP,List.length_take]at hp1;(try simp only[gb,ge]);omega)
 |(
  have hch:gF c l=0:=by rw[hc,gj om];rfl
  have hok:∀v,v∈l->okV v:=fun v hv=>eO (mE hch v hv) (hin v hv)
  have hF:P=bC l:=by rw[hP,gg om]
  have hG:N=cL l:=by rw[hN,iL om];rfl
  have hpl:=kD l;rw[<-hF]at hpl;have hpo:=rC hok;rw[<-hF]at hpo;exact⟨om,hpo⟩)
 |(
  have hca:=FB (t:=c.2.1) (j:=j) om;have hch:gF c l=0:=by rw[hc,gj om];rfl
  have hok:∀v,v∈l->okV v:=fun v hv=>eO (mE hch v hv) (hin v hv)
  have hF:P=bC l:=by rw[hP,gg om]
  have hG:N=cL l:=by rw[hN,iL om];rfl
  have hpl:=kD l;rw[<-hF]at hpl;have hpo:=rC hok;rw[<-hF]at hpo;exact⟨hca,om,hpo⟩)
 |(
  have hcl:=qSX c.2.1;omega)
 |(
  have hcl:=qNS c.2.1;omega)
 |exact iI _
 |(
  have hch:gF c l=0:=by rw[hc,gj om];rfl
  have hok:∀v,v∈l->okV v:=fun v hv=>eO (mE hch v hv) (hin v hv)
  have hF:P=bC l:=by rw[hP,gg om]
  have hG:N=cL l:=by rw[hN,iL om];rfl
  have hpl:=kD l;rw[<-hF]at hpl;have hpo:=rC hok;rw[<-hF]at hpo;have w1:=bF (n:=(l.length:Int)) om;have w2:=bF (n:=(l.length:Int)-P.length) om;have hh:=BN q l;have hp:=XX (t:=c.2.1) (k:=q) (rC hok) (by have:=kD l;omega);rw[<-hb]at hp;have hq2:=JP (l:=cL l) (by simp [cL];omega);rw[<-hG]at hq2;have p1:=dM (l.length:Int);have p2:=dM ((l.length:Int)-P.length);simp only[ga,w1,w2,XM,cI [_],rU,gb,ge];omega))
  |(conv=>whnf
    first
     |with_reducible first|done|exact trivial|refine NilBr.mk (fun h=>?_) ?_|apply aL|apply aK|refine aM kr ?_|apply aN|apply bL|apply bK|apply aU
     |((with_reducible first|apply aW|apply aV|apply bH)<;>intro h<;>(try dsimp only[cu,eE,eN]at h)<;>(try(exfalso;omega)))
     |(
 intro yy (hy:Tag 73/\_)
 obtain⟨(i:Int),(N:List Bool),(P:List Val),_⟩:=yy
 replace hy:=hy.2
 dsimp only[cu,aC,aB,gts,eE,eN]at hy
 obtain⟨hi,hc,hN,hP⟩:=hy)
     |(
 intro yy (hy:Tag 74/\_)
 obtain⟨(j:Int),(b:ByteArray),(q:Int),_⟩:=yy
 replace hy:=hy.2
 dsimp only[cu,aC,aB,gts,eE,eN]at hy
 obtain⟨hj,hq,hb,hk⟩:=hy)))
 all_goals(
 with_reducible apply Leaf.mk
 (try dsimp only[cu,aC,aB,gts,eE,eN]at *)
 first
 |(
  have hkn:bJ c.2.1=false:=by unfold bJ;simp;omega
  rw[rQ,if_pos hkn])
 |(
  have hkn:¬bJ c.2.1=false:=by unfold bJ;simp;omega
  first
  |(
   have h4:l.length>4096:=om
   rw[rQ,if_neg hkn,if_pos h4])
  |(
   have h4:¬l.length>4096:=om
   have hv:aZ c l[i.toNat]! ≠0:=wa
   have hce:gF c l=aZ c l[i.toNat]!:=by rw[hc,DN om,if_pos hv]
   rw[rQ,if_neg hkn,if_neg h4,hce,if_pos hv])
  |(
   have hch:gF c l=0:=by rw[hc,gj om];rfl
   have hok:∀v,v∈l->okV v:=fun v hv=>eO (mE hch v hv) (hin v hv)
   have hF:P=bC l:=by rw[hP,gg om]
   have hG:N=cL l:=by rw[hN,iL om];rfl
   have hpl:=kD l;rw[<-hF]at hpl;have hpo:=rC hok;rw[<-hF]at hpo;first
   |(
    have w1:=bF (n:=(l.length:Int)) om;have w2:=bF (n:=(l.length:Int)-P.length) om;have hqq:CR c.2.1 (bC l) ((kK c.2.1).drop (Int.toNat 1)) 1=q:=by rw[hk,gj om];rfl
    first
    |(
     have hlt:(bC l).length<l.length:=by rw[<-hF];omega
     rw[w1,w2,SL hkn om hch,hqq,dX,IE hlt,hb,<-hG];unfold oM;rw[<-hF];rfl)
    |(
     have hlt:¬(bC l).length<l.length:=by rw[<-hF];omega
     rw[w1,w2,SL hkn om hch,hqq,dX,ID hlt,hb];unfold oM;rw[<-hF];rfl))
   |(rw[SL hkn om hch]))))
abbrev qXG:Tbl:=(66,yJ)::qXF
theorem qAJ:aD Tryz.prog qXG:=aD.cons qBI qAI
end Go.Proofs.YtcjiefknhfhmkaaGreatDoor
