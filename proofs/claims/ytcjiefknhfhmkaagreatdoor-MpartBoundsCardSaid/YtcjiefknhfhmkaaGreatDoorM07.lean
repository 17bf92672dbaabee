import Derived.Test.YtcjiefknhfhmkaaGreatDoorRows
import Derived.Test.YtcjiefknhfhmkaaGreatDoorM06
namespace Go.Proofs.YtcjiefknhfhmkaaGreatDoor
open Go.Abs
set_option maxRecDepth 100000
set_option maxHeartbeats 4000000
set_option linter.unusedVariables false
set_option linter.unusedSimpArgs false
theorem eE {α β:Type _} (p:α×β):(p.1,p.2)=p:=rfl
theorem eN {α:Type _} (l:List α):[]++l=l:=rfl
theorem mixed:Tryz.prog.follows .mixedOrders=true:=by kernel_rfl
structure Tag (n:Nat):Prop where
@[reducible] instance:Inhabited Int:=instInhabitedDen (.int .i64)
@[reducible] instance:Inhabited Bool:=instInhabitedDen .bool
@[reducible] instance:Inhabited ByteArray:=instInhabitedDen .str
theorem qM3 (n:Int):0<=IntKind.u8.wrap n/\IntKind.u8.wrap n<256:=by simp [IntKind.wrap,IntKind.bits,IntKind.signed];omega
theorem qJT (n:Int):0<=IntKind.u32.wrap n/\IntKind.u32.wrap n<4294967296:=by simp [IntKind.wrap,IntKind.bits,IntKind.signed];omega
theorem hE (n:Int):0<=IntKind.u64.wrap n/\IntKind.u64.wrap n<18446744073709551616:=by simp [IntKind.wrap,IntKind.bits,IntKind.signed];omega
theorem qJU {n:Int} (h:0<=n/\n<256):IntKind.u8.wrap n=n:=by simp [IntKind.wrap,IntKind.bits,IntKind.signed];omega
theorem qPS (n:Int):IntKind.u8.wrap n=n%256:=by simp [IntKind.wrap,IntKind.bits,IntKind.signed]
theorem NQ {n:Int} (h:0<=n/\n<4294967296):IntKind.u32.wrap n=n:=by simp [IntKind.wrap,IntKind.bits,IntKind.signed];omega
theorem aS {n:Int} (h:0<=n/\n<18446744073709551616):IntKind.u64.wrap n=n:=by simp [IntKind.wrap,IntKind.bits,IntKind.signed];omega
theorem qI3 (a:Int):lK .u64 a 7=a/128:=by
 have:min (7:Int).toNat IntKind.u64.bits=7:=by decide
 unfold lK;rw[this,Int.fdiv_eq_ediv_of_nonneg _ (by decide)];rfl
theorem qOF {p:Nat->Bool} (h:(List.range 256).all p=true) {n:Int} (hn:0<=n/\n<256):p n.toNat=true:=
 List.all_eq_true.1 h _ (by simp;omega)
theorem qQU {a:Int} (h:0<=a/\a<256):bOr .u8 a 128=a%128+128:=by
 have:=qOF (p:=fun n=>decide (bOr .u8 (n:Int) 128=(n:Int)%128+128)) (by kernel_rfl) h;have:=of_decide_eq_true this;rwa [Int.toNat_of_nonneg h.1]at this
theorem WZ (a b:Int):0<=qG .u8 a b/\qG .u8 a b<256:=qM3 _
theorem qFS (a b:Int):0<=qG .u32 a b/\qG .u32 a b<4294967296:=qJT _
theorem qP5 {a:Int} (h:0<=a/\a<4294967296):qG .u32 a 0=a:=by
 unfold qG;rw[show BitVec.ofInt IntKind.u32.bits 0=0#IntKind.u32.bits from rfl,BitVec.xor_zero];rw[BitVec.toNat_ofInt];have:((a%((2^IntKind.u32.bits:Nat):Int)).toNat:Int)=a:=by
  simp [IntKind.bits];omega
 rw[this,NQ h]
theorem qP2 {a:Int} (h:0<=a/\a<4294967296):uP .u32 a 1=a%2:=by
 unfold uP;have e1:(BitVec.ofInt IntKind.u32.bits a &&& BitVec.ofInt IntKind.u32.bits 1).toNat=(a%2).toNat:=by
  rw[BitVec.toNat_and,BitVec.toNat_ofInt,BitVec.toNat_ofInt];have:((1:Int)%((2^IntKind.u32.bits:Nat):Int)).toNat=1:=by decide
  rw[this,Nat.and_one_is_mod];simp [IntKind.bits];omega
 rw[e1,NQ (by omega)];omega
theorem ZH {a:Int} (h:0<=a/\a<4294967296) (n:Nat):0<=lK .u32 a n/\lK .u32 a n<4294967296:=by
 unfold lK;have hp:(0:Int)<2^(min ((n:Int)).toNat IntKind.u32.bits):=Int.pow_pos (by decide);rw[Int.fdiv_eq_ediv_of_nonneg _ (by omega)];exact⟨Int.ediv_nonneg h.1 (by omega),Int.lt_of_le_of_lt (Int.ediv_le_self _ h.1) h.2⟩
theorem FG {α:Type} (l:List α) (k:Nat) (v:α) (h:k<l.length):(l.set k v).take (k+1)=l.take k++ [v]:=by
 apply List.ext_getElem?;intro i;rw[List.getElem?_take,List.getElem?_append,List.getElem?_take];simp only[List.length_take,List.getElem?_set];by_cases h1:i<k
 ·rw[if_pos (by omega),if_neg (by omega),if_pos (by omega),if_pos h1]
 ·by_cases h2:i=k
  ·subst h2
   rw[if_pos (by omega),if_pos rfl,if_pos h,if_neg (by omega)];simp [Nat.min_eq_left (Nat.le_of_lt h)]
  ·rw[if_neg (by omega),if_neg (by omega)]
   simp;omega
theorem bU (a b:List Int):aN (a++b)=aN a++aN b:=by
 apply ByteArray.ext;simp [aN]
theorem bO (l:List Int):(aN l).size=l.length:=by simp [aN,ByteArray.size]
theorem TZ (s:ByteArray) (i:Nat):0<=cZ s i/\cZ s i<256:=by
 unfold cZ;have:=(s.get! i).toNat_lt;omega
abbrev bQ:Ty:=.pair .bool (.pair (.int .i64) .str)
abbrev Val:Type:=Bool×Int×ByteArray
@[reducible] instance:Inhabited Val:=instInhabitedDen bQ
abbrev uI:Ty:=.pair .str (.pair (.int .i64) (.pair (.int .i64) .bool))
abbrev Col:Type:=ByteArray×Int×Int×Bool
@[reducible] instance:Inhabited Col:=instInhabitedDen uI
def gs (f:Nat->Int) (m w i:Nat):Nat->Int
 |0=>0
 |t+1=>gs f m w i t+(if i*w+t<m then f (i*w+t)*2^t else 0)
def GW (f:Nat->Int):Prop:=∀q,f q=0\/f q=1
theorem oV (t:Nat):(0:Int)<2^t:=Int.pow_pos (by decide)
theorem JY (t:Nat):(2:Int)^(t+1)=2*2^t:=by rw[Int.pow_succ];omega
theorem qNK {f:Nat->Int} (hf:GW f) (m w i:Nat):∀t,0<=gs f m w i t/\gs f m w i t<2^t
 |0=>by simp [gs]
 |t+1=>by
  have h:=qNK hf m w i t;have hp:=oV t;rw[gs,JY];split
  ·rcases hf (i*w+t)with q|q<;>rw[q]<;>omega
  ·omega
theorem XS {f:Nat->Int} {m w i:Nat}:∀ {t t0:Nat},t0<=t->(∀u,t0<=u->u<t->¬i*w+u<m)->gs f m w i t=gs f m w i t0
 |0,t0,h,_=>by rw[show t0=0 by omega]
 |t+1,t0,h,hu=>by
  rcases Nat.eq_or_lt_of_le h with q|q
  ·rw[q]
  ·rw[gs,if_neg (hu t (by omega) (by omega)),XS (t0:=t0) (by omega) (fun u h1 h2=>hu u h1 (by omega))];omega
theorem DI {i w t m:Nat} (ht:t<w) (h:i*w+t=m):i=m/w/\t=m%w:=by
 subst h;constructor
 ·rw[Nat.add_comm,Nat.add_mul_div_right _ _ (by omega),Nat.div_eq_of_lt ht,Nat.zero_add]
 ·rw[Nat.add_comm,Nat.add_mul_mod_self_right,Nat.mod_eq_of_lt ht]
theorem JG {f:Nat->Int} {m w i:Nat} (hw:0<w):∀t,t<=w->gs f (m+1) w i t=gs f m w i t+(if i=m/w/\m%w<t then f m*2^(m%w)else 0)
 |0,_=>by simp [gs]
 |t+1,ht=>by
  rw[gs,gs,JG hw t (by omega)];by_cases q:i*w+t=m
  ·obtain⟨q1,q2⟩:=DI (by omega) q
   rw[if_neg (by omega),if_pos (by omega),if_neg (by omega),if_pos ⟨q1,by omega⟩,q,<-q2];(try omega)
  ·have q':¬(i=m/w/\t=m%w):=fun h=>q (by
     have:=Nat.div_add_mod m w;rw[h.1,h.2,Nat.mul_comm];exact this)
   by_cases r:i*w+t<m
   ·rw[if_pos (show i*w+t<m+1 by omega),if_pos r]
    by_cases c:i=m/w/\m%w<t
    ·rw[if_pos c,if_pos ⟨c.1,by omega⟩];omega
    ·rw[if_neg c,if_neg (fun h=>c ⟨h.1,by omega⟩)];omega
   ·rw[if_neg (show ¬i*w+t<m+1 by omega),if_neg r]
    by_cases c:i=m/w/\m%w<t
    ·rw[if_pos c,if_pos ⟨c.1,by omega⟩];omega
    ·rw[if_neg c,if_neg (fun h=>c ⟨h.1,by omega⟩)]
theorem XR {f:Nat->Int} {m w:Nat} (hw:0<w) (i:Nat):gs f (m+1) w i w=gs f m w i w+(if i=m/w then f m*2^(m%w)else 0):=by
 rw[JG hw w (Nat.le_refl _)];have:=Nat.mod_lt m hw;by_cases c:i=m/w
 ·rw[if_pos ⟨c,this⟩,if_pos c]
 ·rw[if_neg (fun h=>c h.1),if_neg c]
theorem qG5 {f:Nat->Int} (hf:GW f) {m w:Nat} (hw:0<w):0<=gs f m w (m/w) w/\gs f m w (m/w) w<2^(m%w):=by
 have h:=Nat.mod_lt m hw;rw[XS (t:=w) (t0:=m%w) (by omega) (fun u h1 h2=>by
  have:=Nat.div_add_mod m w;rw[Nat.mul_comm]at this;omega)]
 exact qNK hf _ _ _ _
def gL (f:Nat->Int) (m w n:Nat):List Int:=(List.range n).map fun i=>gs f m w i w
theorem kF (f:Nat->Int) (m w n:Nat):(gL f m w n).length=n:=by simp [gL]
theorem qOY {f:Nat->Int} {m w n i:Nat} (h:i<n):(gL f m w n)[i]! =gs f m w i w:=by
 rw[getElem!_pos _ i (by rw[kF];exact h)];simp [gL]
theorem AM (f:Nat->Int) (w n:Nat):gL f 0 w n=List.replicate n 0:=by
 have h0:∀i t,gs f 0 w i t=0:=by
  intro i t;induction t with
  |zero=>rfl
  |succ t ih=>rw[gs,ih,if_neg (by omega)];rfl
 unfold gL;apply List.ext_getElem
 ·simp
 ·intro i h1 h2
  simp [h0]
theorem qLB {f:Nat->Int} {m w n:Nat} (hw:0<w) (hm:m/w<n):(gL f m w n).set (m/w) (gs f m w (m/w) w+f m*2^(m%w))=gL f (m+1) w n:=by
 apply List.ext_getElem
 ·simp [gL]
 ·intro i h1 h2
  rw[List.getElem_set];simp only[gL,List.getElem_map,List.getElem_range];rw[XR hw];by_cases c:m/w=i
  ·rw[if_pos c,if_pos c.symm,c]
  ·rw[if_neg c,if_neg (fun h=>c h.symm)];omega
theorem MH {f:Nat->Int} {m w n:Nat} (hw:0<w) (h0:f m=0):gL f m w n=gL f (m+1) w n:=by
 unfold gL;refine List.map_congr_left fun i _=>?_
 rw[XR hw,h0];split<;>omega
theorem mR (n:Nat):((2^n:Nat):Int)=(2:Int)^n:=by simp
theorem qL4 (k:IntKind) (hs:k.signed=false) {a b:Int} {s:Nat} (hb:b=0\/b=1) (hk:s<k.bits) (ha:0<=a/\a<2^s):bOr k a (b*2^s)=a+b*2^s:=by
 have hp:=oV s;have hle:(2:Int)^s*2<=2^k.bits:=by
  obtain⟨d,hd⟩:∃d,k.bits=s+(d+1):=⟨k.bits-s-1,by omega⟩
  rw[hd,Int.pow_add,JY];have:=oV d;have h1:(2:Int)^s*(2*1)<=2^s*(2*2^d):=Int.mul_le_mul_of_nonneg_left (by omega) (by omega);simpa using h1
 have hbs:0<=b*2^s/\b*2^s<=2^s:=by rcases hb with q|q<;>rw[q]<;>omega
 have hcast:=mR k.bits;have hid:∀x:Int,0<=x->x<2^k.bits->(BitVec.ofInt k.bits x).toNat=x.toNat:=fun x h1 h2=>by
  rw[BitVec.toNat_ofInt,hcast,Int.emod_eq_of_lt h1 h2]
 unfold bOr;rw[BitVec.toNat_or,hid a ha.1 (by omega),hid _ hbs.1 (by omega)];have e:a.toNat ||| (b*2^s).toNat=a.toNat+(b*2^s).toNat:=by
  have ha2:a.toNat<2^s:=by
   have:=mR s;omega
  rcases hb with q|q
  ·subst q;simp
  ·subst q
   have h2:((1:Int)*2^s).toNat=2^s*1:=by
    rw[Int.one_mul,<-mR,Int.toNat_natCast,Nat.mul_one]
   rw[h2,Nat.or_comm,<-Nat.two_pow_add_eq_or_of_lt ha2];omega
 rw[e];have hsum:((a.toNat+(b*2^s).toNat:Nat):Int)=a+b*2^s:=by omega
 rw[hsum];have hin:0<=a+b*2^s/\a+b*2^s<2^k.bits:=by
  refine⟨by omega,?_⟩;rcases hb with q|q<;>rw[q]<;>omega
 cases k<;>first|(simp [IntKind.signed]at hs;done)|(simp only[IntKind.wrap,IntKind.bits,IntKind.signed]at hin ⊢;simp at hin ⊢;omega)
theorem ZG {v:Int} (hv:0<=v) {k:Int} (hk:0<=k/\k<64):lK .u64 v k=v/2^k.toNat:=by
 unfold lK;rw[Int.fdiv_eq_ediv_of_nonneg _ (by have:=oV (min k.toNat IntKind.u64.bits);omega),Nat.min_eq_left (by simp [IntKind.bits];omega)]
theorem qJ8 {a:Int} (h:0<=a/\a<18446744073709551616):uP .u64 a 1=a%2:=by
 unfold uP;have e1:(BitVec.ofInt IntKind.u64.bits a &&& BitVec.ofInt IntKind.u64.bits 1).toNat=(a%2).toNat:=by
  rw[BitVec.toNat_and,BitVec.toNat_ofInt,BitVec.toNat_ofInt];have:((1:Int)%((2^IntKind.u64.bits:Nat):Int)).toNat=1:=by decide
  rw[this,Nat.and_one_is_mod];simp [IntKind.bits];omega
 rw[e1,aS (by omega)];omega
theorem qPM {b:Int} (hb:b=0\/b=1) {s:Int} (hs:0<=s/\s<8):rL .u8 b s=b*2^s.toNat:=by
 unfold rL;rw[Nat.min_eq_left (by simp [IntKind.bits];omega)];refine qJU ?_;have h8:(2:Int)^s.toNat<=128:=by
  have:s.toNat<=7:=by omega
  have:=Nat.pow_le_pow_right (show 0<2 by decide) this;rw[<-mR];omega
 have hp:=oV s.toNat;rcases hb with q|q<;>rw[q]<;>omega
def mK (v:Int):Int:=((Lib.bitLen v.toNat:Nat):Int)
def tH (n w:Int):Bool:=decide (0<=n)&&decide (n<=4096)&&decide (0<=w)&&decide (w<=64)
def iM (n w:Int):Int:=if tH n w=true then(n*w+7).tdiv 8 else 0
theorem oU (n w:Int):tH n w=true↔(0<=n/\n<=4096)/\0<=w/\w<=64:=by simp [tH,and_assoc]
theorem YI {n w:Int} (h:(0<=n/\n<=4096)/\0<=w/\w<=64):0<=n*w/\n*w<=262144:=by
 refine⟨Int.mul_nonneg h.1.1 h.2.1,?_⟩;have h1:=Int.mul_le_mul_of_nonneg_right h.1.2 h.2.1;omega
theorem oB {n w:Int} (h:(0<=n/\n<=4096)/\0<=w/\w<=64):iM n w=(n*w+7)/8/\0<=n*w/\n*w<=262144:=by
 have h1:=YI h;rw[iM,if_pos ((oU n w).2 h),Int.tdiv_eq_ediv_of_nonneg (by omega)];exact⟨rfl,h1⟩
theorem tX {i n k w:Int} (hi:i<n) (hk:k<w) (h0:0<=w):i*w+k<n*w:=by
 have h1:(i+1)*w<=n*w:=Int.mul_le_mul_of_nonneg_right (by omega) h0;rw[Int.add_mul]at h1;omega
theorem SH (i w:Int):(i+1)*w=i*w+w:=by rw[Int.add_mul];omega
def vbit (l:List Int) (w q:Nat):Int:=l[q/w]! /2^(q%w)%2
def sbit (s:ByteArray) (q:Nat):Int:=cZ s (q/8)/2^(q%8)%2
theorem qJZ (l:List Int) (w:Nat):GW (vbit l w):=fun q=>by unfold vbit;omega
theorem qH2 {i w k:Int} (h:0<=i/\0<=k/\k<w):(i*w+k).toNat/w.toNat=i.toNat/\(i*w+k).toNat%w.toNat=k.toNat:=by
 have h1:(i*w+k).toNat=i.toNat*w.toNat+k.toNat:=by
  have:0<=i*w:=Int.mul_nonneg h.1 (by omega);have e:((i.toNat*w.toNat+k.toNat:Nat):Int)=i*w+k:=by
   push_cast
   rw[Int.toNat_of_nonneg h.1,Int.toNat_of_nonneg (show 0<=w by omega),Int.toNat_of_nonneg h.2.1]
  omega
 obtain⟨q1,q2⟩:=DI (i:=i.toNat) (w:=w.toNat) (t:=k.toNat) (m:=(i*w+k).toNat) (by omega) h1.symm;exact⟨q1.symm,q2.symm⟩
theorem qQE {kd:IntKind} (hs:kd.signed=false) {f:Nat->Int} (hf:GW f) {m W n:Nat} (hW:0<W) (hb:W<=kd.bits) (hm:m/W<n) :
  (gL f m W n).set (m/W) (bOr kd (gL f m W n)[m/W]! (f m*2^(m%W)))=gL f (m+1) W n:=by
 have hml:=Nat.mod_lt m hW;rw[qOY hm,qL4 kd hs (hf m) (by omega) (qG5 hf hW)];exact qLB hW hm
theorem vW {f:Nat->Int} (hf:GW f) {N:Nat} {a b s q:Int} (ha:0<=a) (hN:a.toNat/8<N) (hb:b=f a.toNat) (hs:s=a.tmod 8) (hq:q=a.tdiv 8) :
  (gL f a.toNat 8 N).set q.toNat (bOr .u8 (gL f a.toNat 8 N)[q.toNat]! (rL .u8 b s))=gL f (a+1).toNat 8 N:=by
 have e1:q.toNat=a.toNat/8:=by rw[hq,Int.tdiv_eq_ediv_of_nonneg ha];omega
 have e2:s.toNat=a.toNat%8:=by rw[hs,Int.tmod_eq_emod_of_nonneg ha];omega
 have e3:0<=s/\s<8:=by rw[hs,Int.tmod_eq_emod_of_nonneg ha];omega
 rw[qPM (by rw[hb];exact hf _) e3,e1,e2,hb,show(a+1).toNat=a.toNat+1 by omega];exact qQE rfl hf (by decide) (by decide) hN
theorem NT {l:List Int} {i k w:Int} (h:0<=i/\0<=k/\k<w):vbit l w.toNat (i*w+k).toNat=l[i.toNat]! /2^k.toNat%2:=by
 obtain⟨q1,q2⟩:=qH2 h;unfold vbit;rw[q1,q2]
theorem TX {v k:Int} (hv:0<=v/\v<18446744073709551616) (hk:0<=k/\k<64):uP .u64 (lK .u64 v k) 1=v/2^k.toNat%2/\(v/2^k.toNat%2=0\/v/2^k.toNat%2=1):=by
 have hp:=oV k.toNat;have h0:0<=v/2^k.toNat:=Int.ediv_nonneg hv.1 (by omega);have h1:v/2^k.toNat<=v:=Int.ediv_le_self _ hv.1;rw[ZG hv.1 hk,qJ8 (by omega)];exact⟨rfl,by omega⟩
def nR (l:List Int) (w:Int):Bool:=l.any fun v=>decide (mK v>w)
theorem TM {l:List Int} {w i:Int} (hi:0<=i/\i<l.length) (h:mK l[i.toNat]! >w):nR l w=true:=by
 unfold nR;rw[List.any_eq_true];refine⟨l[i.toNat]!,?_,by simpa using h⟩;rw[getElem!_pos l i.toNat (by omega)];exact List.getElem_mem _
theorem qCD {l:List Int} {w:Int} (h:∀j:Nat,j<l.length->mK l[j]! <=w):nR l w=false:=by
 unfold nR;rw[List.any_eq_false];intro v hv;obtain⟨j,hj,rfl⟩:=List.mem_iff_getElem.1 hv;have:=h j hj;rw[getElem!_pos l j hj]at this;simp;omega
def jN (l:List Int) (w:Int):ByteArray×Int:=
 if w<0\/w>64 then(⟨#[]⟩,4)else if l.length>4096 then(⟨#[]⟩,7)else if nR l w=true then(⟨#[]⟩,8)
 else(aN (gL (vbit l w.toNat) ((l.length:Int)*w).toNat 8 (iM l.length w).toNat),0)
abbrev tb1:Tbl:=(220,ON)::([]:Tbl)
theorem qJF:aC Tryz.prog tb1:=aC.cons qO3 aC.nil
abbrev CY:Ct:=.fn [.int .u64] (some (fun(v:Int)=>(0<=v/\v<18446744073709551616))) (fun(v:Int)=>.d (.int .i64) (mK v))
theorem qJ2:aG Tryz.prog 202 CY:=by
 refine aG.fn qJF mixed [] [] rfl rfl ?_;rintro⟨(v:Int),_⟩ hpre;replace hpre:=hpre _ rfl;dsimp only[cu]at hpre;have hv:=hpre;refine⟨[],?_⟩;repeat' (first
  |(
 with_reducible apply Side.mk
 (try dsimp only[cu,aB,aA,gts,loK,hiK,eE,eN])
 omega)
  |(conv=>whnf
    first
     |with_reducible first|done|exact trivial|refine NilBr.mk (fun h=>?_) ?_|apply aJ|apply aI|refine aK (by kernel_rfl) ?_|apply aL|apply bC|apply bB|apply aO
     |((with_reducible first|apply aQ|apply aP|apply bA)<;>intro h<;>(try dsimp only[cu,eE,eN]at h)<;>(try(exfalso;omega)))))
 all_goals(
 with_reducible apply Leaf.mk
 (try dsimp only[cu,aB,aA,gts,eE,eN]at *)
 rfl)
abbrev tb2:Tbl:=(202,CY)::tb1
theorem qJG:aC Tryz.prog tb2:=aC.cons qJ2 qJF
theorem JO {v:Int} (h:0<v) (h2:v<18446744073709551616):mK v=1+mK (v/2):=by
 obtain⟨n,rfl⟩:=Int.eq_ofNat_of_zero_le (show 0<=v by omega);have hn:0<n:=by omega
 have e:((n:Int)/2).toNat=n/2:=by omega
 unfold mK;rw[e,Int.toNat_natCast];by_cases h1:n/2=0
 ·have:n=1:=by omega
  subst this;rfl
 ·rw[Lib.bitLen_shift 1 n (by omega) (by omega)]
  simp
theorem qDS {v:Int} (h:v<=0):mK v=0:=by
 unfold mK;rw[show v.toNat=0 by omega];rfl
theorem MP {v:Int} (h:v<18446744073709551616):0<=mK v/\mK v<=64:=by
 unfold mK;have:=Lib.bitLen_le v.toNat 64 (by omega) (by omega);omega
theorem qPN {v:Int} (h:0<=v):lK .u64 v 1=v/2:=by
 rw[ZG h (by decide)];rfl
abbrev yW:Ct:=.fn [.int .u64] (some (fun(v0:Int)=>(0<=v0/\v0<18446744073709551616))) (fun(v0:Int)=>.d (.int .i64) (mK v0))
theorem qEF:aG Tryz.prog 184 yW:=by
 refine aG.fn qJG mixed [] [] rfl rfl ?_;rintro⟨(v0:Int),_⟩ hpre;replace hpre:=hpre _ rfl;dsimp only[cu]at hpre;have hv0:=hpre;refine⟨[(0,4,LA.mk [.sl 0 (.int .u64),.sl 3 (.int .i64)] (fun y=>Tag 1/\cu [.int .u64,.int .i64] (fun(v:Int) (w:Int)=>(0<=v/\v<18446744073709551616)/\(mK v0=w+mK v)/\(0<=w/\w<=64)) y) (cu [.int .u64,.int .i64] (fun(v:Int) (w:Int)=>v.toNat)) (cu [.int .u64,.int .i64] (fun(v:Int) (w:Int)=>([]:List (Nat×Nat×LA)))))],?_⟩;repeat' (first
  |(
 with_reducible refine Side.mk ⟨(⟨⟩:Tag 1),?_⟩
 dsimp only[cu,aB,aA,gts,eE,eN]
 refine⟨?_,?_,?_⟩
 ·first
  |omega
  |rw[qPN (by omega)];omega
 ·first
  |omega
  |rw[hw,JO (v:=v) (by omega) (by omega),qPN (by omega)];omega
 ·first
  |omega
  |(
  have:=MP (v:=v0) (by omega)
  have h2:=JO (v:=v) (by omega) (by omega)
  have:=MP (v:=v/2) (by omega)
  omega))
  |(
 with_reducible apply Side.mk
 (try dsimp only[cu,aB,aA,gts,loK,hiK,eE,eN])
 first
 |omega
 |(rw[qPN (by omega)];omega))
  |(conv=>whnf
    first
     |with_reducible first|done|exact trivial|refine NilBr.mk (fun h=>?_) ?_|apply aJ|apply aI|refine aK (by kernel_rfl) ?_|apply aL|apply bC|apply bB|apply aO
     |((with_reducible first|apply aQ|apply aP|apply bA)<;>intro h<;>(try dsimp only[cu,eE,eN]at h)<;>(try(exfalso;omega)))
     |(
 intro yy (hy:Tag 1/\_)
 obtain⟨(v:Int),(w:Int),_⟩:=yy
 replace hy:=hy.2
 dsimp only[cu,aB,aA,gts,eE,eN]at hy
 obtain⟨hv,hw,hw0⟩:=hy)))
 all_goals(
 with_reducible apply Leaf.mk
 (try dsimp only[cu,aB,aA,gts,eE,eN]at *)
 (
  have e:=qDS (v:=v) (by omega);rw[hw,e,Int.add_zero]))
abbrev tb3:Tbl:=(184,yW)::tb2
theorem qJH:aC Tryz.prog tb3:=aC.cons qEF qJG
abbrev IA:Ct:=.fn [.int .i64,.int .i64] (none) (fun(n:Int) (w:Int)=>.d .bool (tH n w))
theorem qL6:aG Tryz.prog 225 IA:=by
 refine aG.fn qJH mixed [] [] rfl rfl ?_;rintro⟨(n:Int),(w:Int),_⟩ -;refine⟨[],?_⟩;repeat' (first
  |(
 with_reducible apply Side.mk
 (try dsimp only[cu,aB,aA,gts,loK,hiK,eE,eN])
 done)
  |(conv=>whnf
    first
     |with_reducible first|done|exact trivial|refine NilBr.mk (fun h=>?_) ?_|apply aJ|apply aI|refine aK (by kernel_rfl) ?_|apply aL|apply bC|apply bB|apply aO
     |((with_reducible first|apply aQ|apply aP|apply bA)<;>intro h<;>(try dsimp only[cu,eE,eN]at h)<;>(try(exfalso;omega)))))
 all_goals(
 with_reducible apply Leaf.mk
 (try dsimp only[cu,aB,aA,gts,eE,eN]at *)
 grind [tH])
abbrev tb4:Tbl:=(225,IA)::tb3
theorem qJI:aC Tryz.prog tb4:=aC.cons qL6 qJH
abbrev HW:Ct:=.fn [.int .i64,.int .i64] (none) (fun(n:Int) (w:Int)=>.d (.int .i64) (iM n w))
theorem qLW:aG Tryz.prog 207 HW:=by
 refine aG.fn qJI mixed [] [] rfl rfl ?_;rintro⟨(n:Int),(w:Int),_⟩ -;refine⟨[],?_⟩;repeat' (first
  |(
 with_reducible apply Side.mk
 (try dsimp only[cu,aB,aA,gts,loK,hiK,eE,eN])
 first
 |omega
 |(
  have hnw:=YI (n:=n) (w:=w) ((oU n w).1 (by simp_all;done));first
  |omega
  |(
   rw[Int.tdiv_eq_ediv_of_nonneg (by omega)];omega)))
  |(conv=>whnf
    first
     |with_reducible first|done|exact trivial|refine NilBr.mk (fun h=>?_) ?_|apply aJ|apply aI|refine aK (by kernel_rfl) ?_|apply aL|apply bC|apply bB|apply aO
     |((with_reducible first|apply aQ|apply aP|apply bA)<;>intro h<;>(try dsimp only[cu,eE,eN]at h)<;>(try(exfalso;omega)))))
 all_goals(
 with_reducible apply Leaf.mk
 (try dsimp only[cu,aB,aA,gts,eE,eN]at *)
 first
 |(
  have q:tH n w=true:=by simp_all;done
  rw[iM,if_pos q])
 |(
  have q:¬tH n w=true:=by simp_all;done
  rw[iM,if_neg q]))
abbrev tb5:Tbl:=(207,HW)::tb4
theorem qJJ:aC Tryz.prog tb5:=aC.cons qLW qJI
abbrev CL:Ct:=.fn [.int .i64,.int .i64] (none) (fun(n:Int) (w:Int)=>.d (.int .i64) (iM n w))
theorem qIR:aG Tryz.prog 209 CL:=by
 refine aG.fn qJJ mixed [] [] rfl rfl ?_;rintro⟨(n:Int),(w:Int),_⟩ -;refine⟨[],?_⟩;repeat' (first
  |(
 with_reducible apply Side.mk
 (try dsimp only[cu,aB,aA,gts,loK,hiK,eE,eN])
 first
 |omega
 |(
  have hnw:=YI (n:=n) (w:=w) (by omega);first
  |omega
  |(
   rw[Int.tdiv_eq_ediv_of_nonneg (by omega)];omega)))
  |(conv=>whnf
    first
     |with_reducible first|done|exact trivial|refine NilBr.mk (fun h=>?_) ?_|apply aJ|apply aI|refine aK (by kernel_rfl) ?_|apply aL|apply bC|apply bB|apply aO
     |((with_reducible first|apply aQ|apply aP|apply bA)<;>intro h<;>(try dsimp only[cu,eE,eN]at h)<;>(try(exfalso;omega)))))
 all_goals(
 with_reducible apply Leaf.mk
 (try dsimp only[cu,aB,aA,gts,eE,eN]at *)
 first
 |(
  have q:tH n w=true:=(oU n w).2 (by omega);rw[iM,if_pos q])
 |(
  have q:¬tH n w=true:=fun q=>by have:=(oU n w).1 q;omega
  rw[iM,if_neg q]))
abbrev tb6:Tbl:=(209,CL)::tb5
theorem qJK:aC Tryz.prog tb6:=aC.cons qIR qJJ
abbrev HZ:Ct:=.fn [.list (.int .u64),.int .i64] (some (fun(l:List Int) (w:Int)=>(∀i:Nat,0<=l[i]! /\l[i]! <18446744073709551616)/\(l.length<=4611686018427387904))) (fun(l:List Int) (w:Int)=>.tup [.str,.int .i64] ((jN l w).1,(jN l w).2,()))
theorem qL5:aG Tryz.prog 180 HZ:=by
 refine aG.fn qJK mixed [] [] rfl rfl ?_;rintro⟨(l:List Int),(w:Int),_⟩ hpre;replace hpre:=hpre _ rfl;dsimp only[cu]at hpre;obtain⟨hlv,hll⟩:=hpre;refine⟨[(0,16,LA.mk [.sl 29 (.int .i64),.sl 7 (.int .i64),.ar 0 (.int .u8) 5] (fun y=>Tag 2/\cu [.int .i64,.int .i64,.list (.int .u8)] (fun(i:Int) (a:Int) (M:List Int)=>(0<=i/\i<=l.length)/\(a=i*w)/\(M=gL (vbit l w.toNat) a.toNat 8 (iM l.length w).toNat)/\(∀j:Nat,(j:Int)<i->mK l[j]! <=w)) y) (cu [.int .i64,.int .i64,.list (.int .u8)] (fun(i:Int) (a:Int) (M:List Int)=>((l.length:Int)-i).toNat)) (cu [.int .i64,.int .i64,.list (.int .u8)] (fun(i:Int) (a:Int) (M:List Int)=>([(0,26,LA.mk [.sl 38 (.int .i64),.sl 7 (.int .i64),.ar 0 (.int .u8) 5] (fun y=>Tag 3/\cu [.int .i64,.int .i64,.list (.int .u8)] (fun(k:Int) (b:Int) (O:List Int)=>(0<=k/\k<=w)/\(b=i*w+k)/\(O=gL (vbit l w.toNat) b.toNat 8 (iM l.length w).toNat)) y) (cu [.int .i64,.int .i64,.list (.int .u8)] (fun(k:Int) (b:Int) (O:List Int)=>((w:Int)-k).toNat)) (cu [.int .i64,.int .i64,.list (.int .u8)] (fun(k:Int) (b:Int) (O:List Int)=>([]:List (Nat×Nat×LA)))))]:List (Nat×Nat×LA)))))],?_⟩;repeat' (first
  |(
 with_reducible refine Side.mk ⟨(⟨⟩:Tag 2),?_⟩
 dsimp only[cu,aB,aA,gts,eE,eN]
 refine⟨?_,?_,?_,?_⟩
 ·omega
 ·first
  |omega
  |rw[SH];omega
 ·first
  |exact(AM _ _ _).symm
  |rw[hO]
 ·first
  |intro j hj;omega
  |(
  intro j hj
  rcases Int.lt_or_le (j:Int) i with q|q
  ·exact hwd j q
  ·rw[show j=i.toNat by omega];exact Int.not_lt.1 (by assumption)))
  |(
 with_reducible refine Side.mk ⟨(⟨⟩:Tag 3),?_⟩
 dsimp only[cu,aB,aA,gts,eE,eN]
 refine⟨?_,?_,?_⟩
 ·omega
 ·first
  |rw[ha];omega
  |omega
 ·first
  |exact hM
  |(
  have hne:=oB (n:=l.length) (w:=w) (by omega)
  have hix:=tX (i:=i) (n:=l.length) (k:=k) (w:=w) (by omega) (by omega) (by omega)
  have hi0:0<=i*w:=Int.mul_nonneg (by omega) (by omega)
  rw[hO]
  refine vW (qJZ _ _) (by omega) (by omega) ?_ rfl rfl
  show IntKind.u8.wrap (uP .u64 (lK .u64 l[i.toNat]! k) 1)=_
  obtain⟨q1,q2⟩:=TX (hlv i.toNat) (k:=k) (by omega)
  rw[q1,hb,NT (by omega)]
  exact qJU (by omega)))
  |(
 with_reducible apply Side.mk
 (try dsimp only[cu,aB,aA,gts,loK,hiK,eE,eN])
 first
 |omega
 |(
  have hne:=oB (n:=l.length) (w:=w) (by omega);omega)
 |exact hlv _
 |simp only[hM,kF];done
 |(
  have hne:=oB (n:=l.length) (w:=w) (by omega);have hix:=tX (i:=i) (n:=l.length) (k:=k) (w:=w) (by omega) (by omega) (by omega);have hi0:0<=i*w:=Int.mul_nonneg (by omega) (by omega);(try rw[Int.tdiv_eq_ediv_of_nonneg (by omega)]);(try rw[Int.tmod_eq_emod_of_nonneg (by omega)]);(try simp only[hO,kF]);omega))
  |(conv=>whnf
    first
     |with_reducible first|done|exact trivial|refine NilBr.mk (fun h=>?_) ?_|apply aJ|apply aI|refine aK (by kernel_rfl) ?_|apply aL|apply bC|apply bB|apply aO
     |((with_reducible first|apply aQ|apply aP|apply bA)<;>intro h<;>(try dsimp only[cu,eE,eN]at h)<;>(try(exfalso;omega)))
     |(
 intro yy (hy:Tag 2/\_)
 obtain⟨(i:Int),(a:Int),(M:List Int),_⟩:=yy
 replace hy:=hy.2
 dsimp only[cu,aB,aA,gts,eE,eN]at hy
 obtain⟨hi,ha,hM,hwd⟩:=hy)
     |(
 intro yy (hy:Tag 3/\_)
 obtain⟨(k:Int),(b:Int),(O:List Int),_⟩:=yy
 replace hy:=hy.2
 dsimp only[cu,aB,aA,gts,eE,eN]at hy
 obtain⟨hk,hb,hO⟩:=hy)))
 all_goals(
 with_reducible apply Leaf.mk
 (try dsimp only[cu,aB,aA,gts,eE,eN]at *)
 first
 |rw[jN,if_pos (by omega)]
 |rw[jN,if_neg (by omega),if_pos (by omega)]
 |(
  have hyes:=TM (l:=l) (w:=w) (i:=i) (by omega) (by assumption);have h1:¬(w<0\/w>64):=by omega
  have h2:¬l.length>4096:=by omega
  rw[jN,if_neg h1,if_neg h2,if_pos hyes])
 |(
  have hil:i=l.length:=by omega
  have hno:=qCD (l:=l) (w:=w) (fun j hj=>hwd j (by omega));have h1:¬(w<0\/w>64):=by omega
  have h2:¬l.length>4096:=by omega
  have h3:¬nR l w=true:=by rw[hno];decide
  rw[jN,if_neg h1,if_neg h2,if_neg h3];(try rw[hM,ha,hil])))
abbrev tb7:Tbl:=(180,HZ)::tb6
theorem qJL:aC Tryz.prog tb7:=aC.cons qL5 qJK
abbrev CN:Ct:=.fn [.list (.int .u64),.int .i64] (some (fun(l:List Int) (w:Int)=>(∀i:Nat,0<=l[i]! /\l[i]! <18446744073709551616)/\(l.length<=4611686018427387904))) (fun(l:List Int) (w:Int)=>.tup [.str,.int .i64] ((jN l w).1,(jN l w).2,()))
theorem qIT:aG Tryz.prog 183 CN:=by
 refine aG.fn qJL mixed [] [] rfl rfl ?_;rintro⟨(l:List Int),(w:Int),_⟩ hpre;replace hpre:=hpre _ rfl;dsimp only[cu]at hpre;obtain⟨hlv,hll⟩:=hpre;refine⟨[(0,14,LA.mk [.sl 27 (.int .i64),.ar 0 (.int .u8) 5] (fun y=>Tag 4/\cu [.int .i64,.list (.int .u8)] (fun(i:Int) (M:List Int)=>(0<=i/\i<=l.length)/\(M=gL (vbit l w.toNat) (i*w).toNat 8 (iM l.length w).toNat)/\(∀j:Nat,(j:Int)<i->mK l[j]! <=w)) y) (cu [.int .i64,.list (.int .u8)] (fun(i:Int) (M:List Int)=>((l.length:Int)-i).toNat)) (cu [.int .i64,.list (.int .u8)] (fun(i:Int) (M:List Int)=>([(0,24,LA.mk [.sl 9 (.int .i64),.ar 0 (.int .u8) 5] (fun y=>Tag 5/\cu [.int .i64,.list (.int .u8)] (fun(k:Int) (O:List Int)=>(0<=k/\k<=w)/\(O=gL (vbit l w.toNat) (i*w+k).toNat 8 (iM l.length w).toNat)) y) (cu [.int .i64,.list (.int .u8)] (fun(k:Int) (O:List Int)=>((w:Int)-k).toNat)) (cu [.int .i64,.list (.int .u8)] (fun(k:Int) (O:List Int)=>([]:List (Nat×Nat×LA)))))]:List (Nat×Nat×LA)))))],?_⟩;repeat' (first
  |(
 with_reducible refine Side.mk ⟨(⟨⟩:Tag 4),?_⟩
 dsimp only[cu,aB,aA,gts,eE,eN]
 refine⟨?_,?_,?_⟩
 ·omega
 ·first
  |rw[Int.zero_mul];exact(AM _ _ _).symm
  |rw[hO,show k=w by omega,SH]
 ·first
  |intro j hj;omega
  |(
  intro j hj
  rcases Int.lt_or_le (j:Int) i with q|q
  ·exact hwd j q
  ·rw[show j=i.toNat by omega];exact Int.not_lt.1 (by assumption)))
  |(
 with_reducible refine Side.mk ⟨(⟨⟩:Tag 5),?_⟩
 dsimp only[cu,aB,aA,gts,eE,eN]
 refine⟨?_,?_⟩
 ·omega
 ·first
  |rw[hM,Int.add_zero]
  |(
  have hne:=oB (n:=l.length) (w:=w) (by omega)
  have hix:=tX (i:=i) (n:=l.length) (k:=k) (w:=w) (by omega) (by omega) (by omega)
  have hi0:0<=i*w:=Int.mul_nonneg (by omega) (by omega)
  first
  |(
   rw[hO,show i*w+(k+1)=i*w+k+1 by omega];obtain⟨q1,q2⟩:=TX (hlv i.toNat) (k:=k) (by omega);rw[aS (n:=k) (by omega)]at h;rw[aS (n:=(i*w+k).tmod 8) (by rw[Int.tmod_eq_emod_of_nonneg (by omega)];omega)];refine vW (qJZ _ _) (by omega) (by omega) ?_ rfl rfl;rw[NT (by omega),<-q1];exact h.symm)
  |(
   rw[hO,show i*w+(k+1)=i*w+k+1 by omega,show(i*w+k+1).toNat=(i*w+k).toNat+1 by omega];obtain⟨q1,q2⟩:=TX (hlv i.toNat) (k:=k) (by omega);rw[aS (n:=k) (by omega)]at h;have h2:¬uP .u64 (lK .u64 l[i.toNat]! k) 1=1:=h;rw[q1]at h2;refine MH (by decide) ?_;rw[NT (by omega)];omega)))
  |(
 with_reducible apply Side.mk
 (try dsimp only[cu,aB,aA,gts,loK,hiK,eE,eN])
 first
 |omega
 |(
  have hne:=oB (n:=l.length) (w:=w) (by omega);omega)
 |exact hlv _
 |simp only[hM,kF];done
 |rw[aS (n:=k) (by omega)];omega
 |(
  have hne:=oB (n:=l.length) (w:=w) (by omega);have hix:=tX (i:=i) (n:=l.length) (k:=k) (w:=w) (by omega) (by omega) (by omega);have hi0:0<=i*w:=Int.mul_nonneg (by omega) (by omega);first
  |(
   (try rw[Int.tdiv_eq_ediv_of_nonneg (by omega)]);(try rw[Int.tmod_eq_emod_of_nonneg (by omega)]);(try simp only[hO,kF]);omega)
  |(
   rw[aS (n:=(i*w+k).tmod 8) (by rw[Int.tmod_eq_emod_of_nonneg (by omega)];omega)];(try rw[Int.tdiv_eq_ediv_of_nonneg (by omega)]);(try rw[Int.tmod_eq_emod_of_nonneg (by omega)]);omega)))
  |(conv=>whnf
    first
     |with_reducible first|done|exact trivial|refine NilBr.mk (fun h=>?_) ?_|apply aJ|apply aI|refine aK (by kernel_rfl) ?_|apply aL|apply bC|apply bB|apply aO
     |((with_reducible first|apply aQ|apply aP|apply bA)<;>intro h<;>(try dsimp only[cu,eE,eN]at h)<;>(try(exfalso;omega)))
     |(
 intro yy (hy:Tag 4/\_)
 obtain⟨(i:Int),(M:List Int),_⟩:=yy
 replace hy:=hy.2
 dsimp only[cu,aB,aA,gts,eE,eN]at hy
 obtain⟨hi,hM,hwd⟩:=hy)
     |(
 intro yy (hy:Tag 5/\_)
 obtain⟨(k:Int),(O:List Int),_⟩:=yy
 replace hy:=hy.2
 dsimp only[cu,aB,aA,gts,eE,eN]at hy
 obtain⟨hk,hO⟩:=hy)))
 all_goals(
 with_reducible apply Leaf.mk
 (try dsimp only[cu,aB,aA,gts,eE,eN]at *)
 first
 |rw[jN,if_pos (by omega)]
 |rw[jN,if_neg (by omega),if_pos (by omega)]
 |(
  have hyes:=TM (l:=l) (w:=w) (i:=i) (by omega) (by assumption);have h1:¬(w<0\/w>64):=by omega
  have h2:¬l.length>4096:=by omega
  rw[jN,if_neg h1,if_neg h2,if_pos hyes])
 |(
  have hil:i=l.length:=by omega
  have hno:=qCD (l:=l) (w:=w) (fun j hj=>hwd j (by omega));have h1:¬(w<0\/w>64):=by omega
  have h2:¬l.length>4096:=by omega
  have h3:¬nR l w=true:=by rw[hno];decide
  rw[jN,if_neg h1,if_neg h2,if_neg h3];(try rw[hM,hil])))
abbrev tb8:Tbl:=(183,CN)::tb7
theorem qJM:aC Tryz.prog tb8:=aC.cons qIT qJL
def qMV (s:ByteArray) (m:Nat):Bool:=(List.range (8*s.size)).any fun q=>decide (m<=q)&&decide (sbit s q=1)
def AU (s:ByteArray) (n w:Int):List Int×Int:=
 if ¬tH n w=true then([],4)else if(s.size:Int)<iM n w then([],10)else if(s.size:Int)>iM n w then([],2)
 else if qMV s (n*w).toNat=true then([],2)else(gL (sbit s) (n*w).toNat w.toNat n.toNat,0)
def xU:Nat->Int->List Int
 |0,v=>[v]
 |n+1,v=>if v<128 then[v]else(v%128+128)::xU n (v/128)
def put (v:Int):List Int:=xU 9 v
theorem EH:∀(n:Nat) (v:Int),(xU n v).length<=n+1/\1<=(xU n v).length
 |0,v=>by simp [xU]
 |n+1,v=>by
  unfold xU;split
  ·simp
  ·have:=EH n (v/128);simp;omega
theorem aY (v:Int):(put v).length<=10/\1<=(put v).length:=EH 9 v
theorem xV:∀(n:Nat) (v:Int),0<=v->v<128^(n+1)->∀m,n<=m->xU m v=xU n v
 |0,v,h0,h,m,_=>by
  have:v<128:=by simpa using h
  cases m with
  |zero=>rfl
  |succ m=>simp [xU,this]
 |n+1,v,h0,h,0,hm=>by omega
 |n+1,v,h0,h,m+1,hm=>by
  unfold xU;split
  ·rfl
  ·rw[xV n (v/128) (Int.ediv_nonneg h0 (by decide)) (by
     rw[Int.pow_succ]at h;exact Int.ediv_lt_of_lt_mul (by decide) h) m (by omega)]
theorem QV {v:Int} (h:0<=v/\v<18446744073709551616) (h1:¬v<128):put v=(v%128+128)::put (v/128):=by
 have e:put v=(v%128+128)::xU 8 (v/128):=by unfold put;rw[xU,if_neg h1]
 rw[e,put,xV 8 (v/128) (Int.ediv_nonneg h.1 (by decide)) (by
  have:(128:Int)^(8+1)=9223372036854775808:=by decide
  rw[this];omega) 9 (by omega)]
theorem EI {v:Int} (h1:v<128):put v= [v]:=by unfold put;rw[xU,if_pos h1]
theorem QU {v:Int} (h:0<=v/\v<18446744073709551616) (h1:¬v<128):put v=bOr .u8 (IntKind.u8.wrap v) 128::put (lK .u64 v 7):=by
 rw[QV h h1,qI3,qPS,qQU (by omega)];rw[show v%256%128=v%128 by omega]
theorem KA {v:Int} (h:0<=v) (h1:v<128):put v= [IntKind.u8.wrap v]:=by rw[EI h1,qJU (by omega)]
abbrev OR:Ct:=.fn [.int .u64] (some (fun(v0:Int)=>(0<=v0/\v0<18446744073709551616))) (fun(v0:Int)=>.d .str (aN (put v0)))
theorem qPF:aG Tryz.prog 64 OR:=by
 refine aG.fn qJM mixed [] [] rfl rfl ?_;rintro⟨(v0:Int),_⟩ hpre;replace hpre:=hpre _ rfl;dsimp only[cu]at hpre;have hv0:=hpre;refine⟨[(0,4,LA.mk [.sl 0 (.int .u64),.lst 3 (.int .u8) (⟨5,1⟩:El)] (fun y=>Tag 6/\cu [.int .u64,.list (.int .u8)] (fun(v:Int) (M:List Int)=>(0<=v/\v<18446744073709551616)/\(put v0=M++put v)) y) (cu [.int .u64,.list (.int .u8)] (fun(v:Int) (M:List Int)=>v.toNat)) (cu [.int .u64,.list (.int .u8)] (fun(v:Int) (M:List Int)=>([]:List (Nat×Nat×LA)))))],?_⟩;repeat' (first
  |(
 with_reducible refine Side.mk ⟨(⟨⟩:Tag 6),?_⟩
 dsimp only[cu,aB,aA,gts,eE,eN]
 refine⟨?_,?_⟩
 ·first
  |omega
  |(
  have h7:=qI3 v
  omega)
 ·first
  |simp;done
  |(rw[hb,QU hv (by omega)];simp))
  |(
 with_reducible apply Side.mk
 (try dsimp only[cu,aB,aA,gts,loK,hiK,eE,eN])
 first
 |done
 |omega
 |exact Eq.refl _
 |(
  have h7:=qI3 v;omega)
 |(
  have hb2:=congrArg List.length hb;have:=aY v0;have:=aY v;simp only[List.length_append]at hb2;(try simp only[List.length_cons,List.length_nil]);omega))
  |(conv=>whnf
    first
     |with_reducible first|done|exact trivial|refine NilBr.mk (fun h=>?_) ?_|apply aJ|apply aI|refine aK (by kernel_rfl) ?_|apply aL|apply bC|apply bB|apply aO
     |((with_reducible first|apply aQ|apply aP|apply bA)<;>intro h<;>(try dsimp only[cu,eE,eN]at h)<;>(try(exfalso;omega)))
     |(
 intro yy (hy:Tag 6/\_)
 obtain⟨(v:Int),(M:List Int),_⟩:=yy
 replace hy:=hy.2
 dsimp only[cu,aB,aA,gts,eE,eN]at hy
 obtain⟨hv,hb⟩:=hy)))
 all_goals(
 with_reducible apply Leaf.mk
 (try dsimp only[cu,aB,aA,gts,eE,eN]at *)
 rw[hb,KA hv.1 (by omega)])
abbrev tb9:Tbl:=(64,OR)::tb8
theorem qJN:aC Tryz.prog tb9:=aC.cons qPF qJM
abbrev IE:Ct:=.fn [.int .u64] (some (fun(v0:Int)=>(0<=v0/\v0<18446744073709551616))) (fun(v0:Int)=>.d .str (aN (put v0)))
theorem qMI:aG Tryz.prog 40 IE:=by
 refine aG.fn qJN mixed [] [] rfl rfl ?_;rintro⟨(v0:Int),_⟩ hpre;replace hpre:=hpre _ rfl;dsimp only[cu]at hpre;have hv0:=hpre;refine⟨[(0,4,LA.mk [.sl 0 (.int .u64),.sl 3 .str] (fun y=>Tag 7/\cu [.int .u64,.str] (fun(v:Int) (x:ByteArray)=>(0<=v/\v<18446744073709551616)/\(aN (put v0)=x++aN (put v))) y) (cu [.int .u64,.str] (fun(v:Int) (x:ByteArray)=>v.toNat)) (cu [.int .u64,.str] (fun(v:Int) (x:ByteArray)=>([]:List (Nat×Nat×LA)))))],?_⟩;repeat' (first
  |(
 with_reducible refine Side.mk ⟨(⟨⟩:Tag 7),?_⟩
 dsimp only[cu,aB,aA,gts,eE,eN]
 refine⟨?_,?_⟩
 ·first
  |omega
  |(
  have h7:=qI3 v
  omega)
 ·first
  |rw[show(⟨#[]⟩:ByteArray)=ByteArray.empty from rfl,ByteArray.empty_append]
  |(rw[hb,QU hv (by omega),ByteArray.append_assoc,<-bU];rfl))
  |(
 with_reducible apply Side.mk
 (try dsimp only[cu,aB,aA,gts,loK,hiK,eE,eN])
 first
 |omega
 |exact Eq.refl _
 |(
  have h7:=qI3 v;omega)
 |(
  have hb2:=congrArg ByteArray.size hb;have:=aY v0;have:=aY v;simp only[ByteArray.size_append,bO,List.length_cons,List.length_nil]at hb2 ⊢;omega))
  |(conv=>whnf
    first
     |with_reducible first|done|exact trivial|refine NilBr.mk (fun h=>?_) ?_|apply aJ|apply aI|refine aK (by kernel_rfl) ?_|apply aL|apply bC|apply bB|apply aO
     |((with_reducible first|apply aQ|apply aP|apply bA)<;>intro h<;>(try dsimp only[cu,eE,eN]at h)<;>(try(exfalso;omega)))
     |(
 intro yy (hy:Tag 7/\_)
 obtain⟨(v:Int),(x:ByteArray),_⟩:=yy
 replace hy:=hy.2
 dsimp only[cu,aB,aA,gts,eE,eN]at hy
 obtain⟨hv,hb⟩:=hy)))
 all_goals(
 with_reducible apply Leaf.mk
 (try dsimp only[cu,aB,aA,gts,eE,eN]at *)
 rw[hb,KA hv.1 (by omega)])
abbrev qQZ:Tbl:=(40,IE)::tb9
theorem ZK:aC Tryz.prog qQZ:=aC.cons qMI qJN
def gv (v b k:Int):Int:=bOr .u64 v (rL .u64 (b%128) (7*k))
def PZ (s:ByteArray) (at':Int):Nat->Int->Int->Int×Int×Int
 |0,_,_=>(0,0,8)
 |n+1,k,v=>if k>=s.size-at' then(0,0,10)else if k=9/\cZ s (at'+k).toNat>1 then(0,0,8)
  else if cZ s (at'+k).toNat>=128 then PZ s at' n (k+1) (gv v (cZ s (at'+k).toNat) k)
  else if cZ s (at'+k).toNat=0/\k>0 then(0,0,2)else(gv v (cZ s (at'+k).toNat) k,at'+k+1,0)
termination_by n _ _=>n
def qW (s:ByteArray) (at':Int):Int×Int×Int:=if at'<0\/at'>s.size then(0,0,4)else PZ s at' 10 0 0
theorem aZ (s:ByteArray):(bH s).length=s.size:=by simp [bH]
theorem FH (s:ByteArray) (k:Nat):(bH s)[k]! =cZ s k:=by
 obtain⟨d⟩:=s;show(d.toList.map fun u=>(u.toNat:Int))[k]! =((d[k]!).toNat:Int)
 by_cases h:k<d.size
 ·rw[getElem!_pos _ k (by simpa using h),getElem!_pos d k h]
  simp
 ·rw[getElem!_neg _ k (by simpa using h),getElem!_neg d k h]
  rfl
theorem qP3 {a c:Int} (ha:0<=a/\a<18446744073709551616) (hc:0<=c/\c<18446744073709551616):bOr .u64 a c=((a.toNat ||| c.toNat:Nat):Int):=by
 have q:∀x:Int,0<=x/\x<18446744073709551616->(BitVec.ofInt IntKind.u64.bits x).toNat=x.toNat:=by
  intro x hx;rw[BitVec.toNat_ofInt];simp [IntKind.bits];omega
 unfold bOr;rw[BitVec.toNat_or,q a ha,q c hc];have:a.toNat ||| c.toNat<2^64:=Nat.or_lt_two_pow (by omega) (by omega);exact aS (by omega)
theorem qO9 (a b n:Nat) (h:a<2^n):a ||| (b*2^n)=a+b*2^n:=by
 have:=Nat.shiftLeft_add_eq_or_of_lt h b;rw[Nat.shiftLeft_eq]at this;rw[Nat.or_comm,<-this];omega
theorem qQX {b:Int} {n:Nat} (hn:n<=64) (h:0<=b*2^n/\b*2^n<18446744073709551616):rL .u64 b n=b*2^n:=by
 unfold rL;rw[show min ((n:Int)).toNat IntKind.u64.bits=n by simp [IntKind.bits];omega];exact aS h
theorem qHT {a b:Int} {n:Nat} (hn:n<=64) (ha:0<=a/\a<2^n) (hb:0<=b) (h:a+b*2^n<18446744073709551616):bOr .u64 a (rL .u64 b n)=a+b*2^n:=by
 have h0:0<=b*2^n:=Int.mul_nonneg hb (Int.le_of_lt (Int.pow_pos (by decide)));rw[qQX hn ⟨h0,by omega⟩,qP3 (by omega) (by omega)];have e:(b*2^n).toNat=b.toNat*2^n:=by
  obtain⟨m,rfl⟩:=Int.eq_ofNat_of_zero_le hb;have:((m:Int)*2^n)=((m*2^n:Nat):Int):=by push_cast;rfl
  rw[this];rfl
 have ha':a.toNat<2^n:=by
  have:((2^n:Nat):Int)=2^n:=by push_cast;rfl
  omega
 rw[e,qO9 _ _ _ ha'];have:((b.toNat*2^n:Nat):Int)=b*2^n:=by push_cast;rw[Int.toNat_of_nonneg hb]
 omega
theorem VK (k:Nat):(2:Int)^(7*k)=128^k:=by
 rw[Int.pow_mul];rfl
theorem qNL {v b:Int} {k:Nat} (hk:k<=9) (hv:0<=v/\v<128^k) (h:v+b%128*128^k<18446744073709551616):gv v b k=v+b%128*128^k:=by
 have:=qHT (a:=v) (b:=b%128) (n:=7*k) (by omega) (by rw[VK];exact hv) (by omega) (by rw[VK];exact h);rw[VK]at this;unfold gv;rw[show(7*(k:Int))=((7*k:Nat):Int)by push_cast;rfl];exact this
theorem WM {s:ByteArray} {b:Int} (h:b∈bH s):0<=b/\b<256:=by
 unfold bH at h;obtain⟨u,_,rfl⟩:=List.mem_map.1 h;have:=u.toNat_lt;omega
theorem qDC {s:ByteArray} {i:Nat} (h:i<s.size):(bH s).drop i=cZ s i::(bH s).drop (i+1):=by
 have:=bJ (bH s) (i:Int) (by rw[aZ];omega);rw[FH]at this;simpa using this
theorem qHV (k:Nat):(0:Int)<128^k:=Int.pow_pos (by decide)
theorem JX (k:Nat):(128:Int)^(k+1)=128^k*128:=Int.pow_succ _ _
theorem JW {k:Nat} (h:k<=8):(128:Int)^k<=72057594037927936:=by
 have h1:k=0\/k=1\/k=2\/k=3\/k=4\/k=5\/k=6\/k=7\/k=8:=by omega
 rcases h1 with rfl|rfl|rfl|rfl|rfl|rfl|rfl|rfl|rfl<;>decide
theorem zH (s:ByteArray) (a:Nat):∀(n k:Nat) (v x e:Int),n+k=10->0<=v->v<128^k->PZ s a n k v=(x,e,0) ->
  ∃u,0<=u/\x=v+u*128^k/\x<18446744073709551616/\e=a+k+(put u).length/\e<=s.size/\(bH s).drop (a+k)=put u++(bH s).drop e.toNat/\(0<k->0<u)
 |0,k,v,x,e,_,_,_,h=>by simp [PZ]at h
 |n+1,k,v,x,e,hk,h0,h1,h=>by
  rw[PZ]at h;have hp:=qHV k;split at h
  ·simp at h
  ·rename_i h2
   have hi:a+k<s.size:=by omega
   rw[show((a:Int)+(k:Int)).toNat=a+k by omega]at h;have hb:=TZ s (a+k);have hd:=qDC hi;generalize hbb:cZ s (a+k)=b at h hb hd;split at h
   ·simp at h
   ·rename_i h3
    split at h
    ·rename_i h4
     have hk8:k<=8:=by omega
     have hm:b%128*128^k<=127*128^k:=Int.mul_le_mul_of_nonneg_right (by omega) (Int.le_of_lt hp);have hpm:=JW hk8;have hg:=qNL (v:=v) (b:=b) (k:=k) (by omega) ⟨h0,h1⟩ (by omega);have hg0:0<=b%128*128^k:=Int.mul_nonneg (by omega) (Int.le_of_lt hp);rw[hg,show((k:Int)+1)=((k+1:Nat):Int)by push_cast;rfl]at h;obtain⟨u,u0,u1,u2,u3,u4,u5,u6⟩:=zH s a n (k+1) _ x e (by omega) (by omega) (by rw[JX];omega) h;have up:=u6 (by omega);have e1:(b%128+128*u)*128^k=b%128*128^k+u*128^(k+1):=by rw[JX,Int.add_mul,Int.mul_comm 128 u,Int.mul_assoc,Int.mul_comm 128]
     have hle:b%128+128*u<=(b%128+128*u)*128^k:=by
      have:=Int.mul_le_mul_of_nonneg_left (show(1:Int)<=128^k by omega) (show 0<=b%128+128*u by omega);omega
     have hput:put (b%128+128*u)=b::put u:=by
      rw[QV (by omega) (by omega),show(b%128+128*u)/128=u by omega,show(b%128+128*u)%128+128=b by omega]
     refine⟨b%128+128*u,by omega,by omega,u2,?_,u4,?_,fun _=>by omega⟩
     ·rw[hput];simp;omega
     ·rw[hput,hd,show a+k+1=a+(k+1)by omega,u5];rfl
    ·rename_i h4
     split at h
     ·simp at h
     ·rename_i h5
      have hm:b%128=b:=by omega
      have hbp:v+b%128*128^k<18446744073709551616:=by
       rcases Nat.lt_or_ge k 9 with hk9|hk9
       ·have hpm:=JW (show k<=8 by omega)
        have:b%128*128^k<=127*128^k:=Int.mul_le_mul_of_nonneg_right (by omega) (Int.le_of_lt hp);omega
       ·have h9:k=9:=by omega
        subst h9;have:(128:Int)^9=9223372036854775808:=by decide
        rw[this]at h1 ⊢;omega
      have hg:=qNL (v:=v) (b:=b) (k:=k) (by omega) ⟨h0,h1⟩ hbp;injection h with q1 q2;injection q2 with q2 q3;refine⟨b,hb.1,by rw[<-q1,hg,hm],by rw[<-q1,hg];exact hbp,by rw[EI (by omega),<-q2];simp,by omega,?_,fun hk0=>by omega⟩;rw[EI (by omega),hd,<-q2,show((a:Int)+(k:Int)+1).toNat=a+k+1 by omega];rfl
theorem UP {s:ByteArray} {a v e:Int} (h:qW s a=(v,e,0)):0<=a/\a<=s.size/\0<=v/\v<18446744073709551616/\e=a+(put v).length/\e<=s.size/\(bH s).drop a.toNat=put v++(bH s).drop e.toNat:=by
 unfold qW at h;split at h
 ·simp at h
 ·rename_i hr
  obtain⟨m,rfl⟩:=Int.eq_ofNat_of_zero_le (show 0<=a by omega);obtain⟨u,u0,u1,u2,u3,u4,u5,_⟩:=zH s m 10 0 0 v e rfl (by decide) (by decide) h;have hu:v=u:=by rw[u1];simp
  subst hu;refine⟨by omega,by omega,u0,u2,?_,u4,?_⟩
  ·simpa using u3
  ·simpa using u5
theorem GL {l:List Int} (h:∀b,b∈l->0<=b/\b<256):bH (aN l)=l:=by
 unfold bH aN;simp only[List.map_map];conv=>rhs;rw[<-List.map_id l]
 refine List.map_congr_left fun b hb=>?_
 have:=h b hb;show((UInt8.ofNat b.toNat).toNat:Int)=b;have hb':b.toNat<256:=by omega
 rw[UInt8.toNat_ofNat_of_lt' hb'];omega
theorem WL {a b:ByteArray} (h:bH a=bH b):a=b:=by
 apply ByteArray.ext;apply Array.ext';unfold bH at h;refine List.map_inj_right (f:=fun u:UInt8=>(u.toNat:Int)) (fun x y hxy=>?_) |>.1 h;exact UInt8.toNat_inj.1 (Int.ofNat.inj hxy)
end Go.Proofs.YtcjiefknhfhmkaaGreatDoor
namespace Go.Abs
set_option maxRecDepth 100000
set_option maxHeartbeats 4000000
set_option linter.unusedVariables false
set_option linter.unusedSimpArgs false
theorem wG (a b:ByteArray):dO a b=true↔a.data.toList<b.data.toList:=by
 unfold dO;rw[Proofs.bytesLess_eq,Lib.toList_data,Lib.toList_data];simp
theorem kN (a:ByteArray):¬dO a a=true:=by rw[wG];exact List.lt_irrefl _
theorem xZ {a b c:ByteArray} (h1:dO a b=true) (h2:dO b c=true):dO a c=true:=by
 rw[wG]at *;exact List.lt_trans h1 h2
theorem PK {a b:ByteArray} (h:a.data.toList=b.data.toList):a=b:=by
 cases a;cases b;simp at h;rw[h]
theorem YC (a b:List UInt8):a<b\/a=b\/b<a:=by
 rcases List.le_total a b with h|h
 ·by_cases q:a<b
  ·exact .inl q
  ·exact .inr (.inl (List.le_antisymm h (List.not_lt.1 q)))
 ·by_cases q:b<a
  ·exact .inr (.inr q)
  ·exact .inr (.inl (List.le_antisymm (List.not_lt.1 q) h))
theorem ZE (a b:ByteArray):dO a b=true\/a=b\/dO b a=true:=by
 rw[wG,wG];rcases YC a.data.toList b.data.toList with h|h|h
 ·exact .inl h
 ·exact .inr (.inl (PK h))
 ·exact .inr (.inr h)
theorem SE {a b:ByteArray} (h1:dO a b=true):¬dO b a=true:=fun h2=>kN a (xZ h1 h2)
def tR (l:List ByteArray):Prop:=l.Pairwise fun a b=>dO a b=true
theorem OG:∀ {a b:List ByteArray},tR a->tR b->(∀v,v∈a↔v∈b)->a=b
 | [],[],_,_,_=>rfl
 | [],y::b,_,_,h=>by have:=(h y).2 (by simp);simp at this
 |x::a,[],_,_,h=>by have:=(h x).1 (by simp);simp at this
 |x::a,y::b,ha,hb,h=>by
  have ha:=List.pairwise_cons.1 ha;have hb:=List.pairwise_cons.1 hb;have hxy:x=y:=by
   have h1:=(h x).1 (by simp);have h2:=(h y).2 (by simp);rcases List.mem_cons.1 h1 with q|q
   ·exact q
   ·rcases List.mem_cons.1 h2 with q2|q2
    ·exact q2.symm
    ·exact absurd (ha.1 y q2) (SE (hb.1 x q))
  subst hxy;rw[OG ha.2 hb.2 (fun v=>?_)];constructor
  ·intro hv
   rcases List.mem_cons.1 ((h v).1 (List.mem_cons_of_mem _ hv))with q|q
   ·subst q;exact absurd (ha.1 v hv) (kN v)
   ·exact q
  ·intro hv
   rcases List.mem_cons.1 ((h v).2 (List.mem_cons_of_mem _ hv))with q|q
   ·subst q;exact absurd (hb.1 v hv) (kN v)
   ·exact q
theorem tZ (l:List (List UInt8)) (j:Nat):Lib.keeps l.toArray j=true↔j=0\/l[j]! ≠l[j-1]!:=by
 simp [Lib.keeps,List.getElem!_toArray]
theorem DG (l:List (List UInt8)):Lib.compact l=((List.range l.length).filter (Lib.keeps l.toArray)).map (fun j=>l[j]!):=by
 simp [Lib.compact,Lib.compactUpTo,List.getElem!_toArray]
def leL (a b:List UInt8):Prop:=a<b\/a=b
theorem YA {l:List (List UInt8)} (h:l.Pairwise leL) {i j:Nat} (hij:i<=j) (hj:j<l.length):leL l[i]! l[j]!:=by
 rw[getElem!_pos l i (by omega),getElem!_pos l j hj];rcases Nat.eq_or_lt_of_le hij with q|q
 ·subst q;exact .inr rfl
 ·exact(List.pairwise_iff_getElem.1 h) i j (by omega) hj q
theorem UF {l:List (List UInt8)} (h:l.Pairwise leL):(Lib.compact l).Pairwise (fun a b=>a<b):=by
 rw[DG,List.pairwise_map];have hr:((List.range l.length).filter (Lib.keeps l.toArray)).Pairwise (fun a b=>a<b):=List.Pairwise.filter _ List.pairwise_lt_range;refine hr.imp_of_mem (fun{i j} hi hj hij=>?_);have hj2:=List.mem_filter.1 hj;have hjl:j<l.length:=by simpa using hj2.1
 have hk:=(tZ l j).1 hj2.2;have h1:=YA h (i:=i) (j:=j-1) (by omega) (by omega);have h2:=YA h (i:=j-1) (j:=j) (by omega) hjl;rcases hk with q|q
 ·omega
 ·rcases h2 with h2|h2
  ·rcases h1 with h1|h1
   ·exact List.lt_trans h1 h2
   ·rw[h1];exact h2
  ·exact absurd h2.symm q
theorem zA {l:List (List UInt8)} (v:List UInt8):v∈Lib.compact l↔v∈l:=by
 rw[DG];constructor
 ·intro hv
  obtain⟨j,hj,rfl⟩:=List.mem_map.1 hv;have hjl:j<l.length:=by simpa using(List.mem_filter.1 hj).1
  rw[getElem!_pos l j hjl];exact List.getElem_mem hjl
 ·intro hv
  obtain⟨i,hi,rfl⟩:=List.mem_iff_getElem.1 hv;have go:∀i,i<l.length->∃j,j<l.length/\Lib.keeps l.toArray j=true/\l[j]! =l[i]!:=by
   intro i;induction i with
   |zero=>intro hi;exact⟨0,hi,(tZ l 0).2 (.inl rfl),rfl⟩
   |succ i ih=>
    intro hi;by_cases q:l[i+1]! =l[i]!
    ·obtain⟨j,j1,j2,j3⟩:=ih (by omega)
     exact⟨j,j1,j2,by rw[j3,q]⟩
    ·exact⟨i+1,hi,(tZ l (i+1)).2 (.inr (by simpa using q)),rfl⟩
  obtain⟨j,j1,j2,j3⟩:=go i hi;refine List.mem_map.2 ⟨j,List.mem_filter.2 ⟨by simpa using j1,j2⟩,?_⟩;rw[j3,getElem!_pos l i hi]
theorem qLQ {v:ByteArray} {l:List ByteArray}:v.data.toList∈bsL l↔v∈l:=by
 unfold bsL;rw[List.mem_map];constructor
 ·rintro⟨x,h1,h2⟩;rw[<-PK h2];exact h1
 ·exact fun h=>⟨v,h,rfl⟩
theorem UE {l r:List ByteArray} (hr:tR r) (h:∀v,v∈r↔v∈l):mA (eD l)=r:=by
 refine OG ?_ hr fun v=>?_
 ·unfold mA eD tR
  rw[qNG,List.pairwise_map];have hp:(((bsL l).mergeSort fun x y=>decide (x<=y))).Pairwise leL:=by
   have:=List.pairwise_mergeSort (le:=fun x y:List UInt8=>decide (x<=y)) (fun a b c h1 h2=>by
    simp only[decide_eq_true_eq]at *;exact List.le_trans h1 h2) (fun a b=>by
    simp only[Bool.or_eq_true,decide_eq_true_eq];exact List.le_total a b) (bsL l)
   refine this.imp (fun{a b} q=>?_);simp only[decide_eq_true_eq]at q;rcases YC a b with p|p|p
   ·exact .inl p
   ·exact .inr p
   ·exact absurd p (List.not_lt.2 q)
  exact(UF hp).imp (fun{a b} q=>(wG _ _).2 q)
 ·rw[h v]
  unfold mA eD;rw[qNG,List.mem_map];constructor
  ·rintro⟨x,h1,rfl⟩
   rw[zA,(List.mergeSort_perm _ _).mem_iff]at h1;unfold bsL at h1;obtain⟨y,h2,rfl⟩:=List.mem_map.1 h1;exact h2
  ·intro hv
   refine⟨v.data.toList,?_,rfl⟩;rw[zA,(List.mergeSort_perm _ _).mem_iff,qLQ];exact hv
def plS (l:List ByteArray) (s:ByteArray):Nat:=(l.takeWhile fun w=>dO w s).length
theorem xR (l:List ByteArray) (s:ByteArray):plS l s<=l.length:=by
 unfold plS;induction l with
 |nil=>simp
 |cons x l ih=>rw[List.takeWhile_cons];split<;>simp;omega
theorem MX:∀ {l:List ByteArray} {s:ByteArray} {t:Nat},t<plS l s->dO l[t]! s=true
 | [],s,t,h=>by simp [plS]at h
 |x::l,s,t,h=>by
  unfold plS at h;rw[List.takeWhile_cons]at h;split at h
  ·rename_i q
   cases t with
   |zero=>exact q
   |succ t=>exact MX (l:=l) (t:=t) (by unfold plS;simpa using h)
  ·simp at h
theorem MW:∀ {l:List ByteArray} {s:ByteArray},plS l s<l.length->¬dO l[plS l s]! s=true
 | [],s,h=>by simp at h
 |x::l,s,h=>by
  unfold plS at h ⊢;rw[List.takeWhile_cons]at h ⊢;split
  ·rename_i q
   rw[if_pos q]at h;exact MW (l:=l) (by unfold plS;simpa using h)
  ·rename_i q
   exact q
theorem uE {l:List ByteArray} {s:ByteArray} {k:Nat} (h1:∀t,t<k->dO l[t]! s=true) (h0:k<=l.length) (h2:k=l.length\/¬dO l[k]! s=true):plS l s=k:=by
 rcases Nat.lt_trichotomy (plS l s) k with q|q|q
 ·exact absurd (h1 _ q) (MW (by omega))
 ·exact q
 ·rcases h2 with p|p
  ·have:=xR l s;omega
  ·exact absurd (MX q) p
theorem OH {l:List ByteArray} (h:tR l) {i j:Nat} (hij:i<j) (hj:j<l.length):dO l[i]! l[j]! =true:=by
 rw[getElem!_pos l i (by omega),getElem!_pos l j hj];exact(List.pairwise_iff_getElem.1 h) i j (by omega) hj hij
theorem qH0 {l:List ByteArray} (h:tR l) {s:ByteArray} {t:Nat} (h1:plS l s<=t) (h2:t<l.length):¬dO l[t]! s=true:=by
 intro q;rcases Nat.eq_or_lt_of_le h1 with p|p
 ·subst p;exact MW h2 q
 ·exact MW (by omega) (xZ (OH h p h2) q)
theorem qL8 {l:List ByteArray} (h:tR l) {i:Nat} (hi:i<l.length):plS l l[i]! =i:=
 uE (fun t ht=>OH h ht hi) (by omega) (.inr (kN _))
theorem LM (less:Nat->Bool) (k n:Nat) (h1:∀t,t<k->less t=true) (h2:∀t,k<=t->t<n->less t=false):∀(f lo hi:Nat),hi-lo<=f->lo<=k->k<=hi->hi<=n->Lib.bsGo less f lo hi=k
 |0,lo,hi,hf,a,b,_=>by
  rw[Lib.bsGo];omega
 |f+1,lo,hi,hf,a,b,c=>by
  rw[Lib.bsGo];by_cases h:lo<hi
  ·rw[if_pos h]
   by_cases hm:(lo+hi)/2<k
   ·rw[h1 _ hm,if_pos rfl];exact LM less k n h1 h2 f _ _ (by omega) (by omega) b c
   ·rw[h2 _ (by omega) (by omega)];exact LM less k n h1 h2 f _ _ (by omega) a (by omega) (by omega)
  ·rw[if_neg h];omega
theorem qKE {l:List ByteArray} (h:tR l) (x:ByteArray):bsI l x=(plS l x:Int):=by
 unfold bsI;congr 1
 exact LM _ (plS l x) l.length (fun t ht=>MX ht) (fun t ht htl=>by
  show dO l[t]! x=false;rw[Bool.eq_false_iff];exact qH0 h ht htl) _ _ _ (by omega) (by omega) (xR l x) (by omega)
def fW (l:List ByteArray) (s:ByteArray):List ByteArray:=if plS l s=l.length\/l[plS l s]! ≠s then l.take (plS l s)++ [s]++l.drop (plS l s)else l
theorem qHD {l:List ByteArray} (h:tR l) (s v:ByteArray):v∈fW l s↔v=s\/v∈l:=by
 unfold fW;split
 ·have e:v∈l↔v∈l.take (plS l s)\/v∈l.drop (plS l s):=by
    conv=>lhs;rw[<-List.take_append_drop (plS l s) l]
    exact List.mem_append
  rw[List.mem_append,List.mem_append,List.mem_singleton,e];grind
 ·rename_i q
  have hlt:plS l s<l.length:=by have:=xR l s;omega
  have hs:s∈l:=by
   have p:l[plS l s]! =s:=Decidable.not_not.1 fun p=>q (.inr p)
   rw[<-p,getElem!_pos l _ hlt];exact List.getElem_mem hlt
  constructor
  ·exact fun h=>.inr h
  ·rintro(rfl|h)
   ·exact hs
   ·exact h
theorem qHC {l:List ByteArray} (h:tR l) (s:ByteArray):tR (fW l s):=by
 unfold fW;split
 ·rename_i q
  unfold tR;rw[List.append_assoc,List.pairwise_append];have ht:∀a,a∈l.take (plS l s)->dO a s=true:=fun a ha=>by
   obtain⟨i,hi,rfl⟩:=List.mem_iff_getElem.1 ha;have hi2:i<plS l s/\i<l.length:=by simp at hi;omega
   have:=MX (l:=l) (s:=s) (t:=i) hi2.1;rw[getElem!_pos l i hi2.2]at this;rw[List.getElem_take];exact this
  have hd:∀b,b∈l.drop (plS l s)->dO s b=true:=fun b hb=>by
   obtain⟨i,hi,rfl⟩:=List.mem_iff_getElem.1 hb;have hi2:plS l s+i<l.length:=by simp at hi;omega
   have h1:=qH0 h (s:=s) (t:=plS l s+i) (by omega) hi2;rw[List.getElem_drop,<-getElem!_pos l _ hi2];rcases ZE l[plS l s+i]! s with p|p|p
   ·exact absurd p h1
   ·exfalso
    have e:=qL8 h hi2;rw[p]at e;have hi0:i=0:=by omega
    subst hi0;rcases q with q|q
    ·omega
    ·exact q p
   ·exact p
  refine⟨List.Pairwise.sublist (List.take_sublist _ _) h,?_,?_⟩
  ·rw[List.singleton_append,List.pairwise_cons]
   exact⟨hd,List.Pairwise.sublist (List.drop_sublist _ _) h⟩
  ·intro a ha b hb
   rw[List.singleton_append,List.mem_cons]at hb;rcases hb with rfl|hb
   ·exact ht a ha
   ·exact xZ (ht a ha) (hd b hb)
 ·exact h
theorem qX (l:List ByteArray) (s:ByteArray):(fW l s).length<=l.length+1:=by
 unfold fW;split
 ·simp only[List.length_append,List.length_take,List.length_drop,List.length_singleton];omega
 ·omega
def bD (l:List ByteArray):List ByteArray:=l.foldl fW []
theorem AL:∀(l a:List ByteArray),tR a->tR (l.foldl fW a)/\(∀v,v∈l.foldl fW a↔v∈a\/v∈l)/\(l.foldl fW a).length<=a.length+l.length
 | [],a,h=>⟨h,fun v=>by simp,by simp⟩
 |x::l,a,h=>by
  obtain⟨h1,h2,h3⟩:=AL l (fW a x) (qHC h x);have:=qX a x;refine⟨h1,fun v=>?_,by rw[List.foldl_cons,List.length_cons];omega⟩;rw[List.foldl_cons,h2 v,qHD h,List.mem_cons];grind
theorem FM (l:List ByteArray):tR (bD l):=(AL l [] List.Pairwise.nil).1
theorem uK (l:List ByteArray) (v:ByteArray):v∈bD l↔v∈l:=by
 have:=(AL l [] List.Pairwise.nil).2.1 v;unfold bD;simpa using this
theorem dH (l:List ByteArray):(bD l).length<=l.length:=by
 have:=(AL l [] List.Pairwise.nil).2.2;unfold bD;simpa using this
theorem tU (l:List ByteArray):mA (eD l)=bD l:=UE (FM l) (uK l)
def cP (l:List ByteArray):List Int:=l.map fun s=>(plS (bD l) s:Int)
theorem fU (l:List ByteArray):(cP l).length=l.length:=by simp [cP]
end Go.Abs
namespace Go.Proofs.YtcjiefknhfhmkaaGreatDoor
open Go.Abs
set_option maxRecDepth 100000
set_option maxHeartbeats 4000000
set_option linter.unusedVariables false
set_option linter.unusedSimpArgs false
theorem qLC {s:ByteArray} {a:Int} (h:(qW s a).2.2=0):0<=a/\a<(qW s a).2.1/\(qW s a).2.1<=s.size:=by
 have e:qW s a=((qW s a).1,(qW s a).2.1,0):=by
  rw[<-h]
 obtain⟨h1,h2,h3,h4,h5,h6,_⟩:=UP e;have:=aY (qW s a).1;exact⟨h1,by omega,h6⟩
def wdN (n:Int):Int:=mK (cI (n-1) 0)
def tD (s:ByteArray) (ws:List ByteArray):ByteArray:=ws.foldl (fun s w=>s++(aN (put (w.size:Int))++w)) s
theorem DM {s:ByteArray} {W:List ByteArray} {k:Int} (h:0<=k/\k<W.length):tD s (W.take (k+1).toNat)=tD s (W.take k.toNat)++(aN (put (W[k.toNat]!.size:Int))++W[k.toNat]!):=by
 rw[show(k+1).toNat=k.toNat+1 by omega,List.take_succ_eq_append_getElem (by omega)];unfold tD;rw[List.foldl_append,getElem!_pos W k.toNat (by omega)];rfl
theorem DL {B:Nat}:∀(W:List ByteArray) (s:ByteArray),(∀w,w∈W->w.size<=B)->(tD s W).size<=s.size+W.length*(B+10)
 | [],s,_=>by simp [tD]
 |w::W,s,h=>by
  have ih:=DL W (s++(aN (put (w.size:Int))++w)) (fun v hv=>h v (by simp [hv]));have h1:=h w (by simp);have h2:=aY (w.size:Int);have e:(s++(aN (put (w.size:Int))++w)).size=s.size+((put (w.size:Int)).length+w.size):=by simp only[ByteArray.size_append,bO]
  rw[e]at ih;show(tD (s++(aN (put (w.size:Int))++w)) W).size<=_;simp only[List.length_cons,Nat.add_mul];omega
def kT (l:List ByteArray):ByteArray:=if l.length>4096 then⟨#[]⟩else tD (aN (put ((bD l).length:Int))) (bD l)++(jN (cP l) (wdN (bD l).length)).1
theorem zX {l:List ByteArray} {B:Nat} (h:∀w,w∈l->w.size<=B):∀w,w∈bD l->w.size<=B:=fun w hw=>h w ((uK l w).1 hw)
theorem nF {l:List ByteArray} {v:Int} {k:Nat} (h:∀w,w∈l->w.size<=1073741824) (hl:l.length<=4096):(tD (aN (put v)) ((bD l).take k)).size<=4398046552074:=by
 have h1:=DL (B:=1073741824) ((bD l).take k) (aN (put v)) (fun w hw=>zX h w (List.mem_of_mem_take hw));have h2:=aY v;have h3:=dH l;rw[bO]at h1;have h4:((bD l).take k).length<=4096:=by simp;omega
 have h5:((bD l).take k).length*(1073741824+10)<=4096*(1073741824+10):=Nat.mul_le_mul_right _ h4;omega
theorem UB (l:List ByteArray):∀c,c∈cP l->0<=c/\c<=(bD l).length:=by
 intro c hc;obtain⟨s,_,rfl⟩:=List.mem_map.1 hc;have:=xR (bD l) s;omega
theorem rW (l:List ByteArray) (k:Nat):0<=(cP l)[k]! /\(cP l)[k]! <=l.length:=by
 by_cases h:k<(cP l).length
 ·have:=UB l (cP l)[k]! (by rw[getElem!_pos _ k h];exact List.getElem_mem h)
  have:=dH l;omega
 ·rw[getElem!_neg _ k h];exact⟨Int.le_refl _,by show(0:Int)<=_;omega⟩
theorem qC4 {l:List ByteArray} {k:Int} (h:0<=k/\k<l.length):(cP l)[k.toNat]! =(plS (bD l) l[k.toNat]!:Int):=by
 rw[getElem!_pos (cP l) k.toNat (by rw[fU];omega),getElem!_pos l k.toNat (by omega)];simp [cP]
theorem DE {l:List ByteArray} {k:Int} (h:0<=k/\k<l.length):(cP l).take (k+1).toNat=(cP l).take k.toNat++ [(plS (bD l) l[k.toNat]!:Int)]:=by
 rw[show(k+1).toNat=k.toNat+1 by omega,List.take_succ_eq_append_getElem (by rw[fU];omega),<-qC4 h,getElem!_pos (cP l) k.toNat (by rw[fU];omega)]
theorem WP {l:List ByteArray} {k:Int} (h:0<=k/\k<l.length):(l.take (k+1).toNat).foldl fW []=fW ((l.take k.toNat).foldl fW []) l[k.toNat]!:=by
 rw[show(k+1).toNat=k.toNat+1 by omega,List.take_succ_eq_append_getElem (by omega),List.foldl_append,getElem!_pos l k.toNat (by omega)];rfl
theorem FN (l:List ByteArray) (k:Nat):((l.take k).foldl fW []).length<=l.length:=by
 have:=dH (l.take k);unfold bD at this;simp at this;omega
theorem qLF {M:List ByteArray} {s:ByteArray} (h:¬((plS M s:Int)=M.length)) (h2:M[(plS M s:Int).toNat]! =s):fW M s=M:=by
 rw[Int.toNat_natCast]at h2;unfold fW;rw[if_neg];rintro(q|q)
 ·exact h (by omega)
 ·exact q h2
theorem qHE {M:List ByteArray} {s:ByteArray} (h:(plS M s:Int)=M.length\/¬M[(plS M s:Int).toNat]! =s):fW M s=M.take (plS M s)++ [s]++M.drop (plS M s):=by
 rw[Int.toNat_natCast]at h;unfold fW;rw[if_pos];rcases h with q|q
 ·exact .inl (by omega)
 ·exact .inr q
theorem qCW (l:List ByteArray) (x:ByteArray):bsI (mA (eD l)) x=(plS (bD l) x:Int):=by rw[tU,qKE (FM l)]
theorem qGB (l:List ByteArray):(mA (eD l)).length<=l.length:=by rw[tU];exact dH l
theorem qDX (w:Int) (h:0<=w/\w<=64):(jN [] w).1=⟨#[]⟩:=by
 have e:(iM ((([]:List Int).length:Nat):Int) w).toNat=0:=by
  obtain⟨h1,_⟩:=oB (n:=((([]:List Int).length:Nat):Int)) (w:=w) ⟨⟨by simp,by simp⟩,h⟩;rw[h1];simp
 unfold jN;rw[if_neg (by omega),if_neg (by simp),if_neg (by simp [nR]),e];rfl
theorem qM8 (n:Int) (h:n<=9223372036854775807):0<=wdN n/\wdN n<=64:=by
 unfold wdN;have hm:cI (n-1) 0<18446744073709551616:=by unfold cI;split<;>omega
 exact MP hm
abbrev CD:Ct:=.fn [.list .str,.str] (some (fun(l:List ByteArray) (s:ByteArray)=>(l.length<=4611686018427387904))) (fun(l:List ByteArray) (s:ByteArray)=>.d (.int .i64) (plS l s:Int))
theorem qH3:aG Tryz.prog 208 CD:=by
 refine aG.fn ZK mixed [] [] rfl rfl ?_;rintro⟨(l:List ByteArray),(s:ByteArray),_⟩ hpre;replace hpre:=hpre _ rfl;dsimp only[cu]at hpre;have hl:=hpre;refine⟨[(0,4,LA.mk [.sl 5 (.int .i64)] (fun y=>Tag 8/\cu [.int .i64] (fun(i:Int)=>(0<=i/\i<=l.length)/\(∀t:Nat,(t:Int)<i->dO l[t]! s=true)) y) (cu [.int .i64] (fun(i:Int)=>((l.length:Int)-i).toNat)) (cu [.int .i64] (fun(i:Int)=>([]:List (Nat×Nat×LA)))))],?_⟩;repeat' (first
  |(
 with_reducible refine Side.mk ⟨(⟨⟩:Tag 8),?_⟩
 dsimp only[cu,aB,aA,gts,eE,eN]
 refine⟨?_,?_⟩
 ·omega
 ·first
  |intro t ht;omega
  |(
  intro t ht
  rcases Int.lt_or_le (t:Int) i with q|q
  ·exact hp t q
  ·rw[show t=i.toNat by omega];assumption))
  |(
 with_reducible apply Side.mk
 (try dsimp only[cu,aB,aA,gts,loK,hiK,eE,eN])
 omega)
  |(conv=>whnf
    first
     |with_reducible first|done|exact trivial|refine NilBr.mk (fun h=>?_) ?_|apply aJ|apply aI|refine aK (by kernel_rfl) ?_|apply aL|apply bC|apply bB|apply aO
     |((with_reducible first|apply aQ|apply aP|apply bA)<;>intro h<;>(try dsimp only[cu,eE,eN]at h)<;>(try(exfalso;omega)))
     |(
 intro yy (hy:Tag 8/\_)
 obtain⟨(i:Int),_⟩:=yy
 replace hy:=hy.2
 dsimp only[cu,aB,aA,gts,eE,eN]at hy
 obtain⟨hi,hp⟩:=hy)))
 all_goals(
 with_reducible apply Leaf.mk
 (try dsimp only[cu,aB,aA,gts,eE,eN]at *)
 first
 |(
  have e:i.toNat=l.length:=by omega
  have e2:=uE (k:=i.toNat) (fun t ht=>hp t (by omega)) (by omega) (.inl e);show(i:Int)=(plS l s:Int)
  omega)
 |(
  have e:¬dO l[i.toNat]! s=true:=by first|assumption|(simp_all;done)
  have e2:=uE (k:=i.toNat) (fun t ht=>hp t (by omega)) (by omega) (.inr e);show(i:Int)=(plS l s:Int)
  omega))
abbrev qQ0:Tbl:=(208,CD)::qQZ
theorem ZL:aC Tryz.prog qQ0:=aC.cons qH3 ZK
abbrev yR:Ct:=.fn [.list .str] (some (fun(l:List ByteArray)=>(l.length<=1073741824))) (fun(l:List ByteArray)=>.tup [.list .str,.list (.int .i64)] (bD l,cP l,()))
theorem qD5:aG Tryz.prog 182 yR:=by
 refine aG.fn ZL mixed [] [] rfl rfl ?_;rintro⟨(l:List ByteArray),_⟩ hpre;replace hpre:=hpre _ rfl;dsimp only[cu]at hpre;have hl:=hpre;refine⟨[(0,6,LA.mk [.sl 14 (.int .i64),.lst 4 .str 9] (fun y=>Tag 9/\cu [.int .i64,.list .str] (fun(k:Int) (M:List ByteArray)=>(0<=k/\k<=l.length)/\(M=(l.take k.toNat).foldl fW [])) y) (cu [.int .i64,.list .str] (fun(k:Int) (M:List ByteArray)=>((l.length:Int)-k).toNat)) (cu [.int .i64,.list .str] (fun(k:Int) (M:List ByteArray)=>([]:List (Nat×Nat×LA))))),(0,26,LA.mk [.sl 49 (.int .i64),.lst 9 (.int .i64) 3] (fun y=>Tag 10/\cu [.int .i64,.list (.int .i64)] (fun(k:Int) (C:List Int)=>(0<=k/\k<=l.length)/\(C=(cP l).take k.toNat)) y) (cu [.int .i64,.list (.int .i64)] (fun(k:Int) (C:List Int)=>((l.length:Int)-k).toNat)) (cu [.int .i64,.list (.int .i64)] (fun(k:Int) (C:List Int)=>([]:List (Nat×Nat×LA)))))],?_⟩;repeat' (first
  |(
 with_reducible refine Side.mk ⟨(⟨⟩:Tag 9),?_⟩
 dsimp only[cu,aB,aA,gts,eE,eN]
 refine⟨?_,?_⟩
 ·omega
 ·first
  |rfl
  |(
  have e:=WP (l:=l) (k:=k) (by omega)
  rw[<-hM]at e
  first
  |(
   have e1:¬((plS M l[k.toNat]!:Int)=M.length):=by first|omega|(simp_all;done)
   have e2:M[(plS M l[k.toNat]!:Int).toNat]! =l[k.toNat]!:=by simp_all;done
   rw[e,qLF e1 e2])
  |(
   have e1:(plS M l[k.toNat]!:Int)=M.length\/¬M[(plS M l[k.toNat]!:Int).toNat]! =l[k.toNat]!:=by first|(left;omega)|(right;assumption)|(right;simp_all;done)
   rw[e,qHE e1];have h0:=xR M l[k.toNat]!;clear hM e e1;simp only[NM,List.nil_append,Int.toNat_natCast,List.append_nil,List.drop_zero];have e4:((M.length:Int)-(plS M l[k.toNat]!:Int)).toNat=M.length-plS M l[k.toNat]!:=by omega
   (try rw[e4]);first|(have e5:plS M l[k.toNat]! =M.length:=(by omega);rw[e5];simp;done)|(have e5:plS M l[k.toNat]! =0:=(by omega);rw[e5];simp;done)|(have e5:(M.drop (plS M l[k.toNat]!)).take (M.length-plS M l[k.toNat]!)=M.drop (plS M l[k.toNat]!):=List.take_of_length_le (by simp);rw[e5])|grind)))
  |(
 with_reducible refine Side.mk ⟨(⟨⟩:Tag 10),?_⟩
 dsimp only[cu,aB,aA,gts,eE,eN]
 refine⟨?_,?_⟩
 ·omega
 ·first
  |rfl
  |(rw[DE (by omega),<-hC,show bD l=M by(unfold bD;rw[hM,List.take_of_length_le (by omega)])]))
  |(
 with_reducible apply Side.mk
 (try dsimp only[cu,aB,aA,gts,loK,hiK,eE,eN])
 first
 |done
 |omega
 |exact Eq.refl _
 |simp only[List.length_append,List.length_cons,List.length_nil];omega
 |(
  have hw:=FN l k.toNat;(try rw[<-hM]at hw);omega)
 |(
  rw[hM,List.take_of_length_le (by omega)];show(bD l).length<=4611686018427387904;have:=dH l;omega)
 |(
  have hw:=FN l k.toNat;(try rw[<-hM]at hw);first
  |(
   have h0:=xR M l[k.toNat]!;(try simp only[List.length_append,List.length_take,List.length_drop,List.length_cons,List.length_nil,NM]);omega)
  |(
   have hcl:=congrArg List.length hC;simp only[List.length_take,List.length_cons,List.length_nil]at hcl ⊢;omega)))
  |(conv=>whnf
    first
     |with_reducible first|done|exact trivial|refine NilBr.mk (fun h=>?_) ?_|apply aJ|apply aI|refine aK (by kernel_rfl) ?_|apply aL|apply bC|apply bB|apply aO
     |((with_reducible first|apply aQ|apply aP|apply bA)<;>intro h<;>(try dsimp only[cu,eE,eN]at h)<;>(try(exfalso;omega)))
     |(
 intro yy (hy:Tag 9/\_)
 obtain⟨(k:Int),(M:List ByteArray),_⟩:=yy
 replace hy:=hy.2
 dsimp only[cu,aB,aA,gts,eE,eN]at hy
 obtain⟨hk,hM⟩:=hy)
     |(
 intro yy (hy:Tag 10/\_)
 obtain⟨(k:Int),(C:List Int),_⟩:=yy
 replace hy:=hy.2
 dsimp only[cu,aB,aA,gts,eE,eN]at hy
 obtain⟨hk,hC⟩:=hy)))
 all_goals(
 with_reducible apply Leaf.mk
 (try dsimp only[cu,aB,aA,gts,eE,eN]at *)
 first
 |(
  unfold bD;rw[hM,List.take_of_length_le (by omega)])
 |(rw[hC,List.take_of_length_le (by rw[fU];omega)]))
abbrev qQ1:Tbl:=(182,yR)::qQ0
theorem qMX:aC Tryz.prog qQ1:=aC.cons qD5 ZL
theorem qMQ {l:List ByteArray} {B:Nat} (h:∀w,w∈l->w.size<=B) (k:Nat):l[k]!.size<=B:=by
 by_cases q:k<l.length
 ·exact h _ (by rw[getElem!_pos l k q];exact List.getElem_mem q)
 ·rw[getElem!_neg l k q];exact Nat.zero_le _
theorem wP {l:List ByteArray} (h:∀w,w∈l->w.size<=1073741824) (k:Nat):(bD l)[k]!.size<=1073741824:=qMQ (zX h) k
theorem qGT {l:List ByteArray} (h:bD l= []):(jN (cP l) (wdN (bD l).length)).1=⟨#[]⟩:=by
 have hl:l= []:=by
  cases l with
  |nil=>rfl
  |cons a l=>
   have:=(uK (a::l) a).2 (by simp);rw[h]at this;simp at this
 subst hl;exact qDX _ (qM8 _ (by simp [bD]))
theorem FX (s:ByteArray):s++⟨#[]⟩=s:=by
 show s++ByteArray.empty=s;simp
theorem bE (s:ByteArray):aN (bH s)=s:=by
 apply WL;exact GL (fun b hb=>WM hb)
theorem iU (l:List Int) (w:Int):(jN l w).1.size<=32768:=by
 unfold jN;split
 ·exact Nat.zero_le _
 split
 ·exact Nat.zero_le _
 split
 ·exact Nat.zero_le _
 ·rw[bO,kF]
  obtain⟨h1,h2⟩:=oB (n:=(l.length:Int)) (w:=w) ⟨⟨by omega,by omega⟩,by omega⟩;rw[h1];omega
theorem IT {l:List ByteArray} {C:List Int} {k:Int} (hc:C.length=(cP l).length) (hC:C.take k.toNat=(cP l).take k.toNat) (h:¬k<(cP l).length):C=cP l:=by
 rw[List.take_of_length_le (by omega),List.take_of_length_le (by omega)]at hC;exact hC
abbrev qQ3:Tbl:=(204,CU)::qQ1
theorem qMY:aC Tryz.prog qQ3:=aC.cons qI5 qMX
abbrev qQ4:Tbl:=(205,BW)::qQ3
theorem qMZ:aC Tryz.prog qQ4:=aC.cons qGA qMY
abbrev qQ5:Tbl:=(206,XB)::qQ4
theorem ZM:aC Tryz.prog qQ5:=aC.cons qP7 qMZ
abbrev BU:Ct:=.fn [.list .str] (some (fun(l:List ByteArray)=>(l.length<=1073741824))) (fun(l:List ByteArray)=>.tup [.list .str,.list (.int .i64)] (bD l,cP l,()))
theorem qF3:aG Tryz.prog 179 BU:=by
 refine aG.fn ZM mixed [(203,2,4000002)] [203] rfl rfl ?_;rintro⟨(l:List ByteArray),_⟩ hpre;replace hpre:=hpre _ rfl;dsimp only[cu]at hpre;have hl:=hpre;refine⟨[(0,12,LA.mk [.sl 19 (.int .i64),.ar 2 (.int .i64) 3] (fun y=>Tag 11/\cu [.int .i64,.list (.int .i64)] (fun(k:Int) (C:List Int)=>(0<=k/\k<=l.length)/\(C.length=l.length)/\(C.take k.toNat=(cP l).take k.toNat)) y) (cu [.int .i64,.list (.int .i64)] (fun(k:Int) (C:List Int)=>((l.length:Int)-k).toNat)) (cu [.int .i64,.list (.int .i64)] (fun(k:Int) (C:List Int)=>([]:List (Nat×Nat×LA)))))],?_⟩;repeat' (first
  |(
 with_reducible refine Side.mk ⟨(⟨⟩:Tag 11),?_⟩
 dsimp only[cu,aB,aA,gts,eE,eN]
 refine⟨?_,?_,?_⟩
 ·omega
 ·first
  |simp;done
  |simp;omega
 ·first
  |rfl
  |(
  exfalso
  simp_all;omega)
  |(rw[DE (by omega),show(k+1).toNat=k.toNat+1 by omega,FG _ _ _ (by omega),hC,qCW]))
  |(
 with_reducible apply Side.mk
 (try dsimp only[cu,aB,aA,gts,loK,hiK,eE,eN])
 first
 |done
 |omega
 |exact Eq.refl _
 |simp only[List.length_append,List.length_cons,List.length_nil];omega
 |(
  have:=qGB l;omega)
 |simp [mX];done
 |(rw[mX];omega))
  |(conv=>whnf
    first
     |with_reducible first|done|exact trivial|refine NilBr.mk (fun h=>?_) ?_|apply aJ|apply aI|refine aK (by kernel_rfl) ?_|apply aL|apply bC|apply bB|apply aO
     |((with_reducible first|apply aQ|apply aP|apply bA)<;>intro h<;>(try dsimp only[cu,eE,eN]at h)<;>(try(exfalso;omega)))
     |(
 intro yy (hy:Tag 11/\_)
 obtain⟨(k:Int),(C:List Int),_⟩:=yy
 replace hy:=hy.2
 dsimp only[cu,aB,aA,gts,eE,eN]at hy
 obtain⟨hk,hcl,hC⟩:=hy)))
 all_goals(
 with_reducible apply Leaf.mk
 (try dsimp only[cu,aB,aA,gts,eE,eN]at *)
 first
 |exact tU l
 |(
  have e:k.toNat=l.length:=by omega
  rw[e,List.take_of_length_le (by omega),List.take_of_length_le (Nat.le_of_eq (fU l))]at hC;exact hC)
 |(simp_all [bD,cP];done))
abbrev qQ6:Tbl:=(179,BU)::qQ5
theorem ZN:aC Tryz.prog qQ6:=aC.cons qF3 ZM
abbrev yL:Ct:=.fn [.int .i64] (some (fun(n:Int)=>(0<=n/\n<=4611686018427387904))) (fun(n:Int)=>.d (.int .i64) (wdN n))
theorem qDE:aG Tryz.prog 181 yL:=by
 refine aG.fn ZN mixed [] [] rfl rfl ?_;rintro⟨(n:Int),_⟩ hpre;replace hpre:=hpre _ rfl;dsimp only[cu]at hpre;have hn:=hpre;refine⟨[],?_⟩;repeat' (first
  |(
 with_reducible apply Side.mk
 (try dsimp only[cu,aB,aA,gts,loK,hiK,eE,eN])
 first
 |omega
 |(
  have:cI (n-1) 0<=4611686018427387904/\0<=cI (n-1) 0:=by unfold cI;split<;>omega
  rw[aS (by omega)];omega))
  |(conv=>whnf
    first
     |with_reducible first|done|exact trivial|refine NilBr.mk (fun h=>?_) ?_|apply aJ|apply aI|refine aK (by kernel_rfl) ?_|apply aL|apply bC|apply bB|apply aO
     |((with_reducible first|apply aQ|apply aP|apply bA)<;>intro h<;>(try dsimp only[cu,eE,eN]at h)<;>(try(exfalso;omega)))))
 all_goals(
 with_reducible apply Leaf.mk
 (try dsimp only[cu,aB,aA,gts,eE,eN]at *)
 (
  have:cI (n-1) 0<=4611686018427387904/\0<=cI (n-1) 0:=by unfold cI;split<;>omega
  rw[aS (by omega)];rfl))
abbrev qQ7:Tbl:=(181,yL)::qQ6
theorem ZO:aC Tryz.prog qQ7:=aC.cons qDE ZN
abbrev yM:Ct:=.fn [.list .str] (some (fun(l:List ByteArray)=>(∀w,w∈l->w.size<=1073741824)/\(l.length<=1073741824))) (fun(l:List ByteArray)=>.d .str (kT l))
theorem qDH:aG Tryz.prog 153 yM:=by
 refine aG.fn ZO mixed [(0,4,3000005)] [] rfl rfl ?_;rintro⟨(l:List ByteArray),_⟩ hpre;replace hpre:=hpre _ rfl;dsimp only[cu]at hpre;obtain⟨hb,hl⟩:=hpre;refine⟨[(0,12,LA.mk [.sl 28 (.int .i64),.lst 5 (.int .u8) 5] (fun y=>Tag 12/\cu [.int .i64,.list (.int .u8)] (fun(k:Int) (M:List Int)=>(0<=k/\k<=(bD l).length)/\(aN M=tD (aN (put ((bD l).length:Int))) ((bD l).take k.toNat))) y) (cu [.int .i64,.list (.int .u8)] (fun(k:Int) (M:List Int)=>(((bD l).length:Int)-k).toNat)) (cu [.int .i64,.list (.int .u8)] (fun(k:Int) (M:List Int)=>([]:List (Nat×Nat×LA))))),(0,26,LA.mk [.sl 47 (.int .i64),.ar 1 (.int .u64) 86] (fun y=>Tag 13/\cu [.int .i64,.list (.int .u64)] (fun(k:Int) (C:List Int)=>(0<=k/\k<=(cP l).length)/\(C.length=(cP l).length)/\(C.take k.toNat=(cP l).take k.toNat)) y) (cu [.int .i64,.list (.int .u64)] (fun(k:Int) (C:List Int)=>(((cP l).length:Int)-k).toNat)) (cu [.int .i64,.list (.int .u64)] (fun(k:Int) (C:List Int)=>([]:List (Nat×Nat×LA)))))],?_⟩;repeat' (first
  |(
 with_reducible refine Side.mk ⟨(⟨⟩:Tag 12),?_⟩
 dsimp only[cu,aB,aA,gts,eE,eN]
 refine⟨?_,?_⟩
 ·omega
 ·first
  |rw[aS (by have:=dH l;omega),bE];rfl
  |(
  have hw:=dH l
  have hsz:=wP hb k.toNat
  rw[DM (by omega),bU,bU,hM,bE,bE,aS (by omega),ByteArray.append_assoc]))
  |(
 with_reducible refine Side.mk ⟨(⟨⟩:Tag 13),?_⟩
 dsimp only[cu,aB,aA,gts,eE,eN]
 refine⟨?_,?_,?_⟩
 ·omega
 ·first
  |simp;done
  |simp;omega
 ·first
  |rfl
  |(
  have hc:=rW l k.toNat
  rw[show(k+1).toNat=k.toNat+1 by omega,FG _ _ _ (by omega),hC,aS (by omega),List.take_succ_eq_append_getElem (by omega),getElem!_pos _ k.toNat (by omega)]))
  |(
 with_reducible apply Side.mk
 (try dsimp only[cu,aB,aA,gts,loK,hiK,eE,eN])
 first
 |done
 |omega
 |(
  have:=dH l;omega)
 |exact hE _
 |rw[aZ];done
 |(
  have hp2:=aY (IntKind.u64.wrap ((bD l).length:Int));rw[aZ,bO];omega)
 |(
  have hw:=dH l;have hsz:=wP hb k.toNat;have hm:=congrArg ByteArray.size hM;rw[bO]at hm;have ht:=nF (v:=((bD l).length:Int)) (k:=k.toNat) hb (by omega);have hp:=aY ((bD l)[k.toNat]!.size:Int);have hp2:=aY (IntKind.u64.wrap ((bD l)[k.toNat]!.size:Int));(try simp only[bO,aZ,List.length_append]);omega)
 |(
  have:=fU l;omega)
 |(
  have e:=IT hcl hC (by assumption);subst e;refine⟨fun i=>?_,by rw[fU];omega⟩;have:=rW l i;omega)
 |(
  have hm:=congrArg ByteArray.size hM;rw[List.take_of_length_le (by omega)]at hm;have ht:=nF (v:=((bD l).length:Int)) (k:=(bD l).length) hb (by omega);rw[List.take_of_length_le (by omega)]at ht;have:=iU C (wdN ((bD l).length:Int));omega))
  |(conv=>whnf
    first
     |with_reducible first|done|exact trivial|refine NilBr.mk (fun h=>?_) ?_|apply aJ|apply aI|refine aK (by kernel_rfl) ?_|apply aL|apply bC|apply bB|apply aO
     |((with_reducible first|apply aQ|apply aP|apply bA)<;>intro h<;>(try dsimp only[cu,eE,eN]at h)<;>(try(exfalso;omega)))
     |(
 intro yy (hy:Tag 12/\_)
 obtain⟨(k:Int),(M:List Int),_⟩:=yy
 replace hy:=hy.2
 dsimp only[cu,aB,aA,gts,eE,eN]at hy
 obtain⟨hk,hM⟩:=hy)
     |(
 intro yy (hy:Tag 13/\_)
 obtain⟨(k:Int),(C:List Int),_⟩:=yy
 replace hy:=hy.2
 dsimp only[cu,aB,aA,gts,eE,eN]at hy
 obtain⟨hk,hcl,hC⟩:=hy)))
 all_goals(
 with_reducible apply Leaf.mk
 (try dsimp only[cu,aB,aA,gts,eE,eN]at *)
 first
 |(
  have e0:l.length>4096:=by omega
  rw[kT,if_pos e0])
 |(
  have e:=IT hcl hC (by assumption);subst e;rw[kT,if_neg (by omega),hM,List.take_of_length_le (by omega)]))
abbrev qQ8:Tbl:=(153,yM)::qQ7
theorem ZP:aC Tryz.prog qQ8:=aC.cons qDH ZO
abbrev vB:Ct:=.fn [.list .str] (some (fun(l:List ByteArray)=>(∀w,w∈l->w.size<=1073741824)/\(l.length<=1073741824))) (fun(l:List ByteArray)=>.d .str (kT l))
theorem VX:aG Tryz.prog 157 vB:=by
 refine aG.fn ZP mixed [] [] rfl rfl ?_;rintro⟨(l:List ByteArray),_⟩ hpre;replace hpre:=hpre _ rfl;dsimp only[cu]at hpre;obtain⟨hb,hl⟩:=hpre;refine⟨[(0,12,LA.mk [.sl 27 (.int .i64),.sl 5 .str] (fun y=>Tag 14/\cu [.int .i64,.str] (fun(k:Int) (x:ByteArray)=>(0<=k/\k<=(bD l).length)/\(x=tD (aN (put ((bD l).length:Int))) ((bD l).take k.toNat))) y) (cu [.int .i64,.str] (fun(k:Int) (x:ByteArray)=>(((bD l).length:Int)-k).toNat)) (cu [.int .i64,.str] (fun(k:Int) (x:ByteArray)=>([]:List (Nat×Nat×LA))))),(0,28,LA.mk [.sl 46 (.int .i64),.lst 8 (.int .u64) 86] (fun y=>Tag 15/\cu [.int .i64,.list (.int .u64)] (fun(k:Int) (C:List Int)=>(0<=k/\k<=(cP l).length)/\(C=(cP l).take k.toNat)) y) (cu [.int .i64,.list (.int .u64)] (fun(k:Int) (C:List Int)=>(((cP l).length:Int)-k).toNat)) (cu [.int .i64,.list (.int .u64)] (fun(k:Int) (C:List Int)=>([]:List (Nat×Nat×LA)))))],?_⟩;repeat' (first
  |(
 with_reducible refine Side.mk ⟨(⟨⟩:Tag 14),?_⟩
 dsimp only[cu,aB,aA,gts,eE,eN]
 refine⟨?_,?_⟩
 ·omega
 ·first
  |rw[aS (by have:=dH l;omega)];rfl
  |(
  have hw:=dH l
  have hsz:=wP hb k.toNat
  rw[DM (by omega),hM,aS (by omega)]))
  |(
 with_reducible refine Side.mk ⟨(⟨⟩:Tag 15),?_⟩
 dsimp only[cu,aB,aA,gts,eE,eN]
 refine⟨?_,?_⟩
 ·omega
 ·first
  |rfl
  |(
  have hc:=rW l k.toNat
  rw[show(k+1).toNat=k.toNat+1 by omega,hC,aS (by omega),List.take_succ_eq_append_getElem (by omega),getElem!_pos _ k.toNat (by omega)]))
  |(
 with_reducible apply Side.mk
 (try dsimp only[cu,aB,aA,gts,loK,hiK,eE,eN])
 first
 |done
 |omega
 |exact Eq.refl _
 |(
  have:=dH l;omega)
 |exact hE _
 |(
  have hcl:=congrArg List.length hC;simp only[List.length_take,List.length_cons,List.length_nil]at hcl ⊢;have:=fU l;omega)
 |(
  have e:C=cP l:=by rw[hC,List.take_of_length_le (by omega)]
  subst e;refine⟨fun i=>?_,by rw[fU];omega⟩;have:=rW l i;omega)
 |(
  have hm:=congrArg ByteArray.size hM;first
  |(
   have ht:=nF (v:=((bD l).length:Int)) (k:=k.toNat) hb (by omega);have hp:=aY (IntKind.u64.wrap ((bD l)[k.toNat]!.size:Int));have hsz:=wP hb k.toNat;simp only[ByteArray.size_append,bO];omega)
  |(
   rw[List.take_of_length_le (by omega)]at hm;have ht:=nF (v:=((bD l).length:Int)) (k:=(bD l).length) hb (by omega);rw[List.take_of_length_le (by omega)]at ht;have hpk:=iU C (mK (IntKind.u64.wrap ((bD l).length-1)));omega)))
  |(conv=>whnf
    first
     |with_reducible first|done|exact trivial|refine NilBr.mk (fun h=>?_) ?_|apply aJ|apply aI|refine aK (by kernel_rfl) ?_|apply aL|apply bC|apply bB|apply aO
     |((with_reducible first|apply aQ|apply aP|apply bA)<;>intro h<;>(try dsimp only[cu,eE,eN]at h)<;>(try(exfalso;omega)))
     |(
 intro yy (hy:Tag 14/\_)
 obtain⟨(k:Int),(x:ByteArray),_⟩:=yy
 replace hy:=hy.2
 dsimp only[cu,aB,aA,gts,eE,eN]at hy
 obtain⟨hk,hM⟩:=hy)
     |(
 intro yy (hy:Tag 15/\_)
 obtain⟨(k:Int),(C:List Int),_⟩:=yy
 replace hy:=hy.2
 dsimp only[cu,aB,aA,gts,eE,eN]at hy
 obtain⟨hk,hC⟩:=hy)))
 all_goals(
 with_reducible apply Leaf.mk
 (try dsimp only[cu,aB,aA,gts,eE,eN]at *)
 first
 |(
  have e0:l.length>4096:=by omega
  rw[kT,if_pos e0])
 |rw[kT,if_neg (by omega),hM,qGT (List.length_eq_zero_iff.1 (by omega)),FX,List.take_of_length_le (by omega)]
 |(
  rw[kT,if_neg (by omega),hM,List.take_of_length_le (by omega),hC,List.take_of_length_le (by omega),aS (by have:=dH l;omega)];rw[wdN,show cI ((bD l).length-1) 0=(bD l).length-1 by(unfold cI;split<;>omega)]))
abbrev qQ9:Tbl:=(157,vB)::qQ8
theorem ZQ:aC Tryz.prog qQ9:=aC.cons VX ZP
theorem NR (l:List Int) (j:Nat):@getElem! (List Int) Nat Int _ _ (instInhabitedDen (.int .u64)) l j=l[j]!:=rfl
theorem TJ {s:ByteArray} {n w:Int} (h:(AU s n w).2=0):(AU s n w).1.length=n.toNat:=by
 unfold AU at h ⊢;split at h
 ·exact absurd h (by decide)
 ·rename_i h1
  rw[if_neg h1];split at h
  ·exact absurd h (by decide)
  ·rename_i h2
   rw[if_neg h2];split at h
   ·exact absurd h (by decide)
   ·rename_i h3
    rw[if_neg h3];split at h
    ·exact absurd h (by decide)
    ·rename_i h4
     rw[if_neg h4,kF]
theorem map_take {W:List ByteArray} {u:List Int} {i:Int} (h:0<=i/\i<u.length):(u.take (i+1).toNat).map (fun c=>W[c.toNat]!)=(u.take i.toNat).map (fun c=>W[c.toNat]!)++ [W[u[i.toNat]!.toNat]!]:=by
 rw[show(i+1).toNat=i.toNat+1 by omega,List.take_succ_eq_append_getElem (by omega),<-getElem!_pos u i.toNat (by omega),List.map_append];rfl
abbrev EMP:ByteArray:=⟨#[]⟩
def cB (t:Int):Bool:=decide (1<=t)&&decide (t<=5)
def cH (t:Int) (v:Val):Bool:=
 if t=2 then decide (v.2.1=0)||decide (v.2.1=1)else if t=4 then decide (-719162<=v.2.1)&&decide (v.2.1<=2932896)
 else if t=5 then decide (-999999999999999999<=v.2.1)&&decide (v.2.1<=999999999999999999)else if t=3 then decide (v.2.2.size<=64)else true
def bK (c:Col) (v:Val):Int:=
 if cB c.2.1=false then 1 else if(v.1=true\/c.2.1≠3)/\v.2.2≠EMP then 11 else if(v.1=true\/c.2.1=3)/\v.2.1≠0 then 11
 else if v.1=true/\c.2.2.2=false then 12 else if v.1=false/\cH c.2.1 v=false then 4 else 0
def gT (a b:Int):Int:=if a<b then -1 else if a>b then 1 else 0
def lW (a b:ByteArray):Int:=if dO a b then -1 else if a=b then 0 else 1
def cT (t:Int) (a b:Val):Int:=
 if a.1=true/\b.1=true then 0 else if a.1=true then -1 else if b.1=true then 1 else if t=3 then lW a.2.2 b.2.2 else gT a.2.1 b.2.1
theorem wJ {s:ByteArray} (h:¬s=⟨#[]⟩):0<s.size:=by
 rcases Nat.eq_zero_or_pos s.size with q|q
 ·exfalso;apply h
  apply ByteArray.ext;exact Array.eq_empty_of_size_eq_zero q
 ·exact q
abbrev BX:Ct:=.fn [.int .i64] (none) (fun(t:Int)=>.d .bool (cB t))
theorem qHI:aG Tryz.prog 148 BX:=by
 refine aG.fn ZQ mixed [] [] rfl rfl ?_;rintro⟨(t:Int),_⟩ -;refine⟨[],?_⟩;repeat' (first
  |(
 with_reducible apply Side.mk
 (try dsimp only[cu,aB,aA,gts,loK,hiK,eE,eN])
 done)
  |(conv=>whnf
    first
     |with_reducible first|done|exact trivial|refine NilBr.mk (fun h=>?_) ?_|apply aJ|apply aI|refine aK (by kernel_rfl) ?_|apply aL|apply bC|apply bB|apply aO
     |((with_reducible first|apply aQ|apply aP|apply bA)<;>intro h<;>(try dsimp only[cu,eE,eN]at h)<;>(try(exfalso;omega)))))
 all_goals(
 with_reducible apply Leaf.mk
 (try dsimp only[cu,aB,aA,gts,eE,eN]at *)
 grind [cB])
abbrev qRA:Tbl:=(148,BX)::qQ9
theorem ZR:aC Tryz.prog qRA:=aC.cons qHI ZQ
abbrev qM:Ct:=.fn [.int .i64,bQ] (none) (fun(t:Int) (v:Val)=>.d .bool (cH t v))
theorem MV:aG Tryz.prog 149 qM:=by
 refine aG.fn ZR mixed [] [] rfl rfl ?_;rintro⟨(t:Int),(v:Val),_⟩ -;refine⟨[],?_⟩;repeat' (first
  |(
 with_reducible apply Side.mk
 (try dsimp only[cu,aB,aA,gts,loK,hiK,eE,eN])
 done)
  |(conv=>whnf
    first
     |with_reducible first|done|exact trivial|refine NilBr.mk (fun h=>?_) ?_|apply aJ|apply aI|refine aK (by kernel_rfl) ?_|apply aL|apply bC|apply bB|apply aO
     |((with_reducible first|apply aQ|apply aP|apply bA)<;>intro h<;>(try dsimp only[cu,eE,eN]at h)<;>(try(exfalso;omega)))))
 all_goals(
 with_reducible apply Leaf.mk
 (try dsimp only[cu,aB,aA,gts,eE,eN]at *)
 grind [cH])
abbrev qRB:Tbl:=(149,qM)::qRA
theorem ZS:aC Tryz.prog qRB:=aC.cons MV ZR
abbrev yY:Ct:=.fn [uI,bQ] (none) (fun(c:Col) (v:Val)=>.d (.int .i64) (bK c v))
theorem qEW:aG Tryz.prog 108 yY:=by
 refine aG.fn ZS mixed [] [] rfl rfl ?_;rintro⟨(c:Col),(v:Val),_⟩ -;refine⟨[],?_⟩;repeat' (first
  |(
 with_reducible apply Side.mk
 (try dsimp only[cu,aB,aA,gts,loK,hiK,eE,eN])
 done)
  |(conv=>whnf
    first
     |with_reducible first|done|exact trivial|refine NilBr.mk (fun h=>?_) ?_|apply aJ|apply aI|refine aK (by kernel_rfl) ?_|apply aL|apply bC|apply bB|apply aO
     |((with_reducible first|apply aQ|apply aP|apply bA)<;>intro h<;>(try dsimp only[cu,eE,eN]at h)<;>(try(exfalso;omega)))))
 all_goals(
 with_reducible apply Leaf.mk
 (try dsimp only[cu,aB,aA,gts,eE,eN]at *)
 grind [bK,cB,cH,cT,gT])
abbrev qRC:Tbl:=(108,yY)::qRB
theorem ZT:aC Tryz.prog qRC:=aC.cons qEW ZS
abbrev yN:Ct:=.fn [.str] (none) (fun(a:ByteArray)=>.d .bool false)
theorem qDN:aG Tryz.prog 185 yN:=by
 refine aG.fn ZT mixed [] [] rfl rfl ?_;rintro⟨(a:ByteArray),_⟩ -;refine⟨[],?_⟩;repeat' (first
  |(
 with_reducible apply Side.mk
 (try dsimp only[cu,aB,aA,gts,loK,hiK,eE,eN])
 done)
  |(conv=>whnf
    first
     |with_reducible first|done|exact trivial|refine NilBr.mk (fun h=>?_) ?_|apply aJ|apply aI|refine aK (by kernel_rfl) ?_|apply aL|apply bC|apply bB|apply aO
     |((with_reducible first|apply aQ|apply aP|apply bA)<;>intro h<;>(try dsimp only[cu,eE,eN]at h)<;>(try(exfalso;omega)))))
 all_goals(
 with_reducible apply Leaf.mk
 (try dsimp only[cu,aB,aA,gts,eE,eN]at *)
 simp)
abbrev qRD:Tbl:=(185,yN)::qRC
theorem ZU:aC Tryz.prog qRD:=aC.cons qDN ZT
abbrev uV:Ct:=.fn [.int .i64] (none) (fun(a:Int)=>.d .bool false)
theorem UT:aG Tryz.prog 162 uV:=by
 refine aG.fn ZU mixed [] [] rfl rfl ?_;rintro⟨(a:Int),_⟩ -;refine⟨[],?_⟩;repeat' (first
  |(
 with_reducible apply Side.mk
 (try dsimp only[cu,aB,aA,gts,loK,hiK,eE,eN])
 done)
  |(conv=>whnf
    first
     |with_reducible first|done|exact trivial|refine NilBr.mk (fun h=>?_) ?_|apply aJ|apply aI|refine aK (by kernel_rfl) ?_|apply aL|apply bC|apply bB|apply aO
     |((with_reducible first|apply aQ|apply aP|apply bA)<;>intro h<;>(try dsimp only[cu,eE,eN]at h)<;>(try(exfalso;omega)))))
 all_goals(
 with_reducible apply Leaf.mk
 (try dsimp only[cu,aB,aA,gts,eE,eN]at *)
 simp)
abbrev qRE:Tbl:=(162,uV)::qRD
theorem ZV:aC Tryz.prog qRE:=aC.cons UT ZU
abbrev BV:Ct:=.fn [.int .i64,.int .i64] (none) (fun(a:Int) (b:Int)=>.d (.int .i64) (gT a b))
theorem qF5:aG Tryz.prog 132 BV:=by
 refine aG.fn ZV mixed [] [] rfl rfl ?_;rintro⟨(a:Int),(b:Int),_⟩ -;refine⟨[],?_⟩;repeat' (first
  |(
 with_reducible apply Side.mk
 (try dsimp only[cu,aB,aA,gts,loK,hiK,eE,eN])
 done)
  |(conv=>whnf
    first
     |with_reducible first|done|exact trivial|refine NilBr.mk (fun h=>?_) ?_|apply aJ|apply aI|refine aK (by kernel_rfl) ?_|apply aL|apply bC|apply bB|apply aO
     |((with_reducible first|apply aQ|apply aP|apply bA)<;>intro h<;>(try dsimp only[cu,eE,eN]at h)<;>(try(exfalso;omega)))))
 all_goals(
 with_reducible apply Leaf.mk
 (try dsimp only[cu,aB,aA,gts,eE,eN]at *)
 grind [bK,cB,cH,cT,gT])
abbrev qRF:Tbl:=(132,BV)::qRE
theorem ZW:aC Tryz.prog qRF:=aC.cons qF5 ZV
abbrev HC:Ct:=.fn [.str,.str] (none) (fun(a:ByteArray) (b:ByteArray)=>.d (.int .i64) (lW a b))
theorem qKG:aG Tryz.prog 161 HC:=by
 refine aG.fn ZW mixed [] [] rfl rfl ?_;rintro⟨(a:ByteArray),(b:ByteArray),_⟩ -;refine⟨[],?_⟩;repeat' (first
  |(
 with_reducible apply Side.mk
 (try dsimp only[cu,aB,aA,gts,loK,hiK,eE,eN])
 done)
  |(conv=>whnf
    first
     |with_reducible first|done|exact trivial|refine NilBr.mk (fun h=>?_) ?_|apply aJ|apply aI|refine aK (by kernel_rfl) ?_|apply aL|apply bC|apply bB|apply aO
     |((with_reducible first|apply aQ|apply aP|apply bA)<;>intro h<;>(try dsimp only[cu,eE,eN]at h)<;>(try(exfalso;omega)))))
 all_goals(
 with_reducible apply Leaf.mk
 (try dsimp only[cu,aB,aA,gts,eE,eN]at *)
 grind [lW])
abbrev qRG:Tbl:=(161,HC)::qRF
theorem ZX:aC Tryz.prog qRG:=aC.cons qKG ZW
abbrev tB:Ct:=.fn [.int .i64,bQ,bQ] (none) (fun(t:Int) (a:Val) (b:Val)=>.d (.int .i64) (cT t a b))
theorem TL:aG Tryz.prog 131 tB:=by
 refine aG.fn ZX mixed [] [] rfl rfl ?_;rintro⟨(t:Int),(a:Val),(b:Val),_⟩ -;refine⟨[],?_⟩;repeat' (first
  |(
 with_reducible apply Side.mk
 (try dsimp only[cu,aB,aA,gts,loK,hiK,eE,eN])
 done)
  |(conv=>whnf
    first
     |with_reducible first|done|exact trivial|refine NilBr.mk (fun h=>?_) ?_|apply aJ|apply aI|refine aK (by kernel_rfl) ?_|apply aL|apply bC|apply bB|apply aO
     |((with_reducible first|apply aQ|apply aP|apply bA)<;>intro h<;>(try dsimp only[cu,eE,eN]at h)<;>(try(exfalso;omega)))))
 all_goals(
 with_reducible apply Leaf.mk
 (try dsimp only[cu,aB,aA,gts,eE,eN]at *)
 grind [bK,cB,cH,cT,gT])
abbrev qRH:Tbl:=(131,tB)::qRG
theorem ZY:aC Tryz.prog qRH:=aC.cons TL ZX
abbrev CW:Ct:=.fn [.int .i64] (none) (fun(t:Int)=>.d .bool (cB t))
theorem qJR:aG Tryz.prog 54 CW:=by
 refine aG.fn ZY mixed [] [] rfl rfl ?_;rintro⟨(t:Int),_⟩ -;refine⟨[],?_⟩;repeat' (first
  |(
 with_reducible apply Side.mk
 (try dsimp only[cu,aB,aA,gts,loK,hiK,eE,eN])
 done)
  |(conv=>whnf
    first
     |with_reducible first|done|exact trivial|refine NilBr.mk (fun h=>?_) ?_|apply aJ|apply aI|refine aK (by kernel_rfl) ?_|apply aL|apply bC|apply bB|apply aO
     |((with_reducible first|apply aQ|apply aP|apply bA)<;>intro h<;>(try dsimp only[cu,eE,eN]at h)<;>(try(exfalso;omega)))))
 all_goals(
 with_reducible apply Leaf.mk
 (try dsimp only[cu,aB,aA,gts,eE,eN]at *)
 grind [cB])
abbrev qRI:Tbl:=(54,CW)::qRH
theorem ZZ:aC Tryz.prog qRI:=aC.cons qJR ZY
abbrev yQ:Ct:=.fn [uI,bQ] (none) (fun(c:Col) (v:Val)=>.d (.int .i64) (bK c v))
theorem qDZ:aG Tryz.prog 81 yQ:=by
 refine aG.fn ZZ mixed [] [] rfl rfl ?_;rintro⟨(c:Col),(v:Val),_⟩ -;refine⟨[],?_⟩;repeat' (first
  |(
 with_reducible apply Side.mk
 (try dsimp only[cu,aB,aA,gts,loK,hiK,eE,eN])
 done)
  |(conv=>whnf
    first
     |with_reducible first|done|exact trivial|refine NilBr.mk (fun h=>?_) ?_|apply aJ|apply aI|refine aK (by kernel_rfl) ?_|apply aL|apply bC|apply bB|apply aO
     |((with_reducible first|apply aQ|apply aP|apply bA)<;>intro h<;>(try dsimp only[cu,eE,eN]at h)<;>(try(exfalso;omega)))))
 all_goals(
 with_reducible apply Leaf.mk
 (try dsimp only[cu,aB,aA,gts,eE,eN]at *)
 grind [bK,cB,cH,cT,gT])
abbrev qRJ:Tbl:=(81,yQ)::qRI
theorem qAA:aC Tryz.prog qRJ:=aC.cons qDZ ZZ
abbrev CC:Ct:=.fn [.bool,.bool] (none) (fun(l:Bool) (e:Bool)=>.d (.int .i64) (if l=true then -1 else if e=true then 0 else 1))
theorem qHU:aG Tryz.prog 154 CC:=by
 refine aG.fn qAA mixed [] [] rfl rfl ?_;rintro⟨(l:Bool),(e:Bool),_⟩ -;refine⟨[],?_⟩;repeat' (first
  |(
 with_reducible apply Side.mk
 (try dsimp only[cu,aB,aA,gts,loK,hiK,eE,eN])
 done)
  |(conv=>whnf
    first
     |with_reducible first|done|exact trivial|refine NilBr.mk (fun h=>?_) ?_|apply aJ|apply aI|refine aK (by kernel_rfl) ?_|apply aL|apply bC|apply bB|apply aO
     |((with_reducible first|apply aQ|apply aP|apply bA)<;>intro h<;>(try dsimp only[cu,eE,eN]at h)<;>(try(exfalso;omega)))))
 all_goals(
 with_reducible apply Leaf.mk
 (try dsimp only[cu,aB,aA,gts,eE,eN]at *)
 simp_all)
abbrev qRK:Tbl:=(154,CC)::qRJ
theorem qAB:aC Tryz.prog qRK:=aC.cons qHU qAA
abbrev tA:Ct:=.fn [.int .i64,bQ,bQ] (none) (fun(t:Int) (a:Val) (b:Val)=>.d (.int .i64) (cT t a b))
theorem QY:aG Tryz.prog 117 tA:=by
 refine aG.fn qAB mixed [] [] rfl rfl ?_;rintro⟨(t:Int),(a:Val),(b:Val),_⟩ -;refine⟨[],?_⟩;repeat' (first
  |(
 with_reducible apply Side.mk
 (try dsimp only[cu,aB,aA,gts,loK,hiK,eE,eN])
 done)
  |(conv=>whnf
    first
     |with_reducible first|done|exact trivial|refine NilBr.mk (fun h=>?_) ?_|apply aJ|apply aI|refine aK (by kernel_rfl) ?_|apply aL|apply bC|apply bB|apply aO
     |((with_reducible first|apply aQ|apply aP|apply bA)<;>intro h<;>(try dsimp only[cu,eE,eN]at h)<;>(try(exfalso;omega)))))
 all_goals(
 with_reducible apply Leaf.mk
 (try dsimp only[cu,aB,aA,gts,eE,eN]at *)
 grind [cT,gT,lW])
abbrev qRL:Tbl:=(117,tA)::qRK
theorem qAC:aC Tryz.prog qRL:=aC.cons QY qAB
def rnd (v:Int):Int:=qG .u32 (lK .u32 v 1) (IntKind.u32.wrap (2197175160*uP .u32 v 1))
def GI:Nat->Int->Int
 |0,v=>v
 |n+1,v=>GI n (rnd v)
theorem qMG {v:Int} (h:uP .u32 v 1=1):rnd v=qG .u32 (lK .u32 v 1) 2197175160:=by
 unfold rnd;rw[h];rfl
theorem qIQ {v:Int} (hv:0<=v/\v<4294967296) (h:¬uP .u32 v 1=1):rnd v=lK .u32 v 1:=by
 have h0:uP .u32 v 1=0:=by rw[qP2 hv]at h ⊢;omega
 unfold rnd;rw[h0,show IntKind.u32.wrap (2197175160*0)=0 from rfl,qP5 (by simpa using ZH hv 1)]
theorem xX {k v:Int} (h:0<=k/\k<8):GI (8-k).toNat v=GI (8-(k+1)).toNat (rnd v):=by
 rw[show(8-k).toNat=(8-(k+1)).toNat+1 by omega];rfl
def tV:List Int:=(List.range 256).map fun i:Nat=>GI 8 (i:Int)
def cstep (t:List Int) (v b:Int):Int:=qG .u32 (lK .u32 v 8) t[(qG .u8 (IntKind.u8.wrap v) b).toNat]!
def bnot (v:Int):Int:=qG .u32 (-1) v
def NN (t:List Int) (s:ByteArray):Int:=if t.length=256 then bnot ((bH s).foldl (cstep t) 4294967295)else 0
def qGD (s:ByteArray):Int:=NN tV s
theorem JA {t:List Int} {s:ByteArray} {k v:Int} (h:0<=k/\k<s.size):((bH s).drop k.toNat).foldl (cstep t) v=((bH s).drop (k+1).toNat).foldl (cstep t) (cstep t v (cZ s k.toNat)):=by
 rw[bJ (bH s) k (by rw[aZ];exact h),List.foldl_cons,FH]
abbrev IJ:Ct:=.fn [.list (.int .u32),.int .u32,.int .u8] (some (fun(t:List Int) (v:Int) (b:Int)=>(t.length=256))) (fun(t:List Int) (v:Int) (b:Int)=>.d (.int .u32) (cstep t v b))
theorem qMR:aG Tryz.prog 116 IJ:=by
 refine aG.fn qAC mixed [] [] rfl rfl ?_;rintro⟨(t:List Int),(v:Int),(b:Int),_⟩ hpre;replace hpre:=hpre _ rfl;dsimp only[cu]at hpre;have ht:=hpre;refine⟨[],?_⟩;repeat' (first
  |(
 with_reducible apply Side.mk
 (try dsimp only[cu,aB,aA,gts,loK,hiK,eE,eN])
 first
 |omega
 |(have hx:=WZ (IntKind.u8.wrap v) b;omega))
  |(conv=>whnf
    first
     |with_reducible first|done|exact trivial|refine NilBr.mk (fun h=>?_) ?_|apply aJ|apply aI|refine aK (by kernel_rfl) ?_|apply aL|apply bC|apply bB|apply aO
     |((with_reducible first|apply aQ|apply aP|apply bA)<;>intro h<;>(try dsimp only[cu,eE,eN]at h)<;>(try(exfalso;omega)))))
 all_goals(
 with_reducible apply Leaf.mk
 (try dsimp only[cu,aB,aA,gts,eE,eN]at *)
 rfl)
abbrev qRM:Tbl:=(116,IJ)::qRL
theorem qAD:aC Tryz.prog qRM:=aC.cons qMR qAC
abbrev OW:Ct:=.fn [.list (.int .u32),.str] (some (fun(t:List Int) (s:ByteArray)=>(s.size<=9223372036854775807))) (fun(t:List Int) (s:ByteArray)=>.d (.int .u32) (NN t s))
theorem qPQ:aG Tryz.prog 70 OW:=by
 refine aG.fn qAD mixed [] [] rfl rfl ?_;rintro⟨(t:List Int),(s:ByteArray),_⟩ hpre;replace hpre:=hpre _ rfl;dsimp only[cu]at hpre;have hs:=hpre;refine⟨[(0,10,LA.mk [.sl 12 (.int .i64),.sl 5 (.int .u32)] (fun y=>Tag 16/\cu [.int .i64,.int .u32] (fun(k:Int) (v:Int)=>(0<=k/\k<=s.size)/\(((bH s).drop k.toNat).foldl (cstep t) v=(bH s).foldl (cstep t) 4294967295)) y) (cu [.int .i64,.int .u32] (fun(k:Int) (v:Int)=>((s.size:Int)-k).toNat)) (cu [.int .i64,.int .u32] (fun(k:Int) (v:Int)=>([]:List (Nat×Nat×LA)))))],?_⟩;repeat' (first
  |(
 with_reducible refine Side.mk ⟨(⟨⟩:Tag 16),?_⟩
 dsimp only[cu,aB,aA,gts,eE,eN]
 refine⟨?_,?_⟩
 ·omega
 ·first
  |simp;done
  |(rw[<-hv,JA (k:=k) (v:=v) (by omega)];(try rfl)))
  |(
 with_reducible apply Side.mk
 (try dsimp only[cu,aB,aA,gts,loK,hiK,eE,eN])
 omega)
  |(conv=>whnf
    first
     |with_reducible first|done|exact trivial|refine NilBr.mk (fun h=>?_) ?_|apply aJ|apply aI|refine aK (by kernel_rfl) ?_|apply aL|apply bC|apply bB|apply aO
     |((with_reducible first|apply aQ|apply aP|apply bA)<;>intro h<;>(try dsimp only[cu,eE,eN]at h)<;>(try(exfalso;omega)))
     |(
 intro yy (hy:Tag 16/\_)
 obtain⟨(k:Int),(v:Int),_⟩:=yy
 replace hy:=hy.2
 dsimp only[cu,aB,aA,gts,eE,eN]at hy
 obtain⟨hk,hv⟩:=hy)))
 all_goals(
 with_reducible apply Leaf.mk
 (try dsimp only[cu,aB,aA,gts,eE,eN]at *)
 first
 |(
  have h256:¬t.length=256:=by omega
  rw[NN,if_neg h256])
 |(
  have h256:t.length=256:=by omega
  rw[NN,if_pos h256,<-hv,List.drop_eq_nil_of_le (by rw[aZ];omega)];rfl))
abbrev qRN:Tbl:=(70,OW)::qRM
theorem qAE:aC Tryz.prog qRN:=aC.cons qPQ qAD
abbrev IF:Ct:=.fn [.list (.int .u32),.str] (some (fun(t:List Int) (s:ByteArray)=>(s.size<=9223372036854775807))) (fun(t:List Int) (s:ByteArray)=>.d (.int .u32) (NN t s))
theorem qML:aG Tryz.prog 85 IF:=by
 refine aG.fn qAE mixed [] [] rfl rfl ?_;rintro⟨(t:List Int),(s:ByteArray),_⟩ hpre;replace hpre:=hpre _ rfl;dsimp only[cu]at hpre;have hs:=hpre;refine⟨[(0,10,LA.mk [.sl 6 (.int .i64),.sl 5 (.int .u32)] (fun y=>Tag 17/\cu [.int .i64,.int .u32] (fun(k:Int) (v:Int)=>(0<=k/\k<=s.size)/\(((bH s).drop k.toNat).foldl (cstep t) v=(bH s).foldl (cstep t) 4294967295)) y) (cu [.int .i64,.int .u32] (fun(k:Int) (v:Int)=>((s.size:Int)-k).toNat)) (cu [.int .i64,.int .u32] (fun(k:Int) (v:Int)=>([]:List (Nat×Nat×LA)))))],?_⟩;repeat' (first
  |(
 with_reducible refine Side.mk ⟨(⟨⟩:Tag 17),?_⟩
 dsimp only[cu,aB,aA,gts,eE,eN]
 refine⟨?_,?_⟩
 ·omega
 ·first
  |simp;done
  |(rw[<-hv,JA (k:=k) (v:=v) (by omega)];(try rfl)))
  |(
 with_reducible apply Side.mk
 (try dsimp only[cu,aB,aA,gts,loK,hiK,eE,eN])
 first
 |omega
 |(have hx:=WZ (IntKind.u8.wrap v) (cZ s k.toNat);omega))
  |(conv=>whnf
    first
     |with_reducible first|done|exact trivial|refine NilBr.mk (fun h=>?_) ?_|apply aJ|apply aI|refine aK (by kernel_rfl) ?_|apply aL|apply bC|apply bB|apply aO
     |((with_reducible first|apply aQ|apply aP|apply bA)<;>intro h<;>(try dsimp only[cu,eE,eN]at h)<;>(try(exfalso;omega)))
     |(
 intro yy (hy:Tag 17/\_)
 obtain⟨(k:Int),(v:Int),_⟩:=yy
 replace hy:=hy.2
 dsimp only[cu,aB,aA,gts,eE,eN]at hy
 obtain⟨hk,hv⟩:=hy)))
 all_goals(
 with_reducible apply Leaf.mk
 (try dsimp only[cu,aB,aA,gts,eE,eN]at *)
 first
 |(
  have h256:¬t.length=256:=by omega
  rw[NN,if_neg h256])
 |(
  have h256:t.length=256:=by omega
  rw[NN,if_pos h256,<-hv,List.drop_eq_nil_of_le (by rw[aZ];omega)];rfl))
abbrev qRO:Tbl:=(85,IF)::qRN
theorem qAF:aC Tryz.prog qRO:=aC.cons qML qAE
abbrev CV:Ct:=.fn [] (none) (.d (.list (.int .u32)) tV)
theorem SK:aG Tryz.prog 71 CV:=by
 refine aG.fn qAF mixed [(0,5,1)] [] rfl rfl ?_;rintro⟨⟩ -;refine⟨[(0,6,LA.mk [.sl 7 (.int .i64),.ar 0 (.int .u32) 80] (fun y=>Tag 18/\cu [.int .i64,.list (.int .u32)] (fun(k:Int) (M:List Int)=>(0<=k/\k<=256)/\(M.length=256)/\(M.take k.toNat=(List.range k.toNat).map (fun i:Nat=>GI 8 (i:Int)))) y) (cu [.int .i64,.list (.int .u32)] (fun(k:Int) (M:List Int)=>((256:Int)-k).toNat)) (cu [.int .i64,.list (.int .u32)] (fun(k:Int) (M:List Int)=>([(0,14,LA.mk [.sl 12 (.int .i64),.sl 3 (.int .u32)] (fun y=>Tag 19/\cu [.int .i64,.int .u32] (fun(j:Int) (v:Int)=>(0<=j/\j<=8)/\(GI (8-j).toNat v=GI 8 k)) y) (cu [.int .i64,.int .u32] (fun(j:Int) (v:Int)=>((8:Int)-j).toNat)) (cu [.int .i64,.int .u32] (fun(j:Int) (v:Int)=>([]:List (Nat×Nat×LA)))))]:List (Nat×Nat×LA)))))],?_⟩;repeat' (first
  |(
 with_reducible refine Side.mk ⟨(⟨⟩:Tag 18),?_⟩
 dsimp only[cu,aB,aA,gts,eE,eN]
 refine⟨?_,?_,?_⟩
 ·omega
 ·first
  |simp;done
  |simp;omega
 ·first
  |simp;done
  |(
  rw[show(k+1).toNat=k.toNat+1 by omega,FG _ _ _ (by omega),hm,List.range_succ,List.map_append]
  simp only[List.map_cons,List.map_nil]
  rw[show((k.toNat:Nat):Int)=k by omega,<-hj,show(8-j).toNat=0 by omega]
  rfl))
  |(
 with_reducible refine Side.mk ⟨(⟨⟩:Tag 19),?_⟩
 dsimp only[cu,aB,aA,gts,eE,eN]
 refine⟨?_,?_⟩
 ·omega
 ·first
  |rfl
  |(rw[<-hj,xX (k:=j) (v:=v) (by omega)];(try rfl)))
  |(
 with_reducible apply Side.mk
 (try dsimp only[cu,aB,aA,gts,loK,hiK,eE,eN])
 omega)
  |(conv=>whnf
    first
     |with_reducible first|done|exact trivial|refine NilBr.mk (fun h=>?_) ?_|apply aJ|apply aI|refine aK (by kernel_rfl) ?_|apply aL|apply bC|apply bB|apply aO
     |((with_reducible first|apply aQ|apply aP|apply bA)<;>intro h<;>(try dsimp only[cu,eE,eN]at h)<;>(try(exfalso;omega)))
     |(
 intro yy (hy:Tag 18/\_)
 obtain⟨(k:Int),(M:List Int),_⟩:=yy
 replace hy:=hy.2
 dsimp only[cu,aB,aA,gts,eE,eN]at hy
 obtain⟨hk,hl,hm⟩:=hy)
     |(
 intro yy (hy:Tag 19/\_)
 obtain⟨(j:Int),(v:Int),_⟩:=yy
 replace hy:=hy.2
 dsimp only[cu,aB,aA,gts,eE,eN]at hy
 obtain⟨hj,hj⟩:=hy)))
 all_goals(
 with_reducible apply Leaf.mk
 (try dsimp only[cu,aB,aA,gts,eE,eN]at *)
 (
  rw[show k.toNat=256 by omega,List.take_of_length_le (by omega)]at hm;exact hm))
abbrev qRP:Tbl:=(71,CV)::qRO
theorem qAG:aC Tryz.prog qRP:=aC.cons SK qAF
abbrev yU:Ct:=.fn [] (none) (.d (.list (.int .u32)) tV)
theorem KN:aG Tryz.prog 86 yU:=by
 refine aG.fn qAG mixed [(0,4,1)] [] rfl rfl ?_;rintro⟨⟩ -;refine⟨[(0,6,LA.mk [.sl 2 (.int .u32),.lst 1 (.int .u32) 80] (fun y=>Tag 20/\cu [.int .u32,.list (.int .u32)] (fun(k:Int) (M:List Int)=>(0<=k/\k<=256)/\(M=(List.range k.toNat).map (fun i:Nat=>GI 8 (i:Int)))) y) (cu [.int .u32,.list (.int .u32)] (fun(k:Int) (M:List Int)=>(256-k).toNat)) (cu [.int .u32,.list (.int .u32)] (fun(k:Int) (M:List Int)=>([(0,14,LA.mk [.sl 4 (.int .i64),.sl 3 (.int .u32)] (fun y=>Tag 21/\cu [.int .i64,.int .u32] (fun(j:Int) (v:Int)=>(0<=j/\j<=8)/\(0<=v/\v<4294967296)/\(GI (8-j).toNat v=GI 8 k)) y) (cu [.int .i64,.int .u32] (fun(j:Int) (v:Int)=>((8:Int)-j).toNat)) (cu [.int .i64,.int .u32] (fun(j:Int) (v:Int)=>([]:List (Nat×Nat×LA)))))]:List (Nat×Nat×LA)))))],?_⟩;repeat' (first
  |(
 with_reducible refine Side.mk ⟨(⟨⟩:Tag 20),?_⟩
 dsimp only[cu,aB,aA,gts,eE,eN]
 refine⟨?_,?_⟩
 ·omega
 ·first
  |simp;done
  |(
  rw[show(k+1).toNat=k.toNat+1 by omega,List.range_succ,List.map_append,hm]
  simp only[List.map_cons,List.map_nil]
  rw[show((k.toNat:Nat):Int)=k by omega,<-hj,show(8-j).toNat=0 by omega]
  rfl))
  |(
 with_reducible refine Side.mk ⟨(⟨⟩:Tag 21),?_⟩
 dsimp only[cu,aB,aA,gts,eE,eN]
 refine⟨?_,?_,?_⟩
 ·omega
 ·first
  |omega
  |exact qFS _ _
  |(simpa using ZH (by assumption) 1)
 ·first
  |rfl
  |rw[<-hj,xX (k:=j) (v:=v) (by omega),qMG (by assumption)]
  |(rw[<-hj,xX (k:=j) (v:=v) (by omega),qIQ (by assumption) (by assumption)]))
  |(
 with_reducible apply Side.mk
 (try dsimp only[cu,aB,aA,gts,loK,hiK,eE,eN])
 first
 |done
 |omega
 |exact Eq.refl _
 |(
  have hml:M.length=k.toNat:=by rw[hm];simp
  simp only[List.length_cons,List.length_nil];omega))
  |(conv=>whnf
    first
     |with_reducible first|done|exact trivial|refine NilBr.mk (fun h=>?_) ?_|apply aJ|apply aI|refine aK (by kernel_rfl) ?_|apply aL|apply bC|apply bB|apply aO
     |((with_reducible first|apply aQ|apply aP|apply bA)<;>intro h<;>(try dsimp only[cu,eE,eN]at h)<;>(try(exfalso;omega)))
     |(
 intro yy (hy:Tag 20/\_)
 obtain⟨(k:Int),(M:List Int),_⟩:=yy
 replace hy:=hy.2
 dsimp only[cu,aB,aA,gts,eE,eN]at hy
 obtain⟨hk,hm⟩:=hy)
     |(
 intro yy (hy:Tag 21/\_)
 obtain⟨(j:Int),(v:Int),_⟩:=yy
 replace hy:=hy.2
 dsimp only[cu,aB,aA,gts,eE,eN]at hy
 obtain⟨hj,hv,hj⟩:=hy)))
 all_goals(
 with_reducible apply Leaf.mk
 (try dsimp only[cu,aB,aA,gts,eE,eN]at *)
 (
  rw[show k.toNat=256 by omega]at hm;exact hm))
abbrev qRQ:Tbl:=(86,yU)::qRP
theorem qAH:aC Tryz.prog qRQ:=aC.cons KN qAG
abbrev IC:Ct:=.fn [.str] (some (fun(s:ByteArray)=>(s.size<=9223372036854775807))) (fun(s:ByteArray)=>.d (.int .u32) (qGD s))
theorem qMD:aG Tryz.prog 46 IC:=by
 refine aG.fn qAH mixed [] [] rfl rfl ?_;rintro⟨(s:ByteArray),_⟩ hpre;replace hpre:=hpre _ rfl;dsimp only[cu]at hpre;have hs:=hpre;refine⟨[],?_⟩;repeat' (first
  |(
 with_reducible apply Side.mk
 (try dsimp only[cu,aB,aA,gts,loK,hiK,eE,eN])
 omega)
  |(conv=>whnf
    first
     |with_reducible first|done|exact trivial|refine NilBr.mk (fun h=>?_) ?_|apply aJ|apply aI|refine aK (by kernel_rfl) ?_|apply aL|apply bC|apply bB|apply aO
     |((with_reducible first|apply aQ|apply aP|apply bA)<;>intro h<;>(try dsimp only[cu,eE,eN]at h)<;>(try(exfalso;omega)))))
 all_goals(
 with_reducible apply Leaf.mk
 (try dsimp only[cu,aB,aA,gts,eE,eN]at *)
 rfl)
abbrev qRR:Tbl:=(46,IC)::qRQ
theorem qAI:aC Tryz.prog qRR:=aC.cons qMD qAH
def fB (l:List Bool) (q:Nat):Int:=if l[q]! =true then 1 else 0
theorem qQC (l:List Bool):GW (fB l):=fun q=>by unfold fB;split<;>simp
def zM (l:List Bool):ByteArray:=aN (gL (fB l) l.length 8 (((l.length:Int)+7).tdiv 8).toNat)
theorem oE {n:Int} (h:0<=n):n.tdiv 8=n/8:=Int.tdiv_eq_ediv_of_nonneg h
theorem qB8 {n:Int} (h:0<=n):n.tmod 8=n%8:=Int.tmod_eq_emod_of_nonneg h
abbrev CB:Ct:=.fn [.list .bool] (some (fun(l:List Bool)=>(l.length<=1073741824))) (fun(l:List Bool)=>.d .str (zM l))
theorem qHQ:aG Tryz.prog 112 CB:=by
 refine aG.fn qAI mixed [] [] rfl rfl ?_;rintro⟨(l:List Bool),_⟩ hpre;replace hpre:=hpre _ rfl;dsimp only[cu]at hpre;have hl:=hpre;refine⟨[(0,6,LA.mk [.sl 13 (.int .i64),.ar 0 (.int .u8) 5] (fun y=>Tag 22/\cu [.int .i64,.list (.int .u8)] (fun(k:Int) (O:List Int)=>(0<=k/\k<=l.length)/\(O=gL (fB l) k.toNat 8 (((l.length:Int)+7).tdiv 8).toNat)) y) (cu [.int .i64,.list (.int .u8)] (fun(k:Int) (O:List Int)=>((l.length:Int)-k).toNat)) (cu [.int .i64,.list (.int .u8)] (fun(k:Int) (O:List Int)=>([]:List (Nat×Nat×LA)))))],?_⟩;repeat' (first
  |(
 with_reducible refine Side.mk ⟨(⟨⟩:Tag 22),?_⟩
 dsimp only[cu,aB,aA,gts,eE,eN]
 refine⟨?_,?_⟩
 ·omega
 ·first
  |exact(AM _ _ _).symm
  |(
  rw[hO]
  have hd1:=oE (n:=k) (by omega)
  have hd2:=oE (n:=(l.length:Int)+7) (by omega)
  have hk:l[k.toNat]! =true:=by first|assumption|(simp_all;done)
  refine vW (qQC _) (by omega) (by omega) ?_ rfl rfl
  rw[fB,if_pos hk])
  |(
  rw[hO,show(k+1).toNat=k.toNat+1 by omega]
  have hk:¬l[k.toNat]! =true:=by first|assumption|(simp_all;done)
  refine MH (by decide) ?_
  rw[fB,if_neg hk]))
  |(
 with_reducible apply Side.mk
 (try dsimp only[cu,aB,aA,gts,loK,hiK,eE,eN])
 first
 |omega
 |(
  have hd1:=oE (n:=k) (by omega);have hd2:=oE (n:=(l.length:Int)+7) (by omega);omega)
 |rw[oE (by omega)];omega
 |rw[qB8 (by omega)];omega
 |rw[hO,kF,oE (by omega),oE (by omega)];omega
 |(simp only[hO,kF];done))
  |(conv=>whnf
    first
     |with_reducible first|done|exact trivial|refine NilBr.mk (fun h=>?_) ?_|apply aJ|apply aI|refine aK (by kernel_rfl) ?_|apply aL|apply bC|apply bB|apply aO
     |((with_reducible first|apply aQ|apply aP|apply bA)<;>intro h<;>(try dsimp only[cu,eE,eN]at h)<;>(try(exfalso;omega)))
     |(
 intro yy (hy:Tag 22/\_)
 obtain⟨(k:Int),(O:List Int),_⟩:=yy
 replace hy:=hy.2
 dsimp only[cu,aB,aA,gts,eE,eN]at hy
 obtain⟨hk,hO⟩:=hy)))
 all_goals(
 with_reducible apply Leaf.mk
 (try dsimp only[cu,aB,aA,gts,eE,eN]at *)
 (rw[hO,show k.toNat=l.length by omega];rfl))
abbrev qRS:Tbl:=(112,CB)::qRR
theorem qAJ:aC Tryz.prog qRS:=aC.cons qHQ qAI
abbrev yS:Ct:=.fn [.list .bool] (some (fun(l:List Bool)=>(l.length<=1073741824))) (fun(l:List Bool)=>.d .str (zM l))
theorem qD9:aG Tryz.prog 120 yS:=by
 refine aG.fn qAJ mixed [] [] rfl rfl ?_;rintro⟨(l:List Bool),_⟩ hpre;replace hpre:=hpre _ rfl;dsimp only[cu]at hpre;have hl:=hpre;refine⟨[(0,6,LA.mk [.sl 13 (.int .i64),.ar 0 (.int .u8) 5] (fun y=>Tag 23/\cu [.int .i64,.list (.int .u8)] (fun(k:Int) (O:List Int)=>(0<=k/\k<=l.length)/\(O=gL (fB l) k.toNat 8 (((l.length:Int)+7).tdiv 8).toNat)) y) (cu [.int .i64,.list (.int .u8)] (fun(k:Int) (O:List Int)=>((l.length:Int)-k).toNat)) (cu [.int .i64,.list (.int .u8)] (fun(k:Int) (O:List Int)=>([]:List (Nat×Nat×LA)))))],?_⟩;repeat' (first
  |(
 with_reducible refine Side.mk ⟨(⟨⟩:Tag 23),?_⟩
 dsimp only[cu,aB,aA,gts,eE,eN]
 refine⟨?_,?_⟩
 ·omega
 ·first
  |exact(AM _ _ _).symm
  |(
  rw[hO]
  rw[aS (n:=k.tmod 8) (by rw[qB8 (by omega)];omega)]
  have hd1:=oE (n:=k) (by omega)
  have hd2:=oE (n:=(l.length:Int)+7) (by omega)
  have hk:l[k.toNat]! =true:=by first|assumption|(simp_all;done)
  refine vW (qQC _) (by omega) (by omega) ?_ rfl rfl
  rw[fB,if_pos hk])
  |(
  rw[hO,show(k+1).toNat=k.toNat+1 by omega]
  have hk:¬l[k.toNat]! =true:=by first|assumption|(simp_all;done)
  refine MH (by decide) ?_
  rw[fB,if_neg hk]))
  |(
 with_reducible apply Side.mk
 (try dsimp only[cu,aB,aA,gts,loK,hiK,eE,eN])
 first
 |omega
 |(
  have hd1:=oE (n:=k) (by omega);have hd2:=oE (n:=(l.length:Int)+7) (by omega);omega)
 |rw[oE (by omega)];omega
 |rw[hO,kF,oE (by omega),oE (by omega)];omega
 |(
  rw[aS (n:=k.tmod 8) (by rw[qB8 (by omega)];omega)];rw[qB8 (by omega)];omega)
 |(simp only[hO,kF];done))
  |(conv=>whnf
    first
     |with_reducible first|done|exact trivial|refine NilBr.mk (fun h=>?_) ?_|apply aJ|apply aI|refine aK (by kernel_rfl) ?_|apply aL|apply bC|apply bB|apply aO
     |((with_reducible first|apply aQ|apply aP|apply bA)<;>intro h<;>(try dsimp only[cu,eE,eN]at h)<;>(try(exfalso;omega)))
     |(
 intro yy (hy:Tag 23/\_)
 obtain⟨(k:Int),(O:List Int),_⟩:=yy
 replace hy:=hy.2
 dsimp only[cu,aB,aA,gts,eE,eN]at hy
 obtain⟨hk,hO⟩:=hy)))
 all_goals(
 with_reducible apply Leaf.mk
 (try dsimp only[cu,aB,aA,gts,eE,eN]at *)
 (rw[hO,show k.toNat=l.length by omega];rfl))
abbrev qRT:Tbl:=(120,yS)::qRS
theorem qAK:aC Tryz.prog qRT:=aC.cons qD9 qAJ
def inI (n:Int):Prop:=-9223372036854775808<=n/\n<=9223372036854775807
def fE (n:Int):Int:=if n<0 then(-(n+1))*2+1 else n*2
def qTX (v:Int):Int:=if v%2=1 then -(v/2)-1 else v/2
theorem kX {n:Int} (h:inI n):0<=fE n/\fE n<18446744073709551616:=by unfold inI at h;unfold fE;split<;>omega
theorem qTN {a:Int} (h:0<=a/\a<18446744073709551616):qG .u64 a 0=a:=by
 unfold qG;rw[show BitVec.ofInt IntKind.u64.bits 0=0#IntKind.u64.bits from rfl,BitVec.xor_zero,BitVec.toNat_ofInt];have:((a%((2^IntKind.u64.bits:Nat):Int)).toNat:Int)=a:=by
  simp [IntKind.bits];omega
 rw[this,aS h]
theorem qTO {a:Int} (h:0<=a/\a<18446744073709551616):qG .u64 a 18446744073709551615=18446744073709551615-a:=by
 unfold qG;rw[show BitVec.ofInt IntKind.u64.bits 18446744073709551615=BitVec.allOnes IntKind.u64.bits from rfl,BitVec.xor_allOnes,BitVec.toNat_not,BitVec.toNat_ofInt];have e:((a%((2^IntKind.u64.bits:Nat):Int)).toNat:Int)=a:=by
  simp [IntKind.bits];omega
 have e2:(2:Nat)^IntKind.u64.bits=18446744073709551616:=rfl;have e3:((2^IntKind.u64.bits-1-(a%((2^IntKind.u64.bits:Nat):Int)).toNat:Nat):Int)=18446744073709551615-a:=by
  rw[e2]at e ⊢;omega
 rw[e3,aS (by omega)]
theorem qOZ {a:Int} (h:inI a):IntKind.i64.wrap a=a:=by unfold inI at h;simp [IntKind.wrap,IntKind.bits,IntKind.signed];omega
theorem qPY {n:Int} (h:inI n):qG .u64 (IntKind.u64.wrap (rL .i64 n 1)) (IntKind.u64.wrap (lK .i64 n 63))=fE n:=by
 have h1:lK .i64 n 63=n/9223372036854775808:=by
  unfold lK;rw[show min ((63:Int).toNat) IntKind.i64.bits=63 from rfl,show((2:Int)^63)=9223372036854775808 from rfl,Int.fdiv_eq_ediv_of_nonneg _ (by decide)]
 have h2:IntKind.u64.wrap (rL .i64 n 1)=IntKind.u64.wrap (2*n):=by
  unfold rL;rw[show min ((1:Int).toNat) IntKind.i64.bits=1 from rfl,show((2:Int)^1)=2 from rfl];simp [IntKind.wrap,IntKind.bits,IntKind.signed];omega
 unfold inI at h;rw[h1,h2];unfold fE;split
 ·rw[show n/9223372036854775808 = -1 by omega,show IntKind.u64.wrap (-1)=18446744073709551615 from rfl,qTO (hE _)]
  simp [IntKind.wrap,IntKind.bits,IntKind.signed];omega
 ·rw[show n/9223372036854775808=0 by omega,show IntKind.u64.wrap 0=0 from rfl,qTN (hE _),aS (by omega)];omega
abbrev OY:Ct:=.fn [.int .i64] (some (fun(n:Int)=>(inI n))) (fun(n:Int)=>.d (.int .u64) (fE n))
theorem qPZ:aG Tryz.prog 150 OY:=by
 refine aG.fn qAK mixed [] [] rfl rfl ?_;rintro⟨(n:Int),_⟩ hpre;replace hpre:=hpre _ rfl;dsimp only[cu]at hpre;have hn:=hpre;refine⟨[],?_⟩;repeat' (first
  |(
 with_reducible apply Side.mk
 (try dsimp only[cu,aB,aA,gts,loK,hiK,eE,eN])
 omega)
  |(conv=>whnf
    first
     |with_reducible first|done|exact trivial|refine NilBr.mk (fun h=>?_) ?_|apply aJ|apply aI|refine aK (by kernel_rfl) ?_|apply aL|apply bC|apply bB|apply aO
     |((with_reducible first|apply aQ|apply aP|apply bA)<;>intro h<;>(try dsimp only[cu,eE,eN]at h)<;>(try(exfalso;omega)))))
 all_goals(
 with_reducible apply Leaf.mk
 (try dsimp only[cu,aB,aA,gts,eE,eN]at *)
 exact qPY hn)
abbrev qRU:Tbl:=(150,OY)::qRT
theorem qAL:aC Tryz.prog qRU:=aC.cons qPZ qAK
abbrev IG:Ct:=.fn [.int .i64] (some (fun(n:Int)=>(inI n))) (fun(n:Int)=>.d (.int .u64) (fE n))
theorem qMM:aG Tryz.prog 122 IG:=by
 refine aG.fn qAL mixed [] [] rfl rfl ?_;rintro⟨(n:Int),_⟩ hpre;replace hpre:=hpre _ rfl;dsimp only[cu]at hpre;have hn:=hpre;unfold inI at hn;refine⟨[],?_⟩;repeat' (first
  |(
 with_reducible apply Side.mk
 (try dsimp only[cu,aB,aA,gts,loK,hiK,eE,eN])
 omega)
  |(conv=>whnf
    first
     |with_reducible first|done|exact trivial|refine NilBr.mk (fun h=>?_) ?_|apply aJ|apply aI|refine aK (by kernel_rfl) ?_|apply aL|apply bC|apply bB|apply aO
     |((with_reducible first|apply aQ|apply aP|apply bA)<;>intro h<;>(try dsimp only[cu,eE,eN]at h)<;>(try(exfalso;omega)))))
 all_goals(
 with_reducible apply Leaf.mk
 (try dsimp only[cu,aB,aA,gts,eE,eN]at *)
 first
 |(
  have q:¬n<0:=by assumption
  rw[fE,if_neg q,aS (n:=n) (by omega),aS (by omega)])
 |(
  have q:n<0:=by assumption
  rw[fE,if_pos q,qOZ (a:=0-(n+1)) (by unfold inI;omega),aS (n:=0-(n+1)) (by omega),aS (n:=(0-(n+1))*2) (by omega),aS (by omega)];show(_:Int)=_;omega))
abbrev qRV:Tbl:=(122,IG)::qRU
theorem qAM:aC Tryz.prog qRV:=aC.cons qMM qAL
def fO (v:Int):List Int->Nat
 | []=>0
 |x::l=>if x=v then fO v l+1 else 0
theorem mW (v:Int):∀l:List Int,fO v l<=l.length
 | []=>Nat.le_refl _
 |x::l=>by
  have:=mW v l;unfold fO;split<;>simp<;>omega
theorem xY {v:Int}:∀ {l:List Int} {m:Nat},m<=l.length->(∀j,j<m->l[j]! =v)->(m=l.length\/¬l[m]! =v)->fO v l=m
 | [],m,h,_,_=>by simp at h;subst h;rfl
 |x::l,0,_,_,h=>by
  rcases h with h|h
  ·simp at h
  ·unfold fO;rw[if_neg (by simpa using h)]
 |x::l,m+1,h,h1,h2=>by
  have h0:x=v:=by simpa using h1 0 (by omega)
  unfold fO;rw[if_pos h0,xY (m:=m) (by simpa using h) (fun j hj=>by simpa using h1 (j+1) (by omega)) (by simpa using h2)]
def runs:List Int->List (Int×Int)
 | []=>[]
 |v::l=>((fO v l:Int)+1,v)::runs (l.drop (fO v l))
termination_by l=>l.length
decreasing_by simp;omega
theorem qR (l:List Int) (a j:Nat):(l.drop a)[j]! =l[a+j]!:=by
 simp [List.getElem!_eq_getElem?_getD,List.getElem?_drop]
theorem qED {l:List Int} {i k:Int} (h:0<=i/\i<k/\k<=l.length) (he:∀j:Nat,i<=j->(j:Int)<k->l[j]! =l[i.toNat]!) (hn:k=l.length\/¬l[k.toNat]! =l[i.toNat]!) :
  runs (l.drop i.toNat)=(k-i,l[i.toNat]!)::runs (l.drop k.toNat):=by
 have e:fO l[i.toNat]! (l.drop (i+1).toNat)=(k-i-1).toNat:=by
  refine xY (by simp;omega) (fun j hj=>?_) ?_
  ·rw[qR];exact he _ (by omega) (by omega)
  ·rcases hn with q|q
   ·left;simp;omega
   ·right;rw[qR,show(i+1).toNat+(k-i-1).toNat=k.toNat by omega];exact q
 rw[bJ l i (by omega),runs,e,List.drop_drop,show(i+1).toNat+(k-i-1).toNat=k.toNat by omega,show(((k-i-1).toNat:Nat):Int)+1=k-i by omega]
def GA:List (Int×Int)->List Int
 | []=>[]
 |(n,v)::r=>put n++(put (fE v)++GA r)
def mG (l:List Int):ByteArray:=aN (GA (runs l))
theorem pK {l:List Int} (h:∀x,x∈l->inI x) (k:Nat):inI l[k]!:=by
 by_cases q:k<l.length
 ·rw[getElem!_pos l k q];exact h _ (List.getElem_mem q)
 ·rw[getElem!_neg l k q];unfold inI;exact⟨by decide,by decide⟩
abbrev OV:Ct:=.fn [.list (.int .i64)] (some (fun(l:List Int)=>(1<=l.length/\l.length<=1073741824))) (fun(l:List Int)=>.d (.int .i64) ((fO l[0]! (l.drop 1):Int)+1))
theorem qPK:aG Tryz.prog 176 OV:=by
 refine aG.fn qAM mixed [] [] rfl rfl ?_;rintro⟨(l:List Int),_⟩ hpre;replace hpre:=hpre _ rfl;dsimp only[cu]at hpre;have hl:=hpre;refine⟨[(0,4,LA.mk [.sl 3 (.int .i64)] (fun y=>Tag 24/\cu [.int .i64] (fun(n:Int)=>(1<=n/\n<=l.length)/\(∀j:Nat,(j:Int)<n->l[j]! =l[0]!)) y) (cu [.int .i64] (fun(n:Int)=>((l.length:Int)-n).toNat)) (cu [.int .i64] (fun(n:Int)=>([]:List (Nat×Nat×LA)))))],?_⟩;repeat' (first
  |(
 with_reducible refine Side.mk ⟨(⟨⟩:Tag 24),?_⟩
 dsimp only[cu,aB,aA,gts,eE,eN]
 refine⟨?_,?_⟩
 ·omega
 ·first
  |(
  intro j hj
  first
  |rw[show j=0 by omega]
  |(
   rcases Int.lt_or_le (j:Int) n with q|q
   ·exact he j q
   ·rw[show j=n.toNat by omega];first|assumption|(simp_all;done))))
  |(
 with_reducible apply Side.mk
 (try dsimp only[cu,aB,aA,gts,loK,hiK,eE,eN])
 omega)
  |(conv=>whnf
    first
     |with_reducible first|done|exact trivial|refine NilBr.mk (fun h=>?_) ?_|apply aJ|apply aI|refine aK (by kernel_rfl) ?_|apply aL|apply bC|apply bB|apply aO
     |((with_reducible first|apply aQ|apply aP|apply bA)<;>intro h<;>(try dsimp only[cu,eE,eN]at h)<;>(try(exfalso;omega)))
     |(
 intro yy (hy:Tag 24/\_)
 obtain⟨(n:Int),_⟩:=yy
 replace hy:=hy.2
 dsimp only[cu,aB,aA,gts,eE,eN]at hy
 obtain⟨hn,he⟩:=hy)))
 all_goals(
 with_reducible apply Leaf.mk
 (try dsimp only[cu,aB,aA,gts,eE,eN]at *)
 (
  have e:fO l[0]! (l.drop 1)=(n-1).toNat:=by
   refine xY (by simp;omega) (fun j hj=>by rw[qR];exact he _ (by omega)) ?_;first
   |(left;simp;omega)
   |(right;rw[qR,show 1+(n-1).toNat=n.toNat by omega];first|assumption|(simp_all;done))
  rw[e];show(_:Int)=_;omega))
abbrev qRW:Tbl:=(176,OV)::qRV
theorem qAN:aC Tryz.prog qRW:=aC.cons qPK qAM
abbrev CG:Ct:=.fn [.list (.int .i64)] (some (fun(l:List Int)=>(l.length<=1073741824)/\(∀x,x∈l->inI x))) (fun(l:List Int)=>.d .str (mG l))
theorem qIG:aG Tryz.prog 155 CG:=by
 refine aG.fn qAN mixed [] [] rfl rfl ?_;rintro⟨(l:List Int),_⟩ hpre;replace hpre:=hpre _ rfl;dsimp only[cu]at hpre;obtain⟨hl,hv⟩:=hpre;refine⟨[(0,6,LA.mk [.sl 4 (.int .i64),.sl 3 .str] (fun y=>Tag 25/\cu [.int .i64,.str] (fun(i:Int) (x:ByteArray)=>(0<=i/\i<=l.length)/\(mG l=x++aN (GA (runs (l.drop i.toNat))))/\((x.size:Int)<=20*i)) y) (cu [.int .i64,.str] (fun(i:Int) (x:ByteArray)=>((l.length:Int)-i).toNat)) (cu [.int .i64,.str] (fun(i:Int) (x:ByteArray)=>([(0,10,LA.mk [.sl 5 (.int .i64)] (fun y=>Tag 26/\cu [.int .i64] (fun(k:Int)=>(i<=k/\k<=l.length)/\(∀j:Nat,i<=j->(j:Int)<k->l[j]! =l[i.toNat]!)) y) (cu [.int .i64] (fun(k:Int)=>((l.length:Int)-k).toNat)) (cu [.int .i64] (fun(k:Int)=>([]:List (Nat×Nat×LA)))))]:List (Nat×Nat×LA)))))],?_⟩;repeat' (first
  |(
 with_reducible refine Side.mk ⟨(⟨⟩:Tag 25),?_⟩
 dsimp only[cu,aB,aA,gts,eE,eN]
 refine⟨?_,?_,?_⟩
 ·omega
 ·first
  |rw[show(⟨#[]⟩:ByteArray)=ByteArray.empty from rfl,ByteArray.empty_append];rfl
  |(
  have hik:i<k:=by
   rcases Int.lt_or_le i k with q|q
   ·exact q
   ·exfalso
    have e:k=i:=by omega
    subst e;first|omega|(simp_all;done)
  have hst:=qED (l:=l) (i:=i) (k:=k) (by omega) he (by first|(left;omega)|(right;assumption)|(right;simp_all;done))
  have p1:=aY (k-i)
  have p2:=aY (fE l[i.toNat]!)
  have hui:=aS (n:=k-i) (by omega)
  rw[hx,hst,GA,hui]
  simp only[bU,ByteArray.append_assoc])
 ·first
  |exact Int.le_refl _
  |(
  have hik:i<k:=by
   rcases Int.lt_or_le i k with q|q
   ·exact q
   ·exfalso
    have e:k=i:=by omega
    subst e;first|omega|(simp_all;done)
  have p1:=aY (k-i)
  have p2:=aY (fE l[i.toNat]!)
  have hui:=aS (n:=k-i) (by omega)
  simp only[ByteArray.size_append,bO,hui]
  omega))
  |(
 with_reducible refine Side.mk ⟨(⟨⟩:Tag 26),?_⟩
 dsimp only[cu,aB,aA,gts,eE,eN]
 refine⟨?_,?_⟩
 ·omega
 ·first
  |intro j h1 h2;omega
  |(
  intro j h1 h2
  rcases Int.lt_or_le (j:Int) k with q|q
  ·exact he j h1 q
  ·rw[show j=k.toNat by omega];first|assumption|(simp_all;done)))
  |(
 with_reducible apply Side.mk
 (try dsimp only[cu,aB,aA,gts,loK,hiK,eE,eN])
 first
 |omega
 |(
  have hik:i<k:=by
   rcases Int.lt_or_le i k with q|q
   ·exact q
   ·exfalso
    have e:k=i:=by omega
    subst e;first|omega|(simp_all;done)
  omega)
 |exact pK hv _
 |exact kX (pK hv _)
 |(
  have hui:=aS (n:=k-i) (by omega);omega)
 |(
  have hik:i<k:=by
   rcases Int.lt_or_le i k with q|q
   ·exact q
   ·exfalso
    have e:k=i:=by omega
    subst e;first|omega|(simp_all;done)
  have p1:=aY (k-i);have p2:=aY (fE l[i.toNat]!);have hui:=aS (n:=k-i) (by omega);simp only[ByteArray.size_append,bO,hui];omega))
  |(conv=>whnf
    first
     |with_reducible first|done|exact trivial|refine NilBr.mk (fun h=>?_) ?_|apply aJ|apply aI|refine aK (by kernel_rfl) ?_|apply aL|apply bC|apply bB|apply aO
     |((with_reducible first|apply aQ|apply aP|apply bA)<;>intro h<;>(try dsimp only[cu,eE,eN]at h)<;>(try(exfalso;omega)))
     |(
 intro yy (hy:Tag 25/\_)
 obtain⟨(i:Int),(x:ByteArray),_⟩:=yy
 replace hy:=hy.2
 dsimp only[cu,aB,aA,gts,eE,eN]at hy
 obtain⟨hi,hx,hz⟩:=hy)
     |(
 intro yy (hy:Tag 26/\_)
 obtain⟨(k:Int),_⟩:=yy
 replace hy:=hy.2
 dsimp only[cu,aB,aA,gts,eE,eN]at hy
 obtain⟨hk,he⟩:=hy)))
 all_goals(
 with_reducible apply Leaf.mk
 (try dsimp only[cu,aB,aA,gts,eE,eN]at *)
 (
  rw[hx,List.drop_eq_nil_of_le (by omega),runs,GA];show x=x++ByteArray.empty;simp))
abbrev qRX:Tbl:=(155,CG)::qRW
theorem qAO:aC Tryz.prog qRX:=aC.cons qIG qAN
def mnL:List Int->Int
 | []=>0
 |x::l=>l.foldl bX x
def mxL:List Int->Int
 | []=>0
 |x::l=>l.foldl cI x
theorem qLR (x:Int):∀l:List Int,l≠ []->mnL (l++ [x])=bX (mnL l) x
 | [],h=>absurd rfl h
 |y::l,_=>by simp [mnL]
theorem qMW {l:List Int} {k:Int} (h:1<=k/\k<l.length):l.take k.toNat≠ []:=by
 intro q;have:=congrArg List.length q;rw[List.length_take,List.length_nil]at this;omega
theorem wN {l:List Int} {k:Int} (h:0<=k/\k<l.length):l.take (k+1).toNat=l.take k.toNat++ [l[k.toNat]!]:=by
 rw[show(k+1).toNat=k.toNat+1 by omega,List.take_succ_eq_append_getElem (by omega),getElem!_pos l k.toNat (by omega)]
theorem qLS {l:List Int} {k:Int} (h:1<=k/\k<l.length):mnL (l.take (k+1).toNat)=bX (mnL (l.take k.toNat)) l[k.toNat]!:=by
 rw[wN (by omega),qLR _ _ (qMW h)]
theorem qJC {l:List Int} (h:1<=l.length):l.take (1:Int).toNat= [l[0]!]:=by
 cases l with
 |nil=>simp at h
 |cons x l=>rfl
def dW (s:ByteArray) (a:Int):Int:=cZ s (qW s a).2.1.toNat
def dE (s:ByteArray) (a k:Int):Int:=(qW s a).2.1+1+iM k (dW s a)
def dU (s:ByteArray) (a k:Int):List Int×Int:=AU (s.extract ((qW s a).2.1+1).toNat (dE s a k).toNat) k (dW s a)
def dL (s:ByteArray) (a:Int):Int:=qTX (qW s a).1
def dDs (s:ByteArray) (a k:Int):List Int:=(dU s a k).1.map fun v=>IntKind.i64.wrap (dL s a+v)
def dOk (s:ByteArray) (a k:Int):Bool:=decide ((dU s a k).2=0)&&decide (mnL (dU s a k).1=0)&&decide (mK (mxL (dU s a k).1)=dW s a)&&decide (mnL (dDs s a k)=dL s a)
def LL (s:ByteArray) (a k:Int):List Int×Int×Int:=
 if(qW s a).2.2≠0 then([],0,(qW s a).2.2)else if(qW s a).2.1=s.size then([],0,10)else if dW s a>64 then([],0,2)
 else if dE s a k>s.size then([],0,10)else if dOk s a k=false then([],0,2)else(dDs s a k,dE s a k,0)
theorem qOI {s:ByteArray} {a k:Int} (h:(dU s a k).2=0):(dU s a k).1.length=k.toNat:=TJ h
theorem qKM (s:ByteArray) (a k:Int):dOk s a k=true↔(dU s a k).2=0/\mnL (dU s a k).1=0/\mK (mxL (dU s a k).1)=dW s a/\mnL (dDs s a k)=dL s a:=by simp [dOk,and_assoc]
theorem qDW (k w:Int):0<=iM k w/\iM k w<=32768:=by
 unfold iM;split
 ·rename_i h
  have h1:=(oU k w).1 h;have h2:=YI h1;rw[Int.tdiv_eq_ediv_of_nonneg (by omega)];omega
 ·omega
abbrev CA:Ct:=.fn [.list (.int .i64)] (some (fun(l:List Int)=>(1<=l.length/\l.length<=1073741824))) (fun(l:List Int)=>.d (.int .i64) (mnL l))
theorem qHM:aG Tryz.prog 201 CA:=by
 refine aG.fn qAO mixed [] [] rfl rfl ?_;rintro⟨(l:List Int),_⟩ hpre;replace hpre:=hpre _ rfl;dsimp only[cu]at hpre;have hl:=hpre;refine⟨[(0,10,LA.mk [.sl 4 (.int .i64),.sl 3 (.int .i64)] (fun y=>Tag 27/\cu [.int .i64,.int .i64] (fun(i:Int) (m:Int)=>(1<=i/\i<=l.length)/\(m=mnL (l.take i.toNat))) y) (cu [.int .i64,.int .i64] (fun(i:Int) (m:Int)=>((l.length:Int)-i).toNat)) (cu [.int .i64,.int .i64] (fun(i:Int) (m:Int)=>([]:List (Nat×Nat×LA)))))],?_⟩;repeat' (first
  |(
 with_reducible refine Side.mk ⟨(⟨⟩:Tag 27),?_⟩
 dsimp only[cu,aB,aA,gts,eE,eN]
 refine⟨?_,?_⟩
 ·omega
 ·first
  |rw[qJC (by omega)];rfl
  |(
  (try simp only[NR])
  rw[hm,qLS (by omega)]))
  |(
 with_reducible apply Side.mk
 (try dsimp only[cu,aB,aA,gts,loK,hiK,eE,eN])
 omega)
  |(conv=>whnf
    first
     |with_reducible first|done|exact trivial|refine NilBr.mk (fun h=>?_) ?_|apply aJ|apply aI|refine aK (by kernel_rfl) ?_|apply aL|apply bC|apply bB|apply aO
     |((with_reducible first|apply aQ|apply aP|apply bA)<;>intro h<;>(try dsimp only[cu,eE,eN]at h)<;>(try(exfalso;omega)))
     |(
 intro yy (hy:Tag 27/\_)
 obtain⟨(i:Int),(m:Int),_⟩:=yy
 replace hy:=hy.2
 dsimp only[cu,aB,aA,gts,eE,eN]at hy
 obtain⟨hi,hm⟩:=hy)))
 all_goals(
 with_reducible apply Leaf.mk
 (try dsimp only[cu,aB,aA,gts,eE,eN]at *)
 rw[hm,List.take_of_length_le (by omega)])
abbrev qRY:Tbl:=(201,CA)::qRX
theorem qAP:aC Tryz.prog qRY:=aC.cons qHM qAO
def qQR (M:List Int):Int:=M[M.length-1]!
def qMT:Int->List Int->List Int
 |_,[]=>[]
 |x,d::r=>IntKind.i64.wrap (x+d)::qMT (IntKind.i64.wrap (x+d)) r
theorem SJ:∀(ds:List Int) (x:Int),(qMT x ds).length=ds.length
 | [],_=>rfl
 |d::r,x=>by simp [qMT,SJ r]
theorem qO0 {n:Int} {M:List Int} (h:(M.length:Int)<n):1<=bX 32 (n-(M.length:Int))/\bX 32 (n-(M.length:Int))<=32/\M.length+bX 32 (n-(M.length:Int))<=n:=by unfold bX;split<;>omega
theorem qKC {s:ByteArray} {a k:Int} (h:(LL s a k).2.2=0):(LL s a k).1.length=k.toNat/\0<=(LL s a k).2.1/\(LL s a k).2.1<=s.size:=by
 unfold LL at h ⊢;split at h
 ·exact absurd h (by assumption)
 ·rename_i h1
  rw[if_neg h1];split at h
  ·exact absurd h (by decide)
  ·rename_i h2
   rw[if_neg h2];split at h
   ·exact absurd h (by decide)
   ·rename_i h3
    rw[if_neg h3];split at h
    ·exact absurd h (by decide)
    ·rename_i h4
     rw[if_neg h4];split at h
     ·exact absurd h (by decide)
     ·rename_i h5
      rw[if_neg h5];have h6:=(qKM s a k).1 (by simpa using h5);have h7:=qOI h6.1;have h8:=qLC (Decidable.not_not.1 h1);have h9:=qDW k (dW s a);have h10:dE s a k=(qW s a).2.1+1+iM k (dW s a):=rfl;refine⟨by simp [dDs,h7],?_,?_⟩
      ·show 0<=dE s a k;omega
      ·show dE s a k<=s.size;omega
def dd (s:ByteArray) (n a:Int) (M:List Int):List Int×Int:=
 if h:(M.length:Int)<n then
  if h2:(LL s a (bX 32 (n-(M.length:Int)))).2.2=0 then dd s n (LL s a (bX 32 (n-(M.length:Int)))).2.1 (M++qMT (qQR M) (LL s a (bX 32 (n-(M.length:Int)))).1)
  else([],(LL s a (bX 32 (n-(M.length:Int)))).2.2)
 else if a<s.size then([],2)else(M,0)
termination_by (n-M.length).toNat
decreasing_by
 have:=qO0 h;have:=(qKC h2).1;simp only[List.length_append,SJ];omega
theorem fmin:∀(l:List Int) (x:Int),l.foldl bX x<=x/\(∀y,y∈l->l.foldl bX x<=y)/\(l.foldl bX x=x\/l.foldl bX x∈l)
 | [],x=>⟨Int.le_refl _,by simp,.inl rfl⟩
 |z::l,x=>by
  obtain⟨h1,h2,h3⟩:=fmin l (bX x z);have h4:bX x z<=x/\bX x z<=z/\(bX x z=x\/bX x z=z):=by unfold bX;split<;>omega
  refine⟨by rw[List.foldl_cons];omega,fun y hy=>?_,?_⟩
  ·rw[List.foldl_cons]
   rcases List.mem_cons.1 hy with q|q
   ·subst q;omega
   ·exact h2 y q
  ·rw[List.foldl_cons]
   rcases h3 with q|q
   ·rcases h4.2.2 with p|p
    ·left;rw[q,p]
    ·right;rw[q,p];simp
   ·right;simp [q]
theorem YD {l:List Int} (h:l≠ []):mnL l∈l:=by
 cases l with
 |nil=>exact absurd rfl h
 |cons x l=>
  obtain⟨h1,h2,h3⟩:=fmin l x;show List.foldl bX x l∈_;rcases h3 with q|q
  ·rw[q];simp
  ·simp [q]
def mwL (U:List Int):Int:=U.foldl (fun w v=>cI w (mK v)) 0
theorem qL2 {b:Bool} (h:(!b)=false):b=true:=by cases b<;>simp_all
end Go.Proofs.YtcjiefknhfhmkaaGreatDoor
