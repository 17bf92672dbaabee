import Derived.Test.YtcjiefknhfhmkaaGreatDoorRows
import Derived.Test.YtcjiefknhfhmkaaGreatDoorM06
namespace Go.Proofs.YtcjiefknhfhmkaaGreatDoor
open Go.Abs
set_option maxRecDepth 100000
set_option maxHeartbeats 4000000
set_option linter.unusedVariables false
set_option linter.unusedSimpArgs false
theorem eE {α β:Type _} (p:α×β):(p.1,p.2)=p:=rfl
theorem eN {α:Type _} (l:List α):[]++l=l:=rfl
theorem mixed:Tryz.prog.follows .mixedOrders=true:=by kernel_rfl
structure Tag (n:Nat):Prop where
@[reducible] instance:Inhabited Int:=instInhabitedDen (.int .i64)
@[reducible] instance:Inhabited Bool:=instInhabitedDen .bool
@[reducible] instance:Inhabited ByteArray:=instInhabitedDen .str
theorem qMD (n:Int):0<=IntKind.u8.wrap n/\IntKind.u8.wrap n<256:=by simp [IntKind.wrap,IntKind.bits,IntKind.signed];omega
theorem qI8 (n:Int):0<=IntKind.u32.wrap n/\IntKind.u32.wrap n<4294967296:=by simp [IntKind.wrap,IntKind.bits,IntKind.signed];omega
theorem gQ (n:Int):0<=IntKind.u64.wrap n/\IntKind.u64.wrap n<18446744073709551616:=by simp [IntKind.wrap,IntKind.bits,IntKind.signed];omega
theorem qI9 {n:Int} (h:0<=n/\n<256):IntKind.u8.wrap n=n:=by simp [IntKind.wrap,IntKind.bits,IntKind.signed];omega
theorem qO0 (n:Int):IntKind.u8.wrap n=n%256:=by simp [IntKind.wrap,IntKind.bits,IntKind.signed]
theorem MT {n:Int} (h:0<=n/\n<4294967296):IntKind.u32.wrap n=n:=by simp [IntKind.wrap,IntKind.bits,IntKind.signed];omega
theorem aT {n:Int} (h:0<=n/\n<18446744073709551616):IntKind.u64.wrap n=n:=by simp [IntKind.wrap,IntKind.bits,IntKind.signed];omega
theorem qIH (a:Int):kY .u64 a 7=a/128:=by
 have:min (7:Int).toNat IntKind.u64.bits=7:=by decide
 unfold kY;rw[this,Int.fdiv_eq_ediv_of_nonneg _ (by decide)];rfl
theorem qNQ {p:Nat->Bool} (h:(List.range 256).all p=true) {n:Int} (hn:0<=n/\n<256):p n.toNat=true:=
 List.all_eq_true.1 h _ (by simp;omega)
theorem qP3 {a:Int} (h:0<=a/\a<256):bOr .u8 a 128=a%128+128:=by
 have:=qNQ (p:=fun n=>decide (bOr .u8 (n:Int) 128=(n:Int)%128+128)) (by kernel_rfl) h;have:=of_decide_eq_true this;rwa [Int.toNat_of_nonneg h.1]at this
theorem WD (a b:Int):0<=qA .u8 a b/\qA .u8 a b<256:=qMD _
theorem qE1 (a b:Int):0<=qA .u32 a b/\qA .u32 a b<4294967296:=qI8 _
theorem qPC {a:Int} (h:0<=a/\a<4294967296):qA .u32 a 0=a:=by
 unfold qA;rw[show BitVec.ofInt IntKind.u32.bits 0=0#IntKind.u32.bits from rfl,BitVec.xor_zero];rw[BitVec.toNat_ofInt];have:((a%((2^IntKind.u32.bits:Nat):Int)).toNat:Int)=a:=by
  simp [IntKind.bits];omega
 rw[this,MT h]
theorem qPA {a:Int} (h:0<=a/\a<4294967296):uD .u32 a 1=a%2:=by
 unfold uD;have e1:(BitVec.ofInt IntKind.u32.bits a &&& BitVec.ofInt IntKind.u32.bits 1).toNat=(a%2).toNat:=by
  rw[BitVec.toNat_and,BitVec.toNat_ofInt,BitVec.toNat_ofInt];have:((1:Int)%((2^IntKind.u32.bits:Nat):Int)).toNat=1:=by decide
  rw[this,Nat.and_one_is_mod];simp [IntKind.bits];omega
 rw[e1,MT (by omega)];omega
theorem YL {a:Int} (h:0<=a/\a<4294967296) (n:Nat):0<=kY .u32 a n/\kY .u32 a n<4294967296:=by
 unfold kY;have hp:(0:Int)<2^(min ((n:Int)).toNat IntKind.u32.bits):=Int.pow_pos (by decide);rw[Int.fdiv_eq_ediv_of_nonneg _ (by omega)];exact⟨Int.ediv_nonneg h.1 (by omega),Int.lt_of_le_of_lt (Int.ediv_le_self _ h.1) h.2⟩
theorem FA {α:Type} (l:List α) (k:Nat) (v:α) (h:k<l.length):(l.set k v).take (k+1)=l.take k++ [v]:=by
 apply List.ext_getElem?;intro i;rw[List.getElem?_take,List.getElem?_append,List.getElem?_take];simp only[List.length_take,List.getElem?_set];by_cases h1:i<k
 ·rw[if_pos (by omega),if_neg (by omega),if_pos (by omega),if_pos h1]
 ·by_cases h2:i=k
  ·subst h2
   rw[if_pos (by omega),if_pos rfl,if_pos h,if_neg (by omega)];simp [Nat.min_eq_left (Nat.le_of_lt h)]
  ·rw[if_neg (by omega),if_neg (by omega)]
   simp;omega
theorem bQ (a b:List Int):aN (a++b)=aN a++aN b:=by
 apply ByteArray.ext;simp [aN]
theorem bM (l:List Int):(aN l).size=l.length:=by simp [aN,ByteArray.size]
theorem TG (s:ByteArray) (i:Nat):0<=cT s i/\cT s i<256:=by
 unfold cT;have:=(s.get! i).toNat_lt;omega
abbrev bP:Ty:=.pair .bool (.pair (.int .i64) .str)
abbrev Val:Type:=Bool×Int×ByteArray
@[reducible] instance:Inhabited Val:=instInhabitedDen bP
abbrev tW:Ty:=.pair .str (.pair (.int .i64) (.pair (.int .i64) .bool))
abbrev Col:Type:=ByteArray×Int×Int×Bool
@[reducible] instance:Inhabited Col:=instInhabitedDen tW
def gs (f:Nat->Int) (m w i:Nat):Nat->Int
 |0=>0
 |t+1=>gs f m w i t+(if i*w+t<m then f (i*w+t)*2^t else 0)
def GL (f:Nat->Int):Prop:=∀q,f q=0\/f q=1
theorem oN (t:Nat):(0:Int)<2^t:=Int.pow_pos (by decide)
theorem JE (t:Nat):(2:Int)^(t+1)=2*2^t:=by rw[Int.pow_succ];omega
theorem qMT {f:Nat->Int} (hf:GL f) (m w i:Nat):∀t,0<=gs f m w i t/\gs f m w i t<2^t
 |0=>by simp [gs]
 |t+1=>by
  have h:=qMT hf m w i t;have hp:=oN t;rw[gs,JE];split
  ·rcases hf (i*w+t)with q|q<;>rw[q]<;>omega
  ·omega
theorem WZ {f:Nat->Int} {m w i:Nat}:∀ {t t0:Nat},t0<=t->(∀u,t0<=u->u<t->¬i*w+u<m)->gs f m w i t=gs f m w i t0
 |0,t0,h,_=>by rw[show t0=0 by omega]
 |t+1,t0,h,hu=>by
  rcases Nat.eq_or_lt_of_le h with q|q
  ·rw[q]
  ·rw[gs,if_neg (hu t (by omega) (by omega)),WZ (t0:=t0) (by omega) (fun u h1 h2=>hu u h1 (by omega))];omega
theorem DC {i w t m:Nat} (ht:t<w) (h:i*w+t=m):i=m/w/\t=m%w:=by
 subst h;constructor
 ·rw[Nat.add_comm,Nat.add_mul_div_right _ _ (by omega),Nat.div_eq_of_lt ht,Nat.zero_add]
 ·rw[Nat.add_comm,Nat.add_mul_mod_self_right,Nat.mod_eq_of_lt ht]
theorem IP {f:Nat->Int} {m w i:Nat} (hw:0<w):∀t,t<=w->gs f (m+1) w i t=gs f m w i t+(if i=m/w/\m%w<t then f m*2^(m%w)else 0)
 |0,_=>by simp [gs]
 |t+1,ht=>by
  rw[gs,gs,IP hw t (by omega)];by_cases q:i*w+t=m
  ·obtain⟨q1,q2⟩:=DC (by omega) q
   rw[if_neg (by omega),if_pos (by omega),if_neg (by omega),if_pos ⟨q1,by omega⟩,q,<-q2];(try omega)
  ·have q':¬(i=m/w/\t=m%w):=fun h=>q (by
     have:=Nat.div_add_mod m w;rw[h.1,h.2,Nat.mul_comm];exact this)
   by_cases r:i*w+t<m
   ·rw[if_pos (show i*w+t<m+1 by omega),if_pos r]
    by_cases c:i=m/w/\m%w<t
    ·rw[if_pos c,if_pos ⟨c.1,by omega⟩];omega
    ·rw[if_neg c,if_neg (fun h=>c ⟨h.1,by omega⟩)];omega
   ·rw[if_neg (show ¬i*w+t<m+1 by omega),if_neg r]
    by_cases c:i=m/w/\m%w<t
    ·rw[if_pos c,if_pos ⟨c.1,by omega⟩];omega
    ·rw[if_neg c,if_neg (fun h=>c ⟨h.1,by omega⟩)]
theorem WY {f:Nat->Int} {m w:Nat} (hw:0<w) (i:Nat):gs f (m+1) w i w=gs f m w i w+(if i=m/w then f m*2^(m%w)else 0):=by
 rw[IP hw w (Nat.le_refl _)];have:=Nat.mod_lt m hw;by_cases c:i=m/w
 ·rw[if_pos ⟨c,this⟩,if_pos c]
 ·rw[if_neg (fun h=>c h.1),if_neg c]
theorem qGD {f:Nat->Int} (hf:GL f) {m w:Nat} (hw:0<w):0<=gs f m w (m/w) w/\gs f m w (m/w) w<2^(m%w):=by
 have h:=Nat.mod_lt m hw;rw[WZ (t:=w) (t0:=m%w) (by omega) (fun u h1 h2=>by
  have:=Nat.div_add_mod m w;rw[Nat.mul_comm]at this;omega)]
 exact qMT hf _ _ _ _
def gL (f:Nat->Int) (m w n:Nat):List Int:=(List.range n).map fun i=>gs f m w i w
theorem lE (f:Nat->Int) (m w n:Nat):(gL f m w n).length=n:=by simp [gL]
theorem qN8 {f:Nat->Int} {m w n i:Nat} (h:i<n):(gL f m w n)[i]! =gs f m w i w:=by
 rw[getElem!_pos _ i (by rw[lE];exact h)];simp [gL]
theorem AH (f:Nat->Int) (w n:Nat):gL f 0 w n=List.replicate n 0:=by
 have h0:∀i t,gs f 0 w i t=0:=by
  intro i t;induction t with
  |zero=>rfl
  |succ t ih=>rw[gs,ih,if_neg (by omega)];rfl
 unfold gL;apply List.ext_getElem
 ·simp
 ·intro i h1 h2
  simp [h0]
theorem qKO {f:Nat->Int} {m w n:Nat} (hw:0<w) (hm:m/w<n):(gL f m w n).set (m/w) (gs f m w (m/w) w+f m*2^(m%w))=gL f (m+1) w n:=by
 apply List.ext_getElem
 ·simp [gL]
 ·intro i h1 h2
  rw[List.getElem_set];simp only[gL,List.getElem_map,List.getElem_range];rw[WY hw];by_cases c:m/w=i
  ·rw[if_pos c,if_pos c.symm,c]
  ·rw[if_neg c,if_neg (fun h=>c h.symm)];omega
theorem LL {f:Nat->Int} {m w n:Nat} (hw:0<w) (h0:f m=0):gL f m w n=gL f (m+1) w n:=by
 unfold gL;refine List.map_congr_left fun i _=>?_
 rw[WY hw,h0];split<;>omega
theorem mH (n:Nat):((2^n:Nat):Int)=(2:Int)^n:=by simp
theorem qLD (k:IntKind) (hs:k.signed=false) {a b:Int} {s:Nat} (hb:b=0\/b=1) (hk:s<k.bits) (ha:0<=a/\a<2^s):bOr k a (b*2^s)=a+b*2^s:=by
 have hp:=oN s;have hle:(2:Int)^s*2<=2^k.bits:=by
  obtain⟨d,hd⟩:∃d,k.bits=s+(d+1):=⟨k.bits-s-1,by omega⟩
  rw[hd,Int.pow_add,JE];have:=oN d;have h1:(2:Int)^s*(2*1)<=2^s*(2*2^d):=Int.mul_le_mul_of_nonneg_left (by omega) (by omega);simpa using h1
 have hbs:0<=b*2^s/\b*2^s<=2^s:=by rcases hb with q|q<;>rw[q]<;>omega
 have hcast:=mH k.bits;have hid:∀x:Int,0<=x->x<2^k.bits->(BitVec.ofInt k.bits x).toNat=x.toNat:=fun x h1 h2=>by
  rw[BitVec.toNat_ofInt,hcast,Int.emod_eq_of_lt h1 h2]
 unfold bOr;rw[BitVec.toNat_or,hid a ha.1 (by omega),hid _ hbs.1 (by omega)];have e:a.toNat ||| (b*2^s).toNat=a.toNat+(b*2^s).toNat:=by
  have ha2:a.toNat<2^s:=by
   have:=mH s;omega
  rcases hb with q|q
  ·subst q;simp
  ·subst q
   have h2:((1:Int)*2^s).toNat=2^s*1:=by
    rw[Int.one_mul,<-mH,Int.toNat_natCast,Nat.mul_one]
   rw[h2,Nat.or_comm,<-Nat.two_pow_add_eq_or_of_lt ha2];omega
 rw[e];have hsum:((a.toNat+(b*2^s).toNat:Nat):Int)=a+b*2^s:=by omega
 rw[hsum];have hin:0<=a+b*2^s/\a+b*2^s<2^k.bits:=by
  refine⟨by omega,?_⟩;rcases hb with q|q<;>rw[q]<;>omega
 cases k<;>first|(simp [IntKind.signed]at hs;done)|(simp only[IntKind.wrap,IntKind.bits,IntKind.signed]at hin ⊢;simp at hin ⊢;omega)
theorem YK {v:Int} (hv:0<=v) {k:Int} (hk:0<=k/\k<64):kY .u64 v k=v/2^k.toNat:=by
 unfold kY;rw[Int.fdiv_eq_ediv_of_nonneg _ (by have:=oN (min k.toNat IntKind.u64.bits);omega),Nat.min_eq_left (by simp [IntKind.bits];omega)]
theorem qJN {a:Int} (h:0<=a/\a<18446744073709551616):uD .u64 a 1=a%2:=by
 unfold uD;have e1:(BitVec.ofInt IntKind.u64.bits a &&& BitVec.ofInt IntKind.u64.bits 1).toNat=(a%2).toNat:=by
  rw[BitVec.toNat_and,BitVec.toNat_ofInt,BitVec.toNat_ofInt];have:((1:Int)%((2^IntKind.u64.bits:Nat):Int)).toNat=1:=by decide
  rw[this,Nat.and_one_is_mod];simp [IntKind.bits];omega
 rw[e1,aT (by omega)];omega
theorem qOU {b:Int} (hb:b=0\/b=1) {s:Int} (hs:0<=s/\s<8):rA .u8 b s=b*2^s.toNat:=by
 unfold rA;rw[Nat.min_eq_left (by simp [IntKind.bits];omega)];refine qI9 ?_;have h8:(2:Int)^s.toNat<=128:=by
  have:s.toNat<=7:=by omega
  have:=Nat.pow_le_pow_right (show 0<2 by decide) this;rw[<-mH];omega
 have hp:=oN s.toNat;rcases hb with q|q<;>rw[q]<;>omega
def lZ (v:Int):Int:=((Lib.bitLen v.toNat:Nat):Int)
def sW (n w:Int):Bool:=decide (0<=n)&&decide (n<=4096)&&decide (0<=w)&&decide (w<=64)
def iA (n w:Int):Int:=if sW n w=true then(n*w+7).tdiv 8 else 0
theorem oM (n w:Int):sW n w=true↔(0<=n/\n<=4096)/\0<=w/\w<=64:=by simp [sW,and_assoc]
theorem XP {n w:Int} (h:(0<=n/\n<=4096)/\0<=w/\w<=64):0<=n*w/\n*w<=262144:=by
 refine⟨Int.mul_nonneg h.1.1 h.2.1,?_⟩;have h1:=Int.mul_le_mul_of_nonneg_right h.1.2 h.2.1;omega
theorem nR {n w:Int} (h:(0<=n/\n<=4096)/\0<=w/\w<=64):iA n w=(n*w+7)/8/\0<=n*w/\n*w<=262144:=by
 have h1:=XP h;rw[iA,if_pos ((oM n w).2 h),Int.tdiv_eq_ediv_of_nonneg (by omega)];exact⟨rfl,h1⟩
theorem tL {i n k w:Int} (hi:i<n) (hk:k<w) (h0:0<=w):i*w+k<n*w:=by
 have h1:(i+1)*w<=n*w:=Int.mul_le_mul_of_nonneg_right (by omega) h0;rw[Int.add_mul]at h1;omega
theorem RC (i w:Int):(i+1)*w=i*w+w:=by rw[Int.add_mul];omega
def vbit (l:List Int) (w q:Nat):Int:=l[q/w]! /2^(q%w)%2
def sbit (s:ByteArray) (q:Nat):Int:=cT s (q/8)/2^(q%8)%2
theorem qJC (l:List Int) (w:Nat):GL (vbit l w):=fun q=>by unfold vbit;omega
theorem qHD {i w k:Int} (h:0<=i/\0<=k/\k<w):(i*w+k).toNat/w.toNat=i.toNat/\(i*w+k).toNat%w.toNat=k.toNat:=by
 have h1:(i*w+k).toNat=i.toNat*w.toNat+k.toNat:=by
  have:0<=i*w:=Int.mul_nonneg h.1 (by omega);have e:((i.toNat*w.toNat+k.toNat:Nat):Int)=i*w+k:=by
   push_cast
   rw[Int.toNat_of_nonneg h.1,Int.toNat_of_nonneg (show 0<=w by omega),Int.toNat_of_nonneg h.2.1]
  omega
 obtain⟨q1,q2⟩:=DC (i:=i.toNat) (w:=w.toNat) (t:=k.toNat) (m:=(i*w+k).toNat) (by omega) h1.symm;exact⟨q1.symm,q2.symm⟩
theorem qPL {kd:IntKind} (hs:kd.signed=false) {f:Nat->Int} (hf:GL f) {m W n:Nat} (hW:0<W) (hb:W<=kd.bits) (hm:m/W<n) :
  (gL f m W n).set (m/W) (bOr kd (gL f m W n)[m/W]! (f m*2^(m%W)))=gL f (m+1) W n:=by
 have hml:=Nat.mod_lt m hW;rw[qN8 hm,qLD kd hs (hf m) (by omega) (qGD hf hW)];exact qKO hW hm
theorem vM {f:Nat->Int} (hf:GL f) {N:Nat} {a b s q:Int} (ha:0<=a) (hN:a.toNat/8<N) (hb:b=f a.toNat) (hs:s=a.tmod 8) (hq:q=a.tdiv 8) :
  (gL f a.toNat 8 N).set q.toNat (bOr .u8 (gL f a.toNat 8 N)[q.toNat]! (rA .u8 b s))=gL f (a+1).toNat 8 N:=by
 have e1:q.toNat=a.toNat/8:=by rw[hq,Int.tdiv_eq_ediv_of_nonneg ha];omega
 have e2:s.toNat=a.toNat%8:=by rw[hs,Int.tmod_eq_emod_of_nonneg ha];omega
 have e3:0<=s/\s<8:=by rw[hs,Int.tmod_eq_emod_of_nonneg ha];omega
 rw[qOU (by rw[hb];exact hf _) e3,e1,e2,hb,show(a+1).toNat=a.toNat+1 by omega];exact qPL rfl hf (by decide) (by decide) hN
theorem MY {l:List Int} {i k w:Int} (h:0<=i/\0<=k/\k<w):vbit l w.toNat (i*w+k).toNat=l[i.toNat]! /2^k.toNat%2:=by
 obtain⟨q1,q2⟩:=qHD h;unfold vbit;rw[q1,q2]
theorem TE {v k:Int} (hv:0<=v/\v<18446744073709551616) (hk:0<=k/\k<64):uD .u64 (kY .u64 v k) 1=v/2^k.toNat%2/\(v/2^k.toNat%2=0\/v/2^k.toNat%2=1):=by
 have hp:=oN k.toNat;have h0:0<=v/2^k.toNat:=Int.ediv_nonneg hv.1 (by omega);have h1:v/2^k.toNat<=v:=Int.ediv_le_self _ hv.1;rw[YK hv.1 hk,qJN (by omega)];exact⟨rfl,by omega⟩
def nJ (l:List Int) (w:Int):Bool:=l.any fun v=>decide (lZ v>w)
theorem SS {l:List Int} {w i:Int} (hi:0<=i/\i<l.length) (h:lZ l[i.toNat]! >w):nJ l w=true:=by
 unfold nJ;rw[List.any_eq_true];refine⟨l[i.toNat]!,?_,by simpa using h⟩;rw[getElem!_pos l i.toNat (by omega)];exact List.getElem_mem _
theorem qBR {l:List Int} {w:Int} (h:∀j:Nat,j<l.length->lZ l[j]! <=w):nJ l w=false:=by
 unfold nJ;rw[List.any_eq_false];intro v hv;obtain⟨j,hj,rfl⟩:=List.mem_iff_getElem.1 hv;have:=h j hj;rw[getElem!_pos l j hj]at this;simp;omega
def jF (l:List Int) (w:Int):ByteArray×Int:=
 if w<0\/w>64 then(⟨#[]⟩,4)else if l.length>4096 then(⟨#[]⟩,7)else if nJ l w=true then(⟨#[]⟩,8)
 else(aN (gL (vbit l w.toNat) ((l.length:Int)*w).toNat 8 (iA l.length w).toNat),0)
abbrev tb1:Tbl:=(220,NS)::([]:Tbl)
theorem qIU:aC Tryz.prog tb1:=aC.cons qOD aC.nil
abbrev CU:Ct:=.fn [.int .u64] (some (fun(v:Int)=>(0<=v/\v<18446744073709551616))) (fun(v:Int)=>.d (.int .i64) (lZ v))
theorem qJF:aG Tryz.prog 202 CU:=by
 refine aG.fn qIU mixed [] [] rfl rfl ?_;rintro⟨(v:Int),_⟩ hpre;replace hpre:=hpre _ rfl;dsimp only[cu]at hpre;have hv:=hpre;refine⟨[],?_⟩;repeat' (first
  |(
 with_reducible apply Side.mk
 (try dsimp only[cu,aB,aA,gts,loK,hiK,eE,eN])
 omega)
  |(conv=>whnf
    first
     |with_reducible first|done|exact trivial|refine NilBr.mk (fun h=>?_) ?_|apply aJ|apply aI|refine aK (by kernel_rfl) ?_|apply aL|apply bA|apply aZ|apply aO
     |((with_reducible first|apply aQ|apply aP|apply aX)<;>intro h<;>(try dsimp only[cu,eE,eN]at h)<;>(try(exfalso;omega)))))
 all_goals(
 with_reducible apply Leaf.mk
 (try dsimp only[cu,aB,aA,gts,eE,eN]at *)
 rfl)
abbrev tb2:Tbl:=(202,CU)::tb1
theorem qIV:aC Tryz.prog tb2:=aC.cons qJF qIU
theorem IT {v:Int} (h:0<v) (h2:v<18446744073709551616):lZ v=1+lZ (v/2):=by
 obtain⟨n,rfl⟩:=Int.eq_ofNat_of_zero_le (show 0<=v by omega);have hn:0<n:=by omega
 have e:((n:Int)/2).toNat=n/2:=by omega
 unfold lZ;rw[e,Int.toNat_natCast];by_cases h1:n/2=0
 ·have:n=1:=by omega
  subst this;rfl
 ·rw[Lib.bitLen_shift 1 n (by omega) (by omega)]
  simp
theorem qC5 {v:Int} (h:v<=0):lZ v=0:=by
 unfold lZ;rw[show v.toNat=0 by omega];rfl
theorem LT {v:Int} (h:v<18446744073709551616):0<=lZ v/\lZ v<=64:=by
 unfold lZ;have:=Lib.bitLen_le v.toNat 64 (by omega) (by omega);omega
theorem qOV {v:Int} (h:0<=v):kY .u64 v 1=v/2:=by
 rw[YK h (by decide)];rfl
abbrev yR:Ct:=.fn [.int .u64] (some (fun(v0:Int)=>(0<=v0/\v0<18446744073709551616))) (fun(v0:Int)=>.d (.int .i64) (lZ v0))
theorem qDT:aG Tryz.prog 184 yR:=by
 refine aG.fn qIV mixed [] [] rfl rfl ?_;rintro⟨(v0:Int),_⟩ hpre;replace hpre:=hpre _ rfl;dsimp only[cu]at hpre;have hv0:=hpre;refine⟨[(0,4,LA.mk [.sl 0 (.int .u64),.sl 3 (.int .i64)] (fun y=>Tag 1/\cu [.int .u64,.int .i64] (fun(v:Int) (w:Int)=>(0<=v/\v<18446744073709551616)/\(lZ v0=w+lZ v)/\(0<=w/\w<=64)) y) (cu [.int .u64,.int .i64] (fun(v:Int) (w:Int)=>v.toNat)) (cu [.int .u64,.int .i64] (fun(v:Int) (w:Int)=>([]:List (Nat×Nat×LA)))))],?_⟩;repeat' (first
  |(
 with_reducible refine Side.mk ⟨(⟨⟩:Tag 1),?_⟩
 dsimp only[cu,aB,aA,gts,eE,eN]
 refine⟨?_,?_,?_⟩
 ·first
  |omega
  |rw[qOV (by omega)];omega
 ·first
  |omega
  |rw[hw,IT (v:=v) (by omega) (by omega),qOV (by omega)];omega
 ·first
  |omega
  |(
  have:=LT (v:=v0) (by omega)
  have h2:=IT (v:=v) (by omega) (by omega)
  have:=LT (v:=v/2) (by omega)
  omega))
  |(
 with_reducible apply Side.mk
 (try dsimp only[cu,aB,aA,gts,loK,hiK,eE,eN])
 first
 |omega
 |(rw[qOV (by omega)];omega))
  |(conv=>whnf
    first
     |with_reducible first|done|exact trivial|refine NilBr.mk (fun h=>?_) ?_|apply aJ|apply aI|refine aK (by kernel_rfl) ?_|apply aL|apply bA|apply aZ|apply aO
     |((with_reducible first|apply aQ|apply aP|apply aX)<;>intro h<;>(try dsimp only[cu,eE,eN]at h)<;>(try(exfalso;omega)))
     |(
 intro yy (hy:Tag 1/\_)
 obtain⟨(v:Int),(w:Int),_⟩:=yy
 replace hy:=hy.2
 dsimp only[cu,aB,aA,gts,eE,eN]at hy
 obtain⟨hv,hw,hw0⟩:=hy)))
 all_goals(
 with_reducible apply Leaf.mk
 (try dsimp only[cu,aB,aA,gts,eE,eN]at *)
 (
  have e:=qC5 (v:=v) (by omega);rw[hw,e,Int.add_zero]))
abbrev tb3:Tbl:=(184,yR)::tb2
theorem qIW:aC Tryz.prog tb3:=aC.cons qDT qIV
abbrev HM:Ct:=.fn [.int .i64,.int .i64] (none) (fun(n:Int) (w:Int)=>.d .bool (sW n w))
theorem qLF:aG Tryz.prog 225 HM:=by
 refine aG.fn qIW mixed [] [] rfl rfl ?_;rintro⟨(n:Int),(w:Int),_⟩ -;refine⟨[],?_⟩;repeat' (first
  |(
 with_reducible apply Side.mk
 (try dsimp only[cu,aB,aA,gts,loK,hiK,eE,eN])
 done)
  |(conv=>whnf
    first
     |with_reducible first|done|exact trivial|refine NilBr.mk (fun h=>?_) ?_|apply aJ|apply aI|refine aK (by kernel_rfl) ?_|apply aL|apply bA|apply aZ|apply aO
     |((with_reducible first|apply aQ|apply aP|apply aX)<;>intro h<;>(try dsimp only[cu,eE,eN]at h)<;>(try(exfalso;omega)))))
 all_goals(
 with_reducible apply Leaf.mk
 (try dsimp only[cu,aB,aA,gts,eE,eN]at *)
 grind [sW])
abbrev tb4:Tbl:=(225,HM)::tb3
theorem qIX:aC Tryz.prog tb4:=aC.cons qLF qIW
abbrev HI:Ct:=.fn [.int .i64,.int .i64] (none) (fun(n:Int) (w:Int)=>.d (.int .i64) (iA n w))
theorem qK5:aG Tryz.prog 207 HI:=by
 refine aG.fn qIX mixed [] [] rfl rfl ?_;rintro⟨(n:Int),(w:Int),_⟩ -;refine⟨[],?_⟩;repeat' (first
  |(
 with_reducible apply Side.mk
 (try dsimp only[cu,aB,aA,gts,loK,hiK,eE,eN])
 first
 |omega
 |(
  have hnw:=XP (n:=n) (w:=w) ((oM n w).1 (by simp_all;done));first
  |omega
  |(
   rw[Int.tdiv_eq_ediv_of_nonneg (by omega)];omega)))
  |(conv=>whnf
    first
     |with_reducible first|done|exact trivial|refine NilBr.mk (fun h=>?_) ?_|apply aJ|apply aI|refine aK (by kernel_rfl) ?_|apply aL|apply bA|apply aZ|apply aO
     |((with_reducible first|apply aQ|apply aP|apply aX)<;>intro h<;>(try dsimp only[cu,eE,eN]at h)<;>(try(exfalso;omega)))))
 all_goals(
 with_reducible apply Leaf.mk
 (try dsimp only[cu,aB,aA,gts,eE,eN]at *)
 first
 |(
  have q:sW n w=true:=by simp_all;done
  rw[iA,if_pos q])
 |(
  have q:¬sW n w=true:=by simp_all;done
  rw[iA,if_neg q]))
abbrev tb5:Tbl:=(207,HI)::tb4
theorem qIY:aC Tryz.prog tb5:=aC.cons qK5 qIX
abbrev CG:Ct:=.fn [.int .i64,.int .i64] (none) (fun(n:Int) (w:Int)=>.d (.int .i64) (iA n w))
theorem qH3:aG Tryz.prog 209 CG:=by
 refine aG.fn qIY mixed [] [] rfl rfl ?_;rintro⟨(n:Int),(w:Int),_⟩ -;refine⟨[],?_⟩;repeat' (first
  |(
 with_reducible apply Side.mk
 (try dsimp only[cu,aB,aA,gts,loK,hiK,eE,eN])
 first
 |omega
 |(
  have hnw:=XP (n:=n) (w:=w) (by omega);first
  |omega
  |(
   rw[Int.tdiv_eq_ediv_of_nonneg (by omega)];omega)))
  |(conv=>whnf
    first
     |with_reducible first|done|exact trivial|refine NilBr.mk (fun h=>?_) ?_|apply aJ|apply aI|refine aK (by kernel_rfl) ?_|apply aL|apply bA|apply aZ|apply aO
     |((with_reducible first|apply aQ|apply aP|apply aX)<;>intro h<;>(try dsimp only[cu,eE,eN]at h)<;>(try(exfalso;omega)))))
 all_goals(
 with_reducible apply Leaf.mk
 (try dsimp only[cu,aB,aA,gts,eE,eN]at *)
 first
 |(
  have q:sW n w=true:=(oM n w).2 (by omega);rw[iA,if_pos q])
 |(
  have q:¬sW n w=true:=fun q=>by have:=(oM n w).1 q;omega
  rw[iA,if_neg q]))
abbrev tb6:Tbl:=(209,CG)::tb5
theorem qIZ:aC Tryz.prog tb6:=aC.cons qH3 qIY
abbrev HL:Ct:=.fn [.list (.int .u64),.int .i64] (some (fun(l:List Int) (w:Int)=>(∀i:Nat,0<=l[i]! /\l[i]! <18446744073709551616)/\(l.length<=4611686018427387904))) (fun(l:List Int) (w:Int)=>.tup [.str,.int .i64] ((jF l w).1,(jF l w).2,()))
theorem qLE:aG Tryz.prog 180 HL:=by
 refine aG.fn qIZ mixed [] [] rfl rfl ?_;rintro⟨(l:List Int),(w:Int),_⟩ hpre;replace hpre:=hpre _ rfl;dsimp only[cu]at hpre;obtain⟨hlv,hll⟩:=hpre;refine⟨[(0,16,LA.mk [.sl 29 (.int .i64),.sl 7 (.int .i64),.ar 0 (.int .u8) 5] (fun y=>Tag 2/\cu [.int .i64,.int .i64,.list (.int .u8)] (fun(i:Int) (a:Int) (M:List Int)=>(0<=i/\i<=l.length)/\(a=i*w)/\(M=gL (vbit l w.toNat) a.toNat 8 (iA l.length w).toNat)/\(∀j:Nat,(j:Int)<i->lZ l[j]! <=w)) y) (cu [.int .i64,.int .i64,.list (.int .u8)] (fun(i:Int) (a:Int) (M:List Int)=>((l.length:Int)-i).toNat)) (cu [.int .i64,.int .i64,.list (.int .u8)] (fun(i:Int) (a:Int) (M:List Int)=>([(0,26,LA.mk [.sl 38 (.int .i64),.sl 7 (.int .i64),.ar 0 (.int .u8) 5] (fun y=>Tag 3/\cu [.int .i64,.int .i64,.list (.int .u8)] (fun(k:Int) (b:Int) (O:List Int)=>(0<=k/\k<=w)/\(b=i*w+k)/\(O=gL (vbit l w.toNat) b.toNat 8 (iA l.length w).toNat)) y) (cu [.int .i64,.int .i64,.list (.int .u8)] (fun(k:Int) (b:Int) (O:List Int)=>((w:Int)-k).toNat)) (cu [.int .i64,.int .i64,.list (.int .u8)] (fun(k:Int) (b:Int) (O:List Int)=>([]:List (Nat×Nat×LA)))))]:List (Nat×Nat×LA)))))],?_⟩;repeat' (first
  |(
 with_reducible refine Side.mk ⟨(⟨⟩:Tag 2),?_⟩
 dsimp only[cu,aB,aA,gts,eE,eN]
 refine⟨?_,?_,?_,?_⟩
 ·omega
 ·first
  |omega
  |rw[RC];omega
 ·first
  |exact(AH _ _ _).symm
  |rw[hO]
 ·first
  |intro j hj;omega
  |(
  intro j hj
  rcases Int.lt_or_le (j:Int) i with q|q
  ·exact hwd j q
  ·rw[show j=i.toNat by omega];exact Int.not_lt.1 (by assumption)))
  |(
 with_reducible refine Side.mk ⟨(⟨⟩:Tag 3),?_⟩
 dsimp only[cu,aB,aA,gts,eE,eN]
 refine⟨?_,?_,?_⟩
 ·omega
 ·first
  |rw[ha];omega
  |omega
 ·first
  |exact hM
  |(
  have hne:=nR (n:=l.length) (w:=w) (by omega)
  have hix:=tL (i:=i) (n:=l.length) (k:=k) (w:=w) (by omega) (by omega) (by omega)
  have hi0:0<=i*w:=Int.mul_nonneg (by omega) (by omega)
  rw[hO]
  refine vM (qJC _ _) (by omega) (by omega) ?_ rfl rfl
  show IntKind.u8.wrap (uD .u64 (kY .u64 l[i.toNat]! k) 1)=_
  obtain⟨q1,q2⟩:=TE (hlv i.toNat) (k:=k) (by omega)
  rw[q1,hb,MY (by omega)]
  exact qI9 (by omega)))
  |(
 with_reducible apply Side.mk
 (try dsimp only[cu,aB,aA,gts,loK,hiK,eE,eN])
 first
 |omega
 |(
  have hne:=nR (n:=l.length) (w:=w) (by omega);omega)
 |exact hlv _
 |simp only[hM,lE];done
 |(
  have hne:=nR (n:=l.length) (w:=w) (by omega);have hix:=tL (i:=i) (n:=l.length) (k:=k) (w:=w) (by omega) (by omega) (by omega);have hi0:0<=i*w:=Int.mul_nonneg (by omega) (by omega);(try rw[Int.tdiv_eq_ediv_of_nonneg (by omega)]);(try rw[Int.tmod_eq_emod_of_nonneg (by omega)]);(try simp only[hO,lE]);omega))
  |(conv=>whnf
    first
     |with_reducible first|done|exact trivial|refine NilBr.mk (fun h=>?_) ?_|apply aJ|apply aI|refine aK (by kernel_rfl) ?_|apply aL|apply bA|apply aZ|apply aO
     |((with_reducible first|apply aQ|apply aP|apply aX)<;>intro h<;>(try dsimp only[cu,eE,eN]at h)<;>(try(exfalso;omega)))
     |(
 intro yy (hy:Tag 2/\_)
 obtain⟨(i:Int),(a:Int),(M:List Int),_⟩:=yy
 replace hy:=hy.2
 dsimp only[cu,aB,aA,gts,eE,eN]at hy
 obtain⟨hi,ha,hM,hwd⟩:=hy)
     |(
 intro yy (hy:Tag 3/\_)
 obtain⟨(k:Int),(b:Int),(O:List Int),_⟩:=yy
 replace hy:=hy.2
 dsimp only[cu,aB,aA,gts,eE,eN]at hy
 obtain⟨hk,hb,hO⟩:=hy)))
 all_goals(
 with_reducible apply Leaf.mk
 (try dsimp only[cu,aB,aA,gts,eE,eN]at *)
 first
 |rw[jF,if_pos (by omega)]
 |rw[jF,if_neg (by omega),if_pos (by omega)]
 |(
  have hyes:=SS (l:=l) (w:=w) (i:=i) (by omega) (by assumption);have h1:¬(w<0\/w>64):=by omega
  have h2:¬l.length>4096:=by omega
  rw[jF,if_neg h1,if_neg h2,if_pos hyes])
 |(
  have hil:i=l.length:=by omega
  have hno:=qBR (l:=l) (w:=w) (fun j hj=>hwd j (by omega));have h1:¬(w<0\/w>64):=by omega
  have h2:¬l.length>4096:=by omega
  have h3:¬nJ l w=true:=by rw[hno];decide
  rw[jF,if_neg h1,if_neg h2,if_neg h3];(try rw[hM,ha,hil])))
abbrev tb7:Tbl:=(180,HL)::tb6
theorem qI0:aC Tryz.prog tb7:=aC.cons qLE qIZ
abbrev CH:Ct:=.fn [.list (.int .u64),.int .i64] (some (fun(l:List Int) (w:Int)=>(∀i:Nat,0<=l[i]! /\l[i]! <18446744073709551616)/\(l.length<=4611686018427387904))) (fun(l:List Int) (w:Int)=>.tup [.str,.int .i64] ((jF l w).1,(jF l w).2,()))
theorem qH5:aG Tryz.prog 183 CH:=by
 refine aG.fn qI0 mixed [] [] rfl rfl ?_;rintro⟨(l:List Int),(w:Int),_⟩ hpre;replace hpre:=hpre _ rfl;dsimp only[cu]at hpre;obtain⟨hlv,hll⟩:=hpre;refine⟨[(0,14,LA.mk [.sl 27 (.int .i64),.ar 0 (.int .u8) 5] (fun y=>Tag 4/\cu [.int .i64,.list (.int .u8)] (fun(i:Int) (M:List Int)=>(0<=i/\i<=l.length)/\(M=gL (vbit l w.toNat) (i*w).toNat 8 (iA l.length w).toNat)/\(∀j:Nat,(j:Int)<i->lZ l[j]! <=w)) y) (cu [.int .i64,.list (.int .u8)] (fun(i:Int) (M:List Int)=>((l.length:Int)-i).toNat)) (cu [.int .i64,.list (.int .u8)] (fun(i:Int) (M:List Int)=>([(0,24,LA.mk [.sl 9 (.int .i64),.ar 0 (.int .u8) 5] (fun y=>Tag 5/\cu [.int .i64,.list (.int .u8)] (fun(k:Int) (O:List Int)=>(0<=k/\k<=w)/\(O=gL (vbit l w.toNat) (i*w+k).toNat 8 (iA l.length w).toNat)) y) (cu [.int .i64,.list (.int .u8)] (fun(k:Int) (O:List Int)=>((w:Int)-k).toNat)) (cu [.int .i64,.list (.int .u8)] (fun(k:Int) (O:List Int)=>([]:List (Nat×Nat×LA)))))]:List (Nat×Nat×LA)))))],?_⟩;repeat' (first
  |(
 with_reducible refine Side.mk ⟨(⟨⟩:Tag 4),?_⟩
 dsimp only[cu,aB,aA,gts,eE,eN]
 refine⟨?_,?_,?_⟩
 ·omega
 ·first
  |rw[Int.zero_mul];exact(AH _ _ _).symm
  |rw[hO,show k=w by omega,RC]
 ·first
  |intro j hj;omega
  |(
  intro j hj
  rcases Int.lt_or_le (j:Int) i with q|q
  ·exact hwd j q
  ·rw[show j=i.toNat by omega];exact Int.not_lt.1 (by assumption)))
  |(
 with_reducible refine Side.mk ⟨(⟨⟩:Tag 5),?_⟩
 dsimp only[cu,aB,aA,gts,eE,eN]
 refine⟨?_,?_⟩
 ·omega
 ·first
  |rw[hM,Int.add_zero]
  |(
  have hne:=nR (n:=l.length) (w:=w) (by omega)
  have hix:=tL (i:=i) (n:=l.length) (k:=k) (w:=w) (by omega) (by omega) (by omega)
  have hi0:0<=i*w:=Int.mul_nonneg (by omega) (by omega)
  first
  |(
   rw[hO,show i*w+(k+1)=i*w+k+1 by omega];obtain⟨q1,q2⟩:=TE (hlv i.toNat) (k:=k) (by omega);rw[aT (n:=k) (by omega)]at h;rw[aT (n:=(i*w+k).tmod 8) (by rw[Int.tmod_eq_emod_of_nonneg (by omega)];omega)];refine vM (qJC _ _) (by omega) (by omega) ?_ rfl rfl;rw[MY (by omega),<-q1];exact h.symm)
  |(
   rw[hO,show i*w+(k+1)=i*w+k+1 by omega,show(i*w+k+1).toNat=(i*w+k).toNat+1 by omega];obtain⟨q1,q2⟩:=TE (hlv i.toNat) (k:=k) (by omega);rw[aT (n:=k) (by omega)]at h;have h2:¬uD .u64 (kY .u64 l[i.toNat]! k) 1=1:=h;rw[q1]at h2;refine LL (by decide) ?_;rw[MY (by omega)];omega)))
  |(
 with_reducible apply Side.mk
 (try dsimp only[cu,aB,aA,gts,loK,hiK,eE,eN])
 first
 |omega
 |(
  have hne:=nR (n:=l.length) (w:=w) (by omega);omega)
 |exact hlv _
 |simp only[hM,lE];done
 |rw[aT (n:=k) (by omega)];omega
 |(
  have hne:=nR (n:=l.length) (w:=w) (by omega);have hix:=tL (i:=i) (n:=l.length) (k:=k) (w:=w) (by omega) (by omega) (by omega);have hi0:0<=i*w:=Int.mul_nonneg (by omega) (by omega);first
  |(
   (try rw[Int.tdiv_eq_ediv_of_nonneg (by omega)]);(try rw[Int.tmod_eq_emod_of_nonneg (by omega)]);(try simp only[hO,lE]);omega)
  |(
   rw[aT (n:=(i*w+k).tmod 8) (by rw[Int.tmod_eq_emod_of_nonneg (by omega)];omega)];(try rw[Int.tdiv_eq_ediv_of_nonneg (by omega)]);(try rw[Int.tmod_eq_emod_of_nonneg (by omega)]);omega)))
  |(conv=>whnf
    first
     |with_reducible first|done|exact trivial|refine NilBr.mk (fun h=>?_) ?_|apply aJ|apply aI|refine aK (by kernel_rfl) ?_|apply aL|apply bA|apply aZ|apply aO
     |((with_reducible first|apply aQ|apply aP|apply aX)<;>intro h<;>(try dsimp only[cu,eE,eN]at h)<;>(try(exfalso;omega)))
     |(
 intro yy (hy:Tag 4/\_)
 obtain⟨(i:Int),(M:List Int),_⟩:=yy
 replace hy:=hy.2
 dsimp only[cu,aB,aA,gts,eE,eN]at hy
 obtain⟨hi,hM,hwd⟩:=hy)
     |(
 intro yy (hy:Tag 5/\_)
 obtain⟨(k:Int),(O:List Int),_⟩:=yy
 replace hy:=hy.2
 dsimp only[cu,aB,aA,gts,eE,eN]at hy
 obtain⟨hk,hO⟩:=hy)))
 all_goals(
 with_reducible apply Leaf.mk
 (try dsimp only[cu,aB,aA,gts,eE,eN]at *)
 first
 |rw[jF,if_pos (by omega)]
 |rw[jF,if_neg (by omega),if_pos (by omega)]
 |(
  have hyes:=SS (l:=l) (w:=w) (i:=i) (by omega) (by assumption);have h1:¬(w<0\/w>64):=by omega
  have h2:¬l.length>4096:=by omega
  rw[jF,if_neg h1,if_neg h2,if_pos hyes])
 |(
  have hil:i=l.length:=by omega
  have hno:=qBR (l:=l) (w:=w) (fun j hj=>hwd j (by omega));have h1:¬(w<0\/w>64):=by omega
  have h2:¬l.length>4096:=by omega
  have h3:¬nJ l w=true:=by rw[hno];decide
  rw[jF,if_neg h1,if_neg h2,if_neg h3];(try rw[hM,hil])))
abbrev tb8:Tbl:=(183,CH)::tb7
theorem qI1:aC Tryz.prog tb8:=aC.cons qH5 qI0
def qL5 (s:ByteArray) (m:Nat):Bool:=(List.range (8*s.size)).any fun q=>decide (m<=q)&&decide (sbit s q=1)
def AQ (s:ByteArray) (n w:Int):List Int×Int:=
 if ¬sW n w=true then([],4)else if(s.size:Int)<iA n w then([],10)else if(s.size:Int)>iA n w then([],2)
 else if qL5 s (n*w).toNat=true then([],2)else(gL (sbit s) (n*w).toNat w.toNat n.toNat,0)
def xL:Nat->Int->List Int
 |0,v=>[v]
 |n+1,v=>if v<128 then[v]else(v%128+128)::xL n (v/128)
def put (v:Int):List Int:=xL 9 v
theorem QA:∀(n:Nat) (v:Int),(xL n v).length<=n+1/\1<=(xL n v).length
 |0,v=>by simp [xL]
 |n+1,v=>by
  unfold xL;split
  ·simp
  ·have:=QA n (v/128);simp;omega
theorem aV (v:Int):(put v).length<=10/\1<=(put v).length:=QA 9 v
theorem JF:∀(n:Nat) (v:Int),0<=v->v<128^(n+1)->∀m,n<=m->xL m v=xL n v
 |0,v,h0,h,m,_=>by
  have:v<128:=by simpa using h
  cases m with
  |zero=>rfl
  |succ m=>simp [xL,this]
 |n+1,v,h0,h,0,hm=>by omega
 |n+1,v,h0,h,m+1,hm=>by
  unfold xL;split
  ·rfl
  ·rw[JF n (v/128) (Int.ediv_nonneg h0 (by decide)) (by
     rw[Int.pow_succ]at h;exact Int.ediv_lt_of_lt_mul (by decide) h) m (by omega)]
theorem QC {v:Int} (h:0<=v/\v<18446744073709551616) (h1:¬v<128):put v=(v%128+128)::put (v/128):=by
 have e:put v=(v%128+128)::xL 8 (v/128):=by unfold put;rw[xL,if_neg h1]
 rw[e,put,JF 8 (v/128) (Int.ediv_nonneg h.1 (by decide)) (by
  have:(128:Int)^(8+1)=9223372036854775808:=by decide
  rw[this];omega) 9 (by omega)]
theorem EB {v:Int} (h1:v<128):put v= [v]:=by unfold put;rw[xL,if_pos h1]
theorem QB {v:Int} (h:0<=v/\v<18446744073709551616) (h1:¬v<128):put v=bOr .u8 (IntKind.u8.wrap v) 128::put (kY .u64 v 7):=by
 rw[QC h h1,qIH,qO0,qP3 (by omega)];rw[show v%256%128=v%128 by omega]
theorem JH {v:Int} (h:0<=v) (h1:v<128):put v= [IntKind.u8.wrap v]:=by rw[EB h1,qI9 (by omega)]
abbrev NX:Ct:=.fn [.int .u64] (some (fun(v0:Int)=>(0<=v0/\v0<18446744073709551616))) (fun(v0:Int)=>.d .str (aN (put v0)))
theorem qON:aG Tryz.prog 64 NX:=by
 refine aG.fn qI1 mixed [] [] rfl rfl ?_;rintro⟨(v0:Int),_⟩ hpre;replace hpre:=hpre _ rfl;dsimp only[cu]at hpre;have hv0:=hpre;refine⟨[(0,4,LA.mk [.sl 0 (.int .u64),.lst 3 (.int .u8) (⟨5,1⟩:El)] (fun y=>Tag 6/\cu [.int .u64,.list (.int .u8)] (fun(v:Int) (M:List Int)=>(0<=v/\v<18446744073709551616)/\(put v0=M++put v)) y) (cu [.int .u64,.list (.int .u8)] (fun(v:Int) (M:List Int)=>v.toNat)) (cu [.int .u64,.list (.int .u8)] (fun(v:Int) (M:List Int)=>([]:List (Nat×Nat×LA)))))],?_⟩;repeat' (first
  |(
 with_reducible refine Side.mk ⟨(⟨⟩:Tag 6),?_⟩
 dsimp only[cu,aB,aA,gts,eE,eN]
 refine⟨?_,?_⟩
 ·first
  |omega
  |(
  have h7:=qIH v
  omega)
 ·first
  |simp;done
  |(rw[hb,QB hv (by omega)];simp))
  |(
 with_reducible apply Side.mk
 (try dsimp only[cu,aB,aA,gts,loK,hiK,eE,eN])
 first
 |done
 |omega
 |exact Eq.refl _
 |(
  have h7:=qIH v;omega)
 |(
  have hb2:=congrArg List.length hb;have:=aV v0;have:=aV v;simp only[List.length_append]at hb2;(try simp only[List.length_cons,List.length_nil]);omega))
  |(conv=>whnf
    first
     |with_reducible first|done|exact trivial|refine NilBr.mk (fun h=>?_) ?_|apply aJ|apply aI|refine aK (by kernel_rfl) ?_|apply aL|apply bA|apply aZ|apply aO
     |((with_reducible first|apply aQ|apply aP|apply aX)<;>intro h<;>(try dsimp only[cu,eE,eN]at h)<;>(try(exfalso;omega)))
     |(
 intro yy (hy:Tag 6/\_)
 obtain⟨(v:Int),(M:List Int),_⟩:=yy
 replace hy:=hy.2
 dsimp only[cu,aB,aA,gts,eE,eN]at hy
 obtain⟨hv,hb⟩:=hy)))
 all_goals(
 with_reducible apply Leaf.mk
 (try dsimp only[cu,aB,aA,gts,eE,eN]at *)
 rw[hb,JH hv.1 (by omega)])
abbrev tb9:Tbl:=(64,NX)::tb8
theorem qI2:aC Tryz.prog tb9:=aC.cons qON qI1
abbrev HQ:Ct:=.fn [.int .u64] (some (fun(v0:Int)=>(0<=v0/\v0<18446744073709551616))) (fun(v0:Int)=>.d .str (aN (put v0)))
theorem qLR:aG Tryz.prog 40 HQ:=by
 refine aG.fn qI2 mixed [] [] rfl rfl ?_;rintro⟨(v0:Int),_⟩ hpre;replace hpre:=hpre _ rfl;dsimp only[cu]at hpre;have hv0:=hpre;refine⟨[(0,4,LA.mk [.sl 0 (.int .u64),.sl 3 .str] (fun y=>Tag 7/\cu [.int .u64,.str] (fun(v:Int) (x:ByteArray)=>(0<=v/\v<18446744073709551616)/\(aN (put v0)=x++aN (put v))) y) (cu [.int .u64,.str] (fun(v:Int) (x:ByteArray)=>v.toNat)) (cu [.int .u64,.str] (fun(v:Int) (x:ByteArray)=>([]:List (Nat×Nat×LA)))))],?_⟩;repeat' (first
  |(
 with_reducible refine Side.mk ⟨(⟨⟩:Tag 7),?_⟩
 dsimp only[cu,aB,aA,gts,eE,eN]
 refine⟨?_,?_⟩
 ·first
  |omega
  |(
  have h7:=qIH v
  omega)
 ·first
  |rw[show(⟨#[]⟩:ByteArray)=ByteArray.empty from rfl,ByteArray.empty_append]
  |(rw[hb,QB hv (by omega),ByteArray.append_assoc,<-bQ];rfl))
  |(
 with_reducible apply Side.mk
 (try dsimp only[cu,aB,aA,gts,loK,hiK,eE,eN])
 first
 |omega
 |exact Eq.refl _
 |(
  have h7:=qIH v;omega)
 |(
  have hb2:=congrArg ByteArray.size hb;have:=aV v0;have:=aV v;simp only[ByteArray.size_append,bM,List.length_cons,List.length_nil]at hb2 ⊢;omega))
  |(conv=>whnf
    first
     |with_reducible first|done|exact trivial|refine NilBr.mk (fun h=>?_) ?_|apply aJ|apply aI|refine aK (by kernel_rfl) ?_|apply aL|apply bA|apply aZ|apply aO
     |((with_reducible first|apply aQ|apply aP|apply aX)<;>intro h<;>(try dsimp only[cu,eE,eN]at h)<;>(try(exfalso;omega)))
     |(
 intro yy (hy:Tag 7/\_)
 obtain⟨(v:Int),(x:ByteArray),_⟩:=yy
 replace hy:=hy.2
 dsimp only[cu,aB,aA,gts,eE,eN]at hy
 obtain⟨hv,hb⟩:=hy)))
 all_goals(
 with_reducible apply Leaf.mk
 (try dsimp only[cu,aB,aA,gts,eE,eN]at *)
 rw[hb,JH hv.1 (by omega)])
abbrev qP6:Tbl:=(40,HQ)::tb9
theorem YO:aC Tryz.prog qP6:=aC.cons qLR qI2
def gv (v b k:Int):Int:=bOr .u64 v (rA .u64 (b%128) (7*k))
def PD (s:ByteArray) (at':Int):Nat->Int->Int->Int×Int×Int
 |0,_,_=>(0,0,8)
 |n+1,k,v=>if k>=s.size-at' then(0,0,10)else if k=9/\cT s (at'+k).toNat>1 then(0,0,8)
  else if cT s (at'+k).toNat>=128 then PD s at' n (k+1) (gv v (cT s (at'+k).toNat) k)
  else if cT s (at'+k).toNat=0/\k>0 then(0,0,2)else(gv v (cT s (at'+k).toNat) k,at'+k+1,0)
termination_by n _ _=>n
def qN (s:ByteArray) (at':Int):Int×Int×Int:=if at'<0\/at'>s.size then(0,0,4)else PD s at' 10 0 0
theorem aY (s:ByteArray):(bF s).length=s.size:=by simp [bF]
theorem FB (s:ByteArray) (k:Nat):(bF s)[k]! =cT s k:=by
 obtain⟨d⟩:=s;show(d.toList.map fun u=>(u.toNat:Int))[k]! =((d[k]!).toNat:Int)
 by_cases h:k<d.size
 ·rw[getElem!_pos _ k (by simpa using h),getElem!_pos d k h]
  simp
 ·rw[getElem!_neg _ k (by simpa using h),getElem!_neg d k h]
  rfl
theorem qPB {a c:Int} (ha:0<=a/\a<18446744073709551616) (hc:0<=c/\c<18446744073709551616):bOr .u64 a c=((a.toNat ||| c.toNat:Nat):Int):=by
 have q:∀x:Int,0<=x/\x<18446744073709551616->(BitVec.ofInt IntKind.u64.bits x).toNat=x.toNat:=by
  intro x hx;rw[BitVec.toNat_ofInt];simp [IntKind.bits];omega
 unfold bOr;rw[BitVec.toNat_or,q a ha,q c hc];have:a.toNat ||| c.toNat<2^64:=Nat.or_lt_two_pow (by omega) (by omega);exact aT (by omega)
theorem qOI (a b n:Nat) (h:a<2^n):a ||| (b*2^n)=a+b*2^n:=by
 have:=Nat.shiftLeft_add_eq_or_of_lt h b;rw[Nat.shiftLeft_eq]at this;rw[Nat.or_comm,<-this];omega
theorem qP4 {b:Int} {n:Nat} (hn:n<=64) (h:0<=b*2^n/\b*2^n<18446744073709551616):rA .u64 b n=b*2^n:=by
 unfold rA;rw[show min ((n:Int)).toNat IntKind.u64.bits=n by simp [IntKind.bits];omega];exact aT h
theorem qG5 {a b:Int} {n:Nat} (hn:n<=64) (ha:0<=a/\a<2^n) (hb:0<=b) (h:a+b*2^n<18446744073709551616):bOr .u64 a (rA .u64 b n)=a+b*2^n:=by
 have h0:0<=b*2^n:=Int.mul_nonneg hb (Int.le_of_lt (Int.pow_pos (by decide)));rw[qP4 hn ⟨h0,by omega⟩,qPB (by omega) (by omega)];have e:(b*2^n).toNat=b.toNat*2^n:=by
  obtain⟨m,rfl⟩:=Int.eq_ofNat_of_zero_le hb;have:((m:Int)*2^n)=((m*2^n:Nat):Int):=by push_cast;rfl
  rw[this];rfl
 have ha':a.toNat<2^n:=by
  have:((2^n:Nat):Int)=2^n:=by push_cast;rfl
  omega
 rw[e,qOI _ _ _ ha'];have:((b.toNat*2^n:Nat):Int)=b*2^n:=by push_cast;rw[Int.toNat_of_nonneg hb]
 omega
theorem UQ (k:Nat):(2:Int)^(7*k)=128^k:=by
 rw[Int.pow_mul];rfl
theorem qMU {v b:Int} {k:Nat} (hk:k<=9) (hv:0<=v/\v<128^k) (h:v+b%128*128^k<18446744073709551616):gv v b k=v+b%128*128^k:=by
 have:=qG5 (a:=v) (b:=b%128) (n:=7*k) (by omega) (by rw[UQ];exact hv) (by omega) (by rw[UQ];exact h);rw[UQ]at this;unfold gv;rw[show(7*(k:Int))=((7*k:Nat):Int)by push_cast;rfl];exact this
theorem VQ {s:ByteArray} {b:Int} (h:b∈bF s):0<=b/\b<256:=by
 unfold bF at h;obtain⟨u,_,rfl⟩:=List.mem_map.1 h;have:=u.toNat_lt;omega
theorem qCO {s:ByteArray} {i:Nat} (h:i<s.size):(bF s).drop i=cT s i::(bF s).drop (i+1):=by
 have:=bH (bF s) (i:Int) (by rw[aY];omega);rw[FB]at this;simpa using this
theorem qG7 (k:Nat):(0:Int)<128^k:=Int.pow_pos (by decide)
theorem JC (k:Nat):(128:Int)^(k+1)=128^k*128:=Int.pow_succ _ _
theorem JB {k:Nat} (h:k<=8):(128:Int)^k<=72057594037927936:=by
 have h1:k=0\/k=1\/k=2\/k=3\/k=4\/k=5\/k=6\/k=7\/k=8:=by omega
 rcases h1 with rfl|rfl|rfl|rfl|rfl|rfl|rfl|rfl|rfl<;>decide
theorem zD (s:ByteArray) (a:Nat):∀(n k:Nat) (v x e:Int),n+k=10->0<=v->v<128^k->PD s a n k v=(x,e,0) ->
  ∃u,0<=u/\x=v+u*128^k/\x<18446744073709551616/\e=a+k+(put u).length/\e<=s.size/\(bF s).drop (a+k)=put u++(bF s).drop e.toNat/\(0<k->0<u)
 |0,k,v,x,e,_,_,_,h=>by simp [PD]at h
 |n+1,k,v,x,e,hk,h0,h1,h=>by
  rw[PD]at h;have hp:=qG7 k;split at h
  ·simp at h
  ·rename_i h2
   have hi:a+k<s.size:=by omega
   rw[show((a:Int)+(k:Int)).toNat=a+k by omega]at h;have hb:=TG s (a+k);have hd:=qCO hi;generalize hbb:cT s (a+k)=b at h hb hd;split at h
   ·simp at h
   ·rename_i h3
    split at h
    ·rename_i h4
     have hk8:k<=8:=by omega
     have hm:b%128*128^k<=127*128^k:=Int.mul_le_mul_of_nonneg_right (by omega) (Int.le_of_lt hp);have hpm:=JB hk8;have hg:=qMU (v:=v) (b:=b) (k:=k) (by omega) ⟨h0,h1⟩ (by omega);have hg0:0<=b%128*128^k:=Int.mul_nonneg (by omega) (Int.le_of_lt hp);rw[hg,show((k:Int)+1)=((k+1:Nat):Int)by push_cast;rfl]at h;obtain⟨u,u0,u1,u2,u3,u4,u5,u6⟩:=zD s a n (k+1) _ x e (by omega) (by omega) (by rw[JC];omega) h;have up:=u6 (by omega);have e1:(b%128+128*u)*128^k=b%128*128^k+u*128^(k+1):=by rw[JC,Int.add_mul,Int.mul_comm 128 u,Int.mul_assoc,Int.mul_comm 128]
     have hle:b%128+128*u<=(b%128+128*u)*128^k:=by
      have:=Int.mul_le_mul_of_nonneg_left (show(1:Int)<=128^k by omega) (show 0<=b%128+128*u by omega);omega
     have hput:put (b%128+128*u)=b::put u:=by
      rw[QC (by omega) (by omega),show(b%128+128*u)/128=u by omega,show(b%128+128*u)%128+128=b by omega]
     refine⟨b%128+128*u,by omega,by omega,u2,?_,u4,?_,fun _=>by omega⟩
     ·rw[hput];simp;omega
     ·rw[hput,hd,show a+k+1=a+(k+1)by omega,u5];rfl
    ·rename_i h4
     split at h
     ·simp at h
     ·rename_i h5
      have hm:b%128=b:=by omega
      have hbp:v+b%128*128^k<18446744073709551616:=by
       rcases Nat.lt_or_ge k 9 with hk9|hk9
       ·have hpm:=JB (show k<=8 by omega)
        have:b%128*128^k<=127*128^k:=Int.mul_le_mul_of_nonneg_right (by omega) (Int.le_of_lt hp);omega
       ·have h9:k=9:=by omega
        subst h9;have:(128:Int)^9=9223372036854775808:=by decide
        rw[this]at h1 ⊢;omega
      have hg:=qMU (v:=v) (b:=b) (k:=k) (by omega) ⟨h0,h1⟩ hbp;injection h with q1 q2;injection q2 with q2 q3;refine⟨b,hb.1,by rw[<-q1,hg,hm],by rw[<-q1,hg];exact hbp,by rw[EB (by omega),<-q2];simp,by omega,?_,fun hk0=>by omega⟩;rw[EB (by omega),hd,<-q2,show((a:Int)+(k:Int)+1).toNat=a+k+1 by omega];rfl
theorem TX {s:ByteArray} {a v e:Int} (h:qN s a=(v,e,0)):0<=a/\a<=s.size/\0<=v/\v<18446744073709551616/\e=a+(put v).length/\e<=s.size/\(bF s).drop a.toNat=put v++(bF s).drop e.toNat:=by
 unfold qN at h;split at h
 ·simp at h
 ·rename_i hr
  obtain⟨m,rfl⟩:=Int.eq_ofNat_of_zero_le (show 0<=a by omega);obtain⟨u,u0,u1,u2,u3,u4,u5,_⟩:=zD s m 10 0 0 v e rfl (by decide) (by decide) h;have hu:v=u:=by rw[u1];simp
  subst hu;refine⟨by omega,by omega,u0,u2,?_,u4,?_⟩
  ·simpa using u3
  ·simpa using u5
theorem FZ {l:List Int} (h:∀b,b∈l->0<=b/\b<256):bF (aN l)=l:=by
 unfold bF aN;simp only[List.map_map];conv=>rhs;rw[<-List.map_id l]
 refine List.map_congr_left fun b hb=>?_
 have:=h b hb;show((UInt8.ofNat b.toNat).toNat:Int)=b;have hb':b.toNat<256:=by omega
 rw[UInt8.toNat_ofNat_of_lt' hb'];omega
theorem VP {a b:ByteArray} (h:bF a=bF b):a=b:=by
 apply ByteArray.ext;apply Array.ext';unfold bF at h;refine List.map_inj_right (f:=fun u:UInt8=>(u.toNat:Int)) (fun x y hxy=>?_) |>.1 h;exact UInt8.toNat_inj.1 (Int.ofNat.inj hxy)
end Go.Proofs.YtcjiefknhfhmkaaGreatDoor
namespace Go.Abs
set_option maxRecDepth 100000
set_option maxHeartbeats 4000000
set_option linter.unusedVariables false
set_option linter.unusedSimpArgs false
theorem vW (a b:ByteArray):dQ a b=true↔a.data.toList<b.data.toList:=by
 unfold dQ;rw[Proofs.bytesLess_eq,Lib.toList_data,Lib.toList_data];simp
theorem pL (a:ByteArray):¬dQ a a=true:=by rw[vW];exact List.lt_irrefl _
theorem xR {a b c:ByteArray} (h1:dQ a b=true) (h2:dQ b c=true):dQ a c=true:=by
 rw[vW]at *;exact List.lt_trans h1 h2
theorem OQ {a b:ByteArray} (h:a.data.toList=b.data.toList):a=b:=by
 cases a;cases b;simp at h;rw[h]
theorem XI (a b:List UInt8):a<b\/a=b\/b<a:=by
 rcases List.le_total a b with h|h
 ·by_cases q:a<b
  ·exact .inl q
  ·exact .inr (.inl (List.le_antisymm h (List.not_lt.1 q)))
 ·by_cases q:b<a
  ·exact .inr (.inr q)
  ·exact .inr (.inl (List.le_antisymm (List.not_lt.1 q) h))
theorem qLW (a b:ByteArray):dQ a b=true\/a=b\/dQ b a=true:=by
 rw[vW,vW];rcases XI a.data.toList b.data.toList with h|h|h
 ·exact .inl h
 ·exact .inr (.inl (OQ h))
 ·exact .inr (.inr h)
theorem qIE {a b:ByteArray} (h1:dQ a b=true):¬dQ b a=true:=fun h2=>pL a (xR h1 h2)
def tF (l:List ByteArray):Prop:=l.Pairwise fun a b=>dQ a b=true
theorem NK:∀ {a b:List ByteArray},tF a->tF b->(∀v,v∈a↔v∈b)->a=b
 | [],[],_,_,_=>rfl
 | [],y::b,_,_,h=>by have:=(h y).2 (by simp);simp at this
 |x::a,[],_,_,h=>by have:=(h x).1 (by simp);simp at this
 |x::a,y::b,ha,hb,h=>by
  have ha:=List.pairwise_cons.1 ha;have hb:=List.pairwise_cons.1 hb;have hxy:x=y:=by
   have h1:=(h x).1 (by simp);have h2:=(h y).2 (by simp);rcases List.mem_cons.1 h1 with q|q
   ·exact q
   ·rcases List.mem_cons.1 h2 with q2|q2
    ·exact q2.symm
    ·exact absurd (ha.1 y q2) (qIE (hb.1 x q))
  subst hxy;rw[NK ha.2 hb.2 (fun v=>?_)];constructor
  ·intro hv
   rcases List.mem_cons.1 ((h v).1 (List.mem_cons_of_mem _ hv))with q|q
   ·subst q;exact absurd (ha.1 v hv) (pL v)
   ·exact q
  ·intro hv
   rcases List.mem_cons.1 ((h v).2 (List.mem_cons_of_mem _ hv))with q|q
   ·subst q;exact absurd (hb.1 v hv) (pL v)
   ·exact q
theorem tN (l:List (List UInt8)) (j:Nat):Lib.keeps l.toArray j=true↔j=0\/l[j]! ≠l[j-1]!:=by
 simp [Lib.keeps,List.getElem!_toArray]
theorem DA (l:List (List UInt8)):Lib.compact l=((List.range l.length).filter (Lib.keeps l.toArray)).map (fun j=>l[j]!):=by
 simp [Lib.compact,Lib.compactUpTo,List.getElem!_toArray]
def leL (a b:List UInt8):Prop:=a<b\/a=b
theorem XG {l:List (List UInt8)} (h:l.Pairwise leL) {i j:Nat} (hij:i<=j) (hj:j<l.length):leL l[i]! l[j]!:=by
 rw[getElem!_pos l i (by omega),getElem!_pos l j hj];rcases Nat.eq_or_lt_of_le hij with q|q
 ·subst q;exact .inr rfl
 ·exact(List.pairwise_iff_getElem.1 h) i j (by omega) hj q
theorem TN {l:List (List UInt8)} (h:l.Pairwise leL):(Lib.compact l).Pairwise (fun a b=>a<b):=by
 rw[DA,List.pairwise_map];have hr:((List.range l.length).filter (Lib.keeps l.toArray)).Pairwise (fun a b=>a<b):=List.Pairwise.filter _ List.pairwise_lt_range;refine hr.imp_of_mem (fun{i j} hi hj hij=>?_);have hj2:=List.mem_filter.1 hj;have hjl:j<l.length:=by simpa using hj2.1
 have hk:=(tN l j).1 hj2.2;have h1:=XG h (i:=i) (j:=j-1) (by omega) (by omega);have h2:=XG h (i:=j-1) (j:=j) (by omega) hjl;rcases hk with q|q
 ·omega
 ·rcases h2 with h2|h2
  ·rcases h1 with h1|h1
   ·exact List.lt_trans h1 h2
   ·rw[h1];exact h2
  ·exact absurd h2.symm q
theorem yW {l:List (List UInt8)} (v:List UInt8):v∈Lib.compact l↔v∈l:=by
 rw[DA];constructor
 ·intro hv
  obtain⟨j,hj,rfl⟩:=List.mem_map.1 hv;have hjl:j<l.length:=by simpa using(List.mem_filter.1 hj).1
  rw[getElem!_pos l j hjl];exact List.getElem_mem hjl
 ·intro hv
  obtain⟨i,hi,rfl⟩:=List.mem_iff_getElem.1 hv;have go:∀i,i<l.length->∃j,j<l.length/\Lib.keeps l.toArray j=true/\l[j]! =l[i]!:=by
   intro i;induction i with
   |zero=>intro hi;exact⟨0,hi,(tN l 0).2 (.inl rfl),rfl⟩
   |succ i ih=>
    intro hi;by_cases q:l[i+1]! =l[i]!
    ·obtain⟨j,j1,j2,j3⟩:=ih (by omega)
     exact⟨j,j1,j2,by rw[j3,q]⟩
    ·exact⟨i+1,hi,(tN l (i+1)).2 (.inr (by simpa using q)),rfl⟩
  obtain⟨j,j1,j2,j3⟩:=go i hi;refine List.mem_map.2 ⟨j,List.mem_filter.2 ⟨by simpa using j1,j2⟩,?_⟩;rw[j3,getElem!_pos l i hi]
theorem qKZ {v:ByteArray} {l:List ByteArray}:v.data.toList∈bsL l↔v∈l:=by
 unfold bsL;rw[List.mem_map];constructor
 ·rintro⟨x,h1,h2⟩;rw[<-OQ h2];exact h1
 ·exact fun h=>⟨v,h,rfl⟩
theorem TM {l r:List ByteArray} (hr:tF r) (h:∀v,v∈r↔v∈l):lN (iD l)=r:=by
 refine NK ?_ hr fun v=>?_
 ·unfold lN iD tF
  rw[qMP,List.pairwise_map];have hp:(((bsL l).mergeSort fun x y=>decide (x<=y))).Pairwise leL:=by
   have:=List.pairwise_mergeSort (le:=fun x y:List UInt8=>decide (x<=y)) (fun a b c h1 h2=>by
    simp only[decide_eq_true_eq]at *;exact List.le_trans h1 h2) (fun a b=>by
    simp only[Bool.or_eq_true,decide_eq_true_eq];exact List.le_total a b) (bsL l)
   refine this.imp (fun{a b} q=>?_);simp only[decide_eq_true_eq]at q;rcases XI a b with p|p|p
   ·exact .inl p
   ·exact .inr p
   ·exact absurd p (List.not_lt.2 q)
  exact(TN hp).imp (fun{a b} q=>(vW _ _).2 q)
 ·rw[h v]
  unfold lN iD;rw[qMP,List.mem_map];constructor
  ·rintro⟨x,h1,rfl⟩
   rw[yW,(List.mergeSort_perm _ _).mem_iff]at h1;unfold bsL at h1;obtain⟨y,h2,rfl⟩:=List.mem_map.1 h1;exact h2
  ·intro hv
   refine⟨v.data.toList,?_,rfl⟩;rw[yW,(List.mergeSort_perm _ _).mem_iff,qKZ];exact hv
def plS (l:List ByteArray) (s:ByteArray):Nat:=(l.takeWhile fun w=>dQ w s).length
theorem xJ (l:List ByteArray) (s:ByteArray):plS l s<=l.length:=by
 unfold plS;induction l with
 |nil=>simp
 |cons x l ih=>rw[List.takeWhile_cons];split<;>simp;omega
theorem MC:∀ {l:List ByteArray} {s:ByteArray} {t:Nat},t<plS l s->dQ l[t]! s=true
 | [],s,t,h=>by simp [plS]at h
 |x::l,s,t,h=>by
  unfold plS at h;rw[List.takeWhile_cons]at h;split at h
  ·rename_i q
   cases t with
   |zero=>exact q
   |succ t=>exact MC (l:=l) (t:=t) (by unfold plS;simpa using h)
  ·simp at h
theorem MB:∀ {l:List ByteArray} {s:ByteArray},plS l s<l.length->¬dQ l[plS l s]! s=true
 | [],s,h=>by simp at h
 |x::l,s,h=>by
  unfold plS at h ⊢;rw[List.takeWhile_cons]at h ⊢;split
  ·rename_i q
   rw[if_pos q]at h;exact MB (l:=l) (by unfold plS;simpa using h)
  ·rename_i q
   exact q
theorem tT {l:List ByteArray} {s:ByteArray} {k:Nat} (h1:∀t,t<k->dQ l[t]! s=true) (h0:k<=l.length) (h2:k=l.length\/¬dQ l[k]! s=true):plS l s=k:=by
 rcases Nat.lt_trichotomy (plS l s) k with q|q|q
 ·exact absurd (h1 _ q) (MB (by omega))
 ·exact q
 ·rcases h2 with p|p
  ·have:=xJ l s;omega
  ·exact absurd (MC q) p
theorem NL {l:List ByteArray} (h:tF l) {i j:Nat} (hij:i<j) (hj:j<l.length):dQ l[i]! l[j]! =true:=by
 rw[getElem!_pos l i (by omega),getElem!_pos l j hj];exact(List.pairwise_iff_getElem.1 h) i j (by omega) hj hij
theorem qHB {l:List ByteArray} (h:tF l) {s:ByteArray} {t:Nat} (h1:plS l s<=t) (h2:t<l.length):¬dQ l[t]! s=true:=by
 intro q;rcases Nat.eq_or_lt_of_le h1 with p|p
 ·subst p;exact MB h2 q
 ·exact MB (by omega) (xR (NL h p h2) q)
theorem qLH {l:List ByteArray} (h:tF l) {i:Nat} (hi:i<l.length):plS l l[i]! =i:=
 tT (fun t ht=>NL h ht hi) (by omega) (.inr (pL _))
theorem KR (less:Nat->Bool) (k n:Nat) (h1:∀t,t<k->less t=true) (h2:∀t,k<=t->t<n->less t=false):∀(f lo hi:Nat),hi-lo<=f->lo<=k->k<=hi->hi<=n->Lib.bsGo less f lo hi=k
 |0,lo,hi,hf,a,b,_=>by
  rw[Lib.bsGo];omega
 |f+1,lo,hi,hf,a,b,c=>by
  rw[Lib.bsGo];by_cases h:lo<hi
  ·rw[if_pos h]
   by_cases hm:(lo+hi)/2<k
   ·rw[h1 _ hm,if_pos rfl];exact KR less k n h1 h2 f _ _ (by omega) (by omega) b c
   ·rw[h2 _ (by omega) (by omega)];exact KR less k n h1 h2 f _ _ (by omega) a (by omega) (by omega)
  ·rw[if_neg h];omega
theorem qJS {l:List ByteArray} (h:tF l) (x:ByteArray):bsI l x=(plS l x:Int):=by
 unfold bsI;congr 1
 exact KR _ (plS l x) l.length (fun t ht=>MC ht) (fun t ht htl=>by
  show dQ l[t]! x=false;rw[Bool.eq_false_iff];exact qHB h ht htl) _ _ _ (by omega) (by omega) (xJ l x) (by omega)
def iS (l:List ByteArray) (s:ByteArray):List ByteArray:=if plS l s=l.length\/l[plS l s]! ≠s then l.take (plS l s)++ [s]++l.drop (plS l s)else l
theorem qGL {l:List ByteArray} (h:tF l) (s v:ByteArray):v∈iS l s↔v=s\/v∈l:=by
 unfold iS;split
 ·have e:v∈l↔v∈l.take (plS l s)\/v∈l.drop (plS l s):=by
    conv=>lhs;rw[<-List.take_append_drop (plS l s) l]
    exact List.mem_append
  rw[List.mem_append,List.mem_append,List.mem_singleton,e];grind
 ·rename_i q
  have hlt:plS l s<l.length:=by have:=xJ l s;omega
  have hs:s∈l:=by
   have p:l[plS l s]! =s:=Decidable.not_not.1 fun p=>q (.inr p)
   rw[<-p,getElem!_pos l _ hlt];exact List.getElem_mem hlt
  constructor
  ·exact fun h=>.inr h
  ·rintro(rfl|h)
   ·exact hs
   ·exact h
theorem qGK {l:List ByteArray} (h:tF l) (s:ByteArray):tF (iS l s):=by
 unfold iS;split
 ·rename_i q
  unfold tF;rw[List.append_assoc,List.pairwise_append];have ht:∀a,a∈l.take (plS l s)->dQ a s=true:=fun a ha=>by
   obtain⟨i,hi,rfl⟩:=List.mem_iff_getElem.1 ha;have hi2:i<plS l s/\i<l.length:=by simp at hi;omega
   have:=MC (l:=l) (s:=s) (t:=i) hi2.1;rw[getElem!_pos l i hi2.2]at this;rw[List.getElem_take];exact this
  have hd:∀b,b∈l.drop (plS l s)->dQ s b=true:=fun b hb=>by
   obtain⟨i,hi,rfl⟩:=List.mem_iff_getElem.1 hb;have hi2:plS l s+i<l.length:=by simp at hi;omega
   have h1:=qHB h (s:=s) (t:=plS l s+i) (by omega) hi2;rw[List.getElem_drop,<-getElem!_pos l _ hi2];rcases qLW l[plS l s+i]! s with p|p|p
   ·exact absurd p h1
   ·exfalso
    have e:=qLH h hi2;rw[p]at e;have hi0:i=0:=by omega
    subst hi0;rcases q with q|q
    ·omega
    ·exact q p
   ·exact p
  refine⟨List.Pairwise.sublist (List.take_sublist _ _) h,?_,?_⟩
  ·rw[List.singleton_append,List.pairwise_cons]
   exact⟨hd,List.Pairwise.sublist (List.drop_sublist _ _) h⟩
  ·intro a ha b hb
   rw[List.singleton_append,List.mem_cons]at hb;rcases hb with rfl|hb
   ·exact ht a ha
   ·exact xR (ht a ha) (hd b hb)
 ·exact h
theorem DN (l:List ByteArray) (s:ByteArray):(iS l s).length<=l.length+1:=by
 unfold iS;split
 ·simp only[List.length_append,List.length_take,List.length_drop,List.length_singleton];omega
 ·omega
def bB (l:List ByteArray):List ByteArray:=l.foldl iS []
theorem AG:∀(l a:List ByteArray),tF a->tF (l.foldl iS a)/\(∀v,v∈l.foldl iS a↔v∈a\/v∈l)/\(l.foldl iS a).length<=a.length+l.length
 | [],a,h=>⟨h,fun v=>by simp,by simp⟩
 |x::l,a,h=>by
  obtain⟨h1,h2,h3⟩:=AG l (iS a x) (qGK h x);have:=DN a x;refine⟨h1,fun v=>?_,by rw[List.foldl_cons,List.length_cons];omega⟩;rw[List.foldl_cons,h2 v,qGL h,List.mem_cons];grind
theorem FE (l:List ByteArray):tF (bB l):=(AG l [] List.Pairwise.nil).1
theorem tY (l:List ByteArray) (v:ByteArray):v∈bB l↔v∈l:=by
 have:=(AG l [] List.Pairwise.nil).2.1 v;unfold bB;simpa using this
theorem cZ (l:List ByteArray):(bB l).length<=l.length:=by
 have:=(AG l [] List.Pairwise.nil).2.2;unfold bB;simpa using this
theorem tI (l:List ByteArray):lN (iD l)=bB l:=TM (FE l) (tY l)
def cI (l:List ByteArray):List Int:=l.map fun s=>(plS (bB l) s:Int)
theorem fG (l:List ByteArray):(cI l).length=l.length:=by simp [cI]
end Go.Abs
namespace Go.Proofs.YtcjiefknhfhmkaaGreatDoor
open Go.Abs
set_option maxRecDepth 100000
set_option maxHeartbeats 4000000
set_option linter.unusedVariables false
set_option linter.unusedSimpArgs false
theorem qKP {s:ByteArray} {a:Int} (h:(qN s a).2.2=0):0<=a/\a<(qN s a).2.1/\(qN s a).2.1<=s.size:=by
 have e:qN s a=((qN s a).1,(qN s a).2.1,0):=by
  rw[<-h]
 obtain⟨h1,h2,h3,h4,h5,h6,_⟩:=TX e;have:=aV (qN s a).1;exact⟨h1,by omega,h6⟩
def wdN (n:Int):Int:=lZ (cQ (n-1) 0)
def sR (s:ByteArray) (ws:List ByteArray):ByteArray:=ws.foldl (fun s w=>s++(aN (put (w.size:Int))++w)) s
theorem DG {s:ByteArray} {W:List ByteArray} {k:Int} (h:0<=k/\k<W.length):sR s (W.take (k+1).toNat)=sR s (W.take k.toNat)++(aN (put (W[k.toNat]!.size:Int))++W[k.toNat]!):=by
 rw[show(k+1).toNat=k.toNat+1 by omega,List.take_succ_eq_append_getElem (by omega)];unfold sR;rw[List.foldl_append,getElem!_pos W k.toNat (by omega)];rfl
theorem DF {B:Nat}:∀(W:List ByteArray) (s:ByteArray),(∀w,w∈W->w.size<=B)->(sR s W).size<=s.size+W.length*(B+10)
 | [],s,_=>by simp [sR]
 |w::W,s,h=>by
  have ih:=DF W (s++(aN (put (w.size:Int))++w)) (fun v hv=>h v (by simp [hv]));have h1:=h w (by simp);have h2:=aV (w.size:Int);have e:(s++(aN (put (w.size:Int))++w)).size=s.size+((put (w.size:Int)).length+w.size):=by simp only[ByteArray.size_append,bM]
  rw[e]at ih;show(sR (s++(aN (put (w.size:Int))++w)) W).size<=_;simp only[List.length_cons,Nat.add_mul];omega
def kF (l:List ByteArray):ByteArray:=if l.length>4096 then⟨#[]⟩else sR (aN (put ((bB l).length:Int))) (bB l)++(jF (cI l) (wdN (bB l).length)).1
theorem zT {l:List ByteArray} {B:Nat} (h:∀w,w∈l->w.size<=B):∀w,w∈bB l->w.size<=B:=fun w hw=>h w ((tY l w).1 hw)
theorem mU {l:List ByteArray} {v:Int} {k:Nat} (h:∀w,w∈l->w.size<=1073741824) (hl:l.length<=4096):(sR (aN (put v)) ((bB l).take k)).size<=4398046552074:=by
 have h1:=DF (B:=1073741824) ((bB l).take k) (aN (put v)) (fun w hw=>zT h w (List.mem_of_mem_take hw));have h2:=aV v;have h3:=cZ l;rw[bM]at h1;have h4:((bB l).take k).length<=4096:=by simp;omega
 have h5:((bB l).take k).length*(1073741824+10)<=4096*(1073741824+10):=Nat.mul_le_mul_right _ h4;omega
theorem TJ (l:List ByteArray):∀c,c∈cI l->0<=c/\c<=(bB l).length:=by
 intro c hc;obtain⟨s,_,rfl⟩:=List.mem_map.1 hc;have:=xJ (bB l) s;omega
theorem rK (l:List ByteArray) (k:Nat):0<=(cI l)[k]! /\(cI l)[k]! <=l.length:=by
 by_cases h:k<(cI l).length
 ·have:=TJ l (cI l)[k]! (by rw[getElem!_pos _ k h];exact List.getElem_mem h)
  have:=cZ l;omega
 ·rw[getElem!_neg _ k h];exact⟨Int.le_refl _,by show(0:Int)<=_;omega⟩
theorem qCG {l:List ByteArray} {k:Int} (h:0<=k/\k<l.length):(cI l)[k.toNat]! =(plS (bB l) l[k.toNat]!:Int):=by
 rw[getElem!_pos (cI l) k.toNat (by rw[fG];omega),getElem!_pos l k.toNat (by omega)];simp [cI]
theorem CY {l:List ByteArray} {k:Int} (h:0<=k/\k<l.length):(cI l).take (k+1).toNat=(cI l).take k.toNat++ [(plS (bB l) l[k.toNat]!:Int)]:=by
 rw[show(k+1).toNat=k.toNat+1 by omega,List.take_succ_eq_append_getElem (by rw[fG];omega),<-qCG h,getElem!_pos (cI l) k.toNat (by rw[fG];omega)]
theorem VT {l:List ByteArray} {k:Int} (h:0<=k/\k<l.length):(l.take (k+1).toNat).foldl iS []=iS ((l.take k.toNat).foldl iS []) l[k.toNat]!:=by
 rw[show(k+1).toNat=k.toNat+1 by omega,List.take_succ_eq_append_getElem (by omega),List.foldl_append,getElem!_pos l k.toNat (by omega)];rfl
theorem FF (l:List ByteArray) (k:Nat):((l.take k).foldl iS []).length<=l.length:=by
 have:=cZ (l.take k);unfold bB at this;simp at this;omega
theorem qKS {M:List ByteArray} {s:ByteArray} (h:¬((plS M s:Int)=M.length)) (h2:M[(plS M s:Int).toNat]! =s):iS M s=M:=by
 rw[Int.toNat_natCast]at h2;unfold iS;rw[if_neg];rintro(q|q)
 ·exact h (by omega)
 ·exact q h2
theorem qGM {M:List ByteArray} {s:ByteArray} (h:(plS M s:Int)=M.length\/¬M[(plS M s:Int).toNat]! =s):iS M s=M.take (plS M s)++ [s]++M.drop (plS M s):=by
 rw[Int.toNat_natCast]at h;unfold iS;rw[if_pos];rcases h with q|q
 ·exact .inl (by omega)
 ·exact .inr q
theorem qB8 (l:List ByteArray) (x:ByteArray):bsI (lN (iD l)) x=(plS (bB l) x:Int):=by rw[tI,qJS (FE l)]
theorem qFJ (l:List ByteArray):(lN (iD l)).length<=l.length:=by rw[tI];exact cZ l
theorem qDA (w:Int) (h:0<=w/\w<=64):(jF [] w).1=⟨#[]⟩:=by
 have e:(iA ((([]:List Int).length:Nat):Int) w).toNat=0:=by
  obtain⟨h1,_⟩:=nR (n:=((([]:List Int).length:Nat):Int)) (w:=w) ⟨⟨by simp,by simp⟩,h⟩;rw[h1];simp
 unfold jF;rw[if_neg (by omega),if_neg (by simp),if_neg (by simp [nJ]),e];rfl
theorem qMI (n:Int) (h:n<=9223372036854775807):0<=wdN n/\wdN n<=64:=by
 unfold wdN;have hm:cQ (n-1) 0<18446744073709551616:=by unfold cQ;split<;>omega
 exact LT hm
abbrev BZ:Ct:=.fn [.list .str,.str] (some (fun(l:List ByteArray) (s:ByteArray)=>(l.length<=4611686018427387904))) (fun(l:List ByteArray) (s:ByteArray)=>.d (.int .i64) (plS l s:Int))
theorem qHE:aG Tryz.prog 208 BZ:=by
 refine aG.fn YO mixed [] [] rfl rfl ?_;rintro⟨(l:List ByteArray),(s:ByteArray),_⟩ hpre;replace hpre:=hpre _ rfl;dsimp only[cu]at hpre;have hl:=hpre;refine⟨[(0,4,LA.mk [.sl 5 (.int .i64)] (fun y=>Tag 8/\cu [.int .i64] (fun(i:Int)=>(0<=i/\i<=l.length)/\(∀t:Nat,(t:Int)<i->dQ l[t]! s=true)) y) (cu [.int .i64] (fun(i:Int)=>((l.length:Int)-i).toNat)) (cu [.int .i64] (fun(i:Int)=>([]:List (Nat×Nat×LA)))))],?_⟩;repeat' (first
  |(
 with_reducible refine Side.mk ⟨(⟨⟩:Tag 8),?_⟩
 dsimp only[cu,aB,aA,gts,eE,eN]
 refine⟨?_,?_⟩
 ·omega
 ·first
  |intro t ht;omega
  |(
  intro t ht
  rcases Int.lt_or_le (t:Int) i with q|q
  ·exact hp t q
  ·rw[show t=i.toNat by omega];assumption))
  |(
 with_reducible apply Side.mk
 (try dsimp only[cu,aB,aA,gts,loK,hiK,eE,eN])
 omega)
  |(conv=>whnf
    first
     |with_reducible first|done|exact trivial|refine NilBr.mk (fun h=>?_) ?_|apply aJ|apply aI|refine aK (by kernel_rfl) ?_|apply aL|apply bA|apply aZ|apply aO
     |((with_reducible first|apply aQ|apply aP|apply aX)<;>intro h<;>(try dsimp only[cu,eE,eN]at h)<;>(try(exfalso;omega)))
     |(
 intro yy (hy:Tag 8/\_)
 obtain⟨(i:Int),_⟩:=yy
 replace hy:=hy.2
 dsimp only[cu,aB,aA,gts,eE,eN]at hy
 obtain⟨hi,hp⟩:=hy)))
 all_goals(
 with_reducible apply Leaf.mk
 (try dsimp only[cu,aB,aA,gts,eE,eN]at *)
 first
 |(
  have e:i.toNat=l.length:=by omega
  have e2:=tT (k:=i.toNat) (fun t ht=>hp t (by omega)) (by omega) (.inl e);show(i:Int)=(plS l s:Int)
  omega)
 |(
  have e:¬dQ l[i.toNat]! s=true:=by first|assumption|(simp_all;done)
  have e2:=tT (k:=i.toNat) (fun t ht=>hp t (by omega)) (by omega) (.inr e);show(i:Int)=(plS l s:Int)
  omega))
abbrev qP7:Tbl:=(208,BZ)::qP6
theorem YP:aC Tryz.prog qP7:=aC.cons qHE YO
abbrev yM:Ct:=.fn [.list .str] (some (fun(l:List ByteArray)=>(l.length<=1073741824))) (fun(l:List ByteArray)=>.tup [.list .str,.list (.int .i64)] (bB l,cI l,()))
theorem qDJ:aG Tryz.prog 182 yM:=by
 refine aG.fn YP mixed [] [] rfl rfl ?_;rintro⟨(l:List ByteArray),_⟩ hpre;replace hpre:=hpre _ rfl;dsimp only[cu]at hpre;have hl:=hpre;refine⟨[(0,6,LA.mk [.sl 14 (.int .i64),.lst 4 .str 9] (fun y=>Tag 9/\cu [.int .i64,.list .str] (fun(k:Int) (M:List ByteArray)=>(0<=k/\k<=l.length)/\(M=(l.take k.toNat).foldl iS [])) y) (cu [.int .i64,.list .str] (fun(k:Int) (M:List ByteArray)=>((l.length:Int)-k).toNat)) (cu [.int .i64,.list .str] (fun(k:Int) (M:List ByteArray)=>([]:List (Nat×Nat×LA))))),(0,26,LA.mk [.sl 49 (.int .i64),.lst 9 (.int .i64) 3] (fun y=>Tag 10/\cu [.int .i64,.list (.int .i64)] (fun(k:Int) (C:List Int)=>(0<=k/\k<=l.length)/\(C=(cI l).take k.toNat)) y) (cu [.int .i64,.list (.int .i64)] (fun(k:Int) (C:List Int)=>((l.length:Int)-k).toNat)) (cu [.int .i64,.list (.int .i64)] (fun(k:Int) (C:List Int)=>([]:List (Nat×Nat×LA)))))],?_⟩;repeat' (first
  |(
 with_reducible refine Side.mk ⟨(⟨⟩:Tag 9),?_⟩
 dsimp only[cu,aB,aA,gts,eE,eN]
 refine⟨?_,?_⟩
 ·omega
 ·first
  |rfl
  |(
  have e:=VT (l:=l) (k:=k) (by omega)
  rw[<-hM]at e
  first
  |(
   have e1:¬((plS M l[k.toNat]!:Int)=M.length):=by first|omega|(simp_all;done)
   have e2:M[(plS M l[k.toNat]!:Int).toNat]! =l[k.toNat]!:=by simp_all;done
   rw[e,qKS e1 e2])
  |(
   have e1:(plS M l[k.toNat]!:Int)=M.length\/¬M[(plS M l[k.toNat]!:Int).toNat]! =l[k.toNat]!:=by first|(left;omega)|(right;assumption)|(right;simp_all;done)
   rw[e,qGM e1];have h0:=xJ M l[k.toNat]!;clear hM e e1;simp only[MP,List.nil_append,Int.toNat_natCast,List.append_nil,List.drop_zero];have e4:((M.length:Int)-(plS M l[k.toNat]!:Int)).toNat=M.length-plS M l[k.toNat]!:=by omega
   (try rw[e4]);first|(have e5:plS M l[k.toNat]! =M.length:=(by omega);rw[e5];simp;done)|(have e5:plS M l[k.toNat]! =0:=(by omega);rw[e5];simp;done)|(have e5:(M.drop (plS M l[k.toNat]!)).take (M.length-plS M l[k.toNat]!)=M.drop (plS M l[k.toNat]!):=List.take_of_length_le (by simp);rw[e5])|grind)))
  |(
 with_reducible refine Side.mk ⟨(⟨⟩:Tag 10),?_⟩
 dsimp only[cu,aB,aA,gts,eE,eN]
 refine⟨?_,?_⟩
 ·omega
 ·first
  |rfl
  |(rw[CY (by omega),<-hC,show bB l=M by(unfold bB;rw[hM,List.take_of_length_le (by omega)])]))
  |(
 with_reducible apply Side.mk
 (try dsimp only[cu,aB,aA,gts,loK,hiK,eE,eN])
 first
 |done
 |omega
 |exact Eq.refl _
 |simp only[List.length_append,List.length_cons,List.length_nil];omega
 |(
  have hw:=FF l k.toNat;(try rw[<-hM]at hw);omega)
 |(
  rw[hM,List.take_of_length_le (by omega)];show(bB l).length<=4611686018427387904;have:=cZ l;omega)
 |(
  have hw:=FF l k.toNat;(try rw[<-hM]at hw);first
  |(
   have h0:=xJ M l[k.toNat]!;(try simp only[List.length_append,List.length_take,List.length_drop,List.length_cons,List.length_nil,MP]);omega)
  |(
   have hcl:=congrArg List.length hC;simp only[List.length_take,List.length_cons,List.length_nil]at hcl ⊢;omega)))
  |(conv=>whnf
    first
     |with_reducible first|done|exact trivial|refine NilBr.mk (fun h=>?_) ?_|apply aJ|apply aI|refine aK (by kernel_rfl) ?_|apply aL|apply bA|apply aZ|apply aO
     |((with_reducible first|apply aQ|apply aP|apply aX)<;>intro h<;>(try dsimp only[cu,eE,eN]at h)<;>(try(exfalso;omega)))
     |(
 intro yy (hy:Tag 9/\_)
 obtain⟨(k:Int),(M:List ByteArray),_⟩:=yy
 replace hy:=hy.2
 dsimp only[cu,aB,aA,gts,eE,eN]at hy
 obtain⟨hk,hM⟩:=hy)
     |(
 intro yy (hy:Tag 10/\_)
 obtain⟨(k:Int),(C:List Int),_⟩:=yy
 replace hy:=hy.2
 dsimp only[cu,aB,aA,gts,eE,eN]at hy
 obtain⟨hk,hC⟩:=hy)))
 all_goals(
 with_reducible apply Leaf.mk
 (try dsimp only[cu,aB,aA,gts,eE,eN]at *)
 first
 |(
  unfold bB;rw[hM,List.take_of_length_le (by omega)])
 |(rw[hC,List.take_of_length_le (by rw[fG];omega)]))
abbrev qP8:Tbl:=(182,yM)::qP7
theorem qL7:aC Tryz.prog qP8:=aC.cons qDJ YP
theorem qL0 {l:List ByteArray} {B:Nat} (h:∀w,w∈l->w.size<=B) (k:Nat):l[k]!.size<=B:=by
 by_cases q:k<l.length
 ·exact h _ (by rw[getElem!_pos l k q];exact List.getElem_mem q)
 ·rw[getElem!_neg l k q];exact Nat.zero_le _
theorem wE {l:List ByteArray} (h:∀w,w∈l->w.size<=1073741824) (k:Nat):(bB l)[k]!.size<=1073741824:=qL0 (zT h) k
theorem qF0 {l:List ByteArray} (h:bB l= []):(jF (cI l) (wdN (bB l).length)).1=⟨#[]⟩:=by
 have hl:l= []:=by
  cases l with
  |nil=>rfl
  |cons a l=>
   have:=(tY (a::l) a).2 (by simp);rw[h]at this;simp at this
 subst hl;exact qDA _ (qMI _ (by simp [bB]))
theorem FN (s:ByteArray):s++⟨#[]⟩=s:=by
 show s++ByteArray.empty=s;simp
theorem bC (s:ByteArray):aN (bF s)=s:=by
 apply VP;exact FZ (fun b hb=>VQ hb)
theorem iK (l:List Int) (w:Int):(jF l w).1.size<=32768:=by
 unfold jF;split
 ·exact Nat.zero_le _
 split
 ·exact Nat.zero_le _
 split
 ·exact Nat.zero_le _
 ·rw[bM,lE]
  obtain⟨h1,h2⟩:=nR (n:=(l.length:Int)) (w:=w) ⟨⟨by omega,by omega⟩,by omega⟩;rw[h1];omega
theorem IF {l:List ByteArray} {C:List Int} {k:Int} (hc:C.length=(cI l).length) (hC:C.take k.toNat=(cI l).take k.toNat) (h:¬k<(cI l).length):C=cI l:=by
 rw[List.take_of_length_le (by omega),List.take_of_length_le (by omega)]at hC;exact hC
abbrev qQA:Tbl:=(204,CQ)::qP8
theorem qL8:aC Tryz.prog qQA:=aC.cons qIJ qL7
abbrev qQB:Tbl:=(205,BR)::qQA
theorem qL9:aC Tryz.prog qQB:=aC.cons qFI qL8
abbrev qQC:Tbl:=(206,WF)::qQB
theorem YQ:aC Tryz.prog qQC:=aC.cons qPE qL9
abbrev BP:Ct:=.fn [.list .str] (some (fun(l:List ByteArray)=>(l.length<=1073741824))) (fun(l:List ByteArray)=>.tup [.list .str,.list (.int .i64)] (bB l,cI l,()))
theorem qFA:aG Tryz.prog 179 BP:=by
 refine aG.fn YQ mixed [(203,2,4000002)] [203] rfl rfl ?_;rintro⟨(l:List ByteArray),_⟩ hpre;replace hpre:=hpre _ rfl;dsimp only[cu]at hpre;have hl:=hpre;refine⟨[(0,12,LA.mk [.sl 19 (.int .i64),.ar 2 (.int .i64) 3] (fun y=>Tag 11/\cu [.int .i64,.list (.int .i64)] (fun(k:Int) (C:List Int)=>(0<=k/\k<=l.length)/\(C.length=l.length)/\(C.take k.toNat=(cI l).take k.toNat)) y) (cu [.int .i64,.list (.int .i64)] (fun(k:Int) (C:List Int)=>((l.length:Int)-k).toNat)) (cu [.int .i64,.list (.int .i64)] (fun(k:Int) (C:List Int)=>([]:List (Nat×Nat×LA)))))],?_⟩;repeat' (first
  |(
 with_reducible refine Side.mk ⟨(⟨⟩:Tag 11),?_⟩
 dsimp only[cu,aB,aA,gts,eE,eN]
 refine⟨?_,?_,?_⟩
 ·omega
 ·first
  |simp;done
  |simp;omega
 ·first
  |rfl
  |(
  exfalso
  simp_all;omega)
  |(rw[CY (by omega),show(k+1).toNat=k.toNat+1 by omega,FA _ _ _ (by omega),hC,qB8]))
  |(
 with_reducible apply Side.mk
 (try dsimp only[cu,aB,aA,gts,loK,hiK,eE,eN])
 first
 |done
 |omega
 |exact Eq.refl _
 |simp only[List.length_append,List.length_cons,List.length_nil];omega
 |(
  have:=qFJ l;omega)
 |simp [mN];done
 |(rw[mN];omega))
  |(conv=>whnf
    first
     |with_reducible first|done|exact trivial|refine NilBr.mk (fun h=>?_) ?_|apply aJ|apply aI|refine aK (by kernel_rfl) ?_|apply aL|apply bA|apply aZ|apply aO
     |((with_reducible first|apply aQ|apply aP|apply aX)<;>intro h<;>(try dsimp only[cu,eE,eN]at h)<;>(try(exfalso;omega)))
     |(
 intro yy (hy:Tag 11/\_)
 obtain⟨(k:Int),(C:List Int),_⟩:=yy
 replace hy:=hy.2
 dsimp only[cu,aB,aA,gts,eE,eN]at hy
 obtain⟨hk,hcl,hC⟩:=hy)))
 all_goals(
 with_reducible apply Leaf.mk
 (try dsimp only[cu,aB,aA,gts,eE,eN]at *)
 first
 |exact tI l
 |(
  have e:k.toNat=l.length:=by omega
  rw[e,List.take_of_length_le (by omega),List.take_of_length_le (Nat.le_of_eq (fG l))]at hC;exact hC)
 |(simp_all [bB,cI];done))
abbrev qQD:Tbl:=(179,BP)::qQC
theorem YR:aC Tryz.prog qQD:=aC.cons qFA YQ
abbrev yF:Ct:=.fn [.int .i64] (some (fun(n:Int)=>(0<=n/\n<=4611686018427387904))) (fun(n:Int)=>.d (.int .i64) (wdN n))
theorem qCQ:aG Tryz.prog 181 yF:=by
 refine aG.fn YR mixed [] [] rfl rfl ?_;rintro⟨(n:Int),_⟩ hpre;replace hpre:=hpre _ rfl;dsimp only[cu]at hpre;have hn:=hpre;refine⟨[],?_⟩;repeat' (first
  |(
 with_reducible apply Side.mk
 (try dsimp only[cu,aB,aA,gts,loK,hiK,eE,eN])
 first
 |omega
 |(
  have:cQ (n-1) 0<=4611686018427387904/\0<=cQ (n-1) 0:=by unfold cQ;split<;>omega
  rw[aT (by omega)];omega))
  |(conv=>whnf
    first
     |with_reducible first|done|exact trivial|refine NilBr.mk (fun h=>?_) ?_|apply aJ|apply aI|refine aK (by kernel_rfl) ?_|apply aL|apply bA|apply aZ|apply aO
     |((with_reducible first|apply aQ|apply aP|apply aX)<;>intro h<;>(try dsimp only[cu,eE,eN]at h)<;>(try(exfalso;omega)))))
 all_goals(
 with_reducible apply Leaf.mk
 (try dsimp only[cu,aB,aA,gts,eE,eN]at *)
 (
  have:cQ (n-1) 0<=4611686018427387904/\0<=cQ (n-1) 0:=by unfold cQ;split<;>omega
  rw[aT (by omega)];rfl))
abbrev qQE:Tbl:=(181,yF)::qQD
theorem YS:aC Tryz.prog qQE:=aC.cons qCQ YR
abbrev yG:Ct:=.fn [.list .str] (some (fun(l:List ByteArray)=>(∀w,w∈l->w.size<=1073741824)/\(l.length<=1073741824))) (fun(l:List ByteArray)=>.d .str (kF l))
theorem qCS:aG Tryz.prog 153 yG:=by
 refine aG.fn YS mixed [(0,4,3000005)] [] rfl rfl ?_;rintro⟨(l:List ByteArray),_⟩ hpre;replace hpre:=hpre _ rfl;dsimp only[cu]at hpre;obtain⟨hb,hl⟩:=hpre;refine⟨[(0,12,LA.mk [.sl 28 (.int .i64),.lst 5 (.int .u8) 5] (fun y=>Tag 12/\cu [.int .i64,.list (.int .u8)] (fun(k:Int) (M:List Int)=>(0<=k/\k<=(bB l).length)/\(aN M=sR (aN (put ((bB l).length:Int))) ((bB l).take k.toNat))) y) (cu [.int .i64,.list (.int .u8)] (fun(k:Int) (M:List Int)=>(((bB l).length:Int)-k).toNat)) (cu [.int .i64,.list (.int .u8)] (fun(k:Int) (M:List Int)=>([]:List (Nat×Nat×LA))))),(0,26,LA.mk [.sl 47 (.int .i64),.ar 1 (.int .u64) 86] (fun y=>Tag 13/\cu [.int .i64,.list (.int .u64)] (fun(k:Int) (C:List Int)=>(0<=k/\k<=(cI l).length)/\(C.length=(cI l).length)/\(C.take k.toNat=(cI l).take k.toNat)) y) (cu [.int .i64,.list (.int .u64)] (fun(k:Int) (C:List Int)=>(((cI l).length:Int)-k).toNat)) (cu [.int .i64,.list (.int .u64)] (fun(k:Int) (C:List Int)=>([]:List (Nat×Nat×LA)))))],?_⟩;repeat' (first
  |(
 with_reducible refine Side.mk ⟨(⟨⟩:Tag 12),?_⟩
 dsimp only[cu,aB,aA,gts,eE,eN]
 refine⟨?_,?_⟩
 ·omega
 ·first
  |rw[aT (by have:=cZ l;omega),bC];rfl
  |(
  have hw:=cZ l
  have hsz:=wE hb k.toNat
  rw[DG (by omega),bQ,bQ,hM,bC,bC,aT (by omega),ByteArray.append_assoc]))
  |(
 with_reducible refine Side.mk ⟨(⟨⟩:Tag 13),?_⟩
 dsimp only[cu,aB,aA,gts,eE,eN]
 refine⟨?_,?_,?_⟩
 ·omega
 ·first
  |simp;done
  |simp;omega
 ·first
  |rfl
  |(
  have hc:=rK l k.toNat
  rw[show(k+1).toNat=k.toNat+1 by omega,FA _ _ _ (by omega),hC,aT (by omega),List.take_succ_eq_append_getElem (by omega),getElem!_pos _ k.toNat (by omega)]))
  |(
 with_reducible apply Side.mk
 (try dsimp only[cu,aB,aA,gts,loK,hiK,eE,eN])
 first
 |done
 |omega
 |(
  have:=cZ l;omega)
 |exact gQ _
 |rw[aY];done
 |(
  have hp2:=aV (IntKind.u64.wrap ((bB l).length:Int));rw[aY,bM];omega)
 |(
  have hw:=cZ l;have hsz:=wE hb k.toNat;have hm:=congrArg ByteArray.size hM;rw[bM]at hm;have ht:=mU (v:=((bB l).length:Int)) (k:=k.toNat) hb (by omega);have hp:=aV ((bB l)[k.toNat]!.size:Int);have hp2:=aV (IntKind.u64.wrap ((bB l)[k.toNat]!.size:Int));(try simp only[bM,aY,List.length_append]);omega)
 |(
  have:=fG l;omega)
 |(
  have e:=IF hcl hC (by assumption);subst e;refine⟨fun i=>?_,by rw[fG];omega⟩;have:=rK l i;omega)
 |(
  have hm:=congrArg ByteArray.size hM;rw[List.take_of_length_le (by omega)]at hm;have ht:=mU (v:=((bB l).length:Int)) (k:=(bB l).length) hb (by omega);rw[List.take_of_length_le (by omega)]at ht;have:=iK C (wdN ((bB l).length:Int));omega))
  |(conv=>whnf
    first
     |with_reducible first|done|exact trivial|refine NilBr.mk (fun h=>?_) ?_|apply aJ|apply aI|refine aK (by kernel_rfl) ?_|apply aL|apply bA|apply aZ|apply aO
     |((with_reducible first|apply aQ|apply aP|apply aX)<;>intro h<;>(try dsimp only[cu,eE,eN]at h)<;>(try(exfalso;omega)))
     |(
 intro yy (hy:Tag 12/\_)
 obtain⟨(k:Int),(M:List Int),_⟩:=yy
 replace hy:=hy.2
 dsimp only[cu,aB,aA,gts,eE,eN]at hy
 obtain⟨hk,hM⟩:=hy)
     |(
 intro yy (hy:Tag 13/\_)
 obtain⟨(k:Int),(C:List Int),_⟩:=yy
 replace hy:=hy.2
 dsimp only[cu,aB,aA,gts,eE,eN]at hy
 obtain⟨hk,hcl,hC⟩:=hy)))
 all_goals(
 with_reducible apply Leaf.mk
 (try dsimp only[cu,aB,aA,gts,eE,eN]at *)
 first
 |(
  have e0:l.length>4096:=by omega
  rw[kF,if_pos e0])
 |(
  have e:=IF hcl hC (by assumption);subst e;rw[kF,if_neg (by omega),hM,List.take_of_length_le (by omega)]))
abbrev qQF:Tbl:=(153,yG)::qQE
theorem YT:aC Tryz.prog qQF:=aC.cons qCS YS
abbrev uQ:Ct:=.fn [.list .str] (some (fun(l:List ByteArray)=>(∀w,w∈l->w.size<=1073741824)/\(l.length<=1073741824))) (fun(l:List ByteArray)=>.d .str (kF l))
theorem VC:aG Tryz.prog 157 uQ:=by
 refine aG.fn YT mixed [] [] rfl rfl ?_;rintro⟨(l:List ByteArray),_⟩ hpre;replace hpre:=hpre _ rfl;dsimp only[cu]at hpre;obtain⟨hb,hl⟩:=hpre;refine⟨[(0,12,LA.mk [.sl 27 (.int .i64),.sl 5 .str] (fun y=>Tag 14/\cu [.int .i64,.str] (fun(k:Int) (x:ByteArray)=>(0<=k/\k<=(bB l).length)/\(x=sR (aN (put ((bB l).length:Int))) ((bB l).take k.toNat))) y) (cu [.int .i64,.str] (fun(k:Int) (x:ByteArray)=>(((bB l).length:Int)-k).toNat)) (cu [.int .i64,.str] (fun(k:Int) (x:ByteArray)=>([]:List (Nat×Nat×LA))))),(0,28,LA.mk [.sl 46 (.int .i64),.lst 8 (.int .u64) 86] (fun y=>Tag 15/\cu [.int .i64,.list (.int .u64)] (fun(k:Int) (C:List Int)=>(0<=k/\k<=(cI l).length)/\(C=(cI l).take k.toNat)) y) (cu [.int .i64,.list (.int .u64)] (fun(k:Int) (C:List Int)=>(((cI l).length:Int)-k).toNat)) (cu [.int .i64,.list (.int .u64)] (fun(k:Int) (C:List Int)=>([]:List (Nat×Nat×LA)))))],?_⟩;repeat' (first
  |(
 with_reducible refine Side.mk ⟨(⟨⟩:Tag 14),?_⟩
 dsimp only[cu,aB,aA,gts,eE,eN]
 refine⟨?_,?_⟩
 ·omega
 ·first
  |rw[aT (by have:=cZ l;omega)];rfl
  |(
  have hw:=cZ l
  have hsz:=wE hb k.toNat
  rw[DG (by omega),hM,aT (by omega)]))
  |(
 with_reducible refine Side.mk ⟨(⟨⟩:Tag 15),?_⟩
 dsimp only[cu,aB,aA,gts,eE,eN]
 refine⟨?_,?_⟩
 ·omega
 ·first
  |rfl
  |(
  have hc:=rK l k.toNat
  rw[show(k+1).toNat=k.toNat+1 by omega,hC,aT (by omega),List.take_succ_eq_append_getElem (by omega),getElem!_pos _ k.toNat (by omega)]))
  |(
 with_reducible apply Side.mk
 (try dsimp only[cu,aB,aA,gts,loK,hiK,eE,eN])
 first
 |done
 |omega
 |exact Eq.refl _
 |(
  have:=cZ l;omega)
 |exact gQ _
 |(
  have hcl:=congrArg List.length hC;simp only[List.length_take,List.length_cons,List.length_nil]at hcl ⊢;have:=fG l;omega)
 |(
  have e:C=cI l:=by rw[hC,List.take_of_length_le (by omega)]
  subst e;refine⟨fun i=>?_,by rw[fG];omega⟩;have:=rK l i;omega)
 |(
  have hm:=congrArg ByteArray.size hM;first
  |(
   have ht:=mU (v:=((bB l).length:Int)) (k:=k.toNat) hb (by omega);have hp:=aV (IntKind.u64.wrap ((bB l)[k.toNat]!.size:Int));have hsz:=wE hb k.toNat;simp only[ByteArray.size_append,bM];omega)
  |(
   rw[List.take_of_length_le (by omega)]at hm;have ht:=mU (v:=((bB l).length:Int)) (k:=(bB l).length) hb (by omega);rw[List.take_of_length_le (by omega)]at ht;have hpk:=iK C (lZ (IntKind.u64.wrap ((bB l).length-1)));omega)))
  |(conv=>whnf
    first
     |with_reducible first|done|exact trivial|refine NilBr.mk (fun h=>?_) ?_|apply aJ|apply aI|refine aK (by kernel_rfl) ?_|apply aL|apply bA|apply aZ|apply aO
     |((with_reducible first|apply aQ|apply aP|apply aX)<;>intro h<;>(try dsimp only[cu,eE,eN]at h)<;>(try(exfalso;omega)))
     |(
 intro yy (hy:Tag 14/\_)
 obtain⟨(k:Int),(x:ByteArray),_⟩:=yy
 replace hy:=hy.2
 dsimp only[cu,aB,aA,gts,eE,eN]at hy
 obtain⟨hk,hM⟩:=hy)
     |(
 intro yy (hy:Tag 15/\_)
 obtain⟨(k:Int),(C:List Int),_⟩:=yy
 replace hy:=hy.2
 dsimp only[cu,aB,aA,gts,eE,eN]at hy
 obtain⟨hk,hC⟩:=hy)))
 all_goals(
 with_reducible apply Leaf.mk
 (try dsimp only[cu,aB,aA,gts,eE,eN]at *)
 first
 |(
  have e0:l.length>4096:=by omega
  rw[kF,if_pos e0])
 |rw[kF,if_neg (by omega),hM,qF0 (List.length_eq_zero_iff.1 (by omega)),FN,List.take_of_length_le (by omega)]
 |(
  rw[kF,if_neg (by omega),hM,List.take_of_length_le (by omega),hC,List.take_of_length_le (by omega),aT (by have:=cZ l;omega)];rw[wdN,show cQ ((bB l).length-1) 0=(bB l).length-1 by(unfold cQ;split<;>omega)]))
abbrev qQG:Tbl:=(157,uQ)::qQF
theorem YU:aC Tryz.prog qQG:=aC.cons VC YT
theorem MU (l:List Int) (j:Nat):@getElem! (List Int) Nat Int _ _ (instInhabitedDen (.int .u64)) l j=l[j]!:=rfl
theorem SO {s:ByteArray} {n w:Int} (h:(AQ s n w).2=0):(AQ s n w).1.length=n.toNat:=by
 unfold AQ at h ⊢;split at h
 ·exact absurd h (by decide)
 ·rename_i h1
  rw[if_neg h1];split at h
  ·exact absurd h (by decide)
  ·rename_i h2
   rw[if_neg h2];split at h
   ·exact absurd h (by decide)
   ·rename_i h3
    rw[if_neg h3];split at h
    ·exact absurd h (by decide)
    ·rename_i h4
     rw[if_neg h4,lE]
theorem map_take {W:List ByteArray} {u:List Int} {i:Int} (h:0<=i/\i<u.length):(u.take (i+1).toNat).map (fun c=>W[c.toNat]!)=(u.take i.toNat).map (fun c=>W[c.toNat]!)++ [W[u[i.toNat]!.toNat]!]:=by
 rw[show(i+1).toNat=i.toNat+1 by omega,List.take_succ_eq_append_getElem (by omega),<-getElem!_pos u i.toNat (by omega),List.map_append];rfl
abbrev EMP:ByteArray:=⟨#[]⟩
def cL (t:Int):Bool:=decide (1<=t)&&decide (t<=5)
def fR (t:Int) (v:Val):Bool:=
 if t=2 then decide (v.2.1=0)||decide (v.2.1=1)else if t=4 then decide (-719162<=v.2.1)&&decide (v.2.1<=2932896)
 else if t=5 then decide (-999999999999999999<=v.2.1)&&decide (v.2.1<=999999999999999999)else if t=3 then decide (v.2.2.size<=64)else true
def bX (c:Col) (v:Val):Int:=
 if cL c.2.1=false then 1 else if(v.1=true\/c.2.1≠3)/\v.2.2≠EMP then 11 else if(v.1=true\/c.2.1=3)/\v.2.1≠0 then 11
 else if v.1=true/\c.2.2.2=false then 12 else if v.1=false/\fR c.2.1 v=false then 4 else 0
def mX (a b:Int):Int:=if a<b then -1 else if a>b then 1 else 0
def xS (a b:ByteArray):Int:=if dQ a b then -1 else if a=b then 0 else 1
def eR (t:Int) (a b:Val):Int:=
 if a.1=true/\b.1=true then 0 else if a.1=true then -1 else if b.1=true then 1 else if t=3 then xS a.2.2 b.2.2 else mX a.2.1 b.2.1
theorem size_pos {s:ByteArray} (h:¬s=⟨#[]⟩):0<s.size:=by
 rcases Nat.eq_zero_or_pos s.size with q|q
 ·exfalso;apply h
  apply ByteArray.ext;exact Array.eq_empty_of_size_eq_zero q
 ·exact q
abbrev BS:Ct:=.fn [.int .i64] (none) (fun(t:Int)=>.d .bool (cL t))
theorem qGS:aG Tryz.prog 148 BS:=by
 refine aG.fn YU mixed [] [] rfl rfl ?_;rintro⟨(t:Int),_⟩ -;refine⟨[],?_⟩;repeat' (first
  |(
 with_reducible apply Side.mk
 (try dsimp only[cu,aB,aA,gts,loK,hiK,eE,eN])
 done)
  |(conv=>whnf
    first
     |with_reducible first|done|exact trivial|refine NilBr.mk (fun h=>?_) ?_|apply aJ|apply aI|refine aK (by kernel_rfl) ?_|apply aL|apply bA|apply aZ|apply aO
     |((with_reducible first|apply aQ|apply aP|apply aX)<;>intro h<;>(try dsimp only[cu,eE,eN]at h)<;>(try(exfalso;omega)))))
 all_goals(
 with_reducible apply Leaf.mk
 (try dsimp only[cu,aB,aA,gts,eE,eN]at *)
 grind [cL])
abbrev qQH:Tbl:=(148,BS)::qQG
theorem YV:aC Tryz.prog qQH:=aC.cons qGS YU
abbrev qG:Ct:=.fn [.int .i64,bP] (none) (fun(t:Int) (v:Val)=>.d .bool (fR t v))
theorem MA:aG Tryz.prog 149 qG:=by
 refine aG.fn YV mixed [] [] rfl rfl ?_;rintro⟨(t:Int),(v:Val),_⟩ -;refine⟨[],?_⟩;repeat' (first
  |(
 with_reducible apply Side.mk
 (try dsimp only[cu,aB,aA,gts,loK,hiK,eE,eN])
 done)
  |(conv=>whnf
    first
     |with_reducible first|done|exact trivial|refine NilBr.mk (fun h=>?_) ?_|apply aJ|apply aI|refine aK (by kernel_rfl) ?_|apply aL|apply bA|apply aZ|apply aO
     |((with_reducible first|apply aQ|apply aP|apply aX)<;>intro h<;>(try dsimp only[cu,eE,eN]at h)<;>(try(exfalso;omega)))))
 all_goals(
 with_reducible apply Leaf.mk
 (try dsimp only[cu,aB,aA,gts,eE,eN]at *)
 grind [fR])
abbrev qQI:Tbl:=(149,qG)::qQH
theorem YW:aC Tryz.prog qQI:=aC.cons MA YV
abbrev yT:Ct:=.fn [tW,bP] (none) (fun(c:Col) (v:Val)=>.d (.int .i64) (bX c v))
theorem qD9:aG Tryz.prog 108 yT:=by
 refine aG.fn YW mixed [] [] rfl rfl ?_;rintro⟨(c:Col),(v:Val),_⟩ -;refine⟨[],?_⟩;repeat' (first
  |(
 with_reducible apply Side.mk
 (try dsimp only[cu,aB,aA,gts,loK,hiK,eE,eN])
 done)
  |(conv=>whnf
    first
     |with_reducible first|done|exact trivial|refine NilBr.mk (fun h=>?_) ?_|apply aJ|apply aI|refine aK (by kernel_rfl) ?_|apply aL|apply bA|apply aZ|apply aO
     |((with_reducible first|apply aQ|apply aP|apply aX)<;>intro h<;>(try dsimp only[cu,eE,eN]at h)<;>(try(exfalso;omega)))))
 all_goals(
 with_reducible apply Leaf.mk
 (try dsimp only[cu,aB,aA,gts,eE,eN]at *)
 grind [bX,cL,fR,eR,mX])
abbrev qQJ:Tbl:=(108,yT)::qQI
theorem YX:aC Tryz.prog qQJ:=aC.cons qD9 YW
abbrev yH:Ct:=.fn [.str] (none) (fun(a:ByteArray)=>.d .bool false)
theorem qCZ:aG Tryz.prog 185 yH:=by
 refine aG.fn YX mixed [] [] rfl rfl ?_;rintro⟨(a:ByteArray),_⟩ -;refine⟨[],?_⟩;repeat' (first
  |(
 with_reducible apply Side.mk
 (try dsimp only[cu,aB,aA,gts,loK,hiK,eE,eN])
 done)
  |(conv=>whnf
    first
     |with_reducible first|done|exact trivial|refine NilBr.mk (fun h=>?_) ?_|apply aJ|apply aI|refine aK (by kernel_rfl) ?_|apply aL|apply bA|apply aZ|apply aO
     |((with_reducible first|apply aQ|apply aP|apply aX)<;>intro h<;>(try dsimp only[cu,eE,eN]at h)<;>(try(exfalso;omega)))))
 all_goals(
 with_reducible apply Leaf.mk
 (try dsimp only[cu,aB,aA,gts,eE,eN]at *)
 simp)
abbrev qQK:Tbl:=(185,yH)::qQJ
theorem YY:aC Tryz.prog qQK:=aC.cons qCZ YX
abbrev uK:Ct:=.fn [.int .i64] (none) (fun(a:Int)=>.d .bool false)
theorem UA:aG Tryz.prog 162 uK:=by
 refine aG.fn YY mixed [] [] rfl rfl ?_;rintro⟨(a:Int),_⟩ -;refine⟨[],?_⟩;repeat' (first
  |(
 with_reducible apply Side.mk
 (try dsimp only[cu,aB,aA,gts,loK,hiK,eE,eN])
 done)
  |(conv=>whnf
    first
     |with_reducible first|done|exact trivial|refine NilBr.mk (fun h=>?_) ?_|apply aJ|apply aI|refine aK (by kernel_rfl) ?_|apply aL|apply bA|apply aZ|apply aO
     |((with_reducible first|apply aQ|apply aP|apply aX)<;>intro h<;>(try dsimp only[cu,eE,eN]at h)<;>(try(exfalso;omega)))))
 all_goals(
 with_reducible apply Leaf.mk
 (try dsimp only[cu,aB,aA,gts,eE,eN]at *)
 simp)
abbrev qQL:Tbl:=(162,uK)::qQK
theorem YZ:aC Tryz.prog qQL:=aC.cons UA YY
abbrev BQ:Ct:=.fn [.int .i64,.int .i64] (none) (fun(a:Int) (b:Int)=>.d (.int .i64) (mX a b))
theorem qFD:aG Tryz.prog 132 BQ:=by
 refine aG.fn YZ mixed [] [] rfl rfl ?_;rintro⟨(a:Int),(b:Int),_⟩ -;refine⟨[],?_⟩;repeat' (first
  |(
 with_reducible apply Side.mk
 (try dsimp only[cu,aB,aA,gts,loK,hiK,eE,eN])
 done)
  |(conv=>whnf
    first
     |with_reducible first|done|exact trivial|refine NilBr.mk (fun h=>?_) ?_|apply aJ|apply aI|refine aK (by kernel_rfl) ?_|apply aL|apply bA|apply aZ|apply aO
     |((with_reducible first|apply aQ|apply aP|apply aX)<;>intro h<;>(try dsimp only[cu,eE,eN]at h)<;>(try(exfalso;omega)))))
 all_goals(
 with_reducible apply Leaf.mk
 (try dsimp only[cu,aB,aA,gts,eE,eN]at *)
 grind [bX,cL,fR,eR,mX])
abbrev qQM:Tbl:=(132,BQ)::qQL
theorem ZA:aC Tryz.prog qQM:=aC.cons qFD YZ
abbrev GQ:Ct:=.fn [.str,.str] (none) (fun(a:ByteArray) (b:ByteArray)=>.d (.int .i64) (xS a b))
theorem qJU:aG Tryz.prog 161 GQ:=by
 refine aG.fn ZA mixed [] [] rfl rfl ?_;rintro⟨(a:ByteArray),(b:ByteArray),_⟩ -;refine⟨[],?_⟩;repeat' (first
  |(
 with_reducible apply Side.mk
 (try dsimp only[cu,aB,aA,gts,loK,hiK,eE,eN])
 done)
  |(conv=>whnf
    first
     |with_reducible first|done|exact trivial|refine NilBr.mk (fun h=>?_) ?_|apply aJ|apply aI|refine aK (by kernel_rfl) ?_|apply aL|apply bA|apply aZ|apply aO
     |((with_reducible first|apply aQ|apply aP|apply aX)<;>intro h<;>(try dsimp only[cu,eE,eN]at h)<;>(try(exfalso;omega)))))
 all_goals(
 with_reducible apply Leaf.mk
 (try dsimp only[cu,aB,aA,gts,eE,eN]at *)
 grind [xS])
abbrev qQN:Tbl:=(161,GQ)::qQM
theorem ZB:aC Tryz.prog qQN:=aC.cons qJU ZA
abbrev sP:Ct:=.fn [.int .i64,bP,bP] (none) (fun(t:Int) (a:Val) (b:Val)=>.d (.int .i64) (eR t a b))
theorem SQ:aG Tryz.prog 131 sP:=by
 refine aG.fn ZB mixed [] [] rfl rfl ?_;rintro⟨(t:Int),(a:Val),(b:Val),_⟩ -;refine⟨[],?_⟩;repeat' (first
  |(
 with_reducible apply Side.mk
 (try dsimp only[cu,aB,aA,gts,loK,hiK,eE,eN])
 done)
  |(conv=>whnf
    first
     |with_reducible first|done|exact trivial|refine NilBr.mk (fun h=>?_) ?_|apply aJ|apply aI|refine aK (by kernel_rfl) ?_|apply aL|apply bA|apply aZ|apply aO
     |((with_reducible first|apply aQ|apply aP|apply aX)<;>intro h<;>(try dsimp only[cu,eE,eN]at h)<;>(try(exfalso;omega)))))
 all_goals(
 with_reducible apply Leaf.mk
 (try dsimp only[cu,aB,aA,gts,eE,eN]at *)
 grind [bX,cL,fR,eR,mX])
abbrev qQO:Tbl:=(131,sP)::qQN
theorem ZC:aC Tryz.prog qQO:=aC.cons SQ ZB
abbrev CS:Ct:=.fn [.int .i64] (none) (fun(t:Int)=>.d .bool (cL t))
theorem qI6:aG Tryz.prog 54 CS:=by
 refine aG.fn ZC mixed [] [] rfl rfl ?_;rintro⟨(t:Int),_⟩ -;refine⟨[],?_⟩;repeat' (first
  |(
 with_reducible apply Side.mk
 (try dsimp only[cu,aB,aA,gts,loK,hiK,eE,eN])
 done)
  |(conv=>whnf
    first
     |with_reducible first|done|exact trivial|refine NilBr.mk (fun h=>?_) ?_|apply aJ|apply aI|refine aK (by kernel_rfl) ?_|apply aL|apply bA|apply aZ|apply aO
     |((with_reducible first|apply aQ|apply aP|apply aX)<;>intro h<;>(try dsimp only[cu,eE,eN]at h)<;>(try(exfalso;omega)))))
 all_goals(
 with_reducible apply Leaf.mk
 (try dsimp only[cu,aB,aA,gts,eE,eN]at *)
 grind [cL])
abbrev qQP:Tbl:=(54,CS)::qQO
theorem ZD:aC Tryz.prog qQP:=aC.cons qI6 ZC
abbrev yK:Ct:=.fn [tW,bP] (none) (fun(c:Col) (v:Val)=>.d (.int .i64) (bX c v))
theorem qDC:aG Tryz.prog 81 yK:=by
 refine aG.fn ZD mixed [] [] rfl rfl ?_;rintro⟨(c:Col),(v:Val),_⟩ -;refine⟨[],?_⟩;repeat' (first
  |(
 with_reducible apply Side.mk
 (try dsimp only[cu,aB,aA,gts,loK,hiK,eE,eN])
 done)
  |(conv=>whnf
    first
     |with_reducible first|done|exact trivial|refine NilBr.mk (fun h=>?_) ?_|apply aJ|apply aI|refine aK (by kernel_rfl) ?_|apply aL|apply bA|apply aZ|apply aO
     |((with_reducible first|apply aQ|apply aP|apply aX)<;>intro h<;>(try dsimp only[cu,eE,eN]at h)<;>(try(exfalso;omega)))))
 all_goals(
 with_reducible apply Leaf.mk
 (try dsimp only[cu,aB,aA,gts,eE,eN]at *)
 grind [bX,cL,fR,eR,mX])
abbrev qQQ:Tbl:=(81,yK)::qQP
theorem ZE:aC Tryz.prog qQQ:=aC.cons qDC ZD
abbrev BY:Ct:=.fn [.bool,.bool] (none) (fun(l:Bool) (e:Bool)=>.d (.int .i64) (if l=true then -1 else if e=true then 0 else 1))
theorem qG6:aG Tryz.prog 154 BY:=by
 refine aG.fn ZE mixed [] [] rfl rfl ?_;rintro⟨(l:Bool),(e:Bool),_⟩ -;refine⟨[],?_⟩;repeat' (first
  |(
 with_reducible apply Side.mk
 (try dsimp only[cu,aB,aA,gts,loK,hiK,eE,eN])
 done)
  |(conv=>whnf
    first
     |with_reducible first|done|exact trivial|refine NilBr.mk (fun h=>?_) ?_|apply aJ|apply aI|refine aK (by kernel_rfl) ?_|apply aL|apply bA|apply aZ|apply aO
     |((with_reducible first|apply aQ|apply aP|apply aX)<;>intro h<;>(try dsimp only[cu,eE,eN]at h)<;>(try(exfalso;omega)))))
 all_goals(
 with_reducible apply Leaf.mk
 (try dsimp only[cu,aB,aA,gts,eE,eN]at *)
 simp_all)
abbrev qQR:Tbl:=(154,BY)::qQQ
theorem ZF:aC Tryz.prog qQR:=aC.cons qG6 ZE
abbrev sM:Ct:=.fn [.int .i64,bP,bP] (none) (fun(t:Int) (a:Val) (b:Val)=>.d (.int .i64) (eR t a b))
theorem QF:aG Tryz.prog 117 sM:=by
 refine aG.fn ZF mixed [] [] rfl rfl ?_;rintro⟨(t:Int),(a:Val),(b:Val),_⟩ -;refine⟨[],?_⟩;repeat' (first
  |(
 with_reducible apply Side.mk
 (try dsimp only[cu,aB,aA,gts,loK,hiK,eE,eN])
 done)
  |(conv=>whnf
    first
     |with_reducible first|done|exact trivial|refine NilBr.mk (fun h=>?_) ?_|apply aJ|apply aI|refine aK (by kernel_rfl) ?_|apply aL|apply bA|apply aZ|apply aO
     |((with_reducible first|apply aQ|apply aP|apply aX)<;>intro h<;>(try dsimp only[cu,eE,eN]at h)<;>(try(exfalso;omega)))))
 all_goals(
 with_reducible apply Leaf.mk
 (try dsimp only[cu,aB,aA,gts,eE,eN]at *)
 grind [eR,mX,xS])
abbrev qQS:Tbl:=(117,sM)::qQR
theorem ZG:aC Tryz.prog qQS:=aC.cons QF ZF
def rnd (v:Int):Int:=qA .u32 (kY .u32 v 1) (IntKind.u32.wrap (2197175160*uD .u32 v 1))
def FX:Nat->Int->Int
 |0,v=>v
 |n+1,v=>FX n (rnd v)
theorem qLP {v:Int} (h:uD .u32 v 1=1):rnd v=qA .u32 (kY .u32 v 1) 2197175160:=by
 unfold rnd;rw[h];rfl
theorem qH2 {v:Int} (hv:0<=v/\v<4294967296) (h:¬uD .u32 v 1=1):rnd v=kY .u32 v 1:=by
 have h0:uD .u32 v 1=0:=by rw[qPA hv]at h ⊢;omega
 unfold rnd;rw[h0,show IntKind.u32.wrap (2197175160*0)=0 from rfl,qPC (by simpa using YL hv 1)]
theorem xP {k v:Int} (h:0<=k/\k<8):FX (8-k).toNat v=FX (8-(k+1)).toNat (rnd v):=by
 rw[show(8-k).toNat=(8-(k+1)).toNat+1 by omega];rfl
def tJ:List Int:=(List.range 256).map fun i:Nat=>FX 8 (i:Int)
def cstep (t:List Int) (v b:Int):Int:=qA .u32 (kY .u32 v 8) t[(qA .u8 (IntKind.u8.wrap v) b).toNat]!
def bnot (v:Int):Int:=qA .u32 (-1) v
def MQ (t:List Int) (s:ByteArray):Int:=if t.length=256 then bnot ((bF s).foldl (cstep t) 4294967295)else 0
def qFL (s:ByteArray):Int:=MQ tJ s
theorem IK {t:List Int} {s:ByteArray} {k v:Int} (h:0<=k/\k<s.size):((bF s).drop k.toNat).foldl (cstep t) v=((bF s).drop (k+1).toNat).foldl (cstep t) (cstep t v (cT s k.toNat)):=by
 rw[bH (bF s) k (by rw[aY];exact h),List.foldl_cons,FB]
abbrev HX:Ct:=.fn [.list (.int .u32),.int .u32,.int .u8] (some (fun(t:List Int) (v:Int) (b:Int)=>(t.length=256))) (fun(t:List Int) (v:Int) (b:Int)=>.d (.int .u32) (cstep t v b))
theorem qL1:aG Tryz.prog 116 HX:=by
 refine aG.fn ZG mixed [] [] rfl rfl ?_;rintro⟨(t:List Int),(v:Int),(b:Int),_⟩ hpre;replace hpre:=hpre _ rfl;dsimp only[cu]at hpre;have ht:=hpre;refine⟨[],?_⟩;repeat' (first
  |(
 with_reducible apply Side.mk
 (try dsimp only[cu,aB,aA,gts,loK,hiK,eE,eN])
 first
 |omega
 |(have hx:=WD (IntKind.u8.wrap v) b;omega))
  |(conv=>whnf
    first
     |with_reducible first|done|exact trivial|refine NilBr.mk (fun h=>?_) ?_|apply aJ|apply aI|refine aK (by kernel_rfl) ?_|apply aL|apply bA|apply aZ|apply aO
     |((with_reducible first|apply aQ|apply aP|apply aX)<;>intro h<;>(try dsimp only[cu,eE,eN]at h)<;>(try(exfalso;omega)))))
 all_goals(
 with_reducible apply Leaf.mk
 (try dsimp only[cu,aB,aA,gts,eE,eN]at *)
 rfl)
abbrev qQT:Tbl:=(116,HX)::qQS
theorem ZH:aC Tryz.prog qQT:=aC.cons qL1 ZG
abbrev OC:Ct:=.fn [.list (.int .u32),.str] (some (fun(t:List Int) (s:ByteArray)=>(s.size<=9223372036854775807))) (fun(t:List Int) (s:ByteArray)=>.d (.int .u32) (MQ t s))
theorem qOY:aG Tryz.prog 70 OC:=by
 refine aG.fn ZH mixed [] [] rfl rfl ?_;rintro⟨(t:List Int),(s:ByteArray),_⟩ hpre;replace hpre:=hpre _ rfl;dsimp only[cu]at hpre;have hs:=hpre;refine⟨[(0,10,LA.mk [.sl 12 (.int .i64),.sl 5 (.int .u32)] (fun y=>Tag 16/\cu [.int .i64,.int .u32] (fun(k:Int) (v:Int)=>(0<=k/\k<=s.size)/\(((bF s).drop k.toNat).foldl (cstep t) v=(bF s).foldl (cstep t) 4294967295)) y) (cu [.int .i64,.int .u32] (fun(k:Int) (v:Int)=>((s.size:Int)-k).toNat)) (cu [.int .i64,.int .u32] (fun(k:Int) (v:Int)=>([]:List (Nat×Nat×LA)))))],?_⟩;repeat' (first
  |(
 with_reducible refine Side.mk ⟨(⟨⟩:Tag 16),?_⟩
 dsimp only[cu,aB,aA,gts,eE,eN]
 refine⟨?_,?_⟩
 ·omega
 ·first
  |simp;done
  |(rw[<-hv,IK (k:=k) (v:=v) (by omega)];(try rfl)))
  |(
 with_reducible apply Side.mk
 (try dsimp only[cu,aB,aA,gts,loK,hiK,eE,eN])
 omega)
  |(conv=>whnf
    first
     |with_reducible first|done|exact trivial|refine NilBr.mk (fun h=>?_) ?_|apply aJ|apply aI|refine aK (by kernel_rfl) ?_|apply aL|apply bA|apply aZ|apply aO
     |((with_reducible first|apply aQ|apply aP|apply aX)<;>intro h<;>(try dsimp only[cu,eE,eN]at h)<;>(try(exfalso;omega)))
     |(
 intro yy (hy:Tag 16/\_)
 obtain⟨(k:Int),(v:Int),_⟩:=yy
 replace hy:=hy.2
 dsimp only[cu,aB,aA,gts,eE,eN]at hy
 obtain⟨hk,hv⟩:=hy)))
 all_goals(
 with_reducible apply Leaf.mk
 (try dsimp only[cu,aB,aA,gts,eE,eN]at *)
 first
 |(
  have h256:¬t.length=256:=by omega
  rw[MQ,if_neg h256])
 |(
  have h256:t.length=256:=by omega
  rw[MQ,if_pos h256,<-hv,List.drop_eq_nil_of_le (by rw[aY];omega)];rfl))
abbrev qQU:Tbl:=(70,OC)::qQT
theorem ZI:aC Tryz.prog qQU:=aC.cons qOY ZH
abbrev HT:Ct:=.fn [.list (.int .u32),.str] (some (fun(t:List Int) (s:ByteArray)=>(s.size<=9223372036854775807))) (fun(t:List Int) (s:ByteArray)=>.d (.int .u32) (MQ t s))
theorem qLU:aG Tryz.prog 85 HT:=by
 refine aG.fn ZI mixed [] [] rfl rfl ?_;rintro⟨(t:List Int),(s:ByteArray),_⟩ hpre;replace hpre:=hpre _ rfl;dsimp only[cu]at hpre;have hs:=hpre;refine⟨[(0,10,LA.mk [.sl 6 (.int .i64),.sl 5 (.int .u32)] (fun y=>Tag 17/\cu [.int .i64,.int .u32] (fun(k:Int) (v:Int)=>(0<=k/\k<=s.size)/\(((bF s).drop k.toNat).foldl (cstep t) v=(bF s).foldl (cstep t) 4294967295)) y) (cu [.int .i64,.int .u32] (fun(k:Int) (v:Int)=>((s.size:Int)-k).toNat)) (cu [.int .i64,.int .u32] (fun(k:Int) (v:Int)=>([]:List (Nat×Nat×LA)))))],?_⟩;repeat' (first
  |(
 with_reducible refine Side.mk ⟨(⟨⟩:Tag 17),?_⟩
 dsimp only[cu,aB,aA,gts,eE,eN]
 refine⟨?_,?_⟩
 ·omega
 ·first
  |simp;done
  |(rw[<-hv,IK (k:=k) (v:=v) (by omega)];(try rfl)))
  |(
 with_reducible apply Side.mk
 (try dsimp only[cu,aB,aA,gts,loK,hiK,eE,eN])
 first
 |omega
 |(have hx:=WD (IntKind.u8.wrap v) (cT s k.toNat);omega))
  |(conv=>whnf
    first
     |with_reducible first|done|exact trivial|refine NilBr.mk (fun h=>?_) ?_|apply aJ|apply aI|refine aK (by kernel_rfl) ?_|apply aL|apply bA|apply aZ|apply aO
     |((with_reducible first|apply aQ|apply aP|apply aX)<;>intro h<;>(try dsimp only[cu,eE,eN]at h)<;>(try(exfalso;omega)))
     |(
 intro yy (hy:Tag 17/\_)
 obtain⟨(k:Int),(v:Int),_⟩:=yy
 replace hy:=hy.2
 dsimp only[cu,aB,aA,gts,eE,eN]at hy
 obtain⟨hk,hv⟩:=hy)))
 all_goals(
 with_reducible apply Leaf.mk
 (try dsimp only[cu,aB,aA,gts,eE,eN]at *)
 first
 |(
  have h256:¬t.length=256:=by omega
  rw[MQ,if_neg h256])
 |(
  have h256:t.length=256:=by omega
  rw[MQ,if_pos h256,<-hv,List.drop_eq_nil_of_le (by rw[aY];omega)];rfl))
abbrev qQV:Tbl:=(85,HT)::qQU
theorem ZJ:aC Tryz.prog qQV:=aC.cons qLU ZI
abbrev CR:Ct:=.fn [] (none) (.d (.list (.int .u32)) tJ)
theorem RJ:aG Tryz.prog 71 CR:=by
 refine aG.fn ZJ mixed [(0,5,1)] [] rfl rfl ?_;rintro⟨⟩ -;refine⟨[(0,6,LA.mk [.sl 7 (.int .i64),.ar 0 (.int .u32) 80] (fun y=>Tag 18/\cu [.int .i64,.list (.int .u32)] (fun(k:Int) (M:List Int)=>(0<=k/\k<=256)/\(M.length=256)/\(M.take k.toNat=(List.range k.toNat).map (fun i:Nat=>FX 8 (i:Int)))) y) (cu [.int .i64,.list (.int .u32)] (fun(k:Int) (M:List Int)=>((256:Int)-k).toNat)) (cu [.int .i64,.list (.int .u32)] (fun(k:Int) (M:List Int)=>([(0,14,LA.mk [.sl 12 (.int .i64),.sl 3 (.int .u32)] (fun y=>Tag 19/\cu [.int .i64,.int .u32] (fun(j:Int) (v:Int)=>(0<=j/\j<=8)/\(FX (8-j).toNat v=FX 8 k)) y) (cu [.int .i64,.int .u32] (fun(j:Int) (v:Int)=>((8:Int)-j).toNat)) (cu [.int .i64,.int .u32] (fun(j:Int) (v:Int)=>([]:List (Nat×Nat×LA)))))]:List (Nat×Nat×LA)))))],?_⟩;repeat' (first
  |(
 with_reducible refine Side.mk ⟨(⟨⟩:Tag 18),?_⟩
 dsimp only[cu,aB,aA,gts,eE,eN]
 refine⟨?_,?_,?_⟩
 ·omega
 ·first
  |simp;done
  |simp;omega
 ·first
  |simp;done
  |(
  rw[show(k+1).toNat=k.toNat+1 by omega,FA _ _ _ (by omega),hm,List.range_succ,List.map_append]
  simp only[List.map_cons,List.map_nil]
  rw[show((k.toNat:Nat):Int)=k by omega,<-hj,show(8-j).toNat=0 by omega]
  rfl))
  |(
 with_reducible refine Side.mk ⟨(⟨⟩:Tag 19),?_⟩
 dsimp only[cu,aB,aA,gts,eE,eN]
 refine⟨?_,?_⟩
 ·omega
 ·first
  |rfl
  |(rw[<-hj,xP (k:=j) (v:=v) (by omega)];(try rfl)))
  |(
 with_reducible apply Side.mk
 (try dsimp only[cu,aB,aA,gts,loK,hiK,eE,eN])
 omega)
  |(conv=>whnf
    first
     |with_reducible first|done|exact trivial|refine NilBr.mk (fun h=>?_) ?_|apply aJ|apply aI|refine aK (by kernel_rfl) ?_|apply aL|apply bA|apply aZ|apply aO
     |((with_reducible first|apply aQ|apply aP|apply aX)<;>intro h<;>(try dsimp only[cu,eE,eN]at h)<;>(try(exfalso;omega)))
     |(
 intro yy (hy:Tag 18/\_)
 obtain⟨(k:Int),(M:List Int),_⟩:=yy
 replace hy:=hy.2
 dsimp only[cu,aB,aA,gts,eE,eN]at hy
 obtain⟨hk,hl,hm⟩:=hy)
     |(
 intro yy (hy:Tag 19/\_)
 obtain⟨(j:Int),(v:Int),_⟩:=yy
 replace hy:=hy.2
 dsimp only[cu,aB,aA,gts,eE,eN]at hy
 obtain⟨hj,hj⟩:=hy)))
 all_goals(
 with_reducible apply Leaf.mk
 (try dsimp only[cu,aB,aA,gts,eE,eN]at *)
 (
  rw[show k.toNat=256 by omega,List.take_of_length_le (by omega)]at hm;exact hm))
abbrev qQW:Tbl:=(71,CR)::qQV
theorem ZK:aC Tryz.prog qQW:=aC.cons RJ ZJ
abbrev yP:Ct:=.fn [] (none) (.d (.list (.int .u32)) tJ)
theorem JU:aG Tryz.prog 86 yP:=by
 refine aG.fn ZK mixed [(0,4,1)] [] rfl rfl ?_;rintro⟨⟩ -;refine⟨[(0,6,LA.mk [.sl 2 (.int .u32),.lst 1 (.int .u32) 80] (fun y=>Tag 20/\cu [.int .u32,.list (.int .u32)] (fun(k:Int) (M:List Int)=>(0<=k/\k<=256)/\(M=(List.range k.toNat).map (fun i:Nat=>FX 8 (i:Int)))) y) (cu [.int .u32,.list (.int .u32)] (fun(k:Int) (M:List Int)=>(256-k).toNat)) (cu [.int .u32,.list (.int .u32)] (fun(k:Int) (M:List Int)=>([(0,14,LA.mk [.sl 4 (.int .i64),.sl 3 (.int .u32)] (fun y=>Tag 21/\cu [.int .i64,.int .u32] (fun(j:Int) (v:Int)=>(0<=j/\j<=8)/\(0<=v/\v<4294967296)/\(FX (8-j).toNat v=FX 8 k)) y) (cu [.int .i64,.int .u32] (fun(j:Int) (v:Int)=>((8:Int)-j).toNat)) (cu [.int .i64,.int .u32] (fun(j:Int) (v:Int)=>([]:List (Nat×Nat×LA)))))]:List (Nat×Nat×LA)))))],?_⟩;repeat' (first
  |(
 with_reducible refine Side.mk ⟨(⟨⟩:Tag 20),?_⟩
 dsimp only[cu,aB,aA,gts,eE,eN]
 refine⟨?_,?_⟩
 ·omega
 ·first
  |simp;done
  |(
  rw[show(k+1).toNat=k.toNat+1 by omega,List.range_succ,List.map_append,hm]
  simp only[List.map_cons,List.map_nil]
  rw[show((k.toNat:Nat):Int)=k by omega,<-hj,show(8-j).toNat=0 by omega]
  rfl))
  |(
 with_reducible refine Side.mk ⟨(⟨⟩:Tag 21),?_⟩
 dsimp only[cu,aB,aA,gts,eE,eN]
 refine⟨?_,?_,?_⟩
 ·omega
 ·first
  |omega
  |exact qE1 _ _
  |(simpa using YL (by assumption) 1)
 ·first
  |rfl
  |rw[<-hj,xP (k:=j) (v:=v) (by omega),qLP (by assumption)]
  |(rw[<-hj,xP (k:=j) (v:=v) (by omega),qH2 (by assumption) (by assumption)]))
  |(
 with_reducible apply Side.mk
 (try dsimp only[cu,aB,aA,gts,loK,hiK,eE,eN])
 first
 |done
 |omega
 |exact Eq.refl _
 |(
  have hml:M.length=k.toNat:=by rw[hm];simp
  simp only[List.length_cons,List.length_nil];omega))
  |(conv=>whnf
    first
     |with_reducible first|done|exact trivial|refine NilBr.mk (fun h=>?_) ?_|apply aJ|apply aI|refine aK (by kernel_rfl) ?_|apply aL|apply bA|apply aZ|apply aO
     |((with_reducible first|apply aQ|apply aP|apply aX)<;>intro h<;>(try dsimp only[cu,eE,eN]at h)<;>(try(exfalso;omega)))
     |(
 intro yy (hy:Tag 20/\_)
 obtain⟨(k:Int),(M:List Int),_⟩:=yy
 replace hy:=hy.2
 dsimp only[cu,aB,aA,gts,eE,eN]at hy
 obtain⟨hk,hm⟩:=hy)
     |(
 intro yy (hy:Tag 21/\_)
 obtain⟨(j:Int),(v:Int),_⟩:=yy
 replace hy:=hy.2
 dsimp only[cu,aB,aA,gts,eE,eN]at hy
 obtain⟨hj,hv,hj⟩:=hy)))
 all_goals(
 with_reducible apply Leaf.mk
 (try dsimp only[cu,aB,aA,gts,eE,eN]at *)
 (
  rw[show k.toNat=256 by omega]at hm;exact hm))
abbrev qQX:Tbl:=(86,yP)::qQW
theorem ZL:aC Tryz.prog qQX:=aC.cons JU ZK
abbrev HO:Ct:=.fn [.str] (some (fun(s:ByteArray)=>(s.size<=9223372036854775807))) (fun(s:ByteArray)=>.d (.int .u32) (qFL s))
theorem qLM:aG Tryz.prog 46 HO:=by
 refine aG.fn ZL mixed [] [] rfl rfl ?_;rintro⟨(s:ByteArray),_⟩ hpre;replace hpre:=hpre _ rfl;dsimp only[cu]at hpre;have hs:=hpre;refine⟨[],?_⟩;repeat' (first
  |(
 with_reducible apply Side.mk
 (try dsimp only[cu,aB,aA,gts,loK,hiK,eE,eN])
 omega)
  |(conv=>whnf
    first
     |with_reducible first|done|exact trivial|refine NilBr.mk (fun h=>?_) ?_|apply aJ|apply aI|refine aK (by kernel_rfl) ?_|apply aL|apply bA|apply aZ|apply aO
     |((with_reducible first|apply aQ|apply aP|apply aX)<;>intro h<;>(try dsimp only[cu,eE,eN]at h)<;>(try(exfalso;omega)))))
 all_goals(
 with_reducible apply Leaf.mk
 (try dsimp only[cu,aB,aA,gts,eE,eN]at *)
 rfl)
abbrev qQY:Tbl:=(46,HO)::qQX
theorem ZM:aC Tryz.prog qQY:=aC.cons qLM ZL
def fB (l:List Bool) (q:Nat):Int:=if l[q]! =true then 1 else 0
theorem qPJ (l:List Bool):GL (fB l):=fun q=>by unfold fB;split<;>simp
def JD (l:List Bool):ByteArray:=aN (gL (fB l) l.length 8 (((l.length:Int)+7).tdiv 8).toNat)
theorem nV {n:Int} (h:0<=n):n.tdiv 8=n/8:=Int.tdiv_eq_ediv_of_nonneg h
theorem qBM {n:Int} (h:0<=n):n.tmod 8=n%8:=Int.tmod_eq_emod_of_nonneg h
abbrev BX:Ct:=.fn [.list .bool] (some (fun(l:List Bool)=>(l.length<=1073741824))) (fun(l:List Bool)=>.d .str (JD l))
theorem qG2:aG Tryz.prog 112 BX:=by
 refine aG.fn ZM mixed [] [] rfl rfl ?_;rintro⟨(l:List Bool),_⟩ hpre;replace hpre:=hpre _ rfl;dsimp only[cu]at hpre;have hl:=hpre;refine⟨[(0,6,LA.mk [.sl 13 (.int .i64),.ar 0 (.int .u8) 5] (fun y=>Tag 22/\cu [.int .i64,.list (.int .u8)] (fun(k:Int) (O:List Int)=>(0<=k/\k<=l.length)/\(O=gL (fB l) k.toNat 8 (((l.length:Int)+7).tdiv 8).toNat)) y) (cu [.int .i64,.list (.int .u8)] (fun(k:Int) (O:List Int)=>((l.length:Int)-k).toNat)) (cu [.int .i64,.list (.int .u8)] (fun(k:Int) (O:List Int)=>([]:List (Nat×Nat×LA)))))],?_⟩;repeat' (first
  |(
 with_reducible refine Side.mk ⟨(⟨⟩:Tag 22),?_⟩
 dsimp only[cu,aB,aA,gts,eE,eN]
 refine⟨?_,?_⟩
 ·omega
 ·first
  |exact(AH _ _ _).symm
  |(
  rw[hO]
  have hd1:=nV (n:=k) (by omega)
  have hd2:=nV (n:=(l.length:Int)+7) (by omega)
  have hk:l[k.toNat]! =true:=by first|assumption|(simp_all;done)
  refine vM (qPJ _) (by omega) (by omega) ?_ rfl rfl
  rw[fB,if_pos hk])
  |(
  rw[hO,show(k+1).toNat=k.toNat+1 by omega]
  have hk:¬l[k.toNat]! =true:=by first|assumption|(simp_all;done)
  refine LL (by decide) ?_
  rw[fB,if_neg hk]))
  |(
 with_reducible apply Side.mk
 (try dsimp only[cu,aB,aA,gts,loK,hiK,eE,eN])
 first
 |omega
 |(
  have hd1:=nV (n:=k) (by omega);have hd2:=nV (n:=(l.length:Int)+7) (by omega);omega)
 |rw[nV (by omega)];omega
 |rw[qBM (by omega)];omega
 |rw[hO,lE,nV (by omega),nV (by omega)];omega
 |(simp only[hO,lE];done))
  |(conv=>whnf
    first
     |with_reducible first|done|exact trivial|refine NilBr.mk (fun h=>?_) ?_|apply aJ|apply aI|refine aK (by kernel_rfl) ?_|apply aL|apply bA|apply aZ|apply aO
     |((with_reducible first|apply aQ|apply aP|apply aX)<;>intro h<;>(try dsimp only[cu,eE,eN]at h)<;>(try(exfalso;omega)))
     |(
 intro yy (hy:Tag 22/\_)
 obtain⟨(k:Int),(O:List Int),_⟩:=yy
 replace hy:=hy.2
 dsimp only[cu,aB,aA,gts,eE,eN]at hy
 obtain⟨hk,hO⟩:=hy)))
 all_goals(
 with_reducible apply Leaf.mk
 (try dsimp only[cu,aB,aA,gts,eE,eN]at *)
 (rw[hO,show k.toNat=l.length by omega];rfl))
abbrev qQZ:Tbl:=(112,BX)::qQY
theorem ZN:aC Tryz.prog qQZ:=aC.cons qG2 ZM
abbrev yN:Ct:=.fn [.list .bool] (some (fun(l:List Bool)=>(l.length<=1073741824))) (fun(l:List Bool)=>.d .str (JD l))
theorem qDN:aG Tryz.prog 120 yN:=by
 refine aG.fn ZN mixed [] [] rfl rfl ?_;rintro⟨(l:List Bool),_⟩ hpre;replace hpre:=hpre _ rfl;dsimp only[cu]at hpre;have hl:=hpre;refine⟨[(0,6,LA.mk [.sl 13 (.int .i64),.ar 0 (.int .u8) 5] (fun y=>Tag 23/\cu [.int .i64,.list (.int .u8)] (fun(k:Int) (O:List Int)=>(0<=k/\k<=l.length)/\(O=gL (fB l) k.toNat 8 (((l.length:Int)+7).tdiv 8).toNat)) y) (cu [.int .i64,.list (.int .u8)] (fun(k:Int) (O:List Int)=>((l.length:Int)-k).toNat)) (cu [.int .i64,.list (.int .u8)] (fun(k:Int) (O:List Int)=>([]:List (Nat×Nat×LA)))))],?_⟩;repeat' (first
  |(
 with_reducible refine Side.mk ⟨(⟨⟩:Tag 23),?_⟩
 dsimp only[cu,aB,aA,gts,eE,eN]
 refine⟨?_,?_⟩
 ·omega
 ·first
  |exact(AH _ _ _).symm
  |(
  rw[hO]
  rw[aT (n:=k.tmod 8) (by rw[qBM (by omega)];omega)]
  have hd1:=nV (n:=k) (by omega)
  have hd2:=nV (n:=(l.length:Int)+7) (by omega)
  have hk:l[k.toNat]! =true:=by first|assumption|(simp_all;done)
  refine vM (qPJ _) (by omega) (by omega) ?_ rfl rfl
  rw[fB,if_pos hk])
  |(
  rw[hO,show(k+1).toNat=k.toNat+1 by omega]
  have hk:¬l[k.toNat]! =true:=by first|assumption|(simp_all;done)
  refine LL (by decide) ?_
  rw[fB,if_neg hk]))
  |(
 with_reducible apply Side.mk
 (try dsimp only[cu,aB,aA,gts,loK,hiK,eE,eN])
 first
 |omega
 |(
  have hd1:=nV (n:=k) (by omega);have hd2:=nV (n:=(l.length:Int)+7) (by omega);omega)
 |rw[nV (by omega)];omega
 |rw[hO,lE,nV (by omega),nV (by omega)];omega
 |(
  rw[aT (n:=k.tmod 8) (by rw[qBM (by omega)];omega)];rw[qBM (by omega)];omega)
 |(simp only[hO,lE];done))
  |(conv=>whnf
    first
     |with_reducible first|done|exact trivial|refine NilBr.mk (fun h=>?_) ?_|apply aJ|apply aI|refine aK (by kernel_rfl) ?_|apply aL|apply bA|apply aZ|apply aO
     |((with_reducible first|apply aQ|apply aP|apply aX)<;>intro h<;>(try dsimp only[cu,eE,eN]at h)<;>(try(exfalso;omega)))
     |(
 intro yy (hy:Tag 23/\_)
 obtain⟨(k:Int),(O:List Int),_⟩:=yy
 replace hy:=hy.2
 dsimp only[cu,aB,aA,gts,eE,eN]at hy
 obtain⟨hk,hO⟩:=hy)))
 all_goals(
 with_reducible apply Leaf.mk
 (try dsimp only[cu,aB,aA,gts,eE,eN]at *)
 (rw[hO,show k.toNat=l.length by omega];rfl))
abbrev qQ0:Tbl:=(120,yN)::qQZ
theorem ZO:aC Tryz.prog qQ0:=aC.cons qDN ZN
def inI (n:Int):Prop:=-9223372036854775808<=n/\n<=9223372036854775807
def fT (n:Int):Int:=if n<0 then(-(n+1))*2+1 else n*2
def qS1 (v:Int):Int:=if v%2=1 then -(v/2)-1 else v/2
theorem kJ {n:Int} (h:inI n):0<=fT n/\fT n<18446744073709551616:=by unfold inI at h;unfold fT;split<;>omega
theorem qSS {a:Int} (h:0<=a/\a<18446744073709551616):qA .u64 a 0=a:=by
 unfold qA;rw[show BitVec.ofInt IntKind.u64.bits 0=0#IntKind.u64.bits from rfl,BitVec.xor_zero,BitVec.toNat_ofInt];have:((a%((2^IntKind.u64.bits:Nat):Int)).toNat:Int)=a:=by
  simp [IntKind.bits];omega
 rw[this,aT h]
theorem qST {a:Int} (h:0<=a/\a<18446744073709551616):qA .u64 a 18446744073709551615=18446744073709551615-a:=by
 unfold qA;rw[show BitVec.ofInt IntKind.u64.bits 18446744073709551615=BitVec.allOnes IntKind.u64.bits from rfl,BitVec.xor_allOnes,BitVec.toNat_not,BitVec.toNat_ofInt];have e:((a%((2^IntKind.u64.bits:Nat):Int)).toNat:Int)=a:=by
  simp [IntKind.bits];omega
 have e2:(2:Nat)^IntKind.u64.bits=18446744073709551616:=rfl;have e3:((2^IntKind.u64.bits-1-(a%((2^IntKind.u64.bits:Nat):Int)).toNat:Nat):Int)=18446744073709551615-a:=by
  rw[e2]at e ⊢;omega
 rw[e3,aT (by omega)]
theorem qN9 {a:Int} (h:inI a):IntKind.i64.wrap a=a:=by unfold inI at h;simp [IntKind.wrap,IntKind.bits,IntKind.signed];omega
theorem qO6 {n:Int} (h:inI n):qA .u64 (IntKind.u64.wrap (rA .i64 n 1)) (IntKind.u64.wrap (kY .i64 n 63))=fT n:=by
 have h1:kY .i64 n 63=n/9223372036854775808:=by
  unfold kY;rw[show min ((63:Int).toNat) IntKind.i64.bits=63 from rfl,show((2:Int)^63)=9223372036854775808 from rfl,Int.fdiv_eq_ediv_of_nonneg _ (by decide)]
 have h2:IntKind.u64.wrap (rA .i64 n 1)=IntKind.u64.wrap (2*n):=by
  unfold rA;rw[show min ((1:Int).toNat) IntKind.i64.bits=1 from rfl,show((2:Int)^1)=2 from rfl];simp [IntKind.wrap,IntKind.bits,IntKind.signed];omega
 unfold inI at h;rw[h1,h2];unfold fT;split
 ·rw[show n/9223372036854775808 = -1 by omega,show IntKind.u64.wrap (-1)=18446744073709551615 from rfl,qST (gQ _)]
  simp [IntKind.wrap,IntKind.bits,IntKind.signed];omega
 ·rw[show n/9223372036854775808=0 by omega,show IntKind.u64.wrap 0=0 from rfl,qSS (gQ _),aT (by omega)];omega
abbrev OE:Ct:=.fn [.int .i64] (some (fun(n:Int)=>(inI n))) (fun(n:Int)=>.d (.int .u64) (fT n))
theorem qO7:aG Tryz.prog 150 OE:=by
 refine aG.fn ZO mixed [] [] rfl rfl ?_;rintro⟨(n:Int),_⟩ hpre;replace hpre:=hpre _ rfl;dsimp only[cu]at hpre;have hn:=hpre;refine⟨[],?_⟩;repeat' (first
  |(
 with_reducible apply Side.mk
 (try dsimp only[cu,aB,aA,gts,loK,hiK,eE,eN])
 omega)
  |(conv=>whnf
    first
     |with_reducible first|done|exact trivial|refine NilBr.mk (fun h=>?_) ?_|apply aJ|apply aI|refine aK (by kernel_rfl) ?_|apply aL|apply bA|apply aZ|apply aO
     |((with_reducible first|apply aQ|apply aP|apply aX)<;>intro h<;>(try dsimp only[cu,eE,eN]at h)<;>(try(exfalso;omega)))))
 all_goals(
 with_reducible apply Leaf.mk
 (try dsimp only[cu,aB,aA,gts,eE,eN]at *)
 exact qO6 hn)
abbrev qQ1:Tbl:=(150,OE)::qQ0
theorem ZP:aC Tryz.prog qQ1:=aC.cons qO7 ZO
abbrev HU:Ct:=.fn [.int .i64] (some (fun(n:Int)=>(inI n))) (fun(n:Int)=>.d (.int .u64) (fT n))
theorem qLV:aG Tryz.prog 122 HU:=by
 refine aG.fn ZP mixed [] [] rfl rfl ?_;rintro⟨(n:Int),_⟩ hpre;replace hpre:=hpre _ rfl;dsimp only[cu]at hpre;have hn:=hpre;unfold inI at hn;refine⟨[],?_⟩;repeat' (first
  |(
 with_reducible apply Side.mk
 (try dsimp only[cu,aB,aA,gts,loK,hiK,eE,eN])
 omega)
  |(conv=>whnf
    first
     |with_reducible first|done|exact trivial|refine NilBr.mk (fun h=>?_) ?_|apply aJ|apply aI|refine aK (by kernel_rfl) ?_|apply aL|apply bA|apply aZ|apply aO
     |((with_reducible first|apply aQ|apply aP|apply aX)<;>intro h<;>(try dsimp only[cu,eE,eN]at h)<;>(try(exfalso;omega)))))
 all_goals(
 with_reducible apply Leaf.mk
 (try dsimp only[cu,aB,aA,gts,eE,eN]at *)
 first
 |(
  have q:¬n<0:=by assumption
  rw[fT,if_neg q,aT (n:=n) (by omega),aT (by omega)])
 |(
  have q:n<0:=by assumption
  rw[fT,if_pos q,qN9 (a:=0-(n+1)) (by unfold inI;omega),aT (n:=0-(n+1)) (by omega),aT (n:=(0-(n+1))*2) (by omega),aT (by omega)];show(_:Int)=_;omega))
abbrev qQ2:Tbl:=(122,HU)::qQ1
theorem ZQ:aC Tryz.prog qQ2:=aC.cons qLV ZP
def eZ (v:Int):List Int->Nat
 | []=>0
 |x::l=>if x=v then eZ v l+1 else 0
theorem mM (v:Int):∀l:List Int,eZ v l<=l.length
 | []=>Nat.le_refl _
 |x::l=>by
  have:=mM v l;unfold eZ;split<;>simp<;>omega
theorem xQ {v:Int}:∀ {l:List Int} {m:Nat},m<=l.length->(∀j,j<m->l[j]! =v)->(m=l.length\/¬l[m]! =v)->eZ v l=m
 | [],m,h,_,_=>by simp at h;subst h;rfl
 |x::l,0,_,_,h=>by
  rcases h with h|h
  ·simp at h
  ·unfold eZ;rw[if_neg (by simpa using h)]
 |x::l,m+1,h,h1,h2=>by
  have h0:x=v:=by simpa using h1 0 (by omega)
  unfold eZ;rw[if_pos h0,xQ (m:=m) (by simpa using h) (fun j hj=>by simpa using h1 (j+1) (by omega)) (by simpa using h2)]
def runs:List Int->List (Int×Int)
 | []=>[]
 |v::l=>((eZ v l:Int)+1,v)::runs (l.drop (eZ v l))
termination_by l=>l.length
decreasing_by simp;omega
theorem qI (l:List Int) (a j:Nat):(l.drop a)[j]! =l[a+j]!:=by
 simp [List.getElem!_eq_getElem?_getD,List.getElem?_drop]
theorem qDR {l:List Int} {i k:Int} (h:0<=i/\i<k/\k<=l.length) (he:∀j:Nat,i<=j->(j:Int)<k->l[j]! =l[i.toNat]!) (hn:k=l.length\/¬l[k.toNat]! =l[i.toNat]!) :
  runs (l.drop i.toNat)=(k-i,l[i.toNat]!)::runs (l.drop k.toNat):=by
 have e:eZ l[i.toNat]! (l.drop (i+1).toNat)=(k-i-1).toNat:=by
  refine xQ (by simp;omega) (fun j hj=>?_) ?_
  ·rw[qI];exact he _ (by omega) (by omega)
  ·rcases hn with q|q
   ·left;simp;omega
   ·right;rw[qI,show(i+1).toNat+(k-i-1).toNat=k.toNat by omega];exact q
 rw[bH l i (by omega),runs,e,List.drop_drop,show(i+1).toNat+(k-i-1).toNat=k.toNat by omega,show(((k-i-1).toNat:Nat):Int)+1=k-i by omega]
def FQ:List (Int×Int)->List Int
 | []=>[]
 |(n,v)::r=>put n++(put (fT v)++FQ r)
def lV (l:List Int):ByteArray:=aN (FQ (runs l))
theorem pB {l:List Int} (h:∀x,x∈l->inI x) (k:Nat):inI l[k]!:=by
 by_cases q:k<l.length
 ·rw[getElem!_pos l k q];exact h _ (List.getElem_mem q)
 ·rw[getElem!_neg l k q];unfold inI;exact⟨by decide,by decide⟩
abbrev OB:Ct:=.fn [.list (.int .i64)] (some (fun(l:List Int)=>(1<=l.length/\l.length<=1073741824))) (fun(l:List Int)=>.d (.int .i64) ((eZ l[0]! (l.drop 1):Int)+1))
theorem qOS:aG Tryz.prog 176 OB:=by
 refine aG.fn ZQ mixed [] [] rfl rfl ?_;rintro⟨(l:List Int),_⟩ hpre;replace hpre:=hpre _ rfl;dsimp only[cu]at hpre;have hl:=hpre;refine⟨[(0,4,LA.mk [.sl 3 (.int .i64)] (fun y=>Tag 24/\cu [.int .i64] (fun(n:Int)=>(1<=n/\n<=l.length)/\(∀j:Nat,(j:Int)<n->l[j]! =l[0]!)) y) (cu [.int .i64] (fun(n:Int)=>((l.length:Int)-n).toNat)) (cu [.int .i64] (fun(n:Int)=>([]:List (Nat×Nat×LA)))))],?_⟩;repeat' (first
  |(
 with_reducible refine Side.mk ⟨(⟨⟩:Tag 24),?_⟩
 dsimp only[cu,aB,aA,gts,eE,eN]
 refine⟨?_,?_⟩
 ·omega
 ·first
  |(
  intro j hj
  first
  |rw[show j=0 by omega]
  |(
   rcases Int.lt_or_le (j:Int) n with q|q
   ·exact he j q
   ·rw[show j=n.toNat by omega];first|assumption|(simp_all;done))))
  |(
 with_reducible apply Side.mk
 (try dsimp only[cu,aB,aA,gts,loK,hiK,eE,eN])
 omega)
  |(conv=>whnf
    first
     |with_reducible first|done|exact trivial|refine NilBr.mk (fun h=>?_) ?_|apply aJ|apply aI|refine aK (by kernel_rfl) ?_|apply aL|apply bA|apply aZ|apply aO
     |((with_reducible first|apply aQ|apply aP|apply aX)<;>intro h<;>(try dsimp only[cu,eE,eN]at h)<;>(try(exfalso;omega)))
     |(
 intro yy (hy:Tag 24/\_)
 obtain⟨(n:Int),_⟩:=yy
 replace hy:=hy.2
 dsimp only[cu,aB,aA,gts,eE,eN]at hy
 obtain⟨hn,he⟩:=hy)))
 all_goals(
 with_reducible apply Leaf.mk
 (try dsimp only[cu,aB,aA,gts,eE,eN]at *)
 (
  have e:eZ l[0]! (l.drop 1)=(n-1).toNat:=by
   refine xQ (by simp;omega) (fun j hj=>by rw[qI];exact he _ (by omega)) ?_;first
   |(left;simp;omega)
   |(right;rw[qI,show 1+(n-1).toNat=n.toNat by omega];first|assumption|(simp_all;done))
  rw[e];show(_:Int)=_;omega))
abbrev qQ3:Tbl:=(176,OB)::qQ2
theorem ZR:aC Tryz.prog qQ3:=aC.cons qOS ZQ
abbrev CC:Ct:=.fn [.list (.int .i64)] (some (fun(l:List Int)=>(l.length<=1073741824)/\(∀x,x∈l->inI x))) (fun(l:List Int)=>.d .str (lV l))
theorem qHS:aG Tryz.prog 155 CC:=by
 refine aG.fn ZR mixed [] [] rfl rfl ?_;rintro⟨(l:List Int),_⟩ hpre;replace hpre:=hpre _ rfl;dsimp only[cu]at hpre;obtain⟨hl,hv⟩:=hpre;refine⟨[(0,6,LA.mk [.sl 4 (.int .i64),.sl 3 .str] (fun y=>Tag 25/\cu [.int .i64,.str] (fun(i:Int) (x:ByteArray)=>(0<=i/\i<=l.length)/\(lV l=x++aN (FQ (runs (l.drop i.toNat))))/\((x.size:Int)<=20*i)) y) (cu [.int .i64,.str] (fun(i:Int) (x:ByteArray)=>((l.length:Int)-i).toNat)) (cu [.int .i64,.str] (fun(i:Int) (x:ByteArray)=>([(0,10,LA.mk [.sl 5 (.int .i64)] (fun y=>Tag 26/\cu [.int .i64] (fun(k:Int)=>(i<=k/\k<=l.length)/\(∀j:Nat,i<=j->(j:Int)<k->l[j]! =l[i.toNat]!)) y) (cu [.int .i64] (fun(k:Int)=>((l.length:Int)-k).toNat)) (cu [.int .i64] (fun(k:Int)=>([]:List (Nat×Nat×LA)))))]:List (Nat×Nat×LA)))))],?_⟩;repeat' (first
  |(
 with_reducible refine Side.mk ⟨(⟨⟩:Tag 25),?_⟩
 dsimp only[cu,aB,aA,gts,eE,eN]
 refine⟨?_,?_,?_⟩
 ·omega
 ·first
  |rw[show(⟨#[]⟩:ByteArray)=ByteArray.empty from rfl,ByteArray.empty_append];rfl
  |(
  have hik:i<k:=by
   rcases Int.lt_or_le i k with q|q
   ·exact q
   ·exfalso
    have e:k=i:=by omega
    subst e;first|omega|(simp_all;done)
  have hst:=qDR (l:=l) (i:=i) (k:=k) (by omega) he (by first|(left;omega)|(right;assumption)|(right;simp_all;done))
  have p1:=aV (k-i)
  have p2:=aV (fT l[i.toNat]!)
  have hui:=aT (n:=k-i) (by omega)
  rw[hx,hst,FQ,hui]
  simp only[bQ,ByteArray.append_assoc])
 ·first
  |exact Int.le_refl _
  |(
  have hik:i<k:=by
   rcases Int.lt_or_le i k with q|q
   ·exact q
   ·exfalso
    have e:k=i:=by omega
    subst e;first|omega|(simp_all;done)
  have p1:=aV (k-i)
  have p2:=aV (fT l[i.toNat]!)
  have hui:=aT (n:=k-i) (by omega)
  simp only[ByteArray.size_append,bM,hui]
  omega))
  |(
 with_reducible refine Side.mk ⟨(⟨⟩:Tag 26),?_⟩
 dsimp only[cu,aB,aA,gts,eE,eN]
 refine⟨?_,?_⟩
 ·omega
 ·first
  |intro j h1 h2;omega
  |(
  intro j h1 h2
  rcases Int.lt_or_le (j:Int) k with q|q
  ·exact he j h1 q
  ·rw[show j=k.toNat by omega];first|assumption|(simp_all;done)))
  |(
 with_reducible apply Side.mk
 (try dsimp only[cu,aB,aA,gts,loK,hiK,eE,eN])
 first
 |omega
 |(
  have hik:i<k:=by
   rcases Int.lt_or_le i k with q|q
   ·exact q
   ·exfalso
    have e:k=i:=by omega
    subst e;first|omega|(simp_all;done)
  omega)
 |exact pB hv _
 |exact kJ (pB hv _)
 |(
  have hui:=aT (n:=k-i) (by omega);omega)
 |(
  have hik:i<k:=by
   rcases Int.lt_or_le i k with q|q
   ·exact q
   ·exfalso
    have e:k=i:=by omega
    subst e;first|omega|(simp_all;done)
  have p1:=aV (k-i);have p2:=aV (fT l[i.toNat]!);have hui:=aT (n:=k-i) (by omega);simp only[ByteArray.size_append,bM,hui];omega))
  |(conv=>whnf
    first
     |with_reducible first|done|exact trivial|refine NilBr.mk (fun h=>?_) ?_|apply aJ|apply aI|refine aK (by kernel_rfl) ?_|apply aL|apply bA|apply aZ|apply aO
     |((with_reducible first|apply aQ|apply aP|apply aX)<;>intro h<;>(try dsimp only[cu,eE,eN]at h)<;>(try(exfalso;omega)))
     |(
 intro yy (hy:Tag 25/\_)
 obtain⟨(i:Int),(x:ByteArray),_⟩:=yy
 replace hy:=hy.2
 dsimp only[cu,aB,aA,gts,eE,eN]at hy
 obtain⟨hi,hx,hz⟩:=hy)
     |(
 intro yy (hy:Tag 26/\_)
 obtain⟨(k:Int),_⟩:=yy
 replace hy:=hy.2
 dsimp only[cu,aB,aA,gts,eE,eN]at hy
 obtain⟨hk,he⟩:=hy)))
 all_goals(
 with_reducible apply Leaf.mk
 (try dsimp only[cu,aB,aA,gts,eE,eN]at *)
 (
  rw[hx,List.drop_eq_nil_of_le (by omega),runs,FQ];show x=x++ByteArray.empty;simp))
abbrev qQ4:Tbl:=(155,CC)::qQ3
theorem ZS:aC Tryz.prog qQ4:=aC.cons qHS ZR
def mnL:List Int->Int
 | []=>0
 |x::l=>l.foldl bS x
def mxL:List Int->Int
 | []=>0
 |x::l=>l.foldl cQ x
theorem qK0 (x:Int):∀l:List Int,l≠ []->mnL (l++ [x])=bS (mnL l) x
 | [],h=>absurd rfl h
 |y::l,_=>by simp [mnL]
theorem qL6 {l:List Int} {k:Int} (h:1<=k/\k<l.length):l.take k.toNat≠ []:=by
 intro q;have:=congrArg List.length q;rw[List.length_take,List.length_nil]at this;omega
theorem wC {l:List Int} {k:Int} (h:0<=k/\k<l.length):l.take (k+1).toNat=l.take k.toNat++ [l[k.toNat]!]:=by
 rw[show(k+1).toNat=k.toNat+1 by omega,List.take_succ_eq_append_getElem (by omega),getElem!_pos l k.toNat (by omega)]
theorem qK1 {l:List Int} {k:Int} (h:1<=k/\k<l.length):mnL (l.take (k+1).toNat)=bS (mnL (l.take k.toNat)) l[k.toNat]!:=by
 rw[wC (by omega),qK0 _ _ (qL6 h)]
theorem qIR {l:List Int} (h:1<=l.length):l.take (1:Int).toNat= [l[0]!]:=by
 cases l with
 |nil=>simp at h
 |cons x l=>rfl
def dW (s:ByteArray) (a:Int):Int:=cT s (qN s a).2.1.toNat
def dE (s:ByteArray) (a k:Int):Int:=(qN s a).2.1+1+iA k (dW s a)
def dU (s:ByteArray) (a k:Int):List Int×Int:=AQ (s.extract ((qN s a).2.1+1).toNat (dE s a k).toNat) k (dW s a)
def dL (s:ByteArray) (a:Int):Int:=qS1 (qN s a).1
def dDs (s:ByteArray) (a k:Int):List Int:=(dU s a k).1.map fun v=>IntKind.i64.wrap (dL s a+v)
def dOk (s:ByteArray) (a k:Int):Bool:=decide ((dU s a k).2=0)&&decide (mnL (dU s a k).1=0)&&decide (lZ (mxL (dU s a k).1)=dW s a)&&decide (mnL (dDs s a k)=dL s a)
def KQ (s:ByteArray) (a k:Int):List Int×Int×Int:=
 if(qN s a).2.2≠0 then([],0,(qN s a).2.2)else if(qN s a).2.1=s.size then([],0,10)else if dW s a>64 then([],0,2)
 else if dE s a k>s.size then([],0,10)else if dOk s a k=false then([],0,2)else(dDs s a k,dE s a k,0)
theorem qNT {s:ByteArray} {a k:Int} (h:(dU s a k).2=0):(dU s a k).1.length=k.toNat:=SO h
theorem qJ0 (s:ByteArray) (a k:Int):dOk s a k=true↔(dU s a k).2=0/\mnL (dU s a k).1=0/\lZ (mxL (dU s a k).1)=dW s a/\mnL (dDs s a k)=dL s a:=by simp [dOk,and_assoc]
theorem qC9 (k w:Int):0<=iA k w/\iA k w<=32768:=by
 unfold iA;split
 ·rename_i h
  have h1:=(oM k w).1 h;have h2:=XP h1;rw[Int.tdiv_eq_ediv_of_nonneg (by omega)];omega
 ·omega
abbrev BW:Ct:=.fn [.list (.int .i64)] (some (fun(l:List Int)=>(1<=l.length/\l.length<=1073741824))) (fun(l:List Int)=>.d (.int .i64) (mnL l))
theorem qGY:aG Tryz.prog 201 BW:=by
 refine aG.fn ZS mixed [] [] rfl rfl ?_;rintro⟨(l:List Int),_⟩ hpre;replace hpre:=hpre _ rfl;dsimp only[cu]at hpre;have hl:=hpre;refine⟨[(0,10,LA.mk [.sl 4 (.int .i64),.sl 3 (.int .i64)] (fun y=>Tag 27/\cu [.int .i64,.int .i64] (fun(i:Int) (m:Int)=>(1<=i/\i<=l.length)/\(m=mnL (l.take i.toNat))) y) (cu [.int .i64,.int .i64] (fun(i:Int) (m:Int)=>((l.length:Int)-i).toNat)) (cu [.int .i64,.int .i64] (fun(i:Int) (m:Int)=>([]:List (Nat×Nat×LA)))))],?_⟩;repeat' (first
  |(
 with_reducible refine Side.mk ⟨(⟨⟩:Tag 27),?_⟩
 dsimp only[cu,aB,aA,gts,eE,eN]
 refine⟨?_,?_⟩
 ·omega
 ·first
  |rw[qIR (by omega)];rfl
  |(
  (try simp only[MU])
  rw[hm,qK1 (by omega)]))
  |(
 with_reducible apply Side.mk
 (try dsimp only[cu,aB,aA,gts,loK,hiK,eE,eN])
 omega)
  |(conv=>whnf
    first
     |with_reducible first|done|exact trivial|refine NilBr.mk (fun h=>?_) ?_|apply aJ|apply aI|refine aK (by kernel_rfl) ?_|apply aL|apply bA|apply aZ|apply aO
     |((with_reducible first|apply aQ|apply aP|apply aX)<;>intro h<;>(try dsimp only[cu,eE,eN]at h)<;>(try(exfalso;omega)))
     |(
 intro yy (hy:Tag 27/\_)
 obtain⟨(i:Int),(m:Int),_⟩:=yy
 replace hy:=hy.2
 dsimp only[cu,aB,aA,gts,eE,eN]at hy
 obtain⟨hi,hm⟩:=hy)))
 all_goals(
 with_reducible apply Leaf.mk
 (try dsimp only[cu,aB,aA,gts,eE,eN]at *)
 rw[hm,List.take_of_length_le (by omega)])
abbrev qQ5:Tbl:=(201,BW)::qQ4
theorem ZT:aC Tryz.prog qQ5:=aC.cons qGY ZS
def qPZ (M:List Int):Int:=M[M.length-1]!
def qL3:Int->List Int->List Int
 |_,[]=>[]
 |x,d::r=>IntKind.i64.wrap (x+d)::qL3 (IntKind.i64.wrap (x+d)) r
theorem RG:∀(ds:List Int) (x:Int),(qL3 x ds).length=ds.length
 | [],_=>rfl
 |d::r,x=>by simp [qL3,RG r]
theorem qOA {n:Int} {M:List Int} (h:(M.length:Int)<n):1<=bS 32 (n-(M.length:Int))/\bS 32 (n-(M.length:Int))<=32/\M.length+bS 32 (n-(M.length:Int))<=n:=by unfold bS;split<;>omega
theorem qJQ {s:ByteArray} {a k:Int} (h:(KQ s a k).2.2=0):(KQ s a k).1.length=k.toNat/\0<=(KQ s a k).2.1/\(KQ s a k).2.1<=s.size:=by
 unfold KQ at h ⊢;split at h
 ·exact absurd h (by assumption)
 ·rename_i h1
  rw[if_neg h1];split at h
  ·exact absurd h (by decide)
  ·rename_i h2
   rw[if_neg h2];split at h
   ·exact absurd h (by decide)
   ·rename_i h3
    rw[if_neg h3];split at h
    ·exact absurd h (by decide)
    ·rename_i h4
     rw[if_neg h4];split at h
     ·exact absurd h (by decide)
     ·rename_i h5
      rw[if_neg h5];have h6:=(qJ0 s a k).1 (by simpa using h5);have h7:=qNT h6.1;have h8:=qKP (Decidable.not_not.1 h1);have h9:=qC9 k (dW s a);have h10:dE s a k=(qN s a).2.1+1+iA k (dW s a):=rfl;refine⟨by simp [dDs,h7],?_,?_⟩
      ·show 0<=dE s a k;omega
      ·show dE s a k<=s.size;omega
def dd (s:ByteArray) (n a:Int) (M:List Int):List Int×Int:=
 if h:(M.length:Int)<n then
  if h2:(KQ s a (bS 32 (n-(M.length:Int)))).2.2=0 then dd s n (KQ s a (bS 32 (n-(M.length:Int)))).2.1 (M++qL3 (qPZ M) (KQ s a (bS 32 (n-(M.length:Int)))).1)
  else([],(KQ s a (bS 32 (n-(M.length:Int)))).2.2)
 else if a<s.size then([],2)else(M,0)
termination_by (n-M.length).toNat
decreasing_by
 have:=qOA h;have:=(qJQ h2).1;simp only[List.length_append,RG];omega
theorem fmin:∀(l:List Int) (x:Int),l.foldl bS x<=x/\(∀y,y∈l->l.foldl bS x<=y)/\(l.foldl bS x=x\/l.foldl bS x∈l)
 | [],x=>⟨Int.le_refl _,by simp,.inl rfl⟩
 |z::l,x=>by
  obtain⟨h1,h2,h3⟩:=fmin l (bS x z);have h4:bS x z<=x/\bS x z<=z/\(bS x z=x\/bS x z=z):=by unfold bS;split<;>omega
  refine⟨by rw[List.foldl_cons];omega,fun y hy=>?_,?_⟩
  ·rw[List.foldl_cons]
   rcases List.mem_cons.1 hy with q|q
   ·subst q;omega
   ·exact h2 y q
  ·rw[List.foldl_cons]
   rcases h3 with q|q
   ·rcases h4.2.2 with p|p
    ·left;rw[q,p]
    ·right;rw[q,p];simp
   ·right;simp [q]
theorem XJ {l:List Int} (h:l≠ []):mnL l∈l:=by
 cases l with
 |nil=>exact absurd rfl h
 |cons x l=>
  obtain⟨h1,h2,h3⟩:=fmin l x;show List.foldl bS x l∈_;rcases h3 with q|q
  ·rw[q];simp
  ·simp [q]
def mwL (U:List Int):Int:=U.foldl (fun w v=>cQ w (lZ v)) 0
theorem qLB {b:Bool} (h:(!b)=false):b=true:=by cases b<;>simp_all
end Go.Proofs.YtcjiefknhfhmkaaGreatDoor
