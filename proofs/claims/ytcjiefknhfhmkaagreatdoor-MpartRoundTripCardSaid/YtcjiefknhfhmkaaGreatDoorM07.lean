import Derived.Test.YtcjiefknhfhmkaaGreatDoorRows
import Derived.Test.YtcjiefknhfhmkaaGreatDoorM06
open Int renaming tmod_eq_emod_of_nonneg -> ga, tdiv_eq_ediv_of_nonneg -> gc, mul_le_mul_of_nonneg_right -> gg, mul_nonneg -> gh, toNat_of_nonneg -> gi, fdiv_eq_ediv_of_nonneg -> gk, eq_ofNat_of_zero_le -> gq, mul_le_mul_of_nonneg_left -> gr, le_of_lt -> gt, ediv_nonneg -> gw, mul_comm -> ho, emod_add_mul_ediv -> hz, emod_lt_of_pos -> kf, toNat_natCast -> ki, mul_assoc -> kj, ediv_le_self -> kk, pow_succ -> km, add_mul_ediv_right -> kn, ediv_eq_zero_of_lt -> ko, ediv_lt_of_lt_mul -> kv, pow_pos -> ky, add_mul -> kz, le_refl -> va
open List renaming take_of_length_le -> gb, take_succ_eq_append_getElem -> ge, length_nil -> gf, length_cons -> gj, length_append -> gl, mem_iff_getElem -> gm, any_eq_true -> gn, getElem_mem -> gp, drop_eq_nil_of_le -> gu, mem_cons -> gx, mem_map -> gy, ext_getElem -> ka, takeWhile_cons -> kc, pairwise_cons -> kg, pairwise_iff_getElem -> kh, mem_filter -> kp, mem_append -> kq, foldl_cons -> ks, map_append -> kt, range_succ -> ku, getElem!_toArray -> kw, singleton_append -> kx, mem_cons_of_mem -> ua, take_zero -> uc, map_congr_left -> ud, mergeSort_perm -> ue, any_cons -> ug, getElem?_take -> ui, getElem_range -> uk, pairwise_map -> uq, any_nil -> ur, not_lt -> uz
open Nat renaming min_eq_left -> gz, eq_or_lt_of_le -> he, zero_add -> hh, pow_le_pow_right -> kb, and_one_is_mod -> ke, zero_le -> ub, mod_lt -> uj, lt_or_ge -> uo
open Bool renaming and_eq_true -> kl, or_false -> uh
open ByteArray renaming ext -> uf
namespace Go.Proofs.YtcjiefknhfhmkaaGreatDoor
open Go.Abs
set_option maxRecDepth 100000
set_option maxHeartbeats 4000000
set_option linter.unusedVariables false
set_option linter.unusedSimpArgs false
theorem eE {α β:Type _} (p:α×β):(p.1,p.2)=p:=rfl
theorem eN {α:Type _} (l:List α):[]++l=l:=rfl
theorem mixed:Tryz.prog.follows .mixedOrders=true:=kr
structure Tag (n:Nat):Prop where
@[reducible] instance:Inhabited Int:=instInhabitedDen (.int .i64)
@[reducible] instance:Inhabited Bool:=instInhabitedDen .bool
@[reducible] instance:Inhabited ByteArray:=instInhabitedDen .str
theorem nJ (n:Int):0<=IntKind.u8.wrap n/\IntKind.u8.wrap n<256:=by simp [IntKind.wrap,IntKind.bits,IntKind.signed];omega
theorem qAT (n:Int):0<=IntKind.u32.wrap n/\IntKind.u32.wrap n<4294967296:=by simp [IntKind.wrap,IntKind.bits,IntKind.signed];omega
theorem iI (n:Int):0<=IntKind.u64.wrap n/\IntKind.u64.wrap n<18446744073709551616:=by simp [IntKind.wrap,IntKind.bits,IntKind.signed];omega
theorem KW {n:Int} (h:0<=n/\n<256):IntKind.u8.wrap n=n:=by simp [IntKind.wrap,IntKind.bits,IntKind.signed];omega
theorem qR1 (n:Int):IntKind.u8.wrap n=n%256:=by simp [IntKind.wrap,IntKind.bits,IntKind.signed]
theorem KV {n:Int} (h:0<=n/\n<4294967296):IntKind.u32.wrap n=n:=by simp [IntKind.wrap,IntKind.bits,IntKind.signed];omega
theorem bF {n:Int} (h:0<=n/\n<18446744073709551616):IntKind.u64.wrap n=n:=by simp [IntKind.wrap,IntKind.bits,IntKind.signed];omega
theorem qZU (a:Int):jQ .u64 a 7=a/128:=by
 have:min (7:Int).toNat IntKind.u64.bits=7:=dc
 unfold jQ;rw[this,gk _ dc];rfl
theorem RG {p:Nat->Bool} (h:(List.range 256).all p=true) {n:Int} (hn:0<=n/\n<256):p n.toNat=true:=
 List.all_eq_true.1 h _ (by simp;omega)
theorem qbB {a:Int} (h:0<=a/\a<256):bOr .u8 a 128=a%128+128:=by
 have:=RG (p:=fun n=>decide (bOr .u8 (n:Int) 128=(n:Int)%128+128)) kr h;have:=of_decide_eq_true this;rwa [gi h.1]at this
theorem qSK {a:Int} (h:0<=a/\a<256):GE .u8 a 128=a%128:=by
 have:=RG (p:=fun n=>decide (GE .u8 (n:Int) 128=(n:Int)%128)) kr h;have:=of_decide_eq_true this;rwa [gi h.1]at this
theorem qSM (a b:Int):0<=pT .u8 a b/\pT .u8 a b<256:=nJ _
theorem UV (a b:Int):0<=pT .u32 a b/\pT .u32 a b<4294967296:=qAT _
theorem qaH {a:Int} (h:0<=a/\a<4294967296):pT .u32 a 0=a:=by
 unfold pT;rw[show BitVec.ofInt IntKind.u32.bits 0=0#IntKind.u32.bits from rfl,BitVec.xor_zero];rw[BitVec.toNat_ofInt];have:((a%((2^IntKind.u32.bits:Nat):Int)).toNat:Int)=a:=by
  simp [IntKind.bits];omega
 rw[this,KV h]
theorem qaE {a:Int} (h:0<=a/\a<4294967296):sQ .u32 a 1=a%2:=by
 unfold sQ;have e1:(BitVec.ofInt IntKind.u32.bits a &&& BitVec.ofInt IntKind.u32.bits 1).toNat=(a%2).toNat:=by
  rw[BitVec.toNat_and,BitVec.toNat_ofInt,BitVec.toNat_ofInt];have:((1:Int)%((2^IntKind.u32.bits:Nat):Int)).toNat=1:=dc
  rw[this,ke];simp [IntKind.bits];omega
 rw[e1,KV om];omega
theorem qF6 {a:Int} (h:0<=a/\a<4294967296) (n:Nat):0<=jQ .u32 a n/\jQ .u32 a n<4294967296:=by
 unfold jQ;have hp:(0:Int)<2^(min ((n:Int)).toNat IntKind.u32.bits):=ky dc;rw[gk _ om];exact⟨gw h.1 om,Int.lt_of_le_of_lt (kk _ h.1) h.2⟩
theorem sG {α:Type} (l:List α) (k:Nat) (v:α) (h:k<l.length):(l.set k v).take (k+1)=l.take k++ [v]:=by
 apply List.ext_getElem?;intro i;rw[ui,List.getElem?_append,ui];simp only[List.length_take,List.getElem?_set];by_cases h1:i<k
 ·rw[if_pos om,if_neg om,if_pos om,if_pos h1]
 ·by_cases h2:i=k
  ·subst h2
   rw[if_pos om,if_pos rfl,if_pos h,if_neg om];simp [gz (Nat.le_of_lt h)]
  ·rw[if_neg om,if_neg om]
   simp;omega
theorem cR (a b:List Int):aT (a++b)=aT a++aT b:=by
 apply uf;simp [aT]
theorem cI (l:List Int):(aT l).size=l.length:=by simp [aT,ByteArray.size]
theorem cZ (s:ByteArray) (i:Nat):0<=aG s i/\aG s i<256:=by
 unfold aG;have:=(s.get! i).toNat_lt;omega
abbrev bU:Ty:=.pair .bool (.pair (.int .i64) .str)
abbrev Val:Type:=Bool×Int×ByteArray
@[reducible] instance:Inhabited Val:=instInhabitedDen bU
abbrev tY:Ty:=.pair .str (.pair (.int .i64) (.pair (.int .i64) .bool))
abbrev Col:Type:=ByteArray×Int×Int×Bool
@[reducible] instance:Inhabited Col:=instInhabitedDen tY
def gs (f:Nat->Int) (m w i:Nat):Nat->Int
 |0=>0
 |t+1=>gs f m w i t+(if i*w+t<m then f (i*w+t)*2^t else 0)
def uB (f:Nat->Int):Prop:=∀q,f q=0\/f q=1
theorem iG (t:Nat):(0:Int)<2^t:=ky dc
theorem vZ (t:Nat):(2:Int)^(t+1)=2*2^t:=by rw[km];omega
theorem OT {f:Nat->Int} (hf:uB f) (m w i:Nat):∀t,0<=gs f m w i t/\gs f m w i t<2^t
 |0=>by simp [gs]
 |t+1=>by
  have h:=OT hf m w i t;have hp:=iG t;rw[gs,vZ];split
  ·rcases hf (i*w+t)with q|q<;>rw[q]<;>omega
  ·omega
theorem qES {f:Nat->Int} {m w i:Nat}:∀ {t t0:Nat},t0<=t->(∀u,t0<=u->u<t->¬i*w+u<m)->gs f m w i t=gs f m w i t0
 |0,t0,h,_=>by rw[show t0=0 by omega]
 |t+1,t0,h,hu=>by
  rcases he h with q|q
  ·rw[q]
  ·rw[gs,if_neg (hu t om om),qES (t0:=t0) om (fun u h1 h2=>hu u h1 om)];omega
theorem xP {i w t m:Nat} (ht:t<w) (h:i*w+t=m):i=m/w/\t=m%w:=by
 subst h;constructor
 ·rw[Nat.add_comm,Nat.add_mul_div_right _ _ om,Nat.div_eq_of_lt ht,hh]
 ·rw[Nat.add_comm,Nat.add_mul_mod_self_right,Nat.mod_eq_of_lt ht]
theorem OU {f:Nat->Int} {m w i:Nat} (hw:0<w):∀t,t<=w->gs f (m+1) w i t=gs f m w i t+(if i=m/w/\m%w<t then f m*2^(m%w)else 0)
 |0,_=>by simp [gs]
 |t+1,ht=>by
  rw[gs,gs,OU hw t om];by_cases q:i*w+t=m
  ·obtain⟨q1,q2⟩:=xP om q
   rw[if_neg om,if_pos om,if_neg om,if_pos ⟨q1,om⟩,q,<-q2];(try omega)
  ·have q':¬(i=m/w/\t=m%w):=fun h=>q (by
     have:=Nat.div_add_mod m w;rw[h.1,h.2,Nat.mul_comm];exact this)
   by_cases r:i*w+t<m
   ·rw[if_pos (show i*w+t<m+1 by omega),if_pos r]
    by_cases c:i=m/w/\m%w<t
    ·rw[if_pos c,if_pos ⟨c.1,om⟩];omega
    ·rw[if_neg c,if_neg (fun h=>c ⟨h.1,om⟩)];omega
   ·rw[if_neg (show ¬i*w+t<m+1 by omega),if_neg r]
    by_cases c:i=m/w/\m%w<t
    ·rw[if_pos c,if_pos ⟨c.1,om⟩];omega
    ·rw[if_neg c,if_neg (fun h=>c ⟨h.1,om⟩)]
theorem qER {f:Nat->Int} {m w:Nat} (hw:0<w) (i:Nat):gs f (m+1) w i w=gs f m w i w+(if i=m/w then f m*2^(m%w)else 0):=by
 rw[OU hw w (Nat.le_refl _)];have:=uj m hw;by_cases c:i=m/w
 ·rw[if_pos ⟨c,this⟩,if_pos c]
 ·rw[if_neg (fun h=>c h.1),if_neg c]
theorem qOZ {f:Nat->Int} (hf:uB f) {m w:Nat} (hw:0<w):0<=gs f m w (m/w) w/\gs f m w (m/w) w<2^(m%w):=by
 have h:=uj m hw;rw[qES (t:=w) (t0:=m%w) om (fun u h1 h2=>by
  have:=Nat.div_add_mod m w;rw[Nat.mul_comm]at this;omega)]
 exact OT hf _ _ _ _
def gL (f:Nat->Int) (m w n:Nat):List Int:=(List.range n).map fun i=>gs f m w i w
theorem jB (f:Nat->Int) (m w n:Nat):(gL f m w n).length=n:=by simp [gL]
theorem SQ {f:Nat->Int} {m w n i:Nat} (h:i<n):(gL f m w n)[i]! =gs f m w i w:=by
 rw[getElem!_pos _ i (by rw[jB];exact h)];simp [gL]
theorem SS (f:Nat->Int) (w n:Nat):gL f 0 w n=List.replicate n 0:=by
 have h0:∀i t,gs f 0 w i t=0:=by
  intro i t;induction t with
  |zero=>rfl
  |succ t ih=>rw[gs,ih,if_neg om];rfl
 unfold gL;apply ka
 ·simp
 ·intro i h1 h2
  simp [h0]
theorem qTZ {f:Nat->Int} {m w n:Nat} (hw:0<w) (hm:m/w<n):(gL f m w n).set (m/w) (gs f m w (m/w) w+f m*2^(m%w))=gL f (m+1) w n:=by
 apply ka
 ·simp [gL]
 ·intro i h1 h2
  rw[List.getElem_set];simp only[gL,List.getElem_map,uk];rw[qER hw];by_cases c:m/w=i
  ·rw[if_pos c,if_pos c.symm,c]
  ·rw[if_neg c,if_neg (fun h=>c h.symm)];omega
theorem qTY {f:Nat->Int} {m w n:Nat} (hw:0<w) (h0:f m=0):gL f m w n=gL f (m+1) w n:=by
 unfold gL;refine ud fun i _=>?_
 rw[qER hw,h0];split<;>omega
theorem qOY {f:Nat->Int} (hf:uB f) {m w i:Nat}:∀ {n t:Nat},t<n->(gs f m w i n/2^t)%2=if i*w+t<m then f (i*w+t)else 0
 |0,t,h=>by omega
 |n+1,t,h=>by
  rw[gs];have hl:=OT hf m w i n;have hp:=iG t;rcases he (Nat.lt_succ_iff.1 h)with q|q
  ·subst q
   have key:∀b:Int,(gs f m w i t+b*2^t)/2^t=b:=fun b=>by
    rw[kn _ _ om,ko hl.1 hl.2];omega
   split
   ·rw[key]
    rcases hf (i*w+t)with q|q<;>rw[q]<;>rfl
   ·have:=key 0
    rw[Int.zero_mul]at this;rw[this];rfl
  ·have hs:∀b:Int,(gs f m w i n+b*2^n)/2^t%2=gs f m w i n/2^t%2:=fun b=>by
     obtain⟨d,rfl⟩:∃d,n=t+(d+1):=⟨n-t-1,om⟩
     rw[Int.pow_add,show b*(2^t*2^(d+1))=(b*2^(d+1))*2^t by rw[ho ((2:Int)^t),kj],kn _ _ om,vZ];rw[show b*(2*2^d)=2*(b*2^d)by rw[Int.mul_left_comm]];omega
   rw[<-qOY hf (i:=i) (m:=m) (w:=w) q];split
   ·exact hs _
   ·have:=hs 0
    rw[Int.zero_mul]at this;exact this
theorem qEQ {v:Int} {f:Nat->Int} {m w i:Nat} (hv:0<=v):∀t,(∀u,u<t->i*w+u<m/\f (i*w+u)=v/2^u%2)->gs f m w i t=v%2^t
 |0,_=>by simp [gs]
 |t+1,h=>by
  rw[gs,qEQ hv t (fun u hu=>h u om),if_pos (h t om).1,(h t om).2,vZ];have hp:=iG t;have e1:=hz v (2^t);have e2:=hz (v/2^t) 2;have e3:=Int.emod_nonneg v (show(2:Int)^t≠0 by omega);have e4:=kf v hp;have e5:=Int.emod_nonneg (v/2^t) (show(2:Int)≠0 by decide);have e6:=kf (v/2^t) (show(0:Int)<2 by decide);have e7:v=(v%2^t+v/2^t%2*2^t)+(2*2^t)*(v/2^t/2):=by
   have a1:(2:Int)^t*(v/2^t)=v/2^t%2*2^t+2*2^t*(v/2^t/2):=by
    conv=>lhs;rw[<-e2]
    rw[Int.mul_add,ho,<-kj,ho (2^t) 2]
   omega
  have e8:0<=v%2^t+v/2^t%2*2^t/\v%2^t+v/2^t%2*2^t<2*2^t:=by
   rcases(show v/2^t%2=0\/v/2^t%2=1 by omega)with q|q<;>rw[q]<;>omega
  conv=>rhs;rw[e7]
  rw[Int.add_mul_emod_self_left,Int.emod_eq_of_lt e8.1 e8.2]
theorem dI (n:Nat):((2^n:Nat):Int)=(2:Int)^n:=sm
theorem qU4 (k:IntKind) (hs:k.signed=false) {a b:Int} {s:Nat} (hb:b=0\/b=1) (hk:s<k.bits) (ha:0<=a/\a<2^s):bOr k a (b*2^s)=a+b*2^s:=by
 have hp:=iG s;have hle:(2:Int)^s*2<=2^k.bits:=by
  obtain⟨d,hd⟩:∃d,k.bits=s+(d+1):=⟨k.bits-s-1,om⟩
  rw[hd,Int.pow_add,vZ];have:=iG d;have h1:(2:Int)^s*(2*1)<=2^s*(2*2^d):=gr om om;simpa using h1
 have hbs:0<=b*2^s/\b*2^s<=2^s:=by rcases hb with q|q<;>rw[q]<;>omega
 have hcast:=dI k.bits;have hid:∀x:Int,0<=x->x<2^k.bits->(BitVec.ofInt k.bits x).toNat=x.toNat:=fun x h1 h2=>by
  rw[BitVec.toNat_ofInt,hcast,Int.emod_eq_of_lt h1 h2]
 unfold bOr;rw[BitVec.toNat_or,hid a ha.1 om,hid _ hbs.1 om];have e:a.toNat ||| (b*2^s).toNat=a.toNat+(b*2^s).toNat:=by
  have ha2:a.toNat<2^s:=by
   have:=dI s;omega
  rcases hb with q|q
  ·subst q;simp
  ·subst q
   have h2:((1:Int)*2^s).toNat=2^s*1:=by
    rw[Int.one_mul,<-dI,ki,Nat.mul_one]
   rw[h2,Nat.or_comm,<-Nat.two_pow_add_eq_or_of_lt ha2];omega
 rw[e];have hsum:((a.toNat+(b*2^s).toNat:Nat):Int)=a+b*2^s:=om
 rw[hsum];have hin:0<=a+b*2^s/\a+b*2^s<2^k.bits:=by
  refine⟨om,?_⟩;rcases hb with q|q<;>rw[q]<;>omega
 cases k<;>first|(simp [IntKind.signed]at hs;done)|(simp only[IntKind.wrap,IntKind.bits,IntKind.signed]at hin ⊢;simp at hin ⊢;omega)
theorem qF5 {v:Int} (hv:0<=v) {k:Int} (hk:0<=k/\k<64):jQ .u64 v k=v/2^k.toNat:=by
 unfold jQ;rw[gk _ (by have:=iG (min k.toNat IntKind.u64.bits);omega),gz (by simp [IntKind.bits];omega)]
theorem ZH {v:Int} {k:Int} (hk:0<=k/\k<8):jQ .u8 v k=v/2^k.toNat:=by
 unfold jQ;rw[gk _ (by have:=iG (min k.toNat IntKind.u8.bits);omega),gz (by simp [IntKind.bits];omega)]
theorem RJ {a:Int} (h:0<=a/\a<18446744073709551616):sQ .u64 a 1=a%2:=by
 unfold sQ;have e1:(BitVec.ofInt IntKind.u64.bits a &&& BitVec.ofInt IntKind.u64.bits 1).toNat=(a%2).toNat:=by
  rw[BitVec.toNat_and,BitVec.toNat_ofInt,BitVec.toNat_ofInt];have:((1:Int)%((2^IntKind.u64.bits:Nat):Int)).toNat=1:=dc
  rw[this,ke];simp [IntKind.bits];omega
 rw[e1,bF om];omega
theorem qXT {a:Int} (h:0<=a/\a<256):sQ .u8 a 1=a%2:=by
 unfold sQ;have e1:(BitVec.ofInt IntKind.u8.bits a &&& BitVec.ofInt IntKind.u8.bits 1).toNat=(a%2).toNat:=by
  rw[BitVec.toNat_and,BitVec.toNat_ofInt,BitVec.toNat_ofInt];have:((1:Int)%((2^IntKind.u8.bits:Nat):Int)).toNat=1:=dc
  rw[this,ke];simp [IntKind.bits];omega
 rw[e1,KW om];omega
theorem qZT {b:Int} (hb:b=0\/b=1) {s:Int} (hs:0<=s/\s<8):mZ .u8 b s=b*2^s.toNat:=by
 unfold mZ;rw[gz (by simp [IntKind.bits];omega)];refine KW ?_;have h8:(2:Int)^s.toNat<=128:=by
  have:s.toNat<=7:=om
  have:=kb (show 0<2 by decide) this;rw[<-dI];omega
 have hp:=iG s.toNat;rcases hb with q|q<;>rw[q]<;>omega
theorem qVQ {b:Int} (hb:b=0\/b=1) {s:Int} (hs:0<=s/\s<64):mZ .u64 b s=b*2^s.toNat:=by
 unfold mZ;rw[gz (by simp [IntKind.bits];omega)];refine bF ?_;have h8:(2:Int)^s.toNat<=9223372036854775808:=by
  have:s.toNat<=63:=om
  have:=kb (show 0<2 by decide) this;rw[<-dI];omega
 have hp:=iG s.toNat;rcases hb with q|q<;>rw[q]<;>omega
def iP (v:Int):Int:=((Lib.bitLen v.toNat:Nat):Int)
def tR (n w:Int):Bool:=decide (0<=n)&&decide (n<=4096)&&decide (0<=w)&&decide (w<=64)
def eR (n w:Int):Int:=if tR n w=true then(n*w+7).tdiv 8 else 0
theorem gO (n w:Int):tR n w=true↔(0<=n/\n<=4096)/\0<=w/\w<=64:=by simp [tR,and_assoc]
theorem qPR {n w:Int} (h:(0<=n/\n<=4096)/\0<=w/\w<=64):0<=n*w/\n*w<=262144:=by
 refine⟨gh h.1.1 h.2.1,?_⟩;have h1:=gg h.1.2 h.2.1;omega
theorem lK {n w:Int} (h:(0<=n/\n<=4096)/\0<=w/\w<=64):eR n w=(n*w+7)/8/\0<=n*w/\n*w<=262144:=by
 have h1:=qPR h;rw[eR,if_pos ((gO n w).2 h),gc om];exact⟨rfl,h1⟩
theorem xS {i n k w:Int} (hi:i<n) (hk:k<w) (h0:0<=w):i*w+k<n*w:=by
 have h1:(i+1)*w<=n*w:=gg om h0;rw[kz]at h1;omega
theorem ZI (i w:Int):(i+1)*w=i*w+w:=by rw[kz];omega
def vbit (l:List Int) (w q:Nat):Int:=l[q/w]! /2^(q%w)%2
def sbit (s:ByteArray) (q:Nat):Int:=aG s (q/8)/2^(q%8)%2
theorem qDQ (l:List Int) (w:Nat):uB (vbit l w):=fun q=>by unfold vbit;omega
theorem yA (s:ByteArray):uB (sbit s):=fun q=>by unfold sbit;omega
theorem YB {i w k:Int} (h:0<=i/\0<=k/\k<w):(i*w+k).toNat/w.toNat=i.toNat/\(i*w+k).toNat%w.toNat=k.toNat:=by
 have h1:(i*w+k).toNat=i.toNat*w.toNat+k.toNat:=by
  have:0<=i*w:=gh h.1 om;have e:((i.toNat*w.toNat+k.toNat:Nat):Int)=i*w+k:=by
   push_cast
   rw[gi h.1,gi (show 0<=w by omega),gi h.2.1]
  omega
 obtain⟨q1,q2⟩:=xP (i:=i.toNat) (w:=w.toNat) (t:=k.toNat) (m:=(i*w+k).toNat) om h1.symm;exact⟨q1.symm,q2.symm⟩
theorem qWQ {kd:IntKind} (hs:kd.signed=false) {f:Nat->Int} (hf:uB f) {m W n:Nat} (hW:0<W) (hb:W<=kd.bits) (hm:m/W<n) :
  (gL f m W n).set (m/W) (bOr kd (gL f m W n)[m/W]! (f m*2^(m%W)))=gL f (m+1) W n:=by
 have hml:=uj m hW;rw[SQ hm,qU4 kd hs (hf m) om (qOZ hf hW)];exact qTZ hW hm
theorem XQ {f:Nat->Int} (hf:uB f) {N:Nat} {a b s q:Int} (ha:0<=a) (hN:a.toNat/8<N) (hb:b=f a.toNat) (hs:s=a.tmod 8) (hq:q=a.tdiv 8) :
  (gL f a.toNat 8 N).set q.toNat (bOr .u8 (gL f a.toNat 8 N)[q.toNat]! (mZ .u8 b s))=gL f (a+1).toNat 8 N:=by
 have e1:q.toNat=a.toNat/8:=by rw[hq,gc ha];omega
 have e2:s.toNat=a.toNat%8:=by rw[hs,ga ha];omega
 have e3:0<=s/\s<8:=by rw[hs,ga ha];omega
 rw[qZT (by rw[hb];exact hf _) e3,e1,e2,hb,show(a+1).toNat=a.toNat+1 by omega];exact qWQ rfl hf dc dc hN
theorem qDO {f:Nat->Int} (hf:uB f) {n W:Nat} {a b k i:Int} (ha:0<=a) (hW:0<W/\W<=64) (hi:0<=i/\i.toNat<n) (hk:0<=k) (h1:a.toNat/W=i.toNat) (h2:a.toNat%W=k.toNat) (hb:b=f a.toNat) :
  (gL f a.toNat W n).set i.toNat (bOr .u64 (gL f a.toNat W n)[i.toNat]! (mZ .u64 b k))=gL f (a+1).toNat W n:=by
 have h3:=uj a.toNat hW.1;rw[qVQ (by rw[hb];exact hf _) om,<-h1,<-h2,hb,show(a+1).toNat=a.toNat+1 by omega];exact qWQ rfl hf hW.1 hW.2 om
theorem qV2 {l:List Int} {i k w:Int} (h:0<=i/\0<=k/\k<w):vbit l w.toNat (i*w+k).toNat=l[i.toNat]! /2^k.toNat%2:=by
 obtain⟨q1,q2⟩:=YB h;unfold vbit;rw[q1,q2]
theorem qXW {v k:Int} (hv:0<=v/\v<18446744073709551616) (hk:0<=k/\k<64):sQ .u64 (jQ .u64 v k) 1=v/2^k.toNat%2/\(v/2^k.toNat%2=0\/v/2^k.toNat%2=1):=by
 have hp:=iG k.toNat;have h0:0<=v/2^k.toNat:=gw hv.1 om;have h1:v/2^k.toNat<=v:=kk _ hv.1;rw[qF5 hv.1 hk,RJ om];exact⟨rfl,om⟩
theorem qM8 (s:ByteArray) {a:Int} (ha:0<=a):sQ .u8 (jQ .u8 (aG s (a.tdiv 8).toNat) (a.tmod 8)) 1=sbit s a.toNat/\(sbit s a.toNat=0\/sbit s a.toNat=1):=by
 have e1:(a.tdiv 8).toNat=a.toNat/8:=by rw[gc ha];omega
 have e2:(a.tmod 8).toNat=a.toNat%8:=by rw[ga ha];omega
 have e3:0<=a.tmod 8/\a.tmod 8<8:=by rw[ga ha];omega
 have hb:=cZ s (a.toNat/8);have hp:=iG (a.toNat%8);have h0:0<=aG s (a.toNat/8)/2^(a.toNat%8):=gw hb.1 om;have h1:aG s (a.toNat/8)/2^(a.toNat%8)<=aG s (a.toNat/8):=kk _ hb.1;rw[ZH e3,e1,e2,qXT om];exact⟨rfl,yA s _⟩
def sM (l:List Int) (w:Int):Bool:=l.any fun v=>decide (iP v>w)
theorem qR8 {l:List Int} {w i:Int} (hi:0<=i/\i<l.length) (h:iP l[i.toNat]! >w):sM l w=true:=by
 unfold sM;rw[gn];refine⟨l[i.toNat]!,?_,by simpa using h⟩;rw[getElem!_pos l i.toNat om];exact gp _
theorem qI1 {l:List Int} {w:Int} (h:∀j:Nat,j<l.length->iP l[j]! <=w):sM l w=false:=by
 unfold sM;rw[List.any_eq_false];intro v hv;obtain⟨j,hj,rfl⟩:=gm.1 hv;have:=h j hj;rw[getElem!_pos l j hj]at this;simp;omega
def fT (l:List Int) (w:Int):ByteArray×Int:=
 if w<0\/w>64 then(⟨#[]⟩,4)else if l.length>4096 then(⟨#[]⟩,7)else if sM l w=true then(⟨#[]⟩,8)
 else(aT (gL (vbit l w.toNat) ((l.length:Int)*w).toNat 8 (eR l.length w).toNat),0)
abbrev tb1:Tbl:=(220,VD)::([]:Tbl)
theorem qRN:aD Tryz.prog tb1:=aD.cons qYY aD.nil
abbrev HV:Ct:=.fn [.int .u64] (some (fun(v:Int)=>(0<=v/\v<18446744073709551616))) (fun(v:Int)=>.d (.int .i64) (iP v))
theorem qR9:aH Tryz.prog 202 HV:=by
 refine aH.fn qRN mixed [] [] rfl rfl ?_;rintro⟨(v:Int),_⟩ hpre;replace hpre:=hpre _ rfl;dsimp only[cu]at hpre;have hv:=hpre;refine⟨[],?_⟩;repeat' (first
  |(
 with_reducible apply Side.mk
 (try dsimp only[cu,aC,aB,gts,loK,hiK,eE,eN])
 omega)
  |(conv=>whnf
    first
     |with_reducible first|done|exact trivial|refine NilBr.mk (fun h=>?_) ?_|apply aL|apply aK|refine aM kr ?_|apply aN|apply bL|apply bK|apply aU
     |((with_reducible first|apply aW|apply aV|apply bH)<;>intro h<;>(try dsimp only[cu,eE,eN]at h)<;>(try(exfalso;omega)))))
 all_goals(
 with_reducible apply Leaf.mk
 (try dsimp only[cu,aC,aB,gts,eE,eN]at *)
 rfl)
abbrev tb2:Tbl:=(202,HV)::tb1
theorem qRO:aD Tryz.prog tb2:=aD.cons qR9 qRN
theorem OZ {v:Int} (h:0<v) (h2:v<18446744073709551616):iP v=1+iP (v/2):=by
 obtain⟨n,rfl⟩:=gq (show 0<=v by omega);have hn:0<n:=om
 have e:((n:Int)/2).toNat=n/2:=om
 unfold iP;rw[e,ki];by_cases h1:n/2=0
 ·have:n=1:=om
  subst this;rfl
 ·rw[Lib.bitLen_shift 1 n om om]
  simp
theorem BV {v:Int} (h:v<=0):iP v=0:=by
 unfold iP;rw[show v.toNat=0 by omega];rfl
theorem FI {v:Int} (h:v<18446744073709551616):0<=iP v/\iP v<=64:=by
 unfold iP;have:=Lib.bitLen_le v.toNat 64 om om;omega
theorem qbH {v:Int} (h:0<=v):jQ .u64 v 1=v/2:=by
 rw[qF5 h dc];rfl
abbrev NP:Ct:=.fn [.int .i64,.int .i64] (none) (fun(n:Int) (w:Int)=>.d .bool (tR n w))
theorem qU7:aH Tryz.prog 225 NP:=by
 refine aH.fn qRO mixed [] [] rfl rfl ?_;rintro⟨(n:Int),(w:Int),_⟩ -;refine⟨[],?_⟩;repeat' (first
  |(
 with_reducible apply Side.mk
 (try dsimp only[cu,aC,aB,gts,loK,hiK,eE,eN])
 done)
  |(conv=>whnf
    first
     |with_reducible first|done|exact trivial|refine NilBr.mk (fun h=>?_) ?_|apply aL|apply aK|refine aM kr ?_|apply aN|apply bL|apply bK|apply aU
     |((with_reducible first|apply aW|apply aV|apply bH)<;>intro h<;>(try dsimp only[cu,eE,eN]at h)<;>(try(exfalso;omega)))))
 all_goals(
 with_reducible apply Leaf.mk
 (try dsimp only[cu,aC,aB,gts,eE,eN]at *)
 grind [tR])
abbrev tb3:Tbl:=(225,NP)::tb2
theorem qRP:aD Tryz.prog tb3:=aD.cons qU7 qRO
abbrev NJ:Ct:=.fn [.int .i64,.int .i64] (none) (fun(n:Int) (w:Int)=>.d (.int .i64) (eR n w))
theorem qUU:aH Tryz.prog 207 NJ:=by
 refine aH.fn qRP mixed [] [] rfl rfl ?_;rintro⟨(n:Int),(w:Int),_⟩ -;refine⟨[],?_⟩;repeat' (first
  |(
 with_reducible apply Side.mk
 (try dsimp only[cu,aC,aB,gts,loK,hiK,eE,eN])
 first
 |omega
 |(
  have hnw:=qPR (n:=n) (w:=w) ((gO n w).1 (by simp_all;done));first
  |omega
  |(
   rw[gc om];omega)))
  |(conv=>whnf
    first
     |with_reducible first|done|exact trivial|refine NilBr.mk (fun h=>?_) ?_|apply aL|apply aK|refine aM kr ?_|apply aN|apply bL|apply bK|apply aU
     |((with_reducible first|apply aW|apply aV|apply bH)<;>intro h<;>(try dsimp only[cu,eE,eN]at h)<;>(try(exfalso;omega)))))
 all_goals(
 with_reducible apply Leaf.mk
 (try dsimp only[cu,aC,aB,gts,eE,eN]at *)
 first
 |(
  have q:tR n w=true:=by simp_all;done
  rw[eR,if_pos q])
 |(
  have q:¬tR n w=true:=by simp_all;done
  rw[eR,if_neg q]))
abbrev tb4:Tbl:=(207,NJ)::tb3
theorem qRQ:aD Tryz.prog tb4:=aD.cons qUU qRP
abbrev NO:Ct:=.fn [.list (.int .u64),.int .i64] (some (fun(l:List Int) (w:Int)=>(∀i:Nat,0<=l[i]! /\l[i]! <18446744073709551616)/\(l.length<=4611686018427387904))) (fun(l:List Int) (w:Int)=>.tup [.str,.int .i64] ((fT l w).1,(fT l w).2,()))
theorem qU5:aH Tryz.prog 180 NO:=by
 refine aH.fn qRQ mixed [] [] rfl rfl ?_;rintro⟨(l:List Int),(w:Int),_⟩ hpre;replace hpre:=hpre _ rfl;dsimp only[cu]at hpre;obtain⟨hlv,hll⟩:=hpre;refine⟨[(0,16,LA.mk [.sl 29 (.int .i64),.sl 7 (.int .i64),.ar 0 (.int .u8) 5] (fun y=>Tag 1/\cu [.int .i64,.int .i64,.list (.int .u8)] (fun(i:Int) (a:Int) (M:List Int)=>(0<=i/\i<=l.length)/\(a=i*w)/\(M=gL (vbit l w.toNat) a.toNat 8 (eR l.length w).toNat)/\(∀j:Nat,(j:Int)<i->iP l[j]! <=w)) y) (cu [.int .i64,.int .i64,.list (.int .u8)] (fun(i:Int) (a:Int) (M:List Int)=>((l.length:Int)-i).toNat)) (cu [.int .i64,.int .i64,.list (.int .u8)] (fun(i:Int) (a:Int) (M:List Int)=>([(0,26,LA.mk [.sl 38 (.int .i64),.sl 7 (.int .i64),.ar 0 (.int .u8) 5] (fun y=>Tag 2/\cu [.int .i64,.int .i64,.list (.int .u8)] (fun(k:Int) (b:Int) (O:List Int)=>(0<=k/\k<=w)/\(b=i*w+k)/\(O=gL (vbit l w.toNat) b.toNat 8 (eR l.length w).toNat)) y) (cu [.int .i64,.int .i64,.list (.int .u8)] (fun(k:Int) (b:Int) (O:List Int)=>((w:Int)-k).toNat)) (cu [.int .i64,.int .i64,.list (.int .u8)] (fun(k:Int) (b:Int) (O:List Int)=>([]:List (Nat×Nat×LA)))))]:List (Nat×Nat×LA)))))],?_⟩;repeat' (first
  |(
 with_reducible refine Side.mk ⟨(⟨⟩:Tag 1),?_⟩
 dsimp only[cu,aC,aB,gts,eE,eN]
 refine⟨?_,?_,?_,?_⟩
 ·omega
 ·first
  |omega
  |rw[ZI];omega
 ·first
  |exact(SS _ _ _).symm
  |rw[hO]
 ·first
  |intro j hj;omega
  |(
  intro j hj
  rcases Int.lt_or_le (j:Int) i with q|q
  ·exact hwd j q
  ·rw[show j=i.toNat by omega];exact Int.not_lt.1 av))
  |(
 with_reducible refine Side.mk ⟨(⟨⟩:Tag 2),?_⟩
 dsimp only[cu,aC,aB,gts,eE,eN]
 refine⟨?_,?_,?_⟩
 ·omega
 ·first
  |rw[ha];omega
  |omega
 ·first
  |exact hM
  |(
  have hne:=lK (n:=l.length) (w:=w) om
  have hix:=xS (i:=i) (n:=l.length) (k:=k) (w:=w) om om om
  have hi0:0<=i*w:=gh om om
  rw[hO]
  refine XQ (qDQ _ _) om om ?_ rfl rfl
  show IntKind.u8.wrap (sQ .u64 (jQ .u64 l[i.toNat]! k) 1)=_
  obtain⟨q1,q2⟩:=qXW (hlv i.toNat) (k:=k) om
  rw[q1,hb,qV2 om]
  exact KW om))
  |(
 with_reducible apply Side.mk
 (try dsimp only[cu,aC,aB,gts,loK,hiK,eE,eN])
 first
 |omega
 |(
  have hne:=lK (n:=l.length) (w:=w) om;omega)
 |exact hlv _
 |simp only[hM,jB];done
 |(
  have hne:=lK (n:=l.length) (w:=w) om;have hix:=xS (i:=i) (n:=l.length) (k:=k) (w:=w) om om om;have hi0:0<=i*w:=gh om om;(try rw[gc om]);(try rw[ga om]);(try simp only[hO,jB]);omega))
  |(conv=>whnf
    first
     |with_reducible first|done|exact trivial|refine NilBr.mk (fun h=>?_) ?_|apply aL|apply aK|refine aM kr ?_|apply aN|apply bL|apply bK|apply aU
     |((with_reducible first|apply aW|apply aV|apply bH)<;>intro h<;>(try dsimp only[cu,eE,eN]at h)<;>(try(exfalso;omega)))
     |(
 intro yy (hy:Tag 1/\_)
 obtain⟨(i:Int),(a:Int),(M:List Int),_⟩:=yy
 replace hy:=hy.2
 dsimp only[cu,aC,aB,gts,eE,eN]at hy
 obtain⟨hi,ha,hM,hwd⟩:=hy)
     |(
 intro yy (hy:Tag 2/\_)
 obtain⟨(k:Int),(b:Int),(O:List Int),_⟩:=yy
 replace hy:=hy.2
 dsimp only[cu,aC,aB,gts,eE,eN]at hy
 obtain⟨hk,hb,hO⟩:=hy)))
 all_goals(
 with_reducible apply Leaf.mk
 (try dsimp only[cu,aC,aB,gts,eE,eN]at *)
 first
 |rw[fT,if_pos om]
 |rw[fT,if_neg om,if_pos om]
 |(
  have hyes:=qR8 (l:=l) (w:=w) (i:=i) om av;have h1:¬(w<0\/w>64):=om
  have h2:¬l.length>4096:=om
  rw[fT,if_neg h1,if_neg h2,if_pos hyes])
 |(
  have hil:i=l.length:=om
  have hno:=qI1 (l:=l) (w:=w) (fun j hj=>hwd j om);have h1:¬(w<0\/w>64):=om
  have h2:¬l.length>4096:=om
  have h3:¬sM l w=true:=by rw[hno];decide
  rw[fT,if_neg h1,if_neg h2,if_neg h3];(try rw[hM,ha,hil])))
abbrev tb5:Tbl:=(180,NO)::tb4
theorem qRR:aD Tryz.prog tb5:=aD.cons qU5 qRQ
def iV (s:ByteArray) (m:Nat):Bool:=(List.range (8*s.size)).any fun q=>decide (m<=q)&&decide (sbit s q=1)
def bM (s:ByteArray) (n w:Int):List Int×Int:=
 if ¬tR n w=true then([],4)else if(s.size:Int)<eR n w then([],10)else if(s.size:Int)>eR n w then([],2)
 else if iV s (n*w).toNat=true then([],2)else(gL (sbit s) (n*w).toNat w.toNat n.toNat,0)
theorem qJQ {B:Int} (hB:0<=B/\B<256) {t:Nat} (ht:t<8) (h:B/2^t≠0):∃u,t<=u/\u<8/\B/2^u%2=1:=by
 have h1:=RG (p:=fun n=>(List.range 8).all fun t=>decide ((n:Int)/2^t=0)||(List.range 8).any fun u=>decide (t<=u)&&decide ((n:Int)/2^u%2=1)) kr hB;have h2:=List.all_eq_true.1 h1 t (by simp;omega);rw[gi hB.1]at h2;rw[Bool.or_eq_true]at h2;rcases h2 with q|q
 ·exact absurd (of_decide_eq_true q) h
 ·obtain⟨u,hu,hq⟩:=gn.1 q
  simp only[kl,decide_eq_true_eq]at hq;exact⟨u,hq.1,by simpa using hu,hq.2⟩
theorem ZP {s:ByteArray} {m q:Nat} (h1:m<=q) (h2:q<8*s.size) (h3:sbit s q=1):iV s m=true:=by
 unfold iV;rw[gn];exact⟨q,by simpa using h2,by simp [h1,h3]⟩
theorem qGC {s:ByteArray} {m:Nat} (h:∀q,m<=q->q<8*s.size->sbit s q≠1):¬iV s m=true:=by
 intro hq;unfold iV at hq;obtain⟨q,h1,h2⟩:=gn.1 hq;simp only[kl,decide_eq_true_eq]at h2;exact h q h2.1 (by simpa using h1) h2.2
theorem ZO {s:ByteArray} {m:Nat} (h:s.size=(m+7)/8):iV s m=true↔m%8≠0/\aG s (m/8)/2^(m%8)≠0:=by
 have hb:=cZ s (m/8);constructor
 ·intro hq
  unfold iV at hq;obtain⟨q,h1,h2⟩:=gn.1 hq;simp only[kl,decide_eq_true_eq]at h2;have h1:q<8*s.size:=by simpa using h1
  have hm:m%8≠0:=om
  refine⟨hm,fun h0=>?_⟩;have e1:q/8=m/8:=om
  have h3:=h2.2;unfold sbit at h3;rw[e1]at h3;have hlt:aG s (m/8)<2^(m%8):=by
   have hp:=iG (m%8);have:=hz (aG s (m/8)) (2^(m%8));rw[h0,Int.mul_zero]at this;have:=kf (aG s (m/8)) hp;omega
  have hle:(2:Int)^(m%8)<=2^(q%8):=by
   have:=kb (show 0<2 by decide) (show m%8<=q%8 by omega);rw[<-dI,<-dI];omega
  rw[ko hb.1 om]at h3;omega
 ·rintro⟨h1,h2⟩
  obtain⟨u,u1,u2,u3⟩:=qJQ hb om h2;refine ZP (q:=8*(m/8)+u) om om ?_;unfold sbit;rw[show(8*(m/8)+u)/8=m/8 by omega,show(8*(m/8)+u)%8=u by omega];exact u3
theorem QM (s:ByteArray) {a:Int} (ha:0<=a):jQ .u8 (aG s (a.tdiv 8).toNat) (a.tmod 8)=aG s (a.toNat/8)/2^(a.toNat%8)/\(a.tmod 8=0↔a.toNat%8=0):=by
 have e1:(a.tdiv 8).toNat=a.toNat/8:=by rw[gc ha];omega
 have e2:(a.tmod 8).toNat=a.toNat%8:=by rw[ga ha];omega
 have e3:0<=a.tmod 8/\a.tmod 8<8:=by rw[ga ha];omega
 rw[ZH e3,e1,e2];exact⟨rfl,om⟩
abbrev DI:Ct:=.fn [.str,.int .i64,.int .i64] (some (fun(s:ByteArray) (n:Int) (w:Int)=>(s.size<=4611686018427387904))) (fun(s:ByteArray) (n:Int) (w:Int)=>.tup [.list (.int .u64),.int .i64] ((bM s n w).1,(bM s n w).2,()))
theorem qL3:aH Tryz.prog 211 DI:=by
 refine aH.fn qRR mixed [] [] rfl rfl ?_;rintro⟨(s:ByteArray),(n:Int),(w:Int),_⟩ hpre;replace hpre:=hpre _ rfl;dsimp only[cu]at hpre;have hs:=hpre;refine⟨[(0,20,LA.mk [.sl 35 (.int .i64),.sl 9 (.int .i64),.ar 0 (.int .u64) 86] (fun y=>Tag 3/\cu [.int .i64,.int .i64,.list (.int .u64)] (fun(i:Int) (a:Int) (M:List Int)=>(0<=i/\i<=n)/\(a=i*w)/\(M=gL (sbit s) a.toNat w.toNat n.toNat)) y) (cu [.int .i64,.int .i64,.list (.int .u64)] (fun(i:Int) (a:Int) (M:List Int)=>((n:Int)-i).toNat)) (cu [.int .i64,.int .i64,.list (.int .u64)] (fun(i:Int) (a:Int) (M:List Int)=>([(0,26,LA.mk [.sl 39 (.int .i64),.sl 9 (.int .i64),.ar 0 (.int .u64) 86] (fun y=>Tag 4/\cu [.int .i64,.int .i64,.list (.int .u64)] (fun(k:Int) (b:Int) (O:List Int)=>(0<=k/\k<=w)/\(b=i*w+k)/\(O=gL (sbit s) b.toNat w.toNat n.toNat)) y) (cu [.int .i64,.int .i64,.list (.int .u64)] (fun(k:Int) (b:Int) (O:List Int)=>((w:Int)-k).toNat)) (cu [.int .i64,.int .i64,.list (.int .u64)] (fun(k:Int) (b:Int) (O:List Int)=>([]:List (Nat×Nat×LA)))))]:List (Nat×Nat×LA)))))],?_⟩;repeat' (first
  |(
 with_reducible refine Side.mk ⟨(⟨⟩:Tag 3),?_⟩
 dsimp only[cu,aC,aB,gts,eE,eN]
 refine⟨?_,?_,?_⟩
 ·first
  |omega
  |(
  have hpb:=(gO n w).1 (by first|assumption|simp_all)
  have hne:=lK hpb
  omega)
 ·first
  |omega
  |rw[ZI];omega
 ·first
  |exact(SS _ _ _).symm
  |(rw[hO]))
  |(
 with_reducible refine Side.mk ⟨(⟨⟩:Tag 4),?_⟩
 dsimp only[cu,aC,aB,gts,eE,eN]
 refine⟨?_,?_,?_⟩
 ·first
  |omega
  |(
  have hpb:=(gO n w).1 (by first|assumption|simp_all)
  have hne:=lK hpb
  omega)
 ·first
  |rw[ha];omega
  |omega
 ·first
  |exact hM
  |(
  have hpb:=(gO n w).1 (by first|assumption|simp_all)
  have hne:=lK hpb
  have hix:=xS (i:=i) (n:=n) (k:=k) (w:=w) om om om
  have hi0:0<=i*w:=gh om om
  rw[hO]
  obtain⟨q1,q2⟩:=qM8 s (a:=b) om
  obtain⟨p1,p2⟩:=YB (i:=i) (k:=k) (w:=w) om
  rw[<-hb]at p1 p2
  refine qDO (yA _) om om om om p1 p2 ?_
  rw[q1]
  exact bF om))
  |(
 with_reducible apply Side.mk
 (try dsimp only[cu,aC,aB,gts,loK,hiK,eE,eN])
 first
 |omega
 |(
  have hpb:=(gO n w).1 (by first|assumption|simp_all)
  have hne:=lK hpb;omega)
 |simp only[hM,jB];done
 |(
  have hpb:=(gO n w).1 (by first|assumption|simp_all)
  have hne:=lK hpb;first
  |(
   have hix:=xS (i:=i) (n:=n) (k:=k) (w:=w) om om om;have hi0:0<=i*w:=gh om om;(try rw[gc om]);(try rw[ga om]);(try simp only[hO,jB]);omega)
  |(
   have hin:i=n:=om
   rw[hin]at ha;rw[gc om];rw[ga om]at *;omega)
  |(
   have hi0:0<=i*w:=gh om om;rw[ga om];omega)))
  |(conv=>whnf
    first
     |with_reducible first|done|exact trivial|refine NilBr.mk (fun h=>?_) ?_|apply aL|apply aK|refine aM kr ?_|apply aN|apply bL|apply bK|apply aU
     |((with_reducible first|apply aW|apply aV|apply bH)<;>intro h<;>(try dsimp only[cu,eE,eN]at h)<;>(try(exfalso;omega)))
     |(
 intro yy (hy:Tag 3/\_)
 obtain⟨(i:Int),(a:Int),(M:List Int),_⟩:=yy
 replace hy:=hy.2
 dsimp only[cu,aC,aB,gts,eE,eN]at hy
 obtain⟨hi,ha,hM⟩:=hy)
     |(
 intro yy (hy:Tag 4/\_)
 obtain⟨(k:Int),(b:Int),(O:List Int),_⟩:=yy
 replace hy:=hy.2
 dsimp only[cu,aC,aB,gts,eE,eN]at hy
 obtain⟨hk,hb,hO⟩:=hy)))
 all_goals(
 with_reducible apply Leaf.mk
 (try dsimp only[cu,aC,aB,gts,eE,eN]at *)
 first
 |(
  have q:¬tR n w=true:=by simp_all;done
  rw[bM,if_pos q])
 |(
  have h1:¬¬tR n w=true:=by simp_all;done
  first
  |(
   have h2:(s.size:Int)<eR n w:=om
   rw[bM,if_neg h1,if_pos h2])
  |(
   have h2:¬(s.size:Int)<eR n w:=om
   have h3:(s.size:Int)>eR n w:=om
   rw[bM,if_neg h1,if_neg h2,if_pos h3]))
 |(
  have hpb:=(gO n w).1 (by first|assumption|simp_all)
  have hne:=lK hpb;have hin:i=n:=om
  rw[hin]at ha;obtain⟨t1,t2⟩:=QM s (a:=a) om;have hsz:s.size=((n*w).toNat+7)/8:=om
  have ht:=ZO hsz;rw[<-ha]at ht;have h1:¬¬tR n w=true:=by simp_all;done
  have h2:¬(s.size:Int)<eR n w:=om
  have h3:¬(s.size:Int)>eR n w:=om
  first
  |(
   have h4:iV s (n*w).toNat=true:=by
    rw[<-ha];refine ht.2 ⟨fun q=>?_,fun q=>?_⟩
    ·exact absurd (t2.2 q) av
    ·rw[<-t1]at q;exact absurd q av
   rw[bM,if_neg h1,if_neg h2,if_neg h3,if_pos h4])
  |(
   have h4:¬iV s (n*w).toNat=true:=by
    rw[<-ha];intro q;obtain⟨g1,g2⟩:=ht.1 q;rw[<-t1]at g2;simp_all
   rw[bM,if_neg h1,if_neg h2,if_neg h3,if_neg h4];(try rw[hM,ha]))))
abbrev tb6:Tbl:=(211,DI)::tb5
theorem qRS:aD Tryz.prog tb6:=aD.cons qL3 qRR
def wJ:Nat->Int->List Int
 |0,v=>[v]
 |n+1,v=>if v<128 then[v]else(v%128+128)::wJ n (v/128)
def put (v:Int):List Int:=wJ 9 v
theorem YD:∀(n:Nat) (v:Int),(wJ n v).length<=n+1/\1<=(wJ n v).length
 |0,v=>by simp [wJ]
 |n+1,v=>by
  unfold wJ;split
  ·simp
  ·have:=YD n (v/128);simp;omega
theorem bW (v:Int):(put v).length<=10/\1<=(put v).length:=YD 9 v
theorem PM:∀(n:Nat) (v:Int),0<=v->v<128^(n+1)->∀m,n<=m->wJ m v=wJ n v
 |0,v,h0,h,m,_=>by
  have:v<128:=by simpa using h
  cases m with
  |zero=>rfl
  |succ m=>simp [wJ,this]
 |n+1,v,h0,h,0,hm=>by omega
 |n+1,v,h0,h,m+1,hm=>by
  unfold wJ;split
  ·rfl
  ·rw[PM n (v/128) (gw h0 dc) (by
     rw[km]at h;exact kv dc h) m om]
theorem JU {v:Int} (h:0<=v/\v<18446744073709551616) (h1:¬v<128):put v=(v%128+128)::put (v/128):=by
 have e:put v=(v%128+128)::wJ 8 (v/128):=by unfold put;rw[wJ,if_neg h1]
 rw[e,put,PM 8 (v/128) (gw h.1 dc) (by
  have:(128:Int)^(8+1)=9223372036854775808:=dc
  rw[this];omega) 9 om]
theorem zW {v:Int} (h1:v<128):put v= [v]:=by unfold put;rw[wJ,if_pos h1]
theorem qP8 {v:Int} (h:0<=v/\v<18446744073709551616) (h1:¬v<128):put v=bOr .u8 (IntKind.u8.wrap v) 128::put (jQ .u64 v 7):=by
 rw[JU h h1,qZU,qR1,qbB om];rw[show v%256%128=v%128 by omega]
theorem qK1 {v:Int} (h:0<=v) (h1:v<128):put v= [IntKind.u8.wrap v]:=by rw[zW h1,KW om]
abbrev VH:Ct:=.fn [.int .u64] (some (fun(v0:Int)=>(0<=v0/\v0<18446744073709551616))) (fun(v0:Int)=>.d .str (aT (put v0)))
theorem qZI:aH Tryz.prog 64 VH:=by
 refine aH.fn qRS mixed [] [] rfl rfl ?_;rintro⟨(v0:Int),_⟩ hpre;replace hpre:=hpre _ rfl;dsimp only[cu]at hpre;have hv0:=hpre;refine⟨[(0,4,LA.mk [.sl 0 (.int .u64),.lst 3 (.int .u8) (⟨5,1⟩:El)] (fun y=>Tag 5/\cu [.int .u64,.list (.int .u8)] (fun(v:Int) (M:List Int)=>(0<=v/\v<18446744073709551616)/\(put v0=M++put v)) y) (cu [.int .u64,.list (.int .u8)] (fun(v:Int) (M:List Int)=>v.toNat)) (cu [.int .u64,.list (.int .u8)] (fun(v:Int) (M:List Int)=>([]:List (Nat×Nat×LA)))))],?_⟩;repeat' (first
  |(
 with_reducible refine Side.mk ⟨(⟨⟩:Tag 5),?_⟩
 dsimp only[cu,aC,aB,gts,eE,eN]
 refine⟨?_,?_⟩
 ·first
  |omega
  |(
  have h7:=qZU v
  omega)
 ·first
  |simp;done
  |(rw[hb,qP8 hv om];simp))
  |(
 with_reducible apply Side.mk
 (try dsimp only[cu,aC,aB,gts,loK,hiK,eE,eN])
 first
 |done
 |omega
 |exact Eq.refl _
 |(
  have h7:=qZU v;omega)
 |(
  have hb2:=congrArg List.length hb;have:=bW v0;have:=bW v;simp only[gl]at hb2;(try simp only[gj,gf]);omega))
  |(conv=>whnf
    first
     |with_reducible first|done|exact trivial|refine NilBr.mk (fun h=>?_) ?_|apply aL|apply aK|refine aM kr ?_|apply aN|apply bL|apply bK|apply aU
     |((with_reducible first|apply aW|apply aV|apply bH)<;>intro h<;>(try dsimp only[cu,eE,eN]at h)<;>(try(exfalso;omega)))
     |(
 intro yy (hy:Tag 5/\_)
 obtain⟨(v:Int),(M:List Int),_⟩:=yy
 replace hy:=hy.2
 dsimp only[cu,aC,aB,gts,eE,eN]at hy
 obtain⟨hv,hb⟩:=hy)))
 all_goals(
 with_reducible apply Leaf.mk
 (try dsimp only[cu,aC,aB,gts,eE,eN]at *)
 rw[hb,qK1 hv.1 om])
abbrev tb7:Tbl:=(64,VH)::tb6
theorem qRT:aD Tryz.prog tb7:=aD.cons qZI qRS
def gv (v b k:Int):Int:=bOr .u64 v (mZ .u64 (b%128) (7*k))
def jR (s:ByteArray) (at':Int):Nat->Int->Int->Int×Int×Int
 |0,_,_=>(0,0,8)
 |n+1,k,v=>if k>=s.size-at' then(0,0,10)else if k=9/\aG s (at'+k).toNat>1 then(0,0,8)
  else if aG s (at'+k).toNat>=128 then jR s at' n (k+1) (gv v (aG s (at'+k).toNat) k)
  else if aG s (at'+k).toNat=0/\k>0 then(0,0,2)else(gv v (aG s (at'+k).toNat) k,at'+k+1,0)
termination_by n _ _=>n
def aA (s:ByteArray) (at':Int):Int×Int×Int:=if at'<0\/at'>s.size then(0,0,4)else jR s at' 10 0 0
theorem xR {s:ByteArray} {a k v:Int} (h:0<=k/\k<10):jR s a (10-k).toNat k v=if k>=s.size-a then(0,0,10)else if k=9/\aG s (a+k).toNat>1 then(0,0,8)
  else if aG s (a+k).toNat>=128 then jR s a (10-(k+1)).toNat (k+1) (gv v (aG s (a+k).toNat) k)
  else if aG s (a+k).toNat=0/\k>0 then(0,0,2)else(gv v (aG s (a+k).toNat) k,a+k+1,0):=by
 rw[show(10-k).toNat=(10-(k+1)).toNat+1 by omega,jR]
theorem qET (s:ByteArray) (v k:Int) (i:Nat):bOr .u64 v (mZ .u64 (GE .u8 (aG s i) 128) (7*k))=gv v (aG s i) k:=by rw[qSK (cZ s i)];rfl
theorem qSJ (s:ByteArray) (i:Nat):0<=sQ .u8 (aG s i) 127/\sQ .u8 (aG s i) 127<256:=nJ _
theorem qM1 (s:ByteArray) (i:Nat):0<=GE .u8 (aG s i) 128/\GE .u8 (aG s i) 128<256:=nJ _
abbrev VC:Ct:=.fn [.str,.int .i64] (some (fun(s:ByteArray) (a:Int)=>(s.size<=4611686018427387904))) (fun(s:ByteArray) (a:Int)=>.tup [.int .u64,.int .i64,.int .i64] ((aA s a).1,(aA s a).2.1,(aA s a).2.2,()))
theorem qYU:aH Tryz.prog 126 VC:=by
 refine aH.fn qRT mixed [(0,11,3)] [] rfl rfl ?_;rintro⟨(s:ByteArray),(a:Int),_⟩ hpre;replace hpre:=hpre _ rfl;dsimp only[cu]at hpre;have hs:=hpre;refine⟨[(0,10,LA.mk [.sl 18 (.int .i64),.sl 7 (.int .u64)] (fun y=>Tag 6/\cu [.int .i64,.int .u64] (fun(k:Int) (v:Int)=>(0<=k/\k<=10)/\(aA s a=jR s a (10-k).toNat k v)) y) (cu [.int .i64,.int .u64] (fun(k:Int) (v:Int)=>(10-k).toNat)) (cu [.int .i64,.int .u64] (fun(k:Int) (v:Int)=>([]:List (Nat×Nat×LA)))))],?_⟩;repeat' (first
  |(
 with_reducible refine Side.mk ⟨(⟨⟩:Tag 6),?_⟩
 dsimp only[cu,aC,aB,gts,eE,eN]
 refine⟨?_,?_⟩
 ·omega
 ·first
  |(
  rw[aA,if_neg om]
  rfl)
  |(
  rw[hg,xR (k:=k) (v:=v) om,qET]
  rw[if_neg om,if_neg om,if_pos om]))
  |(
 with_reducible apply Side.mk
 (try dsimp only[cu,aC,aB,gts,loK,hiK,eE,eN])
 first
 |omega
 |(
  have:=qM1 s (a+k).toNat;have:=qSJ s (a+k).toNat;omega))
  |(conv=>whnf
    first
     |with_reducible first|done|exact trivial|refine NilBr.mk (fun h=>?_) ?_|apply aL|apply aK|refine aM kr ?_|apply aN|apply bL|apply bK|apply aU
     |((with_reducible first|apply aW|apply aV|apply bH)<;>intro h<;>(try dsimp only[cu,eE,eN]at h)<;>(try(exfalso;omega)))
     |(
 intro yy (hy:Tag 6/\_)
 obtain⟨(k:Int),(v:Int),_⟩:=yy
 replace hy:=hy.2
 dsimp only[cu,aC,aB,gts,eE,eN]at hy
 obtain⟨hk,hg⟩:=hy)))
 all_goals(
 with_reducible apply Leaf.mk
 (try dsimp only[cu,aC,aB,gts,eE,eN]at *)
 first
 |rw[aA,if_pos om]
 |(
  simp only[hg,xR (k:=k) (v:=v) (show 0<=k/\k<10 by omega)];simp [*];done)
 |(
  simp only[hg,xR (k:=k) (v:=v) (show 0<=k/\k<10 by omega),qET];grind)
 |(rw[hg,show(10-k).toNat=0 by omega,jR]))
abbrev tb8:Tbl:=(126,VC)::tb7
theorem qRU:aD Tryz.prog tb8:=aD.cons qYU qRT
theorem aR (s:ByteArray):(aE s).length=s.size:=by simp [aE]
theorem hE (s:ByteArray) (k:Nat):(aE s)[k]! =aG s k:=by
 obtain⟨d⟩:=s;show(d.toList.map fun u=>(u.toNat:Int))[k]! =((d[k]!).toNat:Int)
 by_cases h:k<d.size
 ·rw[getElem!_pos _ k (by simpa using h),getElem!_pos d k h]
  simp
 ·rw[getElem!_neg _ k (by simpa using h),getElem!_neg d k h]
  rfl
theorem qaG {a c:Int} (ha:0<=a/\a<18446744073709551616) (hc:0<=c/\c<18446744073709551616):bOr .u64 a c=((a.toNat ||| c.toNat:Nat):Int):=by
 have q:∀x:Int,0<=x/\x<18446744073709551616->(BitVec.ofInt IntKind.u64.bits x).toNat=x.toNat:=by
  intro x hx;rw[BitVec.toNat_ofInt];simp [IntKind.bits];omega
 unfold bOr;rw[BitVec.toNat_or,q a ha,q c hc];have:a.toNat ||| c.toNat<2^64:=Nat.or_lt_two_pow om om;exact bF om
theorem qaF {a c:Int} (ha:0<=a/\a<4294967296) (hc:0<=c/\c<4294967296):bOr .u32 a c=((a.toNat ||| c.toNat:Nat):Int):=by
 have q:∀x:Int,0<=x/\x<4294967296->(BitVec.ofInt IntKind.u32.bits x).toNat=x.toNat:=by
  intro x hx;rw[BitVec.toNat_ofInt];simp [IntKind.bits];omega
 unfold bOr;rw[BitVec.toNat_or,q a ha,q c hc];have:a.toNat ||| c.toNat<2^32:=Nat.or_lt_two_pow om om;exact KV om
theorem qPW (a b n:Nat) (h:a<2^n):a ||| (b*2^n)=a+b*2^n:=by
 have:=Nat.shiftLeft_add_eq_or_of_lt h b;rw[Nat.shiftLeft_eq]at this;rw[Nat.or_comm,<-this];omega
theorem qbG {b:Int} {n:Nat} (hn:n<=64) (h:0<=b*2^n/\b*2^n<18446744073709551616):mZ .u64 b n=b*2^n:=by
 unfold mZ;rw[show min ((n:Int)).toNat IntKind.u64.bits=n by simp [IntKind.bits];omega];exact bF h
theorem qbF {b:Int} {n:Nat} (hn:n<=32) (h:0<=b*2^n/\b*2^n<4294967296):mZ .u32 b n=b*2^n:=by
 unfold mZ;rw[show min ((n:Int)).toNat IntKind.u32.bits=n by simp [IntKind.bits];omega];exact KV h
theorem qPX {a b:Int} {n:Nat} (hn:n<=64) (ha:0<=a/\a<2^n) (hb:0<=b) (h:a+b*2^n<18446744073709551616):bOr .u64 a (mZ .u64 b n)=a+b*2^n:=by
 have h0:0<=b*2^n:=gh hb (gt (ky dc));rw[qbG hn ⟨h0,om⟩,qaG om om];have e:(b*2^n).toNat=b.toNat*2^n:=by
  obtain⟨m,rfl⟩:=gq hb;have:((m:Int)*2^n)=((m*2^n:Nat):Int):=by push_cast;rfl
  rw[this];rfl
 have ha':a.toNat<2^n:=by
  have:((2^n:Nat):Int)=2^n:=by push_cast;rfl
  omega
 rw[e,qPW _ _ _ ha'];have:((b.toNat*2^n:Nat):Int)=b*2^n:=by push_cast;rw[gi hb]
 omega
theorem qCX (k:Nat):(2:Int)^(7*k)=128^k:=by
 rw[Int.pow_mul];rfl
theorem qEU {v b:Int} {k:Nat} (hk:k<=9) (hv:0<=v/\v<128^k) (h:v+b%128*128^k<18446744073709551616):gv v b k=v+b%128*128^k:=by
 have:=qPX (a:=v) (b:=b%128) (n:=7*k) om (by rw[qCX];exact hv) om (by rw[qCX];exact h);rw[qCX]at this;unfold gv;rw[show(7*(k:Int))=((7*k:Nat):Int)by push_cast;rfl];exact this
theorem qDL {s:ByteArray} {b:Int} (h:b∈aE s):0<=b/\b<256:=by
 unfold aE at h;obtain⟨u,_,rfl⟩:=gy.1 h;have:=u.toNat_lt;omega
theorem BJ {s:ByteArray} {i:Nat} (h:i<s.size):(aE s).drop i=aG s i::(aE s).drop (i+1):=by
 have:=bQ (aE s) (i:Int) (by rw[aR];omega);rw[hE]at this;simpa using this
theorem JN (k:Nat):(0:Int)<128^k:=ky dc
theorem vX (k:Nat):(128:Int)^(k+1)=128^k*128:=km _ _
theorem PJ {k:Nat} (h:k<=8):(128:Int)^k<=72057594037927936:=by
 have h1:k=0\/k=1\/k=2\/k=3\/k=4\/k=5\/k=6\/k=7\/k=8:=om
 rcases h1 with rfl|rfl|rfl|rfl|rfl|rfl|rfl|rfl|rfl<;>decide
theorem DY (s:ByteArray) (a:Nat):∀(n k:Nat) (v x e:Int),n+k=10->0<=v->v<128^k->jR s a n k v=(x,e,0) ->
  ∃u,0<=u/\x=v+u*128^k/\x<18446744073709551616/\e=a+k+(put u).length/\e<=s.size/\(aE s).drop (a+k)=put u++(aE s).drop e.toNat/\(0<k->0<u)
 |0,k,v,x,e,_,_,_,h=>by simp [jR]at h
 |n+1,k,v,x,e,hk,h0,h1,h=>by
  rw[jR]at h;have hp:=JN k;split at h
  ·simp at h
  ·rename_i h2
   have hi:a+k<s.size:=om
   rw[show((a:Int)+(k:Int)).toNat=a+k by omega]at h;have hb:=cZ s (a+k);have hd:=BJ hi;generalize hbb:aG s (a+k)=b at h hb hd;split at h
   ·simp at h
   ·rename_i h3
    split at h
    ·rename_i h4
     have hk8:k<=8:=om
     have hm:b%128*128^k<=127*128^k:=gg om (gt hp);have hpm:=PJ hk8;have hg:=qEU (v:=v) (b:=b) (k:=k) om ⟨h0,h1⟩ om;have hg0:0<=b%128*128^k:=gh om (gt hp);rw[hg,show((k:Int)+1)=((k+1:Nat):Int)by push_cast;rfl]at h;obtain⟨u,u0,u1,u2,u3,u4,u5,u6⟩:=DY s a n (k+1) _ x e om om (by rw[vX];omega) h;have up:=u6 om;have e1:(b%128+128*u)*128^k=b%128*128^k+u*128^(k+1):=by rw[vX,kz,ho 128 u,kj,ho 128]
     have hle:b%128+128*u<=(b%128+128*u)*128^k:=by
      have:=gr (show(1:Int)<=128^k by omega) (show 0<=b%128+128*u by omega);omega
     have hput:put (b%128+128*u)=b::put u:=by
      rw[JU om om,show(b%128+128*u)/128=u by omega,show(b%128+128*u)%128+128=b by omega]
     refine⟨b%128+128*u,om,om,u2,?_,u4,?_,fun _=>by omega⟩
     ·rw[hput];simp;omega
     ·rw[hput,hd,show a+k+1=a+(k+1)by omega,u5];rfl
    ·rename_i h4
     split at h
     ·simp at h
     ·rename_i h5
      have hm:b%128=b:=om
      have hbp:v+b%128*128^k<18446744073709551616:=by
       rcases uo k 9 with hk9|hk9
       ·have hpm:=PJ (show k<=8 by omega)
        have:b%128*128^k<=127*128^k:=gg om (gt hp);omega
       ·have h9:k=9:=om
        subst h9;have:(128:Int)^9=9223372036854775808:=dc
        rw[this]at h1 ⊢;omega
      have hg:=qEU (v:=v) (b:=b) (k:=k) om ⟨h0,h1⟩ hbp;injection h with q1 q2;injection q2 with q2 q3;refine⟨b,hb.1,by rw[<-q1,hg,hm],by rw[<-q1,hg];exact hbp,by rw[zW om,<-q2];simp,om,?_,fun hk0=>by omega⟩;rw[zW om,hd,<-q2,show((a:Int)+(k:Int)+1).toNat=a+k+1 by omega];rfl
theorem uL (s:ByteArray) (a:Nat):∀(n k:Nat) (v u:Int) (r:List Int),n+k=10->0<=v->v<128^k->0<=u->v+u*128^k<18446744073709551616->(0<k->0<u)->(aE s).drop (a+k)=put u++r ->
  jR s a n k v=(v+u*128^k,(a:Int)+k+(put u).length,0)
 |0,k,v,u,r,hk,h0,h1,u0,u1,u2,hd=>by
  exfalso;have h9:k=10:=om
  subst h9;have:(128:Int)^10=1180591620717411303424:=dc
  rw[this]at u1;omega
 |n+1,k,v,u,r,hk,h0,h1,u0,u1,u2,hd=>by
  have hp:=JN k;have hl:a+k<s.size:=by
   rcases uo (a+k) s.size with q|q
   ·exact q
   ·rw[gu (by rw[aR];exact q)]at hd
    have:=congrArg List.length hd;have:=bW u;simp at *;omega
  have hdb:=BJ hl;have hb:=cZ s (a+k);have hu9:k=9->u<=1:=by
   rintro rfl;have:(128:Int)^9=9223372036854775808:=dc
   rw[this]at u1;omega
  rw[jR,if_neg om,show((a:Int)+(k:Int)).toNat=a+k by omega];by_cases hu:u<128
  ·rw[zW hu]at hd ⊢
   have hbu:aG s (a+k)=u:=by
    rw[hdb]at hd;injection hd
   rw[hbu,if_neg om,if_neg om,if_neg om];have hg:=qEU (v:=v) (b:=u) (k:=k) om ⟨h0,h1⟩ (by rw[show u%128=u by omega];exact u1);rw[hg,show u%128=u by omega];simp
  ·have hle:u<=u*128^k:=by
     have:=gr (show(1:Int)<=128^k by omega) u0;omega
   rw[JU om hu]at hd ⊢;have hbu:aG s (a+k)=u%128+128/\(aE s).drop (a+k+1)=put (u/128)++r:=by
    rw[hdb]at hd;injection hd with q1 q2;exact⟨q1,q2⟩
   have e1:u*128^k=u%128*128^k+(u/128)*128^(k+1):=by
    rw[vX,ho (128^k) 128,<-kj,<-kz];congr 1;omega
   have hm0:0<=(u/128)*128^(k+1):=gh om (gt (JN _));have hm1:u%128*128^k<=127*128^k:=gg om (gt hp);have hm2:0<=u%128*128^k:=gh om (gt hp);have hg:=qEU (v:=v) (b:=u%128+128) (k:=k) om ⟨h0,h1⟩ (by rw[show(u%128+128)%128=u%128 by omega];omega);rw[hbu.1,if_neg om,if_pos om,hg,show(u%128+128)%128=u%128 by omega,show((k:Int)+1)=((k+1:Nat):Int)by push_cast;rfl];rw[uL s a n (k+1) _ (u/128) r om om (by rw[vX];omega) om om (fun _=>by omega) (by rw[<-Nat.add_assoc];exact hbu.2)];simp only[Prod.mk.injEq,gj];refine⟨om,by push_cast;omega,trivial⟩
theorem qCA {s:ByteArray} {a v e:Int} (h:aA s a=(v,e,0)):0<=a/\a<=s.size/\0<=v/\v<18446744073709551616/\e=a+(put v).length/\e<=s.size/\(aE s).drop a.toNat=put v++(aE s).drop e.toNat:=by
 unfold aA at h;split at h
 ·simp at h
 ·rename_i hr
  obtain⟨m,rfl⟩:=gq (show 0<=a by omega);obtain⟨u,u0,u1,u2,u3,u4,u5,_⟩:=DY s m 10 0 0 v e rfl dc dc h;have hu:v=u:=by rw[u1];simp
  subst hu;refine⟨om,om,u0,u2,?_,u4,?_⟩
  ·simpa using u3
  ·simpa using u5
theorem nI {s:ByteArray} {a:Nat} {u:Int} {r:List Int} (h:0<=u/\u<18446744073709551616) (hd:(aE s).drop a=put u++r):aA s a=(u,(a:Int)+(put u).length,0):=by
 have hl:a<=s.size:=by
  rcases uo s.size a with q|q
  ·rw[gu (by rw[aR];omega)]at hd
   have:=congrArg List.length hd;have:=bW u;simp at *;omega
  ·exact q
 unfold aA;rw[if_neg om];have:=uL s a 10 0 0 u r rfl dc dc h.1 (by simpa using h.2) om (by simpa using hd);simpa using this
theorem bG (a b:ByteArray):aE (a++b)=aE a++aE b:=by
 unfold aE;simp
theorem bD {l:List Int} (h:∀b,b∈l->0<=b/\b<256):aE (aT l)=l:=by
 unfold aE aT;simp only[List.map_map];conv=>rhs;rw[<-List.map_id l]
 refine ud fun b hb=>?_
 have:=h b hb;show((UInt8.ofNat b.toNat).toNat:Int)=b;have hb':b.toNat<256:=om
 rw[UInt8.toNat_ofNat_of_lt' hb'];omega
theorem hU {a b:ByteArray} (h:aE a=aE b):a=b:=by
 apply uf;apply Array.ext';unfold aE at h;refine List.map_inj_right (f:=fun u:UInt8=>(u.toNat:Int)) (fun x y hxy=>?_) |>.1 h;exact UInt8.toNat_inj.1 (Int.ofNat.inj hxy)
theorem YE:∀(n:Nat) (v:Int),0<=v->v<128^(n+1)->∀b,b∈wJ n v->0<=b/\b<256
 |0,v,h0,h,b,hb=>by
  simp [wJ]at hb;have:v<128:=by simpa using h
  rw[hb];omega
 |n+1,v,h0,h,b,hb=>by
  unfold wJ at hb;split at hb
  ·simp at hb;omega
  ·rcases gx.1 hb with q|q
   ·omega
   ·exact YE n (v/128) (gw h0 dc) (by
      rw[km]at h;exact kv dc h) b q
theorem gE {v:Int} (h:0<=v/\v<18446744073709551616):∀b,b∈put v->0<=b/\b<256:=
 YE 9 v h.1 (by have:(128:Int)^(9+1)=1180591620717411303424:=dc
                rw[this];omega)
theorem bA (s:ByteArray) (a:Int):0<=(aA s a).1/\(aA s a).1<18446744073709551616:=by
 have go:∀(n:Nat) (k v:Int),0<=v/\v<18446744073709551616->0<=(jR s a n k v).1/\(jR s a n k v).1<18446744073709551616:=by
  intro n;induction n with
  |zero=>intro k v h;simp [jR]
  |succ n ih=>
   intro k v h;rw[jR];repeat' split
   ·simp
   ·simp
   ·exact ih _ _ (iI _)
   ·simp
   ·exact iI _
 unfold aA;split
 ·simp
 ·exact go _ _ _ dc
end Go.Proofs.YtcjiefknhfhmkaaGreatDoor
namespace Go.Abs
set_option maxRecDepth 100000
set_option maxHeartbeats 4000000
set_option linter.unusedVariables false
set_option linter.unusedSimpArgs false
theorem AF (a b:ByteArray):eJ a b=true↔a.data.toList<b.data.toList:=by
 unfold eJ;rw[Proofs.bytesLess_eq,Lib.toList_data,Lib.toList_data];simp
theorem kP (a:ByteArray):¬eJ a a=true:=by rw[AF];exact List.lt_irrefl _
theorem wD {a b c:ByteArray} (h1:eJ a b=true) (h2:eJ b c=true):eJ a c=true:=by
 rw[AF]at *;exact List.lt_trans h1 h2
theorem WB {a b:ByteArray} (h:a.data.toList=b.data.toList):a=b:=by
 cases a;cases b;simp at h;rw[h]
theorem qE7 (a b:List UInt8):a<b\/a=b\/b<a:=by
 rcases List.le_total a b with h|h
 ·by_cases q:a<b
  ·exact .inl q
  ·exact .inr (.inl (List.le_antisymm h (uz.1 q)))
 ·by_cases q:b<a
  ·exact .inr (.inr q)
  ·exact .inr (.inl (List.le_antisymm (uz.1 q) h))
theorem qF3 (a b:ByteArray):eJ a b=true\/a=b\/eJ b a=true:=by
 rw[AF,AF];rcases qE7 a.data.toList b.data.toList with h|h|h
 ·exact .inl h
 ·exact .inr (.inl (WB h))
 ·exact .inr (.inr h)
theorem KI {a b:ByteArray} (h1:eJ a b=true):¬eJ b a=true:=fun h2=>kP a (wD h1 h2)
def sP (l:List ByteArray):Prop:=l.Pairwise fun a b=>eJ a b=true
theorem UP:∀ {a b:List ByteArray},sP a->sP b->(∀v,v∈a↔v∈b)->a=b
 | [],[],_,_,_=>rfl
 | [],y::b,_,_,h=>by have:=(h y).2 sm;simp at this
 |x::a,[],_,_,h=>by have:=(h x).1 sm;simp at this
 |x::a,y::b,ha,hb,h=>by
  have ha:=kg.1 ha;have hb:=kg.1 hb;have hxy:x=y:=by
   have h1:=(h x).1 sm;have h2:=(h y).2 sm;rcases gx.1 h1 with q|q
   ·exact q
   ·rcases gx.1 h2 with q2|q2
    ·exact q2.symm
    ·exact absurd (ha.1 y q2) (KI (hb.1 x q))
  subst hxy;rw[UP ha.2 hb.2 (fun v=>?_)];constructor
  ·intro hv
   rcases gx.1 ((h v).1 (ua _ hv))with q|q
   ·subst q;exact absurd (ha.1 v hv) (kP v)
   ·exact q
  ·intro hv
   rcases gx.1 ((h v).2 (ua _ hv))with q|q
   ·subst q;exact absurd (hb.1 v hv) (kP v)
   ·exact q
theorem xV (l:List (List UInt8)) (j:Nat):Lib.keeps l.toArray j=true↔j=0\/l[j]! ≠l[j-1]!:=by
 simp [Lib.keeps,kw]
theorem II (l:List (List UInt8)):Lib.compact l=((List.range l.length).filter (Lib.keeps l.toArray)).map (fun j=>l[j]!):=by
 simp [Lib.compact,Lib.compactUpTo,kw]
def leL (a b:List UInt8):Prop:=a<b\/a=b
theorem qE4 {l:List (List UInt8)} (h:l.Pairwise leL) {i j:Nat} (hij:i<=j) (hj:j<l.length):leL l[i]! l[j]!:=by
 rw[getElem!_pos l i om,getElem!_pos l j hj];rcases he hij with q|q
 ·subst q;exact .inr rfl
 ·exact(kh.1 h) i j om hj q
theorem qBO {l:List (List UInt8)} (h:l.Pairwise leL):(Lib.compact l).Pairwise (fun a b=>a<b):=by
 rw[II,uq];have hr:((List.range l.length).filter (Lib.keeps l.toArray)).Pairwise (fun a b=>a<b):=List.Pairwise.filter _ List.pairwise_lt_range;refine hr.imp_of_mem (fun{i j} hi hj hij=>?_);have hj2:=kp.1 hj;have hjl:j<l.length:=by simpa using hj2.1
 have hk:=(xV l j).1 hj2.2;have h1:=qE4 h (i:=i) (j:=j-1) om om;have h2:=qE4 h (i:=j-1) (j:=j) om hjl;rcases hk with q|q
 ·omega
 ·rcases h2 with h2|h2
  ·rcases h1 with h1|h1
   ·exact List.lt_trans h1 h2
   ·rw[h1];exact h2
  ·exact absurd h2.symm q
theorem DP {l:List (List UInt8)} (v:List UInt8):v∈Lib.compact l↔v∈l:=by
 rw[II];constructor
 ·intro hv
  obtain⟨j,hj,rfl⟩:=gy.1 hv;have hjl:j<l.length:=by simpa using(kp.1 hj).1
  rw[getElem!_pos l j hjl];exact gp hjl
 ·intro hv
  obtain⟨i,hi,rfl⟩:=gm.1 hv;have go:∀i,i<l.length->∃j,j<l.length/\Lib.keeps l.toArray j=true/\l[j]! =l[i]!:=by
   intro i;induction i with
   |zero=>intro hi;exact⟨0,hi,(xV l 0).2 (.inl rfl),rfl⟩
   |succ i ih=>
    intro hi;by_cases q:l[i+1]! =l[i]!
    ·obtain⟨j,j1,j2,j3⟩:=ih om
     exact⟨j,j1,j2,by rw[j3,q]⟩
    ·exact⟨i+1,hi,(xV l (i+1)).2 (.inr (by simpa using q)),rfl⟩
  obtain⟨j,j1,j2,j3⟩:=go i hi;refine gy.2 ⟨j,kp.2 ⟨by simpa using j1,j2⟩,?_⟩;rw[j3,getElem!_pos l i hi]
theorem qUG {v:ByteArray} {l:List ByteArray}:v.data.toList∈bsL l↔v∈l:=by
 unfold bsL;rw[gy];constructor
 ·rintro⟨x,h1,h2⟩;rw[<-WB h2];exact h1
 ·exact fun h=>⟨v,h,rfl⟩
theorem qBN {l r:List ByteArray} (hr:sP r) (h:∀v,v∈r↔v∈l):oK (jU l)=r:=by
 refine UP ?_ hr fun v=>?_
 ·unfold oK jU sP
  rw[qWM,uq];have hp:(((bsL l).mergeSort fun x y=>decide (x<=y))).Pairwise leL:=by
   have:=List.pairwise_mergeSort (le:=fun x y:List UInt8=>decide (x<=y)) (fun a b c h1 h2=>by
    simp only[decide_eq_true_eq]at *;exact List.le_trans h1 h2) (fun a b=>by
    simp only[Bool.or_eq_true,decide_eq_true_eq];exact List.le_total a b) (bsL l)
   refine this.imp (fun{a b} q=>?_);simp only[decide_eq_true_eq]at q;rcases qE7 a b with p|p|p
   ·exact .inl p
   ·exact .inr p
   ·exact absurd p (uz.2 q)
  exact(qBO hp).imp (fun{a b} q=>(AF _ _).2 q)
 ·rw[h v]
  unfold oK jU;rw[qWM,gy];constructor
  ·rintro⟨x,h1,rfl⟩
   rw[DP,(ue _ _).mem_iff]at h1;unfold bsL at h1;obtain⟨y,h2,rfl⟩:=gy.1 h1;exact h2
  ·intro hv
   refine⟨v.data.toList,?_,rfl⟩;rw[DP,(ue _ _).mem_iff,qUG];exact hv
def plS (l:List ByteArray) (s:ByteArray):Nat:=(l.takeWhile fun w=>eJ w s).length
theorem TL (l:List ByteArray) (s:ByteArray):plS l s<=l.length:=by
 unfold plS;induction l with
 |nil=>simp
 |cons x l ih=>rw[kc];split<;>simp;omega
theorem TM:∀ {l:List ByteArray} {s:ByteArray} {t:Nat},t<plS l s->eJ l[t]! s=true
 | [],s,t,h=>by simp [plS]at h
 |x::l,s,t,h=>by
  unfold plS at h;rw[kc]at h;split at h
  ·rename_i q
   cases t with
   |zero=>exact q
   |succ t=>exact TM (l:=l) (t:=t) (by unfold plS;simpa using h)
  ·simp at h
theorem TJ:∀ {l:List ByteArray} {s:ByteArray},plS l s<l.length->¬eJ l[plS l s]! s=true
 | [],s,h=>by simp at h
 |x::l,s,h=>by
  unfold plS at h ⊢;rw[kc]at h ⊢;split
  ·rename_i q
   rw[if_pos q]at h;exact TJ (l:=l) (by unfold plS;simpa using h)
  ·rename_i q
   exact q
theorem qCV {l:List ByteArray} {s:ByteArray} {k:Nat} (h1:∀t,t<k->eJ l[t]! s=true) (h0:k<=l.length) (h2:k=l.length\/¬eJ l[k]! s=true):plS l s=k:=by
 rcases Nat.lt_trichotomy (plS l s) k with q|q|q
 ·exact absurd (h1 _ q) (TJ om)
 ·exact q
 ·rcases h2 with p|p
  ·have:=TL l s;omega
  ·exact absurd (TM q) p
theorem UQ {l:List ByteArray} (h:sP l) {i j:Nat} (hij:i<j) (hj:j<l.length):eJ l[i]! l[j]! =true:=by
 rw[getElem!_pos l i om,getElem!_pos l j hj];exact(kh.1 h) i j om hj hij
theorem qP4 {l:List ByteArray} (h:sP l) {s:ByteArray} {t:Nat} (h1:plS l s<=t) (h2:t<l.length):¬eJ l[t]! s=true:=by
 intro q;rcases he h1 with p|p
 ·subst p;exact TJ h2 q
 ·exact TJ om (wD (UQ h p h2) q)
theorem TK {l:List ByteArray} (h:sP l) {i:Nat} (hi:i<l.length):plS l l[i]! =i:=
 qCV (fun t ht=>UQ h ht hi) om (.inr (kP _))
theorem qFK {l:List ByteArray} (h:sP l) {s:ByteArray} (hs:s∈l):plS l s<l.length/\l[plS l s]! =s:=by
 obtain⟨i,hi,rfl⟩:=gm.1 hs;have e:l[i]=l[i]!:=(getElem!_pos l i hi).symm;rw[e,TK h hi];exact⟨hi,rfl⟩
theorem RO (less:Nat->Bool) (k n:Nat) (h1:∀t,t<k->less t=true) (h2:∀t,k<=t->t<n->less t=false):∀(f lo hi:Nat),hi-lo<=f->lo<=k->k<=hi->hi<=n->Lib.bsGo less f lo hi=k
 |0,lo,hi,hf,a,b,_=>by
  rw[Lib.bsGo];omega
 |f+1,lo,hi,hf,a,b,c=>by
  rw[Lib.bsGo];by_cases h:lo<hi
  ·rw[if_pos h]
   by_cases hm:(lo+hi)/2<k
   ·rw[h1 _ hm,if_pos rfl];exact RO less k n h1 h2 f _ _ om om b c
   ·rw[h2 _ om om];exact RO less k n h1 h2 f _ _ om a om om
  ·rw[if_neg h];omega
theorem qST {l:List ByteArray} (h:sP l) (x:ByteArray):bsI l x=(plS l x:Int):=by
 unfold bsI;congr 1
 exact RO _ (plS l x) l.length (fun t ht=>TM ht) (fun t ht htl=>by
  show eJ l[t]! x=false;rw[Bool.eq_false_iff];exact qP4 h ht htl) _ _ _ om om (TL l x) om
def lJ (l:List ByteArray) (s:ByteArray):List ByteArray:=if plS l s=l.length\/l[plS l s]! ≠s then l.take (plS l s)++ [s]++l.drop (plS l s)else l
theorem qO6 {l:List ByteArray} (h:sP l) (s v:ByteArray):v∈lJ l s↔v=s\/v∈l:=by
 unfold lJ;split
 ·have e:v∈l↔v∈l.take (plS l s)\/v∈l.drop (plS l s):=by
    conv=>lhs;rw[<-List.take_append_drop (plS l s) l]
    exact kq
  rw[kq,kq,List.mem_singleton,e];grind
 ·rename_i q
  have hlt:plS l s<l.length:=by have:=TL l s;omega
  have hs:s∈l:=by
   have p:l[plS l s]! =s:=Decidable.not_not.1 fun p=>q (.inr p)
   rw[<-p,getElem!_pos l _ hlt];exact gp hlt
  constructor
  ·exact fun h=>.inr h
  ·rintro(rfl|h)
   ·exact hs
   ·exact h
theorem qO5 {l:List ByteArray} (h:sP l) (s:ByteArray):sP (lJ l s):=by
 unfold lJ;split
 ·rename_i q
  unfold sP;rw[List.append_assoc,List.pairwise_append];have ht:∀a,a∈l.take (plS l s)->eJ a s=true:=fun a ha=>by
   obtain⟨i,hi,rfl⟩:=gm.1 ha;have hi2:i<plS l s/\i<l.length:=by simp at hi;omega
   have:=TM (l:=l) (s:=s) (t:=i) hi2.1;rw[getElem!_pos l i hi2.2]at this;rw[List.getElem_take];exact this
  have hd:∀b,b∈l.drop (plS l s)->eJ s b=true:=fun b hb=>by
   obtain⟨i,hi,rfl⟩:=gm.1 hb;have hi2:plS l s+i<l.length:=by simp at hi;omega
   have h1:=qP4 h (s:=s) (t:=plS l s+i) om hi2;rw[List.getElem_drop,<-getElem!_pos l _ hi2];rcases qF3 l[plS l s+i]! s with p|p|p
   ·exact absurd p h1
   ·exfalso
    have e:=TK h hi2;rw[p]at e;have hi0:i=0:=om
    subst hi0;rcases q with q|q
    ·omega
    ·exact q p
   ·exact p
  refine⟨List.Pairwise.sublist (List.take_sublist _ _) h,?_,?_⟩
  ·rw[kx,kg]
   exact⟨hd,List.Pairwise.sublist (List.drop_sublist _ _) h⟩
  ·intro a ha b hb
   rw[kx,gx]at hb;rcases hb with rfl|hb
   ·exact ht a ha
   ·exact wD (ht a ha) (hd b hb)
 ·exact h
theorem zG (l:List ByteArray) (s:ByteArray):(lJ l s).length<=l.length+1:=by
 unfold lJ;split
 ·simp only[gl,List.length_take,List.length_drop,List.length_singleton];omega
 ·omega
def bN (l:List ByteArray):List ByteArray:=l.foldl lJ []
theorem FF:∀(l a:List ByteArray),sP a->sP (l.foldl lJ a)/\(∀v,v∈l.foldl lJ a↔v∈a\/v∈l)/\(l.foldl lJ a).length<=a.length+l.length
 | [],a,h=>⟨h,fun v=>by simp,sm⟩
 |x::l,a,h=>by
  obtain⟨h1,h2,h3⟩:=FF l (lJ a x) (qO5 h x);have:=zG a x;refine⟨h1,fun v=>?_,by rw[ks,gj];omega⟩;rw[ks,h2 v,qO6 h,gx];grind
theorem nD (l:List ByteArray):sP (bN l):=(FF l [] List.Pairwise.nil).1
theorem kS (l:List ByteArray) (v:ByteArray):v∈bN l↔v∈l:=by
 have:=(FF l [] List.Pairwise.nil).2.1 v;unfold bN;simpa using this
theorem jI (l:List ByteArray):(bN l).length<=l.length:=by
 have:=(FF l [] List.Pairwise.nil).2.2;unfold bN;simpa using this
theorem xM (l:List ByteArray):oK (jU l)=bN l:=qBN (nD l) (kS l)
def cQ (l:List ByteArray):List Int:=l.map fun s=>(plS (bN l) s:Int)
theorem kL (l:List ByteArray):(cQ l).length=l.length:=by simp [cQ]
end Go.Abs
namespace Go.Proofs.YtcjiefknhfhmkaaGreatDoor
open Go.Abs
set_option maxRecDepth 100000
set_option maxHeartbeats 4000000
set_option linter.unusedVariables false
set_option linter.unusedSimpArgs false
def sLe (a b:ByteArray):Bool:=eJ a b||decide (a=b)
def EV (s:ByteArray) (a:Int):ByteArray:=s.extract (aA s a).2.1.toNat ((aA s a).2.1+(aA s a).1).toNat
def cA (s:ByteArray):Nat->Int->List ByteArray->List ByteArray×Int×Int
 |0,a,M=>(M,a,0)
 |n+1,a,M=>if(aA s a).2.2≠0 then([],0,(aA s a).2.2)else if(aA s a).1>s.size-(aA s a).2.1 then([],0,10)
  else if 0<M.length/\sLe (EV s a) M[M.length-1]! =true then([],0,2)else cA s n ((aA s a).2.1+(aA s a).1) (M++ [EV s a])
termination_by n _ _=>n
theorem qR7 {s:ByteArray} {n a:Int} {M:List ByteArray} (h:(M.length:Int)<n) (h1:¬(aA s a).2.2=0):cA s (n-M.length).toNat a M=([],0,(aA s a).2.2):=by
 rw[show(n-M.length).toNat=(n-M.length-1).toNat+1 by omega,cA,if_pos h1]
theorem qDT {s:ByteArray} {n a:Int} {M:List ByteArray} (h:(M.length:Int)<n) (h1:(aA s a).2.2=0) (h2:(aA s a).1>s.size-(aA s a).2.1):cA s (n-M.length).toNat a M=([],0,10):=by
 rw[show(n-M.length).toNat=(n-M.length-1).toNat+1 by omega,cA,if_neg (fun q=>q h1),if_pos h2]
theorem qL9 {s:ByteArray} {n a:Int} {M:List ByteArray} (h:(M.length:Int)<n) (h1:(aA s a).2.2=0) (h2:¬(aA s a).1>s.size-(aA s a).2.1) (h3:0<M.length/\sLe (EV s a) M[M.length-1]! =true):cA s (n-M.length).toNat a M=([],0,2):=by
 rw[show(n-M.length).toNat=(n-M.length-1).toNat+1 by omega,cA,if_neg (fun q=>q h1),if_neg h2,if_pos h3]
theorem qMA {s:ByteArray} {n a:Int} {M:List ByteArray} (h:(M.length:Int)<n) (h1:(aA s a).2.2=0) (h2:¬(aA s a).1>s.size-(aA s a).2.1) (h3:¬(0<M.length/\sLe (EV s a) M[M.length-1]! =true)) :
  cA s (n-M.length).toNat a M=cA s (n-(M++ [EV s a]).length).toNat ((aA s a).2.1+(aA s a).1) (M++ [EV s a]):=by
 rw[show(n-M.length).toNat=(n-(M++ [EV s a]).length).toNat+1 by simp;omega,cA,if_neg (fun q=>q h1),if_neg h2,if_neg h3]
theorem qR6 {s:ByteArray} {n a:Int} {M:List ByteArray} (h:¬(M.length:Int)<n):cA s (n-M.length).toNat a M=(M,a,0):=by
 rw[show(n-M.length).toNat=0 by omega,cA]
theorem bT {s:ByteArray} {a:Int} (h:(aA s a).2.2=0):0<=a/\a<(aA s a).2.1/\(aA s a).2.1<=s.size:=by
 have e:aA s a=((aA s a).1,(aA s a).2.1,0):=by
  rw[<-h]
 obtain⟨h1,h2,h3,h4,h5,h6,_⟩:=qCA e;have:=bW (aA s a).1;exact⟨h1,om,h6⟩
theorem qI0 {s:ByteArray}:∀(n:Nat) (a:Int) (M:List ByteArray),(cA s n a M).2.2=0->(cA s n a M).1.length=M.length+n/\((0<=a/\a<=s.size)->0<=(cA s n a M).2.1/\(cA s n a M).2.1<=s.size)
 |0,a,M,_=>by rw[cA];exact⟨rfl,fun h=>h⟩
 |n+1,a,M,h=>by
  rw[cA]at h ⊢;split at h
  ·rename_i h1;exact absurd h h1
  ·rename_i h1
   rw[if_neg h1];split at h
   ·exact absurd h dc
   ·rename_i h2
    rw[if_neg h2];split at h
    ·exact absurd h dc
    ·rename_i h3
     rw[if_neg h3];have hg:=bT (Decidable.not_not.1 h1);have hr:=bA s a;obtain⟨g1,g2⟩:=qI0 n _ _ h;exact⟨by rw[g1];simp;omega,fun _=>g2 ⟨om,om⟩⟩
abbrev HW:Ct:=.fn [.str,.int .i64,.int .i64] (some (fun(s:ByteArray) (a0:Int) (n:Int)=>(s.size<=4611686018427387904)/\(0<=n/\n<=1000000))) (fun(s:ByteArray) (a0:Int) (n:Int)=>.tup [.list .str,.int .i64,.int .i64] ((cA s n.toNat a0 []).1,(cA s n.toNat a0 []).2.1,(cA s n.toNat a0 []).2.2,()))
theorem qSB:aH Tryz.prog 210 HW:=by
 refine aH.fn qRU mixed [(0,6,5)] [] rfl rfl ?_;rintro⟨(s:ByteArray),(a0:Int),(n:Int),_⟩ hpre;replace hpre:=hpre _ rfl;dsimp only[cu]at hpre;obtain⟨hs,hn⟩:=hpre;refine⟨[(0,4,LA.mk [.sl 1 (.int .i64),.lst 9 .str 9] (fun y=>Tag 7/\cu [.int .i64,.list .str] (fun(a:Int) (M:List ByteArray)=>(cA s n.toNat a0 []=cA s (n-M.length).toNat a M)/\((M.length:Int)<=n)) y) (cu [.int .i64,.list .str] (fun(a:Int) (M:List ByteArray)=>(n-(M.length:Int)).toNat)) (cu [.int .i64,.list .str] (fun(a:Int) (M:List ByteArray)=>([]:List (Nat×Nat×LA)))))],?_⟩;repeat' (first
  |(
 with_reducible refine Side.mk ⟨(⟨⟩:Tag 7),?_⟩
 dsimp only[cu,aC,aB,gts,eE,eN]
 refine⟨?_,?_⟩
 ·first
  |rw[gf];simp;done
  |(
  rw[hM]
  exact qMA om av av (fun q=>by simp_all [sLe,EV]))
 ·first
  |simp only[gf];omega
  |(simp only[gl,gj,gf];omega))
  |(
 with_reducible apply Side.mk
 (try dsimp only[cu,aC,aB,gts,loK,hiK,eE,eN])
 first
 |done
 |omega
 |exact Eq.refl _
 |simp only[gl,gj,gf];omega
 |(
  have hr:=bA s a;have hg:=bT (s:=s) (a:=a) av;omega))
  |(conv=>whnf
    first
     |with_reducible first|done|exact trivial|refine NilBr.mk (fun h=>?_) ?_|apply aL|apply aK|refine aM kr ?_|apply aN|apply bL|apply bK|apply aU
     |((with_reducible first|apply aW|apply aV|apply bH)<;>intro h<;>(try dsimp only[cu,eE,eN]at h)<;>(try(exfalso;omega)))
     |(
 intro yy (hy:Tag 7/\_)
 obtain⟨(a:Int),(M:List ByteArray),_⟩:=yy
 replace hy:=hy.2
 dsimp only[cu,aC,aB,gts,eE,eN]at hy
 obtain⟨hM,hl⟩:=hy)))
 all_goals(
 with_reducible apply Leaf.mk
 (try dsimp only[cu,aC,aB,gts,eE,eN]at *)
 first
 |rw[hM,qR7 om av]
 |rw[hM,qDT om av av]
 |rw[hM,qL9 om av av ⟨om,by simp_all [sLe,EV]⟩]
 |(rw[hM,qR6 av]))
abbrev tb9:Tbl:=(210,HW)::tb8
theorem qZ0:aD Tryz.prog tb9:=aD.cons qSB qRU
def wdN (n:Int):Int:=iP (cH (n-1) 0)
def tM (s:ByteArray) (ws:List ByteArray):ByteArray:=ws.foldl (fun s w=>s++(aT (put (w.size:Int))++w)) s
theorem qBZ {s:ByteArray} {W:List ByteArray} {k:Int} (h:0<=k/\k<W.length):tM s (W.take (k+1).toNat)=tM s (W.take k.toNat)++(aT (put (W[k.toNat]!.size:Int))++W[k.toNat]!):=by
 rw[show(k+1).toNat=k.toNat+1 by omega,ge om];unfold tM;rw[List.foldl_append,getElem!_pos W k.toNat om];rfl
theorem IQ {B:Nat}:∀(W:List ByteArray) (s:ByteArray),(∀w,w∈W->w.size<=B)->(tM s W).size<=s.size+W.length*(B+10)
 | [],s,_=>by simp [tM]
 |w::W,s,h=>by
  have ih:=IQ W (s++(aT (put (w.size:Int))++w)) (fun v hv=>h v (by simp [hv]));have h1:=h w sm;have h2:=bW (w.size:Int);have e:(s++(aT (put (w.size:Int))++w)).size=s.size+((put (w.size:Int)).length+w.size):=by simp only[ByteArray.size_append,cI]
  rw[e]at ih;show(tM (s++(aT (put (w.size:Int))++w)) W).size<=_;simp only[gj,Nat.add_mul];omega
def nG (l:List ByteArray):ByteArray:=if l.length>4096 then⟨#[]⟩else tM (aT (put ((bN l).length:Int))) (bN l)++(fT (cQ l) (wdN (bN l).length)).1
theorem EN {l:List ByteArray} {B:Nat} (h:∀w,w∈l->w.size<=B):∀w,w∈bN l->w.size<=B:=fun w hw=>h w ((kS l w).1 hw)
theorem xQ {l:List ByteArray} {v:Int} {k:Nat} (h:∀w,w∈l->w.size<=1073741824) (hl:l.length<=4096):(tM (aT (put v)) ((bN l).take k)).size<=4398046552074:=by
 have h1:=IQ (B:=1073741824) ((bN l).take k) (aT (put v)) (fun w hw=>EN h w (List.mem_of_mem_take hw));have h2:=bW v;have h3:=jI l;rw[cI]at h1;have h4:((bN l).take k).length<=4096:=by simp;omega
 have h5:((bN l).take k).length*(1073741824+10)<=4096*(1073741824+10):=Nat.mul_le_mul_right _ h4;omega
theorem qBJ (l:List ByteArray):∀c,c∈cQ l->0<=c/\c<=(bN l).length:=by
 intro c hc;obtain⟨s,_,rfl⟩:=gy.1 hc;have:=TL (bN l) s;omega
theorem OH (l:List ByteArray) (k:Nat):0<=(cQ l)[k]! /\(cQ l)[k]! <=l.length:=by
 by_cases h:k<(cQ l).length
 ·have:=qBJ l (cQ l)[k]! (by rw[getElem!_pos _ k h];exact gp h)
  have:=jI l;omega
 ·rw[getElem!_neg _ k h];exact⟨va _,by show(0:Int)<=_;omega⟩
theorem qJY {l:List ByteArray} {k:Int} (h:0<=k/\k<l.length):(cQ l)[k.toNat]! =(plS (bN l) l[k.toNat]!:Int):=by
 rw[getElem!_pos (cQ l) k.toNat (by rw[kL];omega),getElem!_pos l k.toNat om];simp [cQ]
theorem qBK {l:List ByteArray} {k:Int} (h:0<=k/\k<l.length):(cQ l).take (k+1).toNat=(cQ l).take k.toNat++ [(plS (bN l) l[k.toNat]!:Int)]:=by
 rw[show(k+1).toNat=k.toNat+1 by omega,ge (by rw[kL];omega),<-qJY h,getElem!_pos (cQ l) k.toNat (by rw[kL];omega)]
theorem qJO (l:List ByteArray) (x:ByteArray):bsI (oK (jU l)) x=(plS (bN l) x:Int):=by rw[xM,qST (nD l)]
theorem qNY (l:List ByteArray):(oK (jU l)).length<=l.length:=by rw[xM];exact jI l
theorem qV7 (n:Int) (h:n<=9223372036854775807):0<=wdN n/\wdN n<=64:=by
 unfold wdN;have hm:cH (n-1) 0<18446744073709551616:=by unfold cH;split<;>omega
 exact FI hm
theorem qVR {l:List ByteArray} {B:Nat} (h:∀w,w∈l->w.size<=B) (k:Nat):l[k]!.size<=B:=by
 by_cases q:k<l.length
 ·exact h _ (by rw[getElem!_pos l k q];exact gp q)
 ·rw[getElem!_neg l k q];exact ub _
theorem qA0 {l:List ByteArray} (h:∀w,w∈l->w.size<=1073741824) (k:Nat):(bN l)[k]!.size<=1073741824:=qVR (EN h) k
theorem bP (s:ByteArray):aT (aE s)=s:=by
 apply hU;exact bD (fun b hb=>qDL hb)
theorem tC (l:List Int) (w:Int):(fT l w).1.size<=32768:=by
 unfold fT;split
 ·exact ub _
 split
 ·exact ub _
 split
 ·exact ub _
 ·rw[cI,jB]
  obtain⟨h1,h2⟩:=lK (n:=(l.length:Int)) (w:=w) ⟨⟨om,om⟩,om⟩;rw[h1];omega
theorem OI {l:List ByteArray} {C:List Int} {k:Int} (hc:C.length=(cQ l).length) (hC:C.take k.toNat=(cQ l).take k.toNat) (h:¬k<(cQ l).length):C=cQ l:=by
 rw[gb om,gb om]at hC;exact hC
abbrev qbK:Tbl:=(204,HP)::tb9
theorem qVW:aD Tryz.prog qbK:=aD.cons qQ9 qZ0
abbrev qbL:Tbl:=(205,GV)::qbK
theorem qVX:aD Tryz.prog qbL:=aD.cons qNX qVW
abbrev qbM:Tbl:=(206,qD8)::qbL
theorem qGF:aD Tryz.prog qbM:=aD.cons qaK qVX
abbrev GT:Ct:=.fn [.list .str] (some (fun(l:List ByteArray)=>(l.length<=1073741824))) (fun(l:List ByteArray)=>.tup [.list .str,.list (.int .i64)] (bN l,cQ l,()))
theorem qNH:aH Tryz.prog 179 GT:=by
 refine aH.fn qGF mixed [(203,2,4000002)] [203] rfl rfl ?_;rintro⟨(l:List ByteArray),_⟩ hpre;replace hpre:=hpre _ rfl;dsimp only[cu]at hpre;have hl:=hpre;refine⟨[(0,12,LA.mk [.sl 19 (.int .i64),.ar 2 (.int .i64) 3] (fun y=>Tag 8/\cu [.int .i64,.list (.int .i64)] (fun(k:Int) (C:List Int)=>(0<=k/\k<=l.length)/\(C.length=l.length)/\(C.take k.toNat=(cQ l).take k.toNat)) y) (cu [.int .i64,.list (.int .i64)] (fun(k:Int) (C:List Int)=>((l.length:Int)-k).toNat)) (cu [.int .i64,.list (.int .i64)] (fun(k:Int) (C:List Int)=>([]:List (Nat×Nat×LA)))))],?_⟩;repeat' (first
  |(
 with_reducible refine Side.mk ⟨(⟨⟩:Tag 8),?_⟩
 dsimp only[cu,aC,aB,gts,eE,eN]
 refine⟨?_,?_,?_⟩
 ·omega
 ·first
  |simp;done
  |simp;omega
 ·first
  |rfl
  |(
  exfalso
  simp_all;omega)
  |(rw[qBK om,show(k+1).toNat=k.toNat+1 by omega,sG _ _ _ om,hC,qJO]))
  |(
 with_reducible apply Side.mk
 (try dsimp only[cu,aC,aB,gts,loK,hiK,eE,eN])
 first
 |done
 |omega
 |exact Eq.refl _
 |simp only[gl,gj,gf];omega
 |(
  have:=qNY l;omega)
 |simp [pM];done
 |(rw[pM];omega))
  |(conv=>whnf
    first
     |with_reducible first|done|exact trivial|refine NilBr.mk (fun h=>?_) ?_|apply aL|apply aK|refine aM kr ?_|apply aN|apply bL|apply bK|apply aU
     |((with_reducible first|apply aW|apply aV|apply bH)<;>intro h<;>(try dsimp only[cu,eE,eN]at h)<;>(try(exfalso;omega)))
     |(
 intro yy (hy:Tag 8/\_)
 obtain⟨(k:Int),(C:List Int),_⟩:=yy
 replace hy:=hy.2
 dsimp only[cu,aC,aB,gts,eE,eN]at hy
 obtain⟨hk,hcl,hC⟩:=hy)))
 all_goals(
 with_reducible apply Leaf.mk
 (try dsimp only[cu,aC,aB,gts,eE,eN]at *)
 first
 |exact xM l
 |(
  have e:k.toNat=l.length:=om
  rw[e,gb om,gb (Nat.le_of_eq (kL l))]at hC;exact hC)
 |(simp_all [bN,cQ];done))
abbrev qbO:Tbl:=(179,GT)::qbM
theorem qGG:aD Tryz.prog qbO:=aD.cons qNH qGF
abbrev CX:Ct:=.fn [.int .i64] (some (fun(n:Int)=>(0<=n/\n<=4611686018427387904))) (fun(n:Int)=>.d (.int .i64) (wdN n))
theorem qJ9:aH Tryz.prog 181 CX:=by
 refine aH.fn qGG mixed [] [] rfl rfl ?_;rintro⟨(n:Int),_⟩ hpre;replace hpre:=hpre _ rfl;dsimp only[cu]at hpre;have hn:=hpre;refine⟨[],?_⟩;repeat' (first
  |(
 with_reducible apply Side.mk
 (try dsimp only[cu,aC,aB,gts,loK,hiK,eE,eN])
 first
 |omega
 |(
  have:cH (n-1) 0<=4611686018427387904/\0<=cH (n-1) 0:=by unfold cH;split<;>omega
  rw[bF om];omega))
  |(conv=>whnf
    first
     |with_reducible first|done|exact trivial|refine NilBr.mk (fun h=>?_) ?_|apply aL|apply aK|refine aM kr ?_|apply aN|apply bL|apply bK|apply aU
     |((with_reducible first|apply aW|apply aV|apply bH)<;>intro h<;>(try dsimp only[cu,eE,eN]at h)<;>(try(exfalso;omega)))))
 all_goals(
 with_reducible apply Leaf.mk
 (try dsimp only[cu,aC,aB,gts,eE,eN]at *)
 (
  have:cH (n-1) 0<=4611686018427387904/\0<=cH (n-1) 0:=by unfold cH;split<;>omega
  rw[bF om];rfl))
abbrev qbP:Tbl:=(181,CX)::qbO
theorem qGH:aD Tryz.prog qbP:=aD.cons qJ9 qGG
abbrev CY:Ct:=.fn [.list .str] (some (fun(l:List ByteArray)=>(∀w,w∈l->w.size<=1073741824)/\(l.length<=1073741824))) (fun(l:List ByteArray)=>.d .str (nG l))
theorem qKB:aH Tryz.prog 153 CY:=by
 refine aH.fn qGH mixed [(0,4,3000005)] [] rfl rfl ?_;rintro⟨(l:List ByteArray),_⟩ hpre;replace hpre:=hpre _ rfl;dsimp only[cu]at hpre;obtain⟨hb,hl⟩:=hpre;refine⟨[(0,12,LA.mk [.sl 28 (.int .i64),.lst 5 (.int .u8) 5] (fun y=>Tag 9/\cu [.int .i64,.list (.int .u8)] (fun(k:Int) (M:List Int)=>(0<=k/\k<=(bN l).length)/\(aT M=tM (aT (put ((bN l).length:Int))) ((bN l).take k.toNat))) y) (cu [.int .i64,.list (.int .u8)] (fun(k:Int) (M:List Int)=>(((bN l).length:Int)-k).toNat)) (cu [.int .i64,.list (.int .u8)] (fun(k:Int) (M:List Int)=>([]:List (Nat×Nat×LA))))),(0,26,LA.mk [.sl 47 (.int .i64),.ar 1 (.int .u64) 86] (fun y=>Tag 10/\cu [.int .i64,.list (.int .u64)] (fun(k:Int) (C:List Int)=>(0<=k/\k<=(cQ l).length)/\(C.length=(cQ l).length)/\(C.take k.toNat=(cQ l).take k.toNat)) y) (cu [.int .i64,.list (.int .u64)] (fun(k:Int) (C:List Int)=>(((cQ l).length:Int)-k).toNat)) (cu [.int .i64,.list (.int .u64)] (fun(k:Int) (C:List Int)=>([]:List (Nat×Nat×LA)))))],?_⟩;repeat' (first
  |(
 with_reducible refine Side.mk ⟨(⟨⟩:Tag 9),?_⟩
 dsimp only[cu,aC,aB,gts,eE,eN]
 refine⟨?_,?_⟩
 ·omega
 ·first
  |rw[bF (by have:=jI l;omega),bP];rfl
  |(
  have hw:=jI l
  have hsz:=qA0 hb k.toNat
  rw[qBZ om,cR,cR,hM,bP,bP,bF om,ByteArray.append_assoc]))
  |(
 with_reducible refine Side.mk ⟨(⟨⟩:Tag 10),?_⟩
 dsimp only[cu,aC,aB,gts,eE,eN]
 refine⟨?_,?_,?_⟩
 ·omega
 ·first
  |simp;done
  |simp;omega
 ·first
  |rfl
  |(
  have hc:=OH l k.toNat
  rw[show(k+1).toNat=k.toNat+1 by omega,sG _ _ _ om,hC,bF om,ge om,getElem!_pos _ k.toNat om]))
  |(
 with_reducible apply Side.mk
 (try dsimp only[cu,aC,aB,gts,loK,hiK,eE,eN])
 first
 |done
 |omega
 |(
  have:=jI l;omega)
 |exact iI _
 |rw[aR];done
 |(
  have hp2:=bW (IntKind.u64.wrap ((bN l).length:Int));rw[aR,cI];omega)
 |(
  have hw:=jI l;have hsz:=qA0 hb k.toNat;have hm:=congrArg ByteArray.size hM;rw[cI]at hm;have ht:=xQ (v:=((bN l).length:Int)) (k:=k.toNat) hb om;have hp:=bW ((bN l)[k.toNat]!.size:Int);have hp2:=bW (IntKind.u64.wrap ((bN l)[k.toNat]!.size:Int));(try simp only[cI,aR,gl]);omega)
 |(
  have:=kL l;omega)
 |(
  have e:=OI hcl hC av;subst e;refine⟨fun i=>?_,by rw[kL];omega⟩;have:=OH l i;omega)
 |(
  have hm:=congrArg ByteArray.size hM;rw[gb om]at hm;have ht:=xQ (v:=((bN l).length:Int)) (k:=(bN l).length) hb om;rw[gb om]at ht;have:=tC C (wdN ((bN l).length:Int));omega))
  |(conv=>whnf
    first
     |with_reducible first|done|exact trivial|refine NilBr.mk (fun h=>?_) ?_|apply aL|apply aK|refine aM kr ?_|apply aN|apply bL|apply bK|apply aU
     |((with_reducible first|apply aW|apply aV|apply bH)<;>intro h<;>(try dsimp only[cu,eE,eN]at h)<;>(try(exfalso;omega)))
     |(
 intro yy (hy:Tag 9/\_)
 obtain⟨(k:Int),(M:List Int),_⟩:=yy
 replace hy:=hy.2
 dsimp only[cu,aC,aB,gts,eE,eN]at hy
 obtain⟨hk,hM⟩:=hy)
     |(
 intro yy (hy:Tag 10/\_)
 obtain⟨(k:Int),(C:List Int),_⟩:=yy
 replace hy:=hy.2
 dsimp only[cu,aC,aB,gts,eE,eN]at hy
 obtain⟨hk,hcl,hC⟩:=hy)))
 all_goals(
 with_reducible apply Leaf.mk
 (try dsimp only[cu,aC,aB,gts,eE,eN]at *)
 first
 |(
  have e0:l.length>4096:=om
  rw[nG,if_pos e0])
 |(
  have e:=OI hcl hC av;subst e;rw[nG,if_neg om,hM,gb om]))
abbrev qbQ:Tbl:=(153,CY)::qbP
theorem qGI:aD Tryz.prog qbQ:=aD.cons qKB qGH
theorem kJ (l:List Int) (j:Nat):@getElem! (List Int) Nat Int _ _ (instInhabitedDen (.int .u64)) l j=l[j]!:=rfl
def BQ:List Bool->Bool->Int->Int
 | [],_,_=>-1
 |b::r,v,k=>if v=b then k else BQ r v (k+1)
theorem OW {l:List Bool} {v:Bool} {k:Int} (h:0<=k/\k<l.length):BQ (l.drop k.toNat) v k=if v=l[k.toNat]! then k else BQ (l.drop (k+1).toNat) v (k+1):=by
 rw[bQ l k h,BQ]
theorem qO7 {l:List Bool} {v:Bool} {k:Int} (h:¬k<l.length):BQ (l.drop k.toNat) v k = -1:=by
 rw[gu om];rfl
def WW (l:List Bool) (v:Bool):Bool:=decide (BQ l v 0>=0)
def oT (k:Nat) (u:List Int):List Bool:=(List.range k).map fun j:Nat=>u.any fun c=>decide (c=(j:Int))
theorem QP (k:Nat) (u:List Int):(oT k u).length=k:=by simp [oT]
theorem qL6 (k:Nat):oT k []=List.replicate k false:=by
 apply ka<;>simp [oT]
theorem qDP {k:Nat} {u:List Int} {i:Int} (h:0<=i/\i<u.length) (hc:0<=u[i.toNat]! /\u[i.toNat]! <k):(oT k (u.take i.toNat)).set u[i.toNat]!.toNat true=oT k (u.take (i+1).toNat):=by
 rw[show(i+1).toNat=i.toNat+1 by omega,ge om,<-getElem!_pos u i.toNat om];apply ka
 ·simp [oT]
 ·intro j h1 h2
  rw[List.getElem_set];simp only[oT,List.getElem_map,uk,List.any_append];by_cases q:u[i.toNat]!.toNat=j
  ·rw[if_pos q]
   have:u[i.toNat]! =(j:Int):=om
   simp only[ug,ur,uh,decide_eq_true this,Bool.or_true]
  ·rw[if_neg q]
   have:¬u[i.toNat]! =(j:Int):=om
   simp only[ug,ur,uh,decide_eq_false this]
def SE (W:List ByteArray) (u:List Int):List ByteArray×Int:=if(u.any fun c=>decide (c>=(W.length:Int)))=true then([],2)else if WW (oT W.length u) false=true then([],2)else(u.map fun c=>W[c.toNat]!,0)
def qBV (W:List ByteArray) (p:List Int×Int):List ByteArray×Int:=if ¬p.2=0 then([],p.2)else SE W p.1
def qBU (s:ByteArray) (n:Int) (r:List ByteArray×Int×Int):List ByteArray×Int:=if ¬r.2.2=0 then([],r.2.2)else qBV r.1 (bM (s.extract r.2.1.toNat s.size) n (wdN r.1.length))
def cT (s:ByteArray) (n:Int):List ByteArray×Int:=
 if n<0\/n>4096 then([],4)else if ¬(aA s 0).2.2=0 then([],(aA s 0).2.2)
 else if(aA s 0).1>n\/((aA s 0).1=0/\n>0)then([],2)else qBU s n (cA s (aA s 0).1.toNat (aA s 0).2.1 [])
theorem jH {s:ByteArray} {n w:Int} (h:(bM s n w).2=0):(bM s n w).1.length=n.toNat:=by
 unfold bM at h ⊢;split at h
 ·exact absurd h dc
 ·rename_i h1
  rw[if_neg h1];split at h
  ·exact absurd h dc
  ·rename_i h2
   rw[if_neg h2];split at h
   ·exact absurd h dc
   ·rename_i h3
    rw[if_neg h3];split at h
    ·exact absurd h dc
    ·rename_i h4
     rw[if_neg h4,jB]
theorem rE (s:ByteArray) (n w:Int):∀i:Nat,0<=(bM s n w).1[i]!:=by
 intro i;have nil:∀l:List Int,l= []->0<=l[i]!:=fun l h=>by subst h;exact va _
 unfold bM;split
 ·exact nil _ rfl
 split
 ·exact nil _ rfl
 split
 ·exact nil _ rfl
 split
 ·exact nil _ rfl
 ·by_cases h:i<n.toNat
  ·rw[SQ h];exact(OT (yA s) _ _ _ _).1
  ·rw[getElem!_neg _ _ (by rw[jB];exact h)];exact va _
theorem qM2 {u:List Int} {i:Int} {K:Int} (h:0<=i/\i<u.length) (h1:(u.take i.toNat).any (fun c=>decide (c>=K))=false) (h2:¬u[i.toNat]! >=K):(u.take (i+1).toNat).any (fun c=>decide (c>=K))=false:=by
 rw[show(i+1).toNat=i.toNat+1 by omega,ge om,<-getElem!_pos u i.toNat om,List.any_append,h1];simp only[ug,ur,uh,Bool.false_or,decide_eq_false_iff_not];exact h2
theorem qSL {u:List Int} {i:Int} {K:Int} (h:0<=i/\i<u.length) (h2:u[i.toNat]! >=K):u.any (fun c=>decide (c>=K))=true:=by
 rw[gn];exact⟨u[i.toNat]!,by rw[getElem!_pos u i.toNat om];exact gp _,by simpa using h2⟩
theorem map_take {W:List ByteArray} {u:List Int} {i:Int} (h:0<=i/\i<u.length):(u.take (i+1).toNat).map (fun c=>W[c.toNat]!)=(u.take i.toNat).map (fun c=>W[c.toNat]!)++ [W[u[i.toNat]!.toNat]!]:=by
 rw[show(i+1).toNat=i.toNat+1 by omega,ge om,<-getElem!_pos u i.toNat om,kt];rfl
theorem qN6 {W:List ByteArray} {u:List Int} {i:Int} (h:0<=i/\i<u.length) (h2:u[i.toNat]! >=(W.length:Int)):SE W u=([],2):=by rw[SE,if_pos (qSL h h2)]
theorem qS5 {W:List ByteArray} {u:List Int} {V:List Bool} (hV:V=oT W.length u) (hA:u.any (fun c=>decide (c>=(W.length:Int)))=false) (h:WW V false=true):SE W u=([],2):=by
 rw[SE,if_neg (by rw[hA];decide),if_pos (by rw[<-hV];exact h)]
theorem qEI {W:List ByteArray} {u:List Int} {V:List Bool} (hV:V=oT W.length u) (hA:u.any (fun c=>decide (c>=(W.length:Int)))=false) (h:¬WW V false=true):SE W u=(u.map fun c=>W[c.toNat]!,0):=by
 rw[SE,if_neg (by rw[hA];decide),if_neg (by rw[<-hV];exact h)]
theorem qRI {α:Type} {u:List α} {i:Int} (h:¬i<u.length):u.take i.toNat=u:=gb om
theorem qX6 {s:ByteArray} {n:Int} {r:List ByteArray×Int×Int} (h:¬r.2.2=0):qBU s n r=([],r.2.2):=by rw[qBU,if_pos h]
theorem IJ {s:ByteArray} {n:Int} {r:List ByteArray×Int×Int} (h:r.2.2=0):qBU s n r=qBV r.1 (bM (s.extract r.2.1.toNat s.size) n (wdN r.1.length)):=by rw[qBU,if_neg (fun q=>q h)]
theorem qX7 {W:List ByteArray} {p:List Int×Int} (h:¬p.2=0):qBV W p=([],p.2):=by rw[qBV,if_pos h]
theorem SF {W:List ByteArray} {p:List Int×Int} (h:p.2=0):qBV W p=SE W p.1:=by rw[qBV,if_neg (fun q=>q h)]
theorem qaR {s:ByteArray} {n:Int} (h:n<0\/n>4096):cT s n=([],4):=by rw[cT,if_pos h]
theorem qaS {s:ByteArray} {n:Int} (h:¬(n<0\/n>4096)) (h1:¬(aA s 0).2.2=0):cT s n=([],(aA s 0).2.2):=by rw[cT,if_neg h,if_pos h1]
theorem qaT {s:ByteArray} {n:Int} (h:¬(n<0\/n>4096)) (h1:(aA s 0).2.2=0) (h2:(aA s 0).1>n\/((aA s 0).1=0/\n>0)):cT s n=([],2):=by rw[cT,if_neg h,if_neg (fun q=>q h1),if_pos h2]
theorem WD {s:ByteArray} {n:Int} (h:¬(n<0\/n>4096)) (h1:(aA s 0).2.2=0) (h2:¬((aA s 0).1>n\/((aA s 0).1=0/\n>0))):cT s n=qBU s n (cA s (aA s 0).1.toNat (aA s 0).2.1 []):=by rw[cT,if_neg h,if_neg (fun q=>q h1),if_neg h2]
theorem sI (s:ByteArray):∀(n:Nat) (a:Int) (M:List ByteArray),(cA s n a M).1.length<=M.length+n
 |0,a,M=>by rw[cA];simp
 |n+1,a,M=>by
  rw[cA];split
  ·simp
  split
  ·simp
  split
  ·simp
  ·have:=sI s n ((aA s a).2.1+(aA s a).1) (M++ [EV s a])
   simp at this;omega
theorem qOX {s:ByteArray} (h:(aA s 0).2.2=0):0<=(aA s 0).2.1/\(aA s 0).2.1<=s.size:=by have:=bT h;omega
theorem qV5 {s:ByteArray} {n:Nat} (h0:(aA s 0).2.2=0) (h:(cA s n (aA s 0).2.1 []).2.2=0):0<=(cA s n (aA s 0).2.1 []).2.1/\(cA s n (aA s 0).2.1 []).2.1<=s.size:=(qI0 n _ _ h).2 (qOX h0)
abbrev qEA:Ct:=.fn [.list .bool,.bool] (some (fun(l:List Bool) (v:Bool)=>(l.length<=4611686018427387904))) (fun(l:List Bool) (v:Bool)=>.d (.int .i64) (BQ l v 0))
theorem qa8:aH Tryz.prog 226 qEA:=by
 refine aH.fn qGI mixed [] [] rfl rfl ?_;rintro⟨(l:List Bool),(v:Bool),_⟩ hpre;replace hpre:=hpre _ rfl;dsimp only[cu]at hpre;have hl:=hpre;refine⟨[(0,4,LA.mk [.sl 8 (.int .i64)] (fun y=>Tag 11/\cu [.int .i64] (fun(k:Int)=>(0<=k/\k<=l.length)/\(BQ l v 0=BQ (l.drop k.toNat) v k)) y) (cu [.int .i64] (fun(k:Int)=>((l.length:Int)-k).toNat)) (cu [.int .i64] (fun(k:Int)=>([]:List (Nat×Nat×LA)))))],?_⟩;repeat' (first
  |(
 with_reducible refine Side.mk ⟨(⟨⟩:Tag 11),?_⟩
 dsimp only[cu,aC,aB,gts,eE,eN]
 refine⟨?_,?_⟩
 ·omega
 ·first
  |rfl
  |(rw[hk2,OW om,if_neg (by simp_all;done)]))
  |(
 with_reducible apply Side.mk
 (try dsimp only[cu,aC,aB,gts,loK,hiK,eE,eN])
 omega)
  |(conv=>whnf
    first
     |with_reducible first|done|exact trivial|refine NilBr.mk (fun h=>?_) ?_|apply aL|apply aK|refine aM kr ?_|apply aN|apply bL|apply bK|apply aU
     |((with_reducible first|apply aW|apply aV|apply bH)<;>intro h<;>(try dsimp only[cu,eE,eN]at h)<;>(try(exfalso;omega)))
     |(
 intro yy (hy:Tag 11/\_)
 obtain⟨(k:Int),_⟩:=yy
 replace hy:=hy.2
 dsimp only[cu,aC,aB,gts,eE,eN]at hy
 obtain⟨hk,hk2⟩:=hy)))
 all_goals(
 with_reducible apply Leaf.mk
 (try dsimp only[cu,aC,aB,gts,eE,eN]at *)
 first
 |rw[hk2,OW om,if_pos (by simp_all;done)]
 |(rw[hk2,qO7 om]))
abbrev qbR:Tbl:=(226,qEA)::qbQ
theorem qGJ:aD Tryz.prog qbR:=aD.cons qa8 qGI
abbrev MX:Ct:=.fn [.list .bool,.bool] (some (fun(l:List Bool) (v:Bool)=>(l.length<=4611686018427387904))) (fun(l:List Bool) (v:Bool)=>.d .bool (WW l v))
theorem qT2:aH Tryz.prog 212 MX:=by
 refine aH.fn qGJ mixed [] [] rfl rfl ?_;rintro⟨(l:List Bool),(v:Bool),_⟩ hpre;replace hpre:=hpre _ rfl;dsimp only[cu]at hpre;have hl:=hpre;refine⟨[],?_⟩;repeat' (first
  |(
 with_reducible apply Side.mk
 (try dsimp only[cu,aC,aB,gts,loK,hiK,eE,eN])
 omega)
  |(conv=>whnf
    first
     |with_reducible first|done|exact trivial|refine NilBr.mk (fun h=>?_) ?_|apply aL|apply aK|refine aM kr ?_|apply aN|apply bL|apply bK|apply aU
     |((with_reducible first|apply aW|apply aV|apply bH)<;>intro h<;>(try dsimp only[cu,eE,eN]at h)<;>(try(exfalso;omega)))))
 all_goals(
 with_reducible apply Leaf.mk
 (try dsimp only[cu,aC,aB,gts,eE,eN]at *)
 rfl)
abbrev qbS:Tbl:=(212,MX)::qbR
theorem qGK:aD Tryz.prog qbS:=aD.cons qT2 qGJ
abbrev CW:Ct:=.fn [.str,.int .i64] (some (fun(s:ByteArray) (n:Int)=>(s.size<=4611686018427387904))) (fun(s:ByteArray) (n:Int)=>.tup [.list .str,.int .i64] ((cT s n).1,(cT s n).2,()))
theorem qJ4:aH Tryz.prog 189 CW:=by
 refine aH.fn qGK mixed [] [] rfl rfl ?_;rintro⟨(s:ByteArray),(n:Int),_⟩ hpre;replace hpre:=hpre _ rfl;dsimp only[cu]at hpre;have hs:=hpre;refine⟨[(0,34,LA.mk [.sl 75 (.int .i64),.ar 0 .bool 4,.ar 1 .str 9] (fun y=>Tag 12/\cu [.int .i64,.list .bool,.list .str] (fun(i:Int) (V:List Bool) (O:List ByteArray)=>(0<=i/\i<=(bM (s.extract (cA s (aA s 0).1.toNat (aA s 0).2.1 []).2.1.toNat s.size) n (wdN (cA s (aA s 0).1.toNat (aA s 0).2.1 []).1.length)).1.length)/\(V=oT (cA s (aA s 0).1.toNat (aA s 0).2.1 []).1.length ((bM (s.extract (cA s (aA s 0).1.toNat (aA s 0).2.1 []).2.1.toNat s.size) n (wdN (cA s (aA s 0).1.toNat (aA s 0).2.1 []).1.length)).1.take i.toNat))/\(O.length=n.toNat)/\(O.take i.toNat=((bM (s.extract (cA s (aA s 0).1.toNat (aA s 0).2.1 []).2.1.toNat s.size) n (wdN (cA s (aA s 0).1.toNat (aA s 0).2.1 []).1.length)).1.take i.toNat).map (fun c=>(cA s (aA s 0).1.toNat (aA s 0).2.1 []).1[c.toNat]!))/\(((bM (s.extract (cA s (aA s 0).1.toNat (aA s 0).2.1 []).2.1.toNat s.size) n (wdN (cA s (aA s 0).1.toNat (aA s 0).2.1 []).1.length)).1.take i.toNat).any (fun c=>decide (c>=((cA s (aA s 0).1.toNat (aA s 0).2.1 []).1.length:Int)))=false)) y) (cu [.int .i64,.list .bool,.list .str] (fun(i:Int) (V:List Bool) (O:List ByteArray)=>(((bM (s.extract (cA s (aA s 0).1.toNat (aA s 0).2.1 []).2.1.toNat s.size) n (wdN (cA s (aA s 0).1.toNat (aA s 0).2.1 []).1.length)).1.length:Int)-i).toNat)) (cu [.int .i64,.list .bool,.list .str] (fun(i:Int) (V:List Bool) (O:List ByteArray)=>([]:List (Nat×Nat×LA)))))],?_⟩;repeat' (first
  |(
 with_reducible refine Side.mk ⟨(⟨⟩:Tag 12),?_⟩
 dsimp only[cu,aC,aB,gts,eE,eN]
 refine⟨?_,?_,?_,?_,?_⟩
 ·omega
 ·first
  |(
  rw[show((0:Int).toNat)=0 from rfl,uc,qL6]
  simp;done)
  |(
  have hur:=rE (s.extract (cA s (aA s 0).1.toNat (aA s 0).2.1 []).2.1.toNat s.size) n (wdN (cA s (aA s 0).1.toNat (aA s 0).2.1 []).1.length) i.toNat
  simp only[kJ]at *
  have hg:=bA s 0
  have hwn:=bF (n:=n) om
  have hwl:=sI s (aA s 0).1.toNat (aA s 0).2.1 []
  simp only[gf,hh]at hwl
  have hww:=bF (n:=((cA s (aA s 0).1.toNat (aA s 0).2.1 []).1.length:Int)) om
  rw[hV,qDP om om])
 ·first
  |simp;done
  |simp;omega
 ·first
  |(
  rw[show((0:Int).toNat)=0 from rfl,uc]
  rfl)
  |(
  have hu0:(bM (s.extract (cA s (aA s 0).1.toNat (aA s 0).2.1 []).2.1.toNat s.size) n (wdN (cA s (aA s 0).1.toNat (aA s 0).2.1 []).1.length)).2=0:=av
  have hul:=jH hu0
  simp only[kJ]at *
  rw[map_take om,show(i+1).toNat=i.toNat+1 by omega,sG _ _ _ om,hO])
 ·first
  |(
  rw[show((0:Int).toNat)=0 from rfl,uc]
  rfl)
  |(
  have hg:=bA s 0
  have hwn:=bF (n:=n) om
  have hwl:=sI s (aA s 0).1.toNat (aA s 0).2.1 []
  simp only[gf,hh]at hwl
  have hww:=bF (n:=((cA s (aA s 0).1.toNat (aA s 0).2.1 []).1.length:Int)) om
  simp only[kJ]at *
  exact qM2 om hA om))
  |(
 with_reducible apply Side.mk
 (try dsimp only[cu,aC,aB,gts,loK,hiK,eE,eN])
 first
 |omega
 |(
  have hg:=bA s 0;have hwn:=bF (n:=n) om;first
  |omega
  |(
   have hwl:=sI s (aA s 0).1.toNat (aA s 0).2.1 [];simp only[gf,hh]at hwl;have hww:=bF (n:=((cA s (aA s 0).1.toNat (aA s 0).2.1 []).1.length:Int)) om;omega))
 |(
  have:=qV5 (s:=s) av (by assumption:(cA s (aA s 0).1.toNat (aA s 0).2.1 []).2.2=0);omega)
 |simp only[ByteArray.size_extract];omega
 |(
  have hur:=rE (s.extract (cA s (aA s 0).1.toNat (aA s 0).2.1 []).2.1.toNat s.size) n (wdN (cA s (aA s 0).1.toNat (aA s 0).2.1 []).1.length) i.toNat;simp only[kJ]at *;omega)
 |(
  have hg:=bA s 0;have hwn:=bF (n:=n) om;have hwl:=sI s (aA s 0).1.toNat (aA s 0).2.1 [];simp only[gf,hh]at hwl;have hww:=bF (n:=((cA s (aA s 0).1.toNat (aA s 0).2.1 []).1.length:Int)) om;first
  |(
   have hu0:(bM (s.extract (cA s (aA s 0).1.toNat (aA s 0).2.1 []).2.1.toNat s.size) n (wdN (cA s (aA s 0).1.toNat (aA s 0).2.1 []).1.length)).2=0:=av
   have hul:=jH hu0;have hur:=rE (s.extract (cA s (aA s 0).1.toNat (aA s 0).2.1 []).2.1.toNat s.size) n (wdN (cA s (aA s 0).1.toNat (aA s 0).2.1 []).1.length) i.toNat;simp only[kJ]at *;first
   |rw[hV,QP];omega
   |(omega))
  |(rw[hV,QP];omega)))
  |(conv=>whnf
    first
     |with_reducible first|done|exact trivial|refine NilBr.mk (fun h=>?_) ?_|apply aL|apply aK|refine aM kr ?_|apply aN|apply bL|apply bK|apply aU
     |((with_reducible first|apply aW|apply aV|apply bH)<;>intro h<;>(try dsimp only[cu,eE,eN]at h)<;>(try(exfalso;omega)))
     |(
 intro yy (hy:Tag 12/\_)
 obtain⟨(i:Int),(V:List Bool),(O:List ByteArray),_⟩:=yy
 replace hy:=hy.2
 dsimp only[cu,aC,aB,gts,eE,eN]at hy
 obtain⟨hi,hV,hOl,hO,hA⟩:=hy)))
 all_goals(
 with_reducible apply Leaf.mk
 (try dsimp only[cu,aC,aB,gts,eE,eN]at *)
 first
 |(
  have q1:n<0\/n>4096:=by first|omega|(simp_all;done)
  rw[qaR q1])
 |(
  have q1:¬(n<0\/n>4096):=by first|omega|(simp_all;done)
  have q2:¬(aA s 0).2.2=0:=av
  rw[qaS q1 q2])
 |(
  have hg:=bA s 0;have hwn:=bF (n:=n) om;first
  |(
   have q1:¬(n<0\/n>4096):=by first|omega|(simp_all;done)
   have q2:(aA s 0).2.2=0:=by first|assumption|omega|(simp_all;done)
   first
   |(
    have q3:(aA s 0).1>n\/((aA s 0).1=0/\n>0):=by first|omega|(simp_all;done)
    rw[qaT q1 q2 q3])
   |(
    have q3:¬((aA s 0).1>n\/((aA s 0).1=0/\n>0)):=by first|omega|(simp_all;omega)|(simp_all;done)
    rw[WD q1 q2 q3];first
    |(
     have q4:¬(cA s (aA s 0).1.toNat (aA s 0).2.1 []).2.2=0:=av
     rw[qX6 q4])
    |(
     have q4:(cA s (aA s 0).1.toNat (aA s 0).2.1 []).2.2=0:=by first|assumption|omega
     rw[IJ q4];have q5:¬(bM (s.extract (cA s (aA s 0).1.toNat (aA s 0).2.1 []).2.1.toNat s.size) n (wdN (cA s (aA s 0).1.toNat (aA s 0).2.1 []).1.length)).2=0:=av
     rw[qX7 q5])))
  |(
   have hwl:=sI s (aA s 0).1.toNat (aA s 0).2.1 [];simp only[gf,hh]at hwl;have hww:=bF (n:=((cA s (aA s 0).1.toNat (aA s 0).2.1 []).1.length:Int)) om;have q1:¬(n<0\/n>4096):=by first|omega|(simp_all;done)
   have q2:(aA s 0).2.2=0:=by first|assumption|omega|(simp_all;done)
   have q3:¬((aA s 0).1>n\/((aA s 0).1=0/\n>0)):=by first|omega|(simp_all;omega)|(simp_all;done)
   rw[WD q1 q2 q3];have q4:(cA s (aA s 0).1.toNat (aA s 0).2.1 []).2.2=0:=by first|assumption|omega
   rw[IJ q4];have q5:(bM (s.extract (cA s (aA s 0).1.toNat (aA s 0).2.1 []).2.1.toNat s.size) n (wdN (cA s (aA s 0).1.toNat (aA s 0).2.1 []).1.length)).2=0:=by first|assumption|omega
   rw[SF q5];have q6:(bM (s.extract (cA s (aA s 0).1.toNat (aA s 0).2.1 []).2.1.toNat s.size) n (wdN (cA s (aA s 0).1.toNat (aA s 0).2.1 []).1.length)).1[i.toNat]! >=((cA s (aA s 0).1.toNat (aA s 0).2.1 []).1.length:Int):=by simp only[kJ]at *;omega
   rw[qN6 (i:=i) om q6]))
 |(
  have ta0:¬i<((bM (s.extract (cA s (aA s 0).1.toNat (aA s 0).2.1 []).2.1.toNat s.size) n (wdN (cA s (aA s 0).1.toNat (aA s 0).2.1 []).1.length)).1.length:Int):=av
  have ta:=qRI ta0;rw[ta]at hV hA hO;first
  |(
   have hg:=bA s 0;have hwn:=bF (n:=n) om;have q1:¬(n<0\/n>4096):=by first|omega|(simp_all;done)
   have q2:(aA s 0).2.2=0:=by first|assumption|omega|(simp_all;done)
   have q3:¬((aA s 0).1>n\/((aA s 0).1=0/\n>0)):=by first|omega|(simp_all;omega)|(simp_all;done)
   rw[WD q1 q2 q3];have q4:(cA s (aA s 0).1.toNat (aA s 0).2.1 []).2.2=0:=by first|assumption|omega
   rw[IJ q4];have q5:(bM (s.extract (cA s (aA s 0).1.toNat (aA s 0).2.1 []).2.1.toNat s.size) n (wdN (cA s (aA s 0).1.toNat (aA s 0).2.1 []).1.length)).2=0:=by first|assumption|omega
   rw[SF q5];have q6:WW V false=true:=av
   rw[qS5 hV hA q6])
  |(
   have hu0:(bM (s.extract (cA s (aA s 0).1.toNat (aA s 0).2.1 []).2.1.toNat s.size) n (wdN (cA s (aA s 0).1.toNat (aA s 0).2.1 []).1.length)).2=0:=av
   have hul:=jH hu0;have hg:=bA s 0;have hwn:=bF (n:=n) om;have q1:¬(n<0\/n>4096):=by first|omega|(simp_all;done)
   have q2:(aA s 0).2.2=0:=by first|assumption|omega|(simp_all;done)
   have q3:¬((aA s 0).1>n\/((aA s 0).1=0/\n>0)):=by first|omega|(simp_all;omega)|(simp_all;done)
   rw[WD q1 q2 q3];have q4:(cA s (aA s 0).1.toNat (aA s 0).2.1 []).2.2=0:=by first|assumption|omega
   rw[IJ q4];have q5:(bM (s.extract (cA s (aA s 0).1.toNat (aA s 0).2.1 []).2.1.toNat s.size) n (wdN (cA s (aA s 0).1.toNat (aA s 0).2.1 []).1.length)).2=0:=by first|assumption|omega
   rw[SF q5];have q6:¬WW V false=true:=by simp_all;done
   rw[qEI hV hA q6];(try rw[gb om]at hO);first|done|exact hO|rfl)))
abbrev qbT:Tbl:=(189,CW)::qbS
theorem qGL:aD Tryz.prog qbT:=aD.cons qJ4 qGK
abbrev EMP:ByteArray:=⟨#[]⟩
def bJ (t:Int):Bool:=decide (1<=t)&&decide (t<=5)
def dQ (t:Int) (v:Val):Bool:=
 if t=2 then decide (v.2.1=0)||decide (v.2.1=1)else if t=4 then decide (-719162<=v.2.1)&&decide (v.2.1<=2932896)
 else if t=5 then decide (-999999999999999999<=v.2.1)&&decide (v.2.1<=999999999999999999)else if t=3 then decide (v.2.2.size<=64)else true
def aZ (c:Col) (v:Val):Int:=
 if bJ c.2.1=false then 1 else if(v.1=true\/c.2.1≠3)/\v.2.2≠EMP then 11 else if(v.1=true\/c.2.1=3)/\v.2.1≠0 then 11
 else if v.1=true/\c.2.2.2=false then 12 else if v.1=false/\dQ c.2.1 v=false then 4 else 0
def iO (a b:Int):Int:=if a<b then -1 else if a>b then 1 else 0
def nB (a b:ByteArray):Int:=if eJ a b then -1 else if a=b then 0 else 1
def aY (t:Int) (a b:Val):Int:=
 if a.1=true/\b.1=true then 0 else if a.1=true then -1 else if b.1=true then 1 else if t=3 then nB a.2.2 b.2.2 else iO a.2.1 b.2.1
theorem AI {s:ByteArray} (h:¬s=⟨#[]⟩):0<s.size:=by
 rcases Nat.eq_zero_or_pos s.size with q|q
 ·exfalso;apply h
  apply uf;exact Array.eq_empty_of_size_eq_zero q
 ·exact q
abbrev GY:Ct:=.fn [.int .i64] (none) (fun(t:Int)=>.d .bool (bJ t))
theorem qPB:aH Tryz.prog 148 GY:=by
 refine aH.fn qGL mixed [] [] rfl rfl ?_;rintro⟨(t:Int),_⟩ -;refine⟨[],?_⟩;repeat' (first
  |(
 with_reducible apply Side.mk
 (try dsimp only[cu,aC,aB,gts,loK,hiK,eE,eN])
 done)
  |(conv=>whnf
    first
     |with_reducible first|done|exact trivial|refine NilBr.mk (fun h=>?_) ?_|apply aL|apply aK|refine aM kr ?_|apply aN|apply bL|apply bK|apply aU
     |((with_reducible first|apply aW|apply aV|apply bH)<;>intro h<;>(try dsimp only[cu,eE,eN]at h)<;>(try(exfalso;omega)))))
 all_goals(
 with_reducible apply Leaf.mk
 (try dsimp only[cu,aC,aB,gts,eE,eN]at *)
 grind [bJ])
abbrev qbU:Tbl:=(148,GY)::qbT
theorem qGM:aD Tryz.prog qbU:=aD.cons qPB qGL
abbrev uC:Ct:=.fn [.int .i64,bU] (none) (fun(t:Int) (v:Val)=>.d .bool (dQ t v))
theorem TI:aH Tryz.prog 149 uC:=by
 refine aH.fn qGM mixed [] [] rfl rfl ?_;rintro⟨(t:Int),(v:Val),_⟩ -;refine⟨[],?_⟩;repeat' (first
  |(
 with_reducible apply Side.mk
 (try dsimp only[cu,aC,aB,gts,loK,hiK,eE,eN])
 done)
  |(conv=>whnf
    first
     |with_reducible first|done|exact trivial|refine NilBr.mk (fun h=>?_) ?_|apply aL|apply aK|refine aM kr ?_|apply aN|apply bL|apply bK|apply aU
     |((with_reducible first|apply aW|apply aV|apply bH)<;>intro h<;>(try dsimp only[cu,eE,eN]at h)<;>(try(exfalso;omega)))))
 all_goals(
 with_reducible apply Leaf.mk
 (try dsimp only[cu,aC,aB,gts,eE,eN]at *)
 grind [dQ])
abbrev qbV:Tbl:=(149,uC)::qbU
theorem qGN:aD Tryz.prog qbV:=aD.cons TI qGM
abbrev DJ:Ct:=.fn [tY,bU] (none) (fun(c:Col) (v:Val)=>.d (.int .i64) (aZ c v))
theorem qL7:aH Tryz.prog 108 DJ:=by
 refine aH.fn qGN mixed [] [] rfl rfl ?_;rintro⟨(c:Col),(v:Val),_⟩ -;refine⟨[],?_⟩;repeat' (first
  |(
 with_reducible apply Side.mk
 (try dsimp only[cu,aC,aB,gts,loK,hiK,eE,eN])
 done)
  |(conv=>whnf
    first
     |with_reducible first|done|exact trivial|refine NilBr.mk (fun h=>?_) ?_|apply aL|apply aK|refine aM kr ?_|apply aN|apply bL|apply bK|apply aU
     |((with_reducible first|apply aW|apply aV|apply bH)<;>intro h<;>(try dsimp only[cu,eE,eN]at h)<;>(try(exfalso;omega)))))
 all_goals(
 with_reducible apply Leaf.mk
 (try dsimp only[cu,aC,aB,gts,eE,eN]at *)
 grind [aZ,bJ,dQ,aY,iO])
abbrev qbW:Tbl:=(108,DJ)::qbV
theorem qGO:aD Tryz.prog qbW:=aD.cons qL7 qGN
abbrev CZ:Ct:=.fn [.str] (none) (fun(a:ByteArray)=>.d .bool false)
theorem qKN:aH Tryz.prog 185 CZ:=by
 refine aH.fn qGO mixed [] [] rfl rfl ?_;rintro⟨(a:ByteArray),_⟩ -;refine⟨[],?_⟩;repeat' (first
  |(
 with_reducible apply Side.mk
 (try dsimp only[cu,aC,aB,gts,loK,hiK,eE,eN])
 done)
  |(conv=>whnf
    first
     |with_reducible first|done|exact trivial|refine NilBr.mk (fun h=>?_) ?_|apply aL|apply aK|refine aM kr ?_|apply aN|apply bL|apply bK|apply aU
     |((with_reducible first|apply aW|apply aV|apply bH)<;>intro h<;>(try dsimp only[cu,eE,eN]at h)<;>(try(exfalso;omega)))))
 all_goals(
 with_reducible apply Leaf.mk
 (try dsimp only[cu,aC,aB,gts,eE,eN]at *)
 simp)
abbrev qbX:Tbl:=(185,CZ)::qbW
theorem qGP:aD Tryz.prog qbX:=aD.cons qKN qGO
abbrev yL:Ct:=.fn [.int .i64] (none) (fun(a:Int)=>.d .bool false)
theorem qCE:aH Tryz.prog 162 yL:=by
 refine aH.fn qGP mixed [] [] rfl rfl ?_;rintro⟨(a:Int),_⟩ -;refine⟨[],?_⟩;repeat' (first
  |(
 with_reducible apply Side.mk
 (try dsimp only[cu,aC,aB,gts,loK,hiK,eE,eN])
 done)
  |(conv=>whnf
    first
     |with_reducible first|done|exact trivial|refine NilBr.mk (fun h=>?_) ?_|apply aL|apply aK|refine aM kr ?_|apply aN|apply bL|apply bK|apply aU
     |((with_reducible first|apply aW|apply aV|apply bH)<;>intro h<;>(try dsimp only[cu,eE,eN]at h)<;>(try(exfalso;omega)))))
 all_goals(
 with_reducible apply Leaf.mk
 (try dsimp only[cu,aC,aB,gts,eE,eN]at *)
 simp)
abbrev qbY:Tbl:=(162,yL)::qbX
theorem qGQ:aD Tryz.prog qbY:=aD.cons qCE qGP
abbrev GU:Ct:=.fn [.int .i64,.int .i64] (none) (fun(a:Int) (b:Int)=>.d (.int .i64) (iO a b))
theorem qNM:aH Tryz.prog 132 GU:=by
 refine aH.fn qGQ mixed [] [] rfl rfl ?_;rintro⟨(a:Int),(b:Int),_⟩ -;refine⟨[],?_⟩;repeat' (first
  |(
 with_reducible apply Side.mk
 (try dsimp only[cu,aC,aB,gts,loK,hiK,eE,eN])
 done)
  |(conv=>whnf
    first
     |with_reducible first|done|exact trivial|refine NilBr.mk (fun h=>?_) ?_|apply aL|apply aK|refine aM kr ?_|apply aN|apply bL|apply bK|apply aU
     |((with_reducible first|apply aW|apply aV|apply bH)<;>intro h<;>(try dsimp only[cu,eE,eN]at h)<;>(try(exfalso;omega)))))
 all_goals(
 with_reducible apply Leaf.mk
 (try dsimp only[cu,aC,aB,gts,eE,eN]at *)
 grind [aZ,bJ,dQ,aY,iO])
abbrev qbZ:Tbl:=(132,GU)::qbY
theorem qGR:aD Tryz.prog qbZ:=aD.cons qNM qGQ
abbrev ML:Ct:=.fn [.str,.str] (none) (fun(a:ByteArray) (b:ByteArray)=>.d (.int .i64) (nB a b))
theorem qSW:aH Tryz.prog 161 ML:=by
 refine aH.fn qGR mixed [] [] rfl rfl ?_;rintro⟨(a:ByteArray),(b:ByteArray),_⟩ -;refine⟨[],?_⟩;repeat' (first
  |(
 with_reducible apply Side.mk
 (try dsimp only[cu,aC,aB,gts,loK,hiK,eE,eN])
 done)
  |(conv=>whnf
    first
     |with_reducible first|done|exact trivial|refine NilBr.mk (fun h=>?_) ?_|apply aL|apply aK|refine aM kr ?_|apply aN|apply bL|apply bK|apply aU
     |((with_reducible first|apply aW|apply aV|apply bH)<;>intro h<;>(try dsimp only[cu,eE,eN]at h)<;>(try(exfalso;omega)))))
 all_goals(
 with_reducible apply Leaf.mk
 (try dsimp only[cu,aC,aB,gts,eE,eN]at *)
 grind [nB])
abbrev qb0:Tbl:=(161,ML)::qbZ
theorem qGS:aD Tryz.prog qb0:=aD.cons qSW qGR
abbrev wW:Ct:=.fn [.int .i64,bU,bU] (none) (fun(t:Int) (a:Val) (b:Val)=>.d (.int .i64) (aY t a b))
theorem qAZ:aH Tryz.prog 131 wW:=by
 refine aH.fn qGS mixed [] [] rfl rfl ?_;rintro⟨(t:Int),(a:Val),(b:Val),_⟩ -;refine⟨[],?_⟩;repeat' (first
  |(
 with_reducible apply Side.mk
 (try dsimp only[cu,aC,aB,gts,loK,hiK,eE,eN])
 done)
  |(conv=>whnf
    first
     |with_reducible first|done|exact trivial|refine NilBr.mk (fun h=>?_) ?_|apply aL|apply aK|refine aM kr ?_|apply aN|apply bL|apply bK|apply aU
     |((with_reducible first|apply aW|apply aV|apply bH)<;>intro h<;>(try dsimp only[cu,eE,eN]at h)<;>(try(exfalso;omega)))))
 all_goals(
 with_reducible apply Leaf.mk
 (try dsimp only[cu,aC,aB,gts,eE,eN]at *)
 grind [aZ,bJ,dQ,aY,iO])
abbrev qb1:Tbl:=(131,wW)::qb0
theorem qGT:aD Tryz.prog qb1:=aD.cons qAZ qGS
abbrev HT:Ct:=.fn [.int .i64] (none) (fun(t:Int)=>.d .bool (bJ t))
theorem qRY:aH Tryz.prog 54 HT:=by
 refine aH.fn qGT mixed [] [] rfl rfl ?_;rintro⟨(t:Int),_⟩ -;refine⟨[],?_⟩;repeat' (first
  |(
 with_reducible apply Side.mk
 (try dsimp only[cu,aC,aB,gts,loK,hiK,eE,eN])
 done)
  |(conv=>whnf
    first
     |with_reducible first|done|exact trivial|refine NilBr.mk (fun h=>?_) ?_|apply aL|apply aK|refine aM kr ?_|apply aN|apply bL|apply bK|apply aU
     |((with_reducible first|apply aW|apply aV|apply bH)<;>intro h<;>(try dsimp only[cu,eE,eN]at h)<;>(try(exfalso;omega)))))
 all_goals(
 with_reducible apply Leaf.mk
 (try dsimp only[cu,aC,aB,gts,eE,eN]at *)
 grind [bJ])
abbrev qb2:Tbl:=(54,HT)::qb1
theorem qGU:aD Tryz.prog qb2:=aD.cons qRY qGT
abbrev DC:Ct:=.fn [tY,bU] (none) (fun(c:Col) (v:Val)=>.d (.int .i64) (aZ c v))
theorem qK2:aH Tryz.prog 81 DC:=by
 refine aH.fn qGU mixed [] [] rfl rfl ?_;rintro⟨(c:Col),(v:Val),_⟩ -;refine⟨[],?_⟩;repeat' (first
  |(
 with_reducible apply Side.mk
 (try dsimp only[cu,aC,aB,gts,loK,hiK,eE,eN])
 done)
  |(conv=>whnf
    first
     |with_reducible first|done|exact trivial|refine NilBr.mk (fun h=>?_) ?_|apply aL|apply aK|refine aM kr ?_|apply aN|apply bL|apply bK|apply aU
     |((with_reducible first|apply aW|apply aV|apply bH)<;>intro h<;>(try dsimp only[cu,eE,eN]at h)<;>(try(exfalso;omega)))))
 all_goals(
 with_reducible apply Leaf.mk
 (try dsimp only[cu,aC,aB,gts,eE,eN]at *)
 grind [aZ,bJ,dQ,aY,iO])
abbrev qb3:Tbl:=(81,DC)::qb2
theorem qGV:aD Tryz.prog qb3:=aD.cons qK2 qGU
abbrev HI:Ct:=.fn [.bool,.bool] (none) (fun(l:Bool) (e:Bool)=>.d (.int .i64) (if l=true then -1 else if e=true then 0 else 1))
theorem qPY:aH Tryz.prog 154 HI:=by
 refine aH.fn qGV mixed [] [] rfl rfl ?_;rintro⟨(l:Bool),(e:Bool),_⟩ -;refine⟨[],?_⟩;repeat' (first
  |(
 with_reducible apply Side.mk
 (try dsimp only[cu,aC,aB,gts,loK,hiK,eE,eN])
 done)
  |(conv=>whnf
    first
     |with_reducible first|done|exact trivial|refine NilBr.mk (fun h=>?_) ?_|apply aL|apply aK|refine aM kr ?_|apply aN|apply bL|apply bK|apply aU
     |((with_reducible first|apply aW|apply aV|apply bH)<;>intro h<;>(try dsimp only[cu,eE,eN]at h)<;>(try(exfalso;omega)))))
 all_goals(
 with_reducible apply Leaf.mk
 (try dsimp only[cu,aC,aB,gts,eE,eN]at *)
 simp_all)
abbrev qb4:Tbl:=(154,HI)::qb3
theorem qGW:aD Tryz.prog qb4:=aD.cons qPY qGV
abbrev wU:Ct:=.fn [.int .i64,bU,bU] (none) (fun(t:Int) (a:Val) (b:Val)=>.d (.int .i64) (aY t a b))
theorem YH:aH Tryz.prog 117 wU:=by
 refine aH.fn qGW mixed [] [] rfl rfl ?_;rintro⟨(t:Int),(a:Val),(b:Val),_⟩ -;refine⟨[],?_⟩;repeat' (first
  |(
 with_reducible apply Side.mk
 (try dsimp only[cu,aC,aB,gts,loK,hiK,eE,eN])
 done)
  |(conv=>whnf
    first
     |with_reducible first|done|exact trivial|refine NilBr.mk (fun h=>?_) ?_|apply aL|apply aK|refine aM kr ?_|apply aN|apply bL|apply bK|apply aU
     |((with_reducible first|apply aW|apply aV|apply bH)<;>intro h<;>(try dsimp only[cu,eE,eN]at h)<;>(try(exfalso;omega)))))
 all_goals(
 with_reducible apply Leaf.mk
 (try dsimp only[cu,aC,aB,gts,eE,eN]at *)
 grind [aY,iO,nB])
abbrev qb5:Tbl:=(117,wU)::qb4
theorem qGX:aD Tryz.prog qb5:=aD.cons YH qGW
def rnd (v:Int):Int:=pT .u32 (jQ .u32 v 1) (IntKind.u32.wrap (2197175160*sQ .u32 v 1))
def LQ:Nat->Int->Int
 |0,v=>v
 |n+1,v=>LQ n (rnd v)
theorem qVI {v:Int} (h:sQ .u32 v 1=1):rnd v=pT .u32 (jQ .u32 v 1) 2197175160:=by
 unfold rnd;rw[h];rfl
theorem qQY {v:Int} (hv:0<=v/\v<4294967296) (h:¬sQ .u32 v 1=1):rnd v=jQ .u32 v 1:=by
 have h0:sQ .u32 v 1=0:=by rw[qaE hv]at h ⊢;omega
 unfold rnd;rw[h0,show IntKind.u32.wrap (2197175160*0)=0 from rfl,qaH (by simpa using qF6 hv 1)]
theorem CE {k v:Int} (h:0<=k/\k<8):LQ (8-k).toNat v=LQ (8-(k+1)).toNat (rnd v):=by
 rw[show(8-k).toNat=(8-(k+1)).toNat+1 by omega];rfl
def oB:List Int:=(List.range 256).map fun i:Nat=>LQ 8 (i:Int)
theorem qBP:oB.length=256:=by simp [oB]
def cstep (t:List Int) (v b:Int):Int:=pT .u32 (jQ .u32 v 8) t[(pT .u8 (IntKind.u8.wrap v) b).toNat]!
def bnot (v:Int):Int:=pT .u32 (-1) v
def LR (t:List Int) (s:ByteArray):Int:=if t.length=256 then bnot ((aE s).foldl (cstep t) 4294967295)else 0
def pX (s:ByteArray):Int:=LR oB s
theorem qKF {t:List Int} {s:ByteArray} {k v:Int} (h:0<=k/\k<s.size):((aE s).drop k.toNat).foldl (cstep t) v=((aE s).drop (k+1).toNat).foldl (cstep t) (cstep t v (aG s k.toNat)):=by
 rw[bQ (aE s) k (by rw[aR];exact h),ks,hE]
abbrev NS:Ct:=.fn [.list (.int .u32),.int .u32,.int .u8] (some (fun(t:List Int) (v:Int) (b:Int)=>(t.length=256))) (fun(t:List Int) (v:Int) (b:Int)=>.d (.int .u32) (cstep t v b))
theorem qVS:aH Tryz.prog 116 NS:=by
 refine aH.fn qGX mixed [] [] rfl rfl ?_;rintro⟨(t:List Int),(v:Int),(b:Int),_⟩ hpre;replace hpre:=hpre _ rfl;dsimp only[cu]at hpre;have ht:=hpre;refine⟨[],?_⟩;repeat' (first
  |(
 with_reducible apply Side.mk
 (try dsimp only[cu,aC,aB,gts,loK,hiK,eE,eN])
 first
 |omega
 |(have hx:=qSM (IntKind.u8.wrap v) b;omega))
  |(conv=>whnf
    first
     |with_reducible first|done|exact trivial|refine NilBr.mk (fun h=>?_) ?_|apply aL|apply aK|refine aM kr ?_|apply aN|apply bL|apply bK|apply aU
     |((with_reducible first|apply aW|apply aV|apply bH)<;>intro h<;>(try dsimp only[cu,eE,eN]at h)<;>(try(exfalso;omega)))))
 all_goals(
 with_reducible apply Leaf.mk
 (try dsimp only[cu,aC,aB,gts,eE,eN]at *)
 rfl)
abbrev qb6:Tbl:=(116,NS)::qb5
theorem qGY:aD Tryz.prog qb6:=aD.cons qVS qGX
abbrev VL:Ct:=.fn [.list (.int .u32),.str] (some (fun(t:List Int) (s:ByteArray)=>(s.size<=9223372036854775807))) (fun(t:List Int) (s:ByteArray)=>.d (.int .u32) (LR t s))
theorem qZY:aH Tryz.prog 70 VL:=by
 refine aH.fn qGY mixed [] [] rfl rfl ?_;rintro⟨(t:List Int),(s:ByteArray),_⟩ hpre;replace hpre:=hpre _ rfl;dsimp only[cu]at hpre;have hs:=hpre;refine⟨[(0,10,LA.mk [.sl 12 (.int .i64),.sl 5 (.int .u32)] (fun y=>Tag 13/\cu [.int .i64,.int .u32] (fun(k:Int) (v:Int)=>(0<=k/\k<=s.size)/\(((aE s).drop k.toNat).foldl (cstep t) v=(aE s).foldl (cstep t) 4294967295)) y) (cu [.int .i64,.int .u32] (fun(k:Int) (v:Int)=>((s.size:Int)-k).toNat)) (cu [.int .i64,.int .u32] (fun(k:Int) (v:Int)=>([]:List (Nat×Nat×LA)))))],?_⟩;repeat' (first
  |(
 with_reducible refine Side.mk ⟨(⟨⟩:Tag 13),?_⟩
 dsimp only[cu,aC,aB,gts,eE,eN]
 refine⟨?_,?_⟩
 ·omega
 ·first
  |simp;done
  |(rw[<-hv,qKF (k:=k) (v:=v) om];(try rfl)))
  |(
 with_reducible apply Side.mk
 (try dsimp only[cu,aC,aB,gts,loK,hiK,eE,eN])
 omega)
  |(conv=>whnf
    first
     |with_reducible first|done|exact trivial|refine NilBr.mk (fun h=>?_) ?_|apply aL|apply aK|refine aM kr ?_|apply aN|apply bL|apply bK|apply aU
     |((with_reducible first|apply aW|apply aV|apply bH)<;>intro h<;>(try dsimp only[cu,eE,eN]at h)<;>(try(exfalso;omega)))
     |(
 intro yy (hy:Tag 13/\_)
 obtain⟨(k:Int),(v:Int),_⟩:=yy
 replace hy:=hy.2
 dsimp only[cu,aC,aB,gts,eE,eN]at hy
 obtain⟨hk,hv⟩:=hy)))
 all_goals(
 with_reducible apply Leaf.mk
 (try dsimp only[cu,aC,aB,gts,eE,eN]at *)
 first
 |(
  have h256:¬t.length=256:=om
  rw[LR,if_neg h256])
 |(
  have h256:t.length=256:=om
  rw[LR,if_pos h256,<-hv,gu (by rw[aR];omega)];rfl))
abbrev qb7:Tbl:=(70,VL)::qb6
theorem qGZ:aD Tryz.prog qb7:=aD.cons qZY qGY
abbrev HQ:Ct:=.fn [] (none) (.d (.list (.int .u32)) oB)
theorem ZN:aH Tryz.prog 71 HQ:=by
 refine aH.fn qGZ mixed [(0,5,1)] [] rfl rfl ?_;rintro⟨⟩ -;refine⟨[(0,6,LA.mk [.sl 7 (.int .i64),.ar 0 (.int .u32) 80] (fun y=>Tag 14/\cu [.int .i64,.list (.int .u32)] (fun(k:Int) (M:List Int)=>(0<=k/\k<=256)/\(M.length=256)/\(M.take k.toNat=(List.range k.toNat).map (fun i:Nat=>LQ 8 (i:Int)))) y) (cu [.int .i64,.list (.int .u32)] (fun(k:Int) (M:List Int)=>((256:Int)-k).toNat)) (cu [.int .i64,.list (.int .u32)] (fun(k:Int) (M:List Int)=>([(0,14,LA.mk [.sl 12 (.int .i64),.sl 3 (.int .u32)] (fun y=>Tag 15/\cu [.int .i64,.int .u32] (fun(j:Int) (v:Int)=>(0<=j/\j<=8)/\(LQ (8-j).toNat v=LQ 8 k)) y) (cu [.int .i64,.int .u32] (fun(j:Int) (v:Int)=>((8:Int)-j).toNat)) (cu [.int .i64,.int .u32] (fun(j:Int) (v:Int)=>([]:List (Nat×Nat×LA)))))]:List (Nat×Nat×LA)))))],?_⟩;repeat' (first
  |(
 with_reducible refine Side.mk ⟨(⟨⟩:Tag 14),?_⟩
 dsimp only[cu,aC,aB,gts,eE,eN]
 refine⟨?_,?_,?_⟩
 ·omega
 ·first
  |simp;done
  |simp;omega
 ·first
  |simp;done
  |(
  rw[show(k+1).toNat=k.toNat+1 by omega,sG _ _ _ om,hm,ku,kt]
  simp only[List.map_cons,List.map_nil]
  rw[show((k.toNat:Nat):Int)=k by omega,<-hj,show(8-j).toNat=0 by omega]
  rfl))
  |(
 with_reducible refine Side.mk ⟨(⟨⟩:Tag 15),?_⟩
 dsimp only[cu,aC,aB,gts,eE,eN]
 refine⟨?_,?_⟩
 ·omega
 ·first
  |rfl
  |(rw[<-hj,CE (k:=j) (v:=v) om];(try rfl)))
  |(
 with_reducible apply Side.mk
 (try dsimp only[cu,aC,aB,gts,loK,hiK,eE,eN])
 omega)
  |(conv=>whnf
    first
     |with_reducible first|done|exact trivial|refine NilBr.mk (fun h=>?_) ?_|apply aL|apply aK|refine aM kr ?_|apply aN|apply bL|apply bK|apply aU
     |((with_reducible first|apply aW|apply aV|apply bH)<;>intro h<;>(try dsimp only[cu,eE,eN]at h)<;>(try(exfalso;omega)))
     |(
 intro yy (hy:Tag 14/\_)
 obtain⟨(k:Int),(M:List Int),_⟩:=yy
 replace hy:=hy.2
 dsimp only[cu,aC,aB,gts,eE,eN]at hy
 obtain⟨hk,hl,hm⟩:=hy)
     |(
 intro yy (hy:Tag 15/\_)
 obtain⟨(j:Int),(v:Int),_⟩:=yy
 replace hy:=hy.2
 dsimp only[cu,aC,aB,gts,eE,eN]at hy
 obtain⟨hj,hj⟩:=hy)))
 all_goals(
 with_reducible apply Leaf.mk
 (try dsimp only[cu,aC,aB,gts,eE,eN]at *)
 (
  rw[show k.toNat=256 by omega,gb om]at hm;exact hm))
abbrev qb8:Tbl:=(71,HQ)::qb7
theorem qG0:aD Tryz.prog qb8:=aD.cons ZN qGZ
abbrev DF:Ct:=.fn [] (none) (.d (.list (.int .u32)) oB)
theorem QD:aH Tryz.prog 86 DF:=by
 refine aH.fn qG0 mixed [(0,4,1)] [] rfl rfl ?_;rintro⟨⟩ -;refine⟨[(0,6,LA.mk [.sl 2 (.int .u32),.lst 1 (.int .u32) 80] (fun y=>Tag 16/\cu [.int .u32,.list (.int .u32)] (fun(k:Int) (M:List Int)=>(0<=k/\k<=256)/\(M=(List.range k.toNat).map (fun i:Nat=>LQ 8 (i:Int)))) y) (cu [.int .u32,.list (.int .u32)] (fun(k:Int) (M:List Int)=>(256-k).toNat)) (cu [.int .u32,.list (.int .u32)] (fun(k:Int) (M:List Int)=>([(0,14,LA.mk [.sl 4 (.int .i64),.sl 3 (.int .u32)] (fun y=>Tag 17/\cu [.int .i64,.int .u32] (fun(j:Int) (v:Int)=>(0<=j/\j<=8)/\(0<=v/\v<4294967296)/\(LQ (8-j).toNat v=LQ 8 k)) y) (cu [.int .i64,.int .u32] (fun(j:Int) (v:Int)=>((8:Int)-j).toNat)) (cu [.int .i64,.int .u32] (fun(j:Int) (v:Int)=>([]:List (Nat×Nat×LA)))))]:List (Nat×Nat×LA)))))],?_⟩;repeat' (first
  |(
 with_reducible refine Side.mk ⟨(⟨⟩:Tag 16),?_⟩
 dsimp only[cu,aC,aB,gts,eE,eN]
 refine⟨?_,?_⟩
 ·omega
 ·first
  |simp;done
  |(
  rw[show(k+1).toNat=k.toNat+1 by omega,ku,kt,hm]
  simp only[List.map_cons,List.map_nil]
  rw[show((k.toNat:Nat):Int)=k by omega,<-hj,show(8-j).toNat=0 by omega]
  rfl))
  |(
 with_reducible refine Side.mk ⟨(⟨⟩:Tag 17),?_⟩
 dsimp only[cu,aC,aB,gts,eE,eN]
 refine⟨?_,?_,?_⟩
 ·omega
 ·first
  |omega
  |exact UV _ _
  |(simpa using qF6 av 1)
 ·first
  |rfl
  |rw[<-hj,CE (k:=j) (v:=v) om,qVI av]
  |(rw[<-hj,CE (k:=j) (v:=v) om,qQY av av]))
  |(
 with_reducible apply Side.mk
 (try dsimp only[cu,aC,aB,gts,loK,hiK,eE,eN])
 first
 |done
 |omega
 |exact Eq.refl _
 |(
  have hml:M.length=k.toNat:=by rw[hm];simp
  simp only[gj,gf];omega))
  |(conv=>whnf
    first
     |with_reducible first|done|exact trivial|refine NilBr.mk (fun h=>?_) ?_|apply aL|apply aK|refine aM kr ?_|apply aN|apply bL|apply bK|apply aU
     |((with_reducible first|apply aW|apply aV|apply bH)<;>intro h<;>(try dsimp only[cu,eE,eN]at h)<;>(try(exfalso;omega)))
     |(
 intro yy (hy:Tag 16/\_)
 obtain⟨(k:Int),(M:List Int),_⟩:=yy
 replace hy:=hy.2
 dsimp only[cu,aC,aB,gts,eE,eN]at hy
 obtain⟨hk,hm⟩:=hy)
     |(
 intro yy (hy:Tag 17/\_)
 obtain⟨(j:Int),(v:Int),_⟩:=yy
 replace hy:=hy.2
 dsimp only[cu,aC,aB,gts,eE,eN]at hy
 obtain⟨hj,hv,hj⟩:=hy)))
 all_goals(
 with_reducible apply Leaf.mk
 (try dsimp only[cu,aC,aB,gts,eE,eN]at *)
 (
  rw[show k.toNat=256 by omega]at hm;exact hm))
abbrev qb9:Tbl:=(86,DF)::qb8
theorem qG1:aD Tryz.prog qb9:=aD.cons QD qG0
def fB (l:List Bool) (q:Nat):Int:=if l[q]! =true then 1 else 0
theorem qaU (l:List Bool):uB (fB l):=fun q=>by unfold fB;split<;>simp
def jS (l:List Bool):ByteArray:=aT (gL (fB l) l.length 8 (((l.length:Int)+7).tdiv 8).toNat)
def RL (s:ByteArray) (q:Nat):Bool:=decide (sbit s q=1)
def tL (s:ByteArray) (n:Nat):List Bool:=(List.range n).map (RL s)
def kG (s:ByteArray) (n:Int):List Bool×Int:=
 if n<0\/n>4096 then([],4)else if(s.size:Int)<(n+7).tdiv 8 then([],10)else if(s.size:Int)>(n+7).tdiv 8 then([],2)
 else if iV s n.toNat=true then([],2)else(tL s n.toNat,0)
def pV (s:ByteArray):Nat->Int
 |0=>0
 |m+1=>pV s m+sbit s m
def PI (n:Nat):Int:=((n%2+n/2%2+n/4%2+n/8%2+n/16%2+n/32%2+n/64%2+n/128%2:Nat):Int)
def rK (s:ByteArray):Int:=pV s (8*s.size)
theorem qJD {f g:Nat->Int} (h:(List.range 256).all (fun n=>decide (f n=g n))=true) {n:Int} (hn:0<=n/\n<256):f n.toNat=g n.toNat:=of_decide_eq_true (RG h hn)
theorem qUB {b:ByteArray} {x:Int} (h:b.size=256) (hx:x<256):x<(b.size:Int):=om
theorem OG (s:ByteArray):∀m,0<=pV s m/\pV s m<=m
 |0=>by simp [pV]
 |m+1=>by
  have:=OG s m;have:=yA s m;rw[pV];omega
theorem qVM (s:ByteArray) (k u:Nat) (hu:u<8):sbit s (8*k+u)=aG s k/2^u%2:=by
 unfold sbit;rw[show(8*k+u)/8=k by omega,show(8*k+u)%8=u by omega]
theorem qKY (n:Nat):0<=PI n/\PI n<=8:=by unfold PI;omega
theorem qNQ (s:ByteArray) (k:Nat):pV s (8*(k+1))=pV s (8*k)+PI (aG s k).toNat:=by
 have hb:=cZ s k;obtain⟨b,hbb⟩:=gq hb.1;have e:∀u,u<8->sbit s (8*k+u)=((b/2^u%2:Nat):Int):=fun u hu=>by
  rw[qVM s k u hu,hbb];simp
 rw[hbb,ki,show 8*(k+1)=8*k+7+1 by omega];simp only[pV,e 7 dc,e 6 dc,e 5 dc,e 4 dc,e 3 dc,e 2 dc,e 1 dc];have e0:=e 0 dc;rw[Nat.add_zero]at e0;rw[e0];simp only[PI,Nat.reducePow];omega
theorem mA {n:Int} (h:0<=n):n.tdiv 8=n/8:=gc h
theorem qIV {n:Int} (h:0<=n):n.tmod 8=n%8:=ga h
theorem ME (s:ByteArray) (n:Nat):(tL s n).length=n:=by simp [tL]
theorem GH (s:ByteArray) {k:Int} (h:0<=k):tL s (k+1).toNat=tL s k.toNat++ [RL s k.toNat]:=by
 rw[show(k+1).toNat=k.toNat+1 by omega];simp [tL,ku]
theorem qXV {s:ByteArray} {q:Nat} (h:RL s q=true):sbit s q=1:=of_decide_eq_true h
theorem qXU {s:ByteArray} {q:Nat} (h:RL s q=false):sbit s q≠1:=of_decide_eq_false h
abbrev HF:Ct:=.fn [.list .bool] (some (fun(l:List Bool)=>(l.length<=1073741824))) (fun(l:List Bool)=>.d .str (jS l))
theorem qPP:aH Tryz.prog 112 HF:=by
 refine aH.fn qG1 mixed [] [] rfl rfl ?_;rintro⟨(l:List Bool),_⟩ hpre;replace hpre:=hpre _ rfl;dsimp only[cu]at hpre;have hl:=hpre;refine⟨[(0,6,LA.mk [.sl 13 (.int .i64),.ar 0 (.int .u8) 5] (fun y=>Tag 18/\cu [.int .i64,.list (.int .u8)] (fun(k:Int) (O:List Int)=>(0<=k/\k<=l.length)/\(O=gL (fB l) k.toNat 8 (((l.length:Int)+7).tdiv 8).toNat)) y) (cu [.int .i64,.list (.int .u8)] (fun(k:Int) (O:List Int)=>((l.length:Int)-k).toNat)) (cu [.int .i64,.list (.int .u8)] (fun(k:Int) (O:List Int)=>([]:List (Nat×Nat×LA)))))],?_⟩;repeat' (first
  |(
 with_reducible refine Side.mk ⟨(⟨⟩:Tag 18),?_⟩
 dsimp only[cu,aC,aB,gts,eE,eN]
 refine⟨?_,?_⟩
 ·omega
 ·first
  |exact(SS _ _ _).symm
  |(
  rw[hO]
  have hd1:=mA (n:=k) om
  have hd2:=mA (n:=(l.length:Int)+7) om
  have hk:l[k.toNat]! =true:=by first|assumption|(simp_all;done)
  refine XQ (qaU _) om om ?_ rfl rfl
  rw[fB,if_pos hk])
  |(
  rw[hO,show(k+1).toNat=k.toNat+1 by omega]
  have hk:¬l[k.toNat]! =true:=by first|assumption|(simp_all;done)
  refine qTY dc ?_
  rw[fB,if_neg hk]))
  |(
 with_reducible apply Side.mk
 (try dsimp only[cu,aC,aB,gts,loK,hiK,eE,eN])
 first
 |omega
 |(
  have hd1:=mA (n:=k) om;have hd2:=mA (n:=(l.length:Int)+7) om;omega)
 |rw[mA om];omega
 |rw[qIV om];omega
 |rw[hO,jB,mA om,mA om];omega
 |(simp only[hO,jB];done))
  |(conv=>whnf
    first
     |with_reducible first|done|exact trivial|refine NilBr.mk (fun h=>?_) ?_|apply aL|apply aK|refine aM kr ?_|apply aN|apply bL|apply bK|apply aU
     |((with_reducible first|apply aW|apply aV|apply bH)<;>intro h<;>(try dsimp only[cu,eE,eN]at h)<;>(try(exfalso;omega)))
     |(
 intro yy (hy:Tag 18/\_)
 obtain⟨(k:Int),(O:List Int),_⟩:=yy
 replace hy:=hy.2
 dsimp only[cu,aC,aB,gts,eE,eN]at hy
 obtain⟨hk,hO⟩:=hy)))
 all_goals(
 with_reducible apply Leaf.mk
 (try dsimp only[cu,aC,aB,gts,eE,eN]at *)
 (rw[hO,show k.toNat=l.length by omega];rfl))
abbrev qcA:Tbl:=(112,HF)::qb9
theorem qG2:aD Tryz.prog qcA:=aD.cons qPP qG1
abbrev NH:Ct:=.fn [.str,.int .i64] (some (fun(s:ByteArray) (i:Int)=>(s.size<=288230376151711744)/\(0<=i/\i<8*s.size))) (fun(s:ByteArray) (i:Int)=>.d .bool (RL s i.toNat))
theorem qUT:aH Tryz.prog 187 NH:=by
 refine aH.fn qG2 mixed [] [] rfl rfl ?_;rintro⟨(s:ByteArray),(i:Int),_⟩ hpre;replace hpre:=hpre _ rfl;dsimp only[cu]at hpre;obtain⟨hs,hi⟩:=hpre;refine⟨[],?_⟩;repeat' (first
  |(
 with_reducible apply Side.mk
 (try dsimp only[cu,aC,aB,gts,loK,hiK,eE,eN])
 first
 |omega
 |rw[mA om];omega
 |(rw[qIV om];omega))
  |(conv=>whnf
    first
     |with_reducible first|done|exact trivial|refine NilBr.mk (fun h=>?_) ?_|apply aL|apply aK|refine aM kr ?_|apply aN|apply bL|apply bK|apply aU
     |((with_reducible first|apply aW|apply aV|apply bH)<;>intro h<;>(try dsimp only[cu,eE,eN]at h)<;>(try(exfalso;omega)))))
 all_goals(
 with_reducible apply Leaf.mk
 (try dsimp only[cu,aC,aB,gts,eE,eN]at *)
 (
  unfold RL;rw[(qM8 s (a:=i) om).1]))
abbrev qcB:Tbl:=(187,NH)::qcA
theorem qG3:aD Tryz.prog qcB:=aD.cons qUT qG2
abbrev NN:Ct:=.fn [.int .u8] (some (fun(x:Int)=>(0<=x/\x<256))) (fun(x:Int)=>.d (.int .i64) (PI x.toNat))
theorem qU3:aH Tryz.prog 186 NN:=by
 refine aH.fn qG3 mixed [] [] rfl rfl ?_;rintro⟨(x:Int),_⟩ hpre;replace hpre:=hpre _ rfl;dsimp only[cu]at hpre;have hx:=hpre;refine⟨[],?_⟩;repeat' (first
  |(
 with_reducible apply Side.mk
 (try dsimp only[cu,aC,aB,gts,loK,hiK,eE,eN])
 first
 |omega
 |exact qUB kr hx.2
 |(exact⟨Int.le_trans dc (cZ _ _).1,Int.le_trans (gt (cZ _ _).2) dc⟩))
  |(conv=>whnf
    first
     |with_reducible first|done|exact trivial|refine NilBr.mk (fun h=>?_) ?_|apply aL|apply aK|refine aM kr ?_|apply aN|apply bL|apply bK|apply aU
     |((with_reducible first|apply aW|apply aV|apply bH)<;>intro h<;>(try dsimp only[cu,eE,eN]at h)<;>(try(exfalso;omega)))))
 all_goals(
 with_reducible apply Leaf.mk
 (try dsimp only[cu,aC,aB,gts,eE,eN]at *)
 exact qJD kr hx)
abbrev qcC:Tbl:=(186,NN)::qcB
theorem qG4:aD Tryz.prog qcC:=aD.cons qU3 qG3
abbrev DB:Ct:=.fn [.str] (some (fun(s:ByteArray)=>(s.size<=288230376151711744))) (fun(s:ByteArray)=>.d (.int .i64) (rK s))
theorem qKV:aH Tryz.prog 164 DB:=by
 refine aH.fn qG4 mixed [] [] rfl rfl ?_;rintro⟨(s:ByteArray),_⟩ hpre;replace hpre:=hpre _ rfl;dsimp only[cu]at hpre;have hs:=hpre;refine⟨[(0,6,LA.mk [.sl 7 (.int .i64),.sl 3 (.int .i64)] (fun y=>Tag 19/\cu [.int .i64,.int .i64] (fun(k:Int) (c:Int)=>(0<=k/\k<=s.size)/\(c=pV s (8*k.toNat))) y) (cu [.int .i64,.int .i64] (fun(k:Int) (c:Int)=>((s.size:Int)-k).toNat)) (cu [.int .i64,.int .i64] (fun(k:Int) (c:Int)=>([]:List (Nat×Nat×LA)))))],?_⟩;repeat' (first
  |(
 with_reducible refine Side.mk ⟨(⟨⟩:Tag 19),?_⟩
 dsimp only[cu,aC,aB,gts,eE,eN]
 refine⟨?_,?_⟩
 ·omega
 ·first
  |rfl
  |(rw[show(k+1).toNat=k.toNat+1 by omega,qNQ,hc]))
  |(
 with_reducible apply Side.mk
 (try dsimp only[cu,aC,aB,gts,loK,hiK,eE,eN])
 first
 |omega
 |exact cZ _ _
 |(
  have:=OG s (8*k.toNat);have:=qKY (aG s k.toNat).toNat;omega))
  |(conv=>whnf
    first
     |with_reducible first|done|exact trivial|refine NilBr.mk (fun h=>?_) ?_|apply aL|apply aK|refine aM kr ?_|apply aN|apply bL|apply bK|apply aU
     |((with_reducible first|apply aW|apply aV|apply bH)<;>intro h<;>(try dsimp only[cu,eE,eN]at h)<;>(try(exfalso;omega)))
     |(
 intro yy (hy:Tag 19/\_)
 obtain⟨(k:Int),(c:Int),_⟩:=yy
 replace hy:=hy.2
 dsimp only[cu,aC,aB,gts,eE,eN]at hy
 obtain⟨hk,hc⟩:=hy)))
 all_goals(
 with_reducible apply Leaf.mk
 (try dsimp only[cu,aC,aB,gts,eE,eN]at *)
 (rw[hc,show k.toNat=s.size by omega];rfl))
abbrev qcD:Tbl:=(164,DB)::qcC
theorem qG5:aD Tryz.prog qcD:=aD.cons qKV qG4
abbrev yP:Ct:=.fn [.str,.int .i64] (some (fun(s:ByteArray) (n:Int)=>(s.size<=288230376151711744))) (fun(s:ByteArray) (n:Int)=>.tup [.list .bool,.int .i64] ((kG s n).1,(kG s n).2,()))
theorem qCS:aH Tryz.prog 165 yP:=by
 refine aH.fn qG5 mixed [] [] rfl rfl ?_;rintro⟨(s:ByteArray),(n:Int),_⟩ hpre;replace hpre:=hpre _ rfl;dsimp only[cu]at hpre;have hs:=hpre;refine⟨[(0,18,LA.mk [.sl 48 (.int .i64),.ar 0 .bool 4] (fun y=>Tag 20/\cu [.int .i64,.list .bool] (fun(k:Int) (O:List Bool)=>(0<=k/\k<=n)/\(O.length=n.toNat)/\(O.take k.toNat=tL s k.toNat)) y) (cu [.int .i64,.list .bool] (fun(k:Int) (O:List Bool)=>((n:Int)-k).toNat)) (cu [.int .i64,.list .bool] (fun(k:Int) (O:List Bool)=>([]:List (Nat×Nat×LA)))))],?_⟩;repeat' (first
  |(
 with_reducible refine Side.mk ⟨(⟨⟩:Tag 20),?_⟩
 dsimp only[cu,aC,aB,gts,eE,eN]
 refine⟨?_,?_,?_⟩
 ·omega
 ·first
  |simp;done
  |simp;omega
 ·first
  |rfl
  |(rw[show(k+1).toNat=k.toNat+1 by omega,sG _ _ _ om,hO,<-show(k+1).toNat=k.toNat+1 by omega,GH s om]))
  |(
 with_reducible apply Side.mk
 (try dsimp only[cu,aC,aB,gts,loK,hiK,eE,eN])
 first
 |omega
 |(
  have hd:=mA (n:=n+7) om;have hd2:=mA (n:=n) om;have hm2:=qIV (n:=n) om;omega))
  |(conv=>whnf
    first
     |with_reducible first|done|exact trivial|refine NilBr.mk (fun h=>?_) ?_|apply aL|apply aK|refine aM kr ?_|apply aN|apply bL|apply bK|apply aU
     |((with_reducible first|apply aW|apply aV|apply bH)<;>intro h<;>(try dsimp only[cu,eE,eN]at h)<;>(try(exfalso;omega)))
     |(
 intro yy (hy:Tag 20/\_)
 obtain⟨(k:Int),(O:List Bool),_⟩:=yy
 replace hy:=hy.2
 dsimp only[cu,aC,aB,gts,eE,eN]at hy
 obtain⟨hk,hl,hO⟩:=hy)))
 all_goals(
 with_reducible apply Leaf.mk
 (try dsimp only[cu,aC,aB,gts,eE,eN]at *)
 first
 |(
  have q:n<0\/n>4096:=om
  rw[kG,if_pos q])
 |(
  have h1:¬(n<0\/n>4096):=om
  first
  |(
   have h2:(s.size:Int)<(n+7).tdiv 8:=om
   rw[kG,if_neg h1,if_pos h2])
  |(
   have h2:¬(s.size:Int)<(n+7).tdiv 8:=om
   have h3:(s.size:Int)>(n+7).tdiv 8:=om
   rw[kG,if_neg h1,if_neg h2,if_pos h3]))
 |(
  have hd:=mA (n:=n+7) om;have hd2:=mA (n:=n) om;have hm2:=qIV (n:=n) om;have h1:¬(n<0\/n>4096):=om
  have h2:¬(s.size:Int)<(n+7).tdiv 8:=om
  have h3:¬(s.size:Int)>(n+7).tdiv 8:=om
  have ht:=ZO (s:=s) (m:=n.toNat) om;obtain⟨t1,t2⟩:=QM s (a:=n) om;first
  |(
   have h4:iV s n.toNat=true:=ht.2 ⟨om,by rw[<-t1];assumption⟩;rw[kG,if_neg h1,if_neg h2,if_neg h3,if_pos h4])
  |(
   have h4:¬iV s n.toNat=true:=by
    intro q;obtain⟨g1,g2⟩:=ht.1 q;rw[<-t1]at g2;first|omega|(simp_all;done)
   rw[kG,if_neg h1,if_neg h2,if_neg h3,if_neg h4];(try rw[gb om,show k.toNat=n.toNat by omega]at hO);first|done|rfl|exact hO)))
abbrev qcE:Tbl:=(165,yP)::qcD
theorem qG6:aD Tryz.prog qcE:=aD.cons qCS qG5
end Go.Proofs.YtcjiefknhfhmkaaGreatDoor
