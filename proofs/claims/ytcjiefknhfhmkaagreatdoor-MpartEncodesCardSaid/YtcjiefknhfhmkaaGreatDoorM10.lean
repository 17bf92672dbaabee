import Derived.RangeFuncNested
import Derived.RangeFuncCalls
import Derived.ControlIn
import Derived.RangeFuncBound
import Derived.RangeFuncLeaves
import Derived.WalkKit
import Derived.OwnWalkIn
import Derived.TacticsInMore
import Derived.LoopNIn
import Derived.LoopIn
import Derived.Shelf.Abstract
import Derived.Test.YtcjiefknhfhmkaaGreatDoorM09
namespace Go.Proofs.YtcjiefknhfhmkaaGreatDoor
open Go.Abs
set_option maxRecDepth 100000
set_option maxHeartbeats 4000000
set_option linter.unusedVariables false
set_option linter.unusedSimpArgs false
abbrev OD:Ct:=.bld true 5 106
theorem qO5:aG Tryz.prog 62 OD:=by
 refine qBU.mk qBI mixed [] [107] rfl rfl ?_ ?_ ?_;all_goals first|rintro(z:Nat) (_|_) (l:List Int) s hs hz|rintro(_|_) (l:List Int) s hs|rintro(_|_) s hs
 all_goals refine⟨[],?_⟩
 repeat' (first
  |(
 with_reducible apply Side.mk
 (try dsimp only[cu,aB,aA,gts,loK,hiK,eE,eN])
 first
 |done
 |omega
 |exact Eq.refl _
 |simp only[List.length_append,List.length_cons,List.length_nil];omega
 |(
  (try simp only[aY,List.length_nil]);omega))
  |(conv=>whnf
    first
     |with_reducible first|done|exact trivial|refine NilBr.mk (fun h=>?_) ?_|apply aJ|apply aI|refine aK (by kernel_rfl) ?_|apply aL|apply bA|apply aZ|apply aO
     |((with_reducible first|apply aQ|apply aP|apply aX)<;>intro h<;>(try dsimp only[cu,eE,eN]at h)<;>(try(exfalso;omega)))))
 all_goals(
 with_reducible apply Leaf.mk
 (try dsimp only[cu,aB,aA,gts,eE,eN]at *)
 first
 |done
 |(rfl))
abbrev qSL:Tbl:=(62,OD)::qSK
theorem qMA:aC Tryz.prog qSL:=aC.cons qO5 qBI
abbrev GP:Ct:=.bld false 5 106
theorem NO (b o:Nat) (w:World) (hc:w.cell? ⟨b,o+1,none⟩=some (.slice none 0 0)) :
  Calls Tryz.prog 72 #[.pointer (some ⟨b,o,none⟩)] w fun e w'=>e = .returned (.string ⟨#[]⟩)/\w'=w.drew:=by
 have hUS:∀W:World,(Builtin.unsafeString_ #[150,3] 9 #[.pointer none,.int .i64 0]).run Tryz.prog W = .ok (.string .empty) W:=fun W=>Lib.run_unsafeString_none W _ _ _ none
 have c1:w.drew.cell? ⟨b,o+1,none⟩=some (.slice none 0 0):=hc;have hSD:∀W:World,(Builtin.unsafeSliceData_ #[36] 150 #[.slice none 0 0]).run Tryz.prog W = .ok (.pointer none) W:=fun W=>rfl
 go_enter Tryz.func72,Tryz.ntmps72
 go_wp2
 go_region
 all_goals(go_wp2;go_ret;exact⟨rfl,rfl⟩)
theorem KT (b o:Nat) (a:Addr) (n cap:Nat) (s:ByteArray) (w:World) (hc:w.cell? ⟨b,o+1,none⟩=some (.slice (some a) n cap)) (h0:cap≠0)
  (hUS:(Builtin.unsafeString_ #[150,3] 9 #[.pointer (some a),.int .i64 n]).run Tryz.prog w.drew = .ok (.string s) (w.drew.freeze a n)) :
  Calls Tryz.prog 72 #[.pointer (some ⟨b,o,none⟩)] w fun e w'=>e = .returned (.string s)/\w'=w.drew.freeze a n:=by
 have c1:w.drew.cell? ⟨b,o+1,none⟩=some (.slice (some a) n cap):=hc;have hSD:(Builtin.unsafeSliceData_ #[36] 150 #[.slice (some a) n cap]).run Tryz.prog w.drew = .ok (.pointer (some a)) w.drew:=Lib.run_unsafeSliceData_row _ _ _ _ _ _ h0;go_enter Tryz.func72,Tryz.ntmps72
 go_wp2
 go_region
 all_goals(go_wp2;go_ret;exact⟨rfl,rfl⟩)
theorem qJT:aG Tryz.prog 72 GP:=qNP.mk (pt:=150) (it:=3) (ty:=9) (by kernel_rfl) (by kernel_rfl) NO KT
abbrev qSM:Tbl:=(72,GP)::qSL
theorem qBJ:aC Tryz.prog qSM:=aC.cons qJT qMA
def OR (n:Int):ByteArray:=if n<10 then⟨#[UInt8.ofNat (48+n.toNat)]⟩else⟨#[49,UInt8.ofNat (38+n.toNat)]⟩
def tX:List ByteArray:=[⟨#[105,110,116]⟩,⟨#[98,111,111,108]⟩,⟨#[98,121,116,101,115]⟩,⟨#[100,97,116,101]⟩,⟨#[100,101,99,105,109,97,108]⟩]
def tw (t:Int):ByteArray:=⟨#[32]⟩++tX[(t-1).toNat]!
abbrev nlB:ByteArray:=⟨#[10]⟩
abbrev nuB:ByteArray:=⟨#[32,110,117,108,108]⟩
def scT (c:Col):ByteArray:=if c.2.1=5 then⟨#[32]⟩++OR c.2.2.1 else⟨#[]⟩
def nuT (c:Col):ByteArray:=if c.2.2.2=true then nuB else⟨#[]⟩
def qB (c:Col):ByteArray:=c.1++tw c.2.1++scT c++nuT c++nlB
def lM:List Col->ByteArray
 | []=>⟨#[]⟩
 |c::l=>qB c++lM l
def qKW (s:Schema):ByteArray:=⟨#[107,101,121,32]⟩++s.1[s.2.toNat]!.1++nlB
def OZ (s:Schema):ByteArray:=lM s.1++qKW s
def jM (s:Schema):ByteArray×Int:=if aW s≠0 then(⟨#[]⟩,aW s)else(OZ s,0)
def idS (s:Schema):Int×Int:=if aW s≠0 then(0,aW s)else(qFL (OZ s),0)
theorem cU {l:List Col} {k:Int} (h:0<=k/\k<l.length):lM (l.drop k.toNat)=qB l[k.toNat]! ++lM (l.drop (k+1).toNat):=by
 rw[bH l k h];rfl
theorem dZ {s:Schema} (h:aW s=0) {k:Int} (hk:0<=k/\k<s.1.length):(1<=s.1[k.toNat]!.2.1/\s.1[k.toNat]!.2.1<=5)/\(0<=s.1[k.toNat]!.2.2.1/\s.1[k.toNat]!.2.2.1<=18)/\s.1[k.toNat]!.1.size<=16:=by
 have he:bO (dC s.1) 0 s.1=0:=by
  unfold aW at h;split at h
  ·cases h
  split at h
  ·cases h
  split at h
  ·contradiction
  ·rename_i q;exact Decidable.not_not.1 q
 have h1:=oJ he k hk;unfold dC at h1;split at h1
 ·cases h1
 rename_i h2;split at h1
 ·cases h1
 split at h1
 ·cases h1
 rename_i h3;split at h1
 ·cases h1
 rename_i h4;simp only[Bool.not_eq_false]at h2 h3 h4;simp only[mZ,Bool.and_eq_true,decide_eq_true_eq]at h2;simp only[cL,Bool.and_eq_true,decide_eq_true_eq]at h3;simp only[iH,Bool.and_eq_true,decide_eq_true_eq]at h4;omega
theorem qPU {t:Int} (h:1<=t/\t<=5):t=1\/t=2\/t=3\/t=4\/t=5:=by omega
theorem qSO {t:Int} (h:1<=t/\t<=5):(tw t).size<=8:=by
 rcases qPU h with rfl|rfl|rfl|rfl|rfl<;>decide
theorem qBN {t:Int} (h:1<=t/\t<=5):(tX[(t-1).toNat]!).size<=7:=by
 rcases qPU h with rfl|rfl|rfl|rfl|rfl<;>decide
theorem rL (n:Int):(OR n).size<=2:=by
 unfold OR;split
 ·show 1<=2;decide
 ·show 2<=2;decide
theorem qOT (c:Col):(scT c).size<=3:=by
 unfold scT;split
 ·rw[ByteArray.size_append];have:=rL c.2.2.1;have e:(⟨#[32]⟩:ByteArray).size=1:=rfl;omega
 ·exact Nat.zero_le _
theorem qOH (c:Col):(nuT c).size<=5:=by unfold nuT;split<;>decide
theorem qJW {c:Col} (h:1<=c.2.1/\c.2.1<=5) (hn:c.1.size<=16):(qB c).size<=33:=by
 have h1:=qSO h;have h2:=qOT c;have h3:=qOH c;have e:nlB.size=1:=rfl;simp only[qB,ByteArray.size_append];omega
theorem eW (a:ByteArray):(⟨#[]⟩:ByteArray)++a=a:=ByteArray.empty_append
theorem rH (a:ByteArray):a++⟨#[]⟩=a:=ByteArray.append_empty
theorem OK:∀(l:List Col),(∀c,c∈l->(1<=c.2.1/\c.2.1<=5)/\c.1.size<=16)->(lM l).size<=33*l.length
 | [],_=>Nat.zero_le _
 |c::l,h=>by
  have h1:=h c (List.mem_cons_self ..);have h2:=qJW h1.1 h1.2;have h3:=OK l fun x hx=>h x (List.mem_cons_of_mem _ hx)
  rw[lM,ByteArray.size_append,List.length_cons];omega
theorem qN1 {s:Schema} (h:aW s=0):(OZ s).size<=1000:=by
 have q0:=aR h;have h1:=OK s.1 fun c hc=>by
  obtain⟨i,hi,rfl⟩:=List.mem_iff_getElem.1 hc;have:=dZ h (k:=(i:Int)) ⟨by omega,by omega⟩;rw[Int.toNat_natCast,getElem!_pos s.1 i hi]at this;exact⟨this.1,this.2.2⟩
 have h2:=dZ h (k:=s.2) q0.2;have u1:(⟨#[107,101,121,32]⟩:ByteArray).size=4:=rfl;have u2:nlB.size=1:=rfl;unfold OZ qKW;simp only[ByteArray.size_append];omega
theorem WT {s:Schema}:(jM s).1.size<=1000:=by
 unfold jM;split
 ·exact Nat.zero_le _
 ·rename_i h;exact qN1 (Decidable.not_not.1 h)
theorem qPN {s:Schema} (h:(jM s).2=0):idS s=(MQ tJ (jM s).1,0):=by
 unfold jM idS at *;by_cases q:aW s≠0
 ·rw[if_pos q]at h;exact absurd h q
 ·rw[if_neg q,if_neg q];rfl
theorem qPO {s:Schema} (h:¬(jM s).2=0):idS s=(0,(jM s).2):=by
 unfold jM idS at *;by_cases q:aW s≠0
 ·rw[if_pos q,if_pos q]
 ·rw[if_neg q]at h;exact absurd rfl h
theorem qS0 {q:Int} (h:0<=q/\q<=18):(0<=Int.tmod q 10/\Int.tmod q 10<10)/\0<=Int.tdiv q 10/\Int.tdiv q 10<=1/\(0<q->Int.tdiv q 10<q):=by
 rw[Int.tmod_eq_emod_of_nonneg h.1,Int.tdiv_eq_ediv_of_nonneg h.1];omega
abbrev HB:Ct:=.fn [.int .i64] (some (fun(n:Int)=>(0<=n/\n<=18))) (fun(n:Int)=>.d .str (OR n))
theorem qKU:aG Tryz.prog 146 HB:=by
 refine aG.fn qBJ mixed [] [175,199,216] rfl rfl ?_;rintro⟨(n:Int),_⟩ hpre;replace hpre:=hpre _ rfl;dsimp only[cu]at hpre;have hn:=hpre;refine⟨[],?_⟩;repeat' (first
  |(
 with_reducible apply Side.mk
 (try dsimp only[cu,aB,aA,gts,loK,hiK,eE,eN])
 first
 |omega
 |(
  show _<=((36:Nat):Int);omega)
 |(
  show _<=((200:Nat):Int);omega))
  |(conv=>whnf
    first
     |with_reducible first|done|exact trivial|refine NilBr.mk (fun h=>?_) ?_|apply aJ|apply aI|refine aK (by kernel_rfl) ?_|apply aL|apply bA|apply aZ|apply aO
     |((with_reducible first|apply aQ|apply aP|apply aX)<;>intro h<;>(try dsimp only[cu,eE,eN]at h)<;>(try(exfalso;omega)))))
 all_goals(
 with_reducible apply Leaf.mk
 (try dsimp only[cu,aB,aA,gts,eE,eN]at *)
 (rcases(show n=0\/n=1\/n=2\/n=3\/n=4\/n=5\/n=6\/n=7\/n=8\/n=9\/n=10\/n=11\/n=12\/n=13\/n=14\/n=15\/n=16\/n=17\/n=18 by omega)with rfl|rfl|rfl|rfl|rfl|rfl|rfl|rfl|rfl|rfl|rfl|rfl|rfl|rfl|rfl|rfl|rfl|rfl|rfl<;>first|(exfalso;omega)|decide))
abbrev qSN:Tbl:=(146,HB)::qSM
theorem qBK:aC Tryz.prog qSN:=aC.cons qKU qBJ
abbrev HP:Ct:=.fn [.int .i64] (some (fun(n:Int)=>(0<=n/\n<=18))) (fun(n:Int)=>.d .str (OR n))
theorem qLQ:aG Tryz.prog 119 HP:=by
 refine aG.fn qBK mixed [] [] rfl rfl ?_;rintro⟨(n:Int),_⟩ hpre;replace hpre:=hpre _ rfl;dsimp only[cu]at hpre;have hn:=hpre;refine⟨[(0,10,LA.mk [.sl 0 (.int .i64),.sl 3 .str] (fun y=>Tag 62/\cu [.int .i64,.str] (fun(q:Int) (w:ByteArray)=>((q=n/\w=⟨#[]⟩)\/(q=1/\w=⟨#[UInt8.ofNat (38+n.toNat)]⟩)\/(q=0/\w=OR n))/\(0<=q/\q<=18)) y) (cu [.int .i64,.str] (fun(q:Int) (w:ByteArray)=>q.toNat)) (cu [.int .i64,.str] (fun(q:Int) (w:ByteArray)=>([]:List (Nat×Nat×LA)))))],?_⟩;repeat' (first
  |(
 with_reducible refine Side.mk ⟨(⟨⟩:Tag 62),?_⟩
 dsimp only[cu,aB,aA,gts,eE,eN]
 refine⟨?_,?_⟩
 ·first
  |exact Or.inl ⟨rfl,rfl⟩
  |(
  rcases hq with⟨rfl,rfl⟩|⟨rfl,rfl⟩|⟨rfl,rfl⟩
  ·refine Or.inr (Or.inl ⟨?_,?_⟩)<;>(rcases(show q=10\/q=11\/q=12\/q=13\/q=14\/q=15\/q=16\/q=17\/q=18 by omega)with rfl|rfl|rfl|rfl|rfl|rfl|rfl|rfl|rfl<;>decide)
  ·refine Or.inr (Or.inr ⟨by decide,?_⟩)
   rcases(show n=10\/n=11\/n=12\/n=13\/n=14\/n=15\/n=16\/n=17\/n=18 by omega)with rfl|rfl|rfl|rfl|rfl|rfl|rfl|rfl|rfl<;>decide
  ·exact absurd rfl (by with_reducible assumption))
 ·omega)
  |(
 with_reducible apply Side.mk
 (try dsimp only[cu,aB,aA,gts,loK,hiK,eE,eN])
 first
 |omega
 |(
  show _<=((10:Nat):Int);omega)
 |(
  have hws:w.size<=2:=by
   rcases hq with⟨_,h⟩|⟨_,h⟩|⟨_,h⟩<;>rw[h]
   ·exact Nat.zero_le _
   ·show 1<=2;decide
   ·exact rL n
  have u:(⟨#[48,49,50,51,52,53,54,55,56,57]⟩:ByteArray).size=10:=rfl;rw[ByteArray.size_extract];omega))
  |(conv=>whnf
    first
     |with_reducible first|done|exact trivial|refine NilBr.mk (fun h=>?_) ?_|apply aJ|apply aI|refine aK (by kernel_rfl) ?_|apply aL|apply bA|apply aZ|apply aO
     |((with_reducible first|apply aQ|apply aP|apply aX)<;>intro h<;>(try dsimp only[cu,eE,eN]at h)<;>(try(exfalso;omega)))
     |(
 intro yy (hy:Tag 62/\_)
 obtain⟨(q:Int),(w:ByteArray),_⟩:=yy
 replace hy:=hy.2
 dsimp only[cu,aB,aA,gts,eE,eN]at hy
 obtain⟨hq,hqb⟩:=hy
 have hm:=qS0 hqb)))
 all_goals(
 with_reducible apply Leaf.mk
 (try dsimp only[cu,aB,aA,gts,eE,eN]at *)
 first
 |(
  rcases hq with⟨h1,h2⟩|⟨h1,h2⟩|⟨h1,h2⟩
  ·exfalso;omega
  ·exfalso;omega
  ·exact h2)
 |(rcases(show n=0\/n=1\/n=2\/n=3\/n=4\/n=5\/n=6\/n=7\/n=8\/n=9\/n=10\/n=11\/n=12\/n=13\/n=14\/n=15\/n=16\/n=17\/n=18 by omega)with rfl|rfl|rfl|rfl|rfl|rfl|rfl|rfl|rfl|rfl|rfl|rfl|rfl|rfl|rfl|rfl|rfl|rfl|rfl<;>first|(exfalso;omega)|decide))
abbrev qM0:Tbl:=(119,HP)::qSN
theorem RK:aC Tryz.prog qM0:=aC.cons qLQ qBK
abbrev CT:Ct:=.fn [] (none) (.d (.list .str) tX)
theorem qI7:aG Tryz.prog 145 CT:=by
 refine aG.fn RK mixed [] [] rfl rfl ?_;rintro⟨⟩ -;refine⟨[],?_⟩;repeat' (first
  |(
 with_reducible apply Side.mk
 (try dsimp only[cu,aB,aA,gts,loK,hiK,eE,eN])
 exact Eq.refl _)
  |(conv=>whnf
    first
     |with_reducible first|done|exact trivial|refine NilBr.mk (fun h=>?_) ?_|apply aJ|apply aI|refine aK (by kernel_rfl) ?_|apply aL|apply bA|apply aZ|apply aO
     |((with_reducible first|apply aQ|apply aP|apply aX)<;>intro h<;>(try dsimp only[cu,eE,eN]at h)<;>(try(exfalso;omega)))))
 all_goals(
 with_reducible apply Leaf.mk
 (try dsimp only[cu,aB,aA,gts,eE,eN]at *)
 rfl)
abbrev qM1:Tbl:=(145,CT)::qM0
theorem RL:aC Tryz.prog qM1:=aC.cons qI7 RK
abbrev GY:Ct:=.fn [bK] (none) (fun(s:Schema)=>.tup [.str,.int .i64] ((jM s).1,(jM s).2,()))
theorem qKJ:aG Tryz.prog 106 GY:=by
 refine aG.fn RL mixed [] [] rfl rfl ?_;rintro⟨(s:Schema),_⟩ -;refine⟨[(0,12,LA.mk [.sl 16 (.int .i64),.row 1 [.osf 1,.own (.int .u8) (⟨5,1⟩:El)]] (fun y=>Tag 63/\cu [.int .i64,.bool,.list (.int .u8)] (fun(k:Int) (b0:Bool) (B:List Int)=>(0<=k/\k<=s.1.length)/\(lM s.1=aN B++lM (s.1.drop k.toNat))/\((B.length:Int)<=33*k)) y) (cu [.int .i64,.bool,.list (.int .u8)] (fun(k:Int) (b0:Bool) (B:List Int)=>((s.1.length:Int)-k).toNat)) (cu [.int .i64,.bool,.list (.int .u8)] (fun(k:Int) (b0:Bool) (B:List Int)=>([]:List (Nat×Nat×LA)))))],?_⟩;repeat' (first
  |(
 with_reducible refine Side.mk ⟨(⟨⟩:Tag 63),?_⟩
 dsimp only[cu,aB,aA,gts,eE,eN]
 refine⟨?_,?_,?_⟩
 ·omega
 ·first
  |(
  show lM s.1=ByteArray.empty++lM s.1
  rw[ByteArray.empty_append])
  |(
  have t1:scT s.1[k.toNat]! =⟨#[32]⟩++OR s.1[k.toNat]!.2.2.1:=if_pos (by with_reducible assumption)
  first
  |(
   have t2:nuT s.1[k.toNat]! =nuB:=if_pos (by with_reducible assumption);rw[hB,cU (by omega),qB,t1,t2,tw];simp only[bQ,bC,ByteArray.append_assoc,eW];done)
  |(
   have t2:nuT s.1[k.toNat]! =⟨#[]⟩:=if_neg (by rw[show s.1[k.toNat]!.2.2.2=false by with_reducible assumption];exact Bool.noConfusion);rw[hB,cU (by omega),qB,t1,t2,tw];simp only[bQ,bC,ByteArray.append_assoc,eW];done))
  |(
  have t1:scT s.1[k.toNat]! =⟨#[]⟩:=if_neg (by with_reducible assumption)
  first
  |(
   have t2:nuT s.1[k.toNat]! =nuB:=if_pos (by with_reducible assumption);rw[hB,cU (by omega),qB,t1,t2,tw];simp only[bQ,bC,ByteArray.append_assoc,eW];done)
  |(
   have t2:nuT s.1[k.toNat]! =⟨#[]⟩:=if_neg (by rw[show s.1[k.toNat]!.2.2.2=false by with_reducible assumption];exact Bool.noConfusion);rw[hB,cU (by omega),qB,t1,t2,tw];simp only[bQ,bC,ByteArray.append_assoc,eW];done))
 ·first
  |exact Int.le_refl _
  |(
  have kk:0<=k/\k<s.1.length:=by omega
  have qq:=dZ (s:=s) (by with_reducible assumption) kk
  obtain⟨q1,q2,q3⟩:=qq
  have z1:=qBN q1
  have z2:=rL s.1[k.toNat]!.2.2.1
  have u1:(⟨#[32]⟩:ByteArray).size=1:=rfl
  have u2:(⟨#[10]⟩:ByteArray).size=1:=rfl
  have u3:(⟨#[32,110,117,108,108]⟩:ByteArray).size=5:=rfl
  have u5:tX.length=5:=rfl
  have v0:(⟨#[32,105,110,116]⟩:ByteArray).size=4:=rfl
  have v1:(⟨#[32,98,111,111,108]⟩:ByteArray).size=5:=rfl
  have v2:(⟨#[32,98,121,116,101,115]⟩:ByteArray).size=6:=rfl
  have v3:(⟨#[32,100,97,116,101]⟩:ByteArray).size=5:=rfl
  have v4:(⟨#[32,100,101,99,105,109,97,108,32]⟩:ByteArray).size=9:=rfl
  have q0:=aR (s:=s) (by with_reducible assumption)
  simp only[List.length_append,aY,ByteArray.size_append]
  omega))
  |(
 with_reducible apply Side.mk
 (try dsimp only[cu,aB,aA,gts,loK,hiK,eE,eN])
 first
 |done
 |omega
 |exact Eq.refl _
 |(
  show _/\_;have kk:0<=k/\k<s.1.length:=by omega
  have qq:=dZ (s:=s) (by with_reducible assumption) kk;obtain⟨q1,q2,q3⟩:=qq;omega)
 |(
  have kk:0<=k/\k<s.1.length:=by omega
  have qq:=dZ (s:=s) (by with_reducible assumption) kk;obtain⟨q1,q2,q3⟩:=qq;have z1:=qBN q1;have z2:=rL s.1[k.toNat]!.2.2.1;have u1:(⟨#[32]⟩:ByteArray).size=1:=rfl;have u2:(⟨#[10]⟩:ByteArray).size=1:=rfl;have u3:(⟨#[32,110,117,108,108]⟩:ByteArray).size=5:=rfl;have u5:tX.length=5:=rfl;have v0:(⟨#[32,105,110,116]⟩:ByteArray).size=4:=rfl;have v1:(⟨#[32,98,111,111,108]⟩:ByteArray).size=5:=rfl;have v2:(⟨#[32,98,121,116,101,115]⟩:ByteArray).size=6:=rfl;have v3:(⟨#[32,100,97,116,101]⟩:ByteArray).size=5:=rfl;have v4:(⟨#[32,100,101,99,105,109,97,108,32]⟩:ByteArray).size=9:=rfl;have q0:=aR (s:=s) (by with_reducible assumption);have w1:=q1.1;have w2:=q1.2;(try simp only[List.length_append,aY,ByteArray.size_append]);omega)
 |(
  have q0:=aR (s:=s) (by with_reducible assumption);have kk:0<=s.2/\s.2<s.1.length:=by omega
  have qq:=dZ (s:=s) (by with_reducible assumption) kk;obtain⟨q1,q2,q3⟩:=qq;have u1:(⟨#[107,101,121,32]⟩:ByteArray).size=4:=rfl;have u2:(⟨#[10]⟩:ByteArray).size=1:=rfl;(try simp only[List.length_append,aY,ByteArray.size_append]);omega))
  |(conv=>whnf
    first
     |with_reducible first|done|exact trivial|refine NilBr.mk (fun h=>?_) ?_|apply aJ|apply aI|refine aK (by kernel_rfl) ?_|apply aL|apply bA|apply aZ|apply aO
     |((with_reducible first|apply aQ|apply aP|apply aX)<;>intro h<;>(try dsimp only[cu,eE,eN]at h)<;>(try(exfalso;omega)))
     |(
 intro yy (hy:Tag 63/\_)
 obtain⟨(k:Int),(b0:Bool),(B:List Int),_⟩:=yy
 replace hy:=hy.2
 dsimp only[cu,aB,aA,gts,eE,eN]at hy
 obtain⟨hk,hB,hz⟩:=hy
 rcases b0 with _|_)))
 all_goals(
 with_reducible apply Leaf.mk
 (try dsimp only[cu,aB,aA,gts,eE,eN]at *)
 first
 |rw[jM,if_pos (by with_reducible assumption)]
 |(
  have hk2:k=s.1.length:=by omega
  have hd:s.1.drop k.toNat= []:=List.drop_eq_nil_of_le (by omega);rw[hd]at hB;have hB2:lM []=(⟨#[]⟩:ByteArray):=rfl;rw[hB2,rH]at hB;rw[jM,if_neg (fun q=>q (by with_reducible assumption)),OZ,qKW,hB];simp only[bQ,bC,ByteArray.append_assoc,eW];done)
 |(rw[jM,if_neg (fun q=>q (by with_reducible assumption))]))
abbrev qM2:Tbl:=(106,GY)::qM1
theorem RM:aC Tryz.prog qM2:=aC.cons qKJ RL
abbrev CE:Ct:=.fn [bK] (none) (fun(s:Schema)=>.tup [.str,.int .i64] ((jM s).1,(jM s).2,()))
theorem qH0:aG Tryz.prog 80 CE:=by
 refine aG.fn RM mixed [] [] rfl rfl ?_;rintro⟨(s:Schema),_⟩ -;refine⟨[(0,12,LA.mk [.sl 16 (.int .i64),.sl 5 .str] (fun y=>Tag 64/\cu [.int .i64,.str] (fun(k:Int) (b:ByteArray)=>(0<=k/\k<=s.1.length)/\(lM s.1=b++lM (s.1.drop k.toNat))/\((b.size:Int)<=33*k)) y) (cu [.int .i64,.str] (fun(k:Int) (b:ByteArray)=>((s.1.length:Int)-k).toNat)) (cu [.int .i64,.str] (fun(k:Int) (b:ByteArray)=>([]:List (Nat×Nat×LA)))))],?_⟩;repeat' (first
  |(
 with_reducible refine Side.mk ⟨(⟨⟩:Tag 64),?_⟩
 dsimp only[cu,aB,aA,gts,eE,eN]
 refine⟨?_,?_,?_⟩
 ·omega
 ·first
  |(
  show lM s.1=ByteArray.empty++lM s.1
  rw[ByteArray.empty_append])
  |(
  have t0:s.1[k.toNat]!.2.1=1:=by with_reducible assumption
  have t1:scT s.1[k.toNat]! =⟨#[]⟩:=if_neg (by rw[t0];decide)
  have t3:tw s.1[k.toNat]!.2.1=(⟨#[32,105,110,116]⟩:ByteArray):=by rw[t0];decide
  first
  |(
   have t2:nuT s.1[k.toNat]! =nuB:=if_pos (by with_reducible assumption);rw[hB,cU (by omega),qB,t1,t2,t3];simp only[ByteArray.append_assoc,eW];done)
  |(
   have t2:nuT s.1[k.toNat]! =⟨#[]⟩:=if_neg (by rw[show s.1[k.toNat]!.2.2.2=false by with_reducible assumption];exact Bool.noConfusion);rw[hB,cU (by omega),qB,t1,t2,t3];simp only[ByteArray.append_assoc,eW];done))
  |(
  have t0:s.1[k.toNat]!.2.1=2:=by with_reducible assumption
  have t1:scT s.1[k.toNat]! =⟨#[]⟩:=if_neg (by rw[t0];decide)
  have t3:tw s.1[k.toNat]!.2.1=(⟨#[32,98,111,111,108]⟩:ByteArray):=by rw[t0];decide
  first
  |(
   have t2:nuT s.1[k.toNat]! =nuB:=if_pos (by with_reducible assumption);rw[hB,cU (by omega),qB,t1,t2,t3];simp only[ByteArray.append_assoc,eW];done)
  |(
   have t2:nuT s.1[k.toNat]! =⟨#[]⟩:=if_neg (by rw[show s.1[k.toNat]!.2.2.2=false by with_reducible assumption];exact Bool.noConfusion);rw[hB,cU (by omega),qB,t1,t2,t3];simp only[ByteArray.append_assoc,eW];done))
  |(
  have t0:s.1[k.toNat]!.2.1=3:=by with_reducible assumption
  have t1:scT s.1[k.toNat]! =⟨#[]⟩:=if_neg (by rw[t0];decide)
  have t3:tw s.1[k.toNat]!.2.1=(⟨#[32,98,121,116,101,115]⟩:ByteArray):=by rw[t0];decide
  first
  |(
   have t2:nuT s.1[k.toNat]! =nuB:=if_pos (by with_reducible assumption);rw[hB,cU (by omega),qB,t1,t2,t3];simp only[ByteArray.append_assoc,eW];done)
  |(
   have t2:nuT s.1[k.toNat]! =⟨#[]⟩:=if_neg (by rw[show s.1[k.toNat]!.2.2.2=false by with_reducible assumption];exact Bool.noConfusion);rw[hB,cU (by omega),qB,t1,t2,t3];simp only[ByteArray.append_assoc,eW];done))
  |(
  have t0:s.1[k.toNat]!.2.1=4:=by with_reducible assumption
  have t1:scT s.1[k.toNat]! =⟨#[]⟩:=if_neg (by rw[t0];decide)
  have t3:tw s.1[k.toNat]!.2.1=(⟨#[32,100,97,116,101]⟩:ByteArray):=by rw[t0];decide
  first
  |(
   have t2:nuT s.1[k.toNat]! =nuB:=if_pos (by with_reducible assumption);rw[hB,cU (by omega),qB,t1,t2,t3];simp only[ByteArray.append_assoc,eW];done)
  |(
   have t2:nuT s.1[k.toNat]! =⟨#[]⟩:=if_neg (by rw[show s.1[k.toNat]!.2.2.2=false by with_reducible assumption];exact Bool.noConfusion);rw[hB,cU (by omega),qB,t1,t2,t3];simp only[ByteArray.append_assoc,eW];done))
  |(
  have kk:0<=k/\k<s.1.length:=by omega
  have qq:=dZ (s:=s) (by with_reducible assumption) kk
  obtain⟨q1,q2,q3⟩:=qq
  have t0:s.1[k.toNat]!.2.1=5:=by omega
  have t1:scT s.1[k.toNat]! =⟨#[32]⟩++OR s.1[k.toNat]!.2.2.1:=if_pos t0
  have t3:tw s.1[k.toNat]!.2.1=(⟨#[32,100,101,99,105,109,97,108]⟩:ByteArray):=by rw[t0];decide
  have t4:(⟨#[32,100,101,99,105,109,97,108,32]⟩:ByteArray)=(⟨#[32,100,101,99,105,109,97,108]⟩:ByteArray)++⟨#[32]⟩:=by decide
  first
  |(
   have t2:nuT s.1[k.toNat]! =nuB:=if_pos (by with_reducible assumption);rw[hB,cU (by omega),qB,t1,t2,t3,t4];simp only[ByteArray.append_assoc,eW];done)
  |(
   have t2:nuT s.1[k.toNat]! =⟨#[]⟩:=if_neg (by rw[show s.1[k.toNat]!.2.2.2=false by with_reducible assumption];exact Bool.noConfusion);rw[hB,cU (by omega),qB,t1,t2,t3,t4];simp only[ByteArray.append_assoc,eW];done))
 ·first
  |exact Int.le_refl _
  |(
  have kk:0<=k/\k<s.1.length:=by omega
  have qq:=dZ (s:=s) (by with_reducible assumption) kk
  obtain⟨q1,q2,q3⟩:=qq
  have z1:=qBN q1
  have z2:=rL s.1[k.toNat]!.2.2.1
  have u1:(⟨#[32]⟩:ByteArray).size=1:=rfl
  have u2:(⟨#[10]⟩:ByteArray).size=1:=rfl
  have u3:(⟨#[32,110,117,108,108]⟩:ByteArray).size=5:=rfl
  have u5:tX.length=5:=rfl
  have v0:(⟨#[32,105,110,116]⟩:ByteArray).size=4:=rfl
  have v1:(⟨#[32,98,111,111,108]⟩:ByteArray).size=5:=rfl
  have v2:(⟨#[32,98,121,116,101,115]⟩:ByteArray).size=6:=rfl
  have v3:(⟨#[32,100,97,116,101]⟩:ByteArray).size=5:=rfl
  have v4:(⟨#[32,100,101,99,105,109,97,108,32]⟩:ByteArray).size=9:=rfl
  have q0:=aR (s:=s) (by with_reducible assumption)
  simp only[ByteArray.size_append]
  omega))
  |(
 with_reducible apply Side.mk
 (try dsimp only[cu,aB,aA,gts,loK,hiK,eE,eN])
 first
 |omega
 |(
  show _/\_;have kk:0<=k/\k<s.1.length:=by omega
  have qq:=dZ (s:=s) (by with_reducible assumption) kk;obtain⟨q1,q2,q3⟩:=qq;omega)
 |(
  have kk:0<=k/\k<s.1.length:=by omega
  have qq:=dZ (s:=s) (by with_reducible assumption) kk;obtain⟨q1,q2,q3⟩:=qq;have z1:=qBN q1;have z2:=rL s.1[k.toNat]!.2.2.1;have u1:(⟨#[32]⟩:ByteArray).size=1:=rfl;have u2:(⟨#[10]⟩:ByteArray).size=1:=rfl;have u3:(⟨#[32,110,117,108,108]⟩:ByteArray).size=5:=rfl;have u5:tX.length=5:=rfl;have v0:(⟨#[32,105,110,116]⟩:ByteArray).size=4:=rfl;have v1:(⟨#[32,98,111,111,108]⟩:ByteArray).size=5:=rfl;have v2:(⟨#[32,98,121,116,101,115]⟩:ByteArray).size=6:=rfl;have v3:(⟨#[32,100,97,116,101]⟩:ByteArray).size=5:=rfl;have v4:(⟨#[32,100,101,99,105,109,97,108,32]⟩:ByteArray).size=9:=rfl;have q0:=aR (s:=s) (by with_reducible assumption);have w1:=q1.1;have w2:=q1.2;(try simp only[List.length_append,aY,ByteArray.size_append]);omega)
 |(
  have q0:=aR (s:=s) (by with_reducible assumption);have kk:0<=s.2/\s.2<s.1.length:=by omega
  have qq:=dZ (s:=s) (by with_reducible assumption) kk;obtain⟨q1,q2,q3⟩:=qq;have u1:(⟨#[107,101,121,32]⟩:ByteArray).size=4:=rfl;have u2:(⟨#[10]⟩:ByteArray).size=1:=rfl;(try simp only[List.length_append,aY,ByteArray.size_append]);omega))
  |(conv=>whnf
    first
     |with_reducible first|done|exact trivial|refine NilBr.mk (fun h=>?_) ?_|apply aJ|apply aI|refine aK (by kernel_rfl) ?_|apply aL|apply bA|apply aZ|apply aO
     |((with_reducible first|apply aQ|apply aP|apply aX)<;>intro h<;>(try dsimp only[cu,eE,eN]at h)<;>(try(exfalso;omega)))
     |(
 intro yy (hy:Tag 64/\_)
 obtain⟨(k:Int),(b:ByteArray),_⟩:=yy
 replace hy:=hy.2
 dsimp only[cu,aB,aA,gts,eE,eN]at hy
 obtain⟨hk,hB,hz⟩:=hy)))
 all_goals(
 with_reducible apply Leaf.mk
 (try dsimp only[cu,aB,aA,gts,eE,eN]at *)
 first
 |rw[jM,if_pos (by with_reducible assumption)]
 |(
  have hk2:k=s.1.length:=by omega
  have hd:s.1.drop k.toNat= []:=List.drop_eq_nil_of_le (by omega);rw[hd]at hB;have hB2:lM []=(⟨#[]⟩:ByteArray):=rfl;rw[hB2,rH]at hB;rw[jM,if_neg (fun q=>q (by with_reducible assumption)),OZ,qKW,hB];simp only[bQ,bC,ByteArray.append_assoc,eW];done)
 |(rw[jM,if_neg (fun q=>q (by with_reducible assumption))]))
abbrev qM3:Tbl:=(80,CE)::qM2
theorem RN:aC Tryz.prog qM3:=aC.cons qH0 RM
abbrev WG:Ct:=.fn [bK] (none) (fun(s:Schema)=>.tup [.int .u32,.int .i64] ((idS s).1,(idS s).2,()))
theorem qPP:aG Tryz.prog 61 WG:=by
 refine aG.fn RN mixed [] [] rfl rfl ?_;rintro⟨(s:Schema),_⟩ -;refine⟨[],?_⟩;repeat' (first
  |(
 with_reducible apply Side.mk
 (try dsimp only[cu,aB,aA,gts,loK,hiK,eE,eN])
 (
  have hfs:=WT (s:=s);omega))
  |(conv=>whnf
    first
     |with_reducible first|done|exact trivial|refine NilBr.mk (fun h=>?_) ?_|apply aJ|apply aI|refine aK (by kernel_rfl) ?_|apply aL|apply bA|apply aZ|apply aO
     |((with_reducible first|apply aQ|apply aP|apply aX)<;>intro h<;>(try dsimp only[cu,eE,eN]at h)<;>(try(exfalso;omega)))))
 all_goals(
 with_reducible apply Leaf.mk
 (try dsimp only[cu,aB,aA,gts,eE,eN]at *)
 first
 |(
  rw[qPN (by with_reducible assumption)];first|done|rfl)
 |(rw[qPO (by with_reducible assumption)]))
abbrev qM4:Tbl:=(61,WG)::qM3
theorem RO:aC Tryz.prog qM4:=aC.cons qPP RN
abbrev OA:Ct:=.fn [bK] (none) (fun(s:Schema)=>.tup [.int .u32,.int .i64] ((idS s).1,(idS s).2,()))
theorem qOQ:aG Tryz.prog 37 OA:=by
 refine aG.fn RO mixed [] [] rfl rfl ?_;rintro⟨(s:Schema),_⟩ -;refine⟨[],?_⟩;repeat' (first
  |(
 with_reducible apply Side.mk
 (try dsimp only[cu,aB,aA,gts,loK,hiK,eE,eN])
 (
  have hfs:=WT (s:=s);omega))
  |(conv=>whnf
    first
     |with_reducible first|done|exact trivial|refine NilBr.mk (fun h=>?_) ?_|apply aJ|apply aI|refine aK (by kernel_rfl) ?_|apply aL|apply bA|apply aZ|apply aO
     |((with_reducible first|apply aQ|apply aP|apply aX)<;>intro h<;>(try dsimp only[cu,eE,eN]at h)<;>(try(exfalso;omega)))))
 all_goals(
 with_reducible apply Leaf.mk
 (try dsimp only[cu,aB,aA,gts,eE,eN]at *)
 first
 |(
  rw[qPN (by with_reducible assumption)];first|done|rfl)
 |(rw[qPO (by with_reducible assumption)]))
abbrev qM5:Tbl:=(37,OA)::qM4
theorem RP:aC Tryz.prog qM5:=aC.cons qOQ RO
abbrev qSY:Ty:=.pair qIQ (.pair (.list (.int .i64)) (.int .i64))
abbrev Ftr:Type:=Info×(List Int)×Int
@[reducible] instance:Inhabited Ftr:=instInhabitedDen qSY
abbrev qJL:ByteArray:=⟨#[77,80,84,49]⟩
abbrev qPY (s:Schema):Col:=s.1[s.2.toNat]!
abbrev fzK (file:ByteArray):Int:=qSR (file.extract ((file.size:Int)-8).toNat file.size) 0
theorem qGE {s:Schema} (h:aW s=0):(idS s).1=qFL (OZ s):=by rw[idS,if_neg (fun q=>q h)]
theorem qKQ (s:Schema):(idS s).2=aW s:=by
 unfold idS;split
 ·rfl
 ·rename_i h;exact(Decidable.not_not.1 h).symm
theorem BK {t k:Int} {l:List Val} (hv:∀v,v∈l->okV v) (hl:l.length<=4096):(cS t k l).size<=4398046585379/\5<=(cS t k l).size:=by
 have:=OI (t:=t) (k:=k) hv hl;rw[cS,oR];omega
theorem tR {x:Int} (h:x=0):¬x≠0:=fun q=>q h
theorem CW {c:Col} {v:Val} (h:bX c v=0) (hn:v.1=true):v=NV:=by
 obtain⟨x,y,z⟩:=v;have e1:x=true:=hn;subst e1;unfold bX at h;split at h
 ·cases h
 ·split at h
  ·cases h
  ·rename_i h2
   split at h
   ·cases h
   ·rename_i h3
    have e2:z=EMP:=Decidable.not_not.1 fun q=>h2 ⟨.inl rfl,q⟩
    have e3:y=0:=Decidable.not_not.1 fun q=>h3 ⟨.inl rfl,q⟩
    subst e2 e3;rfl
def dI (c:Col):List Val->Int
 | []=>0
 |v::r=>if bX c v≠0 then bX c v else dI c r
def bst (t:Int) (l:List Val):Nat->Int->ByteArray->ByteArray
 |0,_,b=>b
 |n+1,k,b=>bst t l n (k+1) (if fZ t k=true then(if b=⟨#[]⟩\/(cS t k l).size<b.size then cS t k l else b)else b)
def fC (c:Col) (l:List Val):ByteArray×Int:=
 if cL c.2.1=false then(⟨#[]⟩,1)else if l.length>4096 then(⟨#[]⟩,7)else if dI c l≠0 then(⟨#[]⟩,dI c l)else(bst c.2.1 l 4 1 ⟨#[]⟩,0)
theorem nN {c:Col} {l:List Val} {k:Int} (h:0<=k/\k<l.length):dI c (l.drop k.toNat)=if bX c l[k.toNat]! ≠0 then bX c l[k.toNat]! else dI c (l.drop (k+1).toNat):=by
 rw[bH l k h];rfl
theorem gA {c:Col}:∀ {l:List Val},dI c l=0->∀v,v∈l->bX c v=0
 | [],_,v,hv=>by cases hv
 |x::r,h,v,hv=>by
  rw[dI]at h;split at h
  ·rename_i q;exact absurd h q
  ·rename_i q
   rcases List.mem_cons.1 hv with p|p
   ·rw[p];exact Decidable.not_not.1 q
   ·exact gA h v p
theorem dR {c:Col} {v:Val} (h:bX c v=0) (hi:inI v.2.1):okV v:=by
 refine⟨?_,hi⟩;by_cases hn:v.1=true
 ·rw[CW h hn];exact Nat.zero_le _
 ·have hn:v.1=false:=by simpa using hn
  unfold bX at h;split at h
  ·cases h
  ·split at h
   ·cases h
   ·rename_i h2
    split at h
    ·cases h
    ·split at h
     ·cases h
     ·split at h
      ·cases h
      ·rename_i h5
       by_cases ht:c.2.1=3
       ·have hp:fR c.2.1 v=true:=by
          refine Decidable.not_not.1 fun q=>h5 ⟨hn,by simpa using q⟩
        unfold fR at hp;rw[if_neg (by omega),if_neg (by omega),if_neg (by omega),if_pos ht]at hp;have:=of_decide_eq_true hp;omega
       ·have e:v.2.2=EMP:=Decidable.not_not.1 fun q=>h2 ⟨.inr ht,q⟩
        rw[e];exact Nat.zero_le _
theorem uG {t:Int} {l:List Val} {k:Int} {b:ByteArray} (h:1<=k/\k<5):bst t l (5-k).toNat k b=bst t l (5-(k+1)).toNat (k+1) (if fZ t k=true then(if b=⟨#[]⟩\/(cS t k l).size<b.size then cS t k l else b)else b):=by
 rw[show(5-k).toNat=(5-(k+1)).toNat+1 by omega];rfl
theorem qE8 {t:Int} {l:List Val}:∀(n:Nat) (k:Int) (b:ByteArray),(b=⟨#[]⟩\/∃j,fZ t j=true/\b=cS t j l)->(bst t l n k b=⟨#[]⟩\/∃j,fZ t j=true/\bst t l n k b=cS t j l)
 |0,k,b,h=>h
 |n+1,k,b,h=>by
  refine qE8 n (k+1) _ ?_;split
  ·rename_i hu
   split
   ·exact .inr ⟨k,hu,rfl⟩
   ·exact h
  ·exact h
abbrev GW:Ct:=.fn [tW,.list bP] (some (fun(c:Col) (l:List Val)=>(l.length<=9223372036854775807)/\(∀v,v∈l->inI v.2.1))) (fun(c:Col) (l:List Val)=>.tup [.str,.int .i64] ((fC c l).1,(fC c l).2,()))
theorem qKD:aG Tryz.prog 39 GW:=by
 refine aG.fn RP mixed [] [] rfl rfl ?_;rintro⟨(c:Col),(l:List Val),_⟩ hpre;replace hpre:=hpre _ rfl;dsimp only[cu]at hpre;obtain⟨hl,hin⟩:=hpre;refine⟨[(0,12,LA.mk [.sl 21 (.int .i64)] (fun y=>Tag 65/\cu [.int .i64] (fun(i:Int)=>(0<=i/\i<=l.length)/\(dI c l=dI c (l.drop i.toNat))) y) (cu [.int .i64] (fun(i:Int)=>((l.length:Int)-i).toNat)) (cu [.int .i64] (fun(i:Int)=>([]:List (Nat×Nat×LA))))),(0,28,LA.mk [.sl 10 (.int .i64),.sl 9 .str] (fun y=>Tag 66/\cu [.int .i64,.str] (fun(k:Int) (b:ByteArray)=>(1<=k/\k<=5)/\(bst c.2.1 l 4 1 ⟨#[]⟩=bst c.2.1 l (5-k).toNat k b)/\(b.size<=4398046585379)) y) (cu [.int .i64,.str] (fun(k:Int) (b:ByteArray)=>(5-k).toNat)) (cu [.int .i64,.str] (fun(k:Int) (b:ByteArray)=>([]:List (Nat×Nat×LA)))))],?_⟩;repeat' (first
  |(
 with_reducible refine Side.mk ⟨(⟨⟩:Tag 65),?_⟩
 dsimp only[cu,aB,aA,gts,eE,eN]
 refine⟨?_,?_⟩
 ·omega
 ·first
  |rfl
  |(
  have hv:¬bX c l[i.toNat]! ≠0:=tR (by with_reducible assumption)
  rw[hc,nN (by omega),if_neg hv]))
  |(
 with_reducible refine Side.mk ⟨(⟨⟩:Tag 66),?_⟩
 dsimp only[cu,aB,aA,gts,eE,eN]
 refine⟨?_,?_,?_⟩
 ·omega
 ·first
  |rfl
  |(
  have hu:¬fZ c.2.1 k=true:=by rw[show fZ c.2.1 k=false by first|with_reducible assumption|exact qP2 (by with_reducible assumption)];exact Bool.noConfusion
  rw[hb,uG (by omega),if_neg hu])
  |(
  have hu:fZ c.2.1 k=true:=by first|with_reducible assumption|exact qLB (by with_reducible assumption)
  first
  |(
   have he:b=⟨#[]⟩:=by with_reducible assumption
   rw[hb,uG (by omega),if_pos hu,if_pos (.inl he)])
  |(
   have he:(cS c.2.1 k l).size<b.size:=by omega
   rw[hb,uG (by omega),if_pos hu,if_pos (.inr he)])
  |(
   have he:¬(b=⟨#[]⟩\/(cS c.2.1 k l).size<b.size):=fun q=>by
    rcases q with q|q
    ·contradiction
    ·omega
   rw[hb,uG (by omega),if_pos hu,if_neg he]))
 ·first
  |exact Nat.zero_le _
  |(
  have hch:dI c l=0:=by rw[hc,List.drop_eq_nil_of_le (by omega)];rfl
  have hok:∀v,v∈l->okV v:=fun v hv=>dR (gA hch v hv) (hin v hv)
  have hbs:=BK (t:=c.2.1) (k:=k) hok (by omega)
  omega))
  |(
 with_reducible apply Side.mk
 (try dsimp only[cu,aB,aA,gts,loK,hiK,eE,eN])
 first
 |omega
 |(
  have hch:dI c l=0:=by rw[hc,List.drop_eq_nil_of_le (by omega)];rfl
  have hok:∀v,v∈l->okV v:=fun v hv=>dR (gA hch v hv) (hin v hv)
  exact⟨by omega,hok⟩))
  |(conv=>whnf
    first
     |with_reducible first|done|exact trivial|refine NilBr.mk (fun h=>?_) ?_|apply aJ|apply aI|refine aK (by kernel_rfl) ?_|apply aL|apply bA|apply aZ|apply aO
     |((with_reducible first|apply aQ|apply aP|apply aX)<;>intro h<;>(try dsimp only[cu,eE,eN]at h)<;>(try(exfalso;omega)))
     |(
 intro yy (hy:Tag 65/\_)
 obtain⟨(i:Int),_⟩:=yy
 replace hy:=hy.2
 dsimp only[cu,aB,aA,gts,eE,eN]at hy
 obtain⟨hi,hc⟩:=hy)
     |(
 intro yy (hy:Tag 66/\_)
 obtain⟨(k:Int),(b:ByteArray),_⟩:=yy
 replace hy:=hy.2
 dsimp only[cu,aB,aA,gts,eE,eN]at hy
 obtain⟨hk,hb,hz⟩:=hy)))
 all_goals(
 with_reducible apply Leaf.mk
 (try dsimp only[cu,aB,aA,gts,eE,eN]at *)
 first
 |(
  have hkn:cL c.2.1=false:=by first|with_reducible assumption|exact qP2 (by with_reducible assumption)
  rw[fC,if_pos hkn])
 |(
  have hkn:¬cL c.2.1=false:=by rw[show cL c.2.1=true by first|with_reducible assumption|exact qLB (by with_reducible assumption)];exact Bool.noConfusion
  first
  |(
   have h4:l.length>4096:=by omega
   rw[fC,if_neg hkn,if_pos h4])
  |(
   have h4:¬l.length>4096:=by omega
   have hv:bX c l[i.toNat]! ≠0:=by with_reducible assumption
   have hce:dI c l=bX c l[i.toNat]!:=by rw[hc,nN (by omega),if_pos hv]
   rw[fC,if_neg hkn,if_neg h4,hce,if_pos hv])
  |(
   have hch:dI c l=0:=by rw[hc,List.drop_eq_nil_of_le (by omega)];rfl
   have hok:∀v,v∈l->okV v:=fun v hv=>dR (gA hch v hv) (hin v hv)
   have h4:¬l.length>4096:=by omega
   rw[fC,if_neg hkn,if_neg h4,if_neg (tR hch),hb,show(5-k).toNat=0 by omega];first|done|rfl)))
abbrev qM6:Tbl:=(39,GW)::qM5
theorem RQ:aC Tryz.prog qM6:=aC.cons qKD RP
def lT:List ByteArray->ByteArray
 | []=>⟨#[]⟩
 |b::l=>b++lT l
def uY (s:Schema) (l:List Rec) (i:Nat):List Val:=if i=s.1.length then eG l else fA l i
def chnk (s:Schema) (l:List Rec) (i:Nat):ByteArray:=(fC (sQ s i) (uY s l i)).1
def chnks (s:Schema) (l:List Rec):List ByteArray:=(List.range (s.1.length+1)).map (chnk s l)
def szB (b:ByteArray):ByteArray:=aN (put (b.size:Int))
def pW (s:Schema) (l:List Rec):ByteArray:=aN (four (qFL (OZ s)))++aN (put (l.length:Int))++lT ((chnks s l).map szB)++lT ((iM s l (List.range s.1.length)).map xN)++cV (gH s l[0]!)++cV (gH s l[l.length-1]!)
def ST (C F:ByteArray):ByteArray:=qJL++C++F++aN (four (F.size:Int))++qJL
def qF8 (s:Schema) (l:List Rec):ByteArray:=ST (lT (chnks s l)) (oQ (pW s l))
def oH (s:Schema) (l:List Rec):ByteArray×Int:=if aW s≠0 then(⟨#[]⟩,aW s)else if l.length>1024 then(⟨#[]⟩,7)else if l.length=0\/fO s l=false then(⟨#[]⟩,1)else(qF8 s l,0)
theorem kM (a b:List ByteArray):lT (a++b)=lT a++lT b:=by
 induction a with
 |nil=>exact ByteArray.empty_append.symm
 |cons x a ih=>rw[List.cons_append,lT,lT,ih,ByteArray.append_assoc]
def IN (v:Val):Prop:=(v.1=true->v=gF)/\inI v.2.1/\v.2.2.size<=1048576
def vE (z:Zone):Prop:=(0<=z.1/\z.1<=4096)/\(0<=z.2.1/\z.2.1<=4096)/\IN z.2.2.1/\IN z.2.2.2
def zE (s:Schema) (r:Rank):Prop:=IN r.1/\bX (qPY s) r.1=0/\0<=r.2/\r.2<=1099511627776
structure Made (s:Schema) (l:List Rec):Prop where
 sch:aW s=0
 len:1<=l.length/\l.length<=1024
 chunk:∀c,c∈chnks s l->c.size<=4398046585379
 zone:∀i:Nat,i<s.1.length->vE (rE s.1[i]!.2.1 (fA l i))/\qO8 s.1[i]! (rE s.1[i]!.2.1 (fA l i))=true
 lo:zE s (gH s l[0]!)
 hi:zE s (gH s l[l.length-1]!)
 le:¬rV (qPY s).2.1 (gH s l[0]!) (gH s l[l.length-1]!)>0
theorem qLI (v:Val):1<=(xM v).size:=by
 unfold xM;split
 ·exact Nat.le_refl 1
 ·simp only[ByteArray.size_append]
  have s1:(⟨#[1]⟩:ByteArray).size=1:=rfl;omega
theorem kG {s:Schema} {r:Rank} (h:zE s r):2<=(cV r).size/\(cV r).size<=1048700:=by
 have h1:=mD (v:=r.1);have h2:=qLI r.1;have h3:=aV r.2;have h4:=h.1.2.2;unfold cV;rw[ByteArray.size_append,bD];omega
theorem pT {z:Zone} (h:vE z):(xN z).size<=2200000:=by
 obtain⟨_,_,h3,h4⟩:=h;have a1:=mD (v:=z.2.2.1);have a2:=mD (v:=z.2.2.2);have a3:=aV (cQ 0 z.1);have a4:=aV (cQ 0 z.2.1);have a5:=h3.2.2;have a6:=h4.2.2;unfold xN;simp only[ByteArray.size_append,bD];omega
theorem YH {s:Schema} {l:List Rec} (hv:cN s l=true) {j:Nat} (hj:j<l.length):(l[j]!).2.length=s.1.length:=by
 have h:=(bV hv).2 j hj;unfold lG at h;split at h
 ·cases h
 ·rename_i q;exact Decidable.not_not.1 q
def wN (l:List Rec):Prop:=∀r,r∈l->∀v,v∈r.2->inI v.2.1
theorem LG {c:Col} {l:List Val} (hl:l.length<=4096) (hv:∀v,v∈l->okV v):(fC c l).1.size<=4398046585379:=by
 unfold fC;split
 ·exact Nat.zero_le _
 split
 ·exact Nat.zero_le _
 split
 ·exact Nat.zero_le _
 rcases qE8 (t:=c.2.1) (l:=l) 4 1 ⟨#[]⟩ (.inl rfl)with q|⟨j,hj,q⟩
 ·rw[q];exact Nat.zero_le _
 ·rw[q];exact(BK hv hl).1
theorem MX {s:Schema} {l:List Rec} (hv:cN s l=true) (hi:wN l) {i:Nat} (h:i<s.1.length):∀v,v∈fA l i->bX s.1[i]! v=0/\inI v.2.1:=by
 intro v hm;obtain⟨r,hr,rfl⟩:=List.mem_map.1 hm;obtain⟨j,hj,rfl⟩:=List.mem_iff_getElem.1 hr;have h0:=(bV hv).2 j hj;have hn:=YH hv hj;rw[getElem!_pos l j hj]at h0 hn;unfold atV;rw[if_pos (by omega)];refine⟨?_,?_⟩
 ·unfold lG at h0
  rw[if_neg (fun q=>q hn)]at h0;have:=oJ h0 (i:Int) ⟨by omega,by omega⟩;exact this
 ·rw[getElem!_pos _ i (by omega)]
  exact hi _ (List.getElem_mem hj) _ (List.getElem_mem _)
theorem qIF {s:Schema} {l:List Rec} (hv:cN s l=true):∀v,v∈eG l->bX ER v=0/\inI v.2.1:=by
 intro v hm;obtain⟨r,hr,rfl⟩:=List.mem_map.1 hm;simp only[cN,Bool.and_eq_true,decide_eq_true_eq,List.all_eq_true]at hv;have q:=hv.2 r hr;simp only[lO,Bool.and_eq_true,decide_eq_true_eq]at q;refine⟨rfl,?_⟩;show inI r.1;unfold inI;omega
theorem qLY {s:Schema} {l:List Rec} (hv:cN s l=true) {j:Nat} (hj:j<l.length):0<=(l[j]!).1/\(l[j]!).1<=1099511627776:=by
 simp only[cN,Bool.and_eq_true,decide_eq_true_eq,List.all_eq_true]at hv;have q:=hv.2 l[j]! (by rw[getElem!_pos l j hj];exact List.getElem_mem hj);simp only[lO,Bool.and_eq_true,decide_eq_true_eq]at q;omega
theorem LM {c:Col} {v:Val} (h:bX c v=0/\inI v.2.1):IN v:=by
 have ho:=dR h.1 h.2;exact⟨fun q=>CW h.1 q,h.2,ho.1⟩
theorem qMZ {P:Val->Prop} (h0:P gF) {t g:Int} {a b:Val} (ha:P a) (hb:P b):P (pN t g a b):=by
 unfold pN;split
 ·exact h0
 split
 ·exact hb
 split
 ·exact ha
 split
 ·exact hb
 ·exact ha
theorem qJK {P:Val->Prop} (h0:P gF) {t:Int}:∀(l:List Val) (z:Int×Val×Val),P z.2.1->P z.2.2->(∀v,v∈l->P v)->P (zGo t l z).2.1/\P (zGo t l z).2.2/\z.1<=(zGo t l z).1/\(zGo t l z).1<=z.1+l.length
 | [],z,h1,h2,_=>⟨h1,h2,Int.le_refl _,by simp [zGo]⟩
 |v::l,z,h1,h2,h=>by
  have hv:=h v (List.mem_cons_self ..);have hl:∀x,x∈l->P x:=fun x hx=>h x (List.mem_cons_of_mem _ hx)
  have e:zGo t (v::l) z=zGo t l (zU t z v):=rfl;rw[e,List.length_cons];unfold zU;split
  ·obtain⟨q1,q2,q3,q4⟩:=qJK h0 (t:=t) l (z.1+1,z.2.1,z.2.2) h1 h2 hl
   exact⟨q1,q2,by simp only at q3;omega,by simp only at q4;omega⟩
  ·obtain⟨q1,q2,q3,q4⟩:=qJK h0 (t:=t) l (z.1,pN t (-1) z.2.1 v,pN t 1 z.2.2 v) (qMZ h0 h1 hv) (qMZ h0 h2 hv) hl
   exact⟨q1,q2,by simp only at q3;omega,by simp only at q4;omega⟩
theorem xG:IN gF:=⟨fun _=>rfl,NB,Nat.zero_le _⟩
theorem KG {t:Int} {l:List Val} (hl:l.length<=4096) (h:∀v,v∈l->IN v):vE (rE t l):=by
 obtain⟨q1,q2,q3,q4⟩:=qJK xG (t:=t) l (0,gF,gF) xG xG h;refine⟨⟨?_,?_⟩,⟨q3,?_⟩,q1,q2⟩
 ·show(0:Int)<=(l.length:Int);omega
 ·show(l.length:Int)<=4096;omega
 ·show(zGo t l (0,gF,gF)).1<=4096
  simp only at q4;omega
theorem WJ {s:Schema} {l:List Rec} {i:Nat} (h:i<s.1.length):chnk s l i=(fC s.1[i]! (fA l i)).1:=by
 unfold chnk sQ uY;rw[if_neg (by omega),if_neg (by omega),Int.toNat_natCast]
theorem qFB {s:Schema} {l:List Rec}:chnk s l s.1.length=(fC ER (eG l)).1:=by
 unfold chnk sQ uY;rw[if_pos rfl,if_pos rfl]
theorem nP {s:Schema} {l:List Rec} (hv:cN s l=true) (hi:wN l) (hl:l.length<=1024) {k:Int} (h:0<=k/\k<s.1.length) :
  @getElem! (List (List Val)) Nat (List Val) (fun xs i=>i<xs.length) _ (instInhabitedDen (.list bP)) (iW l s.1.length) k.toNat=fA l k.toNat/\(fA l k.toNat).length<=1024/\(∀v,v∈fA l k.toNat->inI v.2.1)/\(fC s.1[k.toNat]! (fA l k.toNat)).1.size<=4398046585379/\vE (rE s.1[k.toNat]!.2.1 (fA l k.toNat)):=by
 have hk:k.toNat<s.1.length:=by omega
 have hs:=aR (bV hv).1;have ho:=MX hv hi hk;have hlen:=uZ l k.toNat;refine⟨(kP (l:=l) (n:=(s.1.length:Int)) ⟨by omega,by omega⟩).2 _ (by omega),by omega,fun v q=>(ho v q).2,LG (by omega) fun v q=>dR (ho v q).1 (ho v q).2,KG (by omega) fun v q=>LM (ho v q)⟩
theorem LH {s:Schema} {l:List Rec} (hv:cN s l=true) (hl:l.length<=1024):(eG l).length<=1024/\(∀v,v∈eG l->inI v.2.1)/\(fC ((⟨#[115,101,113]⟩,1,0,false):Col) (eG l)).1.size<=4398046585379:=by
 have ho:=qIF hv;have hlen:(eG l).length=l.length:=by simp [eG]
 exact⟨by omega,fun v q=>(ho v q).2,LG (by omega) fun v q=>dR (ho v q).1 (ho v q).2⟩
theorem gD {s:Schema} {l:List Rec} (hv:cN s l=true) (hi:wN l) {j:Nat} (hj:j<l.length):zE s (gH s l[j]!):=by
 have hs:=aR (bV hv).1;have hn:=YH hv hj;have hq:=qLY hv hj;have ho:=MX hv hi (i:=s.2.toNat) (by omega);have hm:(l[j]!).2[s.2.toNat]! ∈fA l s.2.toNat:=List.mem_map.2 ⟨l[j]!,by rw[getElem!_pos l j hj];exact List.getElem_mem hj,by unfold atV;rw[if_pos (by omega)]⟩;unfold gH;rw[if_neg (by omega)];have h1:=ho _ hm;exact⟨LM h1,h1.1,hq⟩
theorem bI {s:Schema} {l:List Rec} (h:fO s l=true):cN s l=true:=by
 unfold fO at h;cases q:cN s l with
 |true=>rfl
 |false=>rw[q]at h;cases h
theorem qPH {s:Schema} {l:List Rec} (h:¬(idS s).2=0):oH s l=(⟨#[]⟩,(idS s).2):=by rw[qKQ]at h ⊢;rw[oH,if_pos h]
theorem qPI {s:Schema} {l:List Rec} (h:(idS s).2=0) (h1:l.length>1024):oH s l=(⟨#[]⟩,7):=by rw[qKQ]at h;rw[oH,if_neg (fun q=>q h),if_pos h1]
theorem qMQ {s:Schema} {l:List Rec} (h:(idS s).2=0) (h1:¬l.length>1024) (h2:l.length=0\/fO s l=false):oH s l=(⟨#[]⟩,1):=by rw[qKQ]at h;rw[oH,if_neg (fun q=>q h),if_neg h1,if_pos h2]
theorem qMR {s:Schema} {l:List Rec} (h:(idS s).2=0) (h1:¬l.length>1024) (h2:¬l.length=0) (h3:fO s l=true):oH s l=(qF8 s l,0):=by
 rw[qKQ]at h;rw[oH,if_neg (fun q=>q h),if_neg h1,if_neg (by rintro(q|q);exact h2 q;rw[h3]at q;cases q)]
abbrev chP (s:Schema) (l:List Rec) (k:Nat):List ByteArray:=(List.range k).map (chnk s l)
theorem uW {s:Schema} {l:List Rec} {k:Int} (h:0<=k):chP s l (k+1).toNat=chP s l k.toNat++ [chnk s l k.toNat]:=by
 rw[show(k+1).toNat=k.toNat+1 by omega,chP,List.range_succ,List.map_append];rfl
theorem IB {s:Schema} {l:List Rec}:chnks s l=chP s l s.1.length++ [(fC ((⟨#[115,101,113]⟩,1,0,false):Col) (eG l)).1]:=by
 rw[chnks,List.range_succ,List.map_append,List.map_cons,List.map_nil,qFB]
theorem kN (b:ByteArray):lT [b]=b:=rH b
abbrev CD:Ct:=.fn [bK,.list fP] (some (fun(s:Schema) (l:List Rec)=>(l.length<=9223372036854775807)/\(wN l))) (fun(s:Schema) (l:List Rec)=>.tup [.str,.int .i64] ((oH s l).1,(oH s l).2,()))
theorem qHZ:aG Tryz.prog 14 CD:=by
 refine aG.fn RQ mixed [] [] rfl rfl ?_;rintro⟨(s:Schema),(l:List Rec),_⟩ hpre;replace hpre:=hpre _ rfl;dsimp only[cu]at hpre;obtain⟨hl,hin⟩:=hpre;refine⟨[(0,22,LA.mk [.sl 47 (.int .i64),.sl 9 .str,.sl 10 .str,.sl 11 .str] (fun y=>Tag 67/\cu [.int .i64,.str,.str,.str] (fun(k:Int) (o:ByteArray) (q:ByteArray) (z:ByteArray)=>(0<=k/\k<=s.1.length)/\(o=qJL++lT (chP s l k.toNat))/\(q=lT ((chP s l k.toNat).map szB))/\(z=lT ((iM s l (List.range k.toNat)).map xN))/\((o.size:Int)<=4+4398046585379*k)/\((q.size:Int)<=10*k)/\((z.size:Int)<=2200000*k)) y) (cu [.int .i64,.str,.str,.str] (fun(k:Int) (o:ByteArray) (q:ByteArray) (z:ByteArray)=>((s.1.length:Int)-k).toNat)) (cu [.int .i64,.str,.str,.str] (fun(k:Int) (o:ByteArray) (q:ByteArray) (z:ByteArray)=>([]:List (Nat×Nat×LA)))))],?_⟩;repeat' (first
  |(
 with_reducible refine Side.mk ⟨(⟨⟩:Tag 67),?_⟩
 dsimp only[cu,aB,aA,gts,eE,eN]
 refine⟨?_,?_,?_,?_,?_,?_,?_⟩
 ·omega
 ·first
  |exact(rH _).symm
  |(
  have hv:=bI (s:=s) (l:=l) (jD (by with_reducible assumption))
  have hs:=aR (bV hv).1
  have ec:=nP hv hin (by omega) (k:=k) (by omega)
  obtain⟨c1,c2,c3,c4,c5⟩:=ec
  rw[ho,c1,uW (by omega),kM,kN,WJ (by omega),ByteArray.append_assoc])
 ·first
  |rfl
  |(
  have hv:=bI (s:=s) (l:=l) (jD (by with_reducible assumption))
  have hs:=aR (bV hv).1
  have ec:=nP hv hin (by omega) (k:=k) (by omega)
  obtain⟨c1,c2,c3,c4,c5⟩:=ec
  have hu:=aT (n:=(((fC s.1[k.toNat]! (fA l k.toNat)).1.size:Nat):Int)) (by omega)
  rw[hq,c1,hu,uW (by omega),List.map_append,kM,List.map_cons,List.map_nil,kN,WJ (by omega)]
  rfl)
 ·first
  |rfl
  |(
  have hv:=bI (s:=s) (l:=l) (jD (by with_reducible assumption))
  have hs:=aR (bV hv).1
  have ec:=nP hv hin (by omega) (k:=k) (by omega)
  obtain⟨c1,c2,c3,c4,c5⟩:=ec
  rw[hz,c1,zV (by omega),List.map_append,kM,List.map_cons,List.map_nil,kN])
 ·first
  |exact Int.le_refl _
  |(
  have hv:=bI (s:=s) (l:=l) (jD (by with_reducible assumption))
  have hs:=aR (bV hv).1
  have ec:=nP hv hin (by omega) (k:=k) (by omega)
  obtain⟨c1,c2,c3,c4,c5⟩:=ec
  rw[c1,ByteArray.size_append]
  omega)
 ·first
  |exact Int.le_refl _
  |(
  have hv:=bI (s:=s) (l:=l) (jD (by with_reducible assumption))
  have hs:=aR (bV hv).1
  have ec:=nP hv hin (by omega) (k:=k) (by omega)
  obtain⟨c1,c2,c3,c4,c5⟩:=ec
  have hu:=aT (n:=(((fC s.1[k.toNat]! (fA l k.toNat)).1.size:Nat):Int)) (by omega)
  have p1:=aV (((fC s.1[k.toNat]! (fA l k.toNat)).1.size:Nat):Int)
  have p2:=pT c5
  rw[c1,hu,ByteArray.size_append,bD]
  omega)
 ·first
  |exact Int.le_refl _
  |(
  have hv:=bI (s:=s) (l:=l) (jD (by with_reducible assumption))
  have hs:=aR (bV hv).1
  have ec:=nP hv hin (by omega) (k:=k) (by omega)
  obtain⟨c1,c2,c3,c4,c5⟩:=ec
  have p1:=aV (((fC s.1[k.toNat]! (fA l k.toNat)).1.size:Nat):Int)
  have p2:=pT c5
  rw[c1,ByteArray.size_append]
  omega))
  |(
 with_reducible apply Side.mk
 (try dsimp only[cu,aB,aA,gts,loK,hiK,eE,eN])
 first
 |omega
 |(
  have hv:=bI (s:=s) (l:=l) (jD (by with_reducible assumption));have hs:=aR (bV hv).1;first
  |omega
  |(
   have ec:=nP hv hin (by omega) (k:=k) (by omega);obtain⟨c1,c2,c3,c4,c5⟩:=ec;first
   |(
    rw[c1];first
    |omega
    |(exact⟨by omega,c3⟩))
   |(
    have p1:=aV (((fC s.1[k.toNat]! (fA l k.toNat)).1.size:Nat):Int);have p2:=pT c5;rw[c1];omega)
   |(
    have hu:=aT (n:=(((fC s.1[k.toNat]! (fA l k.toNat)).1.size:Nat):Int)) (by omega);have p1:=aV (((fC s.1[k.toNat]! (fA l k.toNat)).1.size:Nat):Int);have p2:=pT c5;first
    |(
     rw[c1,hu];omega)
    |(
     rw[c1,hu,bD];omega))
   |(
    rw[c1];exact⟨⟨c5.1.2,c5.2.1.2⟩,⟨c5.2.2.1.2.1,by have:=c5.2.2.1.2.2;omega⟩,⟨c5.2.2.2.2.1,by have:=c5.2.2.2.2.2;omega⟩⟩))
  |(
   have es:=LH hv (by omega);obtain⟨d1,d2,d3⟩:=es;first
   |exact⟨by omega,d2⟩
   |omega
   |(
    have hu:=aT (n:=(((fC ((⟨#[115,101,113]⟩,1,0,false):Col) (eG l)).1.size:Nat):Int)) (by omega);have p1:=aV (((fC ((⟨#[115,101,113]⟩,1,0,false):Col) (eG l)).1.size:Nat):Int);first
    |(
     rw[hu];omega)
    |(
     rw[hu,bD];omega)))
  |(
   have hul:=aT (n:=(l.length:Int)) (by omega);have p3:=aV (l.length:Int);rw[hul];omega)
  |(
   have r1:=gD hv hin (j:=(0:Int).toNat) (by omega);have r2:=gD hv hin (j:=((l.length:Int)-1).toNat) (by omega);have z1:=kG r1;have z2:=kG r2;first
   |exact⟨⟨r1.2.2.1,r1.2.2.2⟩,r1.1.2.1,by have:=r1.1.2.2;omega⟩
   |(exact⟨⟨r2.2.2.1,r2.2.2.2⟩,r2.1.2.1,by have:=r2.1.2.2;omega⟩))
  |(
   have hul:=aT (n:=(l.length:Int)) (by omega);have p3:=aV (l.length:Int);have hv:=bI (s:=s) (l:=l) (jD (by with_reducible assumption));have hs:=aR (bV hv).1;have es:=LH hv (by omega);obtain⟨d1,d2,d3⟩:=es;have hu:=aT (n:=(((fC ((⟨#[115,101,113]⟩,1,0,false):Col) (eG l)).1.size:Nat):Int)) (by omega);have p1:=aV (((fC ((⟨#[115,101,113]⟩,1,0,false):Col) (eG l)).1.size:Nat):Int);have r1:=gD hv hin (j:=(0:Int).toNat) (by omega);have r2:=gD hv hin (j:=((l.length:Int)-1).toNat) (by omega);have z1:=kG r1;have z2:=kG r2;have f4:∀v,(four v).length=4:=fun _=>rfl
   have u9:(⟨#[77,80,84,49]⟩:ByteArray).size=4:=rfl;simp only[ByteArray.size_append,bD,hu,hul,f4];omega)
  |(
   have ec:=nP hv hin (by omega) (k:=k) (by omega);obtain⟨c1,c2,c3,c4,c5⟩:=ec;have:=(kP (l:=l) (n:=(s.1.length:Int)) ⟨by omega,by omega⟩).1;omega)))
  |(conv=>whnf
    first
     |with_reducible first|done|exact trivial|refine NilBr.mk (fun h=>?_) ?_|apply aJ|apply aI|refine aK (by kernel_rfl) ?_|apply aL|apply bA|apply aZ|apply aO
     |((with_reducible first|apply aQ|apply aP|apply aX)<;>intro h<;>(try dsimp only[cu,eE,eN]at h)<;>(try(exfalso;omega)))
     |(
 intro yy (hy:Tag 67/\_)
 obtain⟨(k:Int),(o:ByteArray),(q:ByteArray),(z:ByteArray),_⟩:=yy
 replace hy:=hy.2
 dsimp only[cu,aB,aA,gts,eE,eN]at hy
 obtain⟨hk,ho,hq,hz,hzo,hzq,hzz⟩:=hy)))
 all_goals(
 with_reducible apply Leaf.mk
 (try dsimp only[cu,aB,aA,gts,eE,eN]at *)
 first
 |rw[qPH (by with_reducible assumption)]
 |rw[qPI (by with_reducible assumption) (by omega)]
 |rw[qMQ (by with_reducible assumption) (by omega) (.inl (by omega))]
 |rw[qMQ (by with_reducible assumption) (by omega) (.inr (qG3 (by with_reducible assumption)))]
 |(
  have hv:=bI (s:=s) (l:=l) (jD (by with_reducible assumption));have hs:=aR (bV hv).1;have hul:=aT (n:=(l.length:Int)) (by omega);have p3:=aV (l.length:Int);have hv:=bI (s:=s) (l:=l) (jD (by with_reducible assumption));have hs:=aR (bV hv).1;have es:=LH hv (by omega);obtain⟨d1,d2,d3⟩:=es;have hu:=aT (n:=(((fC ((⟨#[115,101,113]⟩,1,0,false):Col) (eG l)).1.size:Nat):Int)) (by omega);have p1:=aV (((fC ((⟨#[115,101,113]⟩,1,0,false):Col) (eG l)).1.size:Nat):Int);have r1:=gD hv hin (j:=(0:Int).toNat) (by omega);have r2:=gD hv hin (j:=((l.length:Int)-1).toNat) (by omega);have z1:=kG r1;have z2:=kG r2;have f4:∀v,(four v).length=4:=fun _=>rfl
  have u9:(⟨#[77,80,84,49]⟩:ByteArray).size=4:=rfl;have hk2:k.toNat=s.1.length:=by omega
  rw[hk2]at ho hq hz;have hf:pW s l=aN (four (idS s).1)++aN (put (l.length:Int))++(q++aN (put (((fC ((⟨#[115,101,113]⟩,1,0,false):Col) (eG l)).1.size:Nat):Int)))++z++cV (gH s l[(0:Int).toNat]!)++cV (gH s l[((l.length:Int)-1).toNat]!):=by
   rw[pW,IB,List.map_append,kM,List.map_cons,List.map_nil,kN,<-hq,<-hz,qGE (bV hv).1,show((l.length:Int)-1).toNat=l.length-1 by omega];rfl
  have hfs:((oQ (pW s l)).size:Int)<4294967296:=by
   rw[oR,hf];simp only[ByteArray.size_append,bD,f4];omega
  rw[qMR (by with_reducible assumption) (by omega) (by omega) (jD (by with_reducible assumption))];rw[hu,hul,<-hf];show o++(fC ((⟨#[115,101,113]⟩,1,0,false):Col) (eG l)).1++oQ (pW s l)++aN (four (IntKind.u32.wrap ((oQ (pW s l)).size:Int)))++qJL=ST (lT (chnks s l)) (oQ (pW s l));rw[MT ⟨by omega,hfs⟩,ho,IB,kM,kN,ST];simp only[ByteArray.append_assoc])
 |(rw[qMR (by with_reducible assumption) (by omega) (by omega) (jD (by with_reducible assumption))]))
abbrev qM7:Tbl:=(14,CD)::qM6
theorem RU:aC Tryz.prog qM7:=aC.cons qHZ RQ
end Go.Proofs.YtcjiefknhfhmkaaGreatDoor
namespace Go.Abs
set_option maxRecDepth 100000
set_option maxHeartbeats 4000000
set_option linter.unusedVariables false
set_option linter.unusedSimpArgs false
theorem QT {n:Nat} {P:Program} {row:String} {args:Array Value} {w:World} {R:Value->World->Prop} (h:Rows P row args w R):RowsIn Fence.wide n P row args w R:=
 fun c cs _=>let ⟨v,w',r,s⟩:=h c cs;⟨v,w',r,stepsIn_wide.2 s⟩
theorem kI {P:Program} {ops:Array Oper} {Q:Exit->Act->World->Prop} (lr n:Nat) (hd:∀(i:Nat) (o:Oper),ops[i]? =some o->∀c,o.op ≠ .defer c) (hQ:¬LetsOut Q) :
  ∀(l:List Nat) (a:Act) (w:World),wpOps P ops Q l a w->wpOpsIn (Fence.wide.inRound lr) n P ops Q l a w
 | [],_,_,h=>h
 |i::rest,a,w,h=>by
  have ih:=kI (P:=P) lr n hd hQ rest;simp only[wpOps]at h;simp only[wpOpsIn];cases ho:ops[i]? with
  |none=>simp only[ho]at h;exact ih _ _ h
  |some o=>
   simp only[ho]at h;by_cases hw:Region.wanted o (yielded ops a.tmps)=true
   ·simp only[hw,if_true]at h ⊢
    rcases h with h|⟨_,h⟩
    ·unfold Oper.wp at h
     unfold Oper.wpIn;refine⟨fun _ _=>trivial,?_⟩;rw[Oper.semAt_eq _ _ _ (hd i o ho)];generalize (execOp a.eval o).run P w=r at h ⊢;cases r with
     |ok x w'=>
      cases x with
      |value v=>exact ih _ _ h
      |skip=>exact ih _ _ h
      |defer d=>exact ih _ _ h
      |enter f args=>
       refine⟨(by intro q;cases q),CallsIn.inRound lr (callsIn_wide.2 (Calls.mono h ?_))⟩;intro e w'' he;cases e with
       |returned v=>exact ih _ _ he
       |panicked c=>exact he
       |outgrown=>exact he
      |row rw' args=>
       refine⟨(by intro q;cases q),?_⟩;exact RowsIn.mono (F:=Fence.wide.inRound lr) (QT h) fun v w'' he=>ih _ _ he
      |_=>exact h.elim
     |halt x w'=>cases x<;>exact h
    ·exact(hQ h).elim
   ·simp only[hw]at h ⊢
    exact⟨fun _ _=>trivial,ih _ _ h⟩
def rJ (ops:Array Oper):Bool:=ops.toList.all fun o=>match o.op with
 | .defer _=>false
 |_=>true
theorem tH {ops:Array Oper} (h:rJ ops=true):∀(i:Nat) (o:Oper),ops[i]? =some o->∀c,o.op ≠ .defer c:=by
 intro i o ho c hc;have hi:i<ops.size:=(Array.getElem?_eq_some_iff.1 ho).1;have:=List.all_eq_true.1 h o (by rw[<-Array.getElem?_toList]at ho;exact bU ho);rw[hc]at this;cases this
theorem qJI {E:Env} (hT:aC E.P E.T) (hM:E.P.follows .mixedOrders=true) {id:Nat} {ops:Array Oper} {s:Y} {K:Y->Prop} (hc:rJ ops=true) (h:xdraw E id ops s K) (lr n:Nat) :
  ∀(ι:Iota) (a:Act) (w:World),SR s.den ι a w->(Code.region id ops true).wpIn (Fence.wide.inRound lr) n E.P (WA E.n0 s.den ι w (fun e st=>e = .normal/\∃s',st=s'.den/\K s'/\FrW (jL ops.toList) s s')) a w:=
 KE hT hM h (fun Q a w=>(Code.region id ops true).wpIn (Fence.wide.inRound lr) n E.P Q a w) (fun q hq=>wpIn_mono q hq) (fun hq q=>wpIn_region_draw fun t=>kI lr n (tH hc) hq _ _ _ (q t))
structure Calm (w w':World):Prop where
 os:w'.os=w.os
 tape:w'.tape=w.tape
 output:w'.output=w.output
 size:w.heap.size<=w'.heap.size
 cells:∀(b:Nat) (c:Array Value) (e:TypeId) (fr:Nat×Nat),w.heap[b]? =some (.cells c e fr)->w'.heap[b]? =some (.cells c e fr)
theorem Calm.cell {w w':World} (h:Calm w w') {b o:Nat} {v:Value} (hc:w.cell? ⟨b,o,none⟩=some v):w'.cell? ⟨b,o,none⟩=some v:=by
 unfold World.cell? at hc ⊢;split at hc
 ·rename_i c e fr hb
  simp only[h.cells _ _ _ _ hb];exact hc
 ·cases hc
theorem Rep.calm {w w':World} {ι:Iota} {M:Nat->Prop} (h:Calm w w') {x:V} {y:Value} (r:Rep w ι M x y):Rep w' ι M x y:=by
 induction r with
 |v x=>exact .v x
 |any x=>exact .any x
 |pF row off b o cells hb hm hc _ ih=>exact .pF row off b o cells (Nat.lt_of_lt_of_le hb h.size) hm (fun j hj=>h.cell (hc j hj)) ih
 |pO id row off l hl=>exact .pO id row off l hl
 |sF sz rows a cap cells hb hcap hr hc _ ih=>
  refine .sF sz rows a cap cells (fun hne=>?_) hcap hr (fun i hi j hj=>h.cell (hc i hi j hj)) ih;obtain⟨hs,hb,hm⟩:=hb hne;exact⟨hs,Nat.lt_of_lt_of_le hb h.size,hm⟩
 |sN sz=>exact .sN sz
 |sO id off len cap l c e fr hl hcap hb hs=>exact .sO id off len cap l c e fr hl hcap (h.cells _ _ _ _ hb) hs
 |agg xs vs hl _ ih=>exact .agg xs vs hl ih
 |tup xs vs hl _ ih=>exact .tup xs vs hl ih
 |fn f first caps vs us h1 h2 _ _ ih1 ih2=>exact .fn f first caps vs us h1 h2 ih1 ih2
 |ifc t x y _ ih=>exact .ifc t x y ih
 |sL t l y _ ih=>exact .sL t l y ih
 |oL id n y _ ih=>exact .oL id n y ih
theorem HRel.calm {h:Heap} {ι:Iota} {w w':World} (H:HRel h ι w) (hc:Calm w w'):HRel h ι w':=
 ⟨fun id o ho=>let ⟨l,c,fr,q1,la⟩:=H.live id o ho;⟨l,c,fr,q1,⟨hc.cells _ _ _ _ la.blk,la.unfrozen,la.sz,la.rows,la.fits,fun i hi j hj=>let ⟨y,g1,g2⟩:=la.reads i hi j hj;⟨y,g1,g2.calm hc⟩⟩⟩,H.free,H.out,H.apart,fun b hb=>Nat.lt_of_lt_of_le (H.xlt b hb) hc.size,H.xob⟩
theorem SR.calm {s:St} {ι:Iota} {a:Act} {w w':World} (r:SR s ι a w) (hc:Calm w w'):SR s ι a w':=
 ⟨r.defers,⟨r.slots.1,fun i x hx=>let ⟨y,y1,y2⟩:=r.slots.2 i x hx;⟨y,y1,y2.calm hc⟩⟩,r.heap.calm hc⟩
theorem EvN.calm {n:Nat} {h h':Heap} {ι ι':Iota} {w0 w w':World} (e:EvN n h ι w0 h' ι' w) (hc:Calm w w') (hlow:∀b,b<w0.heap.size->w'.heap[b]? =w.heap[b]?):EvN n h ι w0 h' ι' w':=
 ⟨hc.os.trans e.os,hc.tape.trans e.tape,hc.output.trans e.output,Nat.le_trans e.size hc.size,e.iota,e.away,fun b hb hn=>let ⟨q1,q2⟩:=e.frame b hb hn;⟨(hlow b hb).trans q1,q2⟩,
   fun b c el fr hb=>let ⟨c',fr',q1,q2⟩:=e.sizes b c el fr hb;⟨c',fr',hc.cells _ _ _ _ q1,q2⟩⟩
theorem Calm.grown {w w':World} {row:Option Nat} (h:w.grownBy w' row) (hr:∀r,row=some r->∃o:Obj,w.heap[r]? =some o/\o.isCells=false):Calm w w':=
 ⟨h.os,h.tape,h.output,h.size,fun b c e fr hb=>by
   have hlt:b<w.heap.size:=(Array.getElem?_eq_some_iff.1 hb).1;rw[h.block b hlt (fun q=>by
    obtain⟨o,ho,hc⟩:=hr b q.symm;rw[hb]at ho;injection ho with ho;subst ho;cases hc)]
   exact hb⟩
def Kp (A1 A2:Addr) (W W':World):Prop:=W'.cell? A1=W.cell? A1/\W'.cell? A2=W.cell? A2
abbrev Ck (len:Nat):={k:Nat // 32*k<len}
def ckV (g off len:Nat) (x:Ck len):Value:=.slice (some ⟨g,off+32*x.1,none⟩) (min 32 (len-32*x.1)) (min 32 (len-32*x.1))
def rF (P:Program) (gf:FuncId):Prop:=∀(n l b1 o1 b2 o2 g off len cap N:Nat) (sv:Value),((sv = .slice none 0 0/\len=0)\/(sv = .slice (some ⟨g,off,none⟩) len cap/\len<=cap))->len<=1099511627776->len<=32*N->∀(J Jx:List (Ck len)->World->Prop),
 (∀s W W' row,J s W->W.grownBy W' row->(∀r,row=some r->False)->J s W') ->
 (∀pre x W,J pre W->pre.length<N->YieldAt Fence.wide (n-1) P l #[ckV g off len x] W fun e W'=>
    (e = .returned (.bool true)/\J (pre++ [x]) W'/\Kp ⟨b1,o1,none⟩ ⟨b2,o2,none⟩ W W')\/(e = .returned (.bool false)/\Jx (pre++ [x]) W')) ->
 ∀(W:World),W.cell? ⟨b1,o1,none⟩=some sv->W.cell? ⟨b2,o2,none⟩=some (.int .i64 32)->J [] W ->
  CallsIn Fence.wide n P gf #[.func (.yield l) #[] #[],.pointer (some ⟨b1,o1,none⟩),.pointer (some ⟨b2,o2,none⟩)] W fun e W'=>(∃v,e = .returned v) /\
   ((∃ys,(∃k,ys.map (·.1)=List.range k/\len<=32*k/\32*k<len+32)/\J ys W')\/(∃pre,Jx pre W'))
theorem rF.stops {P:Program} {gf:FuncId} (It:rF P gf) (n b1 o1 b2 o2 g off len cap:Nat) (sv:Value) (w:World) (hsv:(sv = .slice none 0 0/\len=0)\/(sv = .slice (some ⟨g,off,none⟩) len cap/\len<=cap)) (hlen:len<=1099511627776)
  (hb1:b1<w.heap.size) (hb2:b2<w.heap.size) (h1:w.cell? ⟨b1,o1,none⟩=some sv) (h2:w.cell? ⟨b2,o2,none⟩=some (.int .i64 32)) :
  SeqStopsK Fence.wide n P gf #[.pointer (some ⟨b1,o1,none⟩),.pointer (some ⟨b2,o2,none⟩)] (fun x:Ck len=>#[ckV g off len x]) (Kp ⟨b1,o1,none⟩ ⟨b2,o2,none⟩)
   (fun ys=>∃k,ys.map (·.1)=List.range k/\len<=32*k/\32*k<len+32) (fun _=>True) len w:=by
 intro l J Jx W hW hJ hJx hY h0;refine(It n l b1 o1 b2 o2 g off len cap len sv hsv hlen (by omega) J Jx (fun s W1 W' row hs hg hr=>hJ s W1 W' row hs hg (fun r e=>(hr r e).elim)) hY W ((hW.cell (p:=⟨b1,o1,none⟩) hb1).trans h1) ((hW.cell (p:=⟨b2,o2,none⟩) hb2).trans h2) h0).mono ?_;rintro e W' ⟨he,h|⟨pre,h⟩⟩
 ·exact⟨he,.inl h⟩
 ·exact⟨he,.inr ⟨pre,trivial,h⟩⟩
theorem pR {P:Program} {ops:Array Oper} {Q:Exit->Act->World->Prop} (d:List Deferred) (hQ:¬LetsOut Q) :
  ∀(l:List Nat) (t:Array Value) (ds:List Deferred) (w:World),wpOps P ops Q l ⟨t,ds⟩ w->wpOps P ops (fun e a' w'=>∃ds',a'.defers=ds'++d/\Q e ⟨a'.tmps,ds'⟩ w') l ⟨t,ds++d⟩ w
 | [],_,ds,_,h=>⟨ds,rfl,h⟩
 |i::rest,t,ds,w,h=>by
  have ih:=pR (P:=P) (ops:=ops) d hQ rest;simp only[wpOps]at h ⊢;cases ho:ops[i]? with
  |none=>simp only[ho]at h;exact ih _ _ _ h
  |some o=>
   simp only[ho]at h;have put:∀(ds:List Deferred) v,(Act.put ⟨t,ds++d⟩ o.dst v)=⟨(Act.put ⟨t,ds⟩ o.dst v).tmps,ds++d⟩:=fun ds v=>by cases o.dst<;>rfl
   have put0:∀(ds:List Deferred) v,(Act.put ⟨t,ds⟩ o.dst v)=⟨(Act.put ⟨t,ds⟩ o.dst v).tmps,ds⟩:=fun ds v=>by cases o.dst<;>rfl
   by_cases hw:Region.wanted o (yielded ops t)=true
   ·simp only[hw,if_true]at h ⊢
    rcases h with h|⟨_,h⟩
    ·refine .inl ?_
     unfold Oper.wp at h ⊢;have he:(Act.eval ⟨t,ds++d⟩)=(Act.eval ⟨t,ds⟩):=by funext x;cases x<;>rfl
     rw[he];generalize (execOp (Act.eval ⟨t,ds⟩) o).run P w=r at h ⊢;cases r with
     |ok x w'=>
      cases x with
      |value v=>show wpOps _ _ _ rest (Act.put ⟨t,ds++d⟩ o.dst v) w';rw[put];exact ih _ _ _ (by rw[<-put0];exact h)
      |skip=>show wpOps _ _ _ rest (Act.put ⟨t,ds++d⟩ o.dst undef) w';rw[put];exact ih _ _ _ (by rw[<-put0];exact h)
      |defer dd=>
       show wpOps _ _ _ rest (Act.put ⟨t,(dd::ds)++d⟩ o.dst undef) w';rw[put];exact ih _ _ _ (by rw[<-put0];exact h)
      |enter f args=>
       refine Calls.mono h ?_;intro e w'' he;cases e with
       |returned v=>show wpOps _ _ _ rest (Act.put ⟨t,ds++d⟩ o.dst v) w'';rw[put];exact ih _ _ _ (by rw[<-put0];exact he)
       |panicked c=>exact⟨ds,rfl,he⟩
       |outgrown=>exact(hQ he).elim
      |row rw' args=>
       refine Rows.mono h ?_;intro v w'' he;show wpOps _ _ _ rest (Act.put ⟨t,ds++d⟩ o.dst v) w'';rw[put];exact ih _ _ _ (by rw[<-put0];exact he)
      |_=>exact h.elim
     |halt x w'=>cases x<;>first|exact h.elim|exact⟨ds,rfl,h⟩
    ·exact(hQ h).elim
   ·simp only[hw]at h ⊢
    rw[if_neg (by simp)]at h ⊢;rw[put];exact ih _ _ _ (by rw[<-put0];exact h)
theorem oV {E:Env} (hT:aC E.P E.T) (hM:E.P.follows .mixedOrders=true) (hI:pU E) {c rest:Code} {s:Y} {Q:Exit->Y->Prop} {Qw:Exit->Act->World->Prop} {k:Y->Prop} {ι:Iota} {a:Act} {w:World} (hx:xcode E c s (pZ Q k)) (r:SR s.den ι a w)
  (hn:∀(s':Y) (ι':Iota) (a':Act) (w':World),k s'->SR s'.den ι' a' w'->EvN E.n0 s.den.h ι w s'.den.h ι' w'->rest.wp E.P Qw a' w')
  (he:∀(e:Exit) (s':Y) (ι':Iota) (a':Act) (w':World),e ≠ .normal->Q e s'->SR s'.den ι' a' w'->EvN E.n0 s.den.h ι w s'.den.h ι' w'->Qw e a' w'):(Code.seq c rest).wp E.P Qw a w:=by
 refine wp_seq (wp_mono (gR hT hM hI c s _ hx ι a w r) ?_);rintro e a' w' ⟨st,ι',⟨s',rfl,hq,_⟩,r',ev⟩;cases e with
 |normal=>exact hn s' ι' a' w' hq r' ev
 |_=>exact he _ s' ι' a' w' (by simp) hq r' ev
def EN (gf:FuncId) (gt:Nat) (s:Y):Option (List Bool×Nat×Nat×Nat×List Int):=match s.sl[gt]? with
 |some (.fn (.func g) [] [.pO i1 0 0,.pO i2 0 0])=>(match s.h[i1]?,s.h[i2]?,Nat.beq g gf with
  |some (.raw (.live o1)),some (.raw (.live o2)),true=>(match o1.rows,o2.rows with
   | [[.oL jd n]],[[.v (.int .i64 32)]]=>(match s.h[jd]? with
     |some (.opt t l _)=>(match eF (t':=.int .i64) l,!(Nat.beq i1 i2)&&(!(Nat.beq i1 jd) && !(Nat.beq i2 jd))with
      |some l,true=>some ([decide (n=l.length)],i1,i2,jd,l)
      |_,_=>none)
     |_=>none)
   |_,_=>none)
  |_,_,_=>none)
 |_=>none
def ck (D:List Int) (k:Nat):List Int:=(D.drop (32*k)).take 32
def ckL (D:List Int):List (List Int):=(List.range ((D.length+31)/32)).map (ck D)
def jZ (i1 i2 jd:Nat) (h:List XO):List XO:=((h.set i1 (.raw .dead)).set i2 (.raw .dead)).set jd (.raw .dead)
def qPV (D x:List Int):Prop:=∃k,32*k<D.length/\x=ck D k
structure RfAnd (A B C:Prop):Prop where
 a:A
 b:B
 c:C
def qHW (P:Program) (inl:FuncId->List V->Y->(V->Y->Prop)->Prop) (T:Tbl) (W:List Nat) (ib:Nat) (e5:TypeId) (p q id12:Nat) (ops12:Array Oper) (id13:Nat) (ops13:Array Oper) (rs:List ResultVar) (res:ByteArray)
  (BB:List (List Int)->List Int) (D:List Int) (s1:Y):Prop:=
 RfAnd (arrive 0 W [.row ib [.ows (.int .u8) e5]] s1 s1 (fun y=>Leaf (y.1=BB [])/\True))
  (∀(pre:List (List Int)) (x:List Int),(∀z,z∈pre++ [x]->qPV D z)->pre.length<D.length ->
   fS W [.row ib [.ows (.int .u8) e5]] (BB pre,()) s1.bs fun sl h=>gY sl p (.sL (.int .i64) x) fun sl2=>gY sl2 q (.sL (.int .i64) x) fun sl2=>fN h.length fun L=>xdraw ⟨P,T,L,0,[],inl⟩ id12 ops12 ⟨sl2,h,[],[]⟩ fun s'=>match s' with
    |⟨_,h',tch',an'⟩=>arrive 0 W [.row ib [.ows (.int .u8) e5]] s1 ⟨sl,h',tch',an'⟩ (fun y=>Leaf (y.1=BB (pre++ [x]))/\True))
  (fS W [.row ib [.ows (.int .u8) e5]] (BB (ckL D),()) s1.bs fun sl h=>xops ⟨P,T,0,0,[],inl⟩ ops13 id13 ops13.toList 0 ⟨sl,h,[],[]⟩ fun s'=>match s' with
     |⟨sl',h',_,_⟩=>match ares P rs sl' (dens h')with
      |some y=>Leaf (y = .v (.string res))/\True
      |none=>False)
theorem QQ {gf:FuncId} {gt:Nat} {s:Y} {cs:List Bool} {i1 i2 jd:Nat} {D:List Int} (h:EN gf gt s=some (cs,i1,i2,jd,D)) (hc:cM cs) :
  s.sl[gt]? =some (.fn (.func gf) [] [.pO i1 0 0,.pO i2 0 0])/\i1≠i2/\i1≠jd/\i2≠jd/\(∃o1,s.h[i1]? =some (.raw (.live o1))/\o1.rows= [[.oL jd D.length]])/\(∃o2,s.h[i2]? =some (.raw (.live o2))/\o2.rows= [[.v (.int .i64 32)]])/\∃e,s.h[jd]? =some (.opt (.int .i64) D e):=by
 unfold EN at h;split at h
 ·rename_i g i1' i2' hg
  split at h
  ·rename_i o1 o2 ho1 ho2 hb
   split at h
   ·rename_i jd' n r1 r2
    split at h
    ·rename_i t l e hl
     split at h
     ·rename_i l' hcl hne
      injection h with h;injection h with e1 h;injection h with e2 h;injection h with e3 h;injection h with e4 e5;subst e1 e2 e3 e4 e5;have hn:n=l'.length:=of_decide_eq_true (hc _ (by simp));obtain⟨et,el⟩:=eX hcl;subst et;subst el hn;have hb:=Nat.eq_of_beq_eq_true hb;subst hb;simp only[Bool.and_eq_true,Bool.not_eq_true']at hne;exact⟨hg,Nat.ne_of_beq_eq_false hne.1,Nat.ne_of_beq_eq_false hne.2.1,Nat.ne_of_beq_eq_false hne.2.2,⟨o1,ho1,r1⟩,⟨o2,ho2,r2⟩,_,hl⟩
     ·cases h
    ·cases h
   ·cases h
  ·cases h
 ·cases h
theorem qGQ {h:List XO} {ι:Iota} {w:World} (H:HRel (dens h) ι w) (id:Nat):HRel (dens (h.set id (.raw .dead))) ι w/\Evolve (dens h) ι w (dens (h.set id (.raw .dead))) ι w:=by
 have hk:∀x:Nat,(dens (h.set id (.raw .dead)))[x]? =(dens h)[x]? \/(dens (h.set id (.raw .dead)))[x]? =some HS.dead:=fun x=>qGR h id none x
 exact H.killed hk (by simp [cW]) (fun _=>False) (fun _ q=>q.elim) rfl rfl rfl rfl (fun _ _=>rfl) (fun _ c _ fr q=>⟨c,fr,q,rfl⟩)
theorem qHY {s:Y} {gf:FuncId} {gt:Nat} {cs:List Bool} {i1 i2 jd:Nat} {D:List Int} (hh:EN gf gt s=some (cs,i1,i2,jd,D)) (hc:cM cs) {ι:Iota} {a:Act} {w:World} (r:SR s.den ι a w) :
  ∃(A1 A2:Addr) (sv:Value) (g off cap:Nat),a.eval (.tmp gt) = .func (.func gf) #[] #[.pointer (some A1),.pointer (some A2)]/\A1.spot=none/\A2.spot=none/\A1.block<w.heap.size/\A2.block<w.heap.size/\w.cell? A1=some sv/\w.cell? A2=some (.int .i64 32) /\
   ((sv = .slice none 0 0/\D.length=0)\/(sv = .slice (some ⟨g,off,none⟩) D.length cap/\D.length<=cap)) /\
   SR ⟨s.sl,dens (jZ i1 i2 jd s.h)⟩ ι a w/\Evolve (dens s.h) ι w (dens (jZ i1 i2 jd s.h)) ι w/\¬Ob (dens (jZ i1 i2 jd s.h)) ι A1.block/\¬Ob (dens (jZ i1 i2 jd s.h)) ι A2.block /\
   (D≠ []->g<w.heap.size/\¬Mt (dens (jZ i1 i2 jd s.h)) ι g/\∀(j:Nat) (x:Int),D[j]? =some x->w.cell? ⟨g,off+j,none⟩=some (.int .i64 x)):=by
 obtain⟨hg,n12,n1d,n2d,⟨o1,ho1,r1⟩,⟨o2,ho2,r2⟩,ed,hjd⟩:=QQ hh hc;have H:=r.heap;obtain⟨y,y1,y2⟩:=r.slots.2 gt _ hg;have hev:a.eval (.tmp gt)=y:=by
  simp only[Act.eval];have hlt:=(Array.getElem?_eq_some_iff.1 y1).1;rw[Array.getElem?_eq_getElem hlt]at y1;injection y1 with y1;simp [Array.getD,hlt,y1]
 have d1:(dens s.h)[i1]? =some (.live o1):=by rw[aE,ho1];rfl
 have d2:(dens s.h)[i2]? =some (.live o2):=by rw[aE,ho2];rfl
 obtain⟨L1,c1,fr1,hL1,la1⟩:=H.live i1 o1 d1;obtain⟨L2,c2,fr2,hL2,la2⟩:=H.live i2 o2 d2;obtain⟨H1,e1⟩:=qGQ H i1;obtain⟨H2,e2⟩:=qGQ H1 i2;obtain⟨H3,e3⟩:=qGQ H2 jd;have ev:=(e1.trans e2).trans e3;have sr:SR ⟨s.sl,dens (jZ i1 i2 jd s.h)⟩ ι a w:=⟨r.defers,r.slots.mono ev,H3⟩
 have old:∀(id:Nat) (o:AObj),(dens (jZ i1 i2 jd s.h))[id]? =some (.live o)->(dens s.h)[id]? =some (.live o)/\id≠i1/\id≠i2/\id≠jd:=by
  intro id o q;have one:∀(h:List XO) (k:Nat),(dens (h.set k (.raw .dead)))[id]? =some (.live o)->id≠k/\(dens h)[id]? =some (.live o):=by
   intro h k q;rw[aS]at q;by_cases e:k=id
   ·subst e
    rw[List.getElem?_set]at q;simp only[if_pos]at q;split at q
    ·cases q
    ·cases q
   ·rw[List.getElem?_set_ne e]at q
    exact⟨Ne.symm e,q⟩
  obtain⟨q1,q2⟩:=one _ _ q;obtain⟨q3,q4⟩:=one _ _ q2;obtain⟨q5,q6⟩:=one _ _ q4;exact⟨q6,q5,q3,q1⟩
 have nob:∀(k:Nat) (o:AObj) (L:Loc),(k=i1\/k=i2\/k=jd)->(dens s.h)[k]? =some (.live o)->ι k=some L->¬Ob (dens (jZ i1 i2 jd s.h)) ι L.blk:=by
  rintro k o L hk ho hl ⟨id,o',L',q1,q2,q3⟩;obtain⟨q4,m1,m2,m3⟩:=old id o' q1;have:=H.apart _ _ _ _ _ _ q4 q2 ho hl q3;subst this;rcases hk with q|q|q
  ·exact m1 q
  ·exact m2 q
  ·exact m3 q
 obtain⟨x1,hx1,rx1⟩:=la1.reads 0 (by simp [r1]) 0 (by simp [r1]);obtain⟨x2,hx2,rx2⟩:=la2.reads 0 (by simp [r2]) 0 (by simp [r2]);have rx1:Rep w ι (Mt s.den.h ι) (.oL jd D.length) x1:=by simpa [r1]using rx1
 have rx2:Rep w ι (Mt s.den.h ι) (.v (.int .i64 32)) x2:=by simpa [r2]using rx2
 cases rx2;have hlt1:L1.blk<w.heap.size:=(Array.getElem?_eq_some_iff.1 la1.blk).1;have hlt2:L2.blk<w.heap.size:=(Array.getElem?_eq_some_iff.1 la2.blk).1;have cc1:w.cell? ⟨L1.blk,L1.base+0*L1.sz+0,none⟩=some x1:=by
  simp only[World.cell?,la1.blk];rw[<-hx1];simp
 have cc2:w.cell? ⟨L2.blk,L2.base+0*L2.sz+0,none⟩=some (.int .i64 32):=by
  simp only[World.cell?,la2.blk];rw[<-hx2];simp
 have hfun:y = .func (.func gf) #[] #[.pointer (some ⟨L1.blk,L1.base+0*L1.sz+0,none⟩),.pointer (some ⟨L2.blk,L2.base+0*L2.sz+0,none⟩)]:=by
  cases y2 with
  |fn _ _ _ vs us q1 q2 q3 q4=>
   have hvs:vs = #[]:=by
    have:vs.size=0:=q1.symm;exact Array.eq_empty_of_size_eq_zero this
   have hus:us.size=2:=q2.symm;have u0:=q4 0 (by simp) (by omega);have u1:=q4 1 (by simp) (by omega);have u0:Rep w ι (Mt s.den.h ι) (.pO i1 0 0) us[0]:=u0;have u1:Rep w ι (Mt s.den.h ι) (.pO i2 0 0) us[1]:=u1;have v0:us[0] = .pointer (some ⟨L1.blk,L1.base+0*L1.sz+0,none⟩):=by
    generalize us[0]=z at u0;cases u0 with|pO _ _ _ l hl=>rw[hL1]at hl;injection hl with hl;subst hl;rfl
   have v1:us[1] = .pointer (some ⟨L2.blk,L2.base+0*L2.sz+0,none⟩):=by
    generalize us[1]=z at u1;cases u1 with|pO _ _ _ l hl=>rw[hL2]at hl;injection hl with hl;subst hl;rfl
   rw[hvs];congr 1
   refine Array.ext (by rw[hus];rfl) (fun i h1 h2=>?_);match i,h1 with
   |0,_=>exact v0
   |1,_=>exact v1
   |i+2,h1=>rw[hus]at h1;omega
 suffices fin:∃(g off cap:Nat),((x1 = .slice none 0 0/\D.length=0)\/(x1 = .slice (some ⟨g,off,none⟩) D.length cap/\D.length<=cap))/\(D≠ []->g<w.heap.size/\¬Mt (dens (jZ i1 i2 jd s.h)) ι g/\∀(j:Nat) (x:Int),D[j]? =some x->w.cell? ⟨g,off+j,none⟩=some (.int .i64 x))by
  obtain⟨g,off,cap,k1,k2⟩:=fin;exact⟨⟨L1.blk,L1.base+0*L1.sz+0,none⟩,⟨L2.blk,L2.base+0*L2.sz+0,none⟩,x1,g,off,cap,hev.trans hfun,rfl,rfl,hlt1,hlt2,cc1,cc2,k1,sr,ev,nob i1 o1 L1 (.inl rfl) d1 hL1,nob i2 o2 L2 (.inr (.inl rfl)) d2 hL2,k2⟩
 by_cases hD:D= []
 ·subst hD
  cases rx1 with
  |oL _ _ _ q=>
   simp at q;cases q;exact⟨0,0,0,.inl ⟨rfl,rfl⟩,fun q=>(q rfl).elim⟩
 ·have hl0:D.length≠0:=fun q=>hD (List.length_eq_zero_iff.1 q)
  have dj:(dens s.h)[jd]? =some (.live ⟨1,D.map (Ty.row (.int .i64)),ed⟩):=by rw[aE,hjd];simp [XO.den,hD,Ty.size]
  obtain⟨Ld,cd,frd,hLd,lad⟩:=H.live jd _ dj;have hsd:Ld.sz=1:=lad.sz;cases rx1 with
  |oL _ _ _ q=>
   rw[if_neg hl0]at q;cases q with
   |sO _ _ _ cap L c e fr hL hcap hb hs=>
    rw[hLd]at hL;injection hL with hL;subst hL;refine⟨Ld.blk,Ld.base+0*Ld.sz,cap,.inr ⟨rfl,hcap⟩,fun _=>⟨(Array.getElem?_eq_some_iff.1 lad.blk).1,?_,fun j x hj=>?_⟩⟩
    ·rintro(q|q)
     ·exact H.xob _ q ⟨jd,_,Ld,dj,hLd,rfl⟩
     ·exact nob jd _ Ld (.inr (.inr rfl)) dj hLd q
    ·have hjl:=aF hj
     obtain⟨z,z1,z2⟩:=lad.reads j (by simpa using hjl) 0 (by simp [Ty.cells]);have e1:(D.map (Ty.row (.int .i64)))[j]'(by simpa using hjl)= [.v (.int .i64 x)]:=by
      rw[List.getElem?_eq_getElem hjl]at hj;injection hj with hj;simp [hj,Ty.cells]
     have z2:Rep w ι (Mt (dens s.h) ι) (.v (.int .i64 x)) z:=by
      have:=z2;simp only[e1]at this;exact this
     cases z2;simp only[World.cell?,lad.blk];rw[<-z1];congr 1
     simp [Ty.size]
theorem EvN.zero {n:Nat} {h h':Heap} {ι ι':Iota} {w w':World} (e:EvN n h ι w h' ι' w'):EvN 0 h ι w h' ι' w':=
 ⟨e.os,e.tape,e.output,e.size,fun id l q=>(Nat.not_lt_zero _ q).elim,e.away,e.frame,e.sizes⟩
theorem EvN.keepsOthers {n:Nat} {h h':Heap} {ι ι':Iota} {w w':World} (H:HRel h ι w) (e:EvN n h ι w h' ι' w'):KeepsOthers w w':=
 ⟨e.size,fun k o hk ho=>by
   have hlt:k<w.heap.size:=(Array.getElem?_eq_some_iff.1 hk).1;refine((e.frame k hlt ?_).1).trans hk;rintro⟨id,x,l,q1,q2,q3⟩;obtain⟨l',c,fr,q4,la⟩:=H.live id x q1;rw[q2]at q4;injection q4 with q4;subst q4;have:=la.blk;rw[q3,hk]at this;injection this with this;subst this;cases ho⟩
theorem SRel.sets {sl:List V} {h ι w} {t:Array Value} (r:SRel sl h ι w t) (d:Nat) {x:V} {y:Value} (ry:Rep w ι (Mt h ι) x y):SRel (sl.set d x) h ι w (t.setIfInBounds d y):=
 SRel.put (a:=⟨t,[]⟩) r (some d) ry
theorem dK {w w':World} {A:Addr} (h:w'.heap[A.block]? =w.heap[A.block]?):w'.cell? A=w.cell? A:=by simp [World.cell?,h]
theorem qNS {h:Heap} {ι:Iota} {W:World} {D:List Int} {g off:Nat} (x:Ck D.length) (hb:g<W.heap.size) (hm:¬Mt h ι g) (hc:∀(j:Nat) (x:Int),D[j]? =some x->W.cell? ⟨g,off+j,none⟩=some (.int .i64 x)) :
  Rep W ι (Mt h ι) (.sL (.int .i64) (ck D x.1)) (ckV g off D.length x):=by
 obtain⟨k,hk⟩:=x;refine .sL _ _ _ ?_;have hl:((ck D k).map (Ty.row (.int .i64))).length=min 32 (D.length-32*k):=by simp [ck]
 have:=Rep.sF_mk (w:=W) (ι:=ι) (M:=Mt h ι) (sz:=1) (rows:=(ck D k).map (Ty.row (.int .i64))) ⟨g,off+32*k,none⟩ (min 32 (D.length-32*k)) (fun _=>⟨rfl,hb,hm⟩) (by rw[hl];exact Nat.le_refl _)
  (fun r hr=>by obtain⟨z,_,rfl⟩:=List.mem_map.1 hr;rfl)
  (fun i j r x hi hj=>by
    rw[List.getElem?_map]at hi;cases hz:(ck D k)[i]? with
    |none=>rw[hz]at hi;cases hi
    |some z=>
     rw[hz]at hi;injection hi with hi;subst hi;have hj0:j=0:=by
      have:=aF hj;simp [Ty.row,Ty.cells]at this;omega
     subst hj0;have hx:x = .v (.int .i64 z):=by
      simp [Ty.row,Ty.cells]at hj;exact hj.symm
     subst hx;have hz2:D[32*k+i]? =some z:=by
      simp only[ck,List.getElem?_take,List.getElem?_drop]at hz;split at hz
      ·exact hz
      ·cases hz
     have:=hc _ _ hz2;exact⟨_,by rw[show off+32*k+i*1+0=off+(32*k+i)by omega];exact this,.v _⟩)
 rw[hl]at this;exact this
theorem GH {P:Program} {n l id p q:Nat} {v:Value} {t:Array Value} {w:World} {K:Act->World->Prop} {ty:TypeId} {pos:String} (hp:p<t.size) (h:K ⟨(t.setIfInBounds p v).setIfInBounds q v,[]⟩ w) :
  (Code.region id #[{dst:=some q,op:=.assign (.tmp p),type:=ty,pos:=pos,after:=#[],guard:=none}] false).wpIn (Fence.wide.inRound l) n P (Exit.then K (fun _ _ _=>False)) ⟨t.setIfInBounds p v,[]⟩ w:=by
 refine wpIn_region ?_;simp only[Array.size,List.length_cons,List.length_nil,List.range,List.range.loop,wpOpsIn];have e:(Act.eval ⟨t.setIfInBounds p v,[]⟩ (.tmp p))=v:=by
  simp [Act.eval,Array.getD,hp]
 simp only[Region.wanted,Oper.wpIn,List.getElem?_toArray,List.getElem?_cons_zero,if_true];refine⟨fun _ _=>trivial,?_⟩;rw[Oper.semAt_eq _ _ _ (by intro c q;cases q)];simp only[execOp,e];exact h
theorem qNR {D:List Int} {xs:List (Ck D.length)} {k:Nat} (h:xs.map (·.1)=List.range k) (h1:D.length<=32*k) (h2:32*k<D.length+32):xs.map (fun x=>ck D x.1)=ckL D:=by
 have hk:k=(D.length+31)/32:=by omega
 have:xs.map (fun x=>ck D x.1)=(xs.map (·.1)).map (ck D):=by simp
 rw[this,h,hk];rfl
theorem qHX {P:Program} {T:Tbl} {inl:FuncId->List V->Y->(V->Y->Prop)->Prop} (hT:aC P T) (hM:P.follows .mixedOrders=true) {gf:FuncId} (It:rF P gf) (eg:∀(args:Array Value) (w:World),(callFunc gf args).run P w = .ok (.enter gf args) w)
  {gt p q bid bid2 id12:Nat} {ops12:Array Oper} {W:List Nat} {ib:Nat} {e5:TypeId} {id13:Nat} {ops13:Array Oper} {rs:List ResultVar} {res:ByteArray} {BB:List (List Int)->List Int} {id11:Nat} {ty11:TypeId} {pos11:String}
  (hc12:rJ ops12=true) {s:Y} {cs:List Bool} {i1 i2 jd:Nat} {D:List Int} (hpa:p<s.sl.length) (hh:EN gf gt s=some (cs,i1,i2,jd,D)) (hc:cM cs) (hlen:D.length<=1099511627776)
  (hl:qHW P inl T W ib e5 p q id12 ops12 id13 ops13 rs res BB D ⟨s.sl,jZ i1 i2 jd s.h,[],s.an⟩) {ι:Iota} {a:Act} {w:World} (r:SR s.den ι a w) {Qw:Exit->Act->World->Prop}
  (hq:∀(D0:Nat) (ι':Iota) (w':World) (sl:List V) (h:List XO),w.heap.size<=D0->w'.heap[D0]? =some (.deferred (some []))->SR ⟨sl,dens h⟩ ι' ⟨a.tmps,[]⟩ w'->EvN 0 s.den.h ι w (dens h) ι' w' ->
    xops ⟨P,T,0,0,[],inl⟩ ops13 id13 ops13.toList 0 ⟨sl,h,[],[]⟩ (fun s'=>match s' with
     |⟨sl',h',_,_⟩=>match ares P rs sl' (dens h')with
      |some y=>Leaf (y = .v (.string res))/\True
      |none=>False)->Qw .normal ⟨a.tmps,[{target:=.collected D0,args:=#[]}]⟩ w') :
  (Code.block bid (.rangeFunc (.tmp gt) #[p] (.region id11 #[{dst:=some q,op:=.assign (.tmp p),type:=ty11,pos:=pos11,after:=#[],guard:=none}] false) (.block bid2 (.region id12 ops12 true)))).wp P Qw a w:=by
 obtain⟨A1,A2,sv,g,off,cap,hev,hA1,hA2,hb1,hb2,hc1,hc2,hsv,r1,ev1,hn1,hn2,hD⟩:=qHY hh hc r;obtain⟨b1,o1,sp1⟩:=A1;obtain⟨b2,o2,sp2⟩:=A2;(try simp only at hA1 hA2 hb1 hb2 hn1 hn2);subst hA1 hA2;obtain⟨hstart,hround,hend⟩:=hl;generalize hs1:(⟨s.sl,jZ i1 i2 jd s.h,[],s.an⟩:Y)=s1 at hstart hround hend;have hsl1:s1.sl=s.sl:=by rw[<-hs1]
 have hh1:s1.h=jZ i1 i2 jd s.h:=by rw[<-hs1]
 rw[<-hsl1,<-hh1]at r1;rw[<-hh1]at ev1 hn1 hn2 hD;have hdef:a.defers= []:=r.defers;have hact:a=⟨a.tmps,[]⟩:=by cases a;simp at hdef;subst hdef;rfl
 let S:List Int->St:=fun y=>⟨eD [.row ib [.ows (.int .u8) e5]] (y,()) s1.bs (iO W s1.sl),dens (eS [.row ib [.ows (.int .u8) e5]] (y,()) s1.bs s1.h)⟩
 have sizes:∀(x:List Int),(⟨(S x).sl,(S x).h⟩:St)=S x:=fun _=>rfl
 obtain⟨σ0,y0,cut0,⟨⟨hy0⟩,_⟩,hW⟩:=jO (s1:=s1) (s':=s1) ⟨fun _ _=>rfl,rfl,fun _ _ _ _=>rfl⟩ hstart;obtain⟨y0,u0⟩:=y0;(try simp only at hy0);subst hy0;obtain⟨r2,ev2⟩:=cut0.apply r1;have J0:∃ι',SR (S (BB [])) ι' ⟨a.tmps,[]⟩ w/\EvN 0 (dens s1.h) ι w (S (BB [])).h ι' w:=⟨_,hact ▸ r2,ev2⟩
 refine(wpIn_wide (n:=3)).1 ?_;refine wpIn_block ?_;refine wpIn_rangeFunc_ownF rfl (by omega) (gf:=gf) (lb:=#[.pointer (some ⟨b1,o1,none⟩),.pointer (some ⟨b2,o2,none⟩)]) hev trivial eg
  (It.stops (3-1) b1 o1 b2 o2 g off D.length cap sv w hsv hlen hb1 hb2 hc1 hc2) (fun h k=>⟨k.1.trans h.1,k.2.trans h.2⟩)
  (fun X l o o' hle ho hcell _=>⟨dK (World.putObj_heap_other (by simp only;omega)),dK (World.putObj_heap_other (by simp only;omega))⟩) (RowKit.Below.refl _ _) (fun _=>rfl)
  (fun pre X=>∃ι',SR (S (BB (pre.map (fun x=>ck D x.1)))) ι' ⟨a.tmps,[]⟩ X/\EvN 0 (dens s1.h) ι w (S (BB (pre.map (fun x=>ck D x.1)))).h ι' X)
  (fun _ _ _=>False) ?own (fun _ _ _ _ _ q _ _=>q) J0
  (fun x=>⟨(a.tmps.setIfInBounds p (ckV g off D.length x)).setIfInBounds q (ckV g off D.length x),[]⟩) ?assign ?body ?done ?stop
 case own=>
  rintro pre X Y row ⟨ι',q1,q2⟩ hg hr;refine⟨ι',q1.calm (Calm.grown hg (fun r e=>(hr r e).2)),q2.calm (Calm.grown hg (fun r e=>(hr r e).2)) (fun b hb=>?_)⟩;exact hg.block b (Nat.lt_of_lt_of_le hb q2.size) (fun e=>by have:=(hr b e.symm).1;omega)
 case assign=>
  intro l x X K hK;have hz:(#[p].zip #[ckV g off D.length x]).foldl (fun t (p,v)=>t.setIfInBounds p v) a.tmps=a.tmps.setIfInBounds p (ckV g off D.length x):=by simp
  rw[hz];exact GH (by have:=r.slots.1;simp only[Y.den]at this;omega) hK
 case stop=>
  intro D0 c pre X _ _ hF _;exact hF.elim
 case done=>
  rintro D0 xs X hD0 ⟨k,k1,k2,k3⟩ ⟨ι',q1,q2⟩ hdf;simp only[Exit.inBlock];rw[qNR k1 k2 k3]at q1 q2;rw[yY]at hend;have:=hq D0 ι' X _ _ hD0 hdf q1 ((EvN.of ev1).trans q2) hend;rw[hdef];exact this
 case body=>
  rintro l pre x X ⟨ι',q1,q2⟩ hpre;refine wpIn_block ?_;have hr0:=hround (pre.map (fun x=>ck D x.1)) (ck D x.1) (fun z hz=>by
   rcases List.mem_append.1 hz with hz|hz
   ·obtain⟨y,_,rfl⟩:=List.mem_map.1 hz;exact⟨y.1,y.2,rfl⟩
   ·simp at hz;subst hz;exact⟨x.1,x.2,rfl⟩) (by simpa using hpre)
  rw[yY,cF,cF,fY]at hr0;have hDne:D≠ []:=by intro e;subst e;exact absurd x.2 (Nat.not_lt_zero _)
  obtain⟨d1,d2,d3⟩:=hD hDne;have ob1:∀b,b<w.heap.size->¬Ob (dens s1.h) ι b->X.heap[b]? =w.heap[b]? /\¬Ob (S (BB (pre.map (fun x=>ck D x.1)))).h ι' b:=fun b hb hn=>q2.frame b hb hn
  have hgX:=ob1 g d1 (fun h=>d2 (.inr h));have hmX:¬Mt (S (BB (pre.map (fun x=>ck D x.1)))).h ι' g:=by
   rintro(q|q)
   ·rw[q2.away]at q;exact d2 (.inl q)
   ·exact hgX.2 q
  have hrep:Rep X ι' (Mt (S (BB (pre.map (fun x=>ck D x.1)))).h ι') (.sL (.int .i64) (ck D x.1)) (ckV g off D.length x):=
   qNS x (Nat.lt_of_lt_of_le d1 q2.size) hmX (fun j z hj=>(dK hgX.1).trans (d3 j z hj))
  have sr:=q1.slots.sets p hrep;have sr:=SRel.sets sr q hrep;refine wpIn_mono (qJI (E:=⟨P,T,_,0,[],inl⟩) hT hM hc12 hr0 l _ ι' _ X ⟨rfl,sr,q1.heap⟩) ?_;rintro e a3 X3 ⟨st,ι3,⟨rfl,s',rfl,h1,h2⟩,r3,e3⟩;obtain⟨sl',h',tch',an'⟩:=s';(try simp only at h1);have e3':EvN (S (BB (pre.map (fun x=>ck D x.1)))).h.length (S (BB (pre.map (fun x=>ck D x.1)))).h ι' X (dens h') ι3 X3:=by
   have:(S (BB (pre.map (fun x=>ck D x.1)))).h.length=(eS [.row ib [.ows (.int .u8) e5]] (BB (pre.map (fun x=>ck D x.1)),()) s1.bs s1.h).length:=cW _;rw[this];exact e3
  have ev3:=e3'.to q1.heap;have sl3:=q1.slots.mono ev3;have fw:FrW W ⟨eD [.row ib [.ows (.int .u8) e5]] (BB (pre.map (fun x=>ck D x.1)),()) s1.bs (iO W s1.sl),eS [.row ib [.ows (.int .u8) e5]] (BB (pre.map (fun x=>ck D x.1)),()) s1.bs s1.h,[],an'⟩ ⟨eD [.row ib [.ows (.int .u8) e5]] (BB (pre.map (fun x=>ck D x.1)),()) s1.bs (iO W s1.sl),h',tch',an'⟩:=
   ⟨⟨h2.fr.len,h2.fr.tch,h2.fr.h⟩,rfl,fun _ _=>rfl⟩
  obtain⟨σ,y,cut,⟨⟨hy⟩,_⟩,_⟩:=jO (s1:=s1) (s':=⟨eD [.row ib [.ows (.int .u8) e5]] (BB (pre.map (fun x=>ck D x.1)),()) s1.bs (iO W s1.sl),h',tch',an'⟩) (rQ (sl:=s1.sl) (h:=s1.h) (tch:=s1.tch) (t0:=[]) (an:=s1.an) hW fw).1 h1;obtain⟨y,u⟩:=y;(try simp only at hy);subst hy;obtain⟨r4,e4⟩:=cut.apply (s:=(⟨eD [.row ib [.ows (.int .u8) e5]] (BB (pre.map (fun x=>ck D x.1)),()) s1.bs (iO W s1.sl),h',tch',an'⟩:Y).den) (ι:=ι3) (a:=⟨a.tmps,[]⟩) (w:=X3) ⟨rfl,sl3,r3.heap⟩;have etot:EvN 0 (S (BB (pre.map (fun x=>ck D x.1)))).h ι' X (S (BB ((pre++ [x]).map (fun x=>ck D x.1)))).h (ι3.ren σ) X3:=by
   rw[List.map_append];exact(e3'.zero).trans e4
  simp only[Exit.inBlock,ownPostK];have m1:=q2.frame b1 hb1 hn1;have m2:=q2.frame b2 hb2 hn2;refine⟨e3'.keepsOthers q1.heap,⟨dK (e3'.frame b1 (Nat.lt_of_lt_of_le hb1 q2.size) m1.2).1,dK (e3'.frame b2 (Nat.lt_of_lt_of_le hb2 q2.size) m2.2).1⟩,_,?_,q2.trans etot⟩;rw[List.map_append];exact r4
def rfK (P:Program) (inl:FuncId->List V->Y->(V->Y->Prop)->Prop) (T:Tbl) (W:List Nat) (ib:Nat) (e5:TypeId) (gf:FuncId) (gt p q id12:Nat) (ops12:Array Oper) (id13:Nat) (ops13:Array Oper) (rs:List ResultVar) (res:ByteArray)
  (BB:List (List Int)->List Int) (s:Y):Prop:=match EN gf gt s with
 |some (cs,i1,i2,jd,D)=>(match s with
  |⟨sl,h,_,an⟩=>(match Nat.blt p sl.length with
   |true=>needs (decide (D.length<=1099511627776)::cs) (fH (jZ i1 i2 jd h) fun h=>qHW P inl T W ib e5 p q id12 ops12 id13 ops13 rs res BB D ⟨sl,h,[],an⟩)
   |false=>False))
 |none=>False
theorem aG.rf {P:Program} {T:Tbl} {f:FuncId} {fn:Func} {a1 a2 a3 a4 a5 a6:Code} {id11:Nat} {ty11:TypeId} {pos11:String} {ps:List Ty} {pre:Option (Cu ps Prop)} {res:Cu ps RV} (hT:aC P T) (hM:P.follows .mixedOrders=true) (fl:List (Nat×Nat×Nat)) (I:List Nat)
  (hf:P.funcs[f]? =some fn) {gt p q bid bid2 id12:Nat} {ops12:Array Oper} {id13:Nat} {ops13:Array Oper}
  (hb:fn.body=some (.seq a1 (.seq a2 (.seq a3 (.seq a4 (.seq a5 (.seq (.seq a6 (.block bid (.rangeFunc (.tmp gt) #[p] (.region id11 #[{dst:=some q,op:=.assign (.tmp p),type:=ty11,pos:=pos11,after:=#[],guard:=none}] false) (.block bid2 (.region id12 ops12 true))))) (.seq (.region id13 ops13 false) .ret))))))))
  {gf:FuncId} (It:rF P gf) (eg:∀(args:Array Value) (w:World),(callFunc gf args).run P w = .ok (.enter gf args) w)
   (hc12:rJ ops12=true) (W:List Nat) (ib:Nat) (e5:TypeId) (rb:Tup ps->ByteArray) (hrb:∀x,(cu ps res x).val = .v (.string (rb x))) (BB:Tup ps->List (List Int)->List Int)
  (h:∀x:Tup ps,(∀p,pre=some p->cu ps p x)->∃an:List (Nat×Nat×LA),fVs (vals ps x++List.replicate (fn.ntmps-ps.length) (.v undef)) fun sl=>
    xcode ⟨P,T,0,0,fl,jB P T fl I 4⟩ a1 ⟨sl,[],[],an⟩ (pZ (fin P fn.results.toList 0 (cu ps res x) fun _=>True) fun s=>
      xcode ⟨P,T,0,0,fl,jB P T fl I 4⟩ a2 s (pZ (fin P fn.results.toList 0 (cu ps res x) fun _=>True) fun s=>
      xcode ⟨P,T,0,0,fl,jB P T fl I 4⟩ a3 s (pZ (fin P fn.results.toList 0 (cu ps res x) fun _=>True) fun s=>
      xcode ⟨P,T,0,0,fl,jB P T fl I 4⟩ a4 s (pZ (fin P fn.results.toList 0 (cu ps res x) fun _=>True) fun s=>
      xcode ⟨P,T,0,0,fl,jB P T fl I 4⟩ a5 s (pZ (fin P fn.results.toList 0 (cu ps res x) fun _=>True) fun s=>
      xcode ⟨P,T,0,0,fl,jB P T fl I 4⟩ a6 s (pZ (fin P fn.results.toList 0 (cu ps res x) fun _=>True) fun s=>
       rfK P (jB P T fl I 4) T W ib e5 gf gt p q id12 ops12 id13 ops13 fn.results.toList (rb x) (BB x) s))))))):aG P f (.fn ps pre res):=by
 intro x hx;have hlen:=Tup.len ps x;refine⟨fun p hp=>(by cases hp),fun k _=>?_⟩;refine PC.mono (PC.frame (x0:=(cu ps res x).val) (Tup.ni 0 ps x) ?_ k) (fun y k' ⟨h1,h2⟩=>⟨h1,h2⟩);obtain⟨an,hw⟩:=h x hx;rw[iY]at hw;intro ι w vs hp2 hh;have hl:=hp2.1;refine callsIn_wide.1 (callsIn_of_wp_marks (F:=Fence.wide) (n:=3) hf hb trivial (wpIn_wide.2 ?_));have hI:pU ⟨P,T,0,0,fl,jB P T fl I 4⟩:=jC hT hM fl I 4 _ _;have r0:SR (⟨vals ps x++List.replicate (fn.ntmps-ps.length) (.v undef),[],[],an⟩:Y).den ι ⟨vs++Array.replicate (fn.ntmps-vs.size) undef,[]⟩ w:=by
  refine⟨rfl,⟨by simp [Y.den,<-hl,hlen],fun i z hz=>?_⟩,hh⟩;simp only[Y.den]at hz;by_cases h1:i<(vals ps x).length
  ·rw[List.getElem?_append_left h1]at hz
   obtain⟨u,u1,u2⟩:=hp2.2 i z hz;exact⟨u,by rw[Array.getElem?_append_left (by omega)];exact u1,u2⟩
  ·rw[List.getElem?_append_right (by omega),List.getElem?_replicate]at hz
   split at hz
   ·rename_i h2
    injection hz with hz;subst hz;refine⟨undef,?_,.v _⟩;rw[Array.getElem?_append_right (by omega),Array.getElem?_replicate,if_pos (by omega)]
   ·cases hz
 let R:Ending->World->Prop:=fun e w'=>∃y z h' ι',e = .returned y/\Frz zH h' z (cu ps res x).val/\Rep w' ι' (Mt h' ι') z y/\HRel h' ι' w'/\Evolve [] ι w h' ι' w'
 show Code.wp P _ (bodyPostM Fence.wide 3 P fn R) _ w;have ex:∀(e:Exit) (s':Y) (ι':Iota) (a':Act) (w':World),e ≠ .normal->fin P fn.results.toList 0 (cu ps res x) (fun _=>True) e s'->SR s'.den ι' a' w'->EvN 0 (dens []) ι w s'.den.h ι' w'->bodyPostM Fence.wide 3 P fn R e a' w':=by
  intro e s' ι' a' w' he hq r' ev;obtain⟨he2,y,hy,hc⟩:=LI hq;obtain⟨v,v1,v2⟩:=qE r' hy;have:bodyPostM Fence.wide 3 P fn R .ret a' w':=by
   show LeavesInM Fence.wide 3 P fn a'.tmps R a'.defers .returning w';rw[r'.defers];exact⟨v,v1,v,y,s'.den.h,ι',rfl,(AC (τ:=zH) (fun _ _=>rfl) hc).1,v2,r'.heap,EvN.to (h:=[]) (w:=w) (ι:=ι) ev hh⟩
  rcases he2 with rfl|rfl
  ·exact(he rfl).elim
  ·exact this
 refine oV hT hM hI hw r0 (fun s1 ι1 a1 w1 h1 r1 e1=>?_) (fun e s' ι' a' w' he hq r' ev=>ex e s' ι' a' w' he hq r' ev);refine oV hT hM hI h1 r1 (fun s2 ι2 a2 w2 h2 r2 e2=>?_) (fun e s' ι' a' w' he hq r' ev=>ex e s' ι' a' w' he hq r' (e1.trans ev));have e2:=e1.trans e2;refine oV hT hM hI h2 r2 (fun s3 ι3 a3 w3 h3 r3 e3=>?_) (fun e s' ι' a' w' he hq r' ev=>ex e s' ι' a' w' he hq r' (e2.trans ev));have e3:=e2.trans e3;refine oV hT hM hI h3 r3 (fun s4 ι4 a4 w4 h4 r4 e4=>?_) (fun e s' ι' a' w' he hq r' ev=>ex e s' ι' a' w' he hq r' (e3.trans ev));have e4:=e3.trans e4;refine oV hT hM hI h4 r4 (fun s5 ι5 a5 w5 h5 r5 e5'=>?_) (fun e s' ι' a' w' he hq r' ev=>ex e s' ι' a' w' he hq r' (e4.trans ev));have e5':=e4.trans e5';refine wp_seq ?_;refine oV hT hM hI h5 r5 (fun s6 ι6 a6 w6 h6 r6 e6=>?_) (fun e s' ι' a' w' he hq r' ev=>by
  have:=ex e s' ι' a' w' he hq r' (e5'.trans ev);cases e with
  |normal=>exact(he rfl).elim
  |_=>exact this)
 have e6:=e5'.trans e6;unfold rfK at h6;split at h6
 ·rename_i cs i1 i2 jd D hh6
  obtain⟨sl6,hp6,tch6,an6⟩:=s6;(try simp only at h6);split at h6;case h_2=>exact h6.elim
  rename_i hblt;obtain⟨hcs,h6⟩:=bE h6;rw[dA]at h6;refine qHX (T:=T) (inl:=jB P T fl I 4) hT hM It eg hc12 (by simpa only[Nat.blt_eq]using hblt) hh6 (fun c q=>hcs c (List.mem_cons_of_mem _ q)) (of_decide_eq_true (hcs _ (List.mem_cons_self ..))) h6 r6 ?_;intro D0 ι7 w7 sl7 h7 hD0 hdf r7 e7 hx7;have e7:=e6.trans e7;show(Code.seq (.region id13 ops13 false) .ret).wp P (bodyPostM Fence.wide 3 P fn R) ⟨a6.tmps,[{target:=.collected D0,args:=#[]}]⟩ w7;refine wp_seq ?_;refine wp_region ?_;have pol:=MZ (E:=⟨P,T,0,0,[],jB P T fl I 4⟩) hT hI (W:=jL ops13.toList) (fun _ q=>q) ops13.toList 0 ⟨sl7,dens h7 |> fun _=>h7,[],[]⟩ _ (fun o ho d hd=>wF ho d hd) hx7;have hr:List.range ops13.size=List.range' 0 ops13.toList.length:=by rw[List.range_eq_range'];simp
  rw[hr];have wo:=pR (P:=P) [{target:=.collected D0,args:=#[]}] (by rintro⟨a,w,_,_,q,_⟩;cases q.1) _ a6.tmps [] w7 (pol 0 (fun j o hj=>by simpa using hj) ι7 ⟨a6.tmps,[]⟩ w7 r7);refine eV ?_ _ _ _ wo;rintro e a8 w8 ⟨ds,hds,st,ι8,⟨rfl,s8,rfl,k8,_⟩,r8,ev8⟩;have hds0:ds= []:=r8.defers;subst hds0;simp only[List.nil_append]at hds;show Code.wp P .ret (bodyPostM Fence.wide 3 P fn R) a8 w8;refine wp_ret ?_;show LeavesInM Fence.wide 3 P fn a8.tmps R a8.defers .returning w8;rw[hds];have hdf8:w8.heap[D0]? =some (.deferred (some [])):=((EvN.of (n:=0) ev8).keepsOthers r7.heap).same D0 _ hdf rfl;refine⟨by simp,.inl ⟨D0,_,rfl,run_takeDeferred hdf8,?_⟩⟩;have hg:=grownBy_putObj' w8 D0 (.deferred none);have hcalm:=Calm.grown hg (fun r e=>by cases e;exact⟨_,hdf8,rfl⟩);have r9:=r8.calm hcalm;have e9:=(e7.trans (EvN.of ev8)).calm hcalm (fun b hb=>hg.block b (Nat.lt_of_lt_of_le hb (Nat.le_trans (e7.trans (EvN.of ev8)).size (Nat.le_refl _))) (fun q=>by injection q with q;have:=e6.size;omega));obtain⟨sl8,hp8,tch8,an8⟩:=s8;(try simp only at k8);split at k8
  ·rename_i y hy
   obtain⟨⟨hy2⟩,_⟩:=k8;obtain⟨v,v1,v2⟩:=qE r9 hy;subst hy2;exact⟨v,v1,v,_,_,ι8,rfl,by rw[hrb];exact Frz.tree (.v _),v2,r9.heap,EvN.to (h:=[]) (w:=w) (ι:=ι) e9 hh⟩
  ·exact k8.elim
 ·exact h6.elim
end Go.Abs
namespace Go.Proofs.YtcjiefknhfhmkaaGreatDoor
open Go.Abs
set_option maxRecDepth 100000
set_option maxHeartbeats 4000000
set_option linter.unusedVariables false
set_option linter.unusedSimpArgs false
abbrev yE:Ct:=.fn [.int .i64,.list bP] (some (fun(t:Int) (l:List Val)=>(l.length<=4096)/\(∀v,v∈l->okV v))) (fun(t:Int) (l:List Val)=>.d .str (plL t l))
theorem qCJ:aG Tryz.prog 109 yE:=by
 refine aG.fn RU mixed [] [] rfl rfl ?_;rintro⟨(t:Int),(l:List Val),_⟩ hpre;replace hpre:=hpre _ rfl;dsimp only[cu]at hpre;obtain⟨hl,hv⟩:=hpre;refine⟨[(0,6,LA.mk [.sl 10 (.int .i64),.row 0 [.osf 0,.own (.int .u8) (⟨5,1⟩:El)]] (fun y=>Tag 68/\cu [.int .i64,.bool,.list (.int .u8)] (fun(k:Int) (b0:Bool) (B:List Int)=>(0<=k/\k<=l.length)/\(plL t l=aN B++plL t (l.drop k.toNat))/\((B.length:Int)<=1048586*k)) y) (cu [.int .i64,.bool,.list (.int .u8)] (fun(k:Int) (b0:Bool) (B:List Int)=>((l.length:Int)-k).toNat)) (cu [.int .i64,.bool,.list (.int .u8)] (fun(k:Int) (b0:Bool) (B:List Int)=>([]:List (Nat×Nat×LA)))))],?_⟩;repeat' (first
  |(
 with_reducible refine Side.mk ⟨(⟨⟩:Tag 68),?_⟩
 dsimp only[cu,aB,aA,gts,eE,eN]
 refine⟨?_,?_,?_⟩
 ·omega
 ·first
  |(
  show plL t l=ByteArray.empty++plL t l
  rw[ByteArray.empty_append])
  |(
  have hat:=xH hv k.toNat
  have hat1:=hat.1
  have h64:=aT (n:=(l[k.toNat]!.2.2.size:Int)) (by omega)
  have p1:=bJ (l[k.toNat]!.2.2.size:Int)
  have p2:=bJ (fT l[k.toNat]!.2.1)
  first
  |(
   have ht:t=3:=by with_reducible assumption
   rw[hB,vN (by omega),plV,if_pos ht,h64,bQ,bC];simp only[ByteArray.append_assoc])
  |(
   have ht:¬t=3:=by with_reducible assumption
   rw[hB,vN (by omega),plV,if_neg ht,bQ,bC];simp only[ByteArray.append_assoc]))
 ·first
  |exact Int.le_refl _
  |(
  have hat:=xH hv k.toNat
  have hat1:=hat.1
  have h64:=aT (n:=(l[k.toNat]!.2.2.size:Int)) (by omega)
  have p1:=bJ (l[k.toNat]!.2.2.size:Int)
  have p2:=bJ (fT l[k.toNat]!.2.1)
  simp only[List.length_append,aY,ByteArray.size_append,h64]
  omega))
  |(
 with_reducible apply Side.mk
 (try dsimp only[cu,aB,aA,gts,loK,hiK,eE,eN])
 first
 |done
 |omega
 |exact Eq.refl _
 |exact gQ _
 |(
  have hat:=xH hv k.toNat;have hat1:=hat.1;have h64:=aT (n:=(l[k.toNat]!.2.2.size:Int)) (by omega);have p1:=bJ (l[k.toNat]!.2.2.size:Int);have p2:=bJ (fT l[k.toNat]!.2.1);first
  |exact kJ hat.2
  |exact hat.2
  |(
   (try simp only[ByteArray.size_append,h64]);omega)))
  |(conv=>whnf
    first
     |with_reducible first|done|exact trivial|refine NilBr.mk (fun h=>?_) ?_|apply aJ|apply aI|refine aK (by kernel_rfl) ?_|apply aL|apply bA|apply aZ|apply aO
     |((with_reducible first|apply aQ|apply aP|apply aX)<;>intro h<;>(try dsimp only[cu,eE,eN]at h)<;>(try(exfalso;omega)))
     |(
 intro yy (hy:Tag 68/\_)
 obtain⟨(k:Int),(b0:Bool),(B:List Int),_⟩:=yy
 replace hy:=hy.2
 dsimp only[cu,aB,aA,gts,eE,eN]at hy
 obtain⟨hk,hB,hz⟩:=hy
 rcases b0 with _|_)))
 all_goals(
 with_reducible apply Leaf.mk
 (try dsimp only[cu,aB,aA,gts,eE,eN]at *)
 rw[hB,List.drop_eq_nil_of_le (by omega),plL,ByteArray.append_empty])
abbrev qM8:Tbl:=(109,yE)::qM7
theorem RW:aC Tryz.prog qM8:=aC.cons qCJ RU
open Go.RowKit
theorem usub (v m:Int):IntKind.u64.wrap (IntKind.u64.wrap v-IntKind.u64.wrap m)=IntKind.u64.wrap (IntKind.i64.wrap (v-m)):=by
 simp [IntKind.wrap,IntKind.bits,IntKind.signed];omega
def usF (m:Int) (D:List Int) (k:Int):List Int:=usL m (D.take k.toNat)++List.replicate (D.length-k.toNat) 0
theorem qJA (m:Int) (D:List Int):List.replicate D.length 0=usF m D 0:=by simp [usF,usL]
theorem MW (m:Int) (D:List Int) (k:Int) (h:0<=k/\k<=D.length):(usF m D k).length=D.length:=by
 simp [usF,usL];omega
theorem qME {m:Int} {D:List Int} {k:Int} (h:0<=k/\k<D.length):(usF m D k).set k.toNat (IntKind.u64.wrap (IntKind.i64.wrap (D[k.toNat]! - m)))=usF m D (k+1):=by
 unfold usF;rw[FD h];have hl:(usL m (D.take k.toNat)).length=k.toNat:=by simp [usL];omega
 rw[List.set_append_right _ _ (by omega),hl,Nat.sub_self,show D.length-k.toNat=(D.length-(k+1).toNat)+1 by omega,List.replicate_succ,List.set_cons_zero,List.append_assoc];rfl
theorem qBP {m:Int} {D:List Int} {k:Int} (h:0<=k/\k<D.length) (v:Int):((usF m D k).set k.toNat v)[k.toNat]! =v:=by
 rw[getElem!_pos _ _ (by rw[List.length_set,MW _ _ _ (by omega)];omega),List.getElem_set_self]
theorem SP {m:Int} {D:List Int} {k:Int} (h:k=D.length):usF m D k=usL m D:=by
 unfold usF;rw[List.take_of_length_le (by omega),show D.length-k.toNat=0 by omega,List.replicate_zero,List.append_nil]
theorem qG0 {m:Int} {D:List Int} {k:Int} (h:0<=k/\k<D.length):mwL (usL m (D.take (k+1).toNat))=cQ (mwL (usL m (D.take k.toNat))) (lZ (IntKind.u64.wrap (IntKind.i64.wrap (D[k.toNat]! - m)))):=by
 rw[FD h,XK]
theorem qGZ {D:List Int} (h:1<=D.length) (hv:∀x,x∈D->inI x):inI (mnL D):=hv _ (XJ (fun e=>by rw[e]at h;simp at h))
abbrev BM:Ct:=.fn [.list (.int .i64)] (some (fun(d:List Int)=>(1<=d.length/\d.length<=1073741824)/\(∀x,x∈d->inI x))) (fun(d:List Int)=>.d .str (BH d))
theorem qE3:aG Tryz.prog 178 BM:=by
 refine aG.fn RW mixed [] [] rfl rfl ?_;rintro⟨(d:List Int),_⟩ hpre;replace hpre:=hpre _ rfl;dsimp only[cu]at hpre;obtain⟨hl,hv⟩:=hpre;refine⟨[(0,10,LA.mk [.sl 17 (.int .i64),.ar 0 (.int .u64) 86,.sl 5 (.int .i64)] (fun y=>Tag 69/\cu [.int .i64,.list (.int .u64),.int .i64] (fun(k:Int) (o:List Int) (w:Int)=>(0<=k/\k<=d.length)/\(o=usF (mnL d) d k)/\(w=mwL (usL (mnL d) (d.take k.toNat)))) y) (cu [.int .i64,.list (.int .u64),.int .i64] (fun(k:Int) (o:List Int) (w:Int)=>((d.length:Int)-k).toNat)) (cu [.int .i64,.list (.int .u64),.int .i64] (fun(k:Int) (o:List Int) (w:Int)=>([]:List (Nat×Nat×LA)))))],?_⟩;repeat' (first
  |(
 with_reducible refine Side.mk ⟨(⟨⟩:Tag 69),?_⟩
 dsimp only[cu,aB,aA,gts,eE,eN]
 refine⟨?_,?_,?_⟩
 ·omega
 ·first
  |exact qJA _ _
  |rw[ho,usub,qME (by omega)]
 ·first
  |rfl
  |(
  (try simp only[MU])
  rw[ho,usub,qBP (by omega),qG0 (by omega),<-hw]))
  |(
 with_reducible apply Side.mk
 (try dsimp only[cu,aB,aA,gts,loK,hiK,eE,eN])
 first
 |omega
 |(
  have hol:=MW (mnL d) d k (by omega);rw[<-ho]at hol;(try simp only[List.length_set]);omega)
 |(
  (try simp only[MU]);rw[ho,usub,qBP (by omega)];exact gQ _)
 |exact qGZ hl.1 hv
 |exact kJ (qGZ hl.1 hv)
 |(
  have hof:o=usL (mnL d) d:=by rw[ho,SP (by omega)]
  have hol:=MW (mnL d) d k (by omega);rw[<-ho]at hol;refine⟨fun q=>?_,by omega⟩;rw[hof];exact qBQ _ _ q)
 |(
  have h1:=bJ (fT (mnL d));have h2:=iK o w;simp only[ByteArray.size_append,qT,bM [_],List.length_cons,List.length_nil];omega))
  |(conv=>whnf
    first
     |with_reducible first|done|exact trivial|refine NilBr.mk (fun h=>?_) ?_|apply aJ|apply aI|refine aK (by kernel_rfl) ?_|apply aL|apply bA|apply aZ|apply aO
     |((with_reducible first|apply aQ|apply aP|apply aX)<;>intro h<;>(try dsimp only[cu,eE,eN]at h)<;>(try(exfalso;omega)))
     |(
 intro yy (hy:Tag 69/\_)
 obtain⟨(k:Int),(o:List Int),(w:Int),_⟩:=yy
 replace hy:=hy.2
 dsimp only[cu,aB,aA,gts,eE,eN]at hy
 obtain⟨hk,ho,hw⟩:=hy)))
 all_goals(
 with_reducible apply Leaf.mk
 (try dsimp only[cu,aB,aA,gts,eE,eN]at *)
 (
  have hof:o=usL (mnL d) d:=by rw[ho,SP (by omega)]
  have hwf:w=mwL (usL (mnL d) d):=by rw[hw,List.take_of_length_le (by omega)]
  unfold BH;rw[<-hof,hwf,<-hof];(try rfl)))
abbrev qM9:Tbl:=(178,BM)::qM8
theorem RY:aC Tryz.prog qM9:=aC.cons qE3 RW
set_option maxRecDepth 100000 in
set_option maxHeartbeats 2000000 in
theorem qFC:rF Tryz.prog 200:=by
 intro n l b1 o1 b2 o2 g off len cap N sv hsv hlen hN J Jx hJ hY W h1 h2 h0;rcases hsv with⟨rfl,rfl⟩|⟨rfl,hcap⟩
 ·refine callsIn_of_wp Tryz.func200 rfl trivial ?_ rfl
  simp only[Tryz.ntmps200,List.size_toArray,List.length_cons,List.length_nil,Nat.reduceAdd,Nat.reduceSub,Array.replicate_succ,Array.replicate_zero,List.push_toArray,List.append_toArray,List.nil_append,List.cons_append];gi_wp2
  gi_loopw [4] (fun i wr=>i = .int .i64 0/\J [] wr/\Kp ⟨b1,o1,none⟩ ⟨b2,o2,none⟩ W wr) (fun i _=>0)
  case atStart=>exact⟨rfl,h0,rfl,rfl⟩
  case round=>
   obtain⟨rfl,hJs,hk1,hk2⟩:=hrel;have c1:wr.cell? ⟨b1,o1,none⟩=some (.slice none 0 0):=hk1.trans h1;have c2:wr.cell? ⟨b2,o2,none⟩=some (.int .i64 32):=hk2.trans h2;gi_wp2
   go_end0
   exact⟨⟨_,rfl⟩,.inl ⟨[],⟨0,rfl,by omega,by omega⟩,hJs⟩⟩
 ·refine callsIn_of_wp Tryz.func200 rfl trivial ?_ rfl
  simp only[Tryz.ntmps200,List.size_toArray,List.length_cons,List.length_nil,Nat.reduceAdd,Nat.reduceSub,Array.replicate_succ,Array.replicate_zero,List.push_toArray,List.append_toArray,List.nil_append,List.cons_append];gi_wp2
  gi_loopw [4] (fun i wr=>∃(k:Nat) (ys:List (Ck len)),i = .int .i64 ((32*k:Nat):Int)/\ys.map (·.1)=List.range k/\32*k<len+32/\J ys wr/\Kp ⟨b1,o1,none⟩ ⟨b2,o2,none⟩ W wr)
   (fun i _=>len+32-(intOf i).toNat)
  case atStart=>exact⟨0,[],rfl,rfl,by omega,h0,rfl,rfl⟩
  case round=>
   obtain⟨k,ys,rfl,hys,hk,hJs,hk1,hk2⟩:=hrel;have c1:wr.cell? ⟨b1,o1,none⟩=some (.slice (some ⟨g,off,none⟩) len cap):=hk1.trans h1;have c2:wr.cell? ⟨b2,o2,none⟩=some (.int .i64 32):=hk2.trans h2;by_cases hlt:32*k<len
   ·have hyl:ys.length=k:=by have:=congrArg List.length hys;simpa using this
    gi_wp2
    gi_region
    obtain⟨m,hm⟩:∃m,m=min 32 (len-32*k):=⟨_,rfl⟩
    have hmi:(if((len-32*k:Nat):Int)<32 then((len-32*k:Nat):Int)else 32)=((m:Nat):Int):=by
     rw[hm];split<;>omega
    have hm1:32*k+m<=len/\1<=m/\m<=32:=by omega
    have hJd:J ys wr.drew:=hJ ys wr wr.drew none hJs ⟨rfl,rfl,rfl,Nat.le_refl _,fun k _ _=>rfl⟩ (fun r q=>by cases q);obtain⟨fn,tmps,assign,body,hy,hR⟩:=hY ys ⟨k,hlt⟩ wr.drew hJd (by omega);have c1:wr.drew.cell? ⟨b1,o1,none⟩=some (.slice (some ⟨g,off,none⟩) len cap):=c1;have c2:wr.drew.cell? ⟨b2,o2,none⟩=some (.int .i64 32):=c2;dsimp only[ckV]at hy;first|rw[hmi]|rw[show min (32:Int) ((len-32*k:Nat):Int)=((m:Nat):Int)by rw[hm];omega]
    gi_wp2
    refine⟨(by intro q;cases q),hR.mono ?_⟩;rintro e W3 (⟨rfl,hJ3,hk31,hk32⟩|⟨rfl,hJx3⟩)
    ·have c3:W3.cell? ⟨b2,o2,none⟩=some (.int .i64 32):=hk32.trans c2
     gi_wp2
     go_roundw
     case rel=>exact⟨k+1,ys++ [⟨k,hlt⟩],by simp;omega,by rw[List.map_append,hys,List.range_succ];rfl,by omega,hJ3,hk31.trans hk1,hk32.trans hk2⟩
     case measure=>simp [intOf];omega
    ·gi_wp2
     refine bodyPost_ret (results_none rfl _ _ _) rfl ?_;exact⟨⟨_,rfl⟩,.inr ⟨_,hJx3⟩⟩
   ·gi_wp2
    go_end0
    exact⟨⟨_,rfl⟩,.inl ⟨ys,⟨k,hys,by omega,by omega⟩,hJs⟩⟩
def bbD (x:Int) (cs:List (List Int)):List Int:=bF (aN (put (fT x)))++cs.flatMap fun c=>bF (BH c)
theorem qJO (x:Int) (cs:List (List Int)) (c:List Int):bbD x (cs++ [c])=bbD x cs++bF (BH c):=by simp [bbD]
theorem qJP (x:Int):∀cs:List (List Int),(bbD x cs).length<=10+32779*cs.length:=by
 intro cs;unfold bbD;have h1:=bJ (fT x);rw[List.length_append,aY];have:(cs.flatMap fun c=>bF (BH c)).length<=32779*cs.length:=by
  induction cs with
  |nil=>exact Nat.zero_le _
  |cons c cs ih=>
   have h2:=wU c;rw[List.flatMap_cons,List.length_append,aY,List.length_cons];omega
 omega
theorem qKT {D x:List Int} (h:qPV D x):1<=x.length/\x.length<=32/\∀z,z∈x->z∈D:=by
 obtain⟨k,h1,rfl⟩:=h;unfold ck;refine⟨by simp;omega,by simp;omega,fun z hz=>List.mem_of_mem_drop (List.mem_of_mem_take hz)⟩
theorem OW:∀(n:Nat) (D:List Int),D.length<=n->pV D=aN ((ckL D).flatMap fun c=>bF (BH c))
 |n,D,h=>by
  rw[pV];split
  ·rename_i h0
   have:ckL D= []:=by unfold ckL;rw[h0];rfl
   rw[this];rfl
  ·rename_i h0
   obtain⟨m,rfl⟩:∃m,n=m+1:=⟨n-1,by omega⟩
   have e:ckL D=D.take 32::ckL (D.drop 32):=by
    unfold ckL;rw[List.length_drop,show(D.length+31)/32=(D.length-32+31)/32+1 by omega,List.range_succ_eq_map,List.map_cons,List.map_map];rw[show ck D 0=D.take 32 by simp [ck]];congr 1
    refine List.map_congr_left fun k _=>?_
    simp only[Function.comp,ck,List.drop_drop];rw[show 32*k.succ=32+32*k by omega]
   rw[e,List.flatMap_cons,bQ,bC,OW m (D.drop 32) (by simp;omega)]
theorem qNU {l:List Int}:∀x,x∈dfs l->inI x:=fun x hx=>by
 unfold dfs at hx;obtain⟨j,_,rfl⟩:=List.mem_map.1 hx;exact AR _
theorem qFT {l:List Int} {k:Int} (h:0<=k/\k<(l.length:Int)-1):(dfs l).take (k+1).toNat=(dfs l).take k.toNat++ [IntKind.i64.wrap ((l.drop 1)[k.toNat]! - l[k.toNat]!)]:=by
 rw[wC (by rw[kE];omega),WN (by omega),qI,Nat.add_comm 1]
theorem qKA {l:List Int} (h:¬(l.length=0\/l.length>4096)):aN (bbD l[0]! (ckL (dfs l)))=fW l:=by
 rw[fW,if_neg h,bbD,bQ,bC,<-OW _ _ (Nat.le_refl _)]
abbrev GU:Ct:=.fn [.list (.int .i64)] (some (fun(l:List Int)=>(l.length<=1073741824)/\(∀x,x∈l->inI x))) (fun(l:List Int)=>.d .str (fW l))
theorem qKB:aG Tryz.prog 152 GU:=by
 refine aG.rf RY mixed [(0,8,6)] [177] rfl rfl (qFC:rF Tryz.prog 200) (enters_of Tryz.func200 (by kernel_rfl) rfl) rfl [0,1,2,4,5,6,7,8,9,10,11,12,13,14,15,16,17,18,19,20,21,22,23,24,25,26,27,28,29,30,31,32,33,34,35,36,37,38,39,40,41,42,43,44,45,46,47,48] 1 5 (cu [.list (.int .i64)] (fun(l:List Int)=>fW l)) (fun _=>rfl) (cu [.list (.int .i64)] (fun(l:List Int)=>fun(cs:List (List Int))=>bbD l[0]! cs)) ?_;rintro⟨(l:List Int),_⟩ hpre;replace hpre:=hpre _ rfl;dsimp only[cu]at hpre;obtain⟨hl,hv⟩:=hpre;have hd:(List.drop (Int.toNat 1) l).length=l.length-1:=List.length_drop;refine⟨[(0,12,LA.mk [.sl 25 (.int .i64),.lst 4 (.int .i64) 2] (fun y=>Tag 70/\cu [.int .i64,.list (.int .i64)] (fun(k:Int) (M:List Int)=>(0<=k/\k<=(l.length:Int)-1)/\(M=(dfs l).take k.toNat)) y) (cu [.int .i64,.list (.int .i64)] (fun(k:Int) (M:List Int)=>((l.length:Int)-1-k).toNat)) (cu [.int .i64,.list (.int .i64)] (fun(k:Int) (M:List Int)=>([]:List (Nat×Nat×LA)))))],?_⟩;repeat' (first
  |(
 intro(pre:List (List Int)) (x:List Int) hz hp
 have hmf:M=dfs l:=by rw[hM,List.take_of_length_le (by rw[kE];omega)]
 have hck:=qKT (hz x (by simp))
 have hbl:=qJP l[0]! pre
 rw[hmf,kE]at hp
 rw[hmf]at hck)
  |(
 with_reducible refine Side.mk ⟨(⟨⟩:Tag 70),?_⟩
 dsimp only[cu,aB,aA,gts,eE,eN]
 refine⟨?_,?_⟩
 ·omega
 ·first
  |rfl
  |(
  rw[qFT (by omega),<-hM]
  (try rfl)))
  |(
 with_reducible apply Side.mk
 (try dsimp only[cu,aB,aA,gts,loK,hiK,eE,eN])
 first
 |done
 |omega
 |exact Eq.refl _
 |exact(aY _).symm
 |exact pB hv _
 |exact kJ (pB hv _)
 |(
  have hml:=congrArg List.length hM;rw[List.length_take,kE]at hml;(try simp only[List.length_cons,List.length_nil]);omega)
 |exact⟨⟨hck.1,by omega⟩,fun z q=>qNU z (hck.2.2 z q)⟩
 |(
  have hb2:=wU x;(try simp only[aY,List.length_append]);omega))
  |(conv=>whnf
    first
     |with_reducible first|done|exact trivial|refine RfAnd.mk ?_ ?_ ?_|refine NilBr.mk (fun h=>?_) ?_|apply aJ|apply aI|refine aK (by kernel_rfl) ?_|apply aL|apply bA|apply aZ|apply aO
     |((with_reducible first|apply aQ|apply aP|apply aX)<;>intro h<;>(try dsimp only[cu,eE,eN]at h)<;>(try(exfalso;omega)))
     |(
 intro yy (hy:Tag 70/\_)
 obtain⟨(k:Int),(M:List Int),_⟩:=yy
 replace hy:=hy.2
 dsimp only[cu,aB,aA,gts,eE,eN]at hy
 obtain⟨hk,hM⟩:=hy)))
 all_goals(
 with_reducible apply Leaf.mk
 (try dsimp only[cu,aB,aA,gts,eE,eN]at *)
 first
 |rw[fW,if_pos (by omega)]
 |(
  (try simp only[List.flatMap_nil,List.append_nil,bbD]);rfl)
 |rw[qJO]
 |(
  have hmf:M=dfs l:=by rw[hM,List.take_of_length_le (by rw[kE];omega)]
  rw[hmf,qKA (by omega)]))
abbrev qNA:Tbl:=(152,GU)::qM9
theorem RZ:aC Tryz.prog qNA:=aC.cons qKB RY
theorem qDQ {m:List Int} (h:1<=m.length):runs m=((eZ m[0]! (m.drop 1):Int)+1,m[0]!)::runs (m.drop ((eZ m[0]! (m.drop 1):Int)+1).toNat):=by
 cases m with
 |nil=>simp at h
 |cons v l=>
  rw[runs];simp only[List.drop_succ_cons,List.drop_zero,List.getElem!_cons_zero];rw[show((eZ v l:Int)+1).toNat=eZ v l+1 by omega,List.drop_succ_cons]
abbrev GV:Ct:=.fn [.list (.int .i64)] (some (fun(l:List Int)=>(l.length<=1073741824)/\(∀x,x∈l->inI x))) (fun(l:List Int)=>.d .str (lV l))
theorem qKC:aG Tryz.prog 151 GV:=by
 refine aG.fn RZ mixed [] [] rfl rfl ?_;rintro⟨(l:List Int),_⟩ hpre;replace hpre:=hpre _ rfl;dsimp only[cu]at hpre;obtain⟨hl,hv⟩:=hpre;refine⟨[(0,4,LA.mk [.sl 0 (.list (.int .i64)),.lst 3 (.int .u8) (⟨5,1⟩:El)] (fun y=>Tag 71/\cu [.list (.int .i64),.list (.int .u8)] (fun(m:List Int) (B:List Int)=>(m.length<=l.length/\∀x,x∈m->inI x)/\(lV l=aN B++aN (FQ (runs m)))/\((B.length:Int)<=20*(l.length-m.length))) y) (cu [.list (.int .i64),.list (.int .u8)] (fun(m:List Int) (B:List Int)=>m.length)) (cu [.list (.int .i64),.list (.int .u8)] (fun(m:List Int) (B:List Int)=>([]:List (Nat×Nat×LA)))))],?_⟩;repeat' (first
  |(
 with_reducible refine Side.mk ⟨(⟨⟩:Tag 71),?_⟩
 dsimp only[cu,aB,aA,gts,eE,eN]
 refine⟨?_,?_,?_⟩
 ·first
  |exact⟨Nat.le_refl _,hv⟩
  |(
  have hr:=mM m[0]! (m.drop 1)
  rw[List.length_drop]at hr
  exact⟨by simp;omega,fun x q=>hm.2 x (List.mem_of_mem_drop q)⟩)
 ·first
  |(
  show lV l=ByteArray.empty++lV l
  rw[ByteArray.empty_append])
  |(
  (try simp only[Int.toNat_zero])
  have hr:=mM m[0]! (m.drop 1)
  rw[List.length_drop]at hr
  have hu:=aT (n:=(eZ m[0]! (m.drop 1):Int)+1) (by omega)
  rw[hx,qDQ (by omega),FQ,hu]
  simp only[bQ,bC,ByteArray.append_assoc])
 ·first
  |simp only[List.length_nil];omega
  |(
  (try simp only[Int.toNat_zero])
  have hr:=mM m[0]! (m.drop 1)
  rw[List.length_drop]at hr
  have p1:=bJ (IntKind.u64.wrap ((eZ m[0]! (m.drop 1):Int)+1))
  have p2:=bJ (fT m[0]!)
  simp only[List.length_append,aY,List.length_drop]
  omega))
  |(
 with_reducible apply Side.mk
 (try dsimp only[cu,aB,aA,gts,loK,hiK,eE,eN])
 first
 |done
 |omega
 |exact Eq.refl _
 |exact pB hm.2 _
 |exact kJ (pB hm.2 _)
 |exact gQ _
 |(
  have hr:=mM m[0]! (m.drop 1);rw[List.length_drop]at hr;first
  |omega
  |(
   (try simp only[List.length_drop]);omega))
 |(
  (try simp only[Int.toNat_zero]);have hr:=mM m[0]! (m.drop 1);rw[List.length_drop]at hr;have p1:=bJ (IntKind.u64.wrap ((eZ m[0]! (m.drop 1):Int)+1));have p2:=bJ (fT m[0]!);(try simp only[List.length_append,aY]);omega))
  |(conv=>whnf
    first
     |with_reducible first|done|exact trivial|refine NilBr.mk (fun h=>?_) ?_|apply aJ|apply aI|refine aK (by kernel_rfl) ?_|apply aL|apply bA|apply aZ|apply aO
     |((with_reducible first|apply aQ|apply aP|apply aX)<;>intro h<;>(try dsimp only[cu,eE,eN]at h)<;>(try(exfalso;omega)))
     |(
 intro yy (hy:Tag 71/\_)
 obtain⟨(m:List Int),(B:List Int),_⟩:=yy
 replace hy:=hy.2
 dsimp only[cu,aB,aA,gts,eE,eN]at hy
 obtain⟨hm,hx,hz⟩:=hy)))
 all_goals(
 with_reducible apply Leaf.mk
 (try dsimp only[cu,aB,aA,gts,eE,eN]at *)
 (
  have hm0:m= []:=List.eq_nil_of_length_eq_zero (by omega);rw[hx,hm0,runs,FQ];show _=aN B++ByteArray.empty;simp))
abbrev qNB:Tbl:=(151,GV)::qNA
theorem SA:aC Tryz.prog qNB:=aC.cons qKC RZ
def zZ {α:Type} (f:Val->α) (z:α) (l:List Val) (k:Int):List α:=(l.take k.toNat).map f++List.replicate (l.length-k.toNat) z
theorem xI {α:Type} (f:Val->α) (z:α) (l:List Val):List.replicate l.length z=zZ f z l 0:=by simp [zZ]
theorem qU {α:Type} (f:Val->α) (z:α) (l:List Val) (k:Int) (h:0<=k/\k<=l.length):(zZ f z l k).length=l.length:=by simp [zZ];omega
theorem DY {α:Type} {f:Val->α} {z:α} {l:List Val} {k:Int} (h:0<=k/\k<l.length):(zZ f z l k).set k.toNat (f l[k.toNat]!)=zZ f z l (k+1):=by
 unfold zZ;rw[oU h];have hl:((l.take k.toNat).map f).length=k.toNat:=by simp;omega
 rw[List.set_append_right _ _ (by omega),hl,Nat.sub_self,show l.length-k.toNat=(l.length-(k+1).toNat)+1 by omega,List.replicate_succ,List.set_cons_zero,List.map_append,List.append_assoc];rfl
theorem gC {α:Type} {f:Val->α} {z:α} {l:List Val} {k:Int} (h:k=l.length):zZ f z l k=l.map f:=by
 unfold zZ;rw[List.take_of_length_le (by omega),show l.length-k.toNat=0 by omega,List.replicate_zero,List.append_nil]
abbrev GS:Ct:=.fn [.int .i64,.list bP] (some (fun(c:Int) (l:List Val)=>(2<=c/\c<=4)/\(l.length<=4096)/\(∀v,v∈l->okV v))) (fun(c:Int) (l:List Val)=>.d .str (gW 0 c l))
theorem qJZ:aG Tryz.prog 111 GS:=by
 refine aG.fn SA mixed [] [] rfl rfl ?_;rintro⟨(c:Int),(l:List Val),_⟩ hpre;replace hpre:=hpre _ rfl;dsimp only[cu]at hpre;obtain⟨hc,hl,hv⟩:=hpre;refine⟨[(0,6,LA.mk [.sl 17 (.int .i64),.ar 0 (.int .i64) 2,.ar 1 .str 9] (fun y=>Tag 72/\cu [.int .i64,.list (.int .i64),.list .str] (fun(k:Int) (M:List Int) (S:List ByteArray)=>(0<=k/\k<=l.length)/\(M=zZ (fun v:Val=>v.2.1) (0:Int) l k)/\(S=zZ (fun v:Val=>v.2.2) (⟨#[]⟩:ByteArray) l k)) y) (cu [.int .i64,.list (.int .i64),.list .str] (fun(k:Int) (M:List Int) (S:List ByteArray)=>((l.length:Int)-k).toNat)) (cu [.int .i64,.list (.int .i64),.list .str] (fun(k:Int) (M:List Int) (S:List ByteArray)=>([]:List (Nat×Nat×LA)))))],?_⟩;repeat' (first
  |(
 with_reducible refine Side.mk ⟨(⟨⟩:Tag 72),?_⟩
 dsimp only[cu,aB,aA,gts,eE,eN]
 refine⟨?_,?_,?_⟩
 ·omega
 ·first
  |exact xI _ _ _
  |(
  rw[hM]
  exact DY (f:=fun v:Val=>v.2.1) (by omega))
 ·first
  |exact xI _ _ _
  |(
  rw[hS]
  exact DY (f:=fun v:Val=>v.2.2) (by omega)))
  |(
 with_reducible apply Side.mk
 (try dsimp only[cu,aB,aA,gts,loK,hiK,eE,eN])
 first
 |omega
 |(
  have hml:=qU (fun v:Val=>v.2.1) (0:Int) l k (by omega);rw[<-hM]at hml;have hsl:=qU (fun v:Val=>v.2.2) (⟨#[]⟩:ByteArray) l k (by omega);rw[<-hS]at hsl;omega)
 |(
  have hf:M=mY l:=by rw[hM,gC (by omega)];rfl
  have hg:S=tA l:=by rw[hS,gC (by omega)];rfl
  have hml:=qU (fun v:Val=>v.2.1) (0:Int) l k (by omega);rw[<-hM]at hml;have hsl:=qU (fun v:Val=>v.2.2) (⟨#[]⟩:ByteArray) l k (by omega);rw[<-hS]at hsl;first
  |(
   refine⟨by omega,?_⟩;rw[hf];exact XN hv)
  |(
   refine⟨?_,by omega⟩;rw[hg];exact MN hv)))
  |(conv=>whnf
    first
     |with_reducible first|done|exact trivial|refine NilBr.mk (fun h=>?_) ?_|apply aJ|apply aI|refine aK (by kernel_rfl) ?_|apply aL|apply bA|apply aZ|apply aO
     |((with_reducible first|apply aQ|apply aP|apply aX)<;>intro h<;>(try dsimp only[cu,eE,eN]at h)<;>(try(exfalso;omega)))
     |(
 intro yy (hy:Tag 72/\_)
 obtain⟨(k:Int),(M:List Int),(S:List ByteArray),_⟩:=yy
 replace hy:=hy.2
 dsimp only[cu,aB,aA,gts,eE,eN]at hy
 obtain⟨hk,hM,hS⟩:=hy)))
 all_goals(
 with_reducible apply Leaf.mk
 (try dsimp only[cu,aB,aA,gts,eE,eN]at *)
 first
 |(
  have hf:M=mY l:=by rw[hM,gC (by omega)];rfl
  have hg:S=tA l:=by rw[hS,gC (by omega)];rfl
  first
  |(
   have hc2:c=2:=by with_reducible assumption
   rw[gW,if_pos hc2,hf])
  |(
   have hc2:¬c=2:=by with_reducible assumption
   first
   |(
    have hc4:c=4:=by with_reducible assumption
    rw[gW,if_neg hc2,if_neg (by omega),if_pos hc4,hf])
   |(
    have hc3:c=3:=by with_reducible assumption
    rw[gW,if_neg hc2,if_pos hc3,hg]))))
abbrev qNC:Tbl:=(111,GS)::qNB
theorem SB:aC Tryz.prog qNC:=aC.cons qJZ SA
def xZ (t:Int) (P:List Val):List Int->Int->Int
 | [],q=>q
 |k::ks,q=>xZ t P ks (if(gW t k P).size<(gW t q P).size then k else q)
theorem BF {t:Int} {P:List Val} {L:List Int} {j q:Int} (h:0<=j/\j<L.length):xZ t P (L.drop j.toNat) q=xZ t P (L.drop (j+1).toNat) (if(gW t L[j.toNat]! P).size<(gW t q P).size then L[j.toNat]! else q):=by
 rw[bH L j h];rfl
theorem qFE (t:Int):((lU t).drop (Int.toNat 1)).length<=2:=by unfold lU;split<;>decide
theorem qJV (t:Int):2<=(lU t).length/\(lU t).length<=3:=by unfold lU;split<;>decide
theorem AD {t j:Int} (h:0<=j/\j<((lU t).drop (Int.toNat 1)).length):(2<=((lU t).drop (Int.toNat 1))[j.toNat]! /\((lU t).drop (Int.toNat 1))[j.toNat]! <=4):=by
 have:∀k,k∈(lU t).drop (Int.toNat 1)->2<=k/\k<=4:=by
  unfold lU;split<;>(intro k hk;simp [show Int.toNat 1=1 from rfl]at hk;omega)
 exact this _ (by rw[getElem!_pos _ _ (by omega)];exact List.getElem_mem _)
theorem qCC (t k q:Int) (l:List Val):(mT t k l).size+(gW t q (cC l)).size=(mT t q l).size+(gW t k (cC l)).size:=by
 have hh:(pX k l).size=(pX q l).size:=by
  unfold pX;simp only[ByteArray.size_append,bM [_],List.length_cons,List.length_nil]
 unfold mT;split<;>simp only[ByteArray.size_append]<;>omega
theorem NP (t k q:Int) (l:List Val):(cS t k l).size<(cS t q l).size↔(gW t k (cC l)).size<(gW t q (cC l)).size:=by
 have:=qCC t k q l;unfold cS;rw[oR,oR];omega
theorem qE9 (t k:Int) (l:List Val):¬cS t k l=⟨#[]⟩:=fun e=>by
 have:=congrArg ByteArray.size e;unfold cS at this;rw[oR]at this;have h0:(ByteArray.mk #[]).size=0:=rfl;omega
theorem qE7 (t:Int) (l:List Val):bst t l 4 1 ⟨#[]⟩=cS t (xZ t (cC l) ((lU t).drop (Int.toNat 1)) 1) l:=by
 have st:∀(k q:Int),(if cS t q l=⟨#[]⟩\/(cS t k l).size<(cS t q l).size then cS t k l else cS t q l)=cS t (if(gW t k (cC l)).size<(gW t q (cC l)).size then k else q) l:=fun k q=>by
  by_cases h:(gW t k (cC l)).size<(gW t q (cC l)).size
  ·rw[if_pos h,if_pos (.inr ((NP _ _ _ _).2 h))]
  ·rw[if_neg h,if_neg (fun p=>by
     rcases p with p|p
     ·exact qE9 _ _ _ p
     ·exact h ((NP _ _ _ _).1 p))]
 by_cases ht:t=3
 ·have u1:fZ t 1=true:=by unfold fZ;rw[if_pos ht];rfl
  have u2:¬fZ t (1+1)=true:=by unfold fZ;rw[if_pos ht];decide
  have u3:fZ t (1+1+1)=true:=by unfold fZ;rw[if_pos ht];rfl
  have u4:¬fZ t (1+1+1+1)=true:=by unfold fZ;rw[if_pos ht];decide
  simp only[bst];rw[if_neg u4,if_pos u3,if_neg u2,if_pos u1];simp only[true_or,if_true];rw[st];unfold lU;rw[if_pos ht];rfl
 ·have u1:fZ t 1=true:=by unfold fZ;rw[if_neg ht];rfl
  have u2:fZ t (1+1)=true:=by unfold fZ;rw[if_neg ht];rfl
  have u3:¬fZ t (1+1+1)=true:=by unfold fZ;rw[if_neg ht];decide
  have u4:fZ t (1+1+1+1)=true:=by unfold fZ;rw[if_neg ht];rfl
  simp only[bst];rw[if_pos u4,if_neg u3,if_pos u2,if_pos u1];simp only[true_or,if_true];rw[st,st];unfold lU;rw[if_neg ht];rfl
theorem qHA (t u k:Int) (l:List Val) (h:2<=k/\k<=4):gW t k l=gW u k l:=by
 unfold gW;by_cases h2:k=2
 ·rw[if_pos h2,if_pos h2]
 ·by_cases h3:k=3
  ·rw[if_neg h2,if_neg h2,if_pos h3,if_pos h3]
  ·rw[if_neg h2,if_neg h2,if_neg h3,if_neg h3,if_pos (by omega),if_pos (by omega)]
theorem LF {c:Col} {l:List Val} (h1:¬cL c.2.1=false) (h2:¬l.length>4096) (h3:dI c l=0):fC c l=(cS c.2.1 (xZ c.2.1 (cC l) ((lU c.2.1).drop (Int.toNat 1)) 1) l,0):=by
 rw[fC,if_neg h1,if_neg h2,if_neg (fun q=>q h3),qE7]
abbrev uJ:Ct:=.fn [tW,.list bP] (some (fun(c:Col) (l:List Val)=>(l.length<=9223372036854775807)/\(∀v,v∈l->inI v.2.1))) (fun(c:Col) (l:List Val)=>.tup [.str,.int .i64] ((fC c l).1,(fC c l).2,()))
theorem TI:aG Tryz.prog 66 uJ:=by
 refine aG.fn SB mixed [] [] rfl rfl ?_;rintro⟨(c:Col),(l:List Val),_⟩ hpre;replace hpre:=hpre _ rfl;dsimp only[cu]at hpre;obtain⟨hl,hin⟩:=hpre;refine⟨[(0,16,LA.mk [.sl 36 (.int .i64),.ar 1 .bool 4,.lst 7 bP 43] (fun y=>Tag 73/\cu [.int .i64,.list .bool,.list bP] (fun(i:Int) (N:List Bool) (P:List Val)=>(0<=i/\i<=l.length)/\(dI c l=dI c (l.drop i.toNat))/\(N=zZ (fun v:Val=>v.1) false l i)/\(P=cC (l.take i.toNat))) y) (cu [.int .i64,.list .bool,.list bP] (fun(i:Int) (N:List Bool) (P:List Val)=>((l.length:Int)-i).toNat)) (cu [.int .i64,.list .bool,.list bP] (fun(i:Int) (N:List Bool) (P:List Val)=>([]:List (Nat×Nat×LA))))),(0,38,LA.mk [.sl 69 (.int .i64),.sl 11 .str,.sl 12 (.int .i64)] (fun y=>Tag 74/\cu [.int .i64,.str,.int .i64] (fun(j:Int) (b:ByteArray) (q:Int)=>(0<=j/\j<=((lU c.2.1).drop (Int.toNat 1)).length)/\(1<=q/\q<=4)/\(b=gW c.2.1 q (cC l))/\(xZ c.2.1 (cC l) ((lU c.2.1).drop (Int.toNat 1)) 1=xZ c.2.1 (cC l) (((lU c.2.1).drop (Int.toNat 1)).drop j.toNat) q)) y) (cu [.int .i64,.str,.int .i64] (fun(j:Int) (b:ByteArray) (q:Int)=>((((lU c.2.1).drop (Int.toNat 1)).length:Int)-j).toNat)) (cu [.int .i64,.str,.int .i64] (fun(j:Int) (b:ByteArray) (q:Int)=>([]:List (Nat×Nat×LA)))))],?_⟩;repeat' (first
  |(
 with_reducible refine Side.mk ⟨(⟨⟩:Tag 73),?_⟩
 dsimp only[cu,aB,aA,gts,eE,eN]
 refine⟨?_,?_,?_,?_⟩
 ·omega
 ·first
  |rfl
  |(
  have hv:¬bX c l[i.toNat]! ≠0:=tR (by with_reducible assumption)
  rw[hc,nN (by omega),if_neg hv])
 ·first
  |exact xI _ _ _
  |(
  rw[hN]
  exact DY (f:=fun v:Val=>v.1) (by omega))
 ·first
  |rfl
  |(
  have hb:l[i.toNat]!.1=true:=by first|with_reducible assumption|exact qLB (by with_reducible assumption)
  rw[sA (by omega),<-hP,if_pos hb,List.append_nil])
  |(
  have hb:¬l[i.toNat]!.1=true:=by first|with_reducible assumption|(simp_all;done)
  rw[sA (by omega),<-hP,if_neg hb]))
  |(
 with_reducible refine Side.mk ⟨(⟨⟩:Tag 74),?_⟩
 dsimp only[cu,aB,aA,gts,eE,eN]
 refine⟨?_,?_,?_,?_⟩
 ·omega
 ·first
  |omega
  |(
  have hca:=AD (t:=c.2.1) (j:=j) (by omega)
  omega)
 ·first
  |exact hb
  |(
  have hch:dI c l=0:=by rw[hc,List.drop_eq_nil_of_le (by omega)];rfl
  have hok:∀v,v∈l->okV v:=fun v hv=>dR (gA hch v hv) (hin v hv)
  have hF:P=cC l:=by rw[hP,List.take_of_length_le (by omega)]
  have hG:N=eH l:=by rw[hN,gC (by omega)];rfl
  have hpl:=eQ l
  rw[<-hF]at hpl
  have hpo:=kH hok
  rw[<-hF]at hpo
  rw[<-hF]
  first
  |rfl
  |(
   have hca:=AD (t:=c.2.1) (j:=j) (by omega);exact qHA _ _ _ _ hca))
 ·first
  |rfl
  |(
  have hch:dI c l=0:=by rw[hc,List.drop_eq_nil_of_le (by omega)];rfl
  have hok:∀v,v∈l->okV v:=fun v hv=>dR (gA hch v hv) (hin v hv)
  have hF:P=cC l:=by rw[hP,List.take_of_length_le (by omega)]
  have hG:N=eH l:=by rw[hN,gC (by omega)];rfl
  have hpl:=eQ l
  rw[<-hF]at hpl
  have hpo:=kH hok
  rw[<-hF]at hpo
  have hca:=AD (t:=c.2.1) (j:=j) (by omega)
  have hpt:=qHA 0 c.2.1 _ (cC l) hca
  first
  |(
   have hlt:(gW c.2.1 ((lU c.2.1).drop (Int.toNat 1))[j.toNat]! (cC l)).size<(gW c.2.1 q (cC l)).size:=by rw[<-hpt,<-hb,<-hF];omega
   rw[hk,BF (by omega),if_pos hlt])
  |(
   have hlt:¬(gW c.2.1 ((lU c.2.1).drop (Int.toNat 1))[j.toNat]! (cC l)).size<(gW c.2.1 q (cC l)).size:=by rw[<-hpt,<-hb,<-hF];omega
   rw[hk,BF (by omega),if_neg hlt])))
  |(
 with_reducible apply Side.mk
 (try dsimp only[cu,aB,aA,gts,loK,hiK,eE,eN])
 first
 |done
 |omega
 |exact Eq.refl _
 |(
  have hnl:=qU (fun v:Val=>v.1) false l i (by omega);rw[<-hN]at hnl;omega)
 |(
  have hp1:=eQ (l.take i.toNat);rw[<-hP,List.length_take]at hp1;(try simp only[List.length_cons,List.length_nil]);omega)
 |(
  have hch:dI c l=0:=by rw[hc,List.drop_eq_nil_of_le (by omega)];rfl
  have hok:∀v,v∈l->okV v:=fun v hv=>dR (gA hch v hv) (hin v hv)
  have hF:P=cC l:=by rw[hP,List.take_of_length_le (by omega)]
  have hG:N=eH l:=by rw[hN,gC (by omega)];rfl
  have hpl:=eQ l;rw[<-hF]at hpl;have hpo:=kH hok;rw[<-hF]at hpo;exact⟨by omega,hpo⟩)
 |(
  have hca:=AD (t:=c.2.1) (j:=j) (by omega);have hch:dI c l=0:=by rw[hc,List.drop_eq_nil_of_le (by omega)];rfl
  have hok:∀v,v∈l->okV v:=fun v hv=>dR (gA hch v hv) (hin v hv)
  have hF:P=cC l:=by rw[hP,List.take_of_length_le (by omega)]
  have hG:N=eH l:=by rw[hN,gC (by omega)];rfl
  have hpl:=eQ l;rw[<-hF]at hpl;have hpo:=kH hok;rw[<-hF]at hpo;exact⟨hca,by omega,hpo⟩)
 |(
  have hcl:=qJV c.2.1;omega)
 |(
  have hcl:=qFE c.2.1;omega)
 |exact gQ _
 |(
  have hch:dI c l=0:=by rw[hc,List.drop_eq_nil_of_le (by omega)];rfl
  have hok:∀v,v∈l->okV v:=fun v hv=>dR (gA hch v hv) (hin v hv)
  have hF:P=cC l:=by rw[hP,List.take_of_length_le (by omega)]
  have hG:N=eH l:=by rw[hN,gC (by omega)];rfl
  have hpl:=eQ l;rw[<-hF]at hpl;have hpo:=kH hok;rw[<-hF]at hpo;have w1:=aT (n:=(l.length:Int)) (by omega);have w2:=aT (n:=(l.length:Int)-P.length) (by omega);have hh:=xB q l;have hp:=DZ (t:=c.2.1) (k:=q) (kH hok) (by have:=eQ l;omega);rw[<-hb]at hp;have hq2:=tS (l:=eH l) (by simp [eH];omega);rw[<-hG]at hq2;have p1:=bJ (l.length:Int);have p2:=bJ ((l.length:Int)-P.length);simp only[ByteArray.size_append,w1,w2,qT,bM [_],xA,List.length_cons,List.length_nil];omega))
  |(conv=>whnf
    first
     |with_reducible first|done|exact trivial|refine NilBr.mk (fun h=>?_) ?_|apply aJ|apply aI|refine aK (by kernel_rfl) ?_|apply aL|apply bA|apply aZ|apply aO
     |((with_reducible first|apply aQ|apply aP|apply aX)<;>intro h<;>(try dsimp only[cu,eE,eN]at h)<;>(try(exfalso;omega)))
     |(
 intro yy (hy:Tag 73/\_)
 obtain⟨(i:Int),(N:List Bool),(P:List Val),_⟩:=yy
 replace hy:=hy.2
 dsimp only[cu,aB,aA,gts,eE,eN]at hy
 obtain⟨hi,hc,hN,hP⟩:=hy)
     |(
 intro yy (hy:Tag 74/\_)
 obtain⟨(j:Int),(b:ByteArray),(q:Int),_⟩:=yy
 replace hy:=hy.2
 dsimp only[cu,aB,aA,gts,eE,eN]at hy
 obtain⟨hj,hq,hb,hk⟩:=hy)))
 all_goals(
 with_reducible apply Leaf.mk
 (try dsimp only[cu,aB,aA,gts,eE,eN]at *)
 first
 |(
  have hkn:cL c.2.1=false:=by unfold cL;simp;omega
  rw[fC,if_pos hkn])
 |(
  have hkn:¬cL c.2.1=false:=by unfold cL;simp;omega
  first
  |(
   have h4:l.length>4096:=by omega
   rw[fC,if_neg hkn,if_pos h4])
  |(
   have h4:¬l.length>4096:=by omega
   have hv:bX c l[i.toNat]! ≠0:=by with_reducible assumption
   have hce:dI c l=bX c l[i.toNat]!:=by rw[hc,nN (by omega),if_pos hv]
   rw[fC,if_neg hkn,if_neg h4,hce,if_pos hv])
  |(
   have hch:dI c l=0:=by rw[hc,List.drop_eq_nil_of_le (by omega)];rfl
   have hok:∀v,v∈l->okV v:=fun v hv=>dR (gA hch v hv) (hin v hv)
   have hF:P=cC l:=by rw[hP,List.take_of_length_le (by omega)]
   have hG:N=eH l:=by rw[hN,gC (by omega)];rfl
   have hpl:=eQ l;rw[<-hF]at hpl;have hpo:=kH hok;rw[<-hF]at hpo;first
   |(
    have w1:=aT (n:=(l.length:Int)) (by omega);have w2:=aT (n:=(l.length:Int)-P.length) (by omega);have hqq:xZ c.2.1 (cC l) ((lU c.2.1).drop (Int.toNat 1)) 1=q:=by rw[hk,List.drop_eq_nil_of_le (by omega)];rfl
    first
    |(
     have hlt:(cC l).length<l.length:=by rw[<-hF];omega
     rw[w1,w2,LF hkn (by omega) hch,hqq,cS,OJ hlt,hb,<-hG];unfold pX;rw[<-hF];rfl)
    |(
     have hlt:¬(cC l).length<l.length:=by rw[<-hF];omega
     rw[w1,w2,LF hkn (by omega) hch,hqq,cS,OH hlt,hb];unfold pX;rw[<-hF];rfl))
   |(rw[LF hkn (by omega) hch]))))
abbrev qND:Tbl:=(66,uJ)::qNC
theorem SC:aC Tryz.prog qND:=aC.cons TI SB
end Go.Proofs.YtcjiefknhfhmkaaGreatDoor
