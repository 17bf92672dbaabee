import Derived.RangeFuncNested
import Derived.RangeFuncCalls
import Derived.ControlIn
import Derived.RangeFuncBound
import Derived.RangeFuncLeaves
import Derived.WalkKit
import Derived.OwnWalkIn
import Derived.TacticsInMore
import Derived.LoopNIn
import Derived.LoopIn
import Derived.Shelf.Abstract
import Derived.Test.YtcjiefknhfhmkaaGreatDoorM09
namespace Go.Proofs.YtcjiefknhfhmkaaGreatDoor
open Go.Abs
set_option maxRecDepth 100000
set_option maxHeartbeats 4000000
set_option linter.unusedVariables false
set_option linter.unusedSimpArgs false
abbrev OX:Ct:=.bld true 5 106
theorem qPX:aG Tryz.prog 62 OX:=by
 refine qCH.mk qB3 mixed [] [107] rfl rfl ?_ ?_ ?_;all_goals first|rintro(z:Nat) (_|_) (l:List Int) s hs hz|rintro(_|_) (l:List Int) s hs|rintro(_|_) s hs
 all_goals refine⟨[],?_⟩
 repeat' (first
  |(
 with_reducible apply Side.mk
 (try dsimp only[cu,aB,aA,gts,loK,hiK,eE,eN])
 first
 |done
 |omega
 |exact Eq.refl _
 |simp only[List.length_append,List.length_cons,List.length_nil];omega
 |(
  (try simp only[aZ,List.length_nil]);omega))
  |(conv=>whnf
    first
     |with_reducible first|done|exact trivial|refine NilBr.mk (fun h=>?_) ?_|apply aJ|apply aI|refine aK (by kernel_rfl) ?_|apply aL|apply bC|apply bB|apply aO
     |((with_reducible first|apply aQ|apply aP|apply bA)<;>intro h<;>(try dsimp only[cu,eE,eN]at h)<;>(try(exfalso;omega)))))
 all_goals(
 with_reducible apply Leaf.mk
 (try dsimp only[cu,aB,aA,gts,eE,eN]at *)
 first
 |done
 |(rfl))
abbrev qTD:Tbl:=(62,OX)::qTC
theorem qM0:aC Tryz.prog qTD:=aC.cons qPX qB3
abbrev HB:Ct:=.bld false 5 106
theorem OJ (b o:Nat) (w:World) (hc:w.cell? ⟨b,o+1,none⟩=some (.slice none 0 0)) :
  Calls Tryz.prog 72 #[.pointer (some ⟨b,o,none⟩)] w fun e w'=>e = .returned (.string ⟨#[]⟩)/\w'=w.drew:=by
 have hUS:∀W:World,(Builtin.unsafeString_ #[150,3] 9 #[.pointer none,.int .i64 0]).run Tryz.prog W = .ok (.string .empty) W:=fun W=>Lib.run_unsafeString_none W _ _ _ none
 have c1:w.drew.cell? ⟨b,o+1,none⟩=some (.slice none 0 0):=hc;have hSD:∀W:World,(Builtin.unsafeSliceData_ #[36] 150 #[.slice none 0 0]).run Tryz.prog W = .ok (.pointer none) W:=fun W=>rfl
 go_enter Tryz.func72,Tryz.ntmps72
 go_wp2
 go_region
 all_goals(go_wp2;go_ret;exact⟨rfl,rfl⟩)
theorem LO (b o:Nat) (a:Addr) (n cap:Nat) (s:ByteArray) (w:World) (hc:w.cell? ⟨b,o+1,none⟩=some (.slice (some a) n cap)) (h0:cap≠0)
  (hUS:(Builtin.unsafeString_ #[150,3] 9 #[.pointer (some a),.int .i64 n]).run Tryz.prog w.drew = .ok (.string s) (w.drew.freeze a n)) :
  Calls Tryz.prog 72 #[.pointer (some ⟨b,o,none⟩)] w fun e w'=>e = .returned (.string s)/\w'=w.drew.freeze a n:=by
 have c1:w.drew.cell? ⟨b,o+1,none⟩=some (.slice (some a) n cap):=hc;have hSD:(Builtin.unsafeSliceData_ #[36] 150 #[.slice (some a) n cap]).run Tryz.prog w.drew = .ok (.pointer (some a)) w.drew:=Lib.run_unsafeSliceData_row _ _ _ _ _ _ h0;go_enter Tryz.func72,Tryz.ntmps72
 go_wp2
 go_region
 all_goals(go_wp2;go_ret;exact⟨rfl,rfl⟩)
theorem qKF:aG Tryz.prog 72 HB:=qOE.mk (pt:=150) (it:=3) (ty:=9) (by kernel_rfl) (by kernel_rfl) OJ LO
abbrev qTE:Tbl:=(72,HB)::qTD
theorem qB4:aC Tryz.prog qTE:=aC.cons qKF qM0
def PL (n:Int):ByteArray:=if n<10 then⟨#[UInt8.ofNat (48+n.toNat)]⟩else⟨#[49,UInt8.ofNat (38+n.toNat)]⟩
def uJ:List ByteArray:=[⟨#[105,110,116]⟩,⟨#[98,111,111,108]⟩,⟨#[98,121,116,101,115]⟩,⟨#[100,97,116,101]⟩,⟨#[100,101,99,105,109,97,108]⟩]
def tw (t:Int):ByteArray:=⟨#[32]⟩++uJ[(t-1).toNat]!
abbrev nlB:ByteArray:=⟨#[10]⟩
abbrev nuB:ByteArray:=⟨#[32,110,117,108,108]⟩
def scT (c:Col):ByteArray:=if c.2.1=5 then⟨#[32]⟩++PL c.2.2.1 else⟨#[]⟩
def nuT (c:Col):ByteArray:=if c.2.2.2=true then nuB else⟨#[]⟩
def qH (c:Col):ByteArray:=c.1++tw c.2.1++scT c++nuT c++nlB
def lZ:List Col->ByteArray
 | []=>⟨#[]⟩
 |c::l=>qH c++lZ l
def qLM (s:Schema):ByteArray:=⟨#[107,101,121,32]⟩++s.1[s.2.toNat]!.1++nlB
def PT (s:Schema):ByteArray:=lZ s.1++qLM s
def jV (s:Schema):ByteArray×Int:=if aX s≠0 then(⟨#[]⟩,aX s)else(PT s,0)
def idS (s:Schema):Int×Int:=if aX s≠0 then(0,aX s)else(qGD (PT s),0)
theorem dA {l:List Col} {k:Int} (h:0<=k/\k<l.length):lZ (l.drop k.toNat)=qH l[k.toNat]! ++lZ (l.drop (k+1).toNat):=by
 rw[bJ l k h];rfl
theorem eL {s:Schema} (h:aX s=0) {k:Int} (hk:0<=k/\k<s.1.length):(1<=s.1[k.toNat]!.2.1/\s.1[k.toNat]!.2.1<=5)/\(0<=s.1[k.toNat]!.2.2.1/\s.1[k.toNat]!.2.2.1<=18)/\s.1[k.toNat]!.1.size<=16:=by
 have he:bL (dB s.1) 0 s.1=0:=by
  unfold aX at h;split at h
  ·cases h
  split at h
  ·cases h
  split at h
  ·contradiction
  ·rename_i q;exact Decidable.not_not.1 q
 have h1:=oQ he k hk;unfold dB at h1;split at h1
 ·cases h1
 rename_i h2;split at h1
 ·cases h1
 split at h1
 ·cases h1
 rename_i h3;split at h1
 ·cases h1
 rename_i h4;simp only[Bool.not_eq_false]at h2 h3 h4;simp only[lQ,Bool.and_eq_true,decide_eq_true_eq]at h2;simp only[cB,Bool.and_eq_true,decide_eq_true_eq]at h3;simp only[gA,Bool.and_eq_true,decide_eq_true_eq]at h4;omega
theorem qQN {t:Int} (h:1<=t/\t<=5):t=1\/t=2\/t=3\/t=4\/t=5:=by omega
theorem qTH {t:Int} (h:1<=t/\t<=5):(tw t).size<=8:=by
 rcases qQN h with rfl|rfl|rfl|rfl|rfl<;>decide
theorem qB9 {t:Int} (h:1<=t/\t<=5):(uJ[(t-1).toNat]!).size<=7:=by
 rcases qQN h with rfl|rfl|rfl|rfl|rfl<;>decide
theorem rZ (n:Int):(PL n).size<=2:=by
 unfold PL;split
 ·show 1<=2;decide
 ·show 2<=2;decide
theorem qPL (c:Col):(scT c).size<=3:=by
 unfold scT;split
 ·rw[ByteArray.size_append];have:=rZ c.2.2.1;have e:(⟨#[32]⟩:ByteArray).size=1:=rfl;omega
 ·exact Nat.zero_le _
theorem qO8 (c:Col):(nuT c).size<=5:=by unfold nuT;split<;>decide
theorem qKI {c:Col} (h:1<=c.2.1/\c.2.1<=5) (hn:c.1.size<=16):(qH c).size<=33:=by
 have h1:=qTH h;have h2:=qPL c;have h3:=qO8 c;have e:nlB.size=1:=rfl;simp only[qH,ByteArray.size_append];omega
theorem fF (a:ByteArray):(⟨#[]⟩:ByteArray)++a=a:=ByteArray.empty_append
theorem rT (a:ByteArray):a++⟨#[]⟩=a:=ByteArray.append_empty
theorem PE:∀(l:List Col),(∀c,c∈l->(1<=c.2.1/\c.2.1<=5)/\c.1.size<=16)->(lZ l).size<=33*l.length
 | [],_=>Nat.zero_le _
 |c::l,h=>by
  have h1:=h c (List.mem_cons_self ..);have h2:=qKI h1.1 h1.2;have h3:=PE l fun x hx=>h x (List.mem_cons_of_mem _ hx)
  rw[lZ,ByteArray.size_append,List.length_cons];omega
theorem qOQ {s:Schema} (h:aX s=0):(PT s).size<=1000:=by
 have q0:=aU h;have h1:=PE s.1 fun c hc=>by
  obtain⟨i,hi,rfl⟩:=List.mem_iff_getElem.1 hc;have:=eL h (k:=(i:Int)) ⟨by omega,by omega⟩;rw[Int.toNat_natCast,getElem!_pos s.1 i hi]at this;exact⟨this.1,this.2.2⟩
 have h2:=eL h (k:=s.2) q0.2;have u1:(⟨#[107,101,121,32]⟩:ByteArray).size=4:=rfl;have u2:nlB.size=1:=rfl;unfold PT qLM;simp only[ByteArray.size_append];omega
theorem XL {s:Schema}:(jV s).1.size<=1000:=by
 unfold jV;split
 ·exact Nat.zero_le _
 ·rename_i h;exact qOQ (Decidable.not_not.1 h)
theorem qQG {s:Schema} (h:(jV s).2=0):idS s=(NN tV (jV s).1,0):=by
 unfold jV idS at *;by_cases q:aX s≠0
 ·rw[if_pos q]at h;exact absurd h q
 ·rw[if_neg q,if_neg q];rfl
theorem qQH {s:Schema} (h:¬(jV s).2=0):idS s=(0,(jV s).2):=by
 unfold jV idS at *;by_cases q:aX s≠0
 ·rw[if_pos q,if_pos q]
 ·rw[if_neg q]at h;exact absurd rfl h
theorem qTW {q:Int} (h:0<=q/\q<=18):(0<=Int.tmod q 10/\Int.tmod q 10<10)/\0<=Int.tdiv q 10/\Int.tdiv q 10<=1/\(0<q->Int.tdiv q 10<q):=by
 rw[Int.tmod_eq_emod_of_nonneg h.1,Int.tdiv_eq_ediv_of_nonneg h.1];omega
abbrev HO:Ct:=.fn [.int .i64] (some (fun(n:Int)=>(0<=n/\n<=18))) (fun(n:Int)=>.d .str (PL n))
theorem qLJ:aG Tryz.prog 146 HO:=by
 refine aG.fn qB4 mixed [] [175,199,216] rfl rfl ?_;rintro⟨(n:Int),_⟩ hpre;replace hpre:=hpre _ rfl;dsimp only[cu]at hpre;have hn:=hpre;refine⟨[],?_⟩;repeat' (first
  |(
 with_reducible apply Side.mk
 (try dsimp only[cu,aB,aA,gts,loK,hiK,eE,eN])
 first
 |omega
 |(
  show _<=((36:Nat):Int);omega)
 |(
  show _<=((200:Nat):Int);omega))
  |(conv=>whnf
    first
     |with_reducible first|done|exact trivial|refine NilBr.mk (fun h=>?_) ?_|apply aJ|apply aI|refine aK (by kernel_rfl) ?_|apply aL|apply bC|apply bB|apply aO
     |((with_reducible first|apply aQ|apply aP|apply bA)<;>intro h<;>(try dsimp only[cu,eE,eN]at h)<;>(try(exfalso;omega)))))
 all_goals(
 with_reducible apply Leaf.mk
 (try dsimp only[cu,aB,aA,gts,eE,eN]at *)
 (rcases(show n=0\/n=1\/n=2\/n=3\/n=4\/n=5\/n=6\/n=7\/n=8\/n=9\/n=10\/n=11\/n=12\/n=13\/n=14\/n=15\/n=16\/n=17\/n=18 by omega)with rfl|rfl|rfl|rfl|rfl|rfl|rfl|rfl|rfl|rfl|rfl|rfl|rfl|rfl|rfl|rfl|rfl|rfl|rfl<;>first|(exfalso;omega)|decide))
abbrev qTF:Tbl:=(146,HO)::qTE
theorem qB5:aC Tryz.prog qTF:=aC.cons qLJ qB4
abbrev ID:Ct:=.fn [.int .i64] (some (fun(n:Int)=>(0<=n/\n<=18))) (fun(n:Int)=>.d .str (PL n))
theorem qMH:aG Tryz.prog 119 ID:=by
 refine aG.fn qB5 mixed [] [] rfl rfl ?_;rintro⟨(n:Int),_⟩ hpre;replace hpre:=hpre _ rfl;dsimp only[cu]at hpre;have hn:=hpre;refine⟨[(0,10,LA.mk [.sl 0 (.int .i64),.sl 3 .str] (fun y=>Tag 61/\cu [.int .i64,.str] (fun(q:Int) (w:ByteArray)=>((q=n/\w=⟨#[]⟩)\/(q=1/\w=⟨#[UInt8.ofNat (38+n.toNat)]⟩)\/(q=0/\w=PL n))/\(0<=q/\q<=18)) y) (cu [.int .i64,.str] (fun(q:Int) (w:ByteArray)=>q.toNat)) (cu [.int .i64,.str] (fun(q:Int) (w:ByteArray)=>([]:List (Nat×Nat×LA)))))],?_⟩;repeat' (first
  |(
 with_reducible refine Side.mk ⟨(⟨⟩:Tag 61),?_⟩
 dsimp only[cu,aB,aA,gts,eE,eN]
 refine⟨?_,?_⟩
 ·first
  |exact Or.inl ⟨rfl,rfl⟩
  |(
  rcases hq with⟨rfl,rfl⟩|⟨rfl,rfl⟩|⟨rfl,rfl⟩
  ·refine Or.inr (Or.inl ⟨?_,?_⟩)<;>(rcases(show q=10\/q=11\/q=12\/q=13\/q=14\/q=15\/q=16\/q=17\/q=18 by omega)with rfl|rfl|rfl|rfl|rfl|rfl|rfl|rfl|rfl<;>decide)
  ·refine Or.inr (Or.inr ⟨by decide,?_⟩)
   rcases(show n=10\/n=11\/n=12\/n=13\/n=14\/n=15\/n=16\/n=17\/n=18 by omega)with rfl|rfl|rfl|rfl|rfl|rfl|rfl|rfl|rfl<;>decide
  ·exact absurd rfl (by with_reducible assumption))
 ·omega)
  |(
 with_reducible apply Side.mk
 (try dsimp only[cu,aB,aA,gts,loK,hiK,eE,eN])
 first
 |omega
 |(
  show _<=((10:Nat):Int);omega)
 |(
  have hws:w.size<=2:=by
   rcases hq with⟨_,h⟩|⟨_,h⟩|⟨_,h⟩<;>rw[h]
   ·exact Nat.zero_le _
   ·show 1<=2;decide
   ·exact rZ n
  have u:(⟨#[48,49,50,51,52,53,54,55,56,57]⟩:ByteArray).size=10:=rfl;rw[ByteArray.size_extract];omega))
  |(conv=>whnf
    first
     |with_reducible first|done|exact trivial|refine NilBr.mk (fun h=>?_) ?_|apply aJ|apply aI|refine aK (by kernel_rfl) ?_|apply aL|apply bC|apply bB|apply aO
     |((with_reducible first|apply aQ|apply aP|apply bA)<;>intro h<;>(try dsimp only[cu,eE,eN]at h)<;>(try(exfalso;omega)))
     |(
 intro yy (hy:Tag 61/\_)
 obtain⟨(q:Int),(w:ByteArray),_⟩:=yy
 replace hy:=hy.2
 dsimp only[cu,aB,aA,gts,eE,eN]at hy
 obtain⟨hq,hqb⟩:=hy
 have hm:=qTW hqb)))
 all_goals(
 with_reducible apply Leaf.mk
 (try dsimp only[cu,aB,aA,gts,eE,eN]at *)
 first
 |(
  rcases hq with⟨h1,h2⟩|⟨h1,h2⟩|⟨h1,h2⟩
  ·exfalso;omega
  ·exfalso;omega
  ·exact h2)
 |(rcases(show n=0\/n=1\/n=2\/n=3\/n=4\/n=5\/n=6\/n=7\/n=8\/n=9\/n=10\/n=11\/n=12\/n=13\/n=14\/n=15\/n=16\/n=17\/n=18 by omega)with rfl|rfl|rfl|rfl|rfl|rfl|rfl|rfl|rfl|rfl|rfl|rfl|rfl|rfl|rfl|rfl|rfl|rfl|rfl<;>first|(exfalso;omega)|decide))
abbrev qTG:Tbl:=(119,ID)::qTF
theorem qB6:aC Tryz.prog qTG:=aC.cons qMH qB5
abbrev CX:Ct:=.fn [] (none) (.d (.list .str) uJ)
theorem qJS:aG Tryz.prog 145 CX:=by
 refine aG.fn qB6 mixed [] [] rfl rfl ?_;rintro⟨⟩ -;refine⟨[],?_⟩;repeat' (first
  |(
 with_reducible apply Side.mk
 (try dsimp only[cu,aB,aA,gts,loK,hiK,eE,eN])
 exact Eq.refl _)
  |(conv=>whnf
    first
     |with_reducible first|done|exact trivial|refine NilBr.mk (fun h=>?_) ?_|apply aJ|apply aI|refine aK (by kernel_rfl) ?_|apply aL|apply bC|apply bB|apply aO
     |((with_reducible first|apply aQ|apply aP|apply bA)<;>intro h<;>(try dsimp only[cu,eE,eN]at h)<;>(try(exfalso;omega)))))
 all_goals(
 with_reducible apply Leaf.mk
 (try dsimp only[cu,aB,aA,gts,eE,eN]at *)
 rfl)
abbrev qNR:Tbl:=(145,CX)::qTG
theorem SL:aC Tryz.prog qNR:=aC.cons qJS qB6
abbrev HL:Ct:=.fn [cG] (none) (fun(s:Schema)=>.tup [.str,.int .i64] ((jV s).1,(jV s).2,()))
theorem qK5:aG Tryz.prog 106 HL:=by
 refine aG.fn SL mixed [] [] rfl rfl ?_;rintro⟨(s:Schema),_⟩ -;refine⟨[(0,12,LA.mk [.sl 16 (.int .i64),.row 1 [.osf 1,.own (.int .u8) (⟨5,1⟩:El)]] (fun y=>Tag 62/\cu [.int .i64,.bool,.list (.int .u8)] (fun(k:Int) (b0:Bool) (B:List Int)=>(0<=k/\k<=s.1.length)/\(lZ s.1=aN B++lZ (s.1.drop k.toNat))/\((B.length:Int)<=33*k)) y) (cu [.int .i64,.bool,.list (.int .u8)] (fun(k:Int) (b0:Bool) (B:List Int)=>((s.1.length:Int)-k).toNat)) (cu [.int .i64,.bool,.list (.int .u8)] (fun(k:Int) (b0:Bool) (B:List Int)=>([]:List (Nat×Nat×LA)))))],?_⟩;repeat' (first
  |(
 with_reducible refine Side.mk ⟨(⟨⟩:Tag 62),?_⟩
 dsimp only[cu,aB,aA,gts,eE,eN]
 refine⟨?_,?_,?_⟩
 ·omega
 ·first
  |(
  show lZ s.1=ByteArray.empty++lZ s.1
  rw[ByteArray.empty_append])
  |(
  have t1:scT s.1[k.toNat]! =⟨#[32]⟩++PL s.1[k.toNat]!.2.2.1:=if_pos (by with_reducible assumption)
  first
  |(
   have t2:nuT s.1[k.toNat]! =nuB:=if_pos (by with_reducible assumption);rw[hB,dA (by omega),qH,t1,t2,tw];simp only[bU,bE,ByteArray.append_assoc,fF];done)
  |(
   have t2:nuT s.1[k.toNat]! =⟨#[]⟩:=if_neg (by rw[show s.1[k.toNat]!.2.2.2=false by with_reducible assumption];exact Bool.noConfusion);rw[hB,dA (by omega),qH,t1,t2,tw];simp only[bU,bE,ByteArray.append_assoc,fF];done))
  |(
  have t1:scT s.1[k.toNat]! =⟨#[]⟩:=if_neg (by with_reducible assumption)
  first
  |(
   have t2:nuT s.1[k.toNat]! =nuB:=if_pos (by with_reducible assumption);rw[hB,dA (by omega),qH,t1,t2,tw];simp only[bU,bE,ByteArray.append_assoc,fF];done)
  |(
   have t2:nuT s.1[k.toNat]! =⟨#[]⟩:=if_neg (by rw[show s.1[k.toNat]!.2.2.2=false by with_reducible assumption];exact Bool.noConfusion);rw[hB,dA (by omega),qH,t1,t2,tw];simp only[bU,bE,ByteArray.append_assoc,fF];done))
 ·first
  |exact Int.le_refl _
  |(
  have kk:0<=k/\k<s.1.length:=by omega
  have qq:=eL (s:=s) (by with_reducible assumption) kk
  obtain⟨q1,q2,q3⟩:=qq
  have z1:=qB9 q1
  have z2:=rZ s.1[k.toNat]!.2.2.1
  have u1:(⟨#[32]⟩:ByteArray).size=1:=rfl
  have u2:(⟨#[10]⟩:ByteArray).size=1:=rfl
  have u3:(⟨#[32,110,117,108,108]⟩:ByteArray).size=5:=rfl
  have u5:uJ.length=5:=rfl
  have v0:(⟨#[32,105,110,116]⟩:ByteArray).size=4:=rfl
  have v1:(⟨#[32,98,111,111,108]⟩:ByteArray).size=5:=rfl
  have v2:(⟨#[32,98,121,116,101,115]⟩:ByteArray).size=6:=rfl
  have v3:(⟨#[32,100,97,116,101]⟩:ByteArray).size=5:=rfl
  have v4:(⟨#[32,100,101,99,105,109,97,108,32]⟩:ByteArray).size=9:=rfl
  have q0:=aU (s:=s) (by with_reducible assumption)
  simp only[List.length_append,aZ,ByteArray.size_append]
  omega))
  |(
 with_reducible apply Side.mk
 (try dsimp only[cu,aB,aA,gts,loK,hiK,eE,eN])
 first
 |done
 |omega
 |exact Eq.refl _
 |(
  show _/\_;have kk:0<=k/\k<s.1.length:=by omega
  have qq:=eL (s:=s) (by with_reducible assumption) kk;obtain⟨q1,q2,q3⟩:=qq;omega)
 |(
  have kk:0<=k/\k<s.1.length:=by omega
  have qq:=eL (s:=s) (by with_reducible assumption) kk;obtain⟨q1,q2,q3⟩:=qq;have z1:=qB9 q1;have z2:=rZ s.1[k.toNat]!.2.2.1;have u1:(⟨#[32]⟩:ByteArray).size=1:=rfl;have u2:(⟨#[10]⟩:ByteArray).size=1:=rfl;have u3:(⟨#[32,110,117,108,108]⟩:ByteArray).size=5:=rfl;have u5:uJ.length=5:=rfl;have v0:(⟨#[32,105,110,116]⟩:ByteArray).size=4:=rfl;have v1:(⟨#[32,98,111,111,108]⟩:ByteArray).size=5:=rfl;have v2:(⟨#[32,98,121,116,101,115]⟩:ByteArray).size=6:=rfl;have v3:(⟨#[32,100,97,116,101]⟩:ByteArray).size=5:=rfl;have v4:(⟨#[32,100,101,99,105,109,97,108,32]⟩:ByteArray).size=9:=rfl;have q0:=aU (s:=s) (by with_reducible assumption);have w1:=q1.1;have w2:=q1.2;(try simp only[List.length_append,aZ,ByteArray.size_append]);omega)
 |(
  have q0:=aU (s:=s) (by with_reducible assumption);have kk:0<=s.2/\s.2<s.1.length:=by omega
  have qq:=eL (s:=s) (by with_reducible assumption) kk;obtain⟨q1,q2,q3⟩:=qq;have u1:(⟨#[107,101,121,32]⟩:ByteArray).size=4:=rfl;have u2:(⟨#[10]⟩:ByteArray).size=1:=rfl;(try simp only[List.length_append,aZ,ByteArray.size_append]);omega))
  |(conv=>whnf
    first
     |with_reducible first|done|exact trivial|refine NilBr.mk (fun h=>?_) ?_|apply aJ|apply aI|refine aK (by kernel_rfl) ?_|apply aL|apply bC|apply bB|apply aO
     |((with_reducible first|apply aQ|apply aP|apply bA)<;>intro h<;>(try dsimp only[cu,eE,eN]at h)<;>(try(exfalso;omega)))
     |(
 intro yy (hy:Tag 62/\_)
 obtain⟨(k:Int),(b0:Bool),(B:List Int),_⟩:=yy
 replace hy:=hy.2
 dsimp only[cu,aB,aA,gts,eE,eN]at hy
 obtain⟨hk,hB,hz⟩:=hy
 rcases b0 with _|_)))
 all_goals(
 with_reducible apply Leaf.mk
 (try dsimp only[cu,aB,aA,gts,eE,eN]at *)
 first
 |rw[jV,if_pos (by with_reducible assumption)]
 |(
  have hk2:k=s.1.length:=by omega
  have hd:s.1.drop k.toNat= []:=List.drop_eq_nil_of_le (by omega);rw[hd]at hB;have hB2:lZ []=(⟨#[]⟩:ByteArray):=rfl;rw[hB2,rT]at hB;rw[jV,if_neg (fun q=>q (by with_reducible assumption)),PT,qLM,hB];simp only[bU,bE,ByteArray.append_assoc,fF];done)
 |(rw[jV,if_neg (fun q=>q (by with_reducible assumption))]))
abbrev qNS:Tbl:=(106,HL)::qNR
theorem SM:aC Tryz.prog qNS:=aC.cons qK5 SL
abbrev CI:Ct:=.fn [cG] (none) (fun(s:Schema)=>.tup [.str,.int .i64] ((jV s).1,(jV s).2,()))
theorem qIO:aG Tryz.prog 80 CI:=by
 refine aG.fn SM mixed [] [] rfl rfl ?_;rintro⟨(s:Schema),_⟩ -;refine⟨[(0,12,LA.mk [.sl 16 (.int .i64),.sl 5 .str] (fun y=>Tag 63/\cu [.int .i64,.str] (fun(k:Int) (b:ByteArray)=>(0<=k/\k<=s.1.length)/\(lZ s.1=b++lZ (s.1.drop k.toNat))/\((b.size:Int)<=33*k)) y) (cu [.int .i64,.str] (fun(k:Int) (b:ByteArray)=>((s.1.length:Int)-k).toNat)) (cu [.int .i64,.str] (fun(k:Int) (b:ByteArray)=>([]:List (Nat×Nat×LA)))))],?_⟩;repeat' (first
  |(
 with_reducible refine Side.mk ⟨(⟨⟩:Tag 63),?_⟩
 dsimp only[cu,aB,aA,gts,eE,eN]
 refine⟨?_,?_,?_⟩
 ·omega
 ·first
  |(
  show lZ s.1=ByteArray.empty++lZ s.1
  rw[ByteArray.empty_append])
  |(
  have t0:s.1[k.toNat]!.2.1=1:=by with_reducible assumption
  have t1:scT s.1[k.toNat]! =⟨#[]⟩:=if_neg (by rw[t0];decide)
  have t3:tw s.1[k.toNat]!.2.1=(⟨#[32,105,110,116]⟩:ByteArray):=by rw[t0];decide
  first
  |(
   have t2:nuT s.1[k.toNat]! =nuB:=if_pos (by with_reducible assumption);rw[hB,dA (by omega),qH,t1,t2,t3];simp only[ByteArray.append_assoc,fF];done)
  |(
   have t2:nuT s.1[k.toNat]! =⟨#[]⟩:=if_neg (by rw[show s.1[k.toNat]!.2.2.2=false by with_reducible assumption];exact Bool.noConfusion);rw[hB,dA (by omega),qH,t1,t2,t3];simp only[ByteArray.append_assoc,fF];done))
  |(
  have t0:s.1[k.toNat]!.2.1=2:=by with_reducible assumption
  have t1:scT s.1[k.toNat]! =⟨#[]⟩:=if_neg (by rw[t0];decide)
  have t3:tw s.1[k.toNat]!.2.1=(⟨#[32,98,111,111,108]⟩:ByteArray):=by rw[t0];decide
  first
  |(
   have t2:nuT s.1[k.toNat]! =nuB:=if_pos (by with_reducible assumption);rw[hB,dA (by omega),qH,t1,t2,t3];simp only[ByteArray.append_assoc,fF];done)
  |(
   have t2:nuT s.1[k.toNat]! =⟨#[]⟩:=if_neg (by rw[show s.1[k.toNat]!.2.2.2=false by with_reducible assumption];exact Bool.noConfusion);rw[hB,dA (by omega),qH,t1,t2,t3];simp only[ByteArray.append_assoc,fF];done))
  |(
  have t0:s.1[k.toNat]!.2.1=3:=by with_reducible assumption
  have t1:scT s.1[k.toNat]! =⟨#[]⟩:=if_neg (by rw[t0];decide)
  have t3:tw s.1[k.toNat]!.2.1=(⟨#[32,98,121,116,101,115]⟩:ByteArray):=by rw[t0];decide
  first
  |(
   have t2:nuT s.1[k.toNat]! =nuB:=if_pos (by with_reducible assumption);rw[hB,dA (by omega),qH,t1,t2,t3];simp only[ByteArray.append_assoc,fF];done)
  |(
   have t2:nuT s.1[k.toNat]! =⟨#[]⟩:=if_neg (by rw[show s.1[k.toNat]!.2.2.2=false by with_reducible assumption];exact Bool.noConfusion);rw[hB,dA (by omega),qH,t1,t2,t3];simp only[ByteArray.append_assoc,fF];done))
  |(
  have t0:s.1[k.toNat]!.2.1=4:=by with_reducible assumption
  have t1:scT s.1[k.toNat]! =⟨#[]⟩:=if_neg (by rw[t0];decide)
  have t3:tw s.1[k.toNat]!.2.1=(⟨#[32,100,97,116,101]⟩:ByteArray):=by rw[t0];decide
  first
  |(
   have t2:nuT s.1[k.toNat]! =nuB:=if_pos (by with_reducible assumption);rw[hB,dA (by omega),qH,t1,t2,t3];simp only[ByteArray.append_assoc,fF];done)
  |(
   have t2:nuT s.1[k.toNat]! =⟨#[]⟩:=if_neg (by rw[show s.1[k.toNat]!.2.2.2=false by with_reducible assumption];exact Bool.noConfusion);rw[hB,dA (by omega),qH,t1,t2,t3];simp only[ByteArray.append_assoc,fF];done))
  |(
  have kk:0<=k/\k<s.1.length:=by omega
  have qq:=eL (s:=s) (by with_reducible assumption) kk
  obtain⟨q1,q2,q3⟩:=qq
  have t0:s.1[k.toNat]!.2.1=5:=by omega
  have t1:scT s.1[k.toNat]! =⟨#[32]⟩++PL s.1[k.toNat]!.2.2.1:=if_pos t0
  have t3:tw s.1[k.toNat]!.2.1=(⟨#[32,100,101,99,105,109,97,108]⟩:ByteArray):=by rw[t0];decide
  have t4:(⟨#[32,100,101,99,105,109,97,108,32]⟩:ByteArray)=(⟨#[32,100,101,99,105,109,97,108]⟩:ByteArray)++⟨#[32]⟩:=by decide
  first
  |(
   have t2:nuT s.1[k.toNat]! =nuB:=if_pos (by with_reducible assumption);rw[hB,dA (by omega),qH,t1,t2,t3,t4];simp only[ByteArray.append_assoc,fF];done)
  |(
   have t2:nuT s.1[k.toNat]! =⟨#[]⟩:=if_neg (by rw[show s.1[k.toNat]!.2.2.2=false by with_reducible assumption];exact Bool.noConfusion);rw[hB,dA (by omega),qH,t1,t2,t3,t4];simp only[ByteArray.append_assoc,fF];done))
 ·first
  |exact Int.le_refl _
  |(
  have kk:0<=k/\k<s.1.length:=by omega
  have qq:=eL (s:=s) (by with_reducible assumption) kk
  obtain⟨q1,q2,q3⟩:=qq
  have z1:=qB9 q1
  have z2:=rZ s.1[k.toNat]!.2.2.1
  have u1:(⟨#[32]⟩:ByteArray).size=1:=rfl
  have u2:(⟨#[10]⟩:ByteArray).size=1:=rfl
  have u3:(⟨#[32,110,117,108,108]⟩:ByteArray).size=5:=rfl
  have u5:uJ.length=5:=rfl
  have v0:(⟨#[32,105,110,116]⟩:ByteArray).size=4:=rfl
  have v1:(⟨#[32,98,111,111,108]⟩:ByteArray).size=5:=rfl
  have v2:(⟨#[32,98,121,116,101,115]⟩:ByteArray).size=6:=rfl
  have v3:(⟨#[32,100,97,116,101]⟩:ByteArray).size=5:=rfl
  have v4:(⟨#[32,100,101,99,105,109,97,108,32]⟩:ByteArray).size=9:=rfl
  have q0:=aU (s:=s) (by with_reducible assumption)
  simp only[ByteArray.size_append]
  omega))
  |(
 with_reducible apply Side.mk
 (try dsimp only[cu,aB,aA,gts,loK,hiK,eE,eN])
 first
 |omega
 |(
  show _/\_;have kk:0<=k/\k<s.1.length:=by omega
  have qq:=eL (s:=s) (by with_reducible assumption) kk;obtain⟨q1,q2,q3⟩:=qq;omega)
 |(
  have kk:0<=k/\k<s.1.length:=by omega
  have qq:=eL (s:=s) (by with_reducible assumption) kk;obtain⟨q1,q2,q3⟩:=qq;have z1:=qB9 q1;have z2:=rZ s.1[k.toNat]!.2.2.1;have u1:(⟨#[32]⟩:ByteArray).size=1:=rfl;have u2:(⟨#[10]⟩:ByteArray).size=1:=rfl;have u3:(⟨#[32,110,117,108,108]⟩:ByteArray).size=5:=rfl;have u5:uJ.length=5:=rfl;have v0:(⟨#[32,105,110,116]⟩:ByteArray).size=4:=rfl;have v1:(⟨#[32,98,111,111,108]⟩:ByteArray).size=5:=rfl;have v2:(⟨#[32,98,121,116,101,115]⟩:ByteArray).size=6:=rfl;have v3:(⟨#[32,100,97,116,101]⟩:ByteArray).size=5:=rfl;have v4:(⟨#[32,100,101,99,105,109,97,108,32]⟩:ByteArray).size=9:=rfl;have q0:=aU (s:=s) (by with_reducible assumption);have w1:=q1.1;have w2:=q1.2;(try simp only[List.length_append,aZ,ByteArray.size_append]);omega)
 |(
  have q0:=aU (s:=s) (by with_reducible assumption);have kk:0<=s.2/\s.2<s.1.length:=by omega
  have qq:=eL (s:=s) (by with_reducible assumption) kk;obtain⟨q1,q2,q3⟩:=qq;have u1:(⟨#[107,101,121,32]⟩:ByteArray).size=4:=rfl;have u2:(⟨#[10]⟩:ByteArray).size=1:=rfl;(try simp only[List.length_append,aZ,ByteArray.size_append]);omega))
  |(conv=>whnf
    first
     |with_reducible first|done|exact trivial|refine NilBr.mk (fun h=>?_) ?_|apply aJ|apply aI|refine aK (by kernel_rfl) ?_|apply aL|apply bC|apply bB|apply aO
     |((with_reducible first|apply aQ|apply aP|apply bA)<;>intro h<;>(try dsimp only[cu,eE,eN]at h)<;>(try(exfalso;omega)))
     |(
 intro yy (hy:Tag 63/\_)
 obtain⟨(k:Int),(b:ByteArray),_⟩:=yy
 replace hy:=hy.2
 dsimp only[cu,aB,aA,gts,eE,eN]at hy
 obtain⟨hk,hB,hz⟩:=hy)))
 all_goals(
 with_reducible apply Leaf.mk
 (try dsimp only[cu,aB,aA,gts,eE,eN]at *)
 first
 |rw[jV,if_pos (by with_reducible assumption)]
 |(
  have hk2:k=s.1.length:=by omega
  have hd:s.1.drop k.toNat= []:=List.drop_eq_nil_of_le (by omega);rw[hd]at hB;have hB2:lZ []=(⟨#[]⟩:ByteArray):=rfl;rw[hB2,rT]at hB;rw[jV,if_neg (fun q=>q (by with_reducible assumption)),PT,qLM,hB];simp only[bU,bE,ByteArray.append_assoc,fF];done)
 |(rw[jV,if_neg (fun q=>q (by with_reducible assumption))]))
abbrev qNT:Tbl:=(80,CI)::qNS
theorem SN:aC Tryz.prog qNT:=aC.cons qIO SM
abbrev XC:Ct:=.fn [cG] (none) (fun(s:Schema)=>.tup [.int .u32,.int .i64] ((idS s).1,(idS s).2,()))
theorem qQI:aG Tryz.prog 61 XC:=by
 refine aG.fn SN mixed [] [] rfl rfl ?_;rintro⟨(s:Schema),_⟩ -;refine⟨[],?_⟩;repeat' (first
  |(
 with_reducible apply Side.mk
 (try dsimp only[cu,aB,aA,gts,loK,hiK,eE,eN])
 (
  have hfs:=XL (s:=s);omega))
  |(conv=>whnf
    first
     |with_reducible first|done|exact trivial|refine NilBr.mk (fun h=>?_) ?_|apply aJ|apply aI|refine aK (by kernel_rfl) ?_|apply aL|apply bC|apply bB|apply aO
     |((with_reducible first|apply aQ|apply aP|apply bA)<;>intro h<;>(try dsimp only[cu,eE,eN]at h)<;>(try(exfalso;omega)))))
 all_goals(
 with_reducible apply Leaf.mk
 (try dsimp only[cu,aB,aA,gts,eE,eN]at *)
 first
 |(
  rw[qQG (by with_reducible assumption)];first|done|rfl)
 |(rw[qQH (by with_reducible assumption)]))
abbrev qNU:Tbl:=(61,XC)::qNT
theorem SO:aC Tryz.prog qNU:=aC.cons qQI SN
abbrev OU:Ct:=.fn [cG] (none) (fun(s:Schema)=>.tup [.int .u32,.int .i64] ((idS s).1,(idS s).2,()))
theorem qPI:aG Tryz.prog 37 OU:=by
 refine aG.fn SO mixed [] [] rfl rfl ?_;rintro⟨(s:Schema),_⟩ -;refine⟨[],?_⟩;repeat' (first
  |(
 with_reducible apply Side.mk
 (try dsimp only[cu,aB,aA,gts,loK,hiK,eE,eN])
 (
  have hfs:=XL (s:=s);omega))
  |(conv=>whnf
    first
     |with_reducible first|done|exact trivial|refine NilBr.mk (fun h=>?_) ?_|apply aJ|apply aI|refine aK (by kernel_rfl) ?_|apply aL|apply bC|apply bB|apply aO
     |((with_reducible first|apply aQ|apply aP|apply bA)<;>intro h<;>(try dsimp only[cu,eE,eN]at h)<;>(try(exfalso;omega)))))
 all_goals(
 with_reducible apply Leaf.mk
 (try dsimp only[cu,aB,aA,gts,eE,eN]at *)
 first
 |(
  rw[qQG (by with_reducible assumption)];first|done|rfl)
 |(rw[qQH (by with_reducible assumption)]))
abbrev qNV:Tbl:=(37,OU)::qNU
theorem SP:aC Tryz.prog qNV:=aC.cons qPI SO
abbrev qTU:Ty:=.pair qJB (.pair (.list (.int .i64)) (.int .i64))
abbrev Ftr:Type:=Info×(List Int)×Int
@[reducible] instance:Inhabited Ftr:=instInhabitedDen qTU
abbrev qE2:ByteArray:=⟨#[77,80,84,49]⟩
abbrev qLL (s:Schema):Col:=s.1[s.2.toNat]!
abbrev fzK (file:ByteArray):Int:=qTM (file.extract ((file.size:Int)-8).toNat file.size) 0
theorem qG6 {s:Schema} (h:aX s=0):(idS s).1=qGD (PT s):=by rw[idS,if_neg (fun q=>q h)]
theorem qLD (s:Schema):(idS s).2=aX s:=by
 unfold idS;split
 ·rfl
 ·rename_i h;exact(Decidable.not_not.1 h).symm
theorem BP {t k:Int} {l:List Val} (hv:∀v,v∈l->okV v) (hl:l.length<=4096):(cV t k l).size<=4398046585379/\5<=(cV t k l).size:=by
 have:=PD (t:=t) (k:=k) hv hl;rw[cV,kP];omega
theorem uC {x:Int} (h:x=0):¬x≠0:=fun q=>q h
theorem DA {c:Col} {v:Val} (h:bK c v=0) (hn:v.1=true):v=NV:=by
 obtain⟨x,y,z⟩:=v;have e1:x=true:=hn;subst e1;unfold bK at h;split at h
 ·cases h
 ·split at h
  ·cases h
  ·rename_i h2
   split at h
   ·cases h
   ·rename_i h3
    have e2:z=EMP:=Decidable.not_not.1 fun q=>h2 ⟨.inl rfl,q⟩
    have e3:y=0:=Decidable.not_not.1 fun q=>h3 ⟨.inl rfl,q⟩
    subst e2 e3;rfl
def dQ (c:Col):List Val->Int
 | []=>0
 |v::r=>if bK c v≠0 then bK c v else dQ c r
def bst (t:Int) (l:List Val):Nat->Int->ByteArray->ByteArray
 |0,_,b=>b
 |n+1,k,b=>bst t l n (k+1) (if gI t k=true then(if b=⟨#[]⟩\/(cV t k l).size<b.size then cV t k l else b)else b)
def fK (c:Col) (l:List Val):ByteArray×Int:=
 if cB c.2.1=false then(⟨#[]⟩,1)else if l.length>4096 then(⟨#[]⟩,7)else if dQ c l≠0 then(⟨#[]⟩,dQ c l)else(bst c.2.1 l 4 1 ⟨#[]⟩,0)
theorem nW {c:Col} {l:List Val} {k:Int} (h:0<=k/\k<l.length):dQ c (l.drop k.toNat)=if bK c l[k.toNat]! ≠0 then bK c l[k.toNat]! else dQ c (l.drop (k+1).toNat):=by
 rw[bJ l k h];rfl
theorem gJ {c:Col}:∀ {l:List Val},dQ c l=0->∀v,v∈l->bK c v=0
 | [],_,v,hv=>by cases hv
 |x::r,h,v,hv=>by
  rw[dQ]at h;split at h
  ·rename_i q;exact absurd h q
  ·rename_i q
   rcases List.mem_cons.1 hv with p|p
   ·rw[p];exact Decidable.not_not.1 q
   ·exact gJ h v p
theorem eF {c:Col} {v:Val} (h:bK c v=0) (hi:inI v.2.1):okV v:=by
 refine⟨?_,hi⟩;by_cases hn:v.1=true
 ·rw[DA h hn];exact Nat.zero_le _
 ·have hn:v.1=false:=by simpa using hn
  unfold bK at h;split at h
  ·cases h
  ·split at h
   ·cases h
   ·rename_i h2
    split at h
    ·cases h
    ·split at h
     ·cases h
     ·split at h
      ·cases h
      ·rename_i h5
       by_cases ht:c.2.1=3
       ·have hp:cH c.2.1 v=true:=by
          refine Decidable.not_not.1 fun q=>h5 ⟨hn,by simpa using q⟩
        unfold cH at hp;rw[if_neg (by omega),if_neg (by omega),if_neg (by omega),if_pos ht]at hp;have:=of_decide_eq_true hp;omega
       ·have e:v.2.2=EMP:=Decidable.not_not.1 fun q=>h2 ⟨.inr ht,q⟩
        rw[e];exact Nat.zero_le _
theorem uR {t:Int} {l:List Val} {k:Int} {b:ByteArray} (h:1<=k/\k<5):bst t l (5-k).toNat k b=bst t l (5-(k+1)).toNat (k+1) (if gI t k=true then(if b=⟨#[]⟩\/(cV t k l).size<b.size then cV t k l else b)else b):=by
 rw[show(5-k).toNat=(5-(k+1)).toNat+1 by omega];rfl
theorem qF1 {t:Int} {l:List Val}:∀(n:Nat) (k:Int) (b:ByteArray),(b=⟨#[]⟩\/∃j,gI t j=true/\b=cV t j l)->(bst t l n k b=⟨#[]⟩\/∃j,gI t j=true/\bst t l n k b=cV t j l)
 |0,k,b,h=>h
 |n+1,k,b,h=>by
  refine qF1 n (k+1) _ ?_;split
  ·rename_i hu
   split
   ·exact .inr ⟨k,hu,rfl⟩
   ·exact h
  ·exact h
abbrev HJ:Ct:=.fn [uI,.list bQ] (some (fun(c:Col) (l:List Val)=>(l.length<=9223372036854775807)/\(∀v,v∈l->inI v.2.1))) (fun(c:Col) (l:List Val)=>.tup [.str,.int .i64] ((fK c l).1,(fK c l).2,()))
theorem qKZ:aG Tryz.prog 39 HJ:=by
 refine aG.fn SP mixed [] [] rfl rfl ?_;rintro⟨(c:Col),(l:List Val),_⟩ hpre;replace hpre:=hpre _ rfl;dsimp only[cu]at hpre;obtain⟨hl,hin⟩:=hpre;refine⟨[(0,12,LA.mk [.sl 21 (.int .i64)] (fun y=>Tag 64/\cu [.int .i64] (fun(i:Int)=>(0<=i/\i<=l.length)/\(dQ c l=dQ c (l.drop i.toNat))) y) (cu [.int .i64] (fun(i:Int)=>((l.length:Int)-i).toNat)) (cu [.int .i64] (fun(i:Int)=>([]:List (Nat×Nat×LA))))),(0,28,LA.mk [.sl 10 (.int .i64),.sl 9 .str] (fun y=>Tag 65/\cu [.int .i64,.str] (fun(k:Int) (b:ByteArray)=>(1<=k/\k<=5)/\(bst c.2.1 l 4 1 ⟨#[]⟩=bst c.2.1 l (5-k).toNat k b)/\(b.size<=4398046585379)) y) (cu [.int .i64,.str] (fun(k:Int) (b:ByteArray)=>(5-k).toNat)) (cu [.int .i64,.str] (fun(k:Int) (b:ByteArray)=>([]:List (Nat×Nat×LA)))))],?_⟩;repeat' (first
  |(
 with_reducible refine Side.mk ⟨(⟨⟩:Tag 64),?_⟩
 dsimp only[cu,aB,aA,gts,eE,eN]
 refine⟨?_,?_⟩
 ·omega
 ·first
  |rfl
  |(
  have hv:¬bK c l[i.toNat]! ≠0:=uC (by with_reducible assumption)
  rw[hc,nW (by omega),if_neg hv]))
  |(
 with_reducible refine Side.mk ⟨(⟨⟩:Tag 65),?_⟩
 dsimp only[cu,aB,aA,gts,eE,eN]
 refine⟨?_,?_,?_⟩
 ·omega
 ·first
  |rfl
  |(
  have hu:¬gI c.2.1 k=true:=by rw[show gI c.2.1 k=false by first|with_reducible assumption|exact qQT (by with_reducible assumption)];exact Bool.noConfusion
  rw[hb,uR (by omega),if_neg hu])
  |(
  have hu:gI c.2.1 k=true:=by first|with_reducible assumption|exact qL2 (by with_reducible assumption)
  first
  |(
   have he:b=⟨#[]⟩:=by with_reducible assumption
   rw[hb,uR (by omega),if_pos hu,if_pos (.inl he)])
  |(
   have he:(cV c.2.1 k l).size<b.size:=by omega
   rw[hb,uR (by omega),if_pos hu,if_pos (.inr he)])
  |(
   have he:¬(b=⟨#[]⟩\/(cV c.2.1 k l).size<b.size):=fun q=>by
    rcases q with q|q
    ·contradiction
    ·omega
   rw[hb,uR (by omega),if_pos hu,if_neg he]))
 ·first
  |exact Nat.zero_le _
  |(
  have hch:dQ c l=0:=by rw[hc,List.drop_eq_nil_of_le (by omega)];rfl
  have hok:∀v,v∈l->okV v:=fun v hv=>eF (gJ hch v hv) (hin v hv)
  have hbs:=BP (t:=c.2.1) (k:=k) hok (by omega)
  omega))
  |(
 with_reducible apply Side.mk
 (try dsimp only[cu,aB,aA,gts,loK,hiK,eE,eN])
 first
 |omega
 |(
  have hch:dQ c l=0:=by rw[hc,List.drop_eq_nil_of_le (by omega)];rfl
  have hok:∀v,v∈l->okV v:=fun v hv=>eF (gJ hch v hv) (hin v hv)
  exact⟨by omega,hok⟩))
  |(conv=>whnf
    first
     |with_reducible first|done|exact trivial|refine NilBr.mk (fun h=>?_) ?_|apply aJ|apply aI|refine aK (by kernel_rfl) ?_|apply aL|apply bC|apply bB|apply aO
     |((with_reducible first|apply aQ|apply aP|apply bA)<;>intro h<;>(try dsimp only[cu,eE,eN]at h)<;>(try(exfalso;omega)))
     |(
 intro yy (hy:Tag 64/\_)
 obtain⟨(i:Int),_⟩:=yy
 replace hy:=hy.2
 dsimp only[cu,aB,aA,gts,eE,eN]at hy
 obtain⟨hi,hc⟩:=hy)
     |(
 intro yy (hy:Tag 65/\_)
 obtain⟨(k:Int),(b:ByteArray),_⟩:=yy
 replace hy:=hy.2
 dsimp only[cu,aB,aA,gts,eE,eN]at hy
 obtain⟨hk,hb,hz⟩:=hy)))
 all_goals(
 with_reducible apply Leaf.mk
 (try dsimp only[cu,aB,aA,gts,eE,eN]at *)
 first
 |(
  have hkn:cB c.2.1=false:=by first|with_reducible assumption|exact qQT (by with_reducible assumption)
  rw[fK,if_pos hkn])
 |(
  have hkn:¬cB c.2.1=false:=by rw[show cB c.2.1=true by first|with_reducible assumption|exact qL2 (by with_reducible assumption)];exact Bool.noConfusion
  first
  |(
   have h4:l.length>4096:=by omega
   rw[fK,if_neg hkn,if_pos h4])
  |(
   have h4:¬l.length>4096:=by omega
   have hv:bK c l[i.toNat]! ≠0:=by with_reducible assumption
   have hce:dQ c l=bK c l[i.toNat]!:=by rw[hc,nW (by omega),if_pos hv]
   rw[fK,if_neg hkn,if_neg h4,hce,if_pos hv])
  |(
   have hch:dQ c l=0:=by rw[hc,List.drop_eq_nil_of_le (by omega)];rfl
   have hok:∀v,v∈l->okV v:=fun v hv=>eF (gJ hch v hv) (hin v hv)
   have h4:¬l.length>4096:=by omega
   rw[fK,if_neg hkn,if_neg h4,if_neg (uC hch),hb,show(5-k).toNat=0 by omega];first|done|rfl)))
abbrev qNW:Tbl:=(39,HJ)::qNV
theorem SQ:aC Tryz.prog qNW:=aC.cons qKZ SP
def jC:List ByteArray->ByteArray
 | []=>⟨#[]⟩
 |b::l=>b++jC l
def vI (s:Schema) (l:List Rec) (i:Nat):List Val:=if i=s.1.length then dS l else fD l i
def chnk (s:Schema) (l:List Rec) (i:Nat):ByteArray:=(fK (tC s i) (vI s l i)).1
def chnks (s:Schema) (l:List Rec):List ByteArray:=(List.range (s.1.length+1)).map (chnk s l)
def szB (b:ByteArray):ByteArray:=aN (put (b.size:Int))
def oR (s:Schema) (l:List Rec):ByteArray:=aN (four (qGD (PT s)))++aN (put (l.length:Int))++jC ((chnks s l).map szB)++jC ((iA s l (List.range s.1.length)).map rH)++cS (fR s l[0]!)++cS (fR s l[l.length-1]!)
def FO (C F:ByteArray):ByteArray:=qE2++C++F++aN (four (F.size:Int))++qE2
def IX (s:Schema) (l:List Rec):ByteArray:=FO (jC (chnks s l)) (oY (oR s l))
def lP (s:Schema) (l:List Rec):ByteArray×Int:=if aX s≠0 then(⟨#[]⟩,aX s)else if l.length>1024 then(⟨#[]⟩,7)else if l.length=0\/dN s l=false then(⟨#[]⟩,1)else(IX s l,0)
theorem fI (a b:List ByteArray):jC (a++b)=jC a++jC b:=by
 induction a with
 |nil=>exact ByteArray.empty_append.symm
 |cons x a ih=>rw[List.cons_append,jC,jC,ih,ByteArray.append_assoc]
def JE (v:Val):Prop:=(v.1=true->v=dM)/\inI v.2.1/\v.2.2.size<=1048576
def vO (z:Zone):Prop:=(0<=z.1/\z.1<=4096)/\(0<=z.2.1/\z.2.1<=4096)/\JE z.2.2.1/\JE z.2.2.2
def vN (s:Schema) (r:Rank):Prop:=JE r.1/\bK (qLL s) r.1=0/\0<=r.2/\r.2<=1099511627776
structure Made (s:Schema) (l:List Rec):Prop where
 sch:aX s=0
 len:1<=l.length/\l.length<=1024
 chunk:∀c,c∈chnks s l->c.size<=4398046585379
 zone:∀i:Nat,i<s.1.length->vO (mF s.1[i]!.2.1 (fD l i))/\qP0 s.1[i]! (mF s.1[i]!.2.1 (fD l i))=true
 lo:vN s (fR s l[0]!)
 hi:vN s (fR s l[l.length-1]!)
 le:¬jQ (qLL s).2.1 (fR s l[0]!) (fR s l[l.length-1]!)>0
theorem qEX (C F:ByteArray):(FO C F).size=12+C.size+F.size:=by
 unfold FO;simp only[ByteArray.size_append,sB];have:qE2.size=4:=rfl;omega
theorem qL9 (v:Val):1<=(rG v).size:=by
 unfold rG;split
 ·exact Nat.le_refl 1
 ·simp only[ByteArray.size_append]
  have s1:(⟨#[1]⟩:ByteArray).size=1:=rfl;omega
theorem kU {s:Schema} {r:Rank} (h:vN s r):2<=(cS r).size/\(cS r).size<=1048700:=by
 have h1:=mN (v:=r.1);have h2:=qL9 r.1;have h3:=aY r.2;have h4:=h.1.2.2;unfold cS;rw[ByteArray.size_append,aT];omega
theorem qA {z:Zone} (h:vO z):(rH z).size<=2200000:=by
 obtain⟨_,_,h3,h4⟩:=h;have a1:=mN (v:=z.2.2.1);have a2:=mN (v:=z.2.2.2);have a3:=aY (cI 0 z.1);have a4:=aY (cI 0 z.2.1);have a5:=h3.2.2;have a6:=h4.2.2;unfold rH;simp only[ByteArray.size_append,aT];omega
theorem ZC {s:Schema} {l:List Rec} (hv:cN s l=true) {j:Nat} (hj:j<l.length):(l[j]!).2.length=s.1.length:=by
 have h:=(bS hv).2 j hj;unfold jR at h;split at h
 ·cases h
 ·rename_i q;exact Decidable.not_not.1 q
def wZ (l:List Rec):Prop:=∀r,r∈l->∀v,v∈r.2->inI v.2.1
theorem MB {c:Col} {l:List Val} (hl:l.length<=4096) (hv:∀v,v∈l->okV v):(fK c l).1.size<=4398046585379:=by
 unfold fK;split
 ·exact Nat.zero_le _
 split
 ·exact Nat.zero_le _
 split
 ·exact Nat.zero_le _
 rcases qF1 (t:=c.2.1) (l:=l) 4 1 ⟨#[]⟩ (.inl rfl)with q|⟨j,hj,q⟩
 ·rw[q];exact Nat.zero_le _
 ·rw[q];exact(BP hv hl).1
theorem FL {s:Schema} {l:List Rec} (hv:cN s l=true) (hi:wZ l) {i:Nat} (h:i<s.1.length):∀v,v∈fD l i->bK s.1[i]! v=0/\inI v.2.1:=by
 intro v hm;obtain⟨r,hr,rfl⟩:=List.mem_map.1 hm;obtain⟨j,hj,rfl⟩:=List.mem_iff_getElem.1 hr;have h0:=(bS hv).2 j hj;have hn:=ZC hv hj;rw[getElem!_pos l j hj]at h0 hn;unfold atV;rw[if_pos (by omega)];refine⟨?_,?_⟩
 ·unfold jR at h0
  rw[if_neg (fun q=>q hn)]at h0;have:=oQ h0 (i:Int) ⟨by omega,by omega⟩;exact this
 ·rw[getElem!_pos _ i (by omega)]
  exact hi _ (List.getElem_mem hj) _ (List.getElem_mem _)
theorem WH {s:Schema} {l:List Rec} (hv:cN s l=true):∀v,v∈dS l->bK uH v=0/\inI v.2.1:=by
 intro v hm;obtain⟨r,hr,rfl⟩:=List.mem_map.1 hm;simp only[cN,Bool.and_eq_true,decide_eq_true_eq,List.all_eq_true]at hv;have q:=hv.2 r hr;simp only[gR,Bool.and_eq_true,decide_eq_true_eq]at q;refine⟨rfl,?_⟩;show inI r.1;unfold inI;omega
theorem qMO {s:Schema} {l:List Rec} (hv:cN s l=true) {j:Nat} (hj:j<l.length):0<=(l[j]!).1/\(l[j]!).1<=1099511627776:=by
 simp only[cN,Bool.and_eq_true,decide_eq_true_eq,List.all_eq_true]at hv;have q:=hv.2 l[j]! (by rw[getElem!_pos l j hj];exact List.getElem_mem hj);simp only[gR,Bool.and_eq_true,decide_eq_true_eq]at q;omega
theorem MJ {c:Col} {v:Val} (h:bK c v=0/\inI v.2.1):JE v:=by
 have ho:=eF h.1 h.2;exact⟨fun q=>DA h.1 q,h.2,ho.1⟩
theorem qNQ {P:Val->Prop} (h0:P dM) {t g:Int} {a b:Val} (ha:P a) (hb:P b):P (pV t g a b):=by
 unfold pV;split
 ·exact h0
 split
 ·exact hb
 split
 ·exact ha
 split
 ·exact hb
 ·exact ha
theorem qCF {P:Val->Prop} (h0:P dM) {t:Int}:∀(l:List Val) (z:Int×Val×Val),P z.2.1->P z.2.2->(∀v,v∈l->P v)->P (zGo t l z).2.1/\P (zGo t l z).2.2/\z.1<=(zGo t l z).1/\(zGo t l z).1<=z.1+l.length
 | [],z,h1,h2,_=>⟨h1,h2,Int.le_refl _,by simp [zGo]⟩
 |v::l,z,h1,h2,h=>by
  have hv:=h v (List.mem_cons_self ..);have hl:∀x,x∈l->P x:=fun x hx=>h x (List.mem_cons_of_mem _ hx)
  have e:zGo t (v::l) z=zGo t l (zY t z v):=rfl;rw[e,List.length_cons];unfold zY;split
  ·obtain⟨q1,q2,q3,q4⟩:=qCF h0 (t:=t) l (z.1+1,z.2.1,z.2.2) h1 h2 hl
   exact⟨q1,q2,by simp only at q3;omega,by simp only at q4;omega⟩
  ·obtain⟨q1,q2,q3,q4⟩:=qCF h0 (t:=t) l (z.1,pV t (-1) z.2.1 v,pV t 1 z.2.2 v) (qNQ h0 h1 hv) (qNQ h0 h2 hv) hl
   exact⟨q1,q2,by simp only at q3;omega,by simp only at q4;omega⟩
theorem xO:JE dM:=⟨fun _=>rfl,NX,Nat.zero_le _⟩
theorem KY {t:Int} {l:List Val} (hl:l.length<=4096) (h:∀v,v∈l->JE v):vO (mF t l):=by
 obtain⟨q1,q2,q3,q4⟩:=qCF xO (t:=t) l (0,dM,dM) xO xO h;refine⟨⟨?_,?_⟩,⟨q3,?_⟩,q1,q2⟩
 ·show(0:Int)<=(l.length:Int);omega
 ·show(l.length:Int)<=4096;omega
 ·show(zGo t l (0,dM,dM)).1<=4096
  simp only at q4;omega
theorem LR {s:Schema} {l:List Rec} {i:Nat} (h:i<s.1.length):chnk s l i=(fK s.1[i]! (fD l i)).1:=by
 unfold chnk tC vI;rw[if_neg (by omega),if_neg (by omega),Int.toNat_natCast]
theorem PB {s:Schema} {l:List Rec}:chnk s l s.1.length=(fK uH (dS l)).1:=by
 unfold chnk tC vI;rw[if_pos rfl,if_pos rfl]
theorem nY {s:Schema} {l:List Rec} (hv:cN s l=true) (hi:wZ l) (hl:l.length<=1024) {k:Int} (h:0<=k/\k<s.1.length) :
  @getElem! (List (List Val)) Nat (List Val) (fun xs i=>i<xs.length) _ (instInhabitedDen (.list bQ)) (jF l s.1.length) k.toNat=fD l k.toNat/\(fD l k.toNat).length<=1024/\(∀v,v∈fD l k.toNat->inI v.2.1)/\(fK s.1[k.toNat]! (fD l k.toNat)).1.size<=4398046585379/\vO (mF s.1[k.toNat]!.2.1 (fD l k.toNat)):=by
 have hk:k.toNat<s.1.length:=by omega
 have hs:=aU (bS hv).1;have ho:=FL hv hi hk;have hlen:=qQ l k.toNat;refine⟨(lA (l:=l) (n:=(s.1.length:Int)) ⟨by omega,by omega⟩).2 _ (by omega),by omega,fun v q=>(ho v q).2,MB (by omega) fun v q=>eF (ho v q).1 (ho v q).2,KY (by omega) fun v q=>MJ (ho v q)⟩
theorem MC {s:Schema} {l:List Rec} (hv:cN s l=true) (hl:l.length<=1024):(dS l).length<=1024/\(∀v,v∈dS l->inI v.2.1)/\(fK ((⟨#[115,101,113]⟩,1,0,false):Col) (dS l)).1.size<=4398046585379:=by
 have ho:=WH hv;have hlen:(dS l).length=l.length:=by simp [dS]
 exact⟨by omega,fun v q=>(ho v q).2,MB (by omega) fun v q=>eF (ho v q).1 (ho v q).2⟩
theorem eS {s:Schema} {l:List Rec} (hv:cN s l=true) (hi:wZ l) {j:Nat} (hj:j<l.length):vN s (fR s l[j]!):=by
 have hs:=aU (bS hv).1;have hn:=ZC hv hj;have hq:=qMO hv hj;have ho:=FL hv hi (i:=s.2.toNat) (by omega);have hm:(l[j]!).2[s.2.toNat]! ∈fD l s.2.toNat:=List.mem_map.2 ⟨l[j]!,by rw[getElem!_pos l j hj];exact List.getElem_mem hj,by unfold atV;rw[if_pos (by omega)]⟩;unfold fR;rw[if_neg (by omega)];have h1:=ho _ hm;exact⟨MJ h1,h1.1,hq⟩
theorem bF {s:Schema} {l:List Rec} (h:dN s l=true):cN s l=true:=by
 unfold dN at h;cases q:cN s l with
 |true=>rfl
 |false=>rw[q]at h;cases h
theorem qQA {s:Schema} {l:List Rec} (h:¬(idS s).2=0):lP s l=(⟨#[]⟩,(idS s).2):=by rw[qLD]at h ⊢;rw[lP,if_pos h]
theorem qQB {s:Schema} {l:List Rec} (h:(idS s).2=0) (h1:l.length>1024):lP s l=(⟨#[]⟩,7):=by rw[qLD]at h;rw[lP,if_neg (fun q=>q h),if_pos h1]
theorem qNH {s:Schema} {l:List Rec} (h:(idS s).2=0) (h1:¬l.length>1024) (h2:l.length=0\/dN s l=false):lP s l=(⟨#[]⟩,1):=by rw[qLD]at h;rw[lP,if_neg (fun q=>q h),if_neg h1,if_pos h2]
theorem qNI {s:Schema} {l:List Rec} (h:(idS s).2=0) (h1:¬l.length>1024) (h2:¬l.length=0) (h3:dN s l=true):lP s l=(IX s l,0):=by
 rw[qLD]at h;rw[lP,if_neg (fun q=>q h),if_neg h1,if_neg (by rintro(q|q);exact h2 q;rw[h3]at q;cases q)]
abbrev chP (s:Schema) (l:List Rec) (k:Nat):List ByteArray:=(List.range k).map (chnk s l)
theorem qO {s:Schema} {l:List Rec} {k:Int} (h:0<=k):chP s l (k+1).toNat=chP s l k.toNat++ [chnk s l k.toNat]:=by
 rw[show(k+1).toNat=k.toNat+1 by omega,chP,List.range_succ,List.map_append];rfl
theorem IP {s:Schema} {l:List Rec}:chnks s l=chP s l s.1.length++ [(fK ((⟨#[115,101,113]⟩,1,0,false):Col) (dS l)).1]:=by
 rw[chnks,List.range_succ,List.map_append,List.map_cons,List.map_nil,PB]
theorem fJ (b:ByteArray):jC [b]=b:=rT b
abbrev CH:Ct:=.fn [cG,.list iW] (some (fun(s:Schema) (l:List Rec)=>(l.length<=9223372036854775807)/\(wZ l))) (fun(s:Schema) (l:List Rec)=>.tup [.str,.int .i64] ((lP s l).1,(lP s l).2,()))
theorem qIN:aG Tryz.prog 14 CH:=by
 refine aG.fn SQ mixed [] [] rfl rfl ?_;rintro⟨(s:Schema),(l:List Rec),_⟩ hpre;replace hpre:=hpre _ rfl;dsimp only[cu]at hpre;obtain⟨hl,hin⟩:=hpre;refine⟨[(0,22,LA.mk [.sl 47 (.int .i64),.sl 9 .str,.sl 10 .str,.sl 11 .str] (fun y=>Tag 66/\cu [.int .i64,.str,.str,.str] (fun(k:Int) (o:ByteArray) (q:ByteArray) (z:ByteArray)=>(0<=k/\k<=s.1.length)/\(o=qE2++jC (chP s l k.toNat))/\(q=jC ((chP s l k.toNat).map szB))/\(z=jC ((iA s l (List.range k.toNat)).map rH))/\((o.size:Int)<=4+4398046585379*k)/\((q.size:Int)<=10*k)/\((z.size:Int)<=2200000*k)) y) (cu [.int .i64,.str,.str,.str] (fun(k:Int) (o:ByteArray) (q:ByteArray) (z:ByteArray)=>((s.1.length:Int)-k).toNat)) (cu [.int .i64,.str,.str,.str] (fun(k:Int) (o:ByteArray) (q:ByteArray) (z:ByteArray)=>([]:List (Nat×Nat×LA)))))],?_⟩;repeat' (first
  |(
 with_reducible refine Side.mk ⟨(⟨⟩:Tag 66),?_⟩
 dsimp only[cu,aB,aA,gts,eE,eN]
 refine⟨?_,?_,?_,?_,?_,?_,?_⟩
 ·omega
 ·first
  |exact(rT _).symm
  |(
  have hv:=bF (s:=s) (l:=l) (jL (by with_reducible assumption))
  have hs:=aU (bS hv).1
  have ec:=nY hv hin (by omega) (k:=k) (by omega)
  obtain⟨c1,c2,c3,c4,c5⟩:=ec
  rw[ho,c1,qO (by omega),fI,fJ,LR (by omega),ByteArray.append_assoc])
 ·first
  |rfl
  |(
  have hv:=bF (s:=s) (l:=l) (jL (by with_reducible assumption))
  have hs:=aU (bS hv).1
  have ec:=nY hv hin (by omega) (k:=k) (by omega)
  obtain⟨c1,c2,c3,c4,c5⟩:=ec
  have hu:=aS (n:=(((fK s.1[k.toNat]! (fD l k.toNat)).1.size:Nat):Int)) (by omega)
  rw[hq,c1,hu,qO (by omega),List.map_append,fI,List.map_cons,List.map_nil,fJ,LR (by omega)]
  rfl)
 ·first
  |rfl
  |(
  have hv:=bF (s:=s) (l:=l) (jL (by with_reducible assumption))
  have hs:=aU (bS hv).1
  have ec:=nY hv hin (by omega) (k:=k) (by omega)
  obtain⟨c1,c2,c3,c4,c5⟩:=ec
  rw[hz,c1,rP (by omega),List.map_append,fI,List.map_cons,List.map_nil,fJ])
 ·first
  |exact Int.le_refl _
  |(
  have hv:=bF (s:=s) (l:=l) (jL (by with_reducible assumption))
  have hs:=aU (bS hv).1
  have ec:=nY hv hin (by omega) (k:=k) (by omega)
  obtain⟨c1,c2,c3,c4,c5⟩:=ec
  rw[c1,ByteArray.size_append]
  omega)
 ·first
  |exact Int.le_refl _
  |(
  have hv:=bF (s:=s) (l:=l) (jL (by with_reducible assumption))
  have hs:=aU (bS hv).1
  have ec:=nY hv hin (by omega) (k:=k) (by omega)
  obtain⟨c1,c2,c3,c4,c5⟩:=ec
  have hu:=aS (n:=(((fK s.1[k.toNat]! (fD l k.toNat)).1.size:Nat):Int)) (by omega)
  have p1:=aY (((fK s.1[k.toNat]! (fD l k.toNat)).1.size:Nat):Int)
  have p2:=qA c5
  rw[c1,hu,ByteArray.size_append,aT]
  omega)
 ·first
  |exact Int.le_refl _
  |(
  have hv:=bF (s:=s) (l:=l) (jL (by with_reducible assumption))
  have hs:=aU (bS hv).1
  have ec:=nY hv hin (by omega) (k:=k) (by omega)
  obtain⟨c1,c2,c3,c4,c5⟩:=ec
  have p1:=aY (((fK s.1[k.toNat]! (fD l k.toNat)).1.size:Nat):Int)
  have p2:=qA c5
  rw[c1,ByteArray.size_append]
  omega))
  |(
 with_reducible apply Side.mk
 (try dsimp only[cu,aB,aA,gts,loK,hiK,eE,eN])
 first
 |omega
 |(
  have hv:=bF (s:=s) (l:=l) (jL (by with_reducible assumption));have hs:=aU (bS hv).1;first
  |omega
  |(
   have ec:=nY hv hin (by omega) (k:=k) (by omega);obtain⟨c1,c2,c3,c4,c5⟩:=ec;first
   |(
    rw[c1];first
    |omega
    |(exact⟨by omega,c3⟩))
   |(
    have p1:=aY (((fK s.1[k.toNat]! (fD l k.toNat)).1.size:Nat):Int);have p2:=qA c5;rw[c1];omega)
   |(
    have hu:=aS (n:=(((fK s.1[k.toNat]! (fD l k.toNat)).1.size:Nat):Int)) (by omega);have p1:=aY (((fK s.1[k.toNat]! (fD l k.toNat)).1.size:Nat):Int);have p2:=qA c5;first
    |(
     rw[c1,hu];omega)
    |(
     rw[c1,hu,aT];omega))
   |(
    rw[c1];exact⟨⟨c5.1.2,c5.2.1.2⟩,⟨c5.2.2.1.2.1,by have:=c5.2.2.1.2.2;omega⟩,⟨c5.2.2.2.2.1,by have:=c5.2.2.2.2.2;omega⟩⟩))
  |(
   have es:=MC hv (by omega);obtain⟨d1,d2,d3⟩:=es;first
   |exact⟨by omega,d2⟩
   |omega
   |(
    have hu:=aS (n:=(((fK ((⟨#[115,101,113]⟩,1,0,false):Col) (dS l)).1.size:Nat):Int)) (by omega);have p1:=aY (((fK ((⟨#[115,101,113]⟩,1,0,false):Col) (dS l)).1.size:Nat):Int);first
    |(
     rw[hu];omega)
    |(
     rw[hu,aT];omega)))
  |(
   have hul:=aS (n:=(l.length:Int)) (by omega);have p3:=aY (l.length:Int);rw[hul];omega)
  |(
   have r1:=eS hv hin (j:=(0:Int).toNat) (by omega);have r2:=eS hv hin (j:=((l.length:Int)-1).toNat) (by omega);have z1:=kU r1;have z2:=kU r2;first
   |exact⟨⟨r1.2.2.1,r1.2.2.2⟩,r1.1.2.1,by have:=r1.1.2.2;omega⟩
   |(exact⟨⟨r2.2.2.1,r2.2.2.2⟩,r2.1.2.1,by have:=r2.1.2.2;omega⟩))
  |(
   have hul:=aS (n:=(l.length:Int)) (by omega);have p3:=aY (l.length:Int);have hv:=bF (s:=s) (l:=l) (jL (by with_reducible assumption));have hs:=aU (bS hv).1;have es:=MC hv (by omega);obtain⟨d1,d2,d3⟩:=es;have hu:=aS (n:=(((fK ((⟨#[115,101,113]⟩,1,0,false):Col) (dS l)).1.size:Nat):Int)) (by omega);have p1:=aY (((fK ((⟨#[115,101,113]⟩,1,0,false):Col) (dS l)).1.size:Nat):Int);have r1:=eS hv hin (j:=(0:Int).toNat) (by omega);have r2:=eS hv hin (j:=((l.length:Int)-1).toNat) (by omega);have z1:=kU r1;have z2:=kU r2;have f4:∀v,(four v).length=4:=fun _=>rfl
   have u9:(⟨#[77,80,84,49]⟩:ByteArray).size=4:=rfl;simp only[ByteArray.size_append,aT,hu,hul,f4];omega)
  |(
   have ec:=nY hv hin (by omega) (k:=k) (by omega);obtain⟨c1,c2,c3,c4,c5⟩:=ec;have:=(lA (l:=l) (n:=(s.1.length:Int)) ⟨by omega,by omega⟩).1;omega)))
  |(conv=>whnf
    first
     |with_reducible first|done|exact trivial|refine NilBr.mk (fun h=>?_) ?_|apply aJ|apply aI|refine aK (by kernel_rfl) ?_|apply aL|apply bC|apply bB|apply aO
     |((with_reducible first|apply aQ|apply aP|apply bA)<;>intro h<;>(try dsimp only[cu,eE,eN]at h)<;>(try(exfalso;omega)))
     |(
 intro yy (hy:Tag 66/\_)
 obtain⟨(k:Int),(o:ByteArray),(q:ByteArray),(z:ByteArray),_⟩:=yy
 replace hy:=hy.2
 dsimp only[cu,aB,aA,gts,eE,eN]at hy
 obtain⟨hk,ho,hq,hz,hzo,hzq,hzz⟩:=hy)))
 all_goals(
 with_reducible apply Leaf.mk
 (try dsimp only[cu,aB,aA,gts,eE,eN]at *)
 first
 |rw[qQA (by with_reducible assumption)]
 |rw[qQB (by with_reducible assumption) (by omega)]
 |rw[qNH (by with_reducible assumption) (by omega) (.inl (by omega))]
 |rw[qNH (by with_reducible assumption) (by omega) (.inr (qHR (by with_reducible assumption)))]
 |(
  have hv:=bF (s:=s) (l:=l) (jL (by with_reducible assumption));have hs:=aU (bS hv).1;have hul:=aS (n:=(l.length:Int)) (by omega);have p3:=aY (l.length:Int);have hv:=bF (s:=s) (l:=l) (jL (by with_reducible assumption));have hs:=aU (bS hv).1;have es:=MC hv (by omega);obtain⟨d1,d2,d3⟩:=es;have hu:=aS (n:=(((fK ((⟨#[115,101,113]⟩,1,0,false):Col) (dS l)).1.size:Nat):Int)) (by omega);have p1:=aY (((fK ((⟨#[115,101,113]⟩,1,0,false):Col) (dS l)).1.size:Nat):Int);have r1:=eS hv hin (j:=(0:Int).toNat) (by omega);have r2:=eS hv hin (j:=((l.length:Int)-1).toNat) (by omega);have z1:=kU r1;have z2:=kU r2;have f4:∀v,(four v).length=4:=fun _=>rfl
  have u9:(⟨#[77,80,84,49]⟩:ByteArray).size=4:=rfl;have hk2:k.toNat=s.1.length:=by omega
  rw[hk2]at ho hq hz;have hf:oR s l=aN (four (idS s).1)++aN (put (l.length:Int))++(q++aN (put (((fK ((⟨#[115,101,113]⟩,1,0,false):Col) (dS l)).1.size:Nat):Int)))++z++cS (fR s l[(0:Int).toNat]!)++cS (fR s l[((l.length:Int)-1).toNat]!):=by
   rw[oR,IP,List.map_append,fI,List.map_cons,List.map_nil,fJ,<-hq,<-hz,qG6 (bS hv).1,show((l.length:Int)-1).toNat=l.length-1 by omega];rfl
  have hfs:((oY (oR s l)).size:Int)<4294967296:=by
   rw[kP,hf];simp only[ByteArray.size_append,aT,f4];omega
  rw[qNI (by with_reducible assumption) (by omega) (by omega) (jL (by with_reducible assumption))];rw[hu,hul,<-hf];show o++(fK ((⟨#[115,101,113]⟩,1,0,false):Col) (dS l)).1++oY (oR s l)++aN (four (IntKind.u32.wrap ((oY (oR s l)).size:Int)))++qE2=FO (jC (chnks s l)) (oY (oR s l));rw[NQ ⟨by omega,hfs⟩,ho,IP,fI,fJ,FO];simp only[ByteArray.append_assoc])
 |(rw[qNI (by with_reducible assumption) (by omega) (by omega) (jL (by with_reducible assumption))]))
abbrev qNX:Tbl:=(14,CH)::qNW
theorem SS:aC Tryz.prog qNX:=aC.cons qIN SQ
end Go.Proofs.YtcjiefknhfhmkaaGreatDoor
namespace Go.Abs
set_option maxRecDepth 100000
set_option maxHeartbeats 4000000
set_option linter.unusedVariables false
set_option linter.unusedSimpArgs false
theorem RW {n:Nat} {P:Program} {row:String} {args:Array Value} {w:World} {R:Value->World->Prop} (h:Rows P row args w R):RowsIn Fence.wide n P row args w R:=
 fun c cs _=>let ⟨v,w',r,s⟩:=h c cs;⟨v,w',r,stepsIn_wide.2 s⟩
theorem kW {P:Program} {ops:Array Oper} {Q:Exit->Act->World->Prop} (lr n:Nat) (hd:∀(i:Nat) (o:Oper),ops[i]? =some o->∀c,o.op ≠ .defer c) (hQ:¬LetsOut Q) :
  ∀(l:List Nat) (a:Act) (w:World),wpOps P ops Q l a w->wpOpsIn (Fence.wide.inRound lr) n P ops Q l a w
 | [],_,_,h=>h
 |i::rest,a,w,h=>by
  have ih:=kW (P:=P) lr n hd hQ rest;simp only[wpOps]at h;simp only[wpOpsIn];cases ho:ops[i]? with
  |none=>simp only[ho]at h;exact ih _ _ h
  |some o=>
   simp only[ho]at h;by_cases hw:Region.wanted o (yielded ops a.tmps)=true
   ·simp only[hw,if_true]at h ⊢
    rcases h with h|⟨_,h⟩
    ·unfold Oper.wp at h
     unfold Oper.wpIn;refine⟨fun _ _=>trivial,?_⟩;rw[Oper.semAt_eq _ _ _ (hd i o ho)];generalize (execOp a.eval o).run P w=r at h ⊢;cases r with
     |ok x w'=>
      cases x with
      |value v=>exact ih _ _ h
      |skip=>exact ih _ _ h
      |defer d=>exact ih _ _ h
      |enter f args=>
       refine⟨(by intro q;cases q),CallsIn.inRound lr (callsIn_wide.2 (Calls.mono h ?_))⟩;intro e w'' he;cases e with
       |returned v=>exact ih _ _ he
       |panicked c=>exact he
       |outgrown=>exact he
      |row rw' args=>
       refine⟨(by intro q;cases q),?_⟩;exact RowsIn.mono (F:=Fence.wide.inRound lr) (RW h) fun v w'' he=>ih _ _ he
      |_=>exact h.elim
     |halt x w'=>cases x<;>exact h
    ·exact(hQ h).elim
   ·simp only[hw]at h ⊢
    exact⟨fun _ _=>trivial,ih _ _ h⟩
def rV (ops:Array Oper):Bool:=ops.toList.all fun o=>match o.op with
 | .defer _=>false
 |_=>true
theorem tT {ops:Array Oper} (h:rV ops=true):∀(i:Nat) (o:Oper),ops[i]? =some o->∀c,o.op ≠ .defer c:=by
 intro i o ho c hc;have hi:i<ops.size:=(Array.getElem?_eq_some_iff.1 ho).1;have:=List.all_eq_true.1 h o (by rw[<-Array.getElem?_toList]at ho;exact bZ ho);rw[hc]at this;cases this
theorem qJ5 {E:Env} (hT:aC E.P E.T) (hM:E.P.follows .mixedOrders=true) {id:Nat} {ops:Array Oper} {s:Y} {K:Y->Prop} (hc:rV ops=true) (h:xdraw E id ops s K) (lr n:Nat) :
  ∀(ι:Iota) (a:Act) (w:World),SR s.den ι a w->(Code.region id ops true).wpIn (Fence.wide.inRound lr) n E.P (WW E.n0 s.den ι w (fun e st=>e = .normal/\∃s',st=s'.den/\K s'/\FrW (jU ops.toList) s s')) a w:=
 KW hT hM h (fun Q a w=>(Code.region id ops true).wpIn (Fence.wide.inRound lr) n E.P Q a w) (fun q hq=>wpIn_mono q hq) (fun hq q=>wpIn_region_draw fun t=>kW lr n (tT hc) hq _ _ _ (q t))
structure Calm (w w':World):Prop where
 os:w'.os=w.os
 tape:w'.tape=w.tape
 output:w'.output=w.output
 size:w.heap.size<=w'.heap.size
 cells:∀(b:Nat) (c:Array Value) (e:TypeId) (fr:Nat×Nat),w.heap[b]? =some (.cells c e fr)->w'.heap[b]? =some (.cells c e fr)
theorem Calm.cell {w w':World} (h:Calm w w') {b o:Nat} {v:Value} (hc:w.cell? ⟨b,o,none⟩=some v):w'.cell? ⟨b,o,none⟩=some v:=by
 unfold World.cell? at hc ⊢;split at hc
 ·rename_i c e fr hb
  simp only[h.cells _ _ _ _ hb];exact hc
 ·cases hc
theorem Rep.calm {w w':World} {ι:Iota} {M:Nat->Prop} (h:Calm w w') {x:V} {y:Value} (r:Rep w ι M x y):Rep w' ι M x y:=by
 induction r with
 |v x=>exact .v x
 |any x=>exact .any x
 |pF row off b o cells hb hm hc _ ih=>exact .pF row off b o cells (Nat.lt_of_lt_of_le hb h.size) hm (fun j hj=>h.cell (hc j hj)) ih
 |pO id row off l hl=>exact .pO id row off l hl
 |sF sz rows a cap cells hb hcap hr hc _ ih=>
  refine .sF sz rows a cap cells (fun hne=>?_) hcap hr (fun i hi j hj=>h.cell (hc i hi j hj)) ih;obtain⟨hs,hb,hm⟩:=hb hne;exact⟨hs,Nat.lt_of_lt_of_le hb h.size,hm⟩
 |sN sz=>exact .sN sz
 |sO id off len cap l c e fr hl hcap hb hs=>exact .sO id off len cap l c e fr hl hcap (h.cells _ _ _ _ hb) hs
 |agg xs vs hl _ ih=>exact .agg xs vs hl ih
 |tup xs vs hl _ ih=>exact .tup xs vs hl ih
 |fn f first caps vs us h1 h2 _ _ ih1 ih2=>exact .fn f first caps vs us h1 h2 ih1 ih2
 |ifc t x y _ ih=>exact .ifc t x y ih
 |sL t l y _ ih=>exact .sL t l y ih
 |oL id n y _ ih=>exact .oL id n y ih
theorem HRel.calm {h:Heap} {ι:Iota} {w w':World} (H:HRel h ι w) (hc:Calm w w'):HRel h ι w':=
 ⟨fun id o ho=>let ⟨l,c,fr,q1,la⟩:=H.live id o ho;⟨l,c,fr,q1,⟨hc.cells _ _ _ _ la.blk,la.unfrozen,la.sz,la.rows,la.fits,fun i hi j hj=>let ⟨y,g1,g2⟩:=la.reads i hi j hj;⟨y,g1,g2.calm hc⟩⟩⟩,H.free,H.out,H.apart,fun b hb=>Nat.lt_of_lt_of_le (H.xlt b hb) hc.size,H.xob⟩
theorem SR.calm {s:St} {ι:Iota} {a:Act} {w w':World} (r:SR s ι a w) (hc:Calm w w'):SR s ι a w':=
 ⟨r.defers,⟨r.slots.1,fun i x hx=>let ⟨y,y1,y2⟩:=r.slots.2 i x hx;⟨y,y1,y2.calm hc⟩⟩,r.heap.calm hc⟩
theorem EvN.calm {n:Nat} {h h':Heap} {ι ι':Iota} {w0 w w':World} (e:EvN n h ι w0 h' ι' w) (hc:Calm w w') (hlow:∀b,b<w0.heap.size->w'.heap[b]? =w.heap[b]?):EvN n h ι w0 h' ι' w':=
 ⟨hc.os.trans e.os,hc.tape.trans e.tape,hc.output.trans e.output,Nat.le_trans e.size hc.size,e.iota,e.away,fun b hb hn=>let ⟨q1,q2⟩:=e.frame b hb hn;⟨(hlow b hb).trans q1,q2⟩,
   fun b c el fr hb=>let ⟨c',fr',q1,q2⟩:=e.sizes b c el fr hb;⟨c',fr',hc.cells _ _ _ _ q1,q2⟩⟩
theorem Calm.grown {w w':World} {row:Option Nat} (h:w.grownBy w' row) (hr:∀r,row=some r->∃o:Obj,w.heap[r]? =some o/\o.isCells=false):Calm w w':=
 ⟨h.os,h.tape,h.output,h.size,fun b c e fr hb=>by
   have hlt:b<w.heap.size:=(Array.getElem?_eq_some_iff.1 hb).1;rw[h.block b hlt (fun q=>by
    obtain⟨o,ho,hc⟩:=hr b q.symm;rw[hb]at ho;injection ho with ho;subst ho;cases hc)]
   exact hb⟩
def Kp (A1 A2:Addr) (W W':World):Prop:=W'.cell? A1=W.cell? A1/\W'.cell? A2=W.cell? A2
abbrev Ck (len:Nat):={k:Nat // 32*k<len}
def ckV (g off len:Nat) (x:Ck len):Value:=.slice (some ⟨g,off+32*x.1,none⟩) (min 32 (len-32*x.1)) (min 32 (len-32*x.1))
def rQ (P:Program) (gf:FuncId):Prop:=∀(n l b1 o1 b2 o2 g off len cap N:Nat) (sv:Value),((sv = .slice none 0 0/\len=0)\/(sv = .slice (some ⟨g,off,none⟩) len cap/\len<=cap))->len<=1099511627776->len<=32*N->∀(J Jx:List (Ck len)->World->Prop),
 (∀s W W' row,J s W->W.grownBy W' row->(∀r,row=some r->False)->J s W') ->
 (∀pre x W,J pre W->pre.length<N->YieldAt Fence.wide (n-1) P l #[ckV g off len x] W fun e W'=>
    (e = .returned (.bool true)/\J (pre++ [x]) W'/\Kp ⟨b1,o1,none⟩ ⟨b2,o2,none⟩ W W')\/(e = .returned (.bool false)/\Jx (pre++ [x]) W')) ->
 ∀(W:World),W.cell? ⟨b1,o1,none⟩=some sv->W.cell? ⟨b2,o2,none⟩=some (.int .i64 32)->J [] W ->
  CallsIn Fence.wide n P gf #[.func (.yield l) #[] #[],.pointer (some ⟨b1,o1,none⟩),.pointer (some ⟨b2,o2,none⟩)] W fun e W'=>(∃v,e = .returned v) /\
   ((∃ys,(∃k,ys.map (·.1)=List.range k/\len<=32*k/\32*k<len+32)/\J ys W')\/(∃pre,Jx pre W'))
theorem rQ.stops {P:Program} {gf:FuncId} (It:rQ P gf) (n b1 o1 b2 o2 g off len cap:Nat) (sv:Value) (w:World) (hsv:(sv = .slice none 0 0/\len=0)\/(sv = .slice (some ⟨g,off,none⟩) len cap/\len<=cap)) (hlen:len<=1099511627776)
  (hb1:b1<w.heap.size) (hb2:b2<w.heap.size) (h1:w.cell? ⟨b1,o1,none⟩=some sv) (h2:w.cell? ⟨b2,o2,none⟩=some (.int .i64 32)) :
  SeqStopsK Fence.wide n P gf #[.pointer (some ⟨b1,o1,none⟩),.pointer (some ⟨b2,o2,none⟩)] (fun x:Ck len=>#[ckV g off len x]) (Kp ⟨b1,o1,none⟩ ⟨b2,o2,none⟩)
   (fun ys=>∃k,ys.map (·.1)=List.range k/\len<=32*k/\32*k<len+32) (fun _=>True) len w:=by
 intro l J Jx W hW hJ hJx hY h0;refine(It n l b1 o1 b2 o2 g off len cap len sv hsv hlen (by omega) J Jx (fun s W1 W' row hs hg hr=>hJ s W1 W' row hs hg (fun r e=>(hr r e).elim)) hY W ((hW.cell (p:=⟨b1,o1,none⟩) hb1).trans h1) ((hW.cell (p:=⟨b2,o2,none⟩) hb2).trans h2) h0).mono ?_;rintro e W' ⟨he,h|⟨pre,h⟩⟩
 ·exact⟨he,.inl h⟩
 ·exact⟨he,.inr ⟨pre,trivial,h⟩⟩
theorem pZ {P:Program} {ops:Array Oper} {Q:Exit->Act->World->Prop} (d:List Deferred) (hQ:¬LetsOut Q) :
  ∀(l:List Nat) (t:Array Value) (ds:List Deferred) (w:World),wpOps P ops Q l ⟨t,ds⟩ w->wpOps P ops (fun e a' w'=>∃ds',a'.defers=ds'++d/\Q e ⟨a'.tmps,ds'⟩ w') l ⟨t,ds++d⟩ w
 | [],_,ds,_,h=>⟨ds,rfl,h⟩
 |i::rest,t,ds,w,h=>by
  have ih:=pZ (P:=P) (ops:=ops) d hQ rest;simp only[wpOps]at h ⊢;cases ho:ops[i]? with
  |none=>simp only[ho]at h;exact ih _ _ _ h
  |some o=>
   simp only[ho]at h;have put:∀(ds:List Deferred) v,(Act.put ⟨t,ds++d⟩ o.dst v)=⟨(Act.put ⟨t,ds⟩ o.dst v).tmps,ds++d⟩:=fun ds v=>by cases o.dst<;>rfl
   have put0:∀(ds:List Deferred) v,(Act.put ⟨t,ds⟩ o.dst v)=⟨(Act.put ⟨t,ds⟩ o.dst v).tmps,ds⟩:=fun ds v=>by cases o.dst<;>rfl
   by_cases hw:Region.wanted o (yielded ops t)=true
   ·simp only[hw,if_true]at h ⊢
    rcases h with h|⟨_,h⟩
    ·refine .inl ?_
     unfold Oper.wp at h ⊢;have he:(Act.eval ⟨t,ds++d⟩)=(Act.eval ⟨t,ds⟩):=by funext x;cases x<;>rfl
     rw[he];generalize (execOp (Act.eval ⟨t,ds⟩) o).run P w=r at h ⊢;cases r with
     |ok x w'=>
      cases x with
      |value v=>show wpOps _ _ _ rest (Act.put ⟨t,ds++d⟩ o.dst v) w';rw[put];exact ih _ _ _ (by rw[<-put0];exact h)
      |skip=>show wpOps _ _ _ rest (Act.put ⟨t,ds++d⟩ o.dst undef) w';rw[put];exact ih _ _ _ (by rw[<-put0];exact h)
      |defer dd=>
       show wpOps _ _ _ rest (Act.put ⟨t,(dd::ds)++d⟩ o.dst undef) w';rw[put];exact ih _ _ _ (by rw[<-put0];exact h)
      |enter f args=>
       refine Calls.mono h ?_;intro e w'' he;cases e with
       |returned v=>show wpOps _ _ _ rest (Act.put ⟨t,ds++d⟩ o.dst v) w'';rw[put];exact ih _ _ _ (by rw[<-put0];exact he)
       |panicked c=>exact⟨ds,rfl,he⟩
       |outgrown=>exact(hQ he).elim
      |row rw' args=>
       refine Rows.mono h ?_;intro v w'' he;show wpOps _ _ _ rest (Act.put ⟨t,ds++d⟩ o.dst v) w'';rw[put];exact ih _ _ _ (by rw[<-put0];exact he)
      |_=>exact h.elim
     |halt x w'=>cases x<;>first|exact h.elim|exact⟨ds,rfl,h⟩
    ·exact(hQ h).elim
   ·simp only[hw]at h ⊢
    rw[if_neg (by simp)]at h ⊢;rw[put];exact ih _ _ _ (by rw[<-put0];exact h)
theorem pD {E:Env} (hT:aC E.P E.T) (hM:E.P.follows .mixedOrders=true) (hI:qB E) {c rest:Code} {s:Y} {Q:Exit->Y->Prop} {Qw:Exit->Act->World->Prop} {k:Y->Prop} {ι:Iota} {a:Act} {w:World} (hx:xcode E c s (qF Q k)) (r:SR s.den ι a w)
  (hn:∀(s':Y) (ι':Iota) (a':Act) (w':World),k s'->SR s'.den ι' a' w'->EvN E.n0 s.den.h ι w s'.den.h ι' w'->rest.wp E.P Qw a' w')
  (he:∀(e:Exit) (s':Y) (ι':Iota) (a':Act) (w':World),e ≠ .normal->Q e s'->SR s'.den ι' a' w'->EvN E.n0 s.den.h ι w s'.den.h ι' w'->Qw e a' w'):(Code.seq c rest).wp E.P Qw a w:=by
 refine wp_seq (wp_mono (hU hT hM hI c s _ hx ι a w r) ?_);rintro e a' w' ⟨st,ι',⟨s',rfl,hq,_⟩,r',ev⟩;cases e with
 |normal=>exact hn s' ι' a' w' hq r' ev
 |_=>exact he _ s' ι' a' w' (by simp) hq r' ev
def EU (gf:FuncId) (gt:Nat) (s:Y):Option (List Bool×Nat×Nat×Nat×List Int):=match s.sl[gt]? with
 |some (.fn (.func g) [] [.pO i1 0 0,.pO i2 0 0])=>(match s.h[i1]?,s.h[i2]?,Nat.beq g gf with
  |some (.raw (.live o1)),some (.raw (.live o2)),true=>(match o1.rows,o2.rows with
   | [[.oL jd n]],[[.v (.int .i64 32)]]=>(match s.h[jd]? with
     |some (.opt t l _)=>(match eQ (t':=.int .i64) l,!(Nat.beq i1 i2)&&(!(Nat.beq i1 jd) && !(Nat.beq i2 jd))with
      |some l,true=>some ([decide (n=l.length)],i1,i2,jd,l)
      |_,_=>none)
     |_=>none)
   |_,_=>none)
  |_,_,_=>none)
 |_=>none
def ck (D:List Int) (k:Nat):List Int:=(D.drop (32*k)).take 32
def ckL (D:List Int):List (List Int):=(List.range ((D.length+31)/32)).map (ck D)
def kL (i1 i2 jd:Nat) (h:List XO):List XO:=((h.set i1 (.raw .dead)).set i2 (.raw .dead)).set jd (.raw .dead)
def qQO (D x:List Int):Prop:=∃k,32*k<D.length/\x=ck D k
structure RfAnd (A B C:Prop):Prop where
 a:A
 b:B
 c:C
def qIK (P:Program) (inl:FuncId->List V->Y->(V->Y->Prop)->Prop) (T:Tbl) (W:List Nat) (ib:Nat) (e5:TypeId) (p q id12:Nat) (ops12:Array Oper) (id13:Nat) (ops13:Array Oper) (rs:List ResultVar) (res:ByteArray)
  (BB:List (List Int)->List Int) (D:List Int) (s1:Y):Prop:=
 RfAnd (arrive 0 W [.row ib [.ows (.int .u8) e5]] s1 s1 (fun y=>Leaf (y.1=BB [])/\True))
  (∀(pre:List (List Int)) (x:List Int),(∀z,z∈pre++ [x]->qQO D z)->pre.length<D.length ->
   fS W [.row ib [.ows (.int .u8) e5]] (BB pre,()) s1.bs fun sl h=>iG sl p (.sL (.int .i64) x) fun sl2=>iG sl2 q (.sL (.int .i64) x) fun sl2=>fN h.length fun L=>xdraw ⟨P,T,L,0,[],inl⟩ id12 ops12 ⟨sl2,h,[],[]⟩ fun s'=>match s' with
    |⟨_,h',tch',an'⟩=>arrive 0 W [.row ib [.ows (.int .u8) e5]] s1 ⟨sl,h',tch',an'⟩ (fun y=>Leaf (y.1=BB (pre++ [x]))/\True))
  (fS W [.row ib [.ows (.int .u8) e5]] (BB (ckL D),()) s1.bs fun sl h=>xops ⟨P,T,0,0,[],inl⟩ ops13 id13 ops13.toList 0 ⟨sl,h,[],[]⟩ fun s'=>match s' with
     |⟨sl',h',_,_⟩=>match ares P rs sl' (dens h')with
      |some y=>Leaf (y = .v (.string res))/\True
      |none=>False)
theorem RP {gf:FuncId} {gt:Nat} {s:Y} {cs:List Bool} {i1 i2 jd:Nat} {D:List Int} (h:EU gf gt s=some (cs,i1,i2,jd,D)) (hc:cU cs) :
  s.sl[gt]? =some (.fn (.func gf) [] [.pO i1 0 0,.pO i2 0 0])/\i1≠i2/\i1≠jd/\i2≠jd/\(∃o1,s.h[i1]? =some (.raw (.live o1))/\o1.rows= [[.oL jd D.length]])/\(∃o2,s.h[i2]? =some (.raw (.live o2))/\o2.rows= [[.v (.int .i64 32)]])/\∃e,s.h[jd]? =some (.opt (.int .i64) D e):=by
 unfold EU at h;split at h
 ·rename_i g i1' i2' hg
  split at h
  ·rename_i o1 o2 ho1 ho2 hb
   split at h
   ·rename_i jd' n r1 r2
    split at h
    ·rename_i t l e hl
     split at h
     ·rename_i l' hcl hne
      injection h with h;injection h with e1 h;injection h with e2 h;injection h with e3 h;injection h with e4 e5;subst e1 e2 e3 e4 e5;have hn:n=l'.length:=of_decide_eq_true (hc _ (by simp));obtain⟨et,el⟩:=fG hcl;subst et;subst el hn;have hb:=Nat.eq_of_beq_eq_true hb;subst hb;simp only[Bool.and_eq_true,Bool.not_eq_true']at hne;exact⟨hg,Nat.ne_of_beq_eq_false hne.1,Nat.ne_of_beq_eq_false hne.2.1,Nat.ne_of_beq_eq_false hne.2.2,⟨o1,ho1,r1⟩,⟨o2,ho2,r2⟩,_,hl⟩
     ·cases h
    ·cases h
   ·cases h
  ·cases h
 ·cases h
theorem qHG {h:List XO} {ι:Iota} {w:World} (H:HRel (dens h) ι w) (id:Nat):HRel (dens (h.set id (.raw .dead))) ι w/\Evolve (dens h) ι w (dens (h.set id (.raw .dead))) ι w:=by
 have hk:∀x:Nat,(dens (h.set id (.raw .dead)))[x]? =(dens h)[x]? \/(dens (h.set id (.raw .dead)))[x]? =some HS.dead:=fun x=>qHH h id none x
 exact H.killed hk (by simp [dC]) (fun _=>False) (fun _ q=>q.elim) rfl rfl rfl rfl (fun _ _=>rfl) (fun _ c _ fr q=>⟨c,fr,q,rfl⟩)
theorem qIM {s:Y} {gf:FuncId} {gt:Nat} {cs:List Bool} {i1 i2 jd:Nat} {D:List Int} (hh:EU gf gt s=some (cs,i1,i2,jd,D)) (hc:cU cs) {ι:Iota} {a:Act} {w:World} (r:SR s.den ι a w) :
  ∃(A1 A2:Addr) (sv:Value) (g off cap:Nat),a.eval (.tmp gt) = .func (.func gf) #[] #[.pointer (some A1),.pointer (some A2)]/\A1.spot=none/\A2.spot=none/\A1.block<w.heap.size/\A2.block<w.heap.size/\w.cell? A1=some sv/\w.cell? A2=some (.int .i64 32) /\
   ((sv = .slice none 0 0/\D.length=0)\/(sv = .slice (some ⟨g,off,none⟩) D.length cap/\D.length<=cap)) /\
   SR ⟨s.sl,dens (kL i1 i2 jd s.h)⟩ ι a w/\Evolve (dens s.h) ι w (dens (kL i1 i2 jd s.h)) ι w/\¬Ob (dens (kL i1 i2 jd s.h)) ι A1.block/\¬Ob (dens (kL i1 i2 jd s.h)) ι A2.block /\
   (D≠ []->g<w.heap.size/\¬Mt (dens (kL i1 i2 jd s.h)) ι g/\∀(j:Nat) (x:Int),D[j]? =some x->w.cell? ⟨g,off+j,none⟩=some (.int .i64 x)):=by
 obtain⟨hg,n12,n1d,n2d,⟨o1,ho1,r1⟩,⟨o2,ho2,r2⟩,ed,hjd⟩:=RP hh hc;have H:=r.heap;obtain⟨y,y1,y2⟩:=r.slots.2 gt _ hg;have hev:a.eval (.tmp gt)=y:=by
  simp only[Act.eval];have hlt:=(Array.getElem?_eq_some_iff.1 y1).1;rw[Array.getElem?_eq_getElem hlt]at y1;injection y1 with y1;simp [Array.getD,hlt,y1]
 have d1:(dens s.h)[i1]? =some (.live o1):=by rw[aE,ho1];rfl
 have d2:(dens s.h)[i2]? =some (.live o2):=by rw[aE,ho2];rfl
 obtain⟨L1,c1,fr1,hL1,la1⟩:=H.live i1 o1 d1;obtain⟨L2,c2,fr2,hL2,la2⟩:=H.live i2 o2 d2;obtain⟨H1,e1⟩:=qHG H i1;obtain⟨H2,e2⟩:=qHG H1 i2;obtain⟨H3,e3⟩:=qHG H2 jd;have ev:=(e1.trans e2).trans e3;have sr:SR ⟨s.sl,dens (kL i1 i2 jd s.h)⟩ ι a w:=⟨r.defers,r.slots.mono ev,H3⟩
 have old:∀(id:Nat) (o:AObj),(dens (kL i1 i2 jd s.h))[id]? =some (.live o)->(dens s.h)[id]? =some (.live o)/\id≠i1/\id≠i2/\id≠jd:=by
  intro id o q;have one:∀(h:List XO) (k:Nat),(dens (h.set k (.raw .dead)))[id]? =some (.live o)->id≠k/\(dens h)[id]? =some (.live o):=by
   intro h k q;rw[aR]at q;by_cases e:k=id
   ·subst e
    rw[List.getElem?_set]at q;simp only[if_pos]at q;split at q
    ·cases q
    ·cases q
   ·rw[List.getElem?_set_ne e]at q
    exact⟨Ne.symm e,q⟩
  obtain⟨q1,q2⟩:=one _ _ q;obtain⟨q3,q4⟩:=one _ _ q2;obtain⟨q5,q6⟩:=one _ _ q4;exact⟨q6,q5,q3,q1⟩
 have nob:∀(k:Nat) (o:AObj) (L:Loc),(k=i1\/k=i2\/k=jd)->(dens s.h)[k]? =some (.live o)->ι k=some L->¬Ob (dens (kL i1 i2 jd s.h)) ι L.blk:=by
  rintro k o L hk ho hl ⟨id,o',L',q1,q2,q3⟩;obtain⟨q4,m1,m2,m3⟩:=old id o' q1;have:=H.apart _ _ _ _ _ _ q4 q2 ho hl q3;subst this;rcases hk with q|q|q
  ·exact m1 q
  ·exact m2 q
  ·exact m3 q
 obtain⟨x1,hx1,rx1⟩:=la1.reads 0 (by simp [r1]) 0 (by simp [r1]);obtain⟨x2,hx2,rx2⟩:=la2.reads 0 (by simp [r2]) 0 (by simp [r2]);have rx1:Rep w ι (Mt s.den.h ι) (.oL jd D.length) x1:=by simpa [r1]using rx1
 have rx2:Rep w ι (Mt s.den.h ι) (.v (.int .i64 32)) x2:=by simpa [r2]using rx2
 cases rx2;have hlt1:L1.blk<w.heap.size:=(Array.getElem?_eq_some_iff.1 la1.blk).1;have hlt2:L2.blk<w.heap.size:=(Array.getElem?_eq_some_iff.1 la2.blk).1;have cc1:w.cell? ⟨L1.blk,L1.base+0*L1.sz+0,none⟩=some x1:=by
  simp only[World.cell?,la1.blk];rw[<-hx1];simp
 have cc2:w.cell? ⟨L2.blk,L2.base+0*L2.sz+0,none⟩=some (.int .i64 32):=by
  simp only[World.cell?,la2.blk];rw[<-hx2];simp
 have hfun:y = .func (.func gf) #[] #[.pointer (some ⟨L1.blk,L1.base+0*L1.sz+0,none⟩),.pointer (some ⟨L2.blk,L2.base+0*L2.sz+0,none⟩)]:=by
  cases y2 with
  |fn _ _ _ vs us q1 q2 q3 q4=>
   have hvs:vs = #[]:=by
    have:vs.size=0:=q1.symm;exact Array.eq_empty_of_size_eq_zero this
   have hus:us.size=2:=q2.symm;have u0:=q4 0 (by simp) (by omega);have u1:=q4 1 (by simp) (by omega);have u0:Rep w ι (Mt s.den.h ι) (.pO i1 0 0) us[0]:=u0;have u1:Rep w ι (Mt s.den.h ι) (.pO i2 0 0) us[1]:=u1;have v0:us[0] = .pointer (some ⟨L1.blk,L1.base+0*L1.sz+0,none⟩):=by
    generalize us[0]=z at u0;cases u0 with|pO _ _ _ l hl=>rw[hL1]at hl;injection hl with hl;subst hl;rfl
   have v1:us[1] = .pointer (some ⟨L2.blk,L2.base+0*L2.sz+0,none⟩):=by
    generalize us[1]=z at u1;cases u1 with|pO _ _ _ l hl=>rw[hL2]at hl;injection hl with hl;subst hl;rfl
   rw[hvs];congr 1
   refine Array.ext (by rw[hus];rfl) (fun i h1 h2=>?_);match i,h1 with
   |0,_=>exact v0
   |1,_=>exact v1
   |i+2,h1=>rw[hus]at h1;omega
 suffices fin:∃(g off cap:Nat),((x1 = .slice none 0 0/\D.length=0)\/(x1 = .slice (some ⟨g,off,none⟩) D.length cap/\D.length<=cap))/\(D≠ []->g<w.heap.size/\¬Mt (dens (kL i1 i2 jd s.h)) ι g/\∀(j:Nat) (x:Int),D[j]? =some x->w.cell? ⟨g,off+j,none⟩=some (.int .i64 x))by
  obtain⟨g,off,cap,k1,k2⟩:=fin;exact⟨⟨L1.blk,L1.base+0*L1.sz+0,none⟩,⟨L2.blk,L2.base+0*L2.sz+0,none⟩,x1,g,off,cap,hev.trans hfun,rfl,rfl,hlt1,hlt2,cc1,cc2,k1,sr,ev,nob i1 o1 L1 (.inl rfl) d1 hL1,nob i2 o2 L2 (.inr (.inl rfl)) d2 hL2,k2⟩
 by_cases hD:D= []
 ·subst hD
  cases rx1 with
  |oL _ _ _ q=>
   simp at q;cases q;exact⟨0,0,0,.inl ⟨rfl,rfl⟩,fun q=>(q rfl).elim⟩
 ·have hl0:D.length≠0:=fun q=>hD (List.length_eq_zero_iff.1 q)
  have dj:(dens s.h)[jd]? =some (.live ⟨1,D.map (Ty.row (.int .i64)),ed⟩):=by rw[aE,hjd];simp [XO.den,hD,Ty.size]
  obtain⟨Ld,cd,frd,hLd,lad⟩:=H.live jd _ dj;have hsd:Ld.sz=1:=lad.sz;cases rx1 with
  |oL _ _ _ q=>
   rw[if_neg hl0]at q;cases q with
   |sO _ _ _ cap L c e fr hL hcap hb hs=>
    rw[hLd]at hL;injection hL with hL;subst hL;refine⟨Ld.blk,Ld.base+0*Ld.sz,cap,.inr ⟨rfl,hcap⟩,fun _=>⟨(Array.getElem?_eq_some_iff.1 lad.blk).1,?_,fun j x hj=>?_⟩⟩
    ·rintro(q|q)
     ·exact H.xob _ q ⟨jd,_,Ld,dj,hLd,rfl⟩
     ·exact nob jd _ Ld (.inr (.inr rfl)) dj hLd q
    ·have hjl:=aF hj
     obtain⟨z,z1,z2⟩:=lad.reads j (by simpa using hjl) 0 (by simp [Ty.cells]);have e1:(D.map (Ty.row (.int .i64)))[j]'(by simpa using hjl)= [.v (.int .i64 x)]:=by
      rw[List.getElem?_eq_getElem hjl]at hj;injection hj with hj;simp [hj,Ty.cells]
     have z2:Rep w ι (Mt (dens s.h) ι) (.v (.int .i64 x)) z:=by
      have:=z2;simp only[e1]at this;exact this
     cases z2;simp only[World.cell?,lad.blk];rw[<-z1];congr 1
     simp [Ty.size]
theorem EvN.zero {n:Nat} {h h':Heap} {ι ι':Iota} {w w':World} (e:EvN n h ι w h' ι' w'):EvN 0 h ι w h' ι' w':=
 ⟨e.os,e.tape,e.output,e.size,fun id l q=>(Nat.not_lt_zero _ q).elim,e.away,e.frame,e.sizes⟩
theorem EvN.keepsOthers {n:Nat} {h h':Heap} {ι ι':Iota} {w w':World} (H:HRel h ι w) (e:EvN n h ι w h' ι' w'):KeepsOthers w w':=
 ⟨e.size,fun k o hk ho=>by
   have hlt:k<w.heap.size:=(Array.getElem?_eq_some_iff.1 hk).1;refine((e.frame k hlt ?_).1).trans hk;rintro⟨id,x,l,q1,q2,q3⟩;obtain⟨l',c,fr,q4,la⟩:=H.live id x q1;rw[q2]at q4;injection q4 with q4;subst q4;have:=la.blk;rw[q3,hk]at this;injection this with this;subst this;cases ho⟩
theorem SRel.sets {sl:List V} {h ι w} {t:Array Value} (r:SRel sl h ι w t) (d:Nat) {x:V} {y:Value} (ry:Rep w ι (Mt h ι) x y):SRel (sl.set d x) h ι w (t.setIfInBounds d y):=
 SRel.put (a:=⟨t,[]⟩) r (some d) ry
theorem dV {w w':World} {A:Addr} (h:w'.heap[A.block]? =w.heap[A.block]?):w'.cell? A=w.cell? A:=by simp [World.cell?,h]
theorem qOH {h:Heap} {ι:Iota} {W:World} {D:List Int} {g off:Nat} (x:Ck D.length) (hb:g<W.heap.size) (hm:¬Mt h ι g) (hc:∀(j:Nat) (x:Int),D[j]? =some x->W.cell? ⟨g,off+j,none⟩=some (.int .i64 x)) :
  Rep W ι (Mt h ι) (.sL (.int .i64) (ck D x.1)) (ckV g off D.length x):=by
 obtain⟨k,hk⟩:=x;refine .sL _ _ _ ?_;have hl:((ck D k).map (Ty.row (.int .i64))).length=min 32 (D.length-32*k):=by simp [ck]
 have:=Rep.sF_mk (w:=W) (ι:=ι) (M:=Mt h ι) (sz:=1) (rows:=(ck D k).map (Ty.row (.int .i64))) ⟨g,off+32*k,none⟩ (min 32 (D.length-32*k)) (fun _=>⟨rfl,hb,hm⟩) (by rw[hl];exact Nat.le_refl _)
  (fun r hr=>by obtain⟨z,_,rfl⟩:=List.mem_map.1 hr;rfl)
  (fun i j r x hi hj=>by
    rw[List.getElem?_map]at hi;cases hz:(ck D k)[i]? with
    |none=>rw[hz]at hi;cases hi
    |some z=>
     rw[hz]at hi;injection hi with hi;subst hi;have hj0:j=0:=by
      have:=aF hj;simp [Ty.row,Ty.cells]at this;omega
     subst hj0;have hx:x = .v (.int .i64 z):=by
      simp [Ty.row,Ty.cells]at hj;exact hj.symm
     subst hx;have hz2:D[32*k+i]? =some z:=by
      simp only[ck,List.getElem?_take,List.getElem?_drop]at hz;split at hz
      ·exact hz
      ·cases hz
     have:=hc _ _ hz2;exact⟨_,by rw[show off+32*k+i*1+0=off+(32*k+i)by omega];exact this,.v _⟩)
 rw[hl]at this;exact this
theorem GT {P:Program} {n l id p q:Nat} {v:Value} {t:Array Value} {w:World} {K:Act->World->Prop} {ty:TypeId} {pos:String} (hp:p<t.size) (h:K ⟨(t.setIfInBounds p v).setIfInBounds q v,[]⟩ w) :
  (Code.region id #[{dst:=some q,op:=.assign (.tmp p),type:=ty,pos:=pos,after:=#[],guard:=none}] false).wpIn (Fence.wide.inRound l) n P (Exit.then K (fun _ _ _=>False)) ⟨t.setIfInBounds p v,[]⟩ w:=by
 refine wpIn_region ?_;simp only[Array.size,List.length_cons,List.length_nil,List.range,List.range.loop,wpOpsIn];have e:(Act.eval ⟨t.setIfInBounds p v,[]⟩ (.tmp p))=v:=by
  simp [Act.eval,Array.getD,hp]
 simp only[Region.wanted,Oper.wpIn,List.getElem?_toArray,List.getElem?_cons_zero,if_true];refine⟨fun _ _=>trivial,?_⟩;rw[Oper.semAt_eq _ _ _ (by intro c q;cases q)];simp only[execOp,e];exact h
theorem qOG {D:List Int} {xs:List (Ck D.length)} {k:Nat} (h:xs.map (·.1)=List.range k) (h1:D.length<=32*k) (h2:32*k<D.length+32):xs.map (fun x=>ck D x.1)=ckL D:=by
 have hk:k=(D.length+31)/32:=by omega
 have:xs.map (fun x=>ck D x.1)=(xs.map (·.1)).map (ck D):=by simp
 rw[this,h,hk];rfl
theorem qIL {P:Program} {T:Tbl} {inl:FuncId->List V->Y->(V->Y->Prop)->Prop} (hT:aC P T) (hM:P.follows .mixedOrders=true) {gf:FuncId} (It:rQ P gf) (eg:∀(args:Array Value) (w:World),(callFunc gf args).run P w = .ok (.enter gf args) w)
  {gt p q bid bid2 id12:Nat} {ops12:Array Oper} {W:List Nat} {ib:Nat} {e5:TypeId} {id13:Nat} {ops13:Array Oper} {rs:List ResultVar} {res:ByteArray} {BB:List (List Int)->List Int} {id11:Nat} {ty11:TypeId} {pos11:String}
  (hc12:rV ops12=true) {s:Y} {cs:List Bool} {i1 i2 jd:Nat} {D:List Int} (hpa:p<s.sl.length) (hh:EU gf gt s=some (cs,i1,i2,jd,D)) (hc:cU cs) (hlen:D.length<=1099511627776)
  (hl:qIK P inl T W ib e5 p q id12 ops12 id13 ops13 rs res BB D ⟨s.sl,kL i1 i2 jd s.h,[],s.an⟩) {ι:Iota} {a:Act} {w:World} (r:SR s.den ι a w) {Qw:Exit->Act->World->Prop}
  (hq:∀(D0:Nat) (ι':Iota) (w':World) (sl:List V) (h:List XO),w.heap.size<=D0->w'.heap[D0]? =some (.deferred (some []))->SR ⟨sl,dens h⟩ ι' ⟨a.tmps,[]⟩ w'->EvN 0 s.den.h ι w (dens h) ι' w' ->
    xops ⟨P,T,0,0,[],inl⟩ ops13 id13 ops13.toList 0 ⟨sl,h,[],[]⟩ (fun s'=>match s' with
     |⟨sl',h',_,_⟩=>match ares P rs sl' (dens h')with
      |some y=>Leaf (y = .v (.string res))/\True
      |none=>False)->Qw .normal ⟨a.tmps,[{target:=.collected D0,args:=#[]}]⟩ w') :
  (Code.block bid (.rangeFunc (.tmp gt) #[p] (.region id11 #[{dst:=some q,op:=.assign (.tmp p),type:=ty11,pos:=pos11,after:=#[],guard:=none}] false) (.block bid2 (.region id12 ops12 true)))).wp P Qw a w:=by
 obtain⟨A1,A2,sv,g,off,cap,hev,hA1,hA2,hb1,hb2,hc1,hc2,hsv,r1,ev1,hn1,hn2,hD⟩:=qIM hh hc r;obtain⟨b1,o1,sp1⟩:=A1;obtain⟨b2,o2,sp2⟩:=A2;(try simp only at hA1 hA2 hb1 hb2 hn1 hn2);subst hA1 hA2;obtain⟨hstart,hround,hend⟩:=hl;generalize hs1:(⟨s.sl,kL i1 i2 jd s.h,[],s.an⟩:Y)=s1 at hstart hround hend;have hsl1:s1.sl=s.sl:=by rw[<-hs1]
 have hh1:s1.h=kL i1 i2 jd s.h:=by rw[<-hs1]
 rw[<-hsl1,<-hh1]at r1;rw[<-hh1]at ev1 hn1 hn2 hD;have hdef:a.defers= []:=r.defers;have hact:a=⟨a.tmps,[]⟩:=by cases a;simp at hdef;subst hdef;rfl
 let S:List Int->St:=fun y=>⟨eP [.row ib [.ows (.int .u8) e5]] (y,()) s1.bs (iZ W s1.sl),dens (eZ [.row ib [.ows (.int .u8) e5]] (y,()) s1.bs s1.h)⟩
 have sizes:∀(x:List Int),(⟨(S x).sl,(S x).h⟩:St)=S x:=fun _=>rfl
 obtain⟨σ0,y0,cut0,⟨⟨hy0⟩,_⟩,hW⟩:=jY (s1:=s1) (s':=s1) ⟨fun _ _=>rfl,rfl,fun _ _ _ _=>rfl⟩ hstart;obtain⟨y0,u0⟩:=y0;(try simp only at hy0);subst hy0;obtain⟨r2,ev2⟩:=cut0.apply r1;have J0:∃ι',SR (S (BB [])) ι' ⟨a.tmps,[]⟩ w/\EvN 0 (dens s1.h) ι w (S (BB [])).h ι' w:=⟨_,hact ▸ r2,ev2⟩
 refine(wpIn_wide (n:=3)).1 ?_;refine wpIn_block ?_;refine wpIn_rangeFunc_ownF rfl (by omega) (gf:=gf) (lb:=#[.pointer (some ⟨b1,o1,none⟩),.pointer (some ⟨b2,o2,none⟩)]) hev trivial eg
  (It.stops (3-1) b1 o1 b2 o2 g off D.length cap sv w hsv hlen hb1 hb2 hc1 hc2) (fun h k=>⟨k.1.trans h.1,k.2.trans h.2⟩)
  (fun X l o o' hle ho hcell _=>⟨dV (World.putObj_heap_other (by simp only;omega)),dV (World.putObj_heap_other (by simp only;omega))⟩) (RowKit.Below.refl _ _) (fun _=>rfl)
  (fun pre X=>∃ι',SR (S (BB (pre.map (fun x=>ck D x.1)))) ι' ⟨a.tmps,[]⟩ X/\EvN 0 (dens s1.h) ι w (S (BB (pre.map (fun x=>ck D x.1)))).h ι' X)
  (fun _ _ _=>False) ?own (fun _ _ _ _ _ q _ _=>q) J0
  (fun x=>⟨(a.tmps.setIfInBounds p (ckV g off D.length x)).setIfInBounds q (ckV g off D.length x),[]⟩) ?assign ?body ?done ?stop
 case own=>
  rintro pre X Y row ⟨ι',q1,q2⟩ hg hr;refine⟨ι',q1.calm (Calm.grown hg (fun r e=>(hr r e).2)),q2.calm (Calm.grown hg (fun r e=>(hr r e).2)) (fun b hb=>?_)⟩;exact hg.block b (Nat.lt_of_lt_of_le hb q2.size) (fun e=>by have:=(hr b e.symm).1;omega)
 case assign=>
  intro l x X K hK;have hz:(#[p].zip #[ckV g off D.length x]).foldl (fun t (p,v)=>t.setIfInBounds p v) a.tmps=a.tmps.setIfInBounds p (ckV g off D.length x):=by simp
  rw[hz];exact GT (by have:=r.slots.1;simp only[Y.den]at this;omega) hK
 case stop=>
  intro D0 c pre X _ _ hF _;exact hF.elim
 case done=>
  rintro D0 xs X hD0 ⟨k,k1,k2,k3⟩ ⟨ι',q1,q2⟩ hdf;simp only[Exit.inBlock];rw[qOG k1 k2 k3]at q1 q2;rw[zC]at hend;have:=hq D0 ι' X _ _ hD0 hdf q1 ((EvN.of ev1).trans q2) hend;rw[hdef];exact this
 case body=>
  rintro l pre x X ⟨ι',q1,q2⟩ hpre;refine wpIn_block ?_;have hr0:=hround (pre.map (fun x=>ck D x.1)) (ck D x.1) (fun z hz=>by
   rcases List.mem_append.1 hz with hz|hz
   ·obtain⟨y,_,rfl⟩:=List.mem_map.1 hz;exact⟨y.1,y.2,rfl⟩
   ·simp at hz;subst hz;exact⟨x.1,x.2,rfl⟩) (by simpa using hpre)
  rw[zC,cL,cL,gH]at hr0;have hDne:D≠ []:=by intro e;subst e;exact absurd x.2 (Nat.not_lt_zero _)
  obtain⟨d1,d2,d3⟩:=hD hDne;have ob1:∀b,b<w.heap.size->¬Ob (dens s1.h) ι b->X.heap[b]? =w.heap[b]? /\¬Ob (S (BB (pre.map (fun x=>ck D x.1)))).h ι' b:=fun b hb hn=>q2.frame b hb hn
  have hgX:=ob1 g d1 (fun h=>d2 (.inr h));have hmX:¬Mt (S (BB (pre.map (fun x=>ck D x.1)))).h ι' g:=by
   rintro(q|q)
   ·rw[q2.away]at q;exact d2 (.inl q)
   ·exact hgX.2 q
  have hrep:Rep X ι' (Mt (S (BB (pre.map (fun x=>ck D x.1)))).h ι') (.sL (.int .i64) (ck D x.1)) (ckV g off D.length x):=
   qOH x (Nat.lt_of_lt_of_le d1 q2.size) hmX (fun j z hj=>(dV hgX.1).trans (d3 j z hj))
  have sr:=q1.slots.sets p hrep;have sr:=SRel.sets sr q hrep;refine wpIn_mono (qJ5 (E:=⟨P,T,_,0,[],inl⟩) hT hM hc12 hr0 l _ ι' _ X ⟨rfl,sr,q1.heap⟩) ?_;rintro e a3 X3 ⟨st,ι3,⟨rfl,s',rfl,h1,h2⟩,r3,e3⟩;obtain⟨sl',h',tch',an'⟩:=s';(try simp only at h1);have e3':EvN (S (BB (pre.map (fun x=>ck D x.1)))).h.length (S (BB (pre.map (fun x=>ck D x.1)))).h ι' X (dens h') ι3 X3:=by
   have:(S (BB (pre.map (fun x=>ck D x.1)))).h.length=(eZ [.row ib [.ows (.int .u8) e5]] (BB (pre.map (fun x=>ck D x.1)),()) s1.bs s1.h).length:=dC _;rw[this];exact e3
  have ev3:=e3'.to q1.heap;have sl3:=q1.slots.mono ev3;have fw:FrW W ⟨eP [.row ib [.ows (.int .u8) e5]] (BB (pre.map (fun x=>ck D x.1)),()) s1.bs (iZ W s1.sl),eZ [.row ib [.ows (.int .u8) e5]] (BB (pre.map (fun x=>ck D x.1)),()) s1.bs s1.h,[],an'⟩ ⟨eP [.row ib [.ows (.int .u8) e5]] (BB (pre.map (fun x=>ck D x.1)),()) s1.bs (iZ W s1.sl),h',tch',an'⟩:=
   ⟨⟨h2.fr.len,h2.fr.tch,h2.fr.h⟩,rfl,fun _ _=>rfl⟩
  obtain⟨σ,y,cut,⟨⟨hy⟩,_⟩,_⟩:=jY (s1:=s1) (s':=⟨eP [.row ib [.ows (.int .u8) e5]] (BB (pre.map (fun x=>ck D x.1)),()) s1.bs (iZ W s1.sl),h',tch',an'⟩) (sG (sl:=s1.sl) (h:=s1.h) (tch:=s1.tch) (t0:=[]) (an:=s1.an) hW fw).1 h1;obtain⟨y,u⟩:=y;(try simp only at hy);subst hy;obtain⟨r4,e4⟩:=cut.apply (s:=(⟨eP [.row ib [.ows (.int .u8) e5]] (BB (pre.map (fun x=>ck D x.1)),()) s1.bs (iZ W s1.sl),h',tch',an'⟩:Y).den) (ι:=ι3) (a:=⟨a.tmps,[]⟩) (w:=X3) ⟨rfl,sl3,r3.heap⟩;have etot:EvN 0 (S (BB (pre.map (fun x=>ck D x.1)))).h ι' X (S (BB ((pre++ [x]).map (fun x=>ck D x.1)))).h (ι3.ren σ) X3:=by
   rw[List.map_append];exact(e3'.zero).trans e4
  simp only[Exit.inBlock,ownPostK];have m1:=q2.frame b1 hb1 hn1;have m2:=q2.frame b2 hb2 hn2;refine⟨e3'.keepsOthers q1.heap,⟨dV (e3'.frame b1 (Nat.lt_of_lt_of_le hb1 q2.size) m1.2).1,dV (e3'.frame b2 (Nat.lt_of_lt_of_le hb2 q2.size) m2.2).1⟩,_,?_,q2.trans etot⟩;rw[List.map_append];exact r4
def rfK (P:Program) (inl:FuncId->List V->Y->(V->Y->Prop)->Prop) (T:Tbl) (W:List Nat) (ib:Nat) (e5:TypeId) (gf:FuncId) (gt p q id12:Nat) (ops12:Array Oper) (id13:Nat) (ops13:Array Oper) (rs:List ResultVar) (res:ByteArray)
  (BB:List (List Int)->List Int) (s:Y):Prop:=match EU gf gt s with
 |some (cs,i1,i2,jd,D)=>(match s with
  |⟨sl,h,_,an⟩=>(match Nat.blt p sl.length with
   |true=>needs (decide (D.length<=1099511627776)::cs) (fH (kL i1 i2 jd h) fun h=>qIK P inl T W ib e5 p q id12 ops12 id13 ops13 rs res BB D ⟨sl,h,[],an⟩)
   |false=>False))
 |none=>False
theorem aG.rf {P:Program} {T:Tbl} {f:FuncId} {fn:Func} {a1 a2 a3 a4 a5 a6:Code} {id11:Nat} {ty11:TypeId} {pos11:String} {ps:List Ty} {pre:Option (Cu ps Prop)} {res:Cu ps RV} (hT:aC P T) (hM:P.follows .mixedOrders=true) (fl:List (Nat×Nat×Nat)) (I:List Nat)
  (hf:P.funcs[f]? =some fn) {gt p q bid bid2 id12:Nat} {ops12:Array Oper} {id13:Nat} {ops13:Array Oper}
  (hb:fn.body=some (.seq a1 (.seq a2 (.seq a3 (.seq a4 (.seq a5 (.seq (.seq a6 (.block bid (.rangeFunc (.tmp gt) #[p] (.region id11 #[{dst:=some q,op:=.assign (.tmp p),type:=ty11,pos:=pos11,after:=#[],guard:=none}] false) (.block bid2 (.region id12 ops12 true))))) (.seq (.region id13 ops13 false) .ret))))))))
  {gf:FuncId} (It:rQ P gf) (eg:∀(args:Array Value) (w:World),(callFunc gf args).run P w = .ok (.enter gf args) w)
   (hc12:rV ops12=true) (W:List Nat) (ib:Nat) (e5:TypeId) (rb:Tup ps->ByteArray) (hrb:∀x,(cu ps res x).val = .v (.string (rb x))) (BB:Tup ps->List (List Int)->List Int)
  (h:∀x:Tup ps,(∀p,pre=some p->cu ps p x)->∃an:List (Nat×Nat×LA),fVs (vals ps x++List.replicate (fn.ntmps-ps.length) (.v undef)) fun sl=>
    xcode ⟨P,T,0,0,fl,jJ P T fl I 4⟩ a1 ⟨sl,[],[],an⟩ (qF (fin P fn.results.toList 0 (cu ps res x) fun _=>True) fun s=>
      xcode ⟨P,T,0,0,fl,jJ P T fl I 4⟩ a2 s (qF (fin P fn.results.toList 0 (cu ps res x) fun _=>True) fun s=>
      xcode ⟨P,T,0,0,fl,jJ P T fl I 4⟩ a3 s (qF (fin P fn.results.toList 0 (cu ps res x) fun _=>True) fun s=>
      xcode ⟨P,T,0,0,fl,jJ P T fl I 4⟩ a4 s (qF (fin P fn.results.toList 0 (cu ps res x) fun _=>True) fun s=>
      xcode ⟨P,T,0,0,fl,jJ P T fl I 4⟩ a5 s (qF (fin P fn.results.toList 0 (cu ps res x) fun _=>True) fun s=>
      xcode ⟨P,T,0,0,fl,jJ P T fl I 4⟩ a6 s (qF (fin P fn.results.toList 0 (cu ps res x) fun _=>True) fun s=>
       rfK P (jJ P T fl I 4) T W ib e5 gf gt p q id12 ops12 id13 ops13 fn.results.toList (rb x) (BB x) s))))))):aG P f (.fn ps pre res):=by
 intro x hx;have hlen:=Tup.len ps x;refine⟨fun p hp=>(by cases hp),fun k _=>?_⟩;refine PC.mono (PC.frame (x0:=(cu ps res x).val) (Tup.ni 0 ps x) ?_ k) (fun y k' ⟨h1,h2⟩=>⟨h1,h2⟩);obtain⟨an,hw⟩:=h x hx;rw[jG]at hw;intro ι w vs hp2 hh;have hl:=hp2.1;refine callsIn_wide.1 (callsIn_of_wp_marks (F:=Fence.wide) (n:=3) hf hb trivial (wpIn_wide.2 ?_));have hI:qB ⟨P,T,0,0,fl,jJ P T fl I 4⟩:=jK hT hM fl I 4 _ _;have r0:SR (⟨vals ps x++List.replicate (fn.ntmps-ps.length) (.v undef),[],[],an⟩:Y).den ι ⟨vs++Array.replicate (fn.ntmps-vs.size) undef,[]⟩ w:=by
  refine⟨rfl,⟨by simp [Y.den,<-hl,hlen],fun i z hz=>?_⟩,hh⟩;simp only[Y.den]at hz;by_cases h1:i<(vals ps x).length
  ·rw[List.getElem?_append_left h1]at hz
   obtain⟨u,u1,u2⟩:=hp2.2 i z hz;exact⟨u,by rw[Array.getElem?_append_left (by omega)];exact u1,u2⟩
  ·rw[List.getElem?_append_right (by omega),List.getElem?_replicate]at hz
   split at hz
   ·rename_i h2
    injection hz with hz;subst hz;refine⟨undef,?_,.v _⟩;rw[Array.getElem?_append_right (by omega),Array.getElem?_replicate,if_pos (by omega)]
   ·cases hz
 let R:Ending->World->Prop:=fun e w'=>∃y z h' ι',e = .returned y/\Frz zK h' z (cu ps res x).val/\Rep w' ι' (Mt h' ι') z y/\HRel h' ι' w'/\Evolve [] ι w h' ι' w'
 show Code.wp P _ (bodyPostM Fence.wide 3 P fn R) _ w;have ex:∀(e:Exit) (s':Y) (ι':Iota) (a':Act) (w':World),e ≠ .normal->fin P fn.results.toList 0 (cu ps res x) (fun _=>True) e s'->SR s'.den ι' a' w'->EvN 0 (dens []) ι w s'.den.h ι' w'->bodyPostM Fence.wide 3 P fn R e a' w':=by
  intro e s' ι' a' w' he hq r' ev;obtain⟨he2,y,hy,hc⟩:=MD hq;obtain⟨v,v1,v2⟩:=qK r' hy;have:bodyPostM Fence.wide 3 P fn R .ret a' w':=by
   show LeavesInM Fence.wide 3 P fn a'.tmps R a'.defers .returning w';rw[r'.defers];exact⟨v,v1,v,y,s'.den.h,ι',rfl,(AG (τ:=zK) (fun _ _=>rfl) hc).1,v2,r'.heap,EvN.to (h:=[]) (w:=w) (ι:=ι) ev hh⟩
  rcases he2 with rfl|rfl
  ·exact(he rfl).elim
  ·exact this
 refine pD hT hM hI hw r0 (fun s1 ι1 a1 w1 h1 r1 e1=>?_) (fun e s' ι' a' w' he hq r' ev=>ex e s' ι' a' w' he hq r' ev);refine pD hT hM hI h1 r1 (fun s2 ι2 a2 w2 h2 r2 e2=>?_) (fun e s' ι' a' w' he hq r' ev=>ex e s' ι' a' w' he hq r' (e1.trans ev));have e2:=e1.trans e2;refine pD hT hM hI h2 r2 (fun s3 ι3 a3 w3 h3 r3 e3=>?_) (fun e s' ι' a' w' he hq r' ev=>ex e s' ι' a' w' he hq r' (e2.trans ev));have e3:=e2.trans e3;refine pD hT hM hI h3 r3 (fun s4 ι4 a4 w4 h4 r4 e4=>?_) (fun e s' ι' a' w' he hq r' ev=>ex e s' ι' a' w' he hq r' (e3.trans ev));have e4:=e3.trans e4;refine pD hT hM hI h4 r4 (fun s5 ι5 a5 w5 h5 r5 e5'=>?_) (fun e s' ι' a' w' he hq r' ev=>ex e s' ι' a' w' he hq r' (e4.trans ev));have e5':=e4.trans e5';refine wp_seq ?_;refine pD hT hM hI h5 r5 (fun s6 ι6 a6 w6 h6 r6 e6=>?_) (fun e s' ι' a' w' he hq r' ev=>by
  have:=ex e s' ι' a' w' he hq r' (e5'.trans ev);cases e with
  |normal=>exact(he rfl).elim
  |_=>exact this)
 have e6:=e5'.trans e6;unfold rfK at h6;split at h6
 ·rename_i cs i1 i2 jd D hh6
  obtain⟨sl6,hp6,tch6,an6⟩:=s6;(try simp only at h6);split at h6;case h_2=>exact h6.elim
  rename_i hblt;obtain⟨hcs,h6⟩:=bG h6;rw[dD]at h6;refine qIL (T:=T) (inl:=jJ P T fl I 4) hT hM It eg hc12 (by simpa only[Nat.blt_eq]using hblt) hh6 (fun c q=>hcs c (List.mem_cons_of_mem _ q)) (of_decide_eq_true (hcs _ (List.mem_cons_self ..))) h6 r6 ?_;intro D0 ι7 w7 sl7 h7 hD0 hdf r7 e7 hx7;have e7:=e6.trans e7;show(Code.seq (.region id13 ops13 false) .ret).wp P (bodyPostM Fence.wide 3 P fn R) ⟨a6.tmps,[{target:=.collected D0,args:=#[]}]⟩ w7;refine wp_seq ?_;refine wp_region ?_;have pol:=NU (E:=⟨P,T,0,0,[],jJ P T fl I 4⟩) hT hI (W:=jU ops13.toList) (fun _ q=>q) ops13.toList 0 ⟨sl7,dens h7 |> fun _=>h7,[],[]⟩ _ (fun o ho d hd=>wQ ho d hd) hx7;have hr:List.range ops13.size=List.range' 0 ops13.toList.length:=by rw[List.range_eq_range'];simp
  rw[hr];have wo:=pZ (P:=P) [{target:=.collected D0,args:=#[]}] (by rintro⟨a,w,_,_,q,_⟩;cases q.1) _ a6.tmps [] w7 (pol 0 (fun j o hj=>by simpa using hj) ι7 ⟨a6.tmps,[]⟩ w7 r7);refine fC ?_ _ _ _ wo;rintro e a8 w8 ⟨ds,hds,st,ι8,⟨rfl,s8,rfl,k8,_⟩,r8,ev8⟩;have hds0:ds= []:=r8.defers;subst hds0;simp only[List.nil_append]at hds;show Code.wp P .ret (bodyPostM Fence.wide 3 P fn R) a8 w8;refine wp_ret ?_;show LeavesInM Fence.wide 3 P fn a8.tmps R a8.defers .returning w8;rw[hds];have hdf8:w8.heap[D0]? =some (.deferred (some [])):=((EvN.of (n:=0) ev8).keepsOthers r7.heap).same D0 _ hdf rfl;refine⟨by simp,.inl ⟨D0,_,rfl,run_takeDeferred hdf8,?_⟩⟩;have hg:=grownBy_putObj' w8 D0 (.deferred none);have hcalm:=Calm.grown hg (fun r e=>by cases e;exact⟨_,hdf8,rfl⟩);have r9:=r8.calm hcalm;have e9:=(e7.trans (EvN.of ev8)).calm hcalm (fun b hb=>hg.block b (Nat.lt_of_lt_of_le hb (Nat.le_trans (e7.trans (EvN.of ev8)).size (Nat.le_refl _))) (fun q=>by injection q with q;have:=e6.size;omega));obtain⟨sl8,hp8,tch8,an8⟩:=s8;(try simp only at k8);split at k8
  ·rename_i y hy
   obtain⟨⟨hy2⟩,_⟩:=k8;obtain⟨v,v1,v2⟩:=qK r9 hy;subst hy2;exact⟨v,v1,v,_,_,ι8,rfl,by rw[hrb];exact Frz.tree (.v _),v2,r9.heap,EvN.to (h:=[]) (w:=w) (ι:=ι) e9 hh⟩
  ·exact k8.elim
 ·exact h6.elim
end Go.Abs
namespace Go.Proofs.YtcjiefknhfhmkaaGreatDoor
open Go.Abs
set_option maxRecDepth 100000
set_option maxHeartbeats 4000000
set_option linter.unusedVariables false
set_option linter.unusedSimpArgs false
abbrev yK:Ct:=.fn [.int .i64,.list bQ] (some (fun(t:Int) (l:List Val)=>(l.length<=4096)/\(∀v,v∈l->okV v))) (fun(t:Int) (l:List Val)=>.d .str (plL t l))
theorem qC7:aG Tryz.prog 109 yK:=by
 refine aG.fn SS mixed [] [] rfl rfl ?_;rintro⟨(t:Int),(l:List Val),_⟩ hpre;replace hpre:=hpre _ rfl;dsimp only[cu]at hpre;obtain⟨hl,hv⟩:=hpre;refine⟨[(0,6,LA.mk [.sl 10 (.int .i64),.row 0 [.osf 0,.own (.int .u8) (⟨5,1⟩:El)]] (fun y=>Tag 67/\cu [.int .i64,.bool,.list (.int .u8)] (fun(k:Int) (b0:Bool) (B:List Int)=>(0<=k/\k<=l.length)/\(plL t l=aN B++plL t (l.drop k.toNat))/\((B.length:Int)<=1048586*k)) y) (cu [.int .i64,.bool,.list (.int .u8)] (fun(k:Int) (b0:Bool) (B:List Int)=>((l.length:Int)-k).toNat)) (cu [.int .i64,.bool,.list (.int .u8)] (fun(k:Int) (b0:Bool) (B:List Int)=>([]:List (Nat×Nat×LA)))))],?_⟩;repeat' (first
  |(
 with_reducible refine Side.mk ⟨(⟨⟩:Tag 67),?_⟩
 dsimp only[cu,aB,aA,gts,eE,eN]
 refine⟨?_,?_,?_⟩
 ·omega
 ·first
  |(
  show plL t l=ByteArray.empty++plL t l
  rw[ByteArray.empty_append])
  |(
  have hat:=xP hv k.toNat
  have hat1:=hat.1
  have h64:=aS (n:=(l[k.toNat]!.2.2.size:Int)) (by omega)
  have p1:=bM (l[k.toNat]!.2.2.size:Int)
  have p2:=bM (fE l[k.toNat]!.2.1)
  first
  |(
   have ht:t=3:=by with_reducible assumption
   rw[hB,vX (by omega),plV,if_pos ht,h64,bU,bE];simp only[ByteArray.append_assoc])
  |(
   have ht:¬t=3:=by with_reducible assumption
   rw[hB,vX (by omega),plV,if_neg ht,bU,bE];simp only[ByteArray.append_assoc]))
 ·first
  |exact Int.le_refl _
  |(
  have hat:=xP hv k.toNat
  have hat1:=hat.1
  have h64:=aS (n:=(l[k.toNat]!.2.2.size:Int)) (by omega)
  have p1:=bM (l[k.toNat]!.2.2.size:Int)
  have p2:=bM (fE l[k.toNat]!.2.1)
  simp only[List.length_append,aZ,ByteArray.size_append,h64]
  omega))
  |(
 with_reducible apply Side.mk
 (try dsimp only[cu,aB,aA,gts,loK,hiK,eE,eN])
 first
 |done
 |omega
 |exact Eq.refl _
 |exact hE _
 |(
  have hat:=xP hv k.toNat;have hat1:=hat.1;have h64:=aS (n:=(l[k.toNat]!.2.2.size:Int)) (by omega);have p1:=bM (l[k.toNat]!.2.2.size:Int);have p2:=bM (fE l[k.toNat]!.2.1);first
  |exact kX hat.2
  |exact hat.2
  |(
   (try simp only[ByteArray.size_append,h64]);omega)))
  |(conv=>whnf
    first
     |with_reducible first|done|exact trivial|refine NilBr.mk (fun h=>?_) ?_|apply aJ|apply aI|refine aK (by kernel_rfl) ?_|apply aL|apply bC|apply bB|apply aO
     |((with_reducible first|apply aQ|apply aP|apply bA)<;>intro h<;>(try dsimp only[cu,eE,eN]at h)<;>(try(exfalso;omega)))
     |(
 intro yy (hy:Tag 67/\_)
 obtain⟨(k:Int),(b0:Bool),(B:List Int),_⟩:=yy
 replace hy:=hy.2
 dsimp only[cu,aB,aA,gts,eE,eN]at hy
 obtain⟨hk,hB,hz⟩:=hy
 rcases b0 with _|_)))
 all_goals(
 with_reducible apply Leaf.mk
 (try dsimp only[cu,aB,aA,gts,eE,eN]at *)
 rw[hB,List.drop_eq_nil_of_le (by omega),plL,ByteArray.append_empty])
abbrev qNY:Tbl:=(109,yK)::qNX
theorem ST:aC Tryz.prog qNY:=aC.cons qC7 SS
open Go.RowKit
theorem usub (v m:Int):IntKind.u64.wrap (IntKind.u64.wrap v-IntKind.u64.wrap m)=IntKind.u64.wrap (IntKind.i64.wrap (v-m)):=by
 simp [IntKind.wrap,IntKind.bits,IntKind.signed];omega
def usF (m:Int) (D:List Int) (k:Int):List Int:=usL m (D.take k.toNat)++List.replicate (D.length-k.toNat) 0
theorem qJW (m:Int) (D:List Int):List.replicate D.length 0=usF m D 0:=by simp [usF,usL]
theorem NS (m:Int) (D:List Int) (k:Int) (h:0<=k/\k<=D.length):(usF m D k).length=D.length:=by
 simp [usF,usL];omega
theorem qM4 {m:Int} {D:List Int} {k:Int} (h:0<=k/\k<D.length):(usF m D k).set k.toNat (IntKind.u64.wrap (IntKind.i64.wrap (D[k.toNat]! - m)))=usF m D (k+1):=by
 unfold usF;rw[FK h];have hl:(usL m (D.take k.toNat)).length=k.toNat:=by simp [usL];omega
 rw[List.set_append_right _ _ (by omega),hl,Nat.sub_self,show D.length-k.toNat=(D.length-(k+1).toNat)+1 by omega,List.replicate_succ,List.set_cons_zero,List.append_assoc];rfl
theorem qCB {m:Int} {D:List Int} {k:Int} (h:0<=k/\k<D.length) (v:Int):((usF m D k).set k.toNat v)[k.toNat]! =v:=by
 rw[getElem!_pos _ _ (by rw[List.length_set,NS _ _ _ (by omega)];omega),List.getElem_set_self]
theorem TK {m:Int} {D:List Int} {k:Int} (h:k=D.length):usF m D k=usL m D:=by
 unfold usF;rw[List.take_of_length_le (by omega),show D.length-k.toNat=0 by omega,List.replicate_zero,List.append_nil]
theorem qHO {m:Int} {D:List Int} {k:Int} (h:0<=k/\k<D.length):mwL (usL m (D.take (k+1).toNat))=cI (mwL (usL m (D.take k.toNat))) (mK (IntKind.u64.wrap (IntKind.i64.wrap (D[k.toNat]! - m)))):=by
 rw[FK h,YE]
theorem qHN {D:List Int} (h:1<=D.length) (hv:∀x,x∈D->inI x):inI (mnL D):=hv _ (YD (fun e=>by rw[e]at h;simp at h))
abbrev BR:Ct:=.fn [.list (.int .i64)] (some (fun(d:List Int)=>(1<=d.length/\d.length<=1073741824)/\(∀x,x∈d->inI x))) (fun(d:List Int)=>.d .str (BL d))
theorem qFU:aG Tryz.prog 178 BR:=by
 refine aG.fn ST mixed [] [] rfl rfl ?_;rintro⟨(d:List Int),_⟩ hpre;replace hpre:=hpre _ rfl;dsimp only[cu]at hpre;obtain⟨hl,hv⟩:=hpre;refine⟨[(0,10,LA.mk [.sl 17 (.int .i64),.ar 0 (.int .u64) 86,.sl 5 (.int .i64)] (fun y=>Tag 68/\cu [.int .i64,.list (.int .u64),.int .i64] (fun(k:Int) (o:List Int) (w:Int)=>(0<=k/\k<=d.length)/\(o=usF (mnL d) d k)/\(w=mwL (usL (mnL d) (d.take k.toNat)))) y) (cu [.int .i64,.list (.int .u64),.int .i64] (fun(k:Int) (o:List Int) (w:Int)=>((d.length:Int)-k).toNat)) (cu [.int .i64,.list (.int .u64),.int .i64] (fun(k:Int) (o:List Int) (w:Int)=>([]:List (Nat×Nat×LA)))))],?_⟩;repeat' (first
  |(
 with_reducible refine Side.mk ⟨(⟨⟩:Tag 68),?_⟩
 dsimp only[cu,aB,aA,gts,eE,eN]
 refine⟨?_,?_,?_⟩
 ·omega
 ·first
  |exact qJW _ _
  |rw[ho,usub,qM4 (by omega)]
 ·first
  |rfl
  |(
  (try simp only[NR])
  rw[ho,usub,qCB (by omega),qHO (by omega),<-hw]))
  |(
 with_reducible apply Side.mk
 (try dsimp only[cu,aB,aA,gts,loK,hiK,eE,eN])
 first
 |omega
 |(
  have hol:=NS (mnL d) d k (by omega);rw[<-ho]at hol;(try simp only[List.length_set]);omega)
 |(
  (try simp only[NR]);rw[ho,usub,qCB (by omega)];exact hE _)
 |exact qHN hl.1 hv
 |exact kX (qHN hl.1 hv)
 |(
  have hof:o=usL (mnL d) d:=by rw[ho,TK (by omega)]
  have hol:=NS (mnL d) d k (by omega);rw[<-ho]at hol;refine⟨fun q=>?_,by omega⟩;rw[hof];exact qCC _ _ q)
 |(
  have h1:=bM (fE (mnL d));have h2:=iU o w;simp only[ByteArray.size_append,rC,bO [_],List.length_cons,List.length_nil];omega))
  |(conv=>whnf
    first
     |with_reducible first|done|exact trivial|refine NilBr.mk (fun h=>?_) ?_|apply aJ|apply aI|refine aK (by kernel_rfl) ?_|apply aL|apply bC|apply bB|apply aO
     |((with_reducible first|apply aQ|apply aP|apply bA)<;>intro h<;>(try dsimp only[cu,eE,eN]at h)<;>(try(exfalso;omega)))
     |(
 intro yy (hy:Tag 68/\_)
 obtain⟨(k:Int),(o:List Int),(w:Int),_⟩:=yy
 replace hy:=hy.2
 dsimp only[cu,aB,aA,gts,eE,eN]at hy
 obtain⟨hk,ho,hw⟩:=hy)))
 all_goals(
 with_reducible apply Leaf.mk
 (try dsimp only[cu,aB,aA,gts,eE,eN]at *)
 (
  have hof:o=usL (mnL d) d:=by rw[ho,TK (by omega)]
  have hwf:w=mwL (usL (mnL d) d):=by rw[hw,List.take_of_length_le (by omega)]
  unfold BL;rw[<-hof,hwf,<-hof];(try rfl)))
abbrev qNZ:Tbl:=(178,BR)::qNY
theorem SU:aC Tryz.prog qNZ:=aC.cons qFU ST
set_option maxRecDepth 100000 in
set_option maxHeartbeats 2000000 in
theorem qF4:rQ Tryz.prog 200:=by
 intro n l b1 o1 b2 o2 g off len cap N sv hsv hlen hN J Jx hJ hY W h1 h2 h0;rcases hsv with⟨rfl,rfl⟩|⟨rfl,hcap⟩
 ·refine callsIn_of_wp Tryz.func200 rfl trivial ?_ rfl
  simp only[Tryz.ntmps200,List.size_toArray,List.length_cons,List.length_nil,Nat.reduceAdd,Nat.reduceSub,Array.replicate_succ,Array.replicate_zero,List.push_toArray,List.append_toArray,List.nil_append,List.cons_append];gi_wp2
  gi_loopw [4] (fun i wr=>i = .int .i64 0/\J [] wr/\Kp ⟨b1,o1,none⟩ ⟨b2,o2,none⟩ W wr) (fun i _=>0)
  case atStart=>exact⟨rfl,h0,rfl,rfl⟩
  case round=>
   obtain⟨rfl,hJs,hk1,hk2⟩:=hrel;have c1:wr.cell? ⟨b1,o1,none⟩=some (.slice none 0 0):=hk1.trans h1;have c2:wr.cell? ⟨b2,o2,none⟩=some (.int .i64 32):=hk2.trans h2;gi_wp2
   go_end0
   exact⟨⟨_,rfl⟩,.inl ⟨[],⟨0,rfl,by omega,by omega⟩,hJs⟩⟩
 ·refine callsIn_of_wp Tryz.func200 rfl trivial ?_ rfl
  simp only[Tryz.ntmps200,List.size_toArray,List.length_cons,List.length_nil,Nat.reduceAdd,Nat.reduceSub,Array.replicate_succ,Array.replicate_zero,List.push_toArray,List.append_toArray,List.nil_append,List.cons_append];gi_wp2
  gi_loopw [4] (fun i wr=>∃(k:Nat) (ys:List (Ck len)),i = .int .i64 ((32*k:Nat):Int)/\ys.map (·.1)=List.range k/\32*k<len+32/\J ys wr/\Kp ⟨b1,o1,none⟩ ⟨b2,o2,none⟩ W wr)
   (fun i _=>len+32-(intOf i).toNat)
  case atStart=>exact⟨0,[],rfl,rfl,by omega,h0,rfl,rfl⟩
  case round=>
   obtain⟨k,ys,rfl,hys,hk,hJs,hk1,hk2⟩:=hrel;have c1:wr.cell? ⟨b1,o1,none⟩=some (.slice (some ⟨g,off,none⟩) len cap):=hk1.trans h1;have c2:wr.cell? ⟨b2,o2,none⟩=some (.int .i64 32):=hk2.trans h2;by_cases hlt:32*k<len
   ·have hyl:ys.length=k:=by have:=congrArg List.length hys;simpa using this
    gi_wp2
    gi_region
    obtain⟨m,hm⟩:∃m,m=min 32 (len-32*k):=⟨_,rfl⟩
    have hmi:(if((len-32*k:Nat):Int)<32 then((len-32*k:Nat):Int)else 32)=((m:Nat):Int):=by
     rw[hm];split<;>omega
    have hm1:32*k+m<=len/\1<=m/\m<=32:=by omega
    have hJd:J ys wr.drew:=hJ ys wr wr.drew none hJs ⟨rfl,rfl,rfl,Nat.le_refl _,fun k _ _=>rfl⟩ (fun r q=>by cases q);obtain⟨fn,tmps,assign,body,hy,hR⟩:=hY ys ⟨k,hlt⟩ wr.drew hJd (by omega);have c1:wr.drew.cell? ⟨b1,o1,none⟩=some (.slice (some ⟨g,off,none⟩) len cap):=c1;have c2:wr.drew.cell? ⟨b2,o2,none⟩=some (.int .i64 32):=c2;dsimp only[ckV]at hy;first|rw[hmi]|rw[show min (32:Int) ((len-32*k:Nat):Int)=((m:Nat):Int)by rw[hm];omega]
    gi_wp2
    refine⟨(by intro q;cases q),hR.mono ?_⟩;rintro e W3 (⟨rfl,hJ3,hk31,hk32⟩|⟨rfl,hJx3⟩)
    ·have c3:W3.cell? ⟨b2,o2,none⟩=some (.int .i64 32):=hk32.trans c2
     gi_wp2
     go_roundw
     case rel=>exact⟨k+1,ys++ [⟨k,hlt⟩],by simp;omega,by rw[List.map_append,hys,List.range_succ];rfl,by omega,hJ3,hk31.trans hk1,hk32.trans hk2⟩
     case measure=>simp [intOf];omega
    ·gi_wp2
     refine bodyPost_ret (results_none rfl _ _ _) rfl ?_;exact⟨⟨_,rfl⟩,.inr ⟨_,hJx3⟩⟩
   ·gi_wp2
    go_end0
    exact⟨⟨_,rfl⟩,.inl ⟨ys,⟨k,hys,by omega,by omega⟩,hJs⟩⟩
def bbD (x:Int) (cs:List (List Int)):List Int:=bH (aN (put (fE x)))++cs.flatMap fun c=>bH (BL c)
theorem qKA (x:Int) (cs:List (List Int)) (c:List Int):bbD x (cs++ [c])=bbD x cs++bH (BL c):=by simp [bbD]
theorem qKB (x:Int):∀cs:List (List Int),(bbD x cs).length<=10+32779*cs.length:=by
 intro cs;unfold bbD;have h1:=bM (fE x);rw[List.length_append,aZ];have:(cs.flatMap fun c=>bH (BL c)).length<=32779*cs.length:=by
  induction cs with
  |nil=>exact Nat.zero_le _
  |cons c cs ih=>
   have h2:=xF c;rw[List.flatMap_cons,List.length_append,aZ,List.length_cons];omega
 omega
theorem qLI {D x:List Int} (h:qQO D x):1<=x.length/\x.length<=32/\∀z,z∈x->z∈D:=by
 obtain⟨k,h1,rfl⟩:=h;unfold ck;refine⟨by simp;omega,by simp;omega,fun z hz=>List.mem_of_mem_drop (List.mem_of_mem_take hz)⟩
theorem PQ:∀(n:Nat) (D:List Int),D.length<=n->qD D=aN ((ckL D).flatMap fun c=>bH (BL c))
 |n,D,h=>by
  rw[qD];split
  ·rename_i h0
   have:ckL D= []:=by unfold ckL;rw[h0];rfl
   rw[this];rfl
  ·rename_i h0
   obtain⟨m,rfl⟩:∃m,n=m+1:=⟨n-1,by omega⟩
   have e:ckL D=D.take 32::ckL (D.drop 32):=by
    unfold ckL;rw[List.length_drop,show(D.length+31)/32=(D.length-32+31)/32+1 by omega,List.range_succ_eq_map,List.map_cons,List.map_map];rw[show ck D 0=D.take 32 by simp [ck]];congr 1
    refine List.map_congr_left fun k _=>?_
    simp only[Function.comp,ck,List.drop_drop];rw[show 32*k.succ=32+32*k by omega]
   rw[e,List.flatMap_cons,bU,bE,PQ m (D.drop 32) (by simp;omega)]
theorem qOJ {l:List Int}:∀x,x∈dfs l->inI x:=fun x hx=>by
 unfold dfs at hx;obtain⟨j,_,rfl⟩:=List.mem_map.1 hx;exact AV _
theorem qGL {l:List Int} {k:Int} (h:0<=k/\k<(l.length:Int)-1):(dfs l).take (k+1).toNat=(dfs l).take k.toNat++ [IntKind.i64.wrap ((l.drop 1)[k.toNat]! - l[k.toNat]!)]:=by
 rw[wN (by rw[kS];omega),XH (by omega),qR,Nat.add_comm 1]
theorem qKW {l:List Int} (h:¬(l.length=0\/l.length>4096)):aN (bbD l[0]! (ckL (dfs l)))=gG l:=by
 rw[gG,if_neg h,bbD,bU,bE,<-PQ _ _ (Nat.le_refl _)]
abbrev HG:Ct:=.fn [.list (.int .i64)] (some (fun(l:List Int)=>(l.length<=1073741824)/\(∀x,x∈l->inI x))) (fun(l:List Int)=>.d .str (gG l))
theorem qKX:aG Tryz.prog 152 HG:=by
 refine aG.rf SU mixed [(0,8,6)] [177] rfl rfl (qF4:rQ Tryz.prog 200) (enters_of Tryz.func200 (by kernel_rfl) rfl) rfl [0,1,2,4,5,6,7,8,9,10,11,12,13,14,15,16,17,18,19,20,21,22,23,24,25,26,27,28,29,30,31,32,33,34,35,36,37,38,39,40,41,42,43,44,45,46,47,48] 1 5 (cu [.list (.int .i64)] (fun(l:List Int)=>gG l)) (fun _=>rfl) (cu [.list (.int .i64)] (fun(l:List Int)=>fun(cs:List (List Int))=>bbD l[0]! cs)) ?_;rintro⟨(l:List Int),_⟩ hpre;replace hpre:=hpre _ rfl;dsimp only[cu]at hpre;obtain⟨hl,hv⟩:=hpre;have hd:(List.drop (Int.toNat 1) l).length=l.length-1:=List.length_drop;refine⟨[(0,12,LA.mk [.sl 25 (.int .i64),.lst 4 (.int .i64) 2] (fun y=>Tag 69/\cu [.int .i64,.list (.int .i64)] (fun(k:Int) (M:List Int)=>(0<=k/\k<=(l.length:Int)-1)/\(M=(dfs l).take k.toNat)) y) (cu [.int .i64,.list (.int .i64)] (fun(k:Int) (M:List Int)=>((l.length:Int)-1-k).toNat)) (cu [.int .i64,.list (.int .i64)] (fun(k:Int) (M:List Int)=>([]:List (Nat×Nat×LA)))))],?_⟩;repeat' (first
  |(
 intro(pre:List (List Int)) (x:List Int) hz hp
 have hmf:M=dfs l:=by rw[hM,List.take_of_length_le (by rw[kS];omega)]
 have hck:=qLI (hz x (by simp))
 have hbl:=qKB l[0]! pre
 rw[hmf,kS]at hp
 rw[hmf]at hck)
  |(
 with_reducible refine Side.mk ⟨(⟨⟩:Tag 69),?_⟩
 dsimp only[cu,aB,aA,gts,eE,eN]
 refine⟨?_,?_⟩
 ·omega
 ·first
  |rfl
  |(
  rw[qGL (by omega),<-hM]
  (try rfl)))
  |(
 with_reducible apply Side.mk
 (try dsimp only[cu,aB,aA,gts,loK,hiK,eE,eN])
 first
 |done
 |omega
 |exact Eq.refl _
 |exact(aZ _).symm
 |exact pK hv _
 |exact kX (pK hv _)
 |(
  have hml:=congrArg List.length hM;rw[List.length_take,kS]at hml;(try simp only[List.length_cons,List.length_nil]);omega)
 |exact⟨⟨hck.1,by omega⟩,fun z q=>qOJ z (hck.2.2 z q)⟩
 |(
  have hb2:=xF x;(try simp only[aZ,List.length_append]);omega))
  |(conv=>whnf
    first
     |with_reducible first|done|exact trivial|refine RfAnd.mk ?_ ?_ ?_|refine NilBr.mk (fun h=>?_) ?_|apply aJ|apply aI|refine aK (by kernel_rfl) ?_|apply aL|apply bC|apply bB|apply aO
     |((with_reducible first|apply aQ|apply aP|apply bA)<;>intro h<;>(try dsimp only[cu,eE,eN]at h)<;>(try(exfalso;omega)))
     |(
 intro yy (hy:Tag 69/\_)
 obtain⟨(k:Int),(M:List Int),_⟩:=yy
 replace hy:=hy.2
 dsimp only[cu,aB,aA,gts,eE,eN]at hy
 obtain⟨hk,hM⟩:=hy)))
 all_goals(
 with_reducible apply Leaf.mk
 (try dsimp only[cu,aB,aA,gts,eE,eN]at *)
 first
 |rw[gG,if_pos (by omega)]
 |(
  (try simp only[List.flatMap_nil,List.append_nil,bbD]);rfl)
 |rw[qKA]
 |(
  have hmf:M=dfs l:=by rw[hM,List.take_of_length_le (by rw[kS];omega)]
  rw[hmf,qKW (by omega)]))
abbrev qN0:Tbl:=(152,HG)::qNZ
theorem SV:aC Tryz.prog qN0:=aC.cons qKX SU
theorem qEC {m:List Int} (h:1<=m.length):runs m=((fO m[0]! (m.drop 1):Int)+1,m[0]!)::runs (m.drop ((fO m[0]! (m.drop 1):Int)+1).toNat):=by
 cases m with
 |nil=>simp at h
 |cons v l=>
  rw[runs];simp only[List.drop_succ_cons,List.drop_zero,List.getElem!_cons_zero];rw[show((fO v l:Int)+1).toNat=fO v l+1 by omega,List.drop_succ_cons]
abbrev HI:Ct:=.fn [.list (.int .i64)] (some (fun(l:List Int)=>(l.length<=1073741824)/\(∀x,x∈l->inI x))) (fun(l:List Int)=>.d .str (mG l))
theorem qKY:aG Tryz.prog 151 HI:=by
 refine aG.fn SV mixed [] [] rfl rfl ?_;rintro⟨(l:List Int),_⟩ hpre;replace hpre:=hpre _ rfl;dsimp only[cu]at hpre;obtain⟨hl,hv⟩:=hpre;refine⟨[(0,4,LA.mk [.sl 0 (.list (.int .i64)),.lst 3 (.int .u8) (⟨5,1⟩:El)] (fun y=>Tag 70/\cu [.list (.int .i64),.list (.int .u8)] (fun(m:List Int) (B:List Int)=>(m.length<=l.length/\∀x,x∈m->inI x)/\(mG l=aN B++aN (GA (runs m)))/\((B.length:Int)<=20*(l.length-m.length))) y) (cu [.list (.int .i64),.list (.int .u8)] (fun(m:List Int) (B:List Int)=>m.length)) (cu [.list (.int .i64),.list (.int .u8)] (fun(m:List Int) (B:List Int)=>([]:List (Nat×Nat×LA)))))],?_⟩;repeat' (first
  |(
 with_reducible refine Side.mk ⟨(⟨⟩:Tag 70),?_⟩
 dsimp only[cu,aB,aA,gts,eE,eN]
 refine⟨?_,?_,?_⟩
 ·first
  |exact⟨Nat.le_refl _,hv⟩
  |(
  have hr:=mW m[0]! (m.drop 1)
  rw[List.length_drop]at hr
  exact⟨by simp;omega,fun x q=>hm.2 x (List.mem_of_mem_drop q)⟩)
 ·first
  |(
  show mG l=ByteArray.empty++mG l
  rw[ByteArray.empty_append])
  |(
  (try simp only[Int.toNat_zero])
  have hr:=mW m[0]! (m.drop 1)
  rw[List.length_drop]at hr
  have hu:=aS (n:=(fO m[0]! (m.drop 1):Int)+1) (by omega)
  rw[hx,qEC (by omega),GA,hu]
  simp only[bU,bE,ByteArray.append_assoc])
 ·first
  |simp only[List.length_nil];omega
  |(
  (try simp only[Int.toNat_zero])
  have hr:=mW m[0]! (m.drop 1)
  rw[List.length_drop]at hr
  have p1:=bM (IntKind.u64.wrap ((fO m[0]! (m.drop 1):Int)+1))
  have p2:=bM (fE m[0]!)
  simp only[List.length_append,aZ,List.length_drop]
  omega))
  |(
 with_reducible apply Side.mk
 (try dsimp only[cu,aB,aA,gts,loK,hiK,eE,eN])
 first
 |done
 |omega
 |exact Eq.refl _
 |exact pK hm.2 _
 |exact kX (pK hm.2 _)
 |exact hE _
 |(
  have hr:=mW m[0]! (m.drop 1);rw[List.length_drop]at hr;first
  |omega
  |(
   (try simp only[List.length_drop]);omega))
 |(
  (try simp only[Int.toNat_zero]);have hr:=mW m[0]! (m.drop 1);rw[List.length_drop]at hr;have p1:=bM (IntKind.u64.wrap ((fO m[0]! (m.drop 1):Int)+1));have p2:=bM (fE m[0]!);(try simp only[List.length_append,aZ]);omega))
  |(conv=>whnf
    first
     |with_reducible first|done|exact trivial|refine NilBr.mk (fun h=>?_) ?_|apply aJ|apply aI|refine aK (by kernel_rfl) ?_|apply aL|apply bC|apply bB|apply aO
     |((with_reducible first|apply aQ|apply aP|apply bA)<;>intro h<;>(try dsimp only[cu,eE,eN]at h)<;>(try(exfalso;omega)))
     |(
 intro yy (hy:Tag 70/\_)
 obtain⟨(m:List Int),(B:List Int),_⟩:=yy
 replace hy:=hy.2
 dsimp only[cu,aB,aA,gts,eE,eN]at hy
 obtain⟨hm,hx,hz⟩:=hy)))
 all_goals(
 with_reducible apply Leaf.mk
 (try dsimp only[cu,aB,aA,gts,eE,eN]at *)
 (
  have hm0:m= []:=List.eq_nil_of_length_eq_zero (by omega);rw[hx,hm0,runs,GA];show _=aN B++ByteArray.empty;simp))
abbrev qN1:Tbl:=(151,HI)::qN0
theorem SW:aC Tryz.prog qN1:=aC.cons qKY SV
def AD {α:Type} (f:Val->α) (z:α) (l:List Val) (k:Int):List α:=(l.take k.toNat).map f++List.replicate (l.length-k.toNat) z
theorem xQ {α:Type} (f:Val->α) (z:α) (l:List Val):List.replicate l.length z=AD f z l 0:=by simp [AD]
theorem rD {α:Type} (f:Val->α) (z:α) (l:List Val) (k:Int) (h:0<=k/\k<=l.length):(AD f z l k).length=l.length:=by simp [AD];omega
theorem EE {α:Type} {f:Val->α} {z:α} {l:List Val} {k:Int} (h:0<=k/\k<l.length):(AD f z l k).set k.toNat (f l[k.toNat]!)=AD f z l (k+1):=by
 unfold AD;rw[pB h];have hl:((l.take k.toNat).map f).length=k.toNat:=by simp;omega
 rw[List.set_append_right _ _ (by omega),hl,Nat.sub_self,show l.length-k.toNat=(l.length-(k+1).toNat)+1 by omega,List.replicate_succ,List.set_cons_zero,List.map_append,List.append_assoc];rfl
theorem gO {α:Type} {f:Val->α} {z:α} {l:List Val} {k:Int} (h:k=l.length):AD f z l k=l.map f:=by
 unfold AD;rw[List.take_of_length_le (by omega),show l.length-k.toNat=0 by omega,List.replicate_zero,List.append_nil]
abbrev HE:Ct:=.fn [.int .i64,.list bQ] (some (fun(c:Int) (l:List Val)=>(2<=c/\c<=4)/\(l.length<=4096)/\(∀v,v∈l->okV v))) (fun(c:Int) (l:List Val)=>.d .str (gB 0 c l))
theorem qKL:aG Tryz.prog 111 HE:=by
 refine aG.fn SW mixed [] [] rfl rfl ?_;rintro⟨(c:Int),(l:List Val),_⟩ hpre;replace hpre:=hpre _ rfl;dsimp only[cu]at hpre;obtain⟨hc,hl,hv⟩:=hpre;refine⟨[(0,6,LA.mk [.sl 17 (.int .i64),.ar 0 (.int .i64) 2,.ar 1 .str 9] (fun y=>Tag 71/\cu [.int .i64,.list (.int .i64),.list .str] (fun(k:Int) (M:List Int) (S:List ByteArray)=>(0<=k/\k<=l.length)/\(M=AD (fun v:Val=>v.2.1) (0:Int) l k)/\(S=AD (fun v:Val=>v.2.2) (⟨#[]⟩:ByteArray) l k)) y) (cu [.int .i64,.list (.int .i64),.list .str] (fun(k:Int) (M:List Int) (S:List ByteArray)=>((l.length:Int)-k).toNat)) (cu [.int .i64,.list (.int .i64),.list .str] (fun(k:Int) (M:List Int) (S:List ByteArray)=>([]:List (Nat×Nat×LA)))))],?_⟩;repeat' (first
  |(
 with_reducible refine Side.mk ⟨(⟨⟩:Tag 71),?_⟩
 dsimp only[cu,aB,aA,gts,eE,eN]
 refine⟨?_,?_,?_⟩
 ·omega
 ·first
  |exact xQ _ _ _
  |(
  rw[hM]
  exact EE (f:=fun v:Val=>v.2.1) (by omega))
 ·first
  |exact xQ _ _ _
  |(
  rw[hS]
  exact EE (f:=fun v:Val=>v.2.2) (by omega)))
  |(
 with_reducible apply Side.mk
 (try dsimp only[cu,aB,aA,gts,loK,hiK,eE,eN])
 first
 |omega
 |(
  have hml:=rD (fun v:Val=>v.2.1) (0:Int) l k (by omega);rw[<-hM]at hml;have hsl:=rD (fun v:Val=>v.2.2) (⟨#[]⟩:ByteArray) l k (by omega);rw[<-hS]at hsl;omega)
 |(
  have hf:M=nH l:=by rw[hM,gO (by omega)];rfl
  have hg:S=tL l:=by rw[hS,gO (by omega)];rfl
  have hml:=rD (fun v:Val=>v.2.1) (0:Int) l k (by omega);rw[<-hM]at hml;have hsl:=rD (fun v:Val=>v.2.2) (⟨#[]⟩:ByteArray) l k (by omega);rw[<-hS]at hsl;first
  |(
   refine⟨by omega,?_⟩;rw[hf];exact YH hv)
  |(
   refine⟨?_,by omega⟩;rw[hg];exact NK hv)))
  |(conv=>whnf
    first
     |with_reducible first|done|exact trivial|refine NilBr.mk (fun h=>?_) ?_|apply aJ|apply aI|refine aK (by kernel_rfl) ?_|apply aL|apply bC|apply bB|apply aO
     |((with_reducible first|apply aQ|apply aP|apply bA)<;>intro h<;>(try dsimp only[cu,eE,eN]at h)<;>(try(exfalso;omega)))
     |(
 intro yy (hy:Tag 71/\_)
 obtain⟨(k:Int),(M:List Int),(S:List ByteArray),_⟩:=yy
 replace hy:=hy.2
 dsimp only[cu,aB,aA,gts,eE,eN]at hy
 obtain⟨hk,hM,hS⟩:=hy)))
 all_goals(
 with_reducible apply Leaf.mk
 (try dsimp only[cu,aB,aA,gts,eE,eN]at *)
 first
 |(
  have hf:M=nH l:=by rw[hM,gO (by omega)];rfl
  have hg:S=tL l:=by rw[hS,gO (by omega)];rfl
  first
  |(
   have hc2:c=2:=by with_reducible assumption
   rw[gB,if_pos hc2,hf])
  |(
   have hc2:¬c=2:=by with_reducible assumption
   first
   |(
    have hc4:c=4:=by with_reducible assumption
    rw[gB,if_neg hc2,if_neg (by omega),if_pos hc4,hf])
   |(
    have hc3:c=3:=by with_reducible assumption
    rw[gB,if_neg hc2,if_pos hc3,hg]))))
abbrev qN2:Tbl:=(111,HE)::qN1
theorem SX:aC Tryz.prog qN2:=aC.cons qKL SW
def qC (t:Int) (P:List Val):List Int->Int->Int
 | [],q=>q
 |k::ks,q=>qC t P ks (if(gB t k P).size<(gB t q P).size then k else q)
theorem BJ {t:Int} {P:List Val} {L:List Int} {j q:Int} (h:0<=j/\j<L.length):qC t P (L.drop j.toNat) q=qC t P (L.drop (j+1).toNat) (if(gB t L[j.toNat]! P).size<(gB t q P).size then L[j.toNat]! else q):=by
 rw[bJ L j h];rfl
theorem qF6 (t:Int):((kA t).drop (Int.toNat 1)).length<=2:=by unfold kA;split<;>decide
theorem qKH (t:Int):2<=(kA t).length/\(kA t).length<=3:=by unfold kA;split<;>decide
theorem AH {t j:Int} (h:0<=j/\j<((kA t).drop (Int.toNat 1)).length):(2<=((kA t).drop (Int.toNat 1))[j.toNat]! /\((kA t).drop (Int.toNat 1))[j.toNat]! <=4):=by
 have:∀k,k∈(kA t).drop (Int.toNat 1)->2<=k/\k<=4:=by
  unfold kA;split<;>(intro k hk;simp [show Int.toNat 1=1 from rfl]at hk;omega)
 exact this _ (by rw[getElem!_pos _ _ (by omega)];exact List.getElem_mem _)
theorem qC0 (t k q:Int) (l:List Val):(nD t k l).size+(gB t q (bT l)).size=(nD t q l).size+(gB t k (bT l)).size:=by
 have hh:(oA k l).size=(oA q l).size:=by
  unfold oA;simp only[ByteArray.size_append,bO [_],List.length_cons,List.length_nil]
 unfold nD;split<;>simp only[ByteArray.size_append]<;>omega
theorem OK (t k q:Int) (l:List Val):(cV t k l).size<(cV t q l).size↔(gB t k (bT l)).size<(gB t q (bT l)).size:=by
 have:=qC0 t k q l;unfold cV;rw[kP,kP];omega
theorem qF2 (t k:Int) (l:List Val):¬cV t k l=⟨#[]⟩:=fun e=>by
 have:=congrArg ByteArray.size e;unfold cV at this;rw[kP]at this;have h0:(ByteArray.mk #[]).size=0:=rfl;omega
theorem qF0 (t:Int) (l:List Val):bst t l 4 1 ⟨#[]⟩=cV t (qC t (bT l) ((kA t).drop (Int.toNat 1)) 1) l:=by
 have st:∀(k q:Int),(if cV t q l=⟨#[]⟩\/(cV t k l).size<(cV t q l).size then cV t k l else cV t q l)=cV t (if(gB t k (bT l)).size<(gB t q (bT l)).size then k else q) l:=fun k q=>by
  by_cases h:(gB t k (bT l)).size<(gB t q (bT l)).size
  ·rw[if_pos h,if_pos (.inr ((OK _ _ _ _).2 h))]
  ·rw[if_neg h,if_neg (fun p=>by
     rcases p with p|p
     ·exact qF2 _ _ _ p
     ·exact h ((OK _ _ _ _).1 p))]
 by_cases ht:t=3
 ·have u1:gI t 1=true:=by unfold gI;rw[if_pos ht];rfl
  have u2:¬gI t (1+1)=true:=by unfold gI;rw[if_pos ht];decide
  have u3:gI t (1+1+1)=true:=by unfold gI;rw[if_pos ht];rfl
  have u4:¬gI t (1+1+1+1)=true:=by unfold gI;rw[if_pos ht];decide
  simp only[bst];rw[if_neg u4,if_pos u3,if_neg u2,if_pos u1];simp only[true_or,if_true];rw[st];unfold kA;rw[if_pos ht];rfl
 ·have u1:gI t 1=true:=by unfold gI;rw[if_neg ht];rfl
  have u2:gI t (1+1)=true:=by unfold gI;rw[if_neg ht];rfl
  have u3:¬gI t (1+1+1)=true:=by unfold gI;rw[if_neg ht];decide
  have u4:gI t (1+1+1+1)=true:=by unfold gI;rw[if_neg ht];rfl
  simp only[bst];rw[if_pos u4,if_neg u3,if_pos u2,if_pos u1];simp only[true_or,if_true];rw[st,st];unfold kA;rw[if_neg ht];rfl
theorem qHY (t u k:Int) (l:List Val) (h:2<=k/\k<=4):gB t k l=gB u k l:=by
 unfold gB;by_cases h2:k=2
 ·rw[if_pos h2,if_pos h2]
 ·by_cases h3:k=3
  ·rw[if_neg h2,if_neg h2,if_pos h3,if_pos h3]
  ·rw[if_neg h2,if_neg h2,if_neg h3,if_neg h3,if_pos (by omega),if_pos (by omega)]
theorem AJ {c:Col} {l:List Val} (h1:¬cB c.2.1=false) (h2:¬l.length>4096) (h3:dQ c l=0):fK c l=(cV c.2.1 (qC c.2.1 (bT l) ((kA c.2.1).drop (Int.toNat 1)) 1) l,0):=by
 rw[fK,if_neg h1,if_neg h2,if_neg (fun q=>q h3),qF0]
abbrev uU:Ct:=.fn [uI,.list bQ] (some (fun(c:Col) (l:List Val)=>(l.length<=9223372036854775807)/\(∀v,v∈l->inI v.2.1))) (fun(c:Col) (l:List Val)=>.tup [.str,.int .i64] ((fK c l).1,(fK c l).2,()))
theorem UA:aG Tryz.prog 66 uU:=by
 refine aG.fn SX mixed [] [] rfl rfl ?_;rintro⟨(c:Col),(l:List Val),_⟩ hpre;replace hpre:=hpre _ rfl;dsimp only[cu]at hpre;obtain⟨hl,hin⟩:=hpre;refine⟨[(0,16,LA.mk [.sl 36 (.int .i64),.ar 1 .bool 4,.lst 7 bQ 43] (fun y=>Tag 72/\cu [.int .i64,.list .bool,.list bQ] (fun(i:Int) (N:List Bool) (P:List Val)=>(0<=i/\i<=l.length)/\(dQ c l=dQ c (l.drop i.toNat))/\(N=AD (fun v:Val=>v.1) false l i)/\(P=bT (l.take i.toNat))) y) (cu [.int .i64,.list .bool,.list bQ] (fun(i:Int) (N:List Bool) (P:List Val)=>((l.length:Int)-i).toNat)) (cu [.int .i64,.list .bool,.list bQ] (fun(i:Int) (N:List Bool) (P:List Val)=>([]:List (Nat×Nat×LA))))),(0,38,LA.mk [.sl 69 (.int .i64),.sl 11 .str,.sl 12 (.int .i64)] (fun y=>Tag 73/\cu [.int .i64,.str,.int .i64] (fun(j:Int) (b:ByteArray) (q:Int)=>(0<=j/\j<=((kA c.2.1).drop (Int.toNat 1)).length)/\(1<=q/\q<=4)/\(b=gB c.2.1 q (bT l))/\(qC c.2.1 (bT l) ((kA c.2.1).drop (Int.toNat 1)) 1=qC c.2.1 (bT l) (((kA c.2.1).drop (Int.toNat 1)).drop j.toNat) q)) y) (cu [.int .i64,.str,.int .i64] (fun(j:Int) (b:ByteArray) (q:Int)=>((((kA c.2.1).drop (Int.toNat 1)).length:Int)-j).toNat)) (cu [.int .i64,.str,.int .i64] (fun(j:Int) (b:ByteArray) (q:Int)=>([]:List (Nat×Nat×LA)))))],?_⟩;repeat' (first
  |(
 with_reducible refine Side.mk ⟨(⟨⟩:Tag 72),?_⟩
 dsimp only[cu,aB,aA,gts,eE,eN]
 refine⟨?_,?_,?_,?_⟩
 ·omega
 ·first
  |rfl
  |(
  have hv:¬bK c l[i.toNat]! ≠0:=uC (by with_reducible assumption)
  rw[hc,nW (by omega),if_neg hv])
 ·first
  |exact xQ _ _ _
  |(
  rw[hN]
  exact EE (f:=fun v:Val=>v.1) (by omega))
 ·first
  |rfl
  |(
  have hb:l[i.toNat]!.1=true:=by first|with_reducible assumption|exact qL2 (by with_reducible assumption)
  rw[sQ (by omega),<-hP,if_pos hb,List.append_nil])
  |(
  have hb:¬l[i.toNat]!.1=true:=by first|with_reducible assumption|(simp_all;done)
  rw[sQ (by omega),<-hP,if_neg hb]))
  |(
 with_reducible refine Side.mk ⟨(⟨⟩:Tag 73),?_⟩
 dsimp only[cu,aB,aA,gts,eE,eN]
 refine⟨?_,?_,?_,?_⟩
 ·omega
 ·first
  |omega
  |(
  have hca:=AH (t:=c.2.1) (j:=j) (by omega)
  omega)
 ·first
  |exact hb
  |(
  have hch:dQ c l=0:=by rw[hc,List.drop_eq_nil_of_le (by omega)];rfl
  have hok:∀v,v∈l->okV v:=fun v hv=>eF (gJ hch v hv) (hin v hv)
  have hF:P=bT l:=by rw[hP,List.take_of_length_le (by omega)]
  have hG:N=dR l:=by rw[hN,gO (by omega)];rfl
  have hpl:=eM l
  rw[<-hF]at hpl
  have hpo:=kV hok
  rw[<-hF]at hpo
  rw[<-hF]
  first
  |rfl
  |(
   have hca:=AH (t:=c.2.1) (j:=j) (by omega);exact qHY _ _ _ _ hca))
 ·first
  |rfl
  |(
  have hch:dQ c l=0:=by rw[hc,List.drop_eq_nil_of_le (by omega)];rfl
  have hok:∀v,v∈l->okV v:=fun v hv=>eF (gJ hch v hv) (hin v hv)
  have hF:P=bT l:=by rw[hP,List.take_of_length_le (by omega)]
  have hG:N=dR l:=by rw[hN,gO (by omega)];rfl
  have hpl:=eM l
  rw[<-hF]at hpl
  have hpo:=kV hok
  rw[<-hF]at hpo
  have hca:=AH (t:=c.2.1) (j:=j) (by omega)
  have hpt:=qHY 0 c.2.1 _ (bT l) hca
  first
  |(
   have hlt:(gB c.2.1 ((kA c.2.1).drop (Int.toNat 1))[j.toNat]! (bT l)).size<(gB c.2.1 q (bT l)).size:=by rw[<-hpt,<-hb,<-hF];omega
   rw[hk,BJ (by omega),if_pos hlt])
  |(
   have hlt:¬(gB c.2.1 ((kA c.2.1).drop (Int.toNat 1))[j.toNat]! (bT l)).size<(gB c.2.1 q (bT l)).size:=by rw[<-hpt,<-hb,<-hF];omega
   rw[hk,BJ (by omega),if_neg hlt])))
  |(
 with_reducible apply Side.mk
 (try dsimp only[cu,aB,aA,gts,loK,hiK,eE,eN])
 first
 |done
 |omega
 |exact Eq.refl _
 |(
  have hnl:=rD (fun v:Val=>v.1) false l i (by omega);rw[<-hN]at hnl;omega)
 |(
  have hp1:=eM (l.take i.toNat);rw[<-hP,List.length_take]at hp1;(try simp only[List.length_cons,List.length_nil]);omega)
 |(
  have hch:dQ c l=0:=by rw[hc,List.drop_eq_nil_of_le (by omega)];rfl
  have hok:∀v,v∈l->okV v:=fun v hv=>eF (gJ hch v hv) (hin v hv)
  have hF:P=bT l:=by rw[hP,List.take_of_length_le (by omega)]
  have hG:N=dR l:=by rw[hN,gO (by omega)];rfl
  have hpl:=eM l;rw[<-hF]at hpl;have hpo:=kV hok;rw[<-hF]at hpo;exact⟨by omega,hpo⟩)
 |(
  have hca:=AH (t:=c.2.1) (j:=j) (by omega);have hch:dQ c l=0:=by rw[hc,List.drop_eq_nil_of_le (by omega)];rfl
  have hok:∀v,v∈l->okV v:=fun v hv=>eF (gJ hch v hv) (hin v hv)
  have hF:P=bT l:=by rw[hP,List.take_of_length_le (by omega)]
  have hG:N=dR l:=by rw[hN,gO (by omega)];rfl
  have hpl:=eM l;rw[<-hF]at hpl;have hpo:=kV hok;rw[<-hF]at hpo;exact⟨hca,by omega,hpo⟩)
 |(
  have hcl:=qKH c.2.1;omega)
 |(
  have hcl:=qF6 c.2.1;omega)
 |exact hE _
 |(
  have hch:dQ c l=0:=by rw[hc,List.drop_eq_nil_of_le (by omega)];rfl
  have hok:∀v,v∈l->okV v:=fun v hv=>eF (gJ hch v hv) (hin v hv)
  have hF:P=bT l:=by rw[hP,List.take_of_length_le (by omega)]
  have hG:N=dR l:=by rw[hN,gO (by omega)];rfl
  have hpl:=eM l;rw[<-hF]at hpl;have hpo:=kV hok;rw[<-hF]at hpo;have w1:=aS (n:=(l.length:Int)) (by omega);have w2:=aS (n:=(l.length:Int)-P.length) (by omega);have hh:=xK q l;have hp:=EF (t:=c.2.1) (k:=q) (kV hok) (by have:=eM l;omega);rw[<-hb]at hp;have hq2:=uD (l:=dR l) (by simp [dR];omega);rw[<-hG]at hq2;have p1:=bM (l.length:Int);have p2:=bM ((l.length:Int)-P.length);simp only[ByteArray.size_append,w1,w2,rC,bO [_],sB,List.length_cons,List.length_nil];omega))
  |(conv=>whnf
    first
     |with_reducible first|done|exact trivial|refine NilBr.mk (fun h=>?_) ?_|apply aJ|apply aI|refine aK (by kernel_rfl) ?_|apply aL|apply bC|apply bB|apply aO
     |((with_reducible first|apply aQ|apply aP|apply bA)<;>intro h<;>(try dsimp only[cu,eE,eN]at h)<;>(try(exfalso;omega)))
     |(
 intro yy (hy:Tag 72/\_)
 obtain⟨(i:Int),(N:List Bool),(P:List Val),_⟩:=yy
 replace hy:=hy.2
 dsimp only[cu,aB,aA,gts,eE,eN]at hy
 obtain⟨hi,hc,hN,hP⟩:=hy)
     |(
 intro yy (hy:Tag 73/\_)
 obtain⟨(j:Int),(b:ByteArray),(q:Int),_⟩:=yy
 replace hy:=hy.2
 dsimp only[cu,aB,aA,gts,eE,eN]at hy
 obtain⟨hj,hq,hb,hk⟩:=hy)))
 all_goals(
 with_reducible apply Leaf.mk
 (try dsimp only[cu,aB,aA,gts,eE,eN]at *)
 first
 |(
  have hkn:cB c.2.1=false:=by unfold cB;simp;omega
  rw[fK,if_pos hkn])
 |(
  have hkn:¬cB c.2.1=false:=by unfold cB;simp;omega
  first
  |(
   have h4:l.length>4096:=by omega
   rw[fK,if_neg hkn,if_pos h4])
  |(
   have h4:¬l.length>4096:=by omega
   have hv:bK c l[i.toNat]! ≠0:=by with_reducible assumption
   have hce:dQ c l=bK c l[i.toNat]!:=by rw[hc,nW (by omega),if_pos hv]
   rw[fK,if_neg hkn,if_neg h4,hce,if_pos hv])
  |(
   have hch:dQ c l=0:=by rw[hc,List.drop_eq_nil_of_le (by omega)];rfl
   have hok:∀v,v∈l->okV v:=fun v hv=>eF (gJ hch v hv) (hin v hv)
   have hF:P=bT l:=by rw[hP,List.take_of_length_le (by omega)]
   have hG:N=dR l:=by rw[hN,gO (by omega)];rfl
   have hpl:=eM l;rw[<-hF]at hpl;have hpo:=kV hok;rw[<-hF]at hpo;first
   |(
    have w1:=aS (n:=(l.length:Int)) (by omega);have w2:=aS (n:=(l.length:Int)-P.length) (by omega);have hqq:qC c.2.1 (bT l) ((kA c.2.1).drop (Int.toNat 1)) 1=q:=by rw[hk,List.drop_eq_nil_of_le (by omega)];rfl
    first
    |(
     have hlt:(bT l).length<l.length:=by rw[<-hF];omega
     rw[w1,w2,AJ hkn (by omega) hch,hqq,cV,DD hlt,hb,<-hG];unfold oA;rw[<-hF];rfl)
    |(
     have hlt:¬(bT l).length<l.length:=by rw[<-hF];omega
     rw[w1,w2,AJ hkn (by omega) hch,hqq,cV,DC hlt,hb];unfold oA;rw[<-hF];rfl))
   |(rw[AJ hkn (by omega) hch]))))
abbrev qN3:Tbl:=(66,uU)::qN2
theorem SY:aC Tryz.prog qN3:=aC.cons UA SX
end Go.Proofs.YtcjiefknhfhmkaaGreatDoor
