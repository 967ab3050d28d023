/- Parts of the walk. -/
import Derived.Test.YtkidababfdehlaaGreatDoorQAe
set_option linter.all false
set_option maxRecDepth 100000
set_option maxHeartbeats 64000000
namespace Go.Proofs.YtkidababfdehlaaGreatDoor
open Value renaming int -> I_,bool -> B_,string -> T_,slice -> S_,pointer -> P_,tuple -> U_,agg -> A_
open IntKind renaming i64 -> J_
open Ending renaming returned -> R_
open Bool renaming true -> X_,false -> Y_
open Go renaming World -> Y',Value -> Z_,Calls -> Z'
open Go.Extern.MathFloor renaming toIntegral -> WW
open Nat renaming zero_add -> WX
open du renaming pos -> WY,cmp -> WZ,has -> Xb
open Go.World renaming rangeAt_setCells_same -> Xa
variable {bx:List et} {b k:Nat} {q:Prop}
open _root_.Go.Proofs.Tryz Go.RowKit
section
namespace Wo
def Ak (p:et) (s:ByteArray) (w:Y'):Z' prog 352 #[A_ p.arr,T_ s] w λe w'=>e=R_ (I_ J_ (WZ p.id s))/\Bw w w':=by
 obtain ⟨qi,q1,q2,q3⟩:=p;unfold et.arr
 dsimp only
 go_enter func352,ntmps352;go_wp2_with fail;refine (gD _ _ _).mono ?_;refine Ky ?_;go_ret;exact ⟨rfl,dL⟩
def iK (bx:List et):List ByteArray:=bx.map λp=>p.id
def mB (bx:List et):(iK bx).length=bx.length:=by simp [iK]
def Ge (h:k<bx.length) (h2:k<(iK bx).length):(iK bx)[k]=bx[k].id:=by simp [iK]
def Cv (A:Option Addr) (n c:Nat) (bx:List et) (s:ByteArray) (w:Y') (h:Mem.Sl w w.heap.size 4 A n (et.flat bx)) (hr:du.dY (iK bx)) (aJ:bx.length=n) (hn:n<=1000000):
  Z' prog 351 #[S_ A n c,T_ s,.func (.func 352) #[] #[]] w λe w'=>e=R_ (U_ #[I_ J_ (WY (iK bx) s),B_ (Xb (iK bx) s)])/\Bw w w':=by
 have HR:=Hd hr;clear hr;let ⟨P,hP⟩:=nm (WY (iK bx) s);let ⟨F,hF⟩:=nm (Xb (iK bx) s);rw [<-hP,<-hF];have HP:=Hd hP;have HF:=Hd hF;clear hP hF;go_enter func351,ntmps351;go_wp2;go_loopw [9,10] (λvi vj wr=> ∃i j:Nat,i<=j/\j<=n/\vi=I_ J_ i/\vj=I_ J_ j/\Bw w wr/\Hid (∀(t:Nat) (ht:t<(iK bx).length),t<i->WZ (iK bx)[t] s<0)/\Hid (∀(t:Nat) (ht:t<(iK bx).length),j<=t->0<=WZ (iK bx)[t] s)) (λi j _=>(intOf j - intOf i).toNat)
 .exact ⟨0,n,o_,o_,rfl,rfl,Below.refl _ _,λt _ h=>absurd h o_,λt ht h=>absurd ht (by rw [mB];omega)⟩
 .obtain ⟨i,j,hij,hjn,rfl,rfl,V,Hl,Hh⟩:=hrel
  by_cases hlt:i<j
  .refine Kz ?_
   intro m hm hm1 hm2 ap d0 aB;obtain ⟨ad,hl,rfl,_,_,ac⟩:=et.at_ (h.below V) (k:=m) o_;have hx:m<(iK bx).length:=by rw [mB];exact hl
   have ah:(iK bx)[m]=bx[m].id:=Ge hl hx;let ⟨q,hq⟩:=nm (bx[m]);rw [<-hq] at ac ah;clear hq;obtain ⟨c0,c1,c2,c3⟩:=ac;obtain ⟨qi,qs,qt,ql⟩:=q
   dsimp only at c0 c1 c2 c3 ah
   have hb:=Hd (λw=>Ak ⟨qi,qs,qt,ql⟩ s w);have He:=Hd ah;clear hm ah;go_wp2_with fail;refine (hb _).mono ?_;rintro e w1 ⟨rfl,U⟩;have X:Bw w w1:=V.trans (U.mono V.size);clear hb U c0 c1 c2 c3 aB ap
   dsimp only
   have ah:=He.o;have hc:WZ qi s=WZ (iK bx)[m] s:=by rw [ah]
   have aa:=HR.o;by_cases G:WZ qi s<0
   .have d1:decide (WZ qi s<0)=X_:=decide_eq_true G
    have ax:Hid (∀(t:Nat) (ht:t<(iK bx).length),t<m+1->WZ (iK bx)[t] s<0):=by
     exact KB
    exact KD
   .have d1:decide (WZ qi s<0)=Y_:=decide_eq_false G
    have ay:Hid (∀(t:Nat) (ht:t<(iK bx).length),m<=t->0<=WZ (iK bx)[t] s):=by
     intro t ht ak;refine Int.not_lt.1 λai=>?_
     obtain h|rfl:=Nat.lt_or_eq_of_le ak
     .have h1:=List.pairwise_iff_getElem.1 aa m t hx ht h
      have h2:=du.jb h1 (show WZ (iK bx)[t] s<=0 by omega);rw [<-hc] at h2;exact G h2
     .rw [<-hc] at ai;exact G ai
    exact KE
  .obtain rfl:i=j:=o_
   have O:WY (iK bx) s=i:=du.pos_at HR i (by rw [mB];omega) Hl (λt ht h=>Int.not_lt.2 (Hh t ht h));have d0:decide ((i:Int)<i)=Y_:=dF;by_cases au:i<n
   .have d2:decide ((i:Int)<n)=X_:=dT
    obtain ⟨ad,hl,rfl,_,_,ac⟩:=et.at_ (h.below V) (k:=i) au;have hx:i<(iK bx).length:=by rw [mB];exact hl
    have he:(iK bx)[i]=bx[i].id:=Ge hl hx;have I:Hid (Xb (iK bx) s=(WZ bx[i].id s==0)):=by
     show _=_
     subst O;rw [du.nT HR.o (by rw [mB];omega),he]
    let ⟨q,hq⟩:=nm (bx[i]);rw [<-hq] at ac I;have al:Hid (P=i):=HP.trans O;have ah:Hid (F=(WZ q.id s==0)):=HF.trans I;clear hq he O I;obtain ⟨c0,c1,c2,c3⟩:=ac;obtain ⟨qi,qs,qt,ql⟩:=q
    dsimp only at c0 c1 c2 c3 ah
    have hb:=Hd (λw=>Ak ⟨qi,qs,qt,ql⟩ s w);go_wp2_with fail;refine (hb _).mono ?_;rintro e w1 ⟨rfl,U⟩;have X:Bw w w1:=V.trans (U.mono V.size);clear hb U c0 c1 c2 c3;exact zZ
   .have d2:decide ((i:Int)<n)=Y_:=dF
    have I:Xb (iK bx) s=Y_:=du.nV (by rw [O,mB];omega);exact KG
end Wo
end
section
open Wo
namespace Tw
def xY (t a0 a1 a2:Int) (A:Option Addr) (n c:Nat):Array Z_:= #[I_ J_ t,I_ J_ a0,I_ J_ a1,I_ J_ a2,S_ A n c]
def rn (us:List et) (s:ByteArray):Int×Int×Int:=if h:Xb (iK us) s=X_/\WY (iK us) s<us.length then (us[WY (iK us) s].sA,us[WY (iK us) s].sB,us[WY (iK us) s].sC) else (0,0,0)
def Ox {p:Prop} (k:q) (h:Wq q->p:=by
 intro kq;have ac:World.there w2 (w.heap.size+1) 0 3:=λj hj=>⟨by
   rw [Nat.zero_add,aa.o.cell];have:j=0\/j=1\/j=2:=o_;obtain rfl|rfl|rfl:=this<;>rfl,by rw [Nat.zero_add];exact aa.frozen j⟩
 revert ac
 exact kq.o):p:=h ⟨k⟩
def QA (t a0 a1 a2:Int) (A:Option Addr) (n c:Nat) (us:List et) (s:ByteArray) (w:Y') (h:Mem.Sl w w.heap.size 4 A n (et.flat us)) (hr:du.dY (iK us)) (ao:us.length=n) (hn:n<=1000000):
  Z' prog 294 #[A_ (xY t a0 a1 a2 A n c),T_ s] w λe w'=>e=R_ (A_ #[I_ J_ (rn us s).1,I_ J_ (rn us s).2.1,I_ J_ (rn us s).2.2])/\Bw w w':=by
 have HS:=Hd (λX (hX:Mem.Sl X X.heap.size 4 A n (et.flat us))=>Cv A n c us s X hX hr ao hn);have H:=Hd h;clear h;have HU:Hid (∀(hh:Xb (iK us) s=X_) (hp:WY (iK us) s<us.length),rn us s=(us[WY (iK us) s].sA,us[WY (iK us) s].sB,us[WY (iK us) s].sC)):=λhh hp=>by unfold rn;rw [dif_pos ⟨hh,hp⟩]
 have HN:Hid (Xb (iK us) s=Y_->rn us s=(0,0,0)):=λhh=>by unfold rn;rw [dif_neg (by rw [hh];simp)]
 have HP:=Hd (show Xb (iK us) s=X_->WY (iK us) s<us.length from λhh=>by
  obtain ⟨hp,-⟩:=du.mZ hr hh;simpa [iK] using hp)
 unfold xY;let ⟨F,hF⟩:=nm (rn us s);rw [<-hF] at HU HN |-;clear hF;generalize Xb (iK us) s=b at*;generalize hpo:WY (iK us) s=po at*;clear hpo;let ⟨w1,G⟩:=nm ((w.alloc (.cells #[I_ J_ t,I_ J_ a0,I_ J_ a1,I_ J_ a2,S_ A n c] 98)).alloc (.cells #[I_ J_ 0,I_ J_ 0,I_ J_ 0] 22));have O:Hid (Bw w w1):=by rw [G];exact (dL).alloc y_ _
 have HK:Hid (Mem.c_ w1 w.heap.size 98 #[I_ J_ t,I_ J_ a0,I_ J_ a1,I_ J_ a2,S_ A n c]):=by rw [G];exact Mem.c_.alloc Mem.c_.new
 have HL:=Hd (show Mem.c_ w1 (w.heap.size+1) 22 #[I_ J_ 0,I_ J_ 0,I_ J_ 0] from by
  rw [G];have:=Mem.c_.new (w:=w.alloc (.cells #[I_ J_ t,I_ J_ a0,I_ J_ a1,I_ J_ a2,S_ A n c] 98)) (t:=22) (cs:= #[I_ J_ 0,I_ J_ 0,I_ J_ 0]);simpa using this)
 have HW:=Hd G;clear G;go_enter func294,ntmps294;go_wp2_with fail;rw [<-HW.o];refine (HS _ ((H.below O).more O.size)).mono ?_;rintro e w2 ⟨rfl,V⟩;have H2:=Hd (O.trans (V.mono O.size));have au:=Hd (HK.a_ V);have aa:=Hd (HL.a_ V);clear V O HK HL HW HS;cases b with
 |false=>
  have ab:=Hd (HN rfl);refine Ox ?_;intro ac;have HA:Array.all (#[I_ J_ 0,I_ J_ 0,I_ J_ 0]:Array Z_) (·.oneCell')=X_:=by simp [Value.oneCell']
  have HI:((prog).info? 22).map (·.size)=some (Array.size (#[I_ J_ 0,I_ J_ 0,I_ J_ 0]:Array Z_)):=k_;let ⟨w3,U⟩:=nm (w2.setCells (w.heap.size+1) 0 (#[I_ J_ 0,I_ J_ 0,I_ J_ 0]:Array Z_).toList);have ah:=Hd U;have I:=Hd (Xa w2 (w.heap.size+1) 0 _ (show World.there w2 (w.heap.size+1) 0 (Array.toList (#[I_ J_ 0,I_ J_ 0,I_ J_ 0]:Array Z_)).length from ac));rw [<-U] at I;have ag:Hid (Bw w w3):=by rw [U];exact Ta.fq o_ _ _ _ H2
  clear U;go_wp2_with (refine wpList_store_mid rfl 22 _ _ rfl (w.heap.size+1) 0 #[I_ J_ 0,I_ J_ 0,I_ J_ 0] rfl rfl ac HI HA ?_;rw [<-ah.o])
  clear ac HA HI;have v0:C w3 (w.heap.size+1) 0 (I_ J_ 0):=by have:=I.o 0 (I_ J_ 0) rfl;rwa [WX] at this
  have v1:C w3 (w.heap.size+1) 1 (I_ J_ 0):=by have:=I.o 1 (I_ J_ 0) rfl;rwa [WX] at this
  have v2:C w3 (w.heap.size+1) 2 (I_ J_ 0):=by have:=I.o 2 (I_ J_ 0) rfl;rwa [WX] at this
  refine bodyPost_ret (v:=A_ #[I_ J_ 0,I_ J_ 0,I_ J_ 0]) (by simp [*,results,results294,go_sem]) rfl ⟨by rw [ab.o],ag⟩
 |true=>
  have hp:=HP rfl;have ab:=Hd (HU rfl hp);obtain ⟨ad,hl,rfl,ap,an,av⟩:=et.at_ (H.below H2) (show po<n by omega);have k4:=au.cell 4;generalize us[po]=q at*;obtain ⟨q0,q1,q2,q3⟩:=q;obtain ⟨x0,x1,x2,x3⟩:=av
  dsimp only at x0 x1 x2 x3 ab
  clear ap an;refine Ox ?_;intro ac;have HA:Array.all (#[I_ J_ q1,I_ J_ q2,I_ J_ q3]:Array Z_) (·.oneCell')=X_:=by simp [Value.oneCell']
  have HI:((prog).info? 22).map (·.size)=some (Array.size (#[I_ J_ q1,I_ J_ q2,I_ J_ q3]:Array Z_)):=k_;let ⟨w3,U⟩:=nm (w2.setCells (w.heap.size+1) 0 (#[I_ J_ q1,I_ J_ q2,I_ J_ q3]:Array Z_).toList);have ah:=Hd U;have I:=Hd (Xa w2 (w.heap.size+1) 0 _ (show World.there w2 (w.heap.size+1) 0 (Array.toList (#[I_ J_ q1,I_ J_ q2,I_ J_ q3]:Array Z_)).length from ac));rw [<-U] at I;have ag:Hid (Bw w w3):=by rw [U];exact Ta.fq o_ _ _ _ H2
  clear U;go_wp2_with (refine wpList_store_mid rfl 22 _ _ rfl (w.heap.size+1) 0 #[I_ J_ q1,I_ J_ q2,I_ J_ q3] rfl rfl ac HI HA ?_;rw [<-ah.o])
  clear ac HA HI;have v0:C w3 (w.heap.size+1) 0 q1:=by have:=I.o 0 (I_ J_ q1) rfl;rwa [WX] at this
  have v1:C w3 (w.heap.size+1) 1 q2:=by have:=I.o 1 (I_ J_ q2) rfl;rwa [WX] at this
  have v2:C w3 (w.heap.size+1) 2 q3:=by have:=I.o 2 (I_ J_ q3) rfl;rwa [WX] at this
  refine bodyPost_ret (v:=A_ #[I_ J_ q1,I_ J_ q2,I_ J_ q3]) (by simp [*,results,results294,go_sem]) rfl ⟨by rw [ab.o],ag⟩
end Tw
end
section
namespace Fl
def Sk (b:Nat) (G:b<9218868437227405312) (w:Y'):(callFunc 357 #[.float .f64 b]).run prog w= .ok (.value (.float .f64 (whole (fl b)))) w:=by
 refine OJ ?_;intro F hs e;have h:=Df G;rw [run_callFunc_extern func357 k_ k_ k_ (e:=WW "math.archFloor" .down) k_];rw [e] at h;have I:WW "math.archFloor" .down #[.float .f64 b]=(pure (.float .f64 (whole (fl b))):Sem Z_):=by
  unfold WW
  show (match FloatKind.f64.decode b with| .nan s t=>_|d=>_)=_
  rw [e];rw [<-h]
 rw [I];rfl
def Nv (b:Nat) (F:b<9218868437227405312) (w:Y'):Z' prog 300 #[.float .f64 b] w λe w'=>e=R_ (.float .f64 (whole (fl b)))/\w=w':=by
 have fb:=Sk b F;generalize whole (fl b)=x at*;clear F;go_enter func300,ntmps300;exact lH
def Sm (U:b<18446744073709551616):kd b=1/\rdv b=0\/(kd b≠1/\kd b<=5/\rdv b=0)\/(kd b≠1/\ ¬kd b<=5/\rdv b=9223372036854775807/\(FloatKind.f64.format.order b 4890909195324358656==some .gt||FloatKind.f64.format.order b 4890909195324358656==some .eq)=X_)\/(kd b≠1/\ ¬kd b<=5/\rdv b=fl b/\(FloatKind.f64.format.order b 4890909195324358656==some .gt)=Y_/\(FloatKind.f64.format.order b 4890909195324358656==some .eq)=Y_/\b<9218868437227405312/\floatToIntVal .f64 (whole (fl b)) .i64=some (fl b:Int)):=by
 by_cases F:kd b=1
 .left
  refine ⟨F,?_⟩;unfold rdv;rw [F];rfl
 right;by_cases G:kd b<=5
 .left
  refine ⟨F,G,?_⟩;unfold rdv;rw [if_pos G]
 right;have hc:=Gy b;have O:rg b<=9218868437227405312:=o_;have hs:sr b=rg b:=o_;have I:sg b=Y_:=by
  cases h:sg b
  .rfl
  .exfalso
   unfold sr at hs;rw [h] at hs;simp only [if_true] at hs;omega
 have hv:=Re U;have hlt:b<9223372036854775808:=by unfold sg at I;have:=of_decide_eq_false I;omega
 have eb:rg b=b:=by rw [hv,if_neg o_]
 have X:rg 4890909195324358656<=9218868437227405312:=by unfold rg;omega
 have sm:sr 4890909195324358656=4890909195324358656:=by unfold sr sg rg;rw [dF];simp
 have o:=lY U (show 4890909195324358656<18446744073709551616 by omega) O X;rw [sm,hs] at o;rw [o,vc,Ib];unfold rdv;rw [if_neg G];rw [eb] at O |-;by_cases V:4890909195324358656<=b
 .left
  refine ⟨F,G,by rw [if_pos V],?_⟩;by_cases he:4890909195324358656<b
  .rw [dT];rfl
  .rw [decide_eq_true (p:=(b:Int)=4890909195324358656) o_]
   simp
 .right
  refine ⟨F,G,by rw [if_neg V],dF,dF,o_,?_⟩;exact back (Ut o_) (OI o_)
def rz (b:Nat) (w:Y') (X:b<18446744073709551616):Z' prog 239 #[.float .f64 b] w λe w'=>e=R_ (U_ #[I_ J_ (rdv b),B_ (decide (kd b≠1))])/\w=w':=by
 have O:=Hd (λw=>Sn b w X);obtain ⟨F,e⟩|⟨F,G,e⟩|⟨F,G,e,o⟩|⟨F,G,e,o1,o2,I,V⟩:=Sm X
 .rw [e,dF];clear e
  have d:(kd b==1)=X_:=beq_iff_eq.2 F;clear F;generalize kd b=k at*;go_enter func239,ntmps239;go_wp2_with fail;refine (O _).mono ?_;rintro e w' ⟨rfl,rfl⟩;go_wp2
  go_ret2
  exact ⟨rfl,rfl⟩
 .rw [e,decide_eq_true F];clear e
  have d:(kd b==1)=Y_:=beq_eq_false_iff_ne.2 F;have U:decide (kd b<=5)=X_:=decide_eq_true G;clear F G;generalize kd b=k at*;go_enter func239,ntmps239;go_wp2_with fail;refine (O _).mono ?_;rintro e w' ⟨rfl,rfl⟩;go_wp2
  go_ret2
  exact ⟨rfl,rfl⟩
 .rw [e,decide_eq_true F];clear e
  have d:(kd b==1)=Y_:=beq_eq_false_iff_ne.2 F;have U:decide (kd b<=5)=Y_:=decide_eq_false G;clear F G;generalize kd b=k at*;go_enter func239,ntmps239;go_wp2_with fail;refine (O _).mono ?_;rintro e w' ⟨rfl,rfl⟩;go_wp2
  go_ret2
  exact ⟨rfl,rfl⟩
 .rw [e,decide_eq_true F];clear e
  have d:(kd b==1)=Y_:=beq_eq_false_iff_ne.2 F;have U:decide (kd b<=5)=Y_:=decide_eq_false G;have hf:=Hd (λw=>Nv b I w);have hcv: ∀w,(convert 43 3 (.float .f64 (whole (fl b)))).run prog w= .ok (I_ J_ (fl b:Int)) w:=λw=>run_convert_float_int w 43 3 .f64 .i64 _ _ (by rw [underlying43];rfl) underlying3 V
  clear F G I V;generalize kd b=k at*;generalize whole (fl b)=x at*;generalize (fl b:Int)=y at*;go_enter func239,ntmps239;go_wp2_with fail;refine (O _).mono ?_;rintro e w' ⟨rfl,rfl⟩;go_wp2_with fail;refine (hf _).mono ?_;rintro e w' ⟨rfl,rfl⟩;go_wp2
  go_ret2
  exact ⟨rfl,rfl⟩
end Fl
end
end Go.Proofs.YtkidababfdehlaaGreatDoor
