/- Parts of the walk. -/
import Derived.Test.YtkidababfdehlaaGreatDoorQBd
set_option linter.all false
set_option maxRecDepth 100000
set_option maxHeartbeats 64000000
namespace Go.Proofs.YtkidababfdehlaaGreatDoor
open Value renaming int -> I_,bool -> B_,string -> T_,slice -> S_,pointer -> P_,tuple -> U_,agg -> A_
open IntKind renaming i64 -> J_
open Ending renaming returned -> R_
open Option renaming some -> X_,none -> Y_
open Bool renaming true -> Y',false -> Z_,and_eq_true -> Xs
open Go renaming World -> Z',Value -> WW,Calls -> WX,Addr -> WY
open Go.RowKit renaming Hid -> WZ
open _root_.Go.Proofs.Tryz renaming prog -> Xa
open List renaming mem_append -> Xb,mem_map -> Xd,map_append -> Xk,length_cons -> Xr,append_nil -> Xt,length_append -> Xu,append_assoc -> Xv,map_take -> Xw,map_drop -> Xx,length_map -> XB,map_cons -> XF,pairwise_cons -> XH,nil_append -> XM
open Sat renaming cut -> Xc,num_nonneg -> Xg
open List.Sublist renaming refl -> Xe
open Nat renaming le_refl -> Xf,zero_le -> Xh,le_trans -> Xp,lt_irrefl -> XE
open Int renaming le_refl -> Xi
open Wo renaming St -> Xj
open And renaming intro -> Xl
open Vi renaming fI -> Xm,eY -> Xq,ux -> XW
open Mem renaming c_ -> Xn,Sl -> XQ
open Mem.c_ renaming new -> Xo
open List.Perm renaming eq_nil -> Xy
open Ck renaming dV -> Xz
open fC renaming dE -> XA,frame -> XC
open dI renaming ia -> XD,arr -> XS
open du renaming has -> XG
open dX renaming flat -> XI,at_ -> XR
open Go.Sem renaming run_bind -> XJ
open List.Pairwise renaming nil -> XK
open Tw renaming eT -> XL,fP -> XX
open dm renaming one -> XN
open Go.World renaming drew -> XO
open Ro renaming Row -> XP
open Tp renaming join -> XT
open Fl renaming rdv -> XU,pb -> XZ,jd -> Ya
open gu renaming fK -> XV
open _root_.Go.RowKit.Hid renaming o -> XY
open Dk renaming Ds -> Yb
variable {a:Act} {ops:Array Oper} {cs:Array WW} {b o0 o1 o2:Bool} {err0 f g0 g1 g2 i kind last q r s t tr v':Int} {rest:List Oper} {xs:List WW} {dD:List dA} {ps:List dI} {G ev ev0:List dX} {F l:List dq} {l':List dz} {B0 c e g k k' n:Nat} {A:Option WY} {W0 w:Z'} {d:dI} {v:dX}
open _root_.Go.Proofs.Tryz Go.RowKit Wo Tx Ta Rd Tq Nu
section
open Tryz
namespace Nd
def qN (y:AV):SV:=⟨y.r,y.o0,y.o1,y.o2,y.l⟩
structure Fit (p:ef) (y:AV):Prop where
 st:eJ y.r y.l
 each: ∀e∈y.l,e.ok
 fit:Xm p.a0 p.a1 p.a2 (Xq (dx y.l))=Y'
section
variable {D:Nf} {w w' w2:Z'} {sb ga:Nat} {v:Int} {rt:Xj} {x:AV} {u:WW} {o:Option No} {B:BL} {R:List RK} {m:Option (List XA)} {k gp j:Nat} {L:BL} {q:No} {z:SV} {d:dI}
def Dj {p:ef} {sv:Bool} {err:Int} {y x':AV} {s':Yb} (h:wE f m v sv err0 ev0 y err ev x' s' v') (X:f≠ -1) (G:ur p j m v z) (hj:j<=100000) (I:Fit p y) (dy:List Int):
  ∃(m2 tmp:Option (List XA)) (v2:Int) (zr:SV),Dk.Fits 4 s'/\Dk.i' s'.fs s'.op dy=Xz m2 tmp/\Ck.mq tmp/\ur p (j+1) m2 v2 zr/\(zr=z\/sv=Y'/\zr=qN y):=by
 have hv0:=G.v0;have hb:=jn (o0:=y.o0) (o1:=y.o1) (o2:=y.o2) I.st;have F:=(Ck.lP (v:=v+1) (body:=jo y) o_ o_ (by rw [Dl];omega)).2.2.2;have key: ∀r:Nat,s'=Ck.ij (XC (v+1) (jo y)) m r->(r≠0->sv=Y')-> ∃(m2 tmp:Option (List XA)) (v2:Int) (zr:SV),Dk.Fits 4 s'/\Dk.i' s'.fs s'.op dy=Xz m2 tmp/\Ck.mq tmp/\ur p (j+1) m2 v2 zr/\(zr=z\/sv=Y'/\zr=qN y):=by
  intro r e hr;subst e;obtain ⟨tmp,V,U⟩:=Ck.Fg m F dy r;by_cases c:4<=r\/(r=3/\Ck.kept dy=Y')
  .refine ⟨_,tmp,v+1,qN y,Ck.oK (G.lim o_) F r,V,U,?_,.inr ⟨hr o_,rfl⟩⟩
   have e:Ck.qL (XC (v+1) (jo y)) m r dy=X_ (XC (v+1) (qN y).body):=if_pos c;rw [e];exact .some o_ o_ I.st I.each I.fit
  .refine ⟨_,tmp,v,z,Ck.oK (G.lim o_) F r,V,U,?_,.inl rfl⟩
   have e:Ck.qL (XC (v+1) (jo y)) m r dy=m:=if_neg c;rw [e];exact G.more o_
 rcases h with ⟨_,_,_,_,hs,_⟩|⟨_,c,_⟩|⟨O,r,_,_,_,_,_,hs,_⟩
 .exact key 0 hs (λc=>absurd rfl c)
 .exact absurd c X
 .exact key r hs (λ_=>O)
def Rj (h:Nq D w sb ga ⟨Xz m Y_,[]⟩ v rt x (P_ (X_ ⟨q.g,0,Y_⟩)) (X_ q) [] B R) (hB: ∀t∈B,t.2.1≠55) (hR: ∀t∈R,t.e≠55) (hl:Live D k x rt) (h8:k<=8000) (aN:x.r<1099511627776) (hv:0<=v/\v<4294967295) (hd:d.ok) (bK:dI.gG D.W D.W.heap.size d) (bL:d.gU<=1000000) (hD:JT D) (aU:ur D.p j m v z) (aW:j<=100000) (bJ:(∀z∈q.dy,XD z)/\q.n<=100000) (hk:1<=d.kd/\d.kd<=5) (r:Nat) (hq:min (max q.q 0) 4=(r:Int)) (aF: ∀err ev y rt' sv,kF d {x with eB:=r} rt err ev y rt' sv->Fit D.p y/\(sv=Z_->ev.length<=90000)):
  WX Xa 9 #[P_ (X_ ⟨D.gn,0,Y_⟩),A_ d.arr] w λe w'=> ∃(err0:Int) (ev0:List dX) (y:AV) (rt':Xj) (sv:Bool) (err:Int) (ev:List dX) (x1:AV) (s1:Yb) (v1:Int) (EA:Option WY) (ec:Nat) (A:Option WY) (pc:Nat) (m2:Option (List XA)) (v2:Int) (zr:SV) (x':AV) (ga' sb':Nat),kF d {x with eB:=r} rt err0 ev0 y rt' sv/\wE r m v sv err0 ev0 y err ev x1 s1 v1/\
   ur D.p (j+1) m2 v2 zr/\(zr=z\/sv=Y'/\zr=qN y)/\(∃TA tc SA sc PA pc,x'=uu D.p D.dD TA tc SA sc PA pc zr)/\
   e=R_ (A_ (kx err EA (ev.length+1) ec x' A pc))/\Nq D w' sb' ga' ⟨Xz m2 Y_,[]⟩ v2 rt' x' (P_ Y_) Y_ [] B (⟨58,12,A,x'.l.length,pc,dq.flat x'.l⟩::⟨55,4,EA,(ev.length+1),ec,XI (ev++([⟨16,⟨#[]⟩,0,zr.r⟩]:List dX))⟩::R):=by
 have bj:=Hd hl;have cc:=Hd h8;have cg:=Hd aN;have HV:=Hd hv;have HM:=Hd (aU.lim o_);have bT:r<=4:=o_;have HF:WZ (({x with eB:=r}:AV).eB= -1\/ ∃r2:Nat,r2<=4/\({x with eB:=r}:AV).eB=r2):= .inr ⟨r,bT,rfl⟩;have bR:=Hd hd;have ag:=Hd (Xl bK bL);have av:=Hd aF;have cf:=Hd hk;have HQ:=Hd hq;have aQ:=Hd hD;have ao:=Hd (Xl aU aW);have aP:=Hd bJ;have aS:=Hd (Xl hB hR);refine Ml ?_;intro g3 ac w0 U ar g4 ai;refine OO ?_;intro w1 F ah ap bi;refine OP ?_;intro H1 HA aa e6;clear ah ap ar;unfold XS at U;unfold iX at F;clear h hl hk h8 aN hv hd bK bL aF hB hR hD aU aW bJ hq bT;have y0:=c0 HA.o;have aL:=HA;unfold XS at aL;have aI:=aa;unfold XS at aI;unfold XS;go_enter func9,ntmps9;go_upto_region 1 with fail;rw [<-U,<-F,<-ac,<-ai];clear U F ac ai;go_wp2_with (refine wpList_load_row rfl _ _ rfl g3 rfl _ _ (0,0) _ aL.o underlying51 rfl k_ ?_)
 refine aI.o.mono ?_;rintro e w2 ⟨rfl,aT,aG,aO⟩;obtain ⟨gp,aE⟩:=nm (w1.heap.size);rw [<-aE] at aG aO |-;have H3:=Hd (H1.o.OQ aT [(gp+1,51,d.arr),(gp,29,#[P_ (X_ ⟨D.gn,0,Y_⟩)])] (λt ak=>by rcases p_ ak with rfl|ak;exact ⟨aO,by rw [aE];exact Nat.le_succ _⟩;rw [s_ ak];exact ⟨aG,by rw [aE];exact Xf _⟩));clear aa aI aL aT aG aO aE H1 HA bi y0;have n4:=c4 H3.o.nd;have f4:=H3.o.oD 4;obtain ⟨w3,ae⟩:=nm (w2.setCell ⟨D.gn,4,Y_⟩ (P_ Y_));have aR:WZ (Nq D w3 sb ga ⟨Xz m Y_,[]⟩ v rt x (P_ Y_) (X_ q) [(g4,39,iX)] ((gp+1,51,d.arr)::(gp,29,#[P_ (X_ ⟨D.gn,0,Y_⟩)])::(g3,51,d.arr)::B) R):=by rw [ae];exact H3.o.BO (λt ak=>by rw [s_ ak];exact (d_:(39:TypeId)≠74)) _
 clear H3;have hnp: ∀w,(binOp .neq 72 (P_ (X_ ⟨q.g,0,Y_⟩)) (P_ Y_)).run Xa w= .ok (B_ Y') w:=λw=>k_
 have hC:WZ (∃(ak:FuncId) (cap:Array WW),Ii d.kd gp= .func (.func ak) #[] cap/\(∀X,(callFunc ak cap).run Xa X= .ok (.enter ak cap) X)/\ ∀w5,Nq D w5 sb ga ⟨Xz m Y_,[]⟩ v rt ({x with eB:=r}:AV) (P_ Y_) (X_ q) [(g4,39,iX)] ((gp+1,51,d.arr)::(gp,29,#[P_ (X_ ⟨D.gn,0,Y_⟩)])::(g3,51,d.arr)::B) R->WX Xa ak cap w5 (sU D sb ga m v rt ({x with eB:=r}:AV) (P_ Y_) (X_ q) [(g4,39,iX)] ((gp+1,51,d.arr)::(gp,29,#[P_ (X_ ⟨D.gn,0,Y_⟩)])::(g3,51,d.arr)::B) R d)):=by
  have hk5:d.kd=1\/d.kd=2\/d.kd=3\/d.kd=4\/d.kd=5:=by have:=cf.o;omega
  rcases hk5 with hk|hk|hk|hk|hk
  .exact ⟨35,_,by rw [hk];rfl,λX=>by go_simp,λw5 I=>Bd gp (gp+1) D.gn ga d w5 _ ⟨(I.dr (n_ _ (m_ ..))).cell 0,I.nd.cell 3,I.dr (m_ ..)⟩ (λe w' hq=>lZ hq) (λX hX=>by obtain ⟨b',hN⟩:=I.below hX;have a5:=(I.below hX).base;exact Af hk hN bj.o.eB HV.o HM.o HF.o bR.o.dC)⟩
  .exact ⟨37,_,by rw [hk];rfl,λX=>by go_simp,λw5 I=>Be gp (gp+1) D.gn ga d w5 _ ⟨(I.dr (n_ _ (m_ ..))).cell 0,I.nd.cell 3,I.dr (m_ ..)⟩ (λe w' hq=>lZ hq) (λX hX=>by obtain ⟨b',hN⟩:=I.below hX;have a5:=(I.below hX).base;exact wF hk hN bj.o.eB HV.o HM.o HF.o)⟩
  .exact ⟨39,_,by rw [hk];rfl,λX=>by go_simp,λw5 I=>Bf gp D.gn ga w5 _ ((I.dr (n_ _ (m_ ..))).cell 0) (I.nd.cell 3) (λe w' hq=>(lZ hq).2) (by obtain ⟨b',hN⟩:=I;exact FM hk hN bj.o.eB cc.o cg.o HV.o HM.o HF.o)⟩
  .exact ⟨41,_,by rw [hk];rfl,λX=>by go_simp,λw5 I=>(Bg gp (gp+1) D.gn ga d w5 (λe w'=> ∃a,e=R_ a/\sU D sb ga m v rt ({x with eB:=r}:AV) (P_ Y_) (X_ q) [(g4,39,iX)] ((gp+1,51,d.arr)::(gp,29,#[P_ (X_ ⟨D.gn,0,Y_⟩)])::(g3,51,d.arr)::B) R d (R_ (U_ #[S_ Y_ 0 0,a])) w') ⟨(I.dr (n_ _ (m_ ..))).cell 0,I.nd.cell 3,I.dr (m_ ..)⟩ (λe w' hq=>by obtain ⟨a,e1,h1⟩:=hq;exact ⟨(lZ h1).1,a,e1⟩) (λX hX=>by obtain ⟨b',hN⟩:=I.below hX;have a5:=(I.below hX).base;exact wG hk hN bj.o.eB (ag.o.1.raw.below a5|>.more a5.size) bR.o.raw)).mono (λe w' hq=>by obtain ⟨a,⟨a2,e1,h1⟩,e2⟩:=hq;cases e1;rw [e2];exact h1)⟩
  .exact ⟨43,_,by rw [hk];rfl,λX=>by go_simp,λw5 I=>(Bh gp (gp+1) D.gn D.gw d w5 (λe w'=> ∃a,e=R_ a/\sU D sb ga m v rt ({x with eB:=r}:AV) (P_ Y_) (X_ q) [(g4,39,iX)] ((gp+1,51,d.arr)::(gp,29,#[P_ (X_ ⟨D.gn,0,Y_⟩)])::(g3,51,d.arr)::B) R d (R_ (U_ #[S_ Y_ 0 0,a])) w') ⟨(I.dr (n_ _ (m_ ..))).cell 0,I.nd.cell 2,I.dr (m_ ..)⟩ (λe w' hq=>by obtain ⟨a,e1,h1⟩:=hq;exact ⟨(Bi h1).1,a,e1⟩) (λX hX=>by obtain ⟨b',hN⟩:=I.below hX;have a5:=(I.below hX).base;exact FO hk hN bj.o.eB (ag.o.1.eD.below a5|>.more a5.size) ag.o.2)).mono (λe w' hq=>by obtain ⟨a,⟨a2,e1,h1⟩,e2⟩:=hq;cases e1;rw [e2];exact h1)⟩
 obtain ⟨ak,cap,aw,hF,hC⟩:=hC.o;have hC:=Hd hC;have hG:=Hd hF;clear hF;rw [aw];clear aw e6;have bd: ∀w,(binOp .eql 78 (.func (.func ak) #[] cap) .nilFunc).run Xa w= .ok (B_ Z_) w:=λw=>k_
 go_upto_region 10 with fail;rw [<-ae];clear ae n4 f4 bd;obtain ⟨wc,aK⟩:=nm (XO w3);have O:=Hd (aR.o.below (show Bw w3 wc from by rw [aK];exact b_.drew));have HS:=Hd (Xl O.o.nd O.o.VJ);obtain ⟨a9,an⟩: ∃b',NN D b' wc sb ga ⟨Xz m Y_,[]⟩ v rt x (P_ Y_) (X_ q) [(g4,39,iX)] ((gp+1,51,d.arr)::(gp,29,#[P_ (X_ ⟨D.gn,0,Y_⟩)])::(g3,51,d.arr)::B) R:=O.o;have au:=Hd (Rk an.sD q.q r HQ.o);have a6:=Hd an;clear an aR O;have co:WZ (∀wx,(WZ (Xn wx D.gn 74 (JE D ga (P_ Y_))/\Xn wx q.g 77 #[q.q,S_ q.A q.n q.c]))->(C wx D.gn 3 (P_ (X_ ⟨ga,0,Y_⟩)))/\(C wx q.g 0 q.q)):=λwx aY=>⟨aY.o.1.cell 3,aY.o.2.cell 0⟩
 refine dm.st co ?_;rw [<-aK];clear aK;refine dm.tf 1 HS (u_ 0 8) co ?_;refine dm.on 8 0 ?_;refine dm.cl ?_;refine au.o.mono ?_;rintro e w5 ⟨rfl,a7⟩;have I:=Hd (a6.o.back (s':=⟨Xz m Y_,[]⟩) (v':=v) a7);have aB:=Hd (Xl I.o.nd I.o.VJ);clear a7 au a6 HS;refine ⟨_,rfl,aB,?_⟩;refine dm.fi ?_;clear aB;have HO:=Hd (hC.o _ I.o);have hF:=hG.o;go_wp2_with fail;refine HO.o.mono ?_;clear hF;rintro e w6 ⟨err0,ev0,y,rt',sv,err,ev,x1,s1,v1,EA,ec,ha,hs,rfl,az⟩;obtain ⟨a4,aH⟩:=av.o _ _ _ _ _ ha;have V:wE r m v sv err0 ev0 y err ev x1 s1 v1:=hs;have aD:ev.length<=90000:=by rcases V with ⟨aX,_,rfl,_⟩|⟨_,br,_⟩|⟨_,_,_,_,_,rfl,_⟩;exact aH aX;omega;exact Xh _
 obtain ⟨m2,tmp,v2,zr,ay,bb,ba,G,aA⟩:=Dj V o_ ao.o.1 ao.o.2 a4 q.dy;have a1:zr.l.length<=64:=by cases G with|none=>exact Xh _|some _ _ hS _ _=>exact hS.len
 have a0:=Hd (Rl az (λt ak=>by rw [s_ ak];exact ⟨(d_:(39:TypeId)≠74),(d_:(39:TypeId)≠55)⟩) aQ.o ay o_ bb ba G (by have:=ao.o.2;omega) aP.o.1 aP.o.2 o_);have k1:=c1 az.VJ;have HX:=Hd (Xl ha (Xl V (Xl G (Xl aA (Xl aD a1)))));clear ha hs V az HO I a4 aH aD ay bb ba G aA a1;go_wp2_with fail;refine a0.o.mono ?_;rintro e w7 ⟨aV,aZ,x7,rfl,bc,aM⟩;obtain ⟨af,al,w8,hr,ab⟩:=bc.push ⟨16,⟨#[]⟩,0,zr.r⟩ (by have:=HX.o.2.2.2.2.1;omega) (λt ak=>by rcases p_ ak with rfl|ak;exact (d_:(51:TypeId)≠55);rcases p_ ak with rfl|ak;exact (d_:(29:TypeId)≠55);rcases p_ ak with rfl|ak;exact (d_:(51:TypeId)≠55);exact aS.o.1 t ak) aS.o.2;unfold dX.arr at hr;have ax:x7.l=zr.l:=by obtain ⟨_,_,_,_,_,_,rfl⟩:=aM;rfl
 have I:=Hd (kE ab (by rw [ax];have:=HX.o.2.2.2.2.2;omega));have H4:=Hd ab;have be:=Hd aM;clear bc ab aM ax a0 k1;go_wp2_with (at_builtin;refine Ro.dS rfl _ _ _ _ rfl _ _ rfl rfl hr ?_)
 clear hr;refine I.o.mono ?_;rintro e w9 hp;obtain ⟨A9,a8,rfl,am,aC⟩:=H4.o.told hp (err) af (ev.length+1) al;have aJ:=Hd aC;obtain ⟨z0,z1,z2,z3,z4,z5,z6,-⟩:=kA am;have zz:=am.frozen;clear hp am aC H4 I;go_wp2_with fail;refine bodyPost_ret (v:=A_ #[I_ J_ (err),S_ af (ev.length+1) al,x7.r,S_ A9 x7.l.length a8,x7.o0,x7.o1,x7.o2]) (by simp [results,results9,go_sem, *]) rfl ?_;exact ⟨err0,ev0,y,rt',sv,err,ev,x1,s1,v1,af,al,A9,a8,m2,v2,zr,x7,aV,aZ,HX.o.1,HX.o.2.1,HX.o.2.2.1,HX.o.2.2.2.1,be.o,rfl,(aJ.o.sub (λt ak=>n_ _ (n_ _ (n_ _ ak))) (λt ak=>ak)).Ij⟩
end
end Nd
end
section
namespace Nd
def Ok.tab {x:AV} (h:Ok x) (hs:eJ x.r l) (he: ∀e∈l,e.ok):Ok {x with PA:=A,pc:=c,l:=l,fr:=b}:=
 ⟨h.rf,h.cfg,h.tl,hs,he,h.zl,h.zs,h.c0,h.c1,h.c2,h.t,h.a0,h.a1,h.a2,h.us,h.ul,h.am⟩
def Ok.UR {x:AV} (h:Ok x) (hs:eJ x.r l) (he: ∀e∈l,e.ok):Ok {x with PA:=A,pc:=c,l:=l}:=
 ⟨h.rf,h.cfg,h.tl,hs,he,h.zl,h.zs,h.c0,h.c1,h.c2,h.t,h.a0,h.a1,h.a2,h.us,h.ul,h.am⟩
def mE {s:Xj} (h:eu k s) (hk:k<=k'):eu k' s:=⟨h.eN,h.up,by have:=h.lb;omega,by have:=h.li;omega⟩
section
variable {D:Nf} {k:Nat} {x y:AV} {rt rt':Xj} {d:dI} {err:Int} {ev:List dX} {sv:Bool}
def OZ {p:dz} {n:Int} (hp:p.ok) (h:1<=n/\n<=3):(⟨p,n⟩:dq).ok:=⟨hp,⟨by show (-9223372036854775808:Int)<=n;omega,by show n<=(9223372036854775807:Int);omega⟩⟩
def Dy {q kd s:Int} {outs:List ByteArray} {r:Int} (V:Live D k x rt) (h:pO x d.dC 0 kd s outs) (hk:kd=1\/kd=2) (hd:d.dC.ok):eJ x.r (ep (jR x.l outs) ⟨d.dC,1⟩)/\ ∀e∈ep (jR x.l outs) ⟨d.dC,1⟩,e.ok:=by
 have G:fw d.dC=Y'/\XG (eo x.l) d.dC.id=Z_/\x.l.length<64:=by
  rcases h with ⟨I,_⟩|⟨_,_,I,U,G,⟨X,_⟩|⟨X,_⟩⟩|⟨_,_,I,U,G,_⟩
  .exact absurd rfl I
  .omega
  .omega
  .exact ⟨I,U,G⟩
 have F:=ot outs x.l;refine ⟨mR (e:=⟨d.dC,1⟩) (pa outs x.l V.ok.st) (by unfold gC;rw [G.1];rfl) (qv F G.2.1) (by have:=F.length_le;omega),λe O=>?_⟩;rcases kL O with rfl|O
 .exact OZ hd d_
 .exact V.ok.each e (F.subset O)
def Dz {q:dq} (G:Live D k x rt) (O:q∈x.l):eJ x.r (ep x.l ⟨q.dC,3⟩)/\ ∀e∈ep x.l ⟨q.dC,3⟩,e.ok:=by
 obtain ⟨U,_⟩:=jA G.ok.st.gQ O;have F:=G.ok.st.each q O;refine ⟨lS (e:=⟨q.dC,3⟩) G.ok.st ?_ U,λe I=>?_⟩
 .unfold gC at F |-
  simp only [Xs,decide_eq_true_eq] at F |-;exact ⟨F.1,d_⟩
 .rcases kL I with rfl|I
  .exact OZ (G.ok.each q O).dC d_
  .exact G.ok.each e I
def DA (I:Live D k x rt) (hk:k<=8000) (hr:x.r<1099511627776) (h:jZ x rt ev rt' y):Live D (k+64) y rt':=by
 obtain ⟨xs,zs,b,F,e3,SA,sc,A,c,_,_,_,h3,rfl,_,rfl⟩:=h;have ho:=Bj (vg I.ok hr) SA sc;have V:eu k (qW x rt xs).1:=iI 4 (x.r+1) 13 xs _ (I.ju.TR (round:=x.r+1) (eE x.l));have ae:jc (qW x rt xs).1:=mw 4 (x.r+1) 13 xs _ (uD I.im (eE x.l));have U:=je zs (qW x rt xs) V;refine OR ?_;intro ac G hl3;have O:=uF F k _ G G.right.gQ o_;have X:eu (k+F.length) (Oq x (xX x rt xs zs F e3)).1:=iI 3 (x.r+1) 15 _ _ O.ju;have ab:jc (Oq x (xX x rt xs zs F e3)).1:=mw 3 (x.r+1) 15 _ _ O.im;exact ⟨ho.tab O.right O.ok,mE X o_,ab,I.dead⟩
def ox (F:Live D k x rt) (hk:k<=8000) (hr:x.r<1099511627776) (hd:d.ok) (h:kF d x rt err ev y rt' sv):Live D (k+64) y rt':=by
 have up: ∀{y:AV},Ok y->y.dead=x.dead->Live D (k+64) y rt:=λho O=>⟨ho,mE F.ju o_,F.im,O.trans F.dead⟩
 rcases h with ⟨_,rfl,⟨_,_,_,rfl,_⟩|⟨_,kd,s,_,_,_,rfl,_⟩|⟨_,kd,s,outs,G,I,_,⟨A,c,rfl⟩,_⟩⟩|⟨_,rfl,⟨_,_,_,rfl,_⟩|⟨q,G,_,⟨_,_,_,rfl,_⟩|⟨_,_,_,⟨A,c,rfl⟩,_⟩⟩⟩|⟨_,_,G,_⟩|⟨_,rfl,_,_,⟨_,_,rfl⟩|⟨_,G,I,A,c,us,V,X,rfl⟩⟩|⟨_,_,_,rfl,⟨_,_,rfl⟩|⟨G,_,rfl⟩⟩
 .exact up F.ok rfl
 .exact up F.ok rfl
 .obtain ⟨a,b⟩:=Dy (q:=0) (r:=0) F I G hd.dC
  exact up (F.ok.UR a b) rfl
 .exact up F.ok rfl
 .exact up F.ok rfl
 .obtain ⟨a,b⟩:=Dz F G
  exact up (F.ok.UR a b) rfl
 .exact DA F hk hr G
 .exact up F.ok rfl
 .have h:=F.ok
  have U:x.t<d.raw.time/\d.raw.time<=x.r:=by
   unfold Tw.ir at I;simp only [Bool.or_eq_false_iff,decide_eq_false_iff_not] at I;omega
  have ht:=h.t;refine up ⟨h.rf,h.cfg,h.tl,h.st,h.each,h.zl,h.zs,h.c0,h.c1,h.c2,⟨by show (-1:Int)<=d.raw.time;omega,U.2⟩,⟨Ya _,XZ _⟩,⟨Ya _,XZ _⟩,⟨Ya _,XZ _⟩,X,?_,λu hu=>?_⟩ rfl
  .have:=G.len
   have e:=V.length_eq;rw [XB] at e
   show us.length<=128
   omega
  .obtain ⟨z,_,rfl⟩:=Xd.1 (V.subset hu)
   exact ⟨⟨Ya _,XZ _⟩,⟨Ya _,XZ _⟩,⟨Ya _,XZ _⟩⟩
 .exact up F.ok rfl
 .exact ⟨F.ok,mE (F.ju.outs (o:=rt.outs++d.eD) (by rw [Xu];exact G)) o_,F.im,F.dead⟩
end
def rF (f:dz->Int) (l:List dz):Int:=l.foldr (λp s=>f p+s) 0
section
variable {f:dz->Int} {l l':List dz}
def h_ (p:dz) (l:List dz):rF f (p::l)=f p+rF f l:=rfl
def nj (h: ∀p∈l,0<=f p):0<=rF f l:=by
 induction l with
 |nil=>exact Xi 0
 |cons p l ih=>
  rw [h_];have h1:=h p (m_ ..);have h2:=ih λq F=>h q (n_ _ F)
  omega
def rG (h:l.Perm l'):rF f l=rF f l':=by
 induction h with
 |nil=>rfl
 |cons p _ ih=>rw [h_,h_,ih]
 |swap p q l=>rw [h_,h_,h_,h_];omega
 |trans _ _ ih1 ih2=>exact ih1.trans ih2
def vh (h:l'.Sublist l) (G: ∀p∈l,0<=f p):rF f l'<=rF f l:=by
 induction h with
 |slnil=>exact Xi _
 |cons p _ ih=>
  rw [h_];have h1:=G p (m_ ..);have I:=ih λq F=>G q (n_ _ F)
  omega
 |cons_cons p _ ih=>
  rw [h_,h_];have I:=ih λq F=>G q (n_ _ F)
  omega
end
def n0 (p:dz):Int:=Sat.num p.r0
def n1 (p:dz):Int:=Sat.num p.r1
def n2 (p:dz):Int:=Sat.num p.r2
def tB: ∀(l:List dz) (s:Int×Int×Int),0<=s.1->0<=s.2.1->0<=s.2.2->s=(Xc s.1,Xc s.2.1,Xc s.2.2)->l.foldl XW s=(Xc (s.1+rF n0 l),Xc (s.2.1+rF n1 l),Xc (s.2.2+rF n2 l))
 |[],s,h0,h1,h2,hs=>by simpa [rF] using hs
 |p::l,s,h0,h1,h2,hs=>by
  have a0:0<=n0 p:=Xg p.r0;have a1:0<=n1 p:=Xg p.r1;have a2:0<=n2 p:=Xg p.r2;have t0:0<=rF n0 l:=nj λp _=>Xg _
  have t1:0<=rF n1 l:=nj λp _=>Xg _
  have t2:0<=rF n2 l:=nj λp _=>Xg _
  have e1: ∀a b c:Int,0<=a->0<=b->0<=c->Xc (Xc (a+b)+c)=Xc (a+(b+c)):=by
   intro a b c _ _ _;unfold Xc
   (repeat' split)<;>omega
  have F: ∀a:Int,0<=a->0<=Xc a:=by
   intro a _;unfold Xc;split<;>omega
  have G: ∀a:Int,Xc (Xc a)=Xc a:=by
   intro a;unfold Xc
   (repeat' split)<;>omega
  show l.foldl XW (XW s p)=_
  have e:XW s p=(Xc (s.1+n0 p),Xc (s.2.1+n1 p),Xc (s.2.2+n2 p)):=by
   unfold XW Sat.add n0 n1 n2;rw [Sat.jP _ h0,Sat.jP _ h1,Sat.jP _ h2]
  rw [e,tB l _ (F _ o_) (F _ o_) (F _ o_) (by simp only [G])];simp only [h_];rw [e1 _ _ _ h0 a0 t0,e1 _ _ _ h1 a1 t1,e1 _ _ _ h2 a2 t2]
def Iv (l:List dz):Xq l=(Xc (rF n0 l),Xc (rF n1 l),Xc (rF n2 l)):=by
 have:=tB l (0,0,0) (Xi _) (Xi _) (Xi _) d_
 show l.foldl XW (0,0,0)=_
 simpa using this
def xm {l:List dz} (h:Xm g0 g1 g2 (Xq l)=Y') (O:rF n0 l'<=rF n0 l) (G:rF n1 l'<=rF n1 l) (I:rF n2 l'<=rF n2 l):Xm g0 g1 g2 (Xq l')=Y':=by
 rw [Iv] at h |-;have key: ∀a b g:Int,b<=a->Vi.jO (Xc a) g=Y'->Vi.jO (Xc b) g=Y':=by
  intro a b g hab F;unfold Vi.jO Xc at F |-;simp only [Xs,Bool.not_eq_true',beq_eq_false_iff_ne,decide_eq_true_eq] at F |-
  (repeat' split at F)<;>(repeat' split)<;>omega
 unfold Xm at h |-;simp only [Xs] at h |-;exact ⟨key _ _ _ O h.1,key _ _ _ G h.2.1,key _ _ _ I h.2.2⟩
def Ab {l:List dz} (h:Xm g0 g1 g2 (Xq l)=Y') (hs:l'.Sublist l):Xm g0 g1 g2 (Xq l')=Y':=
 xm h (vh hs λp _=>Xg _) (vh hs λp _=>Xg _) (vh hs λp _=>Xg _)
def wQ {l:List dz} (h:Xm g0 g1 g2 (Xq l)=Y') (hs:l'.Perm l):Xm g0 g1 g2 (Xq l')=Y':=
 xm h (by rw [rG hs];exact Xi _) (by rw [rG hs];exact Xi _) (by rw [rG hs];exact Xi _)
section
variable {k:Nat} {r:Int} {todo:List dq} {s:PS} {e:dq}
def Iq (h:PI k r (e::todo) s):(dx (jD r s e).2.1).Sublist (dx s.2.1):=by
 have G:=h.todo e (m_ ..);have I: ∀n:Int,dx (ep s.2.1 ⟨e.dC,n⟩)=dx s.2.1:=λn=>kJ h.right.gQ G rfl
 have F:(dx (my s.2.1 e.dC.id)).Sublist (dx s.2.1):=oT.map _;unfold jD;split
 .unfold uE
  split
  .split
   .exact Xe _
   .exact F
  .exact F
 split
 .rw [I];exact Xe _
 split
 .exact Xe _
 split
 .exact Xe _
 split
 .exact Xe _
 split
 .exact Xe _
 split
 .exact F
 .exact Xe _
end
def xe: ∀(l:List dq) (k:Nat) (s:PS),PI k r l s->du.dY (eo l)->k+l.length<=90000->(dx (iH r s l).2.1).Sublist (dx s.2.1)
 |[],k,s,_,_,_=>Xe _
 |e::l,k,s,h,hr,hk=>by
  have hr':(e.dC.id::eo l).Pairwise λa b=>du.cmp a b<0:=hr
  obtain ⟨h1,h2⟩:=XH.1 hr';simp only [Xr] at hk;have hst:=h.step o_ λq hq c=>by
   exact FT
  exact (xe l (k+1) (jD r s e) hst h2 o_).trans (Iq h)
section
variable {D:Nf} {k:Nat} {x y:AV} {rt rt':Xj} {d:dI} {err:Int} {ev:List dX} {sv:Bool}
def rC {us:List et} {p:Nat->Bool} (h:oU l us p F G) (O:du.dY (eo l)):dx F=dx l:=by
 rcases h with ⟨rfl,_,_⟩|⟨_,j,e,_,_,I,_,_,rfl,_⟩
 .rfl
 .exact kJ O I rfl
def Cm (I:Live D k x rt) (hk:k<=8000) (hr:x.r<1099511627776) (h:jZ x rt ev rt' y):(dx y.l).Sublist (dx x.l)/\y.p=x.p/\y.r=x.r+1:=by
 obtain ⟨xs,zs,b,F,e3,SA,sc,A,c,_,_,_,h3,rfl,_,rfl⟩:=h;have ho:=Bj (vg I.ok hr) SA sc;have U:eu k (qW x rt xs).1:=iI 4 (x.r+1) 13 xs _ (I.ju.TR (round:=x.r+1) (eE x.l));have X:jc (qW x rt xs).1:=mw 4 (x.r+1) 13 xs _ (uD I.im (eE x.l));have O:=je zs (qW x rt xs) U;have V:=oa zs (qW x rt xs) X;have G:PI k (x.r+1) F ((fM (qW x rt xs) zs).1,F,(fM (qW x rt xs) zs).2++e3):=rD (x:=K_ (rX x) SA sc) h3 ho O V;have hl3:F.length<=64:=G.right.len;have hs:=xe F k _ G G.right.gQ o_;refine ⟨?_,rfl,rfl⟩;have e:dx F=dx x.l:=rC h3 I.ok.st.gQ;rw [<-e];exact hs
end
def jT {g0 g1 g2:Int}: ∀(ys:List dz) (s:List dz×List ByteArray),∃kept dropped:List dz,ys.foldl (Tw.fN g0 g1 g2) s=(s.1++kept,s.2++dropped.map dz.id)/\(kept++dropped).Perm ys/\(Xm g0 g1 g2 (Xq s.1)=Y'->Xm g0 g1 g2 (Xq (s.1++kept))=Y')
 |[],s=>⟨[],[],by simp,List.Perm.refl _,λh=>by simpa using h⟩
 |v::ys,s=>by
  rw [List.foldl_cons];by_cases h:Xm g0 g1 g2 (Xq (s.1++[v]))=Y'
  .rw [show Tw.fN g0 g1 g2 s v=(s.1++[v],s.2) from if_pos h]
   obtain ⟨kept,dropped,h1,h2,h3⟩:=jT (g0:=g0) (g1:=g1) (g2:=g2) ys (s.1++[v],s.2);exact ⟨v::kept,dropped,by rw [h1];simp,by simpa using h2,λ_=>by have:=h3 h;simpa using this⟩
  .rw [show Tw.fN g0 g1 g2 s v=(s.1,s.2++[v.id]) from if_neg h]
   obtain ⟨kept,dropped,h1,h2,h3⟩:=jT (g0:=g0) (g1:=g1) (g2:=g2) ys (s.1,s.2++[v.id]);exact ⟨kept,v::dropped,by rw [h1];simp,(List.perm_middle).trans (h2.cons v),h3⟩
open Classical in
theorem rv {r:Int}: ∀(outs:List ByteArray) (l:List dq),eJ r l->jR l outs=l.filter λe=>decide (e.dC.id∉outs)
 |[],l,_=>by
  show l=l.filter _
  exact (List.filter_eq_self.2 λe _=>decide_eq_true y_).symm
 |s::outs,l,h=>by
  show jR (my l s) outs=_
  rw [rv outs _ (oc h),Cu h.gQ,List.filter_filter];apply List.filter_congr;intro e _;have h1:TV s e=decide (e.dC.id≠s):=by
   cases hb:TV s e
   .exact (decide_eq_false λc=>by rw [mA.2 c] at hb;cases hb).symm
   .exact (decide_eq_true (mA.1 hb)).symm
  rw [h1,<-Bool.decide_and];exact decide_eq_decide.2 (by rw [List.mem_cons,not_or];exact And.comm)
def uT {e:dq} (F:XG (eo l) e.dC.id=Z_):(dx (ep l e)).Perm (e.dC::dx l):=by
 rw [uJ F];generalize du.pos (eo l) e.dC.id=P;unfold dx;rw [Xk,XF];refine List.perm_middle.trans (List.Perm.cons _ ?_);rw [<-Xk,List.take_append_drop]
section
variable {D:Nf} {k:Nat} {x y:AV} {rt rt':Xj} {d:dI} {err:Int} {ev:List dX} {sv:Bool}
open Classical in
theorem KI {kd s:Int} {outs:List ByteArray} (hl:Live D k x rt) (h:pO x d.dC 0 kd s outs) (hk:kd=1\/kd=2):Xm x.p.a0 x.p.a1 x.p.a2 (Xq (dx (ep (jR x.l outs) ⟨d.dC,1⟩)))=Y':=by
 rcases h with ⟨h1,_⟩|⟨_,_,h1,h2,h3,⟨h4,_⟩|⟨h4,_⟩⟩|⟨_,_,h1,h2,h3,_,hf,ys,hy,_,ho⟩
 .exact absurd rfl h1
 .omega
 .omega
 obtain ⟨kept,dropped,h4,h5,h6⟩:=jT (g0:=x.p.a0) (g1:=x.p.a1) (g2:=x.p.a2) ys (XL d.dC (dx x.l),[]);have h7:=h6 hf;have ho2:outs.Perm (dropped.map dz.id):=by
  have:(Tw.fp x.p.a0 x.p.a1 x.p.a2 (XL d.dC (dx x.l)) ys).2=dropped.map dz.id:=by
   unfold Tw.fp;rw [h4];simp
  rw [<-this];exact ho
 have hp:(dx (ep (jR x.l outs) ⟨d.dC,1⟩)).Perm (d.dC::dx (jR x.l outs)):=uT (qv (ot outs x.l) h2);refine wQ ?_ hp;have hfl:dx (jR x.l outs)=(dx x.l).filter λp=>decide (p.id∉outs):=by
  rw [rv outs x.l hl.ok.st];unfold dx;rw [List.filter_map];rfl
 rw [hfl];have hpart:(dx x.l).Perm (((dx x.l).filter λv=> !XX d.dC v)++kept++dropped):=by
  have h8:((dx x.l).filter (XX d.dC)++(dx x.l).filter λv=> !XX d.dC v).Perm (dx x.l):=List.filter_append_perm _ _;refine h8.symm.trans ?_;refine ((hy.symm.trans h5.symm).append_right _).trans ?_;rw [Xv _ kept dropped];exact List.perm_append_comm
 have hd0:dropped.filter (λp=>decide (p.id∉outs))=[]:=by
  rw [List.filter_eq_nil_iff];intro p hp;have:p.id∈outs:=ho2.symm.subset (Xd.2 ⟨p,hp,rfl⟩);simpa using this
 have hq:=(hpart.filter λp=>decide (p.id∉outs));rw [List.filter_append,hd0,Xt] at hq;refine wQ (l:=d.dC::(((dx x.l).filter λv=> !XX d.dC v)++kept).filter λp=>decide (p.id∉outs)) ?_ (hq.cons _);refine Ab h7 ?_
 show (d.dC::_).Sublist (XL d.dC (dx x.l)++kept)
 unfold XL;exact (List.filter_sublist).cons_cons _
end
def wq (x:AV):Prop:=Xm x.p.a0 x.p.a1 x.p.a2 (Xq (dx x.l))=Y'
section
variable {D:Nf} {k:Nat} {x y:AV} {rt rt':Xj} {d:dI} {err:Int} {ev:List dX} {sv:Bool}
def sS {p:Prop} (h:p:=by
 exact ⟨F,rfl,rfl,.inl rfl,λ_=>d_⟩):p:=h
def uB (I:Live D k x rt) (V:k<=8000) (U:x.r<1099511627776) (F:wq x) (h:kF d x rt err ev y rt' sv):wq y/\y.p=x.p/\y.eB=x.eB/\(y.r=x.r\/y.r=x.r+1)/\(sv=Z_->ev.length<=1):=by
 rcases h with ⟨_,rfl,⟨_,_,rfl,rfl,_⟩|⟨_,kd,s,_,_,rfl,rfl,_⟩|⟨_,kd,s,outs,G,O,_,⟨A,c,rfl⟩,rfl⟩⟩|⟨_,rfl,⟨_,_,rfl,rfl,_⟩|⟨q,G,_,⟨_,_,rfl,rfl,_⟩|⟨_,_,_,⟨A,c,rfl⟩,rfl⟩⟩⟩|⟨_,_,G,rfl⟩|⟨_,rfl,rfl,_,⟨_,_,rfl⟩|⟨_,G,O,A,c,us,h3,h4,rfl⟩⟩|⟨_,rfl,_,rfl,_⟩
 .exact sS
 .exact ⟨F,rfl,rfl,.inl rfl,λ_=>Xf _⟩
 .exact ⟨KI I O G,rfl,rfl,.inl rfl,λc=>by cases c⟩
 .exact sS
 .exact sS
 .refine ⟨?_,rfl,rfl,.inl rfl,λc=>by cases c⟩
  have e:dx (ep x.l ⟨q.dC,3⟩)=dx x.l:=kJ I.ok.st.gQ G rfl
  show Xm x.p.a0 x.p.a1 x.p.a2 (Xq (dx (ep x.l ⟨q.dC,3⟩)))=Y'
  rw [e];exact F
 .obtain ⟨a,b,c⟩:=Cm I V U G
  refine ⟨?_,b,sT G,.inr c,λc=>by cases c⟩;unfold wq;rw [b];exact Ab F a
 .exact sS
 .exact sS
 .exact sS
end
structure Inv (D:Nf) (j:Nat) (x:AV) (rt:Xj) (m:Option (List XA)) (v:Int) (z:SV) (u:WW) (o:Option No):Prop where
 live:Live D (64*j) x rt
 p: ∃A n c,x.p=rW D.p A n c
 dD:x.dD=D.dD
 eB:x.eB= -1
 fit:wq x
 Qe:ur D.p j m v z
 r:x.r<=j
 zr:z.r<=j
 note:(o=Y_/\u=P_ Y_)\/ ∃q,o=X_ q/\u=P_ (X_ ⟨q.g,0,Y_⟩)/\(∀z∈q.dy,XD z)/\q.n<=100000
section
variable {D:Nf} {j:Nat} {x y:AV} {rt rt':Xj} {d:dI} {err:Int} {ev:List dX} {sv:Bool} {m:Option (List XA)} {v:Int} {z:SV} {u:WW} {o:Option No}
def TL {y:AV} (F: ∃A n c,y.p=rW D.p A n c):wq y↔Xm D.p.a0 D.p.a1 D.p.a2 (Xq (dx y.l))=Y':=by
 obtain ⟨A,n,c,e⟩:=F;unfold wq;rw [e];rfl
def Tg (D:Nf) (d:dI) (x:AV) (rt:Xj) (z:SV) (o:Option No) (err:Int) (ev:List dX) (x':AV) (rt':Xj) (z':SV) (o':Option No):Prop:=
 (d.kd=6/\err=0/\ev=[]/\x'=x/\rt'=rt/\z'=z/\ ∃q,o'=X_ q/\q.q=d.steps/\q.dy=d.dy)\/
 ((d.kd<1\/6<d.kd)/\err=1/\ev=[]/\x'=x/\rt'=rt/\z'=z/\o'=o)\/
 ((1<=d.kd/\d.kd<=5)/\o=Y_/\o'=Y_/\ ∃sv,kF d x rt err ev x' rt' sv/\z'=if sv then qN x' else z)\/
 ((1<=d.kd/\d.kd<=5)/\o'=Y_/\ ∃(q:No) (r:Nat) (err0:Int) (ev0:List dX) (y:AV) (sv:Bool),o=X_ q/\min (max q.q 0) 4=(r:Int)/\kF d {x with eB:=r} rt err0 ev0 y rt' sv/\err=(if sv then 7 else err0)/\ev=(if sv then [] else ev0)++[⟨16,⟨#[]⟩,0,z'.r⟩]/\(z'=z\/sv=Y'/\z'=qN y)/\ ∃TA tc SA sc PA pc,x'=uu D.p D.dD TA tc SA sc PA pc z')
end
section
variable {D:Nf} {j:Nat} {x y x':AV} {rt rt':Xj} {d:dI} {err err0:Int} {ev ev0:List dX} {sv:Bool} {m:Option (List XA)} {v v':Int} {z:SV} {u:WW} {o:Option No} {s':Yb}
def It (h:wE x.eB m v sv err0 ev0 y err ev x' s' v') (hf:x.eB= -1):err=err0/\ev=ev0/\x'=y/\ ∃I,s'=⟨Xz I Y_,[]⟩/\((sv=Z_/\I=m/\v'=v)\/(sv=Y'/\I=X_ (XC (v+1) (qN y).body)/\v'=v+1)):=by
 rcases h with ⟨G,F,X,O,V,U⟩|⟨G,_,F,X,O,V,U⟩|⟨_,r,_,F,_⟩
 .exact ⟨F,X,O,m,V,.inl ⟨G,rfl,U⟩⟩
 .exact ⟨F,X,O,_,V,.inr ⟨G,rfl,U⟩⟩
 .omega
def Iu (F:Inv D j x rt m v z u o) (hj:j<=100) (hd:d.ok) (V:kF d x rt err ev y rt' sv) {U:Option (List XA)} (hm:(sv=Z_/\U=m/\v'=v)\/(sv=Y'/\U=X_ (XC (v+1) (qN y).body)/\v'=v+1)):
  Inv D (j+1) y rt' U v' (if sv then qN y else z) (P_ Y_) Y_:=by
 have hr:=F.r;have G:=ox F.live o_ o_ hd V;obtain ⟨X,h2,h3,h4,_⟩:=uB F.live o_ o_ F.fit V;have hp: ∃A n c,y.p=rW D.p A n c:=by rw [h2];exact F.p
 have O:y.dD=D.dD:=by
  rw [<-F.dD];rcases V with ⟨_,_,⟨_,_,_,rfl,_⟩|⟨_,_,_,_,_,_,rfl,_⟩|⟨_,_,_,_,_,_,_,⟨_,_,rfl⟩,_⟩⟩|⟨_,_,⟨_,_,_,rfl,_⟩|⟨_,_,_,⟨_,_,_,rfl,_⟩|⟨_,_,_,⟨_,_,rfl⟩,_⟩⟩⟩|⟨_,_,⟨_,_,_,_,_,_,_,_,_,_,_,_,_,_,_,rfl⟩,_⟩|⟨_,_,_,_,⟨_,_,rfl⟩|⟨_,_,_,_,_,_,_,_,rfl⟩⟩|⟨_,_,_,rfl,_⟩<;>rfl
 have I:y.r<=(j+1:Nat):=by rcases h4 with e|e<;>omega
 have hv:=F.Qe.v0;have hzr:=F.zr;refine ⟨⟨G.ok,G.ju,G.im,G.dead⟩,hp,O,h3.trans F.eB,X,?_,I,?_,.inl ⟨rfl,rfl⟩⟩
 .rcases hm with ⟨rfl,rfl,rfl⟩|⟨rfl,rfl,rfl⟩
  .exact F.Qe.more o_
  .exact .some o_ o_ G.ok.st G.ok.each ((TL hp).1 X)
 .rcases hm with ⟨rfl,_,_⟩|⟨rfl,_,_⟩
  .show z.r<=_
   omega
  .exact I
end
section
variable {D:Nf} {w:Z'} {j sb ga:Nat} {x y x':AV} {rt rt':Xj} {d:dI} {err err0:Int} {ev ev0:List dX} {sv:Bool} {m m2:Option (List XA)} {v v2:Int} {z zr:SV} {u:WW} {o:Option No} {s:Yb} {B L:BL} {R:List RK} {q:No} {r:Nat}
def xj (hf:wq x):wq {x with eB:=(r:Int)}:=hf
def Dv (G:Inv D j x rt m v z u o) (hj:j<=100) (I:JT D) (hd:d.ok) (ha:kF d {x with eB:=r} rt err0 ev0 y rt' sv) (hs:ur D.p (j+1) m2 v2 zr) (hz:zr=z\/sv=Y'/\zr=qN y) (hx: ∃TA tc SA sc PA pc,x'=uu D.p D.dD TA tc SA sc PA pc zr)
  (h:Nq D w sb ga s v2 rt' x' (P_ Y_) Y_ L B R):Inv D (j+1) x' rt' m2 v2 zr (P_ Y_) Y_:=by
 obtain ⟨TA,tc,SA,sc,PA,pc,rfl⟩:=hx;have hr:=G.r;have hzr:=G.zr;have X:=ox (G.live.eB (f:=r)) o_ (by show x.r<_;omega) hd ha;obtain ⟨_,_,_,h4,_⟩:=uB (G.live.eB (f:=r)) o_ (by show x.r<_;omega) (xj G.fit) ha;have h4':y.r=x.r\/y.r=x.r+1:=h4;obtain ⟨W0,B0,U⟩:=I.ok;have F:eJ zr.r zr.l/\(∀e∈zr.l,e.ok)/\Xm D.p.a0 D.p.a1 D.p.a2 (Xq (dx zr.l))=Y':=by
  cases hs with
  |none=>exact ⟨⟨Xi _,d_,Xh _,λ_ h=>(by cases h),XK⟩,λ_ h=>(by cases h),by
   have a0:=I.rf.a0;have a1:=I.rf.a1;have a2:=I.rf.a2
   show Xm D.p.a0 D.p.a1 D.p.a2 (0,0,0)=Y'
   unfold Xm Vi.jO;simp [a0,a1,a2]⟩
  |some _ _ h1 h2 h3=>exact ⟨h1,h2,h3⟩
 obtain ⟨b',hN⟩:=h;have V:=hN.n.ag.qy.row.le;have ho:=Fj (TA:=TA) (tc:=tc) (SA:=SA) (sc:=sc) (PA:=PA) (pc:=pc) I.rf U V F.1 F.2.1;have O:zr.r<=(j+1:Nat):=by
  rcases hz with rfl|⟨_,rfl⟩
  .omega
  .show y.r<=_
   omega
 exact ⟨⟨ho,X.ju,X.im,rfl⟩,⟨TA,D.dD.length,tc,rfl⟩,rfl,rfl,F.2.2,hs,O,O,.inl ⟨rfl,rfl⟩⟩
end
section
variable {D:Nf} {w:Z'} {j sb ga:Nat} {x:AV} {rt:Xj} {d:dI} {m:Option (List XA)} {v:Int} {z:SV} {u:WW} {o:Option No} {B:BL} {R:List RK}
def Wx (D:Nf) (j:Nat) (d:dI) (x:AV) (rt:Xj) (z:SV) (o:Option No) (B:BL) (R:List RK) (e:Ending) (w':Z'):Prop:=
 ∃(err:Int) (ev:List dX) (x':AV) (rt':Xj) (m':Option (List XA)) (v':Int) (z':SV) (u':WW) (o':Option No) (sb' ga':Nat) (EA:Option WY) (ec:Nat) (A:Option WY) (pc:Nat),
  Tg D d x rt z o err ev x' rt' z' o'/\Inv D (j+1) x' rt' m' v' z' u' o'/\e=R_ (A_ (kx err EA ev.length ec x' A pc))/\
  Nq D w' sb' ga' ⟨Xz m' Y_,[]⟩ v' rt' x' u' o' [] B (⟨58,12,A,x'.l.length,pc,dq.flat x'.l⟩::⟨55,4,EA,ev.length,ec,XI ev⟩::R)
def Inv.next (hI:Inv D j x rt m v z u o) (u':WW) (o':Option No) (hn:(o'=Y_/\u'=P_ Y_)\/ ∃q,o'=X_ q/\u'=P_ (X_ ⟨q.g,0,Y_⟩)/\(∀z∈q.dy,XD z)/\q.n<=100000):Inv D (j+1) x rt m v z u' o':=
 ⟨⟨hI.live.ok,mE hI.live.ju o_,hI.live.im,hI.live.dead⟩,hI.p,hI.dD,hI.eB,hI.fit,hI.Qe.more o_,by have:=hI.r;omega,by have:=hI.zr;omega,hn⟩
structure BN (D:Nf) (d:dI):Prop where
 ok:d.ok
 gG:dI.gG D.W D.W.heap.size d
 eD:d.gU<=1000000
 dy:d.gN<=100000
def Nq.UK {s:Yb} {t:RK} (h:Nq D w sb ga s v rt x u o [] B (t::R)):Nq D w sb ga s v rt x u o [] B (t::⟨e,k,Y_,0,0,[]⟩::R):=
 (h.kt (e:=e) (k:=k) b_ Ro.Row.nil λ_ h=>(by cases h)).sub (λ_ h=>h) λq hq=>by
  rcases p_ hq with rfl|hq
  .exact n_ _ (m_ ..)
  .rcases p_ hq with rfl|hq
   .exact m_ ..
   .exact n_ _ (n_ _ hq)
def nA (F:Inv D j x rt m v z u Y_) (U:j<=100) (h:Nq D w sb ga ⟨Xz m Y_,[]⟩ v rt x u Y_ [] B R) (G:BN D d) (O:1<=d.kd/\d.kd<=5):
  WX Xa 9 #[P_ (X_ ⟨D.gn,0,Y_⟩),A_ d.arr] w (Wx D j d x rt z Y_ B R):=by
 have hl:x.l.length<=64:=F.live.ok.st.len;have hr:=F.r;have hv:=F.Qe.v0;obtain rfl:u=P_ Y_:=by
  rcases F.note with ⟨_,h⟩|⟨q,h,_⟩
  .exact h
  .cases h
 refine (Rt h F.live o_ o_ ⟨hv.1,o_⟩ (F.Qe.lim o_) G.ok G.gG G.eD O F.eB λerr ev y rt' sv I=>?_).mono ?_
 .have:=(ox F.live o_ o_ G.ok I).ok.st.len
  omega
 .rintro e w' ⟨err0,ev0,y,rt',sv,err,ev,x',s',v',EA,ec,A,pc,I,hs,e1,hq⟩
  obtain ⟨rfl,rfl,rfl,V,rfl,X⟩:=It hs F.eB;exact ⟨_,_,_,_,V,v',_,_,_,sb,ga,EA,ec,A,pc,.inr (.inr (.inl ⟨O,rfl,rfl,sv,I,rfl⟩)),Iu F U G.ok I X,e1,hq⟩
def yd (F:Inv D j x rt m v z u o) (hj:j<=100) (hD:JT D) (h:Nq D w sb ga ⟨Xz m Y_,[]⟩ v rt x u o [] B R) (hB: ∀t∈B,t.2.1≠55) (hR: ∀t∈R,t.e≠55) (G:BN D d):
  WX Xa 9 #[P_ (X_ ⟨D.gn,0,Y_⟩),A_ d.arr] w (Wx D j d x rt z o B R):=by
 have hl:x.l.length<=64:=F.live.ok.st.len;have hr:=F.r;have hv:=F.Qe.v0;have hb:=h.base;by_cases h6:d.kd=6
 .refine (UL h o_ h6 ((G.gG.dy.below hb).more hb.size) (by have:=G.dy;omega)).mono ?_
  rintro e w' ⟨q,A,pc,V,e2,e3,e4,U⟩;refine ⟨0,[],x,rt,m,v,z,_,_,sb,ga,Y_,0,A,pc,.inl ⟨h6,rfl,rfl,rfl,rfl,rfl,q,rfl,e2,e3⟩,F.next _ _ (.inr ⟨q,rfl,rfl,by rw [e3];exact G.ok.dy.2.2.2,by rw [e4];exact G.dy⟩),V,?_⟩;exact U.UK
 by_cases h0:d.kd<1\/6<d.kd
 .refine (UM h o_ h0).mono ?_
  rintro e w' ⟨A,pc,V,U⟩;exact ⟨1,[],x,rt,m,v,z,u,o,sb,ga,Y_,0,A,pc,.inr (.inl ⟨h0,rfl,rfl,rfl,rfl,rfl,rfl⟩),F.next _ _ F.note,V,U.UK⟩
 have hk:1<=d.kd/\d.kd<=5:=o_;rcases F.note with ⟨rfl,rfl⟩|⟨q,rfl,rfl,ae,ai⟩
 .exact nA F hj h G hk
 .obtain ⟨r,ab⟩: ∃r:Nat,min (max q.q 0) 4=(r:Int):=⟨(min (max q.q 0) 4).toNat,o_⟩
  refine (Rj h hB hR F.live o_ o_ ⟨hv.1,o_⟩ G.ok G.gG G.eD hD F.Qe o_ ⟨ae,ai⟩ hk r ab λerr ev y rt' sv ha=>?_).mono ?_
  .have h1:=ox (F.live.eB (f:=r)) o_ (by show x.r<_;omega) G.ok ha
   obtain ⟨O,X,_,_,h4⟩:=uB (F.live.eB (f:=r)) o_ (by show x.r<_;omega) (xj F.fit) ha;have hp: ∃A n c,y.p=rW D.p A n c:=by rw [X];exact F.p
   exact ⟨⟨h1.ok.st,h1.ok.each,(TL hp).1 O⟩,λc=>Xp (h4 c) d_⟩
  .rintro e w' ⟨err0,ev0,y,rt',sv,err,ev,x1,s1,v1,EA,ec,A,pc,m2,v2,zr,x',ga',sb',ha,hs,hz,aa,hx,V,U⟩
   have af:=Dv F hj hD G.ok ha hz aa hx U;have he:err=(if sv then 7 else err0)/\ev=if sv then [] else ev0:=by
    rcases hs with ⟨rfl,O,X,_⟩|⟨_,O,_⟩|⟨rfl,r2,_,_,O,X,_⟩
    .exact ⟨O,X⟩
    .omega
    .exact ⟨O,X⟩
   obtain ⟨ah,ak⟩:=he;have I:(ev++[(⟨16,⟨#[]⟩,0,zr.r⟩:dX)]).length=ev.length+1:=by simp
   refine ⟨err,ev++[⟨16,⟨#[]⟩,0,zr.r⟩],x',rt',m2,v2,zr,_,_,sb',ga',EA,ec,A,pc,.inr (.inr (.inr ⟨hk,rfl,q,r,err0,ev0,y,sv,rfl,ab,ha,ah,by rw [ak],aa,hx⟩)),af,?_,?_⟩
   .rw [I];exact V
   .rw [I];exact U
end
def join_le: ∀ws:List (List UInt8),(∀w∈ws,w.length<=60)->(XT ws).length<=61*ws.length
 |[],_=>Xf _
 |[w],h=>by
  have:=h w (m_ ..)
  show w.length<=61*1
  omega
 |w::w2::ws,h=>by
  have h1:=h w (m_ ..);have h2:=join_le (w2::ws) λu hu=>h u (n_ _ hu)
  show (w++32::XT (w2::ws)).length<=_
  simp only [Xu,Xr] at h2 |-;omega
def BH: ∀ls:List (List UInt8),(∀x∈ls,x.length<=300)->(Tp.gK ls).length<=301*ls.length
 |[],_=>Xf _
 |x::ls,h=>by
  have h1:=h x (m_ ..);have h2:=BH ls λu hu=>h u (n_ _ hu)
  show ((x++[10])++Tp.gK ls).length<=_
  simp only [Xu,Xr,List.length_nil] at h2 |-;omega
section
variable {p:ef} {dD:List dA} {W0:Z'} {B0:Nat}
def vd (hR:XV p dD) (I:p.ok W0 B0 dD):(jh p dD).text.length<=65536:=by
 have q: ∀{n:Int},dA.ia n->n.toNat<=9223372036854775807:=λ{n} h=>by
  have h': -9223372036854775808<=n/\n<=9223372036854775807:=h;omega
 have hT:dD.length<=12:=by have:=hR.rc.n;have:=I.len;omega
 have G: ∀{n:Nat},n<=9223372036854775807->(Tp.dR n).length<=60:=λh=>Xp (gh h) d_
 have w3: ∀(a:List UInt8) (x y z:Nat),a.length<=60->x<=9223372036854775807->y<=9223372036854775807->z<=9223372036854775807->(XT (a::[x,y,z].map Tp.dR)).length<=300:=λa x y z ha U hy hz=>by
  refine Xp (join_le _ λw O=>?_) (by simp:61*(a::[x,y,z].map Tp.dR).length<=300);rcases p_ O with rfl|O
  .exact ha
  obtain ⟨n,hn,rfl⟩:=Xd.1 O;rcases p_ hn with rfl|hn
  .exact G U
  rcases p_ hn with rfl|hn
  .exact G hy
  rcases p_ hn with rfl|hn
  .exact G hz
  .cases hn
 have w2: ∀(a b:List UInt8),a.length<=60->b.length<=60->(XT [a,b]).length<=300:=λa b ha hb=>by
  refine Xp (join_le _ λw O=>?_) (d_:61*2<=300);rcases p_ O with rfl|O
  .exact ha
  .rw [s_ O];exact hb
 have hl:(jh p dD).lines.length=6+dD.length:=by
  unfold Tp.Cf.lines jh;simp;omega
 refine Xp (BH _ λx U=>?_) (by rw [XB,hl];omega);obtain ⟨ws,F,rfl⟩:=Xd.1 U;unfold Tp.Cf.lines jh at F
 dsimp only at F
 rcases Xb.1 F with F|F
 .rcases p_ F with rfl|F
  .exact w3 _ _ _ _ d_ (q I.c0) (q I.c1) (q I.c2)
  rcases p_ F with rfl|F
  .exact w3 _ _ _ _ d_ (q I.a0) (q I.a1) (q I.a2)
  obtain ⟨t,ht,rfl⟩:=Xd.1 F;obtain ⟨t',V,rfl⟩:=Xd.1 ht;have X:=I.each t' V;exact w2 _ _ d_ (sG (q X.jx) (q X.mN) (q X.jm))
 .rcases p_ F with rfl|F
  .exact w2 _ _ d_ (G (q I.fg))
  rcases p_ F with rfl|F
  .exact w2 _ _ d_ (G (q I.ret))
  rcases p_ F with rfl|F
  .exact w2 _ _ d_ (G (q I.fE))
  rcases p_ F with rfl|F
  .exact w2 _ _ d_ (G (q I.dead))
  .cases F
end
def NR:SV:=⟨0,Z_,Z_,Z_,[]⟩
def WU (D:Nf):Array WW:= #[S_ D.TA D.tn D.tc,P_ (X_ ⟨D.gd,0,Y_⟩),P_ (X_ ⟨D.gw,0,Y_⟩),P_ Y_,P_ Y_]
section
variable {D:Nf} {w w':Z'} {b' col':Nat->Nat} {sb ga:Nat} {s:Yb} {v r:Int} {rt:Xj} {x:AV} {u:WW} {o:Option No} {L B:BL} {R:List RK}
def Ju (I:fQ w b' 4 D.gn 74 (WU D)) (G:eG w b' 4 5 1 D.TA D.tn D.tc ((jh D.p D.dD).text.map uv)) (hn:N D.W w' col' D.gd sb D.gw ga s v rt x) (t:dJ aj D.W w w' b' col'):
  Nq D (w'.setCell ⟨D.gn,3,Y_⟩ (P_ (X_ ⟨ga,0,Y_⟩))) sb ga s v rt x (P_ Y_) Y_ [] [] []:=by
 have F:=I.ed t (λc=>c.a rfl);exact ⟨col',hn.yb F d_ d_ 3 _,⟨F.eC 3 _,(G.ed t (λc=>c.a rfl)).set F.dr d_ 3 _,λ_ h=>(by cases h)⟩,λ_ h=>(by cases h),λ_ h=>(by cases h),λ_ h=>(by cases h)⟩
def D_ (I:JT D) (h:Nq D w sb ga s v ⟨r,[],[],[]⟩ x u o L B R) (V: ∃TA tc SA sc PA pc,x=uu D.p D.dD TA tc SA sc PA pc NR):Inv D 0 x ⟨r,[],[],[]⟩ Y_ 0 NR (P_ Y_) Y_:=by
 obtain ⟨TA,tc,SA,sc,PA,pc,rfl⟩:=V;obtain ⟨W0,B0,G⟩:=I.ok;obtain ⟨b',U⟩:=h;have F:=U.n.ag.qy.row.le;have X:=Fj (TA:=TA) (tc:=tc) (SA:=SA) (sc:=sc) (PA:=PA) (pc:=pc) (z:=NR) I.rf G F ⟨Xi _,d_,Xh _,λ_ h=>(by cases h),XK⟩ (λ_ h=>(by cases h));have O:Xm D.p.a0 D.p.a1 D.p.a2 (Xq (dx NR.l))=Y':=by
  have a0:=I.rf.a0;have a1:=I.rf.a1;have a2:=I.rf.a2
  show Xm D.p.a0 D.p.a1 D.p.a2 (0,0,0)=Y'
  unfold Xm Vi.jO;simp [a0,a1,a2]
 exact ⟨⟨X,eu.nil r,λ_ h=>(by cases h),rfl⟩,⟨TA,D.dD.length,tc,rfl⟩,rfl,rfl,O,.none,Xi _,Xi _,.inl ⟨rfl,rfl⟩⟩
end
def tV (p:ef) (dD:List dA) (w w':Z') (D:Nf) (sb ga:Nat) (x:AV):Prop:=Bw w D.W/\D.p=p/\D.dD=dD/\JT D/\
  Nq D w' sb ga ⟨Xz Y_ Y_,[]⟩ 0 ⟨p.ret,[],[],[]⟩ x (P_ Y_) Y_ [] [] []/\Inv D 0 x ⟨p.ret,[],[],[]⟩ Y_ 0 NR (P_ Y_) Y_/\ ∃TA tc SA sc PA pc,x=uu p dD TA tc SA sc PA pc NR
def Il (p:ef) (dD:List dA) (w:Z') (e:Ending) (w':Z'):Prop:= ∃(D:Nf) (sb ga:Nat) (x:AV),e=R_ (U_ #[P_ (X_ ⟨D.gn,0,Y_⟩),I_ J_ 0])/\tV p dD w w' D sb ga x
def Ik {p:ef} (hR:XV p dD) (hp:p.ok W0 B0 dD) (hg:Gl w) (h:Dk.gk w (λ_=>True) A n c ((jh p dD).text.map UInt8.toBitVec)):
  WX Xa 16 #[S_ A n c] w (Il p dD w):=by
 have ac:(jh p dD).text.length=n:=by have:=h.len;rw [XB] at this;exact this
 have hn:n<=65536:=by rw [<-ac];exact vd hR hp
 have aJ:=h.sl;rw [pF] at aJ;have a3:=Hd (uC p dD W0 B0 A n c w hR hp hg aJ ac hn);have aG:=Hd hR;have aO:WZ (∃W1 B1,p.ok W1 B1 dD):=Hd ⟨_,_,hp⟩;have HG:=Hd hg;have aH:=Hd ac;have aA:dD.length<=12:=by rw [hp.len];exact hR.rc.n
 have HH:=Hd h;clear h hR hp hg ac aJ;go_enter func16,ntmps16;go_upto_region 1 with fail;go_wp2_with fail;refine a3.o.mono ?_;rintro e w1 ⟨af,tc,rfl,ai,bI,aI⟩;unfold ef.arr rW
 dsimp only
 obtain ⟨nt,bu⟩:=nm (dD.length);rw [<-bu] at ai aA |-;clear bu a3 ai bI;obtain ⟨gc,aF⟩:=nm (w1.heap.size);obtain ⟨w2,an⟩:=nm (w1.alloc (.cells #[p.c0,p.c1,p.c2,p.a0,p.a1,p.a2,S_ af nt tc,p.fg,p.ret,p.fE,p.dead] 25));have bc:Bw w1 w2:=by rw [an];exact dL
 have bp:=Hd (show Bw w w2 from aI.trans (bc.mono aI.size));have be:=Hd (show Xn w2 gc 25 #[p.c0,p.c1,p.c2,p.a0,p.a1,p.a2,S_ af nt tc,p.fg,p.ret,p.fE,p.dead] from by rw [an,aF];exact Xo);clear aI bc;go_upto_region 4 with fail;rw [<-an,<-aF];clear an aF;obtain ⟨wc,ar⟩:=nm (XO w2);have ae:=Hd (show Bw w wc from by rw [ar];exact bp.o.drew);have HS:WZ (Xn wc gc 25 #[p.c0,p.c1,p.c2,p.a0,p.a1,p.a2,S_ af nt tc,p.fg,p.ret,p.fE,p.dead]):=Hd (be.o.a_ (show Bw w2 wc from by rw [ar];exact b_.drew));have a9:=Hd (HH.o.dy ae.o.size λk U _=>ae.o.block k U);clear be bp;have aB:WZ (∀wx,(WZ (Xn wx gc 25 #[p.c0,p.c1,p.c2,p.a0,p.a1,p.a2,S_ af nt tc,p.fg,p.ret,p.fE,p.dead]))->(C wx gc 0 p.c0)/\(C wx gc 1 p.c1)/\(C wx gc 2 p.c2)/\(C wx gc 3 p.a0)/\(C wx gc 4 p.a1)/\(C wx gc 5 p.a2)/\(C wx gc 6 (S_ af nt tc))/\(C wx gc 7 p.fg)/\(C wx gc 8 p.ret)/\(C wx gc 9 p.fE)/\(C wx gc 10 p.dead)):=Hd λwx F=>⟨F.o.cell 0,F.o.cell 1,F.o.cell 2,F.o.cell 3,F.o.cell 4,F.o.cell 5,F.o.cell 6,F.o.cell 7,F.o.cell 8,F.o.cell 9,F.o.cell 10⟩
 refine dm.start (S:=λwx=>WZ (Xn wx gc 25 #[p.c0,p.c1,p.c2,p.a0,p.a1,p.a2,S_ af nt tc,p.fg,p.ret,p.fE,p.dead])) k_ ?_;rw [<-ar];clear ar;refine dm.tk 6 HS [0,3,4] ?_
 iterate 3 (refine dm.dG rfl (λK' G=>?_);go_simp;(first|refine G _ ?_;clear G K'|constructor;refine ⟨λwx F=>?_,G _ ?_⟩;(first|rfl|(obtain ⟨y0,y1,y2,y3,y4,y5,y6,y7,y8,y9,bj⟩:=aB.o wx F;go_simp<;>rfl));clear G K'))
 refine dm.ee ?_;refine XN (i:=1) (n:=5) k_ ?_;refine dm.cl ?_;refine (Dk.iR a9.o o_).mono ?_;rintro e w3 ⟨TA,tcap,rfl,ah,aL,a6⟩;have aD:=Hd (HS.o.a_ aL);have bh:=Hd (ae.o.trans (aL.mono ae.o.size));have aU:=Hd (Xl (show XP w3 5 1 TA n tcap ((jh p dD).text.map uv) from by rw [<-pF];exact ah) (show∀b,Ro.dr TA=X_ b->w.heap.size<=b from λb hb=>Xp ae.o.size (a6 b hb)));clear ah aL a6 HS ae a9 HH;refine ⟨_,rfl,aD,?_⟩;refine XN (i:=2) (n:=4) k_ ?_;refine dm.cl ?_;obtain ⟨ay,ab⟩:=nm (λk=>if k<w.heap.size then 0 else 4);have a8:Dk.Fm w w3 ay (λ_=>Y_):=⟨bh.o,λk U=>by rw [ab];exact if_pos U,rfl,λ_ _ _ h=>(by cases h)⟩;have al:eG w3 ay 4 5 1 TA n tcap ((jh p dD).text.map uv):=⟨aU.o.1,λb hb=>by rw [ab];exact if_neg (by have:=aU.o.2 b hb;omega)⟩;refine (a8.news (j:=1) rfl d_).mono ?_;rintro e w4 ⟨gd,I,rfl,bA,bn,aC⟩;have bd:eG w4 I 4 5 1 TA n tcap ((jh p dD).text.map uv):=⟨al.row.dy λk U=>aC.block k (al.row.lt U),λb hb=>(bA b (al.row.lt hb)).trans (al.b' b hb)⟩;have bz:=Hd (show Dk.Fm w w4 I (Ck.one gd ⟨[],[]⟩) from bn);have bo:=Hd bd;have aE:=Hd (aD.o.a_ aC);clear ab a8 al bA bn aC bd bh aU aD;refine ⟨_,rfl,aE,?_⟩;refine XN (i:=5) (n:=3) k_ ?_;refine dm.cl ?_;refine (Wo.Qt p.ret _).mono ?_;rintro e w5 ⟨rfl,aT,aw⟩;obtain ⟨gw,aM⟩:=nm (w4.heap.size);rw [<-aM] at aT |-;have a7:S0 w w5 (dN w4 I λ_=>2) gd gw ⟨[],[]⟩ ⟨p.ret,[],[],[]⟩:=⟨bz.o.below aw (λ_=>2),aT.mono λk U e=>by {have e':k=gw:=e;rw [e'];exact fv (by rw [aM];exact Xf _)}⟩;have t5:dJ (λ_=>False) w w4 w5 I (dN w4 I λ_=>2):=dJ.below aw _;have bl:=Hd (bo.o.ed t5 (λc=>c));have bw:=Hd a7;have av:=Hd (aE.o.a_ aw);clear aM aT aw a7 t5 bz bo aE;refine ⟨_,rfl,av,?_⟩;refine dm.tk 2 av [6] ?_
 iterate 1 (refine dm.dG rfl (λK' G=>?_);go_simp;(first|refine G _ ?_;clear G K'|constructor;refine ⟨λwx F=>?_,G _ ?_⟩;(first|rfl|(obtain ⟨y0,y1,y2,y3,y4,y5,y6,y7,y8,y9,bj⟩:=aB.o wx F;go_simp<;>rfl));clear G K'))
 refine dm.ee ?_;refine XN (i:=7) (n:=1) k_ ?_;obtain ⟨V,ao⟩:=nm (w5.heap.size);obtain ⟨w6,ak⟩:=nm (w5.alloc (.cells #[S_ TA n tcap,P_ (X_ ⟨gd,0,Y_⟩),P_ (X_ ⟨gw,0,Y_⟩),P_ Y_,P_ Y_] 74));have ap:Bw w5 w6:=by rw [ak];exact dL
 obtain ⟨aa,O⟩:=nm (dN w5 (dN w4 I λ_=>2) λ_=>4);have t6:dJ (λ_=>False) w w5 w6 (dN w4 I λ_=>2) aa:=by rw [O];exact dJ.below ap _
 have aZ:=Hd (show fQ w6 aa 4 V 74 #[S_ TA n tcap,P_ (X_ ⟨gd,0,Y_⟩),P_ (X_ ⟨gw,0,Y_⟩),P_ Y_,P_ Y_] from by rw [O];exact fQ.new (by rw [ak,ao];exact Xo) (by rw [ao];exact Xf _) rfl);have bm:=Hd (show S0 w w6 aa gd gw ⟨[],[]⟩ ⟨p.ret,[],[],[]⟩ from by rw [O];exact bw.o.below ap _);have bi:=Hd (bl.o.ed t6 (λc=>c));have aP:=Hd (av.o.a_ ap);refine dm.val rfl rfl (v:=P_ (X_ ⟨w5.heap.size,0,Y_⟩)) (w':=w5.alloc (.cells #[S_ TA n tcap,P_ (X_ ⟨gd,0,Y_⟩),P_ (X_ ⟨gw,0,Y_⟩),P_ Y_,P_ Y_] 74)) k_ ?_ ?_
 .rw [<-ak];exact aP
 rw [<-ak,<-ao];clear ak ao ap O t6 av bl bw;refine dm.tk 0 aP [8] ?_
 iterate 1 (refine dm.dG rfl (λK' G=>?_);go_simp;(first|refine G _ ?_;clear G K'|constructor;refine ⟨λwx F=>?_,G _ ?_⟩;(first|rfl|(obtain ⟨y0,y1,y2,y3,y4,y5,y6,y7,y8,y9,bj⟩:=aB.o wx F;go_simp<;>rfl));clear G K'))
 refine dm.ee ?_;refine wpAnyH_done k_ ?_ _;clear aP;have bf:=Hd (λ(X:Z') (cX:Nat->Nat) (hX:S0 w X cX gd gw ⟨[],[]⟩ ⟨p.ret,[],[],[]⟩) (hx:eG X cX 4 5 1 TA n tcap ((jh p dD).text.map uv))=>by
  obtain ⟨W1,B1,bG⟩:=aO.o;exact sN (m:=Y_) (tmp:=Y_) (j:=0) (z:=NR) (tcap:=tcap) ur.none d_ hX Ck.mq.none aG.o bG (HG.o.below hX.fm.base) hx.row.sl aH.o hn)
 obtain ⟨D,hD⟩: ∃D:Nf,D=⟨w,V,gd,gw,p,dD,TA,n,tcap⟩:=⟨_,rfl⟩;have a5:=Hd (show JT D from by rw [hD];exact ⟨aG.o,aO.o,HG.o,aH.o,hn⟩);have HD:=Hd hD;clear hD HG aH aO aG hn aA;go_upto_region 5 with fail;obtain ⟨wd,aR⟩:=nm (XO w6);have aQ:Bw w6 wd:=by rw [aR];exact b_.drew
 have td:dJ (λ_=>False) w w6 wd aa (dN w6 aa λ_=>9):=dJ.below aQ _;have am:=Hd (aZ.o.ed td (λc=>c));have aS:=Hd (bi.o.ed td (λc=>c));have bg:=Hd (bf.o wd _ (bm.o.below aQ _) aS.o);have bq:WZ (∃y,Xn wd V 74 #[S_ TA n tcap,P_ (X_ ⟨gd,0,Y_⟩),P_ (X_ ⟨gw,0,Y_⟩),y,P_ Y_]):=Hd ⟨_,am.o.dr⟩;clear aQ td aZ bi bm bf;refine dm.start (S:=λwx=>WZ (∃y,Xn wx V 74 #[S_ TA n tcap,P_ (X_ ⟨gd,0,Y_⟩),P_ (X_ ⟨gw,0,Y_⟩),y,P_ Y_])) k_ ?_;rw [<-aR];clear aR;refine dm.tk 7 bq [0,1,2,3,4,5,6,7,8,9,10,11,12] ?_
 iterate 13 (refine dm.dG rfl (λK' G=>?_);go_simp;(first|refine G _ ?_;clear G K'|constructor;refine ⟨λwx F=>?_,G _ ?_⟩;(first|rfl|(have y0:C wx V 0 (S_ TA n tcap):=by {obtain ⟨k,U⟩:=XY F;exact U.cell 0};have y1:C wx V 1 (P_ (X_ ⟨gd,0,Y_⟩)):=by {obtain ⟨k,U⟩:=XY F;exact U.cell 1};have y2:C wx V 2 (P_ (X_ ⟨gw,0,Y_⟩)):=by {obtain ⟨k,U⟩:=XY F;exact U.cell 2};go_simp<;>rfl));clear G K'))
 refine dm.ee ?_;refine XN (i:=13) (n:=6) k_ ?_;refine dm.cl ?_;refine bg.o.mono ?_;rintro e w7 ⟨ga,sb,bL,x,rfl,bt,aN,a4⟩;have hD:=HD.o;subst hD;have HQ:=Hd (Ju (D:=⟨w,V,gd,gw,p,dD,TA,n,tcap⟩) am.o aS.o bt aN);have ag:=Hd (am.o.ed aN (λc=>c.a rfl)).dr;have aY:=Hd a4;have aK:WZ (∃y,Xn w7 V 74 #[S_ TA n tcap,P_ (X_ ⟨gd,0,Y_⟩),P_ (X_ ⟨gw,0,Y_⟩),y,P_ Y_]):=Hd ⟨_,ag.o⟩;clear bt aN a4 bg am aS bq;refine ⟨_,rfl,aK,?_⟩;refine dm.tk 1 aK [14,15,16,17,18] ?_
 iterate 5 (refine dm.dG rfl (λK' G=>?_);go_simp;(first|refine G _ ?_;clear G K'|constructor;refine ⟨λwx F=>?_,G _ ?_⟩;(first|rfl|(have y0:C wx V 0 (S_ TA n tcap):=by {obtain ⟨k,U⟩:=XY F;exact U.cell 0};have y1:C wx V 1 (P_ (X_ ⟨gd,0,Y_⟩)):=by {obtain ⟨k,U⟩:=XY F;exact U.cell 1};have y2:C wx V 2 (P_ (X_ ⟨gw,0,Y_⟩)):=by {obtain ⟨k,U⟩:=XY F;exact U.cell 2};go_simp<;>rfl));clear G K'))
 refine dm.ee ?_;refine XN (i:=19) (n:=0) k_ ?_;have n3:C w7 V 3 (P_ Y_):=ag.o.cell 3;have f3:w7.frozen? ⟨V,3,Y_⟩=Z_:=ag.o.frozen 3;refine dm.skip rfl rfl (w':=w7.setCell ⟨V,3,Y_⟩ (P_ (X_ ⟨ga,0,Y_⟩))) (by go_simp) ?_ ?_
 .exact Hd ⟨_,ag.o.eC 3 (P_ (X_ ⟨ga,0,Y_⟩))⟩
 clear ag aK n3 f3;refine wpAnyH_done k_ ?_ _;have HI:=Hd (D_ a5.o HQ.o aY.o);generalize w7.setCell ⟨V,3,Y_⟩ (P_ (X_ ⟨ga,0,Y_⟩))=w8 at*;go_wp2_with fail;refine bodyPost_ret (v:=U_ #[P_ (X_ ⟨V,0,Y_⟩),I_ J_ 0]) (by simp [results,results16,go_sem]) rfl ⟨⟨w,V,gd,gw,p,dD,TA,n,tcap⟩,sb,ga,x,rfl,Below.refl _ _,rfl,rfl,a5.o,HQ.o,HI.o,aY.o⟩
def zq (p:ef) (dD:List dA) (w:Z') (e:Ending) (w':Z'):Prop:= ∃(D:Nf) (sb ga:Nat) (x:AV),e=R_ (P_ (X_ ⟨D.gn,0,Y_⟩))/\tV p dD w w' D sb ga x
def tw {l:List UInt8} (h:XQ w w.heap.size 1 (X_ ⟨g,0,Y_⟩) l.length (l.map uv)) (hl:l.length<=65536) (hc:l.length<=c/\(l.length<=maxLen->c<=maxLen)):Dk.gk w (λ_=>True) (X_ ⟨g,0,Y_⟩) l.length c (l.map UInt8.toBitVec):=
 ⟨by rw [pF];exact h,⟨hc.1,hc.2 e_⟩,λh=>(by cases h),λ_ _ _=>trivial⟩
def Rm (p:ef) (dD:List dA) (w:Z') (hR:XV p dD) (hp:p.ok w w.heap.size dD) (hg:Gl w):
  WX Xa 7 #[A_ p.arr] w (zq p dD w):=by
 obtain ⟨w1,G⟩:=nm (w.alloc (.cells p.arr 25));have hB:Bw w w1:=by rw [G];exact dL
 have I:Xn w1 w.heap.size 25 p.arr:=by rw [G];exact Xo
 have HT:=Hd (qC p dD w1 ((hp.below hB).more hB.size) hR);have ac:=vd hR hp;have HN:=Hd (λ(X:Z') (g c:Nat) (O:Bw w X) (hc:(jh p dD).text.length<=c/\((jh p dD).text.length<=maxLen->c<=maxLen)) (hs:XQ X X.heap.size 1 (X_ ⟨g,0,Y_⟩) (jh p dD).text.length ((jh p dD).text.map uv))=>Ik hR hp (hg.below O) (tw hs ac hc));have HB:=Hd hB;have HF:WZ (∀(X F:Z') (D:Nf) (sb ga:Nat) (x:AV),Bw w X->tV p dD X F D sb ga x->tV p dD w F D sb ga x):=λX F D sb ga x O ⟨h1,h2⟩=>⟨O.trans (h1.mono O.size),h2⟩
 obtain ⟨Q,hQ⟩:=nm (zq p dD w);have HQ:WZ (∀(X F:Z') (D:Nf) (sb ga:Nat) (x:AV),Bw w X->tV p dD X F D sb ga x->Q (R_ (P_ (X_ ⟨D.gn,0,Y_⟩))) F):=λX F D sb ga x O h=>by rw [hQ];exact ⟨D,sb,ga,x,rfl,HF X F D sb ga x O h⟩
 rw [<-hQ];clear hQ HF hp hR hg hB ac;generalize hT:(jh p dD).text=T at*;have ak:WZ (∀(X F:Z') (e:Ending),Il p dD X e F-> ∃(D:Nf) (sb ga:Nat) (x:AV),e=R_ (U_ #[P_ (X_ ⟨D.gn,0,Y_⟩),I_ J_ 0])/\tV p dD X F D sb ga x):=λ_ _ _ h=>h
 generalize Il p dD=NN at*;generalize tV p dD=ND at*;clear hT;unfold ef.arr at*;obtain ⟨k0,k1,k2,a0,a1,a2,A,n,c,fg,ret,fE,dead⟩:=p
 dsimp only at*
 obtain ⟨y0,y1,y2,y3,y4,y5,y6,y7,y8,y9,am,-⟩:=kA I;go_enter func7,ntmps7;go_upto_region 1 with fail;rw [<-G];clear G;go_wp2_with fail;refine HT.mono ?_;rintro e w2 ⟨g,cc,rfl,ae,ai,aa,V⟩;have ab:=Hd (HB.trans (V.mono HB.size));have U:=Hd (HN w2 g cc ab ae aa);clear HT HN ai aa V I y0 y1 y2 y3 y4 y5 y6 y7 y8 y9 am ae;go_wp2_with fail;refine U.mono ?_;intro e w3 h3;obtain ⟨D,sb,ga,x,rfl,h4⟩:=ak _ _ _ h3;have HE:=Hd (HQ w2 w3 D sb ga x ab h4);clear h3 h4 U;generalize D.gn=gn at*;go_wp2_with fail;exact HE
def Rp (p:ef) (dD:List dA) (A:Option WY) (n c:Nat) (l:List dI) (w:Z') (hp:p.ok w w.heap.size dD) (h:XQ w w.heap.size 21 A n (dI.flat l)) (hl: ∀x∈l,x.ok/\dI.gG w w.heap.size x) (aa:l.length=n) (hn:n<=maxLen):
  WX Xa 6 #[A_ p.arr,S_ A n c] w (Lm (XV p dD/\Gq l) w):=by
 obtain ⟨w1,G⟩:=nm (w.alloc (.cells p.arr 25));have hB:Bw w w1:=by rw [G];exact dL
 have I:Xn w1 w.heap.size 25 p.arr:=by rw [G];exact Xo
 have HR:=Hd (gu.Gf p dD w1 ((hp.below hB).more hB.size));have HF:=Hd (λ(X:Z') (hX:Bw w X)=>Qx A n c l X ((h.below hX).more hX.size) (λx hx=>⟨(hl x hx).1,((hl x hx).2.below hX).more hX.size⟩) aa hn);have HB:=Hd hB;clear h hl hp hB;generalize XV p dD=FR at*;generalize Gq l=FL at*;unfold ef.arr at*;obtain ⟨k0,k1,k2,a0,a1,a2,cA,cn,cc,fg,ret,fE,dead⟩:=p
 dsimp only at*
 obtain ⟨y0,y1,y2,y3,y4,y5,y6,y7,y8,y9,am,-⟩:=kA I;go_enter func6,ntmps6;go_upto_region 1 with fail;rw [<-G];clear G;go_wp2_with fail;refine HR.mono ?_;rintro e w2 ⟨b,rfl,h1,O⟩;have L1:=Hd (HB.trans (O.mono HB.size));have U:=Hd (HF w2 L1);clear HR O I y0 y1 y2 y3 y4 y5 y6 y7 y8 y9 am HF;cases b with
 |false=>
  clear h1;exact kO
 |true=>
  have H1:WZ FR:=h1 rfl;clear h1;go_wp2_with fail;refine U.mono ?_;rintro e w3 ⟨b,rfl,(H2:WZ _),V⟩;have af:=Hd (L1.trans (V.mono L1.size));clear U V;go_wp2_with fail;go_ret;exact ⟨b,rfl,λh=>⟨H1,H2 h⟩,af⟩
def VB (b:Bool) (d:dI):Bool:=if d.kd=6 then Y' else if 1<=d.kd/\d.kd<=5 then Z_ else b
def SU (l:List dI):Bool:=l.foldl VB Z_
def S' {D:Nf} {x x':AV} {rt rt':Xj} {z z':SV} {o o':Option No} {err:Int} (h:Tg D d x rt z o err ev x' rt' z' o'):o'.isSome=VB o.isSome d:=by
 unfold VB;rcases h with ⟨h,_,_,_,_,_,q,rfl,_⟩|⟨h,_,_,_,_,_,rfl⟩|⟨h,_,rfl,_⟩|⟨h,rfl,_⟩
 .rw [if_pos h];rfl
 .rw [if_neg o_,if_neg o_]
 .rw [if_neg o_,if_pos h];rfl
 .rw [if_neg o_,if_pos h];rfl
def qn: ∀(l:List ByteArray) (p:Xj×List dX) (v:dX),v∈(asks q r kind p l).2->v∈p.2\/v.kind=kind
 |[],_,_,h=> .inl h
 |id::l,p,v,h=>by
  rcases qn l (iB q r kind p id) v h with h1|h1
  .have h2:v∈(if oF p.1 id q then p.2++[(⟨kind,id,0,0⟩:dX)] else p.2):=h1
   split at h2
   .rcases Xb.1 h2 with h2|h2
    .exact .inl h2
    .rw [s_ h2];exact .inr rfl
   .exact .inl h2
  .exact .inr h1
def rh: ∀(l:List dK) (p:Xj×List dX) (v:dX),v∈(fM p l).2->v∈p.2\/(v.kind=14/\ ∃z∈l,v.id=z.name)
 |[],_,_,h=> .inl h
 |x::l,p,v,h=>by
  rcases rh l (iU p x) v h with h1|⟨h1,z,hz,h2⟩
  .have h2:v∈(if sE p.1 x.name then p.2++[(⟨14,x.name,0,x.size⟩:dX)] else p.2):=h1
   split at h2
   .rcases Xb.1 h2 with h2|h2
    .exact .inl h2
    .rw [s_ h2];exact .inr ⟨rfl,x,m_ ..,rfl⟩
   .exact .inl h2
  .exact .inr ⟨h1,z,n_ _ hz,h2⟩
def Li (v:dX):Prop:=8<=v.kind/\v.kind<=12
def Lj {s:PS} {e:dq} (h:v∈(jD r s e).2.2):v∈s.2.2\/Li v:=by
 have one: ∀(u:dX),Li u->v∈s.2.2++[u]->v∈s.2.2\/Li v:=by
  intro u G h;rcases Xb.1 h with h|h
  .exact .inl h
  .rw [s_ h];exact .inr G
 unfold jD at h;split at h
 .unfold uE at h
  split at h
  .split at h
   .exact .inl h
   .exact one _ ⟨by show (8:Int)<=12;decide,by show (12:Int)<=12;decide⟩ h
  .exact one _ ⟨by show (8:Int)<=12;decide,by show (12:Int)<=12;decide⟩ h
 split at h
 .exact one _ ⟨by show (8:Int)<=8;decide,by show (8:Int)<=12;decide⟩ h
 split at h
 .exact .inl h
 split at h
 .exact .inl h
 split at h
 .have F:v∈(if qz s.1 e.dC.id e.dC.eO then s.2.2++[(⟨9,e.dC.eO,0,e.dC.size⟩:dX)] else s.2.2):=h
  split at F
  .exact one _ ⟨by show (8:Int)<=9;decide,by show (9:Int)<=12;decide⟩ F
  .exact .inl F
 split at h
 .have F:v∈(if oF s.1 e.dC.id 2 then s.2.2++[(⟨10,e.dC.id,0,0⟩:dX)] else s.2.2):=h
  split at F
  .exact one _ ⟨by show (8:Int)<=10;decide,by show (10:Int)<=12;decide⟩ F
  .exact .inl F
 split at h
 .exact one _ ⟨by show (8:Int)<=11;decide,by show (11:Int)<=12;decide⟩ h
 .exact .inl h
def Al: ∀(l:List dq) (s:PS) (v:dX),v∈(iH r s l).2.2->v∈s.2.2\/Li v
 |[],_,_,h=> .inl h
 |e::l,s,v,h=>by
  rcases Al l (jD r s e) v h with h1|h1
  .exact Lj h1
  .exact .inr h1
def Gj {F on:Bool} (h:v∈Tw.na i F on):v.kind=6\/v.kind=7:=by
 unfold Tw.na at h;split at h
 .rw [s_ h];exact .inl rfl
 split at h
 .rw [s_ h];exact .inr rfl
 .cases h
def Gk {x:AV} (h:v∈Qr x):v.kind=6\/v.kind=7:=by
 unfold Qr at h;rcases Xb.1 h with h|h
 .rcases Xb.1 h with h|h<;>exact Gj h
 .exact Gj h
structure yI (x:AV) (d:dI) (v:dX):Prop where
 o:v.kind=5\/v.kind=2-> ∃e∈x.l,e.dC.id=v.id/\e.dC.fB=Z_
 Wt:v.kind=3->v.n=3->d.kd=1/\d.dC.fB=Z_/\((v.sig=0/\x.o0=Y')\/(v.sig=1/\x.o1=Y')\/(v.sig=2/\x.o2=Y'))
 eO:v.kind=14->v.id∉eE x.l
def yI.other {x:AV} (h2:v.kind≠2) (h3:v.kind≠3) (h5:v.kind≠5) (h14:v.kind≠14):yI x d v:=⟨λh=>o_,λh=>absurd h h3,λh=>absurd h h14⟩
section
variable {D:Nf} {k:Nat} {x y:AV} {rt rt':Xj} {d:dI} {err:Int} {ev:List dX} {sv:Bool}
def Lk (h:jZ x rt ev rt' y): ∀v∈ev,yI x d v:=by
 obtain ⟨xs,zs,b,l3,e3,SA,sc,A,c,h1,V,_,h3,rfl,rfl,rfl⟩:=h;intro v F;rcases qn _ _ v F with F|F
 .rcases Al _ _ v F with F|F
  .have G:v∈(fM (qW x rt xs) zs).2++e3:=F
   rcases Xb.1 G with F|F
   .rcases rh _ _ v F with F|⟨O,z,hz,e⟩
    .rcases qn _ _ v F with F|F
     .rcases Gk F with O|O<;>exact yI.other o_ o_ o_ o_
     .exact yI.other o_ o_ o_ o_
    .refine ⟨λh=>o_,λh=>o_,λ_=>?_⟩
     have:=(V z hz).2;unfold Tw.fG at this;rw [e];intro c;rw [du.fO.2 c] at this;cases this
   .rcases h3 with ⟨_,rfl,_⟩|⟨_,j,e,_,_,U,I,_,_,rfl⟩
    .cases F
    .rw [s_ F]
     refine ⟨λ_=>⟨e,U,rfl,?_⟩,λh=>?_,λh=>?_⟩
     .unfold Tw.jE at I
      cases hc:e.dC.fB
      .rfl
      .rw [hc] at I;cases I
     .have X:(5:Int)=3:=h
      omega
     .have X:(5:Int)=14:=h
      omega
  .obtain ⟨ha,hb⟩:=F
   exact yI.other o_ o_ o_ o_
 .exact yI.other o_ o_ o_ o_
def Ll {p:dz} (h:Tw.oh o0 o1 o2 p=X_ s):p.fB=Z_/\((s=0/\o0=Y')\/(s=1/\o1=Y')\/(s=2/\o2=Y')):=by
 unfold Tw.oh at h;split at h
 .cases h
 rename_i hc
 refine ⟨by cases hh:p.fB;rfl;exact absurd hh hc,?_⟩;split at h
 .rename_i h0
  rw [Xs] at h0;exact .inl ⟨(q_ h).symm,h0.1⟩
 split at h
 .rename_i h1
  exact .inr (.inl ⟨(q_ h).symm,h1⟩)
 split at h
 .rename_i h2
  exact .inr (.inr ⟨(q_ h).symm,h2⟩)
 .cases h
def wM {kd:Int} {outs:List ByteArray} (h:pO x d.dC 0 kd s outs) (hk:kd=1\/kd=2): ∀id∈outs,∃e∈x.l,e.dC.id=id/\e.dC.fB=Z_:=by
 rcases h with ⟨h1,_⟩|⟨_,_,h1,h2,h3,⟨h4,_⟩|⟨h4,_⟩⟩|⟨_,_,h1,h2,h3,_,hf,ys,hy,_,ho⟩
 .exact absurd rfl h1
 .omega
 .omega
 intro id V;obtain ⟨kept,F,h4,h5,_⟩:=jT (g0:=x.p.a0) (g1:=x.p.a1) (g2:=x.p.a2) ys (XL d.dC (dx x.l),[]);have U:id∈(Tw.fp x.p.a0 x.p.a1 x.p.a2 (XL d.dC (dx x.l)) ys).2:=ho.subset V;unfold Tw.fp at U;rw [h4] at U;have X:id∈[]++F.map dz.id:=U;rw [XM] at X;obtain ⟨p,hp,rfl⟩:=Xd.1 X;have h8:p∈ys:=h5.subset (List.mem_append_right _ hp);obtain ⟨h9,G⟩:=List.mem_filter.1 (hy.subset h8);obtain ⟨e,he,rfl⟩:=Xd.1 h9;refine ⟨e,he,rfl,?_⟩;unfold XX at G;cases hc:e.dC.fB
 .rfl
 .rw [hc] at G
  simp at G
def Gm (h:kF d x rt err ev y rt' sv): ∀v∈ev,yI x d v:=by
 rcases h with ⟨hk,_,⟨_,_,rfl,_,_⟩|⟨_,k,s,G,X,rfl,_,_⟩|⟨_,k,s,outs,G,X,rfl,_,_⟩⟩|⟨_,_,⟨_,_,rfl,_,_⟩|⟨q,_,_,⟨_,_,rfl,_,_⟩|⟨_,_,rfl,_,_⟩⟩⟩|⟨_,_,ht,_⟩|⟨_,_,rfl,_,_⟩|⟨_,rfl,_⟩
 .exact λv F=>by cases F
 .intro v F
  rw [s_ F];refine ⟨λh=>?_,λ_ h3=>?_,λh=>?_⟩
  .have O:(3:Int)=5\/(3:Int)=2:=h
   omega
  .have U:k=3:=h3
   subst U;rcases X with ⟨I,_⟩|⟨_,_,_,_,_,⟨_,hb⟩|⟨h4,_⟩⟩|⟨_,h4,_⟩
   .exact absurd rfl I
   .exact ⟨hk,Ll hb⟩
   .omega
   .omega
  .have O:(3:Int)=14:=h
   omega
 .intro v F
  rcases Xb.1 F with F|F
  .obtain ⟨id,V,rfl⟩:=Xd.1 F
   obtain ⟨e,he,I,h2⟩:=wM X G id V;refine ⟨λ_=>⟨e,he,I,h2⟩,λh=>?_,λh=>?_⟩
   .have O:(2:Int)=3:=h
    omega
   .have O:(2:Int)=14:=h
    omega
  .rw [s_ F]
   exact yI.other (by show (1:Int)≠2;decide) (by show (1:Int)≠3;decide) (by show (1:Int)≠5;decide) (by show (1:Int)≠14;decide)
 .exact λv F=>by cases F
 .exact λv F=>by cases F
 .intro v F
  rw [s_ F];exact yI.other (by show (4:Int)≠2;decide) (by show (4:Int)≠3;decide) (by show (4:Int)≠5;decide) (by show (4:Int)≠14;decide)
 .exact Lk ht
 .exact λv F=>by cases F
 .exact λv F=>by cases F
def yI.eB (h:yI {x with eB:=f} d v):yI x d v:=⟨h.o,h.Wt,h.eO⟩
def Tb {z z':SV} {o o':Option No} (h:Tg D d x rt z o err ev y rt' z' o'): ∀v∈ev,yI x d v:=by
 rcases h with ⟨_,_,rfl,_⟩|⟨_,_,rfl,_⟩|⟨_,_,_,sv,G,_⟩|⟨_,_,q,r,err0,ev0,y0,sv,_,_,G,_,rfl,_⟩
 .exact λv F=>by cases F
 .exact λv F=>by cases F
 .exact Gm G
 .intro v F
  rcases Xb.1 F with F|F
  .cases sv with
   |true=>cases F
   |false=>exact (Gm G v F).eB
  .rw [s_ F]
   exact yI.other (by show (16:Int)≠2;decide) (by show (16:Int)≠3;decide) (by show (16:Int)≠5;decide) (by show (16:Int)≠14;decide)
end
def vf (v:dX):Prop:=v.kind=2\/v.kind=11\/v.kind=12
instance (v:dX):Decidable (vf v):=by unfold vf;infer_instance
def pK (p:dz) (l:List dq) (v:dX):List dq:=if v.kind=1 then ep l ⟨p,1⟩ else l
def lF (p:dz) (l:List dq) (v:dX):List dq:=if vf v then my (pK p l v) v.id else pK p l v
structure rA (d:dI) (l:List dq) (v:dX):Prop where
 WK:v.kind=1->d.kd=1/\XG (eo l) v.id=Z_/\d.dC.id=v.id
 o:vf v->XG (eo l) v.id=Y'
def eZ (d:dI):List dq->List dX->List dq->Prop
 |l,[],m=>dx l=dx m
 |l,v::ev,m=>rA d l v/\eZ d (lF d.dC l v) ev m
section
variable {l l' m m2:List dq} {e:dq} {s:ByteArray} {p:dz} {v:dX} {d:dI} {r:Int}
def rB:eo l=(dx l).map dz.id:=by unfold eo dx;rw [List.map_map];rfl
def ov (h:dx l=dx l'):eo l=eo l':=by rw [rB,rB,h]
def Im (h:dx l=dx l'):dx (my l s)=dx (my l' s):=by
 unfold my;rw [ov h];split
 .generalize du.pos (eo l') s=P
  unfold dx at h |-;rw [Xk,Xk,Xw,Xx,Xw,Xx,h]
 .exact h
def yV (h:dx l=dx l'):dx (ep l e)=dx (ep l' e):=by
 unfold ep;rw [ov h];generalize du.pos (eo l') e.dC.id=P;split
 .unfold dx at h |-
  rw [List.map_set,List.map_set,h]
 .unfold dx at h |-
  rw [Xk,Xk,XF,XF,Xw,Xx,Xw,Xx,h]
def yW (h:dx l=dx l'):dx (lF p l v)=dx (lF p l' v):=by
 have F:dx (pK p l v)=dx (pK p l' v):=by
  unfold pK;split
  .exact yV h
  .exact h
 unfold lF;split
 .exact Im F
 .exact F
def rA.Mm (h:dx l=dx l') (o:rA d l' v):rA d l v:=⟨λc=>by rw [ov h];exact o.WK c,λc=>by rw [ov h];exact o.o c⟩
def eZ.Mm: ∀{ev:List dX} {l l':List dq},dx l=dx l'->eZ d l' ev m->eZ d l ev m
 |[],_,_,h,f=>h.trans f
 |_::_,_,_,h,f=>⟨f.1.Mm h,eZ.Mm (yW h) f.2⟩
def eZ.app: ∀{ev ev2:List dX} {l:List dq},eZ d l ev m->eZ d m ev2 m2->eZ d l (ev++ev2) m2
 |[],_,_,h,f=>eZ.Mm h f
 |_::_,_,_,h,f=>⟨h.1,eZ.app h.2 f⟩
def Io (v:dX):Prop:=v.kind≠1/\v.kind≠2/\v.kind≠11/\v.kind≠12
def Dm (h:Io v):lF p l v=l:=by
 unfold lF pK;rw [if_neg (λc=>by rcases c with c|c|c;exact h.2.1 c;exact h.2.2.1 c;exact h.2.2.2 c),if_neg h.1]
def Mn (h:Io v):rA d l v:=⟨λc=>absurd c h.1,λc=>by rcases c with c|c|c;exact absurd c h.2.1;exact absurd c h.2.2.1;exact absurd c h.2.2.2⟩
def eZ.same: ∀{ev:List dX} {l:List dq},(∀v∈ev,Io v)->dx l=dx m->eZ d l ev m
 |[],_,_,h=>h
 |v::ev,l,hk,h=>⟨Mn (hk v (m_ ..)),by rw [Dm (hk v (m_ ..))];exact eZ.same (λu hu=>hk u (n_ _ hu)) h⟩
def wZ (F:vf v):lF p l v=my l v.id:=by
 unfold lF pK;rw [if_pos F,if_neg (λc=>by rcases F with h|h|h<;>omega)]
def eZ.Rr (hk:vf v) (hh:XG (eo l) v.id=Y'):eZ d l [v] (my l v.id):=⟨⟨λc=>by rcases hk with h|h|h<;>omega,λ_=>hh⟩,by
 show dx (lF d.dC l v)=_
 rw [wZ hk]⟩
end
def xb: ∀(l:List ByteArray) (p:Xj×List dX),∃es:List dX,(asks q r kind p l).2=p.2++es/\ ∀v∈es,v.kind=kind
 |[],p=>⟨[],(Xt _).symm,λ_ h=>by cases h⟩
 |id::l,p=>by
  obtain ⟨es,h1,h2⟩:=xb l (iB q r kind p id);have h3:(iB q r kind p id).2=if oF p.1 id q then p.2++[(⟨kind,id,0,0⟩:dX)] else p.2:=rfl
  cases hw:oF p.1 id q with
  |true=>
   rw [hw,if_pos rfl] at h3;refine ⟨⟨kind,id,0,0⟩::es,?_,λv hv=>?_⟩
   .show (asks q r kind (iB q r kind p id) l).2=_
    rw [h1,h3,Xv];rfl
   .rcases p_ hv with rfl|hv
    .rfl
    .exact h2 v hv
  |false=>
   rw [hw,if_neg d_] at h3;exact ⟨es,by show (asks q r kind (iB q r kind p id) l).2=_;rw [h1,h3],h2⟩
section
variable {k:Nat} {r:Int} {todo:List dq} {s:PS} {e:dq} {d:dI}
def Dn (h:PI k r (e::todo) s): ∃F:List dX,(jD r s e).2.2=s.2.2++F/\eZ d s.2.1 F (jD r s e).2.1:=by
 have V:=h.todo e (m_ ..);have O:=(jA h.right.gQ V).1;have hw: ∀n:Int,dx (ep s.2.1 ⟨e.dC,n⟩)=dx s.2.1:=λn=>kJ h.right.gQ V rfl
 have nil: ∀x:PS,x.2.1=s.2.1->x.2.2=s.2.2-> ∃F:List dX,x.2.2=s.2.2++F/\eZ d s.2.1 F x.2.1:=λx X h2=>⟨[],by rw [h2,Xt],by rw [X];exact rfl⟩
 have I:vf (⟨12,e.dC.id,0,0⟩:dX):= .inr (.inr rfl);have U:vf (⟨11,e.dC.id,0,0⟩:dX):= .inr (.inl rfl);unfold jD;split
 .unfold uE
  split
  .split
   .exact nil _ rfl rfl
   .exact ⟨_,rfl,eZ.Rr I O⟩
  .exact ⟨_,rfl,eZ.Rr I O⟩
 split
 .refine ⟨_,rfl,eZ.same (λv G=>?_) (hw 2).symm⟩
  rw [s_ G];exact ⟨by show (8:Int)≠1;decide,by show (8:Int)≠2;decide,by show (8:Int)≠11;decide,by show (8:Int)≠12;decide⟩
 split
 .exact nil _ rfl rfl
 split
 .exact nil _ rfl rfl
 split
 .cases qz s.1 e.dC.id e.dC.eO with
  |true=>
   refine ⟨_,rfl,eZ.same (λv G=>?_) rfl⟩;rw [s_ G];exact ⟨by show (9:Int)≠1;decide,by show (9:Int)≠2;decide,by show (9:Int)≠11;decide,by show (9:Int)≠12;decide⟩
  |false=>exact nil _ rfl rfl
 split
 .cases oF s.1 e.dC.id 2 with
  |true=>
   refine ⟨_,rfl,eZ.same (λv G=>?_) rfl⟩;rw [s_ G];exact ⟨by show (10:Int)≠1;decide,by show (10:Int)≠2;decide,by show (10:Int)≠11;decide,by show (10:Int)≠12;decide⟩
  |false=>exact nil _ rfl rfl
 split
 .exact ⟨_,rfl,eZ.Rr U O⟩
 .exact nil _ rfl rfl
end
def tz {d:dI}: ∀(l:List dq) (k:Nat) (s:PS),PI k r l s->du.dY (eo l)->k+l.length<=90000-> ∃es:List dX,(iH r s l).2.2=s.2.2++es/\eZ d s.2.1 es (iH r s l).2.1
 |[],k,s,_,_,_=>⟨[],(Xt _).symm,rfl⟩
 |e::l,k,s,h,hr,hk=>by
  have hr':(e.dC.id::eo l).Pairwise λa b=>du.cmp a b<0:=hr
  obtain ⟨h1,h2⟩:=XH.1 hr';simp only [Xr] at hk;have hst:=h.step o_ λq hq c=>by
   exact FT
  obtain ⟨es,e1,f1⟩:=Dn (d:=d) h;obtain ⟨es2,e2,f2⟩:=tz (d:=d) l (k+1) (jD r s e) hst h2 o_;refine ⟨es++es2,?_,f1.app f2⟩
  show (iH r (jD r s e) l).2.2=_
  rw [e2,e1,Xv]
section
variable {D:Nf} {k:Nat} {x y:AV} {rt rt':Xj} {d:dI} {err:Int} {ev:List dX} {sv:Bool}
def Dp (V:Live D k x rt) (hk:k<=8000) (hr:x.r<1099511627776) (h:jZ x rt ev rt' y):eZ d x.l ev y.l:=by
 obtain ⟨xs,zs,b,F,e3,SA,sc,A,c,_,_,_,h3,rfl,rfl,rfl⟩:=h;have ho:=Bj (vg V.ok hr) SA sc;have X:eu k (qW x rt xs).1:=iI 4 (x.r+1) 13 xs _ (V.ju.TR (round:=x.r+1) (eE x.l));have ae:jc (qW x rt xs).1:=mw 4 (x.r+1) 13 xs _ (uD V.im (eE x.l));have U:=je zs (qW x rt xs) X;refine OR ?_;intro ac G hl3;obtain ⟨es,e1,f1⟩:=tz (d:=d) F k _ G G.right.gQ o_;have e2:dx F=dx x.l:=rC h3 V.ok.st.gQ;obtain ⟨ab,ah,aa⟩:=xb (q:=3) (r:=x.r+1) (kind:=15) (((xX x rt xs zs F e3).1.bx.filter (Tw.gZ (gi (xX x rt xs zs F e3).2.1))).map λb=>b.id) ((xX x rt xs zs F e3).1,(xX x rt xs zs F e3).2.2);have e4:(Oq x (xX x rt xs zs F e3)).2=((fM (qW x rt xs) zs).2++e3)++es++ab:=by
  show (asks 3 (x.r+1) 15 _ _).2=_
  rw [ah];exact congrArg (· ++ab) e1
 rw [e4];refine eZ.app (m:=(xX x rt xs zs F e3).2.1) (eZ.app (m:=F) (eZ.same (λv O=>?_) e2.symm) f1) (eZ.same (λv O=>?_) rfl)
 .rcases Xb.1 O with O|O
  .rcases rh _ _ v O with O|⟨hk,_⟩
   .rcases qn _ _ v O with O|O
    .rcases Gk O with hk|hk<;>exact ⟨o_,o_,o_,o_⟩
    .exact ⟨o_,o_,o_,o_⟩
   .exact ⟨o_,o_,o_,o_⟩
  .rcases h3 with ⟨_,rfl,_⟩|⟨_,j,e,_,_,he,I,_,_,rfl⟩
   .cases O
   .rw [s_ O]
    exact ⟨by show (5:Int)≠1;decide,by show (5:Int)≠2;decide,by show (5:Int)≠11;decide,by show (5:Int)≠12;decide⟩
 .have:=aa v O
  exact ⟨o_,o_,o_,o_⟩
end
def tA: ∀(outs:List ByteArray) (l:List dq),eJ r l->outs.Nodup->(∀id∈outs,XG (eo l) id=Y')->eZ d l (nY outs) (jR l outs)
 |[],_,_,_,_=>rfl
 |s::outs,l,h,hn,hh=>by
  obtain ⟨h1,h2⟩:=List.nodup_cons.1 hn;have o:vf (⟨2,s,0,0⟩:dX):= .inl rfl;refine ⟨⟨λc=>?_,λ_=>hh s (m_ ..)⟩,?_⟩
  .have c':(2:Int)=1:=c
   omega
  rw [wZ o]
  show eZ d (my l s) (nY outs) (jR (my l s) outs)
  refine tA outs _ (oc h) h2 λid hid=>?_
  obtain ⟨e,he,h3⟩:=Xd.1 (du.fO.1 (hh id (n_ _ hid)));exact du.fO.2 (Xd.2 ⟨e,(yB h.gQ).2 ⟨he,λc=>h1 (by rw [<-c,h3];exact hid)⟩,h3⟩)
def xd {l:List ByteArray} (h:du.dY l):l.Nodup:=List.Pairwise.imp (λ{a b} hab c=>by
 rw [c,du.iT] at hab;omega) h
section
variable {D:Nf} {k:Nat} {x y:AV} {rt rt':Xj} {d:dI} {err:Int} {ev:List dX} {sv:Bool}
def yX {kd:Int} {outs:List ByteArray} (hr:du.dY (eo x.l)) (h:pO x d.dC 0 kd s outs) (hk:kd=1\/kd=2):outs.Nodup:=by
 rcases h with ⟨I,_⟩|⟨_,_,I,V,h3,⟨h4,_⟩|⟨h4,_⟩⟩|⟨_,_,I,V,h3,_,hf,ys,hy,_,U⟩
 .exact absurd rfl I
 .omega
 .omega
 obtain ⟨kept,F,h4,h5,_⟩:=jT (g0:=x.p.a0) (g1:=x.p.a1) (g2:=x.p.a2) ys (XL d.dC (dx x.l),[]);unfold Tw.fp at U;rw [h4] at U;have G:outs.Perm ([]++F.map dz.id):=U;rw [XM] at G;have h6:((dx x.l).map dz.id).Nodup:=by rw [<-rB];exact xd hr
 have h7:(((dx x.l).filter (XX d.dC)).map dz.id).Nodup:=h6.sublist (List.filter_sublist.map _);have X:((kept++F).map dz.id).Nodup:=((h5.trans hy).map dz.id).nodup_iff.2 h7;have h9:(F.map dz.id).Nodup:=X.sublist ((List.sublist_append_right kept F).map _);exact G.nodup_iff.2 h9
def Mo {p:dz} (h:v.kind=1):lF p l v=ep l ⟨p,1⟩:=by
 unfold lF pK;rw [if_neg (λc=>by rcases c with c|c|c<;>omega),if_pos h]
def Ip (I:Live D k x rt) (hk:k<=8000) (hr:x.r<1099511627776) (h:kF d x rt err ev y rt' sv):eZ d x.l ev y.l:=by
 rcases h with ⟨X,_,⟨_,_,rfl,rfl,_⟩|⟨_,j,s,F,O,rfl,rfl,_⟩|⟨_,j,s,outs,F,O,rfl,⟨A,c,rfl⟩,_⟩⟩|⟨_,_,⟨_,_,rfl,rfl,_⟩|⟨q,hq,hqi,⟨_,_,rfl,rfl,_⟩|⟨_,_,rfl,⟨A,c,rfl⟩,_⟩⟩⟩|⟨_,_,ht,_⟩|⟨_,_,rfl,_,⟨_,_,rfl⟩|⟨_,_,_,_,_,_,_,_,rfl⟩⟩|⟨_,rfl,_,rfl,_⟩
 .exact rfl
 .refine eZ.same (λv hv=>?_) rfl
  rw [s_ hv];exact ⟨by show (3:Int)≠1;decide,by show (3:Int)≠2;decide,by show (3:Int)≠11;decide,by show (3:Int)≠12;decide⟩
 .have V:XG (eo x.l) d.dC.id=Z_:=by
   rcases O with ⟨G,_⟩|⟨_,_,G,U,_⟩|⟨_,_,G,U,_⟩
   .exact absurd rfl G
   .exact U
   .exact U
  refine eZ.app (tA outs x.l I.ok.st (yX I.ok.st.gQ O F) λid aa=>?_) ⟨⟨λ_=>⟨X,qv (ot outs x.l) V,rfl⟩,λc=>?_⟩,?_⟩
  .obtain ⟨e,he,G,_⟩:=wM O F id aa
   exact du.fO.2 (Xd.2 ⟨e,he,G⟩)
  .have c':(1:Int)=2\/(1:Int)=11\/(1:Int)=12:=c
   omega
  .show dx (lF d.dC (jR x.l outs) ⟨1,d.dC.id,0,0⟩)=dx (ep (jR x.l outs) ⟨d.dC,1⟩)
   rw [Mo rfl]
 .exact rfl
 .exact rfl
 .refine eZ.same (λv hv=>?_) ?_
  .rw [s_ hv]
   exact ⟨by show (4:Int)≠1;decide,by show (4:Int)≠2;decide,by show (4:Int)≠11;decide,by show (4:Int)≠12;decide⟩
  .exact (kJ (e:=⟨q.dC,3⟩) I.ok.st.gQ hq rfl).symm
 .exact Dp I hk hr ht
 .exact rfl
 .exact rfl
 .exact rfl
end
section
variable {D:Nf} {j:Nat} {x y:AV} {rt rt':Xj} {d:dI} {err:Int} {ev:List dX} {m:Option (List XA)} {v:Int} {z z':SV} {u:WW} {o':Option No}
def JU (F:Inv D j x rt m v z u Y_) (hj:j<=100) (h:Tg D d x rt z Y_ err ev y rt' z' o'):eZ d x.l ev y.l:=by
 have hr:=F.r;rcases h with ⟨_,_,rfl,rfl,_⟩|⟨_,_,rfl,rfl,_⟩|⟨_,_,_,sv,G,_⟩|⟨_,_,q,r,err0,ev0,y0,sv,c,_⟩
 .exact rfl
 .exact rfl
 .exact Ip F.live o_ o_ G
 .cases c
end
def Nk (D:Nf) (w:Z') (j:Nat) (x:AV) (rt:Xj) (o:Option No) (B:BL) (R:List RK):Prop:=
 ∃(m:Option (List XA)) (v:Int) (z:SV) (u:WW) (sb ga:Nat),Inv D j x rt m v z u o/\Nq D w sb ga ⟨Xz m Y_,[]⟩ v rt x u o [] B R
def En (x:AV) (A:Option WY) (c:Nat):RK:=⟨58,12,A,x.l.length,c,dq.flat x.l⟩
def PF (ev:List dX) (A:Option WY) (c:Nat):RK:=⟨55,4,A,ev.length,c,XI ev⟩
section
variable {D:Nf} {w w':Z'} {j:Nat} {x:AV} {rt:Xj} {o:Option No} {B B':BL} {R R':List RK} {d:dI} {p:ef} {dD:List dA} {sb ga:Nat}
def tV.nk (h:tV p dD w w' D sb ga x):Nk D w' 0 x ⟨p.ret,[],[],[]⟩ Y_ [] []:=⟨Y_,0,NR,P_ Y_,sb,ga,h.2.2.2.2.2.1,h.2.2.2.2.1⟩
def Nk.below (h:Nk D w j x rt o B R) (hb:Bw w w'):Nk D w' j x rt o B R:=by obtain ⟨m,v,z,u,sb,ga,hI,hN⟩:=h;exact ⟨m,v,z,u,sb,ga,hI,hN.below hb⟩
def Nk.sub (h:Nk D w j x rt o B R) (hb: ∀t∈B',t∈B) (hr: ∀t∈R',t∈R):Nk D w j x rt o B' R':=by obtain ⟨m,v,z,u,sb,ga,hI,hN⟩:=h;exact ⟨m,v,z,u,sb,ga,hI,hN.sub hb hr⟩
def Nk.ku {T:TypeId} (h:Nk D w j x rt o B R) (hb:Bw w w') (hg:Xn w' g T cs) (hn:w.heap.size<=g):Nk D w' j x rt o ((g,T,cs)::B) R:=by obtain ⟨m,v,z,u,sb,ga,hI,hN⟩:=h;exact ⟨m,v,z,u,sb,ga,hI,hN.ku hb hg hn⟩
def Nk.kt (h:Nk D w j x rt o B R) (hb:Bw w w') (hr:XP w' e k A n c xs) (hn: ∀b,Ro.dr A=X_ b->w.heap.size<=b):Nk D w' j x rt o B (⟨e,k,A,n,c,xs⟩::R):=by obtain ⟨m,v,z,u,sb,ga,hI,hN⟩:=h;exact ⟨m,v,z,u,sb,ga,hI,hN.kt hb hr hn⟩
def Nk.row (h:Nk D w j x rt o B R) (hm:(⟨e,k,A,n,c,xs⟩:RK)∈R):XP w e k A n c xs:=by obtain ⟨m,v,z,u,sb,ga,hI,hN⟩:=h;exact hN.row hm
def Nk.dr {T:TypeId} (h:Nk D w j x rt o B R) (hm:(g,T,cs)∈B):Xn w g T cs:=by obtain ⟨m,v,z,u,sb,ga,hI,hN⟩:=h;exact hN.dr hm
def Nk.base (h:Nk D w j x rt o B R):Below D.W.heap.size D.W w:=by obtain ⟨m,v,z,u,sb,ga,hI,hN⟩:=h;exact hN.base
def Nk.st (h:Nk D w j x rt o B R):eJ x.r x.l/\ ∀e∈x.l,e.ok:=by obtain ⟨m,v,z,u,sb,ga,hI,hN⟩:=h;exact ⟨hI.live.ok.st,hI.live.ok.each⟩
def Nk.pW (h:Nk D w j x rt o B R):WX Xa 8 #[P_ (X_ ⟨D.gn,0,Y_⟩)] w (Tf x w):=by
 obtain ⟨m,v,z,u,sb,ga,F,G⟩:=h;exact kE G (by have:x.l.length<=64:=F.live.ok.st.len;omega)
def WA (D:Nf) (j:Nat) (d:dI) (x:AV) (rt:Xj) (o:Option No) (B:BL) (R:List RK) (e:Ending) (w':Z'):Prop:=
 ∃(err:Int) (ev:List dX) (x':AV) (rt':Xj) (o':Option No) (EA:Option WY) (ec:Nat) (A:Option WY) (pc:Nat),
  ((∃z z',Tg D d x rt z o err ev x' rt' z' o')/\(o=Y_->eZ d x.l ev x'.l))/\Nk D w' (j+1) x' rt' o' B (En x' A pc::PF ev EA ec::R)/\e=R_ (A_ (kx err EA ev.length ec x' A pc))
def Nk.yd (h:Nk D w j x rt o B R) (G:j<=100) (X:JT D) (hB: ∀t∈B,t.2.1≠55) (O: ∀t∈R,t.e≠55) (hd:BN D d):
  WX Xa 9 #[P_ (X_ ⟨D.gn,0,Y_⟩),A_ d.arr] w (WA D j d x rt o B R):=by
 obtain ⟨m,v,z,u,sb,ga,I,hN⟩:=h;refine (Nd.yd I G X hN hB O hd).mono ?_;rintro e w' ⟨err,ev,x',rt',U,v',z',u',o',sb',ga',EA,ec,A,pc,F,V,h3,h4⟩;exact ⟨err,ev,x',rt',o',EA,ec,A,pc,⟨⟨z,z',F⟩,λe=>by subst e;exact JU I G F⟩,⟨U,v',z',u',sb',ga',V,h4⟩,h3⟩
def Nk.nA (h:Nk D w j x rt Y_ B R) (G:j<=100) (hd:BN D d) (hk:1<=d.kd/\d.kd<=5):
  WX Xa 9 #[P_ (X_ ⟨D.gn,0,Y_⟩),A_ d.arr] w λe w'=> ∃(err:Int) (ev:List dX) (x':AV) (rt':Xj) (sv:Bool) (EA:Option WY) (ec:Nat) (A:Option WY) (pc:Nat),
   kF d x rt err ev x' rt' sv/\Nk D w' (j+1) x' rt' Y_ B (En x' A pc::PF ev EA ec::R)/\e=R_ (A_ (kx err EA ev.length ec x' A pc)):=by
 obtain ⟨m,v,z,u,sb,ga,I,V⟩:=h;refine (Nd.nA I G V hd hk).mono ?_;rintro e w' ⟨err,ev,x',rt',U,v',z',u',o',sb',ga',EA,ec,A,pc,F,O,h3,X⟩;rcases F with ⟨F,_⟩|⟨F,_⟩|⟨_,_,rfl,sv,ha,_⟩|⟨_,_,q,_,_,_,_,_,c,_⟩
 .omega
 .omega
 .exact ⟨err,ev,x',rt',sv,EA,ec,A,pc,ha,⟨U,v',z',u',sb',ga',O,X⟩,h3⟩
 .cases c
end
def gg:dz:=⟨⟨#[112]⟩,0,Z_,4,4,4,0,0,0,⟨#[119,101,98]⟩,7⟩
def Eb:List dA:=[⟨0,10,0,Z_,0⟩]
def vD (A:Option WY) (n c:Nat):ef:=⟨100,100,100,10,10,10,A,n,c,1,1,2,1⟩
def Wr (q:ef) (PA:Option WY) (pc:Nat) (SA:Option WY) (sc:Nat) (UA:Option WY) (uc:Nat) (r:Int) (l:List dq) (t a0 a1 a2:Int) (fr:Bool):AV:=⟨q,Eb,r,PA,pc,l,Z_,Z_,Z_,SA,sc,[-1],0,0,0,t,a0,a1,a2,UA,uc,[],fr,-1,Z_⟩
def Ec (x:AV) (r:Int) (l:List dq) (t a0 a1 a2:Int) (fr:Bool):Prop:= ∃(A:Option WY) (n c:Nat) (PA:Option WY) (pc:Nat) (SA:Option WY) (sc:Nat) (UA:Option WY) (uc:Nat),x=Wr (vD A n c) PA pc SA sc UA uc r l t a0 a1 a2 fr
section
variable {x y:AV} {rt rt':Xj} {d:dI} {err:Int} {ev:List dX} {sv:Bool}
def nu (h:jZ x rt ev rt' y) (U:jV (rX x)=(Z_,Z_,Z_)) (hd: ∀q∈rt.bx,Tw.fF (gi x.l) q=Z_):
  ∃(SA:Option WY) (sc:Nat) (A:Option WY) (c:Nat),rt'=(Oq x (xX x rt [] [] x.l [])).1/\ev=(Oq x (xX x rt [] [] x.l [])).2/\y={K_ (rX x) SA sc with PA:=A,pc:=c,l:=(xX x rt [] [] x.l []).2.1,fr:=Z_}:=by
 obtain ⟨xs,zs,b,l3,e3,SA,sc,A,c,h1,h2,I,O,h5,h6,h7⟩:=h;have hx:xs=[]:=by
  cases xs with
  |nil=>rfl
  |cons id xs=>
   obtain ⟨q,hq,_,G⟩:=h1 id (m_ ..);rw [hd q hq] at G;cases G
 rw [U] at I O;obtain ⟨hz,G⟩:=I rfl;subst hx hz G;have X:l3=x.l/\e3=[]:=by
  rcases O with ⟨V,e2,_⟩|⟨_,k,e,_,F,_⟩
  .exact ⟨V,e2⟩
  .unfold p3 at F
   split at F
   .cases F
   split at F<;>cases F
 obtain ⟨rfl,rfl⟩:=X;exact ⟨SA,sc,A,c,h5,h6,h7⟩
def Jw (hx:Ec x 0 [] t 0 0 0 Z_) (hk:d.kd=1) (hp:d.dC=gg) (h:kF d x rt err ev y rt' sv):ev=[⟨1,⟨#[112]⟩,0,0⟩]/\rt'=rt/\Ec y 0 [⟨gg,1⟩] t 0 0 0 Z_:=by
 obtain ⟨A,n,c,PA,pc,SA,sc,UA,uc,rfl⟩:=hx;have hR:fw gg=Y':=k_;have hB:Tw.oh Z_ Z_ Z_ gg=Y_:=k_;have hF:Xm 10 10 10 (Xq (XL gg []))=Y':=k_;rcases h with ⟨_,hr,⟨I,G,_⟩|⟨_,k,s,X,G,_⟩|⟨_,k,s,outs,X,G,rfl,⟨A',c',rfl⟩,_⟩⟩|⟨I,_⟩|⟨I,_⟩|⟨I,_⟩|⟨I,_⟩
 .exfalso
  rw [hp] at G;rcases G with ⟨_,_,F|F|F⟩|⟨F,_⟩|⟨F,_⟩
  .rw [hR] at F;cases F
  .have V:XG [] gg.id=Y':=F
   cases V
  .have V:64<=0:=F
   omega
  .exact I F
  .exact I F
 .exfalso
  rw [hp] at G;rcases G with ⟨F,_⟩|⟨_,_,_,_,_,⟨_,hb⟩|⟨_,_,_,hf⟩⟩|⟨_,h4,_⟩
  .exact F rfl
  .have O:Tw.oh Z_ Z_ Z_ gg=X_ s:=hb
   rw [hB] at O;cases O
  .have U:Xm 10 10 10 (Xq (XL gg []))=Z_:=hf
   rw [hF] at U;cases U
  .omega
 .have ho:outs=[]:=by
   rcases G with ⟨F,_⟩|⟨_,_,_,_,_,⟨h4,_⟩|⟨h4,_⟩⟩|⟨_,_,_,_,_,_,_,ys,hy,_,ho⟩
   .exact absurd rfl F
   .omega
   .omega
   .have ac:ys=[]:=Xy hy
    subst ac;exact Xy ho
  subst ho;rw [hp];exact ⟨rfl,hr,A,n,c,A',c',SA,sc,UA,uc,rfl⟩
 all_goals omega
end
def rQ:gj:=⟨0,0,0,0,[],Y_,0,0⟩
def rS:dz:=⟨⟨#[]⟩,0,Z_,0,0,0,0,0,0,⟨#[]⟩,0⟩
def xU:gj:=⟨3,4621256167635550208,4636666922610458624,4636666922610458624,[],Y_,0,0⟩
def Pw (k:Int) (p:dz) (r:gj):dI:=⟨k,p,⟨#[]⟩,r,[],Y_,0,0,0,[],Y_,0,0⟩
def mF {D:Nf} {k:Int} {p:dz} {r:gj} (O:XD k) (I:p.ok) (G:r.ok) (F:r.use=[]/\r.kX=0):BN D (Pw k p r):=by
 have z:XD 0:=by unfold XD;decide
 refine ⟨⟨O,I,Xh _,G,⟨Xf _,Xh _,rfl,λ_ h=>(by cases h)⟩,z,⟨Xf _,Xh _,rfl,λ_ h=>(by cases h)⟩⟩,⟨⟨?_⟩,?_,?_⟩,Xh _,Xh _⟩
 .show XQ D.W D.W.heap.size 4 r.mG r.kX (iN.flat r.use)
  rw [F.1,F.2];exact ⟨rfl,λh=>absurd h (XE 0)⟩
 .exact ⟨rfl,λh=>absurd h (XE 0)⟩
 .exact ⟨rfl,λh=>absurd h (XE 0)⟩
def Px (st tr last:Int):dP:=⟨⟨#[112]⟩,st,tr,last⟩
section
variable {x y:AV} {rt rt':Xj} {d:dI} {err:Int} {ev:List dX} {sv:Bool} {t:Int}
def Jy (O:Ec x 0 [⟨gg,1⟩] t 0 0 0 Z_) (h:jZ x ⟨1,[],[],[]⟩ ev rt' y):rt'=⟨1,[],[Px 1 0 1],[]⟩/\Ec y 1 [⟨gg,2⟩] t 0 0 0 Z_:=by
 obtain ⟨A,n,c,PA,pc,SA,sc,UA,uc,rfl⟩:=O;obtain ⟨G,F,A',c',I,h2,U⟩:=nu h rfl (λ_ h=>by cases h);subst I U;exact ⟨by rfl,A,n,c,A',c',G,F,UA,uc,by rfl⟩
def vE {r:Int} {st:Int} {n:Int} (h:Tw.fF (gi [⟨gg,n⟩]) (Px st tr last)=Z_): ∀q∈[Px st tr last],Tw.fF (gi [⟨gg,n⟩]) q=Z_:=λq hq=>by rw [s_ hq];exact h
def VD (n:Int):dK:=⟨⟨#[119,101,98]⟩,7,n⟩
def Jz (O:Ec x 1 [⟨gg,2⟩] t 0 0 0 Z_) (h:jZ x ⟨1,[],[Px 1 0 1],[]⟩ ev rt' y):rt'=⟨1,[],[Px 2 0 2],[VD 2]⟩/\Ec y 2 [⟨gg,2⟩] t 0 0 0 Z_:=by
 obtain ⟨A,n,c,PA,pc,SA,sc,UA,uc,rfl⟩:=O;obtain ⟨G,F,A',c',I,h2,U⟩:=nu h rfl (vE (r:=0) rfl);subst I U;exact ⟨by rfl,A,n,c,A',c',G,F,UA,uc,by rfl⟩
def JA (U:Ec x 2 [⟨gg,2⟩] t 0 0 0 Z_) (h:jZ x ⟨1,[],[Px 2 0 2],[VD 2]⟩ ev rt' y):ev=[⟨10,⟨#[112]⟩,0,0⟩]/\rt'=⟨1,[],[Px 3 0 3],[VD 3]⟩/\Ec y 3 [⟨gg,2⟩] t 0 0 0 Z_:=by
 obtain ⟨A,n,c,PA,pc,SA,sc,UA,uc,rfl⟩:=U;obtain ⟨G,F,A',c',I,O,V⟩:=nu h rfl (vE (r:=0) rfl);subst I O V;exact ⟨by rfl,by rfl,A,n,c,A',c',G,F,UA,uc,by rfl⟩
def SE:Tw.iq xU:=⟨k_,Xh _,λ_ _ h=>absurd h (by intro c;cases c),λ_ h=>(by cases h)⟩
def D' (X:Ec x 3 [⟨gg,2⟩] (-1) 0 0 0 Z_) (hk:d.kd=4) (U:d.raw=xU) (h:kF d x rt err ev y rt' sv):rt'=rt/\Ec y 3 [⟨gg,2⟩] 3 9 99 99 Y':=by
 obtain ⟨A,n,c,PA,pc,SA,sc,UA,uc,rfl⟩:=X;have e9:XU 4621256167635550208=9:=k_;have O:XU 4636666922610458624=99:=k_;rcases h with ⟨G,_⟩|⟨G,_⟩|⟨G,_⟩|⟨_,I,_,_,⟨_,F,_⟩|⟨_,_,_,A',c',us,V,_,rfl⟩⟩|⟨G,_⟩
 .omega
 .omega
 .omega
 .exfalso
  rw [U] at F;rcases F with F|F
  .exact F SE
  .have h3:Tw.ir 3 (-1) 3 2=Y':=F
   cases h3
 .rw [U] at V |-
  have hu:us=[]:=Xy V;subst hu;refine ⟨I,A,n,c,PA,pc,SA,sc,A',c',?_⟩
  show ({Wr (vD A n c) PA pc SA sc UA uc 3 [⟨gg,2⟩] (-1) 0 0 0 Z_ with t:=3,a0:=XU 4621256167635550208,a1:=XU 4636666922610458624,a2:=XU 4636666922610458624,UA:=A',uc:=c',us:=[],fr:=Y'}:AV)=_
  rw [e9,O];rfl
 .omega
def JC (V:Ec x 3 [⟨gg,2⟩] 3 9 99 99 Y') (h:jZ x ⟨1,[],[Px 3 0 3],[VD 3]⟩ ev rt' y):ev=[⟨6,⟨#[]⟩,0,0⟩,⟨5,⟨#[112]⟩,0,0⟩,⟨12,⟨#[112]⟩,0,0⟩]/\y.l=[]:=by
 obtain ⟨A,n,c,PA,pc,SA,sc,UA,uc,rfl⟩:=V;obtain ⟨xs,zs,b,l3,e3,SA',sc',A',c',h1,h2,h3,h4,h5,h6,h7⟩:=h;have V:xs=[]:=by
  cases xs with
  |nil=>rfl
  |cons id xs=>
   obtain ⟨q,hq,_,G⟩:=h1 id (m_ ..);have:Tw.fF (gi [⟨gg,2⟩]) q=Z_:=vE (r:=0) (n:=2) (st:=3) (tr:=0) (last:=3) rfl q hq;have F:Tw.fF (gi [⟨gg,2⟩]) q=Y':=G;rw [this] at F;cases F
 have hP:jV (rX (Wr (vD A n c) PA pc SA sc UA uc 3 [⟨gg,2⟩] 3 9 99 99 Y'))=(Y',Z_,Z_):=by rfl
 rw [hP] at h3 h4;obtain ⟨hz,G⟩:=h3 rfl;subst V hz G;have U:l3=[⟨gg,3⟩]/\e3=[⟨5,⟨#[112]⟩,0,0⟩]:=by
  rcases h4 with ⟨_,_,h8|h8⟩|⟨_,k,e,hk3,ab,U,_,_,X,I⟩
  .have O:Z_=Y':=h8
   cases O
  .have:=h8 0 d_ rfl
   have X:[(⟨gg,2⟩:dq)]=[]:=this;cases X
  .have ac:k=0:=by
    unfold p3 at ab;split at ab
    .assumption
    split at ab<;>cases ab
   subst ac;have aa:e=⟨gg,2⟩:=s_ U;subst aa;exact ⟨X,I⟩
 obtain ⟨rfl,rfl⟩:=U;subst h6 h7;exact ⟨by rfl,by rfl⟩
def Py {p:Prop} (h:p:=by
 constructor<;>(dsimp only;first|(unfold dz.ia;decide)|(unfold ia;decide)|(show _<=maxLen;unfold maxLen;decide))):p:=h
def SD:gg.ok:=by
 unfold gg;exact Py
def rT:rS.ok:=by
 unfold rS;exact Py
def rR:rQ.ok:=by
 refine ⟨by unfold rQ gj.ia;decide,d_,d_,d_,Xf _,Xh _,rfl,λ_ h=>(by cases h)⟩
def JB:xU.ok:=by
 refine ⟨by unfold xU gj.ia;decide,d_,d_,d_,Xf _,Xh _,rfl,λ_ h=>(by cases h)⟩
end
def Jv (A:Option WY) (c:Nat):XV (vD A 1 c) Eb:=by
 unfold vD;refine ⟨⟨?_,?_,?_,?_,λt F=>?_⟩,?_,?_,?_,?_,?_,?_,?_,?_,?_,?_,?_,?_,?_⟩
 case refine_5=>
  rw [s_ F];constructor<;>decide
 all_goals (dsimp only;decide)
def Vw (h:Xn w g 92 #[I_ J_ 0,I_ J_ 10,I_ J_ 0,B_ Z_,I_ J_ 0]) (hc:1<=c/\c<=100):(vD (X_ ⟨g,0,Y_⟩) 1 c).ok w w.heap.size Eb:=by
 have z: ∀n:Int,0<=n->n<=100->dA.ia n:=λn h1 h2=>by unfold dA.ia;omega
 refine ⟨z 100 d_ d_,z 100 d_ d_,z 100 d_ d_,z 10 d_ d_,z 10 d_ d_,z 10 d_ d_,z 1 d_ d_,z 1 d_ d_,z 2 d_ d_,z 1 d_ d_,hc.1,by show c<=maxLen;unfold maxLen;omega,rfl,λt G=>?_,rfl,λ_=>⟨_,rfl,h.lt,λj F=>?_⟩⟩
 .rw [s_ G]
  exact ⟨z 0 d_ d_,z 10 d_ d_,z 0 d_ d_,z 0 d_ d_⟩
 .rw [Mem.iO]
  have hj':j<5:=F;have:j=0\/j=1\/j=2\/j=3\/j=4:=o_;rcases this with rfl|rfl|rfl|rfl|rfl
  .exact h.cell 0
  .exact h.cell 1
  .exact h.cell 2
  .exact h.cell 3
  .exact h.cell 4
def SC (w:Z'):WX Xa 18 #[] w λe w'=> ∃(A:Option WY) (c:Nat),e=R_ (A_ (vD A 1 c).arr)/\(vD A 1 c).ok w' w'.heap.size Eb/\Bw w w':=by
 go_enter func18,ntmps18;go_wp2_with fail;refine bodyPost_ret (v:=A_ (vD (X_ ⟨w.heap.size+1,0,Y_⟩) 1 1).arr) (by simp [results,results18,go_sem,vD,ef.arr]) rfl ⟨_,_,rfl,Vw ?_ d_,(dL).alloc y_ _⟩;have:=Xo (w:=w.alloc (.cells #[I_ J_ 100,I_ J_ 100,I_ J_ 100,I_ J_ 10,I_ J_ 10,I_ J_ 10,S_ (X_ ⟨w.heap.size+1,0,Y_⟩) 1 1,I_ J_ 1,I_ J_ 1,I_ J_ 2,I_ J_ 1] 25)) (t:=92) (cs:= #[I_ J_ 0,I_ J_ 10,I_ J_ 0,B_ Z_,I_ J_ 0]);simpa using this
def BI {x y:AV} {rt rt':Xj} {p:dz} {r:gj} {err:Int} {sv:Bool} (h:kF (Pw 3 p r) x rt err ev y rt' sv):jZ x rt ev rt' y:=by
 rcases h with ⟨c,_⟩|⟨c,_⟩|⟨_,_,F,_⟩|⟨c,_⟩|⟨c,_⟩
 .exact absurd (show (3:Int)=1 from c) d_
 .exact absurd (show (3:Int)=2 from c) d_
 .exact F
 .exact absurd (show (3:Int)=4 from c) d_
 .exact absurd (show (3:Int)=5 from c) d_
def NK (w:Z') (hg:Gl w):WX Xa 5 #[] w λe w'=>e=R_ (B_ Y')/\Bw w w':=by
 have HG:=Hd hg;have aQ:=Hd (SC w);clear hg;go_enter func5,ntmps5;go_wp2_with fail;refine aQ.o.mono ?_;rintro e w1 ⟨A,c,rfl,ap,aW⟩;have hR:=Jv A c;have aR:=vd hR ap;have HT:=Hd (qC (vD A 1 c) Eb w1 ap hR);have HN:=Hd (λ(X:Z') (g c':Nat) (hX:Bw w X) (hs:XQ X X.heap.size 1 (X_ ⟨g,0,Y_⟩) (jh (vD A 1 c) Eb).text.length ((jh (vD A 1 c) Eb).text.map uv)) (hc:(jh (vD A 1 c) Eb).text.length<=c'/\((jh (vD A 1 c) Eb).text.length<=maxLen->c'<=maxLen))=>Ik hR ap (HG.o.below hX) (tw hs aR hc));have aP:WZ (∀(X:Z') (e:Ending) (X':Z'),Il (vD A 1 c) Eb X e X'-> ∃(D:Nf) (x:AV),e=R_ (U_ #[P_ (X_ ⟨D.gn,0,Y_⟩),I_ J_ 0])/\Bw X D.W/\Nk D X' 0 x ⟨1,[],[],[]⟩ Y_ [] []/\Ec x 0 [] (-1) 0 0 0 Z_):=λX e X' ⟨D,sb,ga,x,h1,h2⟩=>⟨D,x,h1,h2.1,h2.nk,by
  obtain ⟨TA,tc,SA,sc,PA,pc,rfl⟩:=h2.2.2.2.2.2.2;exact ⟨TA,_,tc,PA,pc,SA,sc,Y_,0,rfl⟩⟩
 have aN:=Hd aW;generalize (vD A 1 c).arr=arr at*;generalize Il (vD A 1 c) Eb=NP at*;generalize (jh (vD A 1 c) Eb).text=TX at*;clear hR aR ap aW aQ;go_wp2_with fail;refine HT.o.mono ?_;rintro e w2 ⟨g,cc,rfl,a7,bh,bc,a0⟩;have ag:=Hd (aN.o.trans (a0.mono aN.o.size));have a5:=Hd (HN.o w2 g cc ag.o bc a7);clear a7 bh bc a0 aN HT HN HG;go_wp2_with fail;refine a5.o.mono ?_;intro e w3 h3;obtain ⟨D,x0,rfl,aA,a8,aM⟩:=aP.o w2 e w3 h3;have ak:=Hd (ag.o.trans (aA.mono ag.o.size));have bB:=Hd aM;have a4:=Hd a8;clear h3 aA a8 aM a5 aP ag;refine SS ?_;intro gn ab hpn;go_upto_region 4 with fail;have aJ:=Hd (a4.o.nA (d:=Pw 1 gg rQ) d_ (mF (by unfold XD;decide) SD rR ⟨rfl,rfl⟩) ⟨by show (1:Int)<=1;decide,by show (1:Int)<=5;decide⟩);rw [<-ab.o] at aJ;go_upto_region 4 with fail;go_wp2_with fail;refine aJ.o.mono ?_;rintro e v0 ⟨q0,ev0,x1,rt1,sv,an,af,A0,aF,ha,V,rfl⟩;obtain ⟨F,O,U⟩:=Jw bB.o rfl rfl ha;subst O;have bL:=Hd U;clear ha U;have be:ev0.length=1:=by rw [F];rfl
 rw [be];obtain ⟨g0,ar⟩:=nm (v0.heap.size);obtain ⟨u0,am⟩:=nm (v0.alloc (.cells (kx q0 an 1 af x1 A0 aF) 39));have aE:=Hd (V.ku (show Bw v0 u0 from by rw [am];exact dL) (show Xn u0 g0 39 (kx q0 an 1 af x1 A0 aF) from by rw [am,ar];exact Xo) (by rw [ar];exact Xf _));rw [F] at aE;clear V F be aJ a4;unfold kx at am |-;go_upto_region 5 with fail;rw [<-am,<-ar];clear am ar;have aL:=Hd (aE.o.nA (d:=Pw 3 rS rQ) d_ (mF (by unfold XD;decide) rT rR ⟨rfl,rfl⟩) ⟨by show (1:Int)<=3;decide,by show (3:Int)<=5;decide⟩);rw [<-ab.o] at aL;go_upto_region 5 with fail;go_wp2_with fail;refine aL.o.mono ?_;rintro e v1 ⟨q1,ev1,x2,rt2,sv,EA1,ec1,A1,pc1,ha,V,rfl⟩;obtain ⟨O,U⟩:=Jy bL.o (BI ha);subst O;have bo:=Hd U;clear ha U;have bd:=Hd V;clear V aL aE;have aI:=Hd (bd.o.nA (d:=Pw 3 rS rQ) d_ (mF (by unfold XD;decide) rT rR ⟨rfl,rfl⟩) ⟨by show (1:Int)<=3;decide,by show (3:Int)<=5;decide⟩);rw [<-ab.o] at aI;go_upto_region 6 with fail;go_wp2_with fail;refine aI.o.mono ?_;rintro e v2 ⟨q2,ev2,x3,rt3,sv,EA2,ec2,A2,pc2,ha,V,rfl⟩;obtain ⟨O,U⟩:=Jz bo.o (BI ha);subst O;have bO:=Hd U;clear ha U;have aU:=Hd V;clear V aI bd;have av:=Hd (aU.o.nA (d:=Pw 3 rS rQ) d_ (mF (by unfold XD;decide) rT rR ⟨rfl,rfl⟩) ⟨by show (1:Int)<=3;decide,by show (3:Int)<=5;decide⟩);rw [<-ab.o] at av;go_upto_region 7 with fail;go_wp2_with fail;refine av.o.mono ?_;rintro e v3 ⟨q3,bz,x4,rt4,sv,ah,ai,A3,aG,ha,V,rfl⟩;obtain ⟨F,O,U⟩:=JA bO.o (BI ha);subst O;have bC:=Hd U;clear ha U;have aX:bz.length=1:=by rw [F];rfl
 rw [aX];obtain ⟨g3,aw⟩:=nm (v3.heap.size);obtain ⟨u3,al⟩:=nm (v3.alloc (.cells (kx q3 ah 1 ai x4 A3 aG) 39));have aD:=Hd (V.ku (show Bw v3 u3 from by rw [al];exact dL) (show Xn u3 g3 39 (kx q3 ah 1 ai x4 A3 aG) from by rw [al,aw];exact Xo) (by rw [aw];exact Xf _));rw [F] at aD;clear V F aX av aU;unfold kx at al |-;go_upto_region 8 with fail;rw [<-al,<-aw];clear al aw;have aK:=Hd (aD.o.nA (d:=Pw 4 rS xU) d_ (mF (by unfold XD;decide) rT JB ⟨rfl,rfl⟩) ⟨by show (1:Int)<=4;decide,by show (4:Int)<=5;decide⟩);rw [<-ab.o] at aK;go_upto_region 8 with fail;go_wp2_with fail;refine aK.o.mono ?_;rintro e v4 ⟨q4,ev4,x5,rt5,sv,EA4,ec4,A4,pc4,ha,V,rfl⟩;obtain ⟨O,U⟩:=D' bC.o rfl rfl ha;subst O;have bE:=Hd U;clear ha U;have bb:=Hd V;clear V aK aD;have aC:=Hd (bb.o.nA (d:=Pw 3 rS rQ) d_ (mF (by unfold XD;decide) rT rR ⟨rfl,rfl⟩) ⟨by show (1:Int)<=3;decide,by show (3:Int)<=5;decide⟩);rw [<-ab.o] at aC;go_upto_region 9 with fail;go_wp2_with fail;refine aC.o.mono ?_;rintro e v5 ⟨q5,bF,x6,rt6,sv,ac,ao,A5,aB,ha,V,rfl⟩;obtain ⟨F,U⟩:=JC bE.o (BI ha);have a3:=Hd U;clear ha U;have aS:bF.length=3:=by rw [F];rfl
 rw [aS];obtain ⟨g5,au⟩:=nm (v5.heap.size);obtain ⟨u5,ae⟩:=nm (v5.alloc (.cells (kx q5 ac 3 ao x6 A5 aB) 39));have I:=Hd (V.ku (show Bw v5 u5 from by rw [ae];exact dL) (show Xn u5 g5 39 (kx q5 ac 3 ao x6 A5 aB) from by rw [ae,au];exact Xo) (by rw [au];exact Xf _));rw [F] at I;clear V F aS aC bb;unfold kx at ae |-;go_upto_region 10 with fail;rw [<-ae,<-au];clear ae au;have s0:C u5 g0 1 (S_ an 1 af):=(I.o.dr (g:=g0) (T:=39) (cs:=kx q0 an 1 af x1 A0 aF) (by repeat (first|exact m_ .. |apply n_))).cell 1;have s3:C u5 g3 1 (S_ ah 1 ai):=(I.o.dr (g:=g3) (T:=39) (cs:=kx q3 ah 1 ai x4 A3 aG) (by repeat (first|exact m_ .. |apply n_))).cell 1;have s5:C u5 g5 1 (S_ ac 3 ao):=(I.o.dr (g:=g5) (T:=39) (cs:=kx q5 ac 3 ao x6 A5 aB) (by repeat (first|exact m_ .. |apply n_))).cell 1;have r0:XP u5 55 4 an 1 af (XI [⟨1,⟨#[112]⟩,0,0⟩]):=I.o.row (by repeat (first|exact m_ .. |apply n_));have r3:XP u5 55 4 ah 1 ai (XI [⟨10,⟨#[112]⟩,0,0⟩]):=I.o.row (by repeat (first|exact m_ .. |apply n_));have r5:XP u5 55 4 ac 3 ao (XI [⟨6,⟨#[]⟩,0,0⟩,⟨5,⟨#[112]⟩,0,0⟩,⟨12,⟨#[112]⟩,0,0⟩]):=I.o.row (by repeat (first|exact m_ .. |apply n_));obtain ⟨ad0,_,rfl,_,_,aZ⟩:=XR r0.sl (k:=0) d_;obtain ⟨ad3,_,rfl,_,_,aY⟩:=XR r3.sl (k:=0) d_;obtain ⟨G,_,rfl,_,_,aT⟩:=XR r5.sl (k:=0) d_;obtain ⟨a1,_,e5,_,_,aa⟩:=XR r5.sl (k:=1) d_;obtain rfl:=q_ e5;obtain ⟨a1,_,e5,_,_,aV⟩:=XR r5.sl (k:=2) d_;obtain rfl:=q_ e5;have p0:=aZ.c0;have p3:=aY.c0;have p5:=aT.c0;have p6:=aa.c0;have p7:=aa.c1;have p8:=aa.c2;have p9:=aa.c3;have ay:=aV.c0;clear r0 r3 r5 aZ aY aT aa aV;simp only [Nat.zero_mul,Nat.one_mul,List.getElem_cons_zero,List.getElem_cons_succ] at p0 p3 p5 p6 p7 p8 p9 ay;have az: ∀q:WY,q.add 0=q:=λq=>by simp [Addr.add]
 rw [az] at p0 p3 p5;have p6:u5.cell? {block:=G.block,off:=G.off+4}=X_ (I_ J_ 5):=p6;have p7:u5.cell? {block:=G.block,off:=G.off+4+1}=X_ (T_ ⟨#[112]⟩):=p7;have p8:u5.cell? {block:=G.block,off:=G.off+4+2}=X_ (I_ J_ 0):=p8;have p9:u5.cell? {block:=G.block,off:=G.off+4+3}=X_ (I_ J_ 0):=p9;have ay:u5.cell? {block:=G.block,off:=G.off+8}=X_ (I_ J_ 12):=ay;have heq: ∀X:Z',(binOp .eql 55 (A_ #[I_ J_ 5,T_ ⟨#[112]⟩,I_ J_ 0,I_ J_ 0]) (A_ #[I_ J_ 5,T_ ⟨#[112]⟩,I_ J_ 0,I_ J_ 0])).run Xa X= .ok (B_ Y') X:=λX=>k_
 have ax:=Hd I.o.pW;rw [<-ab.o] at ax;have a6:x6.l.length=0:=by rw [a3.o];rfl
 have aO:=Hd (ak.o.trans (I.o.base.mono ak.o.size));go_wp2_with fail;refine ax.o.mono ?_;rintro e w7 ⟨A7,c7,he,_,a2,_⟩;unfold gF at he;rw [a6] at he;subst he;have br:=Hd (aO.o.trans (a2.mono aO.o.size));have hf:=λX=>RE x6.r A7 0 c7 x6.o0 x6.o1 x6.o2 X
 clear a2 ax a6;go_wp2_with fail;go_ret;exact ⟨rfl,br.o⟩
section
variable {P:Program}
def pS (w:Z') (p:WY) (ty:TypeId) (arr:Array WW) (d:TypeDesc) (hc: ∀(j:Nat) (v:WW),arr.toList[j]?=X_ v->w.cell? (p.add j)=X_ v)
  (O:P.underlying ty=X_ d) (hd:(match d with| .struct _| .array _ _=>Y'|_=>Z_)=Y') (G:(P.info? ty).map (·.size)=X_ arr.size):(loadVar ty p).run P w= .ok (A_ arr) w:=by
 have I:(loadCells p arr.size).run P w= .ok arr w:=by
  have:=run_loadCells_list (P:=P) w p arr.toList hc;simpa using this
 cases hq:P.info? ty with
 |none=>simp [hq] at G
 |some i=>
  have hs:i.size=arr.size:=by simpa [hq] using G
  have F:(isAgg ty).run P w= .ok Y' w:=by
   unfold isAgg;rw [XJ,run_underlying O w];cases d<;>simp_all
  simp [loadVar,XJ,F,sizeOf,typeInfo,hq,hs,I]
def pM {o:Oper} {Q:Exit->Act->Z'->Prop} (F:o.guard=Y_) (ty:TypeId) (x:Operand) (O:o.op= .load ty x)
  (p:WY) (I:a.eval x=P_ (X_ p)) (arr:Array WW) (d:TypeDesc) (hc: ∀(j:Nat) (v:WW),arr.toList[j]?=X_ v->w.cell? (p.add j)=X_ v)
  (G:P.underlying ty=X_ d) (U:(match d with| .struct _| .array _ _=>Y'|_=>Z_)=Y') (V:(P.info? ty).map (·.size)=X_ arr.size)
  (h:wpList P ops Q rest (a.put o.dst (A_ arr)) w):wpList P ops Q (o::rest) a w:=by
 refine wpList_plain F λ_ X=>?_
 unfold Oper.wp execOp;simp only [O,I,Instr.loadAt,Instr.sureAddr,XJ,Sem.run_pure,Result.andThen_ok,pS w p ty arr d hc G U V];exact X _ _ h
end
def JO {B:Nat} (h:XQ w B 21 A n (dI.flat ps)) (U:k<n):
  ∃(ad:WY) (O:k<ps.length),A=X_ ad/\(ad.add (k*21)).block<B/\dI.At w (ad.add (k*21)) ps[k]/\ ∀(j:Nat) (v:WW),ps[k].arr.toList[j]?=X_ v->w.cell? ((ad.add (k*21)).add j)=X_ v:=by
 obtain ⟨ad,O,e,hb,I,F⟩:=dI.at_ h U;refine ⟨ad,O,e,I,F,λj v G=>?_⟩;have hj:j<21:=by
  have:=(List.getElem?_eq_some_iff.1 G).1;simpa [XS] using this
 have:j=0\/j=1\/j=2\/j=3\/j=4\/j=5\/j=6\/j=7\/j=8\/j=9\/j=10\/j=11\/j=12\/j=13\/j=14\/j=15\/j=16\/j=17\/j=18\/j=19\/j=20:=o_;have z: ∀q:WY,q.add 0=q:=λq=>by simp [Addr.add]
 rcases this with rfl|rfl|rfl|rfl|rfl|rfl|rfl|rfl|rfl|rfl|rfl|rfl|rfl|rfl|rfl|rfl|rfl|rfl|rfl|rfl|rfl
 .rw [z];exact F.c0.trans G
 .exact F.c1.trans G
 .exact F.c2.trans G
 .exact F.c3.trans G
 .exact F.c4.trans G
 .exact F.c5.trans G
 .exact F.c6.trans G
 .exact F.c7.trans G
 .exact F.c8.trans G
 .exact F.c9.trans G
 .exact F.lM.trans G
 .exact F.pv.trans G
 .exact F.SL.trans G
 .exact F.SM.trans G
 .exact F.SN.trans G
 .exact F.SO.trans G
 .exact F.SP.trans G
 .exact F.SQ.trans G
 .exact F.PC.trans G
 .exact F.Ws.trans G
 .exact F.PD.trans G
end Nd
end
end Go.Proofs.YtkidababfdehlaaGreatDoor
