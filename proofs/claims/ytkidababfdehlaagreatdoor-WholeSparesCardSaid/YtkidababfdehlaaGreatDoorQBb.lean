/- Parts of the walk. -/
import Derived.Test.YtkidababfdehlaaGreatDoorQBa
set_option linter.all false
set_option maxRecDepth 100000
set_option maxHeartbeats 64000000
namespace Go.Proofs.YtkidababfdehlaaGreatDoor
open Value renaming int -> I_,bool -> B_,string -> T_,slice -> S_,pointer -> P_,tuple -> U_,agg -> A_
open IntKind renaming i64 -> J_
open Ending renaming returned -> R_
open Option renaming some -> X_,none -> Y_
open Bool renaming true -> Y',false -> Z_
open Go renaming World -> Z',Value -> WW,Calls -> WX,Addr -> WY
open Go.RowKit renaming Hid -> WZ
open _root_.Go.Proofs.Tryz renaming prog -> Xa
open Go.World renaming drew -> Xb
open Go.Value renaming string -> Xc,oneCell' -> Xh,bool -> Xr
open List renaming length_take -> Xd,length_filter_le -> Xe,length_map -> Xs,mem_of_mem_take -> Xu,length_cons -> Xz,any_eq_true -> XA,mem_filter -> XE
open _root_.Go.RowKit.Hid renaming o -> Xf
open dm renaming on -> Xg,tf -> Xi,start -> Xj,skip -> Xm,cl -> Xo,fi -> Xp,tk -> Xw,one -> XI,ee -> XJ,dG -> XK
open Mem.c_ renaming new -> Xk
open And renaming intro -> Xl
open Wo renaming St -> Xn
open Nd.rU renaming sub -> Xq
open eU renaming lay -> Xt
open Go.Exit renaming noGoto_normal -> Xv
open dK renaming flat -> Xx
open Tw renaming jE -> Xy,na -> XC,lB -> XL
open Nd.AV renaming arr -> XB
open Go.Instr renaming index -> XD
open ef renaming arr -> XF
open Nd.dJ renaming below -> XG
open dq renaming flat -> XH
open Rd renaming ft -> XM
variable {cs:Array WW} {m:Bool} {F a0 a1 a2 cap r s tm v':Int} {vs xs:List WW} {c e g k n:Nat} {A:Option WY} {q:Prop} {v1 v2 v3 v4 v5:WW} {t:dA}
open _root_.Go.Proofs.Tryz Go.RowKit Wo Tx Ta
section
namespace Nd
def CY {z:Int} (h0:0<=r) (hz: -1<=z/\z<=r): -1<=gu.mT m z r/\gu.mT m z r<=r:=by
 unfold gu.mT
 (repeat' split)<;>omega
def oZ (h0:0<=r): ∀(ms:List Bool) (zs:List Int),(∀z∈zs,-1<=z/\z<=r)-> ∀z∈gu.lE ms zs r,-1<=z/\z<=r
 |[],_,_,z,hz=>by simp [gu.lE] at hz
 |_::_,[],_,z,hz=>by simp [gu.lE] at hz
 |m::ms,z0::zs,h,z,hz=>by
  obtain rfl|hz:=p_ (show z∈gu.mT m z0 r::gu.lE ms zs r from hz)
  .exact CY h0 (h z0 (m_ ..))
  .exact oZ h0 ms zs (λz h'=>h z (n_ _ h')) z hz
def RV.zero:RV:=⟨Y_,0,[],Y_,0,0,[],Z_,Z_,Z_⟩
def AR (x:AV) (k:Nat):Array WW:= #[B_ (decide (0<k)&&x.o0),I_ J_ (if 0<k then x.c0 else 0),B_ (decide (1<k)&&x.o1),I_ J_ (if 1<k then x.c1 else 0),B_ (decide (2<k)&&x.o2),I_ J_ (if 2<k then x.c2 else 0)]
def LU (x:AV) (n0 n1 n2:Bool×Int):Nat->AV
 |0=>x
 |1=>(x.on 0 n0.1).calm 0 n0.2
 |2=>(((x.on 0 n0.1).calm 0 n0.2).on 1 n1.1).calm 1 n1.2
 |_=>(((((x.on 0 n0.1).calm 0 n0.2).on 1 n1.1).calm 1 n1.2).on 2 n2.1).calm 2 n2.2
def K_ (x:AV) (SA:Option WY) (sc:Nat):AV:={x with SA:=SA,sc:=sc,zs:=pQ x,o0:=(Lf x).1,c0:=(Lf x).2,o1:=(Lg x).1,c1:=(Lg x).2,o2:=(Lh x).1,c2:=(Lh x).2}
def VA (x:AV) (EA:Option WY) (ec:Nat) (HA:Option WY) (hn hc:Nat):RV:=⟨EA,ec,Qr x,HA,hn,hc,vF x,(jV x).1,(jV x).2.1,(jV x).2.2⟩
section
variable {C:Cx} {w:Z'} {rt:Xn} {x:AV} {y:RV} {k:Nat}
def yR (h:Rq C rt x RV.zero [] [] C.w) (ho:Ok x):
  WX Xa 63 #[P_ (X_ ⟨C.gr,0,Y_⟩)] C.w λe' w'=>e'=R_ (U_ #[])/\ ∃SA sc EA ec HA hn hc,Rq C rt (K_ x SA sc) (VA x EA ec HA hn hc) [] [] w':=by
 let ⟨w,hw0⟩:=nm (C.w);rw [<-hw0] at h |-;let ⟨gm,hgm⟩:=nm (w.heap.size);have HGM:WZ (C.w.heap.size=gm):=Hd (by rw [hgm,hw0]);clear hw0;have H:=Hd h;have HO:=Hd ho;have HN1:x.p.n<=1000000:=by have:=ho.rf.rc.n;omega
 have hbase: ∀X,Mem.Sl X X.heap.size 5 x.p.A x.p.n (dA.flat x.dD)->x.p.ok X X.heap.size x.dD:=λX hX=>ho.cfg X _ hX
 have HB:=Hd hbase;clear h ho hbase;let ⟨fr,hfr⟩:=nm (x.fr);let ⟨w1,hw1⟩:=nm (w.alloc (.cells #[B_ Z_,B_ Z_,B_ Z_] 32));have HF:=Hd hfr;have H1:WZ (Rq C rt x RV.zero [(gm,32,#[B_ Z_,B_ Z_,B_ Z_])] [] w1):=by rw [hgm,hw1];exact H.ku (dL) Xk l_
 clear H;go_enter func63,ntmps63;go_upto_region 1 with fail;rw [<-hw1,<-hgm];clear hw1 hgm;have k0:w1.cell? ⟨C.gr,0,Y_⟩=X_ (P_ (X_ ⟨C.ga,0,Y_⟩)):=(H1.rs [] []).r 0 d_;have k27:w1.cell? ⟨C.ga,27,Y_⟩=X_ (B_ fr):=by rw [hfr];exact (H1.rs [] []).a 27 d_
 clear hfr;go_upto_if 13 with fail
 clear k0 k27;go_cut [] (λwx=> ∃(x1:AV) (y1:RV) (m0 m1 m2:Bool),WZ (∃A c,x1={x with SA:=A,sc:=c,zs:=pQ x})/\WZ (∃A n c,y1=⟨Y_,0,[],A,n,c,vF x,(jV x).1,(jV x).2.1,(jV x).2.2⟩)/\WZ ((m0,m1,m2)=re x)/\WZ (Rq C rt x1 y1 [(gm,32,#[B_ m0,B_ m1,B_ m2])] [] wx))
 case first=>
  cases fr
  .have HX1:WZ (∃A c,x={x with SA:=A,sc:=c,zs:=pQ x}):=⟨x.SA,x.sc,by have e:pQ x=x.zs:=(by unfold pQ;rw [<-HF.o];rfl);rw [e]⟩
   have HY1:WZ (∃A n c,RV.zero=⟨Y_,0,[],A,n,c,vF x,(jV x).1,(jV x).2.1,(jV x).2.2⟩):=⟨Y_,0,0,by have e:x.fr=Z_:=HF.symm;simp [vF,jV,e,RV.zero]⟩;have HM1:WZ ((Z_,Z_,Z_)=re x):=Hd (by unfold re;rw [<-HF.o];rfl);go_wp2
   go_meet
   .exact ⟨x,RV.zero,Z_,Z_,Z_,HX1,HY1,HM1,H1⟩
  .have HEQ:WZ (pQ x=gu.lE (gu.lV x.p x.a0 x.a1 x.a2 x.dD) x.zs x.r):=by unfold pQ;rw [<-HF.o];rfl
   have HEH:WZ (vF x=gu.ra x.dD (pQ x) x.r):=Hd (by unfold vF;rw [<-HF.o];rfl);have HEP:WZ (jV x=gu.pR x.dD (vF x) Z_ Z_ Z_):=Hd (by unfold jV;rw [<-HF.o];rfl);have HEM:WZ (re x=gu.pR x.dD (gu.lV x.p x.a0 x.a1 x.a2 x.dD) Z_ Z_ Z_):=Hd (by unfold re;rw [<-HF.o];rfl);have HI:WZ (dA.ia x.a0/\dA.ia x.a1/\dA.ia x.a2):=Hd (by have h0:=HO.a0;have h1:=HO.a1;have h2:=HO.a2;unfold dA.ia;omega);clear HF;go_upto_region 2 with fail;let ⟨wc,hwc⟩:=nm (Xb w1);have HC:WZ (Rq C rt x RV.zero [(gm,32,#[B_ Z_,B_ Z_,B_ Z_])] [] wc):=by rw [hwc];exact H1.drew
   have HS:=Hd (HC.rs [] [18]);have HW:=Hd (gu.QO x.p x.dD x.SA x.sc x.zs x.a0 x.a1 x.a2 x.r wc (HB wc HC.qy.sl) HN1 HO.rf.rc.each HI.1 HI.2.1 HI.2.2 HC.since.sl);rw [<-HEQ.o] at HW;unfold XF at HW;have n18:wc.cell? ⟨C.ga,18,Y_⟩=X_ (S_ x.SA x.p.n x.sc):=(HC.rs [] []).a 18 d_;clear H1;have HF1:WZ (∀wx,(WZ (RS C ((RV.zero:RV).arr C.ga) ((x:AV).arr C.gw C.sb) [] [18] [(gm,32,#[B_ Z_,B_ Z_,B_ Z_])] wx))->(wx.cell? ⟨C.gr,0,Y_⟩=X_ (P_ (X_ ⟨C.ga,0,Y_⟩)))/\(wx.cell? ⟨C.ga,0,Y_⟩=X_ (I_ J_ x.p.c0))/\(wx.cell? ⟨C.ga,1,Y_⟩=X_ (I_ J_ x.p.c1))/\(wx.cell? ⟨C.ga,2,Y_⟩=X_ (I_ J_ x.p.c2))/\(wx.cell? ⟨C.ga,3,Y_⟩=X_ (I_ J_ x.p.a0))/\(wx.cell? ⟨C.ga,4,Y_⟩=X_ (I_ J_ x.p.a1))/\(wx.cell? ⟨C.ga,5,Y_⟩=X_ (I_ J_ x.p.a2))/\(wx.cell? ⟨C.ga,6,Y_⟩=X_ (S_ x.p.A x.p.n x.p.c))/\(wx.cell? ⟨C.ga,7,Y_⟩=X_ (I_ J_ x.p.fg))/\(wx.cell? ⟨C.ga,8,Y_⟩=X_ (I_ J_ x.p.ret))/\(wx.cell? ⟨C.ga,9,Y_⟩=X_ (I_ J_ x.p.fE))/\(wx.cell? ⟨C.ga,10,Y_⟩=X_ (I_ J_ x.p.dead))/\(wx.cell? ⟨C.ga,13,Y_⟩=X_ (I_ J_ x.r))/\(wx.cell? ⟨C.ga,23,Y_⟩=X_ (I_ J_ x.a0))/\(wx.cell? ⟨C.ga,24,Y_⟩=X_ (I_ J_ x.a1))/\(wx.cell? ⟨C.ga,25,Y_⟩=X_ (I_ J_ x.a2))):=λwx hwx=>⟨hwx.r 0 d_,hwx.a 0 d_,hwx.a 1 d_,hwx.a 2 d_,hwx.a 3 d_,hwx.a 4 d_,hwx.a 5 d_,hwx.a 6 d_,hwx.a 7 d_,hwx.a 8 d_,hwx.a 9 d_,hwx.a 10 d_,hwx.a 13 d_,hwx.a 23 d_,hwx.a 24 d_,hwx.a 25 d_⟩
   refine Xj (S:=λwx=>WZ (RS C ((RV.zero:RV).arr C.ga) ((x:AV).arr C.gw C.sb) [] [18] [(gm,32,#[B_ Z_,B_ Z_,B_ Z_])] wx)) k_ ?_;rw [<-hwc];clear hwc;refine Xi 5 HS [0,1,2,3,4,5,6,7,8,9,10,11,12,13,14,15,16,18,19,20,21,22,23,24,25,26,27,28,29,30,31,32,33] HF1 ?_;refine Xg 17 4 ?_;refine dm.val rfl rfl (v:=S_ x.SA x.p.n x.sc) (w':=wc) (by go_simp) HS ?_;refine Xg 34 3 ?_;refine Xo ?_;refine HW.mono ?_;rintro e w2 ⟨A1,c1,rfl,hrow,hb2⟩;have HS2:=Hd ((HC.below hb2).rs [] [18]);have H2:=Hd (HC.GX hb2 hrow);have HBN:=Hd HC.ne;have HBM:=Hd (λt ht=>(HC.bne t ht).1);have n18':w2.cell? ⟨C.ga,18,Y_⟩=X_ (S_ x.SA x.p.n x.sc):=((HC.below hb2).rs [] []).a 18 d_;have f18:=(HC.below hb2).oD 18;clear hrow hb2 HW HC HS n18;refine ⟨_,rfl,HS2,?_⟩;refine Xi 1 HS2 [35,36] HF1 ?_;refine Xg 37 0 ?_;refine Xm rfl rfl (w':=w2.setCell ⟨C.ga,18,Y_⟩ (S_ A1 x.p.n c1)) (by go_simp) (Hd (HS2.GY HBN HBM d_)) ?_;clear HS2 HBN HBM n18' f18;refine Xp ?_;let ⟨w3,hw3⟩:=nm (w2.setCell ⟨C.ga,18,Y_⟩ (S_ A1 x.p.n c1));rw [<-hw3] at H2 |-;clear hw3;go_upto_region 3 with fail;let ⟨wc,hwc⟩:=nm (Xb w3);have HC:WZ (Rq C rt {x with SA:=A1,sc:=c1,zs:=pQ x} RV.zero [(gm,32,#[B_ Z_,B_ Z_,B_ Z_])] [] wc):=by rw [hwc];exact H2.drew
   have HS:=Hd (HC.rs [2] []);have HZF:WZ (∀z∈pQ x,-1<=z/\z<=x.r):=by rw [HEQ.o];exact oZ HO.st.r0 _ _ HO.zs
   have HW:=Hd (gu.QP x.p x.dD A1 c1 (pQ x) x.r wc (HB wc HC.qy.sl) HN1 HO.st.r0 (by have:=HO.o.st.r1;omega) HZF HC.since.sl);rw [<-HEH.o] at HW;unfold XF at HW;clear H2 HZF;have HF2:WZ (∀wx,(WZ (RS C ((RV.zero:RV).arr C.ga) (({x with SA:=A1,sc:=c1,zs:=pQ x}:AV).arr C.gw C.sb) [2] [] [(gm,32,#[B_ Z_,B_ Z_,B_ Z_])] wx))->(wx.cell? ⟨C.gr,0,Y_⟩=X_ (P_ (X_ ⟨C.ga,0,Y_⟩)))/\(wx.cell? ⟨C.ga,0,Y_⟩=X_ (I_ J_ x.p.c0))/\(wx.cell? ⟨C.ga,1,Y_⟩=X_ (I_ J_ x.p.c1))/\(wx.cell? ⟨C.ga,2,Y_⟩=X_ (I_ J_ x.p.c2))/\(wx.cell? ⟨C.ga,3,Y_⟩=X_ (I_ J_ x.p.a0))/\(wx.cell? ⟨C.ga,4,Y_⟩=X_ (I_ J_ x.p.a1))/\(wx.cell? ⟨C.ga,5,Y_⟩=X_ (I_ J_ x.p.a2))/\(wx.cell? ⟨C.ga,6,Y_⟩=X_ (S_ x.p.A x.p.n x.p.c))/\(wx.cell? ⟨C.ga,7,Y_⟩=X_ (I_ J_ x.p.fg))/\(wx.cell? ⟨C.ga,8,Y_⟩=X_ (I_ J_ x.p.ret))/\(wx.cell? ⟨C.ga,9,Y_⟩=X_ (I_ J_ x.p.fE))/\(wx.cell? ⟨C.ga,10,Y_⟩=X_ (I_ J_ x.p.dead))/\(wx.cell? ⟨C.ga,13,Y_⟩=X_ (I_ J_ x.r))/\(wx.cell? ⟨C.ga,18,Y_⟩=X_ (S_ A1 x.p.n c1))):=λwx hwx=>⟨hwx.r 0 d_,hwx.a 0 d_,hwx.a 1 d_,hwx.a 2 d_,hwx.a 3 d_,hwx.a 4 d_,hwx.a 5 d_,hwx.a 6 d_,hwx.a 7 d_,hwx.a 8 d_,hwx.a 9 d_,hwx.a 10 d_,hwx.a 13 d_,hwx.a 18 d_⟩
   refine Xj (S:=λwx=>WZ (RS C ((RV.zero:RV).arr C.ga) (({x with SA:=A1,sc:=c1,zs:=pQ x}:AV).arr C.gw C.sb) [2] [] [(gm,32,#[B_ Z_,B_ Z_,B_ Z_])] wx)) k_ ?_;rw [<-hwc];clear hwc;refine Xi 4 HS [0,1,2,3,4,5,6,7,8,9,10,11,12,13,14,15,16,17,18,19,20,21,22] HF2 ?_;refine Xg 23 3 ?_;refine Xo ?_;refine HW.mono ?_;rintro e w2 ⟨A2,c2,rfl,hrow,hb2⟩;have HS2:=Hd ((HC.below hb2).rs [2] []);have H3:=Hd (HC.GZ hb2 hrow);have HBN:=Hd HC.ne;have HBM:=Hd (λt ht=>(HC.bne t ht).2);have n2:w2.cell? ⟨C.gr,2,Y_⟩=X_ (S_ Y_ 0 0):=((HC.below hb2).rs [] []).r 2 d_;have f2:=(HC.below hb2).PJ 2;clear hrow hb2 HW HC HS;refine ⟨_,rfl,HS2,?_⟩;refine Xi 1 HS2 [24,25] HF2 ?_;refine Xg 26 0 ?_;refine Xm rfl rfl (w':=w2.setCell ⟨C.gr,2,Y_⟩ (S_ A2 x.p.n c2)) (by go_simp) (Hd (HS2.G_ HBN HBM d_)) ?_;clear HS2 HBN HBM n2 f2;refine Xp ?_;let ⟨w4,hw4⟩:=nm (w2.setCell ⟨C.gr,2,Y_⟩ (S_ A2 x.p.n c2));rw [<-hw4] at H3 |-;clear hw4;go_upto_region 4 with fail;let ⟨wc,hwc⟩:=nm (Xb w4);have HC:WZ (Rq C rt {x with SA:=A1,sc:=c1,zs:=pQ x} {RV.zero with HA:=A2,hn:=x.p.n,hc:=c2,hs:=vF x} [(gm,32,#[B_ Z_,B_ Z_,B_ Z_])] [] wc):=by rw [hwc];exact H3.drew
   have HS:=Hd (HC.rs [3,4,5] []);have HW:=Hd (gu.mC x.p x.dD A2 c2 (vF x) wc (HB wc HC.qy.sl) HN1 HO.rf.rc.each HC.hs.sl);rw [<-HEP.o] at HW;unfold XF at HW;clear H3;have HF3:WZ (∀wx,(WZ (RS C (({RV.zero with HA:=A2,hn:=x.p.n,hc:=c2,hs:=vF x}:RV).arr C.ga) (({x with SA:=A1,sc:=c1,zs:=pQ x}:AV).arr C.gw C.sb) [3,4,5] [] [(gm,32,#[B_ Z_,B_ Z_,B_ Z_])] wx))->(wx.cell? ⟨C.gr,0,Y_⟩=X_ (P_ (X_ ⟨C.ga,0,Y_⟩)))/\(wx.cell? ⟨C.ga,0,Y_⟩=X_ (I_ J_ x.p.c0))/\(wx.cell? ⟨C.ga,1,Y_⟩=X_ (I_ J_ x.p.c1))/\(wx.cell? ⟨C.ga,2,Y_⟩=X_ (I_ J_ x.p.c2))/\(wx.cell? ⟨C.ga,3,Y_⟩=X_ (I_ J_ x.p.a0))/\(wx.cell? ⟨C.ga,4,Y_⟩=X_ (I_ J_ x.p.a1))/\(wx.cell? ⟨C.ga,5,Y_⟩=X_ (I_ J_ x.p.a2))/\(wx.cell? ⟨C.ga,6,Y_⟩=X_ (S_ x.p.A x.p.n x.p.c))/\(wx.cell? ⟨C.ga,7,Y_⟩=X_ (I_ J_ x.p.fg))/\(wx.cell? ⟨C.ga,8,Y_⟩=X_ (I_ J_ x.p.ret))/\(wx.cell? ⟨C.ga,9,Y_⟩=X_ (I_ J_ x.p.fE))/\(wx.cell? ⟨C.ga,10,Y_⟩=X_ (I_ J_ x.p.dead))/\(wx.cell? ⟨C.gr,2,Y_⟩=X_ (S_ A2 x.p.n c2))):=λwx hwx=>⟨hwx.r 0 d_,hwx.a 0 d_,hwx.a 1 d_,hwx.a 2 d_,hwx.a 3 d_,hwx.a 4 d_,hwx.a 5 d_,hwx.a 6 d_,hwx.a 7 d_,hwx.a 8 d_,hwx.a 9 d_,hwx.a 10 d_,hwx.r 2 d_⟩
   refine Xj (S:=λwx=>WZ (RS C (({RV.zero with HA:=A2,hn:=x.p.n,hc:=c2,hs:=vF x}:RV).arr C.ga) (({x with SA:=A1,sc:=c1,zs:=pQ x}:AV).arr C.gw C.sb) [3,4,5] [] [(gm,32,#[B_ Z_,B_ Z_,B_ Z_])] wx)) k_ ?_;rw [<-hwc];clear hwc;refine Xi 4 HS [0,1,2,3,4,5,6,7,8,9,10,11] HF3 ?_;refine Xg 12 3 ?_;refine Xo ?_;refine HW.mono ?_;rintro e w2 ⟨rfl,hb2⟩;have HS2:=Hd ((HC.below hb2).rs [3,4,5] []);have H4:=Hd ((HC.below hb2).G' (jV x).1 (jV x).2.1 (jV x).2.2);have HBN:=Hd HC.ne;have HBM:=Hd (λt ht=>(HC.bne t ht).2);clear hb2 HW HC HS;refine ⟨_,rfl,HS2,?_⟩;refine Xi 1 HS2 [13,14] HF3 ?_;refine Xg 15 0 ?_;refine Xm rfl rfl (XM (w:=w2) _ _ _ rfl C.gr 3 #[B_ (jV x).1,B_ (jV x).2.1,B_ (jV x).2.2] rfl rfl H4.1 k_ (by simp [Xh])) (Hd (HS2.Uk HBN HBM (λi hi=>by show i<3\/3+3<=i;simp at hi;omega))) ?_
   replace H4:=Hd H4.2
   clear HS2 HBN HBM;refine Xp ?_;let ⟨w5,hw5⟩:=nm (w2.setCells C.gr 3 [B_ (jV x).1,B_ (jV x).2.1,B_ (jV x).2.2]);rw [<-hw5] at H4
   try rw [<-hw5]
   clear hw5;go_upto_region 5 with fail;let ⟨wc,hwc⟩:=nm (Xb w5);have HC:WZ (Rq C rt {x with SA:=A1,sc:=c1,zs:=pQ x} {RV.zero with HA:=A2,hn:=x.p.n,hc:=c2,hs:=vF x,p0:=(jV x).1,p1:=(jV x).2.1,p2:=(jV x).2.2} [(gm,32,#[B_ Z_,B_ Z_,B_ Z_])] [] wc):=by rw [hwc];exact H4.drew
   have HS:=Hd (HC.rs [] []);have HS:=Hd (HS.mono (Zr':=[]) (Za':=[]) (B':=[]) (λ_ h=>h) (λ_ h=>h) (λ_ h=>by cases h));have HW:=Hd (gu.Oz x.p x.dD x.a0 x.a1 x.a2 wc (HB wc HC.qy.sl) HN1 HO.rf.rc.each HI.1 HI.2.1 HI.2.2);unfold XF at HW;clear H4;have HF4:WZ (∀wx,(WZ (RS C (({RV.zero with HA:=A2,hn:=x.p.n,hc:=c2,hs:=vF x,p0:=(jV x).1,p1:=(jV x).2.1,p2:=(jV x).2.2}:RV).arr C.ga) (({x with SA:=A1,sc:=c1,zs:=pQ x}:AV).arr C.gw C.sb) [] [] [] wx))->(wx.cell? ⟨C.gr,0,Y_⟩=X_ (P_ (X_ ⟨C.ga,0,Y_⟩)))/\(wx.cell? ⟨C.ga,0,Y_⟩=X_ (I_ J_ x.p.c0))/\(wx.cell? ⟨C.ga,1,Y_⟩=X_ (I_ J_ x.p.c1))/\(wx.cell? ⟨C.ga,2,Y_⟩=X_ (I_ J_ x.p.c2))/\(wx.cell? ⟨C.ga,3,Y_⟩=X_ (I_ J_ x.p.a0))/\(wx.cell? ⟨C.ga,4,Y_⟩=X_ (I_ J_ x.p.a1))/\(wx.cell? ⟨C.ga,5,Y_⟩=X_ (I_ J_ x.p.a2))/\(wx.cell? ⟨C.ga,6,Y_⟩=X_ (S_ x.p.A x.p.n x.p.c))/\(wx.cell? ⟨C.ga,7,Y_⟩=X_ (I_ J_ x.p.fg))/\(wx.cell? ⟨C.ga,8,Y_⟩=X_ (I_ J_ x.p.ret))/\(wx.cell? ⟨C.ga,9,Y_⟩=X_ (I_ J_ x.p.fE))/\(wx.cell? ⟨C.ga,10,Y_⟩=X_ (I_ J_ x.p.dead))/\(wx.cell? ⟨C.ga,23,Y_⟩=X_ (I_ J_ x.a0))/\(wx.cell? ⟨C.ga,24,Y_⟩=X_ (I_ J_ x.a1))/\(wx.cell? ⟨C.ga,25,Y_⟩=X_ (I_ J_ x.a2))):=λwx hwx=>⟨hwx.r 0 d_,hwx.a 0 d_,hwx.a 1 d_,hwx.a 2 d_,hwx.a 3 d_,hwx.a 4 d_,hwx.a 5 d_,hwx.a 6 d_,hwx.a 7 d_,hwx.a 8 d_,hwx.a 9 d_,hwx.a 10 d_,hwx.a 23 d_,hwx.a 24 d_,hwx.a 25 d_⟩
   refine Xj (S:=λwx=>WZ (RS C (({RV.zero with HA:=A2,hn:=x.p.n,hc:=c2,hs:=vF x,p0:=(jV x).1,p1:=(jV x).2.1,p2:=(jV x).2.2}:RV).arr C.ga) (({x with SA:=A1,sc:=c1,zs:=pQ x}:AV).arr C.gw C.sb) [] [] [] wx)) k_ ?_;rw [<-hwc];clear hwc;refine Xi 3 HS [0,1,2,3,4,5,6,7,8,9,10,11,12,13,14,15,16,17,18,19,20,21] HF4 ?_;refine Xg 22 2 ?_;refine Xo ?_;refine HW.mono ?_;rintro e w2 ⟨A3,c3,rfl,hrow,hb2⟩;let ⟨A9,c9,e9,hrow,hA9⟩:=Dk.gW hrow;cases e9;have H5:=Hd (HC.kt hb2 hrow hA9);have HS2:=Hd ((HC.below hb2).rs [] []);have HS2:=Hd (HS2.mono (Zr':=[]) (Za':=[]) (B':=[]) (λ_ h=>h) (λ_ h=>h) (λ_ h=>by cases h));have HV:=Hd (gu.mC x.p x.dD A3 c3 (gu.lV x.p x.a0 x.a1 x.a2 x.dD) w2 (HB w2 H5.qy.sl) HN1 HO.rf.rc.each (H5.row (m_ ..)).sl);rw [<-HEM.o] at HV;unfold XF at HV;clear hrow hb2 hA9 HW HC HS;refine ⟨_,rfl,HS2,?_⟩;refine Xg 23 1 ?_;refine Xo ?_;refine HV.mono ?_;rintro e w6 ⟨rfl,hb6⟩;have H6:=Hd ((H5.below hb6).sub (R':=[]) (λ_ h=>h) (λ_ h=>by cases h));have HS3:=Hd ((H5.below hb6).rs [] []);have HS3:=Hd (HS3.mono (Zr':=[]) (Za':=[]) (B':=[]) (λ_ h=>h) (λ_ h=>h) (λ_ h=>by cases h));clear hb6 HV H5 HS2;refine ⟨_,rfl,HS3,?_⟩;refine Xg 24 0 ?_;have HGN:=Hd (H6.bne _ (m_ ..));refine Xm rfl rfl (XM (w:=w6) _ _ _ rfl gm 0 #[B_ (re x).1,B_ (re x).2.1,B_ (re x).2.2] rfl rfl (eU.gP (H6.dr (m_ ..)) (by simp)) k_ (by simp [Xh])) (Hd (HS3.Ha HGN.1 HGN.2 (λ_ h=>by cases h))) ?_;have H7:=Hd (H6.tq (w':=w6.setCells gm 0 [B_ (re x).1,B_ (re x).2.1,B_ (re x).2.2]) (cs':= #[B_ (re x).1,B_ (re x).2.1,B_ (re x).2.2]) (λ_ h=>by cases h) (λ_ h=>by cases h) (by have:=HGM.o;omega) (eU.eI _ _ _) (by have:=eU.gv [B_ (re x).1,B_ (re x).2.1,B_ (re x).2.2] 0 _ _ (H6.dr (m_ ..));simpa [Xt] using this));clear H6 HS3 HGN;refine Xp ?_;go_wp2
   go_meet
   .exact ⟨_,_,_,_,_,Hd ⟨A1,c1,rfl⟩,Hd ⟨A2,x.p.n,c2,rfl⟩,Hd rfl,H7⟩
 case rest=>
  let ⟨x1,y1,m0,m1,m2,HX1,HY1,HM1,H1⟩:=hcut;clear HB;have HE1:WZ (x1.r=x.r/\x1.o0=x.o0/\x1.o1=x.o1/\x1.o2=x.o2/\x1.c0=x.c0/\x1.c1=x.c1/\x1.c2=x.c2/\x1.fr=x.fr/\x1.p=x.p):=by let ⟨A,c,e⟩:=HX1;rw [e];exact ⟨rfl,rfl,rfl,rfl,rfl,rfl,rfl,rfl,rfl⟩
  have HGL:WZ (gm<wc.heap.size):=(H1.dr (m_ ..)).lt;let ⟨gl,hgl⟩:=nm (wc.heap.size);let ⟨w2,hw2⟩:=nm (wc.alloc (.cells #[B_ Z_,I_ J_ 0,B_ Z_,I_ J_ 0,B_ Z_,I_ J_ 0] 204));have H2:WZ (Rq C rt x1 y1 [(gl,204,AR x1 0),(gm,32,#[B_ m0,B_ m1,B_ m2])] [] w2):=by rw [hw2,hgl];exact H1.ku (dL) Xk l_
  have HLG:WZ (C.w.heap.size<=gl/\gm≠gl):=Hd (by have:=HGL.o;have:=HGM.o;omega);clear H1 HGL;go_upto_region 7 with fail;rw [<-hw2,<-hgl];clear hw2 hgl;go_wp2;go_loopw [116] (λvi wr=> ∃k:Nat,k<=3/\vi=I_ J_ k/\WZ (Rq C rt x1 y1 [(gl,204,AR x1 k),(gm,32,#[B_ m0,B_ m1,B_ m2])] [] wr)) (λvi _=>3 - (intOf vi).toNat)
  .exact ⟨0,o_,rfl,H2⟩
  ·
   clear H2;obtain ⟨k,hk,rfl,HX⟩:=hrel;by_cases hlt:k<3
   .have hk3:k=0\/k=1\/k=2:=o_
    have HF5:WZ (∀wx,(WZ (RS C ((y1:RV).arr C.ga) ((x1:AV).arr C.gw C.sb) [] [] [] wx))->Ce wx C.gr 0 (P_ (X_ ⟨C.ga,0,Y_⟩))/\Ce wx C.ga 15 (B_ x1.o0)/\Ce wx C.ga 16 (B_ x1.o1)/\Ce wx C.ga 17 (B_ x1.o2)/\Ce wx C.ga 19 (I_ J_ x1.c0)/\Ce wx C.ga 20 (I_ J_ x1.c1)/\Ce wx C.ga 21 (I_ J_ x1.c2)):=λwx h=>⟨h.r 0 d_,h.a 15 d_,h.a 16 d_,h.a 17 d_,h.a 19 d_,h.a 20 d_,h.a 21 d_⟩
    let ⟨wc,hwc⟩:=nm (Xb wr);have HC:WZ (Rq C rt x1 y1 [(gl,204,AR x1 k),(gm,32,#[B_ m0,B_ m1,B_ m2])] [] wc):=by rw [hwc];exact HX.drew
    have Hwc:=Hd hwc;have HS:=Hd ((HC.rs [] []).mono (Zr':=[]) (Za':=[]) (B':=[]) (λ_ h=>h) (λ_ h=>h) (λ_ h=>by cases h));have HGN:=Hd (HC.bne _ (m_ ..));have H3:WZ (∀(o k':Nat) (cs:List WW),Xt (AR x1 k) o cs=AR x1 k'->Rq C rt x1 y1 [(gl,204,AR x1 k'),(gm,32,#[B_ m0,B_ m1,B_ m2])] [] (wc.setCells gl o cs)):=λo k' cs e=>HC.tq (λt ht=>by obtain rfl|ht:=p_ ht;exact HLG.2;cases ht) (λ_ h=>by cases h) HLG.1 (eU.eI _ _ _) (e▸eU.gv cs o _ _ (HC.dr (m_ ..)))
    clear HX hwc;obtain rfl|rfl|rfl:=hk3
    all_goals
     first|rw [show ((0:Nat):Int)=(0:Int) from rfl]|rw [show ((1:Nat):Int)=(1:Int) from rfl]|rw [show ((2:Nat):Int)=(2:Int) from rfl]
     go_upto_region 10 with fail;refine dm.st HF5 ?_;rw [<-Hwc.o];refine Xi 1 HS [0,1,2,3,4,5,6,7,8,9,10,11,12,13,14,15,16,17,18,19,20,21] HF5 ?_;refine Xg 22 0 ?_;refine Xm rfl rfl (XM (w:=wc) _ _ _ rfl gl _ _ rfl rfl (eU.gP (HC.dr (m_ ..)) (by simp [AR])) k_ (by simp [Xh])) (Hd (HS.Ha HGN.1 HGN.2 (λ_ h=>by cases h))) ?_;clear HC HS HGN Hwc;refine Xp ?_;go_wp2;go_roundw
     .first|exact ⟨1,o_,by go_num,H3 _ _ _ (by simp [Xt,AR])⟩|exact ⟨2,o_,by go_num,H3 _ _ _ (by simp [Xt,AR])⟩|exact ⟨3,o_,by go_num,H3 _ _ _ (by simp [Xt,AR])⟩
     .simp [intOf]
   .obtain rfl:k=3:=o_
    go_upto_region 12 with fail;let ⟨wc,hwc⟩:=nm (Xb wr);have HC:WZ (Rq C rt x1 y1 [(gl,204,AR x1 3),(gm,32,#[B_ m0,B_ m1,B_ m2])] [] wc):=by rw [hwc];exact HX.drew
    have HS:=Hd (HC.rs [1] []);have HS:=Hd (HS.mono (Zr':=[1]) (Za':=[]) (B':=[(gm,32,#[B_ m0,B_ m1,B_ m2])]) (λ_ h=>h) (λ_ h=>h) (λ_ h=>n_ _ h));clear HX;have HK:WZ ((0<=x1.c0/\x1.c0<=100000)/\(0<=x1.c1/\x1.c1<=100000)/\(0<=x1.c2/\x1.c2<=100000)):=by obtain ⟨-,-,-,-,e1,e2,e3,-⟩:=HE1;rw [e1,e2,e3];exact ⟨HO.c0,HO.c1,HO.c2⟩
    have HW:=Hd (Tw.QG x1.o0 x1.o1 x1.o2 x1.c0 x1.c1 x1.c2 y1.p0 y1.p1 y1.p2 m0 m1 m2 x1.fr x1.p.fg wc HK.1 HK.2.1 HK.2.2);unfold Tw.ik Tw.jw at HW;let ⟨n0,hn0⟩:=nm (Tw.dU x1.o0 x1.c0 y1.p0 m0 x1.fr x1.p.fg);let ⟨n1,hn1⟩:=nm (Tw.dU x1.o1 x1.c1 y1.p1 m1 x1.fr x1.p.fg);let ⟨n2,hn2⟩:=nm (Tw.dU x1.o2 x1.c2 y1.p2 m2 x1.fr x1.p.fg);rw [<-hn0,<-hn1,<-hn2] at HW;have HN:=Hd (Xl hn0 (Xl hn1 hn2));clear hn0 hn1 hn2 HK;have z0:wc.cell? ⟨gl,0,Y_⟩=X_ (B_ x1.o0):=(HC.dr (m_ ..)).cell 0;have z1:wc.cell? ⟨gl,1,Y_⟩=X_ (I_ J_ x1.c0):=(HC.dr (m_ ..)).cell 1;have z2:wc.cell? ⟨gl,2,Y_⟩=X_ (B_ x1.o1):=(HC.dr (m_ ..)).cell 2;have z3:wc.cell? ⟨gl,3,Y_⟩=X_ (I_ J_ x1.c1):=(HC.dr (m_ ..)).cell 3;have z4:wc.cell? ⟨gl,4,Y_⟩=X_ (B_ x1.o2):=(HC.dr (m_ ..)).cell 4;have z5:wc.cell? ⟨gl,5,Y_⟩=X_ (I_ J_ x1.c2):=(HC.dr (m_ ..)).cell 5;have HF8:WZ (∀wx,(WZ (RS C ((y1:RV).arr C.ga) ((x1:AV).arr C.gw C.sb) [1] [] [(gm,32,#[B_ m0,B_ m1,B_ m2])] wx))->(wx.cell? ⟨C.gr,0,Y_⟩=X_ (P_ (X_ ⟨C.ga,0,Y_⟩)))/\(wx.cell? ⟨C.gr,3,Y_⟩=X_ (B_ y1.p0))/\(wx.cell? ⟨C.gr,4,Y_⟩=X_ (B_ y1.p1))/\(wx.cell? ⟨C.gr,5,Y_⟩=X_ (B_ y1.p2))/\(wx.cell? ⟨C.ga,27,Y_⟩=X_ (B_ x1.fr))/\(wx.cell? ⟨C.ga,7,Y_⟩=X_ (I_ J_ x1.p.fg))/\(wx.cell? ⟨gm,0,Y_⟩=X_ (B_ m0))/\(wx.cell? ⟨gm,1,Y_⟩=X_ (B_ m1))/\(wx.cell? ⟨gm,2,Y_⟩=X_ (B_ m2))):=λwx hwx=>⟨hwx.r 0 d_,hwx.r 3 d_,hwx.r 4 d_,hwx.r 5 d_,hwx.a 27 d_,hwx.a 7 d_,hwx.b _ (m_ ..) 0,hwx.b _ (m_ ..) 1,hwx.b _ (m_ ..) 2⟩
    refine Xj (S:=λwx=>WZ (RS C ((y1:RV).arr C.ga) ((x1:AV).arr C.gw C.sb) [1] [] [(gm,32,#[B_ m0,B_ m1,B_ m2])] wx)) k_ ?_;rw [<-hwc];clear hwc;refine Xi 9 HS [0,2,3,4,5,6,7,8,9,10,11,12,13,14,15,16,17,18,19,20,21] HF8 ?_;refine Xg 1 8 ?_;refine dm.val rfl rfl (v:=A_ #[B_ x1.o0,I_ J_ x1.c0,B_ x1.o1,I_ J_ x1.c1,B_ x1.o2,I_ J_ x1.c2]) (w':=wc) (by go_simp) HS ?_;refine Xg 22 7 ?_;refine Xo ?_;refine HW.mono ?_;rintro e w2 ⟨A,n,c,rfl,(HBL:WZ _)⟩;have H2:=Hd (HC.below HBL.below);have HS2:=Hd (H2.rs [1] []);have HS2:=Hd (HS2.mono (Zr':=[1]) (Za':=[]) (B':=[(gm,32,#[B_ m0,B_ m1,B_ m2])]) (λ_ h=>h) (λ_ h=>h) (λ_ h=>n_ _ h));clear HW HS z0 z1 z2 z3 z4 z5;refine ⟨_,rfl,HS2,?_⟩;refine Xi 4 HS2 [23,24,25] HF8 ?_;refine Xg 26 3 ?_;have HGN:=Hd (H2.bne _ (m_ ..));refine Xm rfl rfl (XM (w:=w2) _ _ _ rfl gl 0 #[B_ n0.1,I_ J_ n0.2,B_ n1.1,I_ J_ n1.2,B_ n2.1,I_ J_ n2.2] rfl rfl (eU.gP (H2.dr (m_ ..)) (by simp [AR])) k_ (by simp [Xh])) (Hd (HS2.Ha HGN.1 HGN.2 (λt ht=>by obtain rfl|ht:=p_ ht;exact HLG.2;cases ht))) ?_;let ⟨w3,hw3⟩:=nm (w2.setCells gl 0 [B_ n0.1,I_ J_ n0.2,B_ n1.1,I_ J_ n1.2,B_ n2.1,I_ J_ n2.2]);have H4:WZ (Rq C rt x1 {y1 with EA:=A,ec:=c,ev:=(XC 0 x1.o0 n0.1++XC 1 x1.o1 n1.1++XC 2 x1.o2 n2.1)} [(gl,204,#[B_ n0.1,I_ J_ n0.2,B_ n1.1,I_ J_ n1.2,B_ n2.1,I_ J_ n2.2]),(gm,32,#[B_ m0,B_ m1,B_ m2])] [] (w3.setCell ⟨C.gr,1,Y_⟩ (S_ A n c))):=HC.V_ (w':=w3) HBL.below HBL.row HBL.fresh (by have h0:(XC 0 x1.o0 n0.1++XC 1 x1.o1 n1.1++XC 2 x1.o2 n2.1).length*4=n*4:=(by have:=HBL.o.row.len;rw [dX.dO] at this;exact this);omega) (λt ht=>by obtain rfl|ht:=p_ ht;exact HLG.2;cases ht) (λ_ h=>by cases h) HLG.1 (by rw [hw3];exact eU.eI _ _ _) (by rw [hw3];have:=eU.gv [B_ n0.1,I_ J_ n0.2,B_ n1.1,I_ J_ n1.2,B_ n2.1,I_ J_ n2.2] 0 _ _ (H2.dr (m_ ..));simpa [Xt,AR] using this);have H3:WZ (Rq C rt x1 y1 [(gl,204,#[B_ n0.1,I_ J_ n0.2,B_ n1.1,I_ J_ n1.2,B_ n2.1,I_ J_ n2.2]),(gm,32,#[B_ m0,B_ m1,B_ m2])] [] w3):=Hd (by rw [hw3];exact H2.tq (λt ht=>by obtain rfl|ht:=p_ ht;exact HLG.2;cases ht) (λ_ h=>by cases h) HLG.1 (eU.eI _ _ _) (by have:=eU.gv [B_ n0.1,I_ J_ n0.2,B_ n1.1,I_ J_ n1.2,B_ n2.1,I_ J_ n2.2] 0 _ _ (H2.dr (m_ ..));simpa [Xt,AR] using this));have HS3:=Hd (H3.rs [1] []);have HS3:=Hd (HS3.mono (Zr':=[1]) (Za':=[]) (B':=[(gm,32,#[B_ m0,B_ m1,B_ m2])]) (λ_ h=>h) (λ_ h=>h) (λ_ h=>n_ _ h));have HBN:=Hd H3.ne;have HBM:=Hd (λt ht=>(H3.bne t (n_ _ ht)).2);have n1':w3.cell? ⟨C.gr,1,Y_⟩=X_ (S_ y1.EA y1.ev.length y1.ec):=(H3.rs [] []).r 1 d_;have f1':=H3.PJ 1
    try rw [<-hw3]
    clear hw3 H2 H3 HC HBL HS2 HGN;refine Xi 1 HS3 [27,28] HF8 ?_;refine Xg 29 0 ?_;refine Xm rfl rfl (w':=w3.setCell ⟨C.gr,1,Y_⟩ (S_ A n c)) (by go_simp) (Hd (HS3.G_ HBN HBM d_)) ?_;let ⟨w4,hw4⟩:=nm (w3.setCell ⟨C.gr,1,Y_⟩ (S_ A n c));rw [<-hw4] at H4 |-;clear hw4 HS3 HBN HBM n1' f1';refine Xp ?_;obtain ⟨y2,hy2⟩: ∃y2:RV,y2={y1 with EA:=A,ec:=c,ev:=(XC 0 x1.o0 n0.1++XC 1 x1.o1 n1.1++XC 2 x1.o2 n2.1)}:=⟨_,rfl⟩;rw [<-hy2] at H4;have HY2:=Hd hy2;clear hy2;have HM4:=Hd (H4.dr (m_ ..));have z0:w4.cell? ⟨gl,0,Y_⟩=X_ (B_ n0.1):=HM4.cell 0;have z1:w4.cell? ⟨gl,1,Y_⟩=X_ (I_ J_ n0.2):=HM4.cell 1;have z2:w4.cell? ⟨gl,2,Y_⟩=X_ (B_ n1.1):=HM4.cell 2;have z3:w4.cell? ⟨gl,3,Y_⟩=X_ (I_ J_ n1.2):=HM4.cell 3;have z4:w4.cell? ⟨gl,4,Y_⟩=X_ (B_ n2.1):=HM4.cell 4;have z5:w4.cell? ⟨gl,5,Y_⟩=X_ (I_ J_ n2.2):=HM4.cell 5;have H5:=Hd H4.nil;clear HM4 H4 HLG;go_wp2_with fail;clear z0 z1 z2 z3 z4 z5;let ⟨wo,hwo⟩:=nm wr;clear hwo;go_loopw [171] (λvi wr=> ∃k:Nat,k<=3/\vi=I_ J_ k/\WZ (Rq C rt (LU x1 n0 n1 n2 k) y2 [] [] wr)) (λvi _=>3 - (intOf vi).toNat)
    .exact ⟨0,o_,rfl,H5⟩
    ·
     clear H5;obtain ⟨k,hk,rfl,HX⟩:=hrel;by_cases hlt:k<3
     .have hk3:k=0\/k=1\/k=2:=o_
      obtain ⟨b,c,hi,hs⟩: ∃(b:Bool) (c:Int),(if k=0 then #[Xr n0.1,I_ J_ n0.2] else if k=1 then #[Xr n1.1,I_ J_ n1.2] else #[Xr n2.1,I_ J_ n2.2])= #[Xr b,I_ J_ c]/\((LU x1 n0 n1 n2 k).on k b).calm k c=LU x1 n0 n1 n2 (k+1):=by
       obtain rfl|rfl|rfl:=hk3<;>exact ⟨_,_,rfl,rfl⟩
      have HI:WZ (∀(X:Z') (j:Int),j=k->(XD 204 (A_ #[n0.1,n0.2,n1.1,n1.2,n2.1,n2.2]) (I_ J_ j)).run Xa X= .ok (A_ #[B_ b,I_ J_ c]) X):=λX j e=>by rw [e,<-hi];exact Tw.GD n0.1 n1.1 n2.1 n0.2 n1.2 n2.2 X k hlt
      let ⟨g6,hg6⟩:=nm (wr.heap.size);let ⟨w6,hw6⟩:=nm (wr.alloc (.cells #[B_ b,I_ J_ c] 203));have H6:WZ (Rq C rt (LU x1 n0 n1 n2 k) y2 [(g6,203,#[B_ b,I_ J_ c])] [] w6):=by rw [hw6,hg6];exact HX.ku (dL) Xk l_
      let ⟨wc,hwc⟩:=nm (Xb w6);have HC:WZ (Rq C rt (LU x1 n0 n1 n2 k) y2 [(g6,203,#[B_ b,I_ J_ c])] [] wc):=by rw [hwc];exact H6.drew
      have Hwc:=Hd hwc;have HS:=Hd (HC.rs [] [15,16,17,19,20,21]);have f1:=HC.oD (15+k);have H7:=Hd (HC.Ul k hlt b);let ⟨w7,hw7⟩:=nm (wc.setCell ⟨C.ga,15+k,Y_⟩ (B_ b));rw [<-hw7] at H7;have HS7:WZ (RS C (y2.arr C.ga) (XB (LU x1 n0 n1 n2 k) C.gw C.sb) [] [15,16,17,19,20,21] [(g6,203,#[B_ b,I_ J_ c])] w7):=by rw [hw7];exact HS.GY HC.ne (λt ht=>(HC.bne t ht).1) (by simp;omega)
      have f2:=H7.oD (19+k);let ⟨w8,hw8⟩:=nm (w7.setCell ⟨C.ga,19+k,Y_⟩ (I_ J_ c));have H8:WZ (Rq C rt (LU x1 n0 n1 n2 (k+1)) y2 [] [] w8):=by rw [<-hs,hw8];exact (H7.LV k hlt c).nil
      have HS8:WZ (RS C (y2.arr C.ga) (XB (LU x1 n0 n1 n2 k) C.gw C.sb) [] [15,16,17,19,20,21] [(g6,203,#[B_ b,I_ J_ c])] w8):=by rw [hw8];exact HS7.GY H7.ne (λt ht=>(H7.bne t ht).1) (by simp;omega)
      obtain ⟨⟨v1,hv1⟩,v2,hv2⟩:(∃v,wc.cell? ⟨C.ga,15+k,Y_⟩=X_ v)/\ ∃v,w7.cell? ⟨C.ga,19+k,Y_⟩=X_ v:=by
       have a1:=(HC.rs [] []).a (15+k) (by simp);have a2:=(H7.rs [] []).a (19+k) (by simp);obtain rfl|rfl|rfl:=hk3<;>exact ⟨⟨_,a1⟩,_,a2⟩
      have HF9:WZ (∀wx,(WZ (RS C ((y2:RV).arr C.ga) (((LU x1 n0 n1 n2 k):AV).arr C.gw C.sb) [] [15,16,17,19,20,21] [(g6,203,#[B_ b,I_ J_ c])] wx))->Ce wx C.gr 0 (P_ (X_ ⟨C.ga,0,Y_⟩))/\Ce wx g6 0 (B_ b)/\Ce wx g6 1 (I_ J_ c)):=λwx h=>⟨h.r 0 d_,h.b _ (m_ ..) 0,h.b _ (m_ ..) 1⟩
      have Hw7:=Hd hw7;have Hw8:=Hd hw8;clear HX hi hs H6 H7 HC hwc hw7 hw8;obtain rfl|rfl|rfl:=hk3
      all_goals
       simp only [Nat.reduceAdd,Nat.add_zero] at hv1 f1 hv2 f2 Hw7 Hw8
       first|(rw [show ((0:Nat):Int)=(0:Int) from rfl];have hix:=λX=>HI.o X 0 rfl)|(rw [show ((1:Nat):Int)=(1:Int) from rfl];have hix:=λX=>HI.o X 1 rfl)|(rw [show ((2:Nat):Int)=(2:Int) from rfl];have hix:=λX=>HI.o X 2 rfl)
       go_upto_region 16 with fail;rw [<-hw6,<-hg6];clear hw6 hg6 hix HI;refine dm.st HF9 ?_;rw [<-Hwc.o];refine Xi 3 HS [0,1,2,3,4,5,6,7,8,9,10,11,12,13,14,15,16,17,19,20] HF9 ?_;refine Xg 18 2 ?_;refine Xm rfl rfl (w':=w7) (by rw [Hw7.o];go_simp) HS7 ?_;refine Xi 1 HS7 [21] HF9 ?_;refine Xg 22 0 ?_;refine Xm rfl rfl (w':=w8) (by rw [Hw8.o];go_simp) HS8 ?_;clear hv1 f1 hv2 f2 Hw7 Hw8 HS HS7 HS8 Hwc;refine Xp ?_;go_wp2;go_roundw
       .first|exact ⟨1,o_,by go_num,H8⟩|exact ⟨2,o_,by go_num,H8⟩|exact ⟨3,o_,by go_num,H8⟩
       .simp [intOf]
     .obtain rfl:k=3:=o_
      go_wp2;refine bodyPost_end (results_none rfl _ _ _) rfl ⟨rfl,?_⟩;let ⟨A1,c1,e1⟩:=HX1;let ⟨A2,n2',c2,e2⟩:=HY1;let ⟨f0,f1,f2⟩:=HN;have em:=HM1.o;have e0:m0=(re x).1:=by rw [<-em]
      have e3:m1=(re x).2.1:=by rw [<-em]
      have e4:m2=(re x).2.2:=by rw [<-em]
      rw [e1,e2,e0] at f0;rw [e1,e2,e3] at f1;rw [e1,e2,e4] at f2;have h9:=HX.o;rw [HY2.o,f0,f1,f2,e1,e2] at h9;exact ⟨A1,c1,A,c,A2,n2',c2,h9⟩
def mC (h:Rq C rt x RV.zero [] [] w) (I:Ok x):
  WX Xa 63 #[P_ (X_ ⟨C.gr,0,Y_⟩)] w λF w'=>F=R_ (U_ #[])/\ ∃SA sc EA ec HA hn hc,Rq C rt (K_ x SA sc) (VA x EA ec HA hn hc) [] [] w':=by
 let ⟨b',h,t⟩:=h;refine (yR (C:={C with w:=w,b':=b'}) h.at_.start I).mono ?_;rintro F w' ⟨G,SA,sc,EA,ec,HA,hn,hc,O⟩;exact ⟨G,SA,sc,EA,ec,HA,hn,hc,O.back t⟩
end
def ow (q r kind:Int): ∀(l:List ByteArray) (p:Xn×List dX),(asks q r kind p l).2.length<=p.2.length+l.length
 |[],p=>by simp [asks]
 |id::l,p=>by
  have h:=ow q r kind l (iB q r kind p id);have h2:(iB q r kind p id).2.length<=p.2.length+1:=by unfold iB;dsimp only;split<;>simp
  show (asks q r kind (iB q r kind p id) l).2.length<=_
  simp only [Xz];omega
def iI (q r kind:Int): ∀(l:List ByteArray) (p:Xn×List dX),eu k p.1->eu k (asks q r kind p l).1
 |[],_,h=>h
 |id::l,p,h=>iI q r kind l (iB q r kind p id) (mz h)
def WL (bx:List dP) (us:List ByteArray) (w:Z') (e:Ending) (w':Z'):Prop:= ∃(A':Option WY) (c' n':Nat) (ys:List dP),e=R_ (S_ A' n' c')/\ys.Perm (bx.filter (Tw.fF us))/\eF w w' 9 1 A' n' c' ((ys.take n').map λb=>Xc b.id)
section
variable {C:Cx} {w:Z'} {rt:Xn} {x:AV} {y:RV} {k:Nat}
def UI {p:Prop} (k:q) (h:Wq q->p:=by
 intro kq;refine dm.dn 16 5 ?_;refine dm.call rfl rfl (by go_simp;exact ⟨rfl,rfl⟩) ?_;refine HA.o.mono ?_;rintro e w4 ⟨rfl,hq⟩;have O:=Hd (hq.rs [] []);have H6:=Hd hq;clear hq;refine ⟨_,rfl,O,?_⟩;refine dm.tk 0 O [17,18,19,20,21] ?_
 iterate 5 (refine dm.dG rfl (λK' F=>?_);go_simp;(first|(refine F _ ?_;clear F K')|(apply Exists.intro;refine ⟨λwx aa=>?_,F _ ?_⟩;(first|rfl|(have k0:Ce wx C.gr 0 (P_ (some ⟨C.ga,0,none⟩)):=(Hid.o aa).r 0 d_;have aP:Ce wx C.ga 11 (P_ (some ⟨C.gw,0,none⟩)):=(Hid.o aa).a 11 d_;have aO:Ce wx C.ga 13 x.r:=(Hid.o aa).a 13 d_;go_simp;first|done|rfl));clear F K')))
 refine dm.df ?_
 revert w4 O H6
 exact kq.o):p:=h ⟨k⟩
def OS {p:Prop} (h:p:=by
 rintro e w7 ⟨rfl,A3,c3,hq⟩;have H7:=Hd hq;clear hq H6;go_wp2_with fail;go_roundw
 .exact ⟨j+1,A3,c3,o_,by go_num,Hd (by rw [ah.o];unfold iB;rw [<-ai.o.1,<-ai.o.2,<-aG.o];exact H7.o)⟩
 .simp [intOf];omega):p:=h
def OT {p:Prop} (k:q) (h:Wq q->p:=by
 intro kq;have HL:=Hd ((H3.o.kt hB.below hB.row hB.fresh).sub (λ_ h=>h) (λt ht=>by rw [List.mem_singleton] at ht;rw [ht];exact m_ ..));have bb:n5<=90000:=by have e1:=hB.row.len;have e2:=aI.o;simp at e1;omega
 revert HL bb
 exact kq.o):p:=h ⟨k⟩
def OU {p:Prop} (k:q) (h:Wq q->p:=by
 intro kq;have ar:=Hd (h.rs [] []);have k0:Ce w C.gr 0 (P_ (some ⟨C.ga,0,none⟩)):=ar.o.r 0 d_;have HI:=Hd (Ot C.gr C.ga x.l x.PA x.pc w k0 (ar.o.a 14 d_) h.gT o_);have H:=Hd h;have aJ:=Hd hF
 revert ar k0 HI H aJ
 exact kq.o):p:=h ⟨k⟩
def OV {p:Prop} (h:p:=by
 go_wp2_with fail;go_roundw
 .exact ⟨j+1,EA,ec,o_,by go_num,Hd (by rw [ah.o];unfold iB;rw [<-ai.o.1,<-ai.o.2,<-aG.o];exact H6.o)⟩
 .simp [intOf];omega):p:=h
def OW {p:Prop} (k:q) (h:Wq q->p:=by
 intro kq;refine dm.start (S:=λwx=>Hid (RS C (({y with EA:=EA,ec:=ec,ev:=aw}:RV).arr C.ga) (x.arr C.gw C.sb) [] [] [] wx)) k_ ?_;exact kq.o):p:=h ⟨k⟩
def Ms (h:Rq C rt x y [] [] w) (hF:eu k rt) (hk:k<=9000) (hl:x.l.length<=1000) (hv:y.ev.length<=70000) (hd:x.p.dead<=1000000):
  WX Xa 64 #[P_ (X_ ⟨C.gr,0,Y_⟩)] w λe' w'=>e'=R_ (U_ #[])/\ ∃(xs:List ByteArray) (EA:Option WY) (ec:Nat),xs.length<=rt.bx.length/\(∀id∈xs,∃b∈rt.bx,b.id=id/\Tw.fF (gi x.l) b=Y')/\
   Rq C (asks 4 x.r 13 ({rt with im:=fZ x.r rt.im (eE x.l)},y.ev) xs).1 x {y with EA:=EA,ec:=ec,ev:=(asks 4 x.r 13 ({rt with im:=fZ x.r rt.im (eE x.l)},y.ev) xs).2} [] [] w':=by
 refine OU ?_;intro ar k0 HI H aJ;obtain ⟨G,ab⟩: ∃G:Xn,G={rt with im:=fZ x.r rt.im (eE x.l)}:=⟨_,rfl⟩;rw [<-ab];have aN:=Hd ab;have az:=Hd (show G.bx=rt.bx from by rw [ab]);clear h hF ar k0 ab;go_enter func64,ntmps64;go_wp2_with fail;refine HI.o.mono ?_;rintro e w1 ⟨A1,A2,c1,c2,rfl,r1,r2,n1,n2,aE⟩;have H1:=Hd (H.o.UJ aE r1 n1 r2 n2);clear r1 r2 n1 n2 aE HI H;go_upto_region 1 with fail;let ⟨wc,X⟩:=nm (Xb w1);have HC:=Hd (show Rq C rt x y [] [⟨9,1,A1,x.l.length,c1,(gi x.l).map Xc⟩,⟨9,1,A2,x.l.length,c2,(eE x.l).map Xc⟩] wc from by rw [X];exact H1.o.drew);have I:=Hd (HC.o.rs [] []);have HW:=Hd (HC.o.To (d:=c2) (round:=x.r) aJ.o.eN (show Strs wc wc.heap.size A2 x.l.length (eE x.l) from (HC.o.row (n_ _ (m_ ..))).sl) o_);have HF:=Hd (aJ.o.TR (round:=x.r) (eE x.l));rw [<-aN.o] at HW HF;clear H1;refine Xj (S:=λwx=>WZ (RS C (y.arr C.ga) (x.arr C.gw C.sb) [] [] [] wx)) k_ ?_;rw [<-X];clear X;refine Xw 1 I [0,1,2,3,4,5,6,7,8,9,10,11,12,13,14,15] ?_;refine Mu ?_;refine dm.dn 16 0 ?_;refine wV ?_;refine HW.o.mono ?_;rintro e w2 ⟨rfl,hq⟩;have O:=Hd (hq.rs [] []);have H2:=Hd hq;clear hq HW I HC;refine ⟨_,rfl,O,?_⟩;refine Xp ?_;have k0:Ce w2 C.gr 0 (P_ (X_ ⟨C.ga,0,Y_⟩)):=O.o.r 0 d_;have k4:Ce w2 C.gr 4 y.p1:=O.o.r 4 d_;have Kf:Ce w2 C.ga 10 x.p.dead:=O.o.a 10 d_;have xi:Ce w2 C.ga 11 (P_ (X_ ⟨C.gw,0,Y_⟩)):=O.o.a 11 d_;have HQ:=Hd (H2.o.NS HF.o.eN);clear O;let ⟨p1,aB⟩:=nm (y.p1);rw [<-aB] at k4;clear aB;cases p1
 all_goals
  go_wp2_with fail;refine HQ.o.mono ?_;rintro e w3 ⟨A3,c3,rfl,hq⟩;have H3:=Hd hq;have ag:=HF.o.lb;have HE:=Hd (λ(kp:Int) (hkp:kp<=1000000)=>(Tw.Mv A3 A1 G.bx.length c3 x.l.length c1 kp G.bx (gi x.l) w3 (H3.o.row (m_ ..)).sl rfl o_ (H3.o.row (n_ _ (m_ ..))) o_ hkp).mono (R':=WL G.bx (gi x.l) w3) (λe w' ⟨A',c',ys,h1,h2,h3⟩=>⟨A',c',_,ys,h1,h2,h3⟩));clear hq HQ k0 k4 Kf xi H2;go_wp2_with fail;refine (HE.o _ o_).mono ?_;rintro e al ⟨A5,c5,n5,ys,rfl,U,hB⟩;let ⟨xs,af⟩:=nm ((ys.take n5).map λb=>b.id);have aH:(ys.take n5).map (λb=>Xc b.id)=xs.map Xc:=by rw [af,List.map_map];rfl
  rw [aH] at hB;have aI:=Hd (show y.ev.length+xs.length<=90000 from by rw [af];have e1:=U.length_eq;have e2:=Xe (Tw.fF (gi x.l)) G.bx;simp only [Xs,Xd];omega);have aR:=Hd (show xs.length<=rt.bx.length from by rw [af,<-az.o];have e1:=U.length_eq;have e2:=Xe (Tw.fF (gi x.l)) G.bx;simp only [Xs,Xd];omega);have aQ:=Hd (show∀id∈xs,∃b∈rt.bx,b.id=id/\Tw.fF (gi x.l) b=Y' from by rw [af];intro id ak;obtain ⟨b,hb,rfl⟩:=List.mem_map.1 ak;let ⟨h1,h2⟩:=XE.1 (U.subset (Xu hb));rw [az.o] at h1;exact ⟨b,h1,rfl,h2⟩);refine OT ?_;intro HL bb;clear U hB af aH H3 HE ag;go_wp2;go_loopw [56] (λvi wr=> ∃(j:Nat) (EA:Option WY) (ec:Nat),j<=n5/\vi=I_ J_ j/\WZ (Rq C (asks 4 x.r 13 (G,y.ev) (xs.take j)).1 x {y with EA:=EA,ec:=ec,ev:=(asks 4 x.r 13 (G,y.ev) (xs.take j)).2} [] [⟨9,1,A5,n5,c5,xs.map Xc⟩] wr)) (λvi _=>n5 - (intOf vi).toNat)
  .exact ⟨0,y.EA,y.ec,o_,rfl,HL⟩
  .clear HL
   obtain ⟨j,EA,ec,hj,rfl,HX⟩:=hrel;by_cases a0:j<n5
   .obtain ⟨ad,id,a1,rfl,hlb,ak,aY⟩:=(show Strs wr wr.heap.size A5 n5 xs from (HX.o.row (m_ ..)).sl).at_ a0
    have ah:=Hd (sX 4 x.r 13 (G,y.ev) xs j a1);have ap:=ow 4 x.r 13 (xs.take j) (G,y.ev);have ax:=Hd (iI 4 x.r 13 (xs.take j) (G,y.ev) HF.o);let ⟨pr,aD⟩:=nm (asks 4 x.r 13 (G,y.ev) (xs.take j));rw [<-aD] at HX ah ap ax;rw [ak] at ah;have aT:pr.2.length<=90000:=by have:=aI.o;simp only [Xd] at ap;omega
    clear aD ak ap;let ⟨aF,ae⟩:=nm (pr.1);let ⟨aw,ac⟩:=nm (pr.2);rw [<-ae] at HX ax;rw [<-ac] at HX aT;have ai:=Hd (Xl ae ac);clear ae ac;have hw:=Ta.fh (n:=(j:Int)+1) o_ o_;go_upto_region 8 with fail;let ⟨wc,X⟩:=nm (Xb wr);have HC:=Hd (show Rq C aF x {y with EA:=EA,ec:=ec,ev:=aw} [] [⟨9,1,X_ ad,n5,c5,xs.map Xc⟩] wc from by rw [X];exact HX.o.drew);have I:=Hd (HC.o.rs [] []);have HA:=Hd (HC.o.ask (id:=id) (q:=4) (round:=x.r) ax.o.eN d_);let ⟨wl,au⟩:=nm (oF aF id 4);rw [<-au] at HA;have aG:=Hd au;clear HX aY au;refine OW ?_;rw [<-X];clear X;refine Xw 6 I [0,1,2,3,4,5,6,7,8,9,10,11,12,13,14,15] ?_;refine Mu ?_;refine UI ?_;intro w4 O H6;clear HA I HC;cases wl
    .exact OV
    .clear O
     go_wp2_with fail;refine (H6.o.tell 13 0 id (by show aw.length<=_;omega)).mono ?_;exact OS
   .obtain rfl:j=n5:=o_
    have aW:=Hd (show xs.length=j from by have:=(HX.o.row (m_ ..)).len;simpa using this);go_wp2;refine bodyPost_end (results_none rfl _ _ _) rfl ⟨rfl,xs,EA,ec,aR.o,aQ.o,?_⟩;have h9:=HX.o.nil;rw [t_ (by have:=aW.o;omega)] at h9;exact h9
def Mt (h:Rq C rt x y [] [] w) (hF:eu k rt) (hk:k<=9000) (hl:x.l.length<=1000) (hv:y.ev.length<=70000):
  WX Xa 68 #[P_ (X_ ⟨C.gr,0,Y_⟩)] w λe' w'=>e'=R_ (U_ #[])/\ ∃(EA:Option WY) (ec:Nat),
   Rq C (asks 3 x.r 15 (rt,y.ev) ((rt.bx.filter (Tw.gZ (gi x.l))).map λb=>b.id)).1 x {y with EA:=EA,ec:=ec,ev:=(asks 3 x.r 15 (rt,y.ev) ((rt.bx.filter (Tw.gZ (gi x.l))).map λb=>b.id)).2} [] [] w':=by
 refine OU ?_;intro ar k0 HI H aJ;let ⟨xs,X⟩:=nm ((rt.bx.filter (Tw.gZ (gi x.l))).map λb=>b.id);rw [<-X];have ax:(rt.bx.filter (Tw.gZ (gi x.l))).map (λb=>Xc b.id)=xs.map Xc:=by rw [X,List.map_map];rfl
 have ab:=Hd ax;have aI:=Hd (show y.ev.length+xs.length<=90000 from by
  rw [X];have e2:=Xe (Tw.gZ (gi x.l)) rt.bx;have:=hF.lb;simp only [Xs];omega)
 clear h hF ar k0 X ax;go_enter func68,ntmps68;go_wp2_with fail;refine HI.o.mono ?_;rintro e w2 ⟨A1,A2,c1,c2,rfl,r1,r2,n1,n2,aA⟩;have H2:=Hd (H.o.kt aA r1 n1);have O:=Hd (H2.o.rs [] []);have k0:Ce w2 C.gr 0 (P_ (X_ ⟨C.ga,0,Y_⟩)):=O.o.r 0 d_;have xi:Ce w2 C.ga 11 (P_ (X_ ⟨C.gw,0,Y_⟩)):=O.o.a 11 d_;have HQ:=Hd (H2.o.NS aJ.o.eN);clear r1 r2 n1 n2 aA HI H O;go_wp2_with fail;refine HQ.o.mono ?_;rintro e w3 ⟨A3,c3,rfl,hq⟩;have H3:=Hd hq;have aL:=aJ.o.lb;have HE:=Hd (Tw.QV A3 A1 rt.bx.length c3 x.l.length c1 rt.bx (gi x.l) w3 (H3.o.row (m_ ..)).sl rfl o_ (H3.o.row (n_ _ (m_ ..))) o_);rw [ab.o] at HE;clear hq HQ k0 xi H2 ab;go_wp2_with fail;refine HE.o.mono ?_;rintro e af ⟨A5,n5,c5,rfl,hB⟩;refine OT ?_;intro HL bb;clear hB H3 HE aL;go_wp2;go_loopw [24] (λvi wr=> ∃(j:Nat) (EA:Option WY) (ec:Nat),j<=n5/\vi=I_ J_ j/\WZ (Rq C (asks 3 x.r 15 (rt,y.ev) (xs.take j)).1 x {y with EA:=EA,ec:=ec,ev:=(asks 3 x.r 15 (rt,y.ev) (xs.take j)).2} [] [⟨9,1,A5,n5,c5,xs.map Xc⟩] wr)) (λvi _=>n5 - (intOf vi).toNat)
 .exact ⟨0,y.EA,y.ec,o_,rfl,HL⟩
 .clear HL
  obtain ⟨j,EA,ec,hj,rfl,HX⟩:=hrel;by_cases aM:j<n5
  .obtain ⟨ad,id,aN,rfl,hlb,ak,aY⟩:=(show Strs wr wr.heap.size A5 n5 xs from (HX.o.row (m_ ..)).sl).at_ aM
   have ah:=Hd (sX 3 x.r 15 (rt,y.ev) xs j aN);have ap:=ow 3 x.r 15 (xs.take j) (rt,y.ev);have ax:=Hd (iI 3 x.r 15 (xs.take j) (rt,y.ev) aJ.o);let ⟨pr,aD⟩:=nm (asks 3 x.r 15 (rt,y.ev) (xs.take j));rw [<-aD] at HX ah ap ax;rw [ak] at ah;have aT:pr.2.length<=90000:=by have:=aI.o;simp only [Xd] at ap;omega
   clear aD ak ap;let ⟨aF,ae⟩:=nm (pr.1);let ⟨aw,ac⟩:=nm (pr.2);rw [<-ae] at HX ax;rw [<-ac] at HX aT;have ai:=Hd (Xl ae ac);clear ae ac;have hw:=Ta.fh (n:=(j:Int)+1) o_ o_;go_upto_region 4 with fail;let ⟨wc,U⟩:=nm (Xb wr);have HC:=Hd (show Rq C aF x {y with EA:=EA,ec:=ec,ev:=aw} [] [⟨9,1,X_ ad,n5,c5,xs.map Xc⟩] wc from by rw [U];exact HX.o.drew);have I:=Hd (HC.o.rs [] []);have HA:=Hd (HC.o.ask (id:=id) (q:=3) (round:=x.r) ax.o.eN d_);let ⟨wl,au⟩:=nm (oF aF id 3);rw [<-au] at HA;have aG:=Hd au;clear HX aY au;refine OW ?_;rw [<-U];clear U;refine Xw 6 I [0,1,2,3,4,5,6,7,8,9,10,11,12,13,14,15] ?_;refine Mu ?_;refine UI ?_;intro w4 O H6;clear HA I HC;cases wl
   .exact OV
   .clear O
    go_wp2_with fail;refine (H6.o.tell 15 0 id (by show aw.length<=_;omega)).mono ?_;exact OS
  .obtain rfl:j=n5:=o_
   have aW:=Hd (show xs.length=j from by have:=(HX.o.row (m_ ..)).len;simpa using this);go_wp2;refine bodyPost_end (results_none rfl _ _ _) rfl ⟨rfl,EA,ec,?_⟩;have h9:=HX.o.nil;rw [t_ (by have:=aW.o;omega)] at h9;exact h9
end
def Is (G:t.ok) (hc:F<=9223372036854775807):gu.kD t F<=9223372036854775807:=by
 unfold gu.kD;split
 .exact (jW.xg F t.jx hc).2.2
 .exact G.mN.2
def xh (hc:cap<=9223372036854775807): ∀(dD:List dA) (bs:List Bool) (e:Int),(∀t∈dD,t.ok)->0<=e->e<=9223372036854775807->0<=gu.kS cap s dD bs e/\gu.kS cap s dD bs e<=9223372036854775807
 |[],bs,e,_,h0,h=>by cases bs<;>exact ⟨h0,h⟩
 |t::ts,[],e,_,h0,h=>⟨h0,h⟩
 |t::ts,b::bs,e,ht,h0,h=>by
  have h1:=Is (ht t (m_ ..)) hc;refine xh hc ts bs _ (λt h=>ht t (n_ _ h)) ?_ ?_
  .split<;>omega
  .split<;>omega
def pf: ∀(l:List dK) (p:Xn×List dX),(fM p l).2.length<=p.2.length+l.length
 |[],p=>by simp [fM]
 |x::l,p=>by
  have h:=pf l (iU p x);have h2:(iU p x).2.length<=p.2.length+1:=by unfold iU;dsimp only;split<;>simp
  show (fM (iU p x) l).2.length<=_
  simp only [Xz];omega
def je: ∀(l:List dK) (p:Xn×List dX),eu k p.1->eu k (fM p l).1
 |[],_,h=>h
 |x::l,p,h=>je l (iU p x) (yN h)
section
variable {C:Cx} {w:Z'} {rt:Xn} {x:AV} {y:RV} {k:Nat}
def Wc (C:Cx) (rt:Xn) (x:AV) (y:RV) (w':Z'):Prop:= ∃(zs:List dK) (b:Bool) (EA:Option WY) (ec:Nat),zs.length<=rt.im.length/\(∀z∈zs,z∈rt.im/\Tw.fG (eE x.l) z=Y')/\(y.p1=Z_->zs=[]/\b=Z_)/\
 Rq C (fM (rt,y.ev) zs).1 x {y with EA:=EA,ec:=ec,ev:=(fM (rt,y.ev) zs).2,p1:=b} [] [] w'
def UG {p:Prop} (h:p:=by
 have h9:=HX.o.nil;rw [t_ (by have:=aW.o;omega)] at h9;have H9:=Hd h9;obtain ⟨pr,X⟩:=nm (fM (rt,y.ev) zs);rw [<-X] at H9;have ai:=Hd X;clear h9 HX X;go_upto_region 13 with fail;obtain ⟨wc,I⟩:=nm (World.drew wr);have H1:=Hd H9.o.drew;rw [<-I] at H1;have U:=Hd (H1.o.rs [4] []);have HS:=Hd (Sat.pH x.a1 free wc HO.o.a1.2 HJ.o.1);obtain ⟨sm,an⟩:=nm (Sat.add x.a1 free);rw [<-an] at HS;clear an H9;have n4: ∃v,wc.cell? ⟨C.gr,4,none⟩=some v:=⟨_,(H1.o.rs [] []).r 4 d_⟩;obtain ⟨v4,n4⟩:=n4;have f4:=H1.o.PJ 4;refine dm.ss U ?_;rw [<-I];clear I;refine dm.tk 4 U [0,1,2,4,6,7] ?_
 iterate 6 (refine dm.dG rfl (λK' F=>?_);go_simp;(first|refine F _ ?_;clear F K'|constructor;refine ⟨λwx G=>?_,F _ ?_⟩;(first|rfl|go_simp<;>rfl);clear F K'))
 refine dm.ee ?_;refine dm.one (i:=3) (n:=3) k_ ?_;refine dm.cl ?_;refine HS.o.mono ?_;rintro e ag ⟨rfl,rfl⟩;refine ⟨_,rfl,U,?_⟩;refine dm.tk 1 U [5,8] ?_
 iterate 2 (refine dm.dG rfl (λK' F=>?_);go_simp;(first|refine F _ ?_;clear F K'|constructor;refine ⟨λwx G=>?_,F _ ?_⟩;(first|rfl|go_simp<;>rfl);clear F K'))
 refine dm.ee ?_;refine dm.one (i:=9) (n:=0) k_ ?_;refine dm.skip rfl rfl (w':=wc.setCell ⟨C.gr,4,none⟩ (B_ (decide (sm<ab)))) f_ (Hd (U.o.G_ H1.o.ne (λ_ h=>by cases h) d_)) ?_;have H5:=Hd (H1.o.UH (decide (sm<ab)));clear HS H1 U n4 f4;refine wpAnyH_done k_ ?_ _;go_wp2_with fail;exact bodyPost_end (results_none rfl _ _ _) rfl ⟨rfl,zs,_,EA,ec,aU.o,HM.o,λh=>(by rw [<-az.o] at h;cases h),by rw [<-ai.o];exact H5.o⟩):p:=h
def Dt (h:Rq C rt x y [] [] w) (ho:Ok x) (hF:eu k rt) (hk:k<=9000) (hl:x.l.length<=1000) (hv:y.ev.length<=70000) (hy:y.p1=Y'->y.hn=x.p.n) (bi: ∀z∈rt.im,z.size<=9223372036854775807):
  WX Xa 65 #[P_ (X_ ⟨C.gr,0,Y_⟩)] w λe' w'=>e'=R_ (U_ #[])/\Wc C rt x y w':=by
 have ar:=Hd (h.rs [] []);have k0:Ce w C.gr 0 (P_ (X_ ⟨C.ga,0,Y_⟩)):=ar.o.r 0 d_;have k4:Ce w C.gr 4 y.p1:=ar.o.r 4 d_;have HI:=Hd (Ot C.gr C.ga x.l x.PA x.pc w k0 (ar.o.a 14 d_) h.gT o_);have H:=Hd h;have HO:=Hd ho;have HF:=Hd hF;have HY:=Hd hy;have HZ:=Hd bi;obtain ⟨p1,aY⟩:=nm (y.p1);have az:=Hd aY;rw [<-aY] at k4;clear h ho hF ar hy bi aY;cases p1
 .go_enter func65,ntmps65
  go_wp2_with fail;exact bodyPost_ret (v:=U_ #[]) (by simp [results,results65,go_sem]) rfl ⟨rfl,[],Z_,y.EA,y.ec,Nat.zero_le _,λ_ h=>(by cases h),λ_=>⟨rfl,rfl⟩,by
   have h9:=H.o;have e:y={y with p1:=Z_}:=by rw [az.o]
   rw [e] at h9;exact h9⟩
 .have aR:=Hd (HY.o az.o.symm)
  clear HY k0;go_enter func65,ntmps65;go_wp2_with fail;refine HI.o.mono ?_;rintro e w1 ⟨A1,A2,c1,c2,rfl,r1,r2,n1,n2,aE⟩;have ak:=Hd (H.o.kt aE r2 n2);have ar:=Hd (ak.o.rs [] []);have k0:Ce w1 C.gr 0 (P_ (X_ ⟨C.ga,0,Y_⟩)):=ar.o.r 0 d_;have bK:Ce w1 C.ga 24 x.a1:=ar.o.a 24 d_;clear r1 r2 n1 n2 aE HI H ar k4;go_upto_region 3 with fail;obtain ⟨wc,I⟩:=nm (Xb w1);have H1:=Hd (show Rq C rt x y [] [⟨9,1,A2,x.l.length,c2,(eE x.l).map Xc⟩] wc from by rw [I];exact ak.o.drew);have U:=Hd (H1.o.rs [] []);have HS:=Hd (gu.QN x.p x.dD y.HA y.hc y.hs 1 wc (HO.o.cfg wc _ H1.o.qy.sl) (by have:=HO.o.rf.rc.n;omega) (.inr (.inl rfl)) (by rw [<-aR.o];exact H1.o.hs.sl));unfold XF at HS;have am:=Hd (xh (s:=1) (show gu.iY x.p.c0 x.p.c1 x.p.c2 1<=9223372036854775807 from by have:=(HO.o.cfg wc _ H1.o.qy.sl).c1;exact this.2) x.dD y.hs 0 (HO.o.cfg wc _ H1.o.qy.sl).each o_ o_);obtain ⟨ab,au⟩:=nm (gu.kS (gu.iY x.p.c0 x.p.c1 x.p.c2 1) 1 x.dD y.hs 0);rw [<-au] at HS am;clear au ak k0 bK;refine dm.ss U ?_;rw [<-I];clear I;refine Xw 2 U (u_ 0 11) ?_
  iterate 11 (refine XK rfl (λK' F=>?_);go_simp;(first|refine F _ ?_;clear F K'|constructor;refine ⟨λwx G=>?_,F _ ?_⟩;(first|rfl|(have k0:Ce wx C.gr 0 (P_ (X_ ⟨C.ga,0,Y_⟩)):=(Xf G).r 0 d_;have bS:Ce wx C.ga 0 x.p.c0:=(Xf G).a 0 d_;have bJ:Ce wx C.ga 1 x.p.c1:=(Xf G).a 1 d_;have bt:Ce wx C.ga 2 x.p.c2:=(Xf G).a 2 d_;have bO:Ce wx C.ga 3 x.p.a0:=(Xf G).a 3 d_;have bD:Ce wx C.ga 4 x.p.a1:=(Xf G).a 4 d_;have bM:Ce wx C.ga 5 x.p.a2:=(Xf G).a 5 d_;have bV:Ce wx C.ga 6 (S_ x.p.A x.p.n x.p.c):=(Xf G).a 6 d_;have bw:Ce wx C.ga 7 x.p.fg:=(Xf G).a 7 d_;have bG:Ce wx C.ga 8 x.p.ret:=(Xf G).a 8 d_;have bR:Ce wx C.ga 9 x.p.fE:=(Xf G).a 9 d_;have bf:Ce wx C.ga 10 x.p.dead:=(Xf G).a 10 d_;have k2:Ce wx C.gr 2 (S_ y.HA x.p.n y.hc):=(by rw [<-aR.o];exact (Xf G).r 2 d_);go_simp<;>rfl));clear F K'))
  refine XJ ?_;refine XI (i:=11) (n:=1) k_ ?_;refine Xo ?_;refine HS.o.mono ?_;rintro e w2 ⟨rfl,af⟩;have H2:=Hd (H1.o.below af);have O:=Hd (H2.o.rs [] []);clear af HS U H1;refine ⟨_,rfl,O,?_⟩;refine Xw 0 O [12] ?_
  iterate 1 (refine XK rfl (λK' F=>?_);go_simp;(first|refine F _ ?_;clear F K'|constructor;refine ⟨λwx G=>?_,F _ ?_⟩;(first|rfl|(have k0:Ce wx C.gr 0 (P_ (X_ ⟨C.ga,0,Y_⟩)):=(Xf G).r 0 d_;have bS:Ce wx C.ga 0 x.p.c0:=(Xf G).a 0 d_;have bJ:Ce wx C.ga 1 x.p.c1:=(Xf G).a 1 d_;have bt:Ce wx C.ga 2 x.p.c2:=(Xf G).a 2 d_;have bO:Ce wx C.ga 3 x.p.a0:=(Xf G).a 3 d_;have bD:Ce wx C.ga 4 x.p.a1:=(Xf G).a 4 d_;have bM:Ce wx C.ga 5 x.p.a2:=(Xf G).a 5 d_;have bV:Ce wx C.ga 6 (S_ x.p.A x.p.n x.p.c):=(Xf G).a 6 d_;have bw:Ce wx C.ga 7 x.p.fg:=(Xf G).a 7 d_;have bG:Ce wx C.ga 8 x.p.ret:=(Xf G).a 8 d_;have bR:Ce wx C.ga 9 x.p.fE:=(Xf G).a 9 d_;have bf:Ce wx C.ga 10 x.p.dead:=(Xf G).a 10 d_;have k2:Ce wx C.gr 2 (S_ y.HA x.p.n y.hc):=(by rw [<-aR.o];exact (Xf G).r 2 d_);go_simp<;>rfl));clear F K'))
  refine XJ ?_;refine wpAnyH_done k_ ?_ _;have k0:Ce w2 C.gr 0 (P_ (X_ ⟨C.ga,0,Y_⟩)):=O.o.r 0 d_;have xi:Ce w2 C.ga 11 (P_ (X_ ⟨C.gw,0,Y_⟩)):=O.o.a 11 d_;have HQ:=Hd (H2.o.VM HF.o.eN);clear O H2;go_wp2_with fail;refine HQ.o.mono ?_;rintro e w3 ⟨A3,c3,rfl,hq⟩;have H3:=Hd hq;clear hq HQ k0 xi;go_upto_region 5 with fail;obtain ⟨wc,I⟩:=nm (Xb w3);have H1:=Hd (show Rq C rt x y [] [⟨223,3,A3,rt.im.length,c3,Xx rt.im⟩,⟨9,1,A2,x.l.length,c2,(eE x.l).map Xc⟩] wc from by rw [I];exact H3.o.drew);have U:=Hd (H1.o.rs [] []);have HS:=Hd (Sat.Rs ab x.a1 wc am.o.2 HO.o.a1.2);have HQ:=Hd (H1.o.wait HF.o.eN);obtain ⟨bh,av⟩:=nm (Sat.less ab x.a1);rw [<-av] at HS;clear av H3;have hno:=HF.o.eN.no;have hli:=HF.o.li;have ax:WZ (∀wx,(WZ (RS C (y.arr C.ga) (x.arr C.gw C.sb) [] [] [] wx))->(Ce wx C.gr 0 (P_ (X_ ⟨C.ga,0,Y_⟩)))/\(Ce wx C.ga 11 (P_ (X_ ⟨C.gw,0,Y_⟩)))):=Hd λwx G=>⟨(Xf G).r 0 d_,(Xf G).a 11 d_⟩
  refine dm.ss U ?_;rw [<-I];clear I;refine Xw 10 U (u_ 0 4++u_ 5 9) ?_
  iterate 13 (refine XK rfl (λK' F=>?_);go_simp;(first|refine F _ ?_;clear F K'|constructor;refine ⟨λwx G=>?_,F _ ?_⟩;(first|rfl|(obtain ⟨k0,al⟩:=ax.o wx G;go_simp<;>rfl));clear F K'))
  refine XJ ?_;refine XI (i:=4) (n:=9) k_ ?_;refine Xo ?_;refine HS.o.mono ?_;rintro e ag ⟨rfl,rfl⟩;refine ⟨_,rfl,U,?_⟩;refine XI (i:=14) (n:=8) k_ ?_;refine Xo ?_;refine HQ.o.mono ?_;rintro e ag ⟨A4,c4,rfl,hq⟩;have H4:=Hd hq;have O:=Hd (hq.rs [] []);clear hq HQ HS U H1;have HL:=Hd (Tw.Du A3 A2 A4 rt.im.length c3 x.l.length c2 rt.outs.length c4 bh rt.im (eE x.l) rt.outs ag (H4.o.row (n_ _ (m_ ..))).sl rfl o_ (H4.o.row (n_ _ (n_ _ (m_ ..)))) o_ (H4.o.row (m_ ..)).sl o_ HZ.o);refine ⟨_,rfl,O,?_⟩;refine XI (i:=15) (n:=7) k_ ?_;refine Xo ?_;refine HL.o.mono ?_;rintro e w5 ⟨A5,n5,c5,free,j,rfl,ay,hj,bd⟩;have H5:=Hd (H4.o.below bd);have aP:=Hd (H5.o.rs [] []);have HJ:=Hd (Xl ay hj);clear bd HL O H4 ay hj;refine ⟨_,rfl,aP,?_⟩;refine Xw 0 aP (u_ 16 7) ?_
  iterate 7 (refine XK rfl (λK' F=>?_);go_simp;(first|refine F _ ?_;clear F K'|constructor;refine ⟨λwx G=>?_,F _ ?_⟩;(first|rfl|(obtain ⟨k0,al⟩:=ax.o wx G;go_simp<;>rfl));clear F K'))
  refine XJ ?_;refine wpAnyH_done k_ ?_ _;clear aP;have HE:=Hd (Tw.AJ A3 A2 rt.im.length c3 x.l.length c2 rt.im (eE x.l) w5 (H5.o.row (n_ _ (m_ ..))).sl rfl o_ (H5.o.row (n_ _ (n_ _ (m_ ..)))) o_);go_upto_region 6 with fail;go_wp2_with fail;refine HE.o.mono ?_;rintro e w6 ⟨A6,c6,ys,rfl,V,-,hB⟩;have a5:j<=ys.length:=by rw [V.length_eq];exact HJ.o.2
  have ap:=hB.row.cut j a5;rw [dK.oE] at ap;have H6:=Hd (((H5.o.kt hB.below ap hB.fresh).sub (R':=[⟨223,3,A6,j,c6,Xx (ys.take j)⟩]) (λ_ h=>h) (λt ht=>by rw [List.mem_singleton] at ht;rw [ht];exact m_ ..)));have HM:=Hd (show∀z∈ys.take j,z∈rt.im/\Tw.fG (eE x.l) z=Y' from λz hz=>XE.1 (V.subset (Xu hz)));have bL:ys.length<=9000:=by rw [V.length_eq];have:=Xe (Tw.fG (eE x.l)) rt.im;omega
  have aU:=Hd (show (ys.take j).length<=rt.im.length from by have e1:=V.length_eq;have e2:=Xe (Tw.fG (eE x.l)) rt.im;simp only [Xd];omega);have aB:=hB.row.le;have ah:=gy hB.row;obtain ⟨zs,aG⟩:=nm (ys.take j);have bj:zs.length=j:=by rw [aG,Xd];omega
  have aW:=Hd bj;rw [<-aG] at H6 HM aU;obtain ⟨ny,ba⟩:=nm (ys.length);rw [<-ba] at a5 bL aB ah |-;clear V hB ap HE H5 aG ba bj am;have h63:c6<=9223372036854775807:=by have:=aB.2;unfold maxLen at this;omega
  have hjc:j<=c6:=by have:=aB.1;omega
  clear aB;have HL:WZ (Rq C (fM (rt,y.ev) (zs.take 0)).1 x {y with EA:=y.EA,ec:=y.ec,ev:=(fM (rt,y.ev) (zs.take 0)).2} [] [⟨223,3,A6,j,c6,Xx zs⟩] w6):=Hd H6.o;clear H6;have bN:(∃ad,A6=X_ ad)\/(A6=Y_/\ny=0/\c6=0):=by cases A6 with|none=>exact .inr ⟨rfl,ah rfl⟩|some a=>exact .inl ⟨a,rfl⟩
  clear ah;rcases bN with ⟨ad6,rfl⟩|⟨rfl,rfl,rfl⟩
  .have bb:=trivial
   clear bb;go_wp2_with fail;go_loopw [80] (λvi wr=> ∃(q:Nat) (EA:Option WY) (ec:Nat),q<=j/\vi=I_ J_ q/\WZ (Rq C (fM (rt,y.ev) (zs.take q)).1 x {y with EA:=EA,ec:=ec,ev:=(fM (rt,y.ev) (zs.take q)).2} [] [⟨223,3,_,j,_,Xx zs⟩] wr)) (λvi _=>j - (intOf vi).toNat)
   .exact ⟨0,y.EA,y.ec,o_,rfl,HL⟩
   .clear HL
    obtain ⟨q,EA,ec,hq,rfl,HX⟩:=hrel;by_cases aH:q<j
    .obtain ⟨ad,bE,eA,bU,a7,bC⟩:=dK.at_ (HX.o.row (m_ ..)).sl aH
     cases eA;have aL:=Hd (yG (rt,y.ev) zs q bE);have aK:=pf (zs.take q) (rt,y.ev);have ax:=Hd (je (zs.take q) (rt,y.ev) HF.o);obtain ⟨pr,X⟩:=nm (fM (rt,y.ev) (zs.take q));rw [<-X] at HX aL aK ax;have aT:pr.2.length<=90000:=by simp only [Xd] at aK;have:=aW.o;omega
     clear X aK;generalize zs[q]=z at*;obtain ⟨zn,aa,zl⟩:=z;obtain ⟨e0,e1,e2⟩:=bC
     dsimp only at e0 e1 e2
     obtain ⟨aF,ae⟩:=nm (pr.1);obtain ⟨aw,ac⟩:=nm (pr.2);rw [<-ae] at HX ax;rw [<-ac] at HX aT;have ai:=Hd (Xl ae ac);clear ae ac;have hw:=Ta.fh (n:=(q:Int)+1) o_ o_;obtain ⟨g7,aJ⟩:=nm (wr.heap.size);obtain ⟨w7,aN⟩:=nm (wr.alloc (.cells #[T_ zn,I_ J_ aa,I_ J_ zl] 223));have H7:=Hd (show Rq C aF x {y with EA:=EA,ec:=ec,ev:=aw} [(g7,223,#[T_ zn,I_ J_ aa,I_ J_ zl])] [⟨223,3,_,j,_,Xx zs⟩] w7 from by rw [aN,aJ];exact HX.o.ku (dL) Xk l_);go_upto_region 9 with fail;rw [<-aN,<-aJ];clear aN aJ e0 e1 e2 HX bU a7;obtain ⟨wc,I⟩:=nm (Xb w7);have H1:=Hd H7.o.drew;rw [<-I] at H1;have U:=Hd (H1.o.rs [] []);have HA:=Hd (H1.o.drop (name:=zn) ax.o.eN);obtain ⟨wl,aQ⟩:=nm (sE aF zn);rw [<-aQ] at HA;have bm:=Hd aQ;clear H7 aQ;have a9:WZ (∀wx,(WZ (RS C (({y with EA:=EA,ec:=ec,ev:=aw}:RV).arr C.ga) (x.arr C.gw C.sb) [] [] [(g7,223,#[T_ zn,I_ J_ aa,I_ J_ zl])] wx))->(Ce wx C.gr 0 (P_ (X_ ⟨C.ga,0,Y_⟩)))/\(Ce wx C.ga 11 (P_ (X_ ⟨C.gw,0,Y_⟩)))/\(Ce wx g7 0 zn)):=Hd λwx G=>⟨(Xf G).r 0 d_,(Xf G).a 11 d_,(Xf G).b _ (m_ ..) 0⟩
     refine dm.ss U ?_;rw [<-I];clear I;refine Xw 6 U (u_ 0 9) ?_
     iterate 9 (refine XK rfl (λK' F=>?_);go_simp;(first|refine F _ ?_;clear F K'|constructor;refine ⟨λwx G=>?_,F _ ?_⟩;(first|rfl|(obtain ⟨k0,al,y0⟩:=a9.o wx G;go_simp<;>rfl));clear F K'))
     refine XJ ?_;refine XI (i:=9) (n:=5) k_ ?_;refine Xo ?_;refine HA.o.mono ?_;rintro e w4 ⟨⟨er,rfl⟩,ao⟩;have O:=Hd (ao.rs [] []);have H8:=Hd ao;clear ao HA U H1;refine ⟨_,rfl,O,?_⟩;refine Xw 0 O (u_ 10 5) ?_
     iterate 5 (refine XK rfl (λK' F=>?_);go_simp;(first|refine F _ ?_;clear F K'|constructor;refine ⟨λwx G=>?_,F _ ?_⟩;(first|rfl|(obtain ⟨k0,al,y0⟩:=a9.o wx G;go_simp<;>rfl));clear F K'))
     refine XJ ?_;refine wpAnyH_done k_ ?_ _;cases wl
     .clear O
      go_wp2_with fail;go_roundw
      .exact ⟨q+1,EA,ec,o_,by go_num,Hd (by rw [aL.o];unfold iU;dsimp only;rw [<-ai.o.1,<-ai.o.2,<-bm.o];exact (H8.o.sub (B':=[]) (λ_ h=>by cases h) (λ_ h=>h)))⟩
      .simp [intOf];omega
     .have y0:Ce w4 g7 0 zn:=O.o.b _ (m_ ..) 0
      have y1:Ce w4 g7 1 aa:=O.o.b _ (m_ ..) 1;clear O;go_wp2_with fail;refine (H8.o.tell 14 aa zn (by show aw.length<=_;omega)).mono ?_;rintro e w9 ⟨rfl,A9,c9,bc⟩;have H8:=Hd bc;clear bc y0 y1;go_wp2_with fail;go_roundw
      .exact ⟨q+1,A9,c9,o_,by go_num,Hd (by rw [aL.o];unfold iU;dsimp only;rw [<-ai.o.1,<-ai.o.2,<-bm.o];exact (H8.o.sub (B':=[]) (λ_ h=>by cases h) (λ_ h=>h)))⟩
      .simp [intOf];omega
    .obtain rfl:q=j:=o_
     exact UG
  .obtain rfl:j=0:=o_
   go_wp2_with fail;go_loopw [80] (λvi wr=> ∃(q:Nat) (EA:Option WY) (ec:Nat),q<=0/\vi=I_ J_ q/\WZ (Rq C (fM (rt,y.ev) (zs.take q)).1 x {y with EA:=EA,ec:=ec,ev:=(fM (rt,y.ev) (zs.take q)).2} [] [⟨223,3,_,0,_,Xx zs⟩] wr)) (λvi _=>0 - (intOf vi).toNat)
   .exact ⟨0,y.EA,y.ec,o_,rfl,HL⟩
   .clear HL
    obtain ⟨q,EA,ec,hq,rfl,HX⟩:=hrel;by_cases aH:q<0
    .exact absurd aH (Nat.not_lt_zero _)
    .obtain rfl:q=0:=o_
     exact UG
end
def uG (l:List dq):Bool:=l.any λe=>decide (e.ph=3)
def Ua (e:dq) (w:Z'):WX Xa 123 #[A_ e.arr] w λr w'=>r=R_ (B_ (decide (e.ph=3)))/\Bw w w':=by
 have F:WZ (Bw w (w.alloc (.cells e.arr 58))):=Hd dL;obtain ⟨⟨id,I,G,r0,r1,r2,l0,l1,l2,eO,size⟩,ph⟩:=e;unfold dq.arr at F |-
 dsimp only at F |-
 by_cases h:ph=3
 .subst h
  go_enter func123,ntmps123;go_wp2;go_ret;exact ⟨rfl,F⟩
 .rw [decide_eq_false h]
  go_enter func123,ntmps123;go_wp2;go_ret;exact ⟨congrArg Ending.returned (congrArg Xr (beq_eq_false_iff_ne.2 h)),F⟩
def QF (l:List dq) (W:Z') (e:Ending) (w':Z'):Prop:=Bw W w'/\ ∃r:Int,e=R_ (I_ J_ r)/\(decide (0<=r)=uG l)
def yL (A:Option WY) (n c:Nat) (l:List dq) (w:Z') (h:Mem.Sl w w.heap.size 12 A n (XH l)) (F:l.length=n) (hn:n<=1000):
  WX Xa 151 #[S_ A n c,.func (.func 123) #[] #[]] w (QF l w):=by
 have H:=Hd h;have HL:=Hd F;clear h F;go_enter func151,ntmps151;go_wp2;go_loopw [8] (λvi wr=> ∃k:Nat,k<=n/\vi=I_ J_ k/\WZ (Bw w wr)/\WZ (∀(j:Nat) (O:j<l.length),j<k->decide (l[j].ph=3)=Z_)) (λi _=>n - (intOf i).toNat)
 .exact ⟨0,o_,rfl,Hd b_,Hd (λj _ h=>absurd h o_)⟩
 .obtain ⟨k,hk,rfl,I,HD⟩:=hrel
  by_cases ag:k<n
  .obtain ⟨ad,hl,rfl,ab,U,af⟩:=dq.at_ (H.below I) ag
   have V:=Hd (λX=>Ua l[k] X);have aa:WZ (decide (l[k].ph=3)=Z_-> ∀(j:Nat) (O:j<l.length),j<k+1->decide (l[j].ph=3)=Z_):=λh j O h2=>by
    by_cases h3:j<k
    .exact HD j O h3
    .obtain rfl:j=k:=o_
     exact h
   have HY:WZ (decide (l[k].ph=3)=Y'->uG l=Y'):=λh=>XA.2 ⟨l[k],g_ hl,h⟩
   generalize decide (l[k].ph=3)=b at*;unfold dq.arr at V;generalize l[k]=q at*;obtain ⟨⟨id,am,ah,r0,r1,r2,l0,l1,l2,eO,size⟩,ph⟩:=q;obtain ⟨c0,c1,c2,c3,c4,c5,c6,c7,c8,c9,lM,pv⟩:=af
   dsimp only at c0 c1 c2 c3 c4 c5 c6 c7 c8 c9 lM pv V
   refine lI ?_;intro hw;clear ab U;go_wp2_with fail;refine (V _).mono ?_;rintro e w2 ⟨rfl,G⟩;have H2:WZ (Bw w w2):=Hd (by first|exact I.trans (G.mono I.size)|exact (I.alloc I.size _).trans (G.mono (by have:=I.o.size;simp;omega)));clear G c0 c1 c2 c3 c4 c5 c6 c7 c8 c9 lM pv V;cases b with
   |true=>
    have HF:WZ (QF l w (R_ (I_ J_ k)) w2):=⟨H2,k,rfl,by rw [HY.o rfl];exact dT⟩;go_wp2;go_ret;exact HF
   |false=>
    have ae:=Hd (aa rfl);exact GA
  .obtain rfl:k=n:=o_
   have HF:WZ (QF l w (R_ (I_ J_ (-1))) wr):=⟨I,-1,rfl,by
    cases hh:uG l
    .rfl
    .let ⟨e,he,hs⟩:=XA.1 hh
     obtain ⟨j,O,rfl⟩:=List.getElem_of_mem he;have h5:=HD j O (by have:=HL.o;omega);rw [hs] at h5;cases h5⟩
   go_wp2;go_ret;exact HF
def yM (A:Option WY) (n c:Nat) (l:List dq) (w:Z') (h:Mem.Sl w w.heap.size 12 A n (XH l)) (F:l.length=n) (hn:n<=1000):
  WX Xa 94 #[S_ A n c,.func (.func 123) #[] #[]] w λe w'=>e=R_ (B_ (uG l))/\Bw w w':=by
 have H:=Hd (yL A n c l w h F hn);clear h;go_enter func94,ntmps94;go_wp2_with fail;refine H.mono ?_;rintro e w2 ⟨(O:WZ _),r,rfl,(U:WZ _)⟩;clear H;go_wp2;go_ret;exact ⟨by rw [<-U.o];rfl,O⟩
def RV.p (y:RV) (k:Nat):Bool:=if k=0 then y.p0 else if k=1 then y.p1 else y.p2
def GB (C:Cx) (rt:Xn) (x:AV) (y:RV) (w':Z'):Prop:=
 (Rq C rt x y [] [] w'/\(uG x.l=Y'\/ ∀k,k<3->y.p k=Y'->x.l.filter Xy=[]))\/
 (uG x.l=Z_/\ ∃(k:Nat) (e:dq) (A:Option WY) (c:Nat) (EA:Option WY) (ec:Nat),k<3/\y.p k=Y'/\e∈x.l/\Xy e=Y'/\(∀z∈x.l,Xy z=Y'-> ¬Tw.od (XL k z.dC x.us) (XL k e.dC x.us)<0)/\
  Rq C rt {x with PA:=A,pc:=c,l:=ep x.l ⟨e.dC,3⟩} {y with EA:=EA,ec:=ec,ev:=y.ev++[⟨5,e.dC.id,k,0⟩]} [] [] w')
section
variable {C:Cx} {w:Z'} {rt:Xn} {x:AV} {y:RV} {k:Nat}
def Rq.end_ (h:Rq C rt x y [] [] w) (i:Nat) (X:i<x.l.length) (U:x.l.length<=1000) (F:du.dY (eo x.l)):
  WX Xa 62 #[P_ (X_ ⟨C.ga,0,Y_⟩),I_ J_ i] w λe w'=>e=R_ (U_ #[])/\ ∃A c,Rq C rt {x with PA:=A,pc:=c,l:=om x.l i} y [] [] w':=by
 let ⟨b',h,t⟩:=h;refine (Oy i X U F h.n).mono ?_;rintro e w' ⟨V,p⟩;let ⟨rt',x',⟨I,A,c,O⟩,G⟩:=h.WB t p;rw [I,O] at G;exact ⟨V,A,c,G⟩
def Rq.app (h:Rq C rt x y [] [] w) (z:dX) (hn:y.ev.length<=100000):
  ∃(A':Option WY) (c':Nat) (w2:Z'),(Builtin.append_ #[37,37] 37 #[S_ y.EA y.ev.length y.ec,S_ (X_ ⟨w.heap.size,0,Y_⟩) 1 1]).run Xa (w.alloc (.cells z.arr 55))= .ok (S_ A' (y.ev.length+1) c') w2/\
   w2.cell? ⟨C.gr,1,Y_⟩=X_ (S_ y.EA y.ev.length y.ec)/\w2.frozen? ⟨C.gr,1,Y_⟩=Z_/\Rq C rt x {y with EA:=A',ec:=c',ev:=y.ev++[z]} [] [] (w2.setCell ⟨C.gr,1,Y_⟩ (S_ A' (y.ev.length+1) c')):=by
 let ⟨b',h,t⟩:=h;let ⟨A',c',w2,F,G,V,col',I,U,O⟩:=Ub h.n h.r z hn;exact ⟨A',c',w2,F,G,V,col',⟨I,U,λ_ h=>(by cases h),λ_ h=>(by cases h)⟩,t.trans (O.mono λc hc=>⟨.inr (.inr hc)⟩)⟩
def GC (G:Ok x) (sg:Int): ∀e∈x.l,-9223372036854775808<=Tw.jU sg e.dC x.us/\Tw.jU sg e.dC x.us<=9223372036854775807:=by
 intro e I;have F:=G.st.each e I;unfold gC at F;simp only [Bool.and_eq_true] at F;have O:=_root_.Go.Proofs.YtkidababfdehlaaGreatDoor.Rd.qg F.1;have U:=G.each e I;have o2: -9223372036854775808<=e.dC.r1/\e.dC.r1<=9223372036854775807:=U.dC.r1;have o3: -9223372036854775808<=e.dC.r2/\e.dC.r2<=9223372036854775807:=U.dC.r2;have a1:=O.r1;have a2:=O.r2;have hk:0<=Tw.asked e.dC sg/\Tw.asked e.dC sg<=9223372036854775807:=by unfold Tw.asked;(repeat' split)<;>omega
 have hu:0<=Tw.mS (Tw.rn x.us e.dC.id) sg/\Tw.mS (Tw.rn x.us e.dC.id) sg<=9223372036854775807:=by
  unfold Tw.rn;split
  .rename_i hc
   let ⟨b0,b1,b2⟩:=G.am _ (g_ hc.2);unfold Tw.mS
   (repeat' split)<;>first|exact b0|exact b1|exact b2
  .unfold Tw.mS
   (repeat' split)<;>(dsimp only;omega)
 unfold Tw.jU;omega
def Lx (h:Rq C rt x y [] [] w) (ho:Ok x) (hv:y.ev.length<=90000):
  WX Xa 66 #[P_ (X_ ⟨C.gr,0,Y_⟩)] w λe' w'=>e'=R_ (U_ #[])/\GB C rt x y w':=by
 have H:=Hd h;have HO:=Hd ho;have hll:x.l.length<=64:=ho.st.len;have a6:=Hd (h.rs [] []);have k0:Ce w C.gr 0 (P_ (X_ ⟨C.ga,0,Y_⟩)):=a6.r 0 d_;have bq:Ce w C.ga 14 (S_ x.PA x.l.length x.pc):=a6.a 14 d_;have HT:=Hd (yM x.PA x.l.length x.pc x.l w h.gT.sl rfl o_);let ⟨b,hb⟩:=nm (uG x.l);rw [<-hb] at HT;have HB:=Hd hb;clear h ho a6 hb;go_enter func66,ntmps66
 go_step3
 go_wp2_with fail;refine HT.mono ?_;rintro e w1 ⟨rfl,bb⟩;have H1:=Hd (H.below bb);clear bb HT H k0 bq;cases b
 case true=>
  go_wp2;rw [Exit.noGoto_ret];exact bodyPost_ret (v:=U_ #[]) (by simp [results,results66,go_sem]) rfl ⟨rfl,.inl ⟨H1,.inl HB.symm⟩⟩
 have aZ:=Hd (H1.rs [] []);have m3:Ce w1 C.gr 3 y.p0:=aZ.r 3 d_;have m4:Ce w1 C.gr 4 y.p1:=aZ.r 4 d_;have m5:Ce w1 C.gr 5 y.p2:=aZ.r 5 d_;go_wp2
 go_step3
 go_wp2_with fail;clear m3 m4 m5 aZ;go_loopw [21] (λvi wr=> ∃k:Nat,k<=3/\vi=I_ J_ k/\WZ (Rq C rt x y [] [] wr)/\WZ (∀j,j<k->y.p j=Y'->x.l.filter Xy=[])) (λvi _=>3 - (intOf vi).toNat)
 .exact ⟨0,o_,rfl,H1,Hd (λj hj=>absurd hj o_)⟩
 .clear H1
  obtain ⟨k,hk,rfl,HX,HN⟩:=hrel;by_cases hlt:k<3
  .have hk3:k=0\/k=1\/k=2:=o_
   have ag: ∀X:Z',(XD 32 (A_ #[B_ y.p0,B_ y.p1,B_ y.p2]) (I_ J_ k)).run Xa X= .ok (B_ (y.p k)) X:=λX=>Tw.indexB y.p0 y.p1 y.p2 X k hlt
   let ⟨pk,af⟩:=nm (y.p k);have az:=Hd ag
   replace ag: ∀X:Z',(XD 32 (A_ #[B_ y.p0,B_ y.p1,B_ y.p2]) (I_ J_ k)).run Xa X= .ok (B_ pk) X:=(by rw [af];exact az)
   clear az;have aE:WZ (pk=y.p k):=af;clear af;cases pk
   .go_wp2
    go_roundw
    .exact ⟨k+1,o_,by go_num,HX,Hd (λj hj hp=>by by_cases e:j<k;exact HN j e hp;obtain rfl:j=k:=o_;rw [<-aE.o] at hp;cases hp)⟩
    .simp [intOf];omega
   .go_upto_region 5 with fail
    clear ag;let ⟨wc,ac⟩:=nm (Xb wr);have HC:=Hd HX.drew;rw [<-ac] at HC;have HS:=Hd (HC.rs [] []);have HW:=Hd (Tw.Ly k x.t x.a0 x.a1 x.a2 x.PA x.UA x.l.length x.pc x.us.length x.uc x.l x.us wc HC.gT.sl rfl o_ HC.use.sl HO.us rfl (by have:=HO.o.ul;omega) o_ (GC HO k));unfold Tw.xY at HW;clear HX;have be:WZ (∀wx,(WZ (RS C (y.arr C.ga) (x.arr C.gw C.sb) [] [] [] wx))->(Ce wx C.gr 0 (P_ (X_ ⟨C.ga,0,Y_⟩)))/\(Ce wx C.ga 14 (S_ x.PA x.l.length x.pc))/\(Ce wx C.ga 22 x.t)/\(Ce wx C.ga 23 x.a0)/\(Ce wx C.ga 24 x.a1)/\(Ce wx C.ga 25 x.a2)/\(Ce wx C.ga 26 (S_ x.UA x.us.length x.uc))):=λwx F=>⟨F.r 0 d_,F.a 14 d_,F.a 22 d_,F.a 23 d_,F.a 24 d_,F.a 25 d_,F.a 26 d_⟩
    refine dm.st be ?_;rw [<-ac];clear ac;refine Xi 6 HS (u_ 0 16) be ?_;refine Xg 16 5 ?_;refine Xo ?_;refine HW.mono ?_;rintro e w2 ⟨aC,aG⟩;have H2:=Hd (HC.below aC);have G:=Hd (H2.rs [] []);clear aC HW HC HS;obtain ⟨id,ok,rfl,HF⟩: ∃(id:ByteArray) (ok:Bool),e=R_ (U_ #[T_ id,B_ ok])/\WZ ((ok=Z_/\x.l.filter Xy=[])\/(ok=Y'/\ ∃z∈x.l,Xy z=Y'/\z.dC.id=id/\ ∀q∈x.l,Xy q=Y'-> ¬Tw.od (XL k q.dC x.us) (XL k z.dC x.us)<0)):=by
     obtain ⟨h1,h2⟩|⟨z,h1,h2,h3,h4⟩:=aG
     .exact ⟨_,_,h2,Hd (.inl ⟨rfl,h1⟩)⟩
     .exact ⟨_,_,h3,Hd (.inr ⟨rfl,z,h1,h2,rfl,h4⟩)⟩
    clear aG;refine ⟨_,rfl,G,?_⟩;refine Xi 0 G (u_ 17 5) be ?_;refine Xp ?_;cases ok
    .have ab:x.l.filter Xy=[]:=by obtain ⟨_,h1⟩|⟨h0,_⟩:=HF;exact h1;cases h0
     have aV:=Hd ab;clear ab HF G;go_wp2;go_roundw
     .exact ⟨k+1,o_,by go_num,H2,Hd (λj hj hp=>aV)⟩
     .simp [intOf];omega
    .obtain ⟨z,ae,aD,rfl,ap⟩: ∃z∈x.l,Xy z=Y'/\z.dC.id=id/\ ∀q∈x.l,Xy q=Y'-> ¬Tw.od (XL k q.dC x.us) (XL k z.dC x.us)<0:=by obtain ⟨h0,_⟩|⟨_,h1⟩:=HF;cases h0;exact h1
     let ⟨hh,V,au⟩:=jA HO.st.gQ ae;have HZ:=Hd (Xl ae (Xl aD ap));have O:=Hd (uN x.r x.PA x.l.length x.pc x.o0 x.o1 x.o2 x.l z.dC.id w2 H2.gT.sl HO.st.gQ rfl o_);rw [hh] at O;unfold gF at O;have ax:WZ (om x.l (du.pos (eo x.l) z.dC.id)=ep x.l ⟨z.dC,3⟩):=Hd (by unfold om;rw [List.getElem?_eq_getElem V,au]);let ⟨P,hP⟩:=nm (du.pos (eo x.l) z.dC.id);rw [<-hP] at O ax V;let ⟨aN,U⟩:=nm (z.dC.id);rw [<-U] at O |-;have aL:=Hd U;clear ae aD ap hh au hP U HF;have k0:Ce w2 C.gr 0 (P_ (X_ ⟨C.ga,0,Y_⟩)):=G.r 0 d_;have aT:Ce w2 C.ga 13 x.r:=G.a 13 d_;have aW:Ce w2 C.ga 14 (S_ x.PA x.l.length x.pc):=G.a 14 d_;have aR:Ce w2 C.ga 15 x.o0:=G.a 15 d_;have aU:Ce w2 C.ga 16 x.o1:=G.a 16 d_;have aP:Ce w2 C.ga 17 x.o2:=G.a 17 d_;clear G;go_wp2_with fail;refine O.mono ?_;rintro e w3 ⟨rfl,ay⟩;have H3:=Hd (H2.below ay);clear O ay H2 k0 aT aW aR aU aP;have k0:Ce w3 C.gr 0 (P_ (X_ ⟨C.ga,0,Y_⟩)):=(H3.rs [] []).r 0 d_;have ah:=Hd (H3.end_ P V o_ HO.st.gQ);rw [ax.o] at ah;clear H3 V;go_wp2_with fail;refine ah.mono ?_;rintro e w4 ⟨rfl,A,c,hq⟩;obtain ⟨EA,ec,w5,hr,q1,f1,(H5:WZ _)⟩:=hq.app ⟨5,aN,k,0⟩ (by show y.ev.length<=_;omega);unfold dX.arr at hr;have k1:Ce w4 C.gr 1 (S_ y.EA y.ev.length y.ec):=(hq.rs [] []).r 1 d_;clear hq ah k0;refine pN ?_;rw [Xv];exact bodyPost_end (results_none rfl _ _ _) rfl ⟨rfl,.inr ⟨HB.symm,k,z,A,c,EA,ec,hlt,aE.symm,HZ.1,HZ.2.1,λq h1 h2=>Int.not_lt.2 (HZ.2.2 q h1 h2),by rw [<-aL.o];exact H5⟩⟩
  .obtain rfl:k=3:=o_
   go_wp2;rw [Xv];exact bodyPost_end (results_none rfl _ _ _) rfl ⟨rfl,.inl ⟨HX,.inr HN⟩⟩
end
section
variable {C:Cx} {w:Z'} {rt:Xn} {x:AV} {y:RV} {B:BL} {R:List RK} {k:Nat}
def Vp {p:Prop} (h:p:=by
 refine dm.start (S:=λwx=>Hid (RS C (y.arr C.ga) (x.arr C.gw C.sb) [] [13,14,15,16,17] B wx)) k_ ?_;rw [<-X];clear X;refine dm.tk 5 I [0,1,2,3,4,5,6,7,8,9,11] ?_
 iterate 11 (refine dm.dG rfl (λK' F=>?_);go_simp;(first|(refine F _ ?_;clear F K')|(apply Exists.intro;refine ⟨λwx aa=>?_,F _ ?_⟩;(first|rfl|(have k0:Ce wx C.gr 0 (P_ (some ⟨C.ga,0,none⟩)):=(Hid.o aa).r 0 d_;go_simp;first|done|rfl));clear F K')))
 refine dm.dn 10 4 ?_;refine dm.val rfl rfl (v:=A_ #[I_ J_ x.r,S_ x.PA x.l.length x.pc,B_ x.o0,B_ x.o1,B_ x.o2]) (w':=wc) f_ I ?_;refine dm.on 12 3 ?_;refine dm.call rfl rfl (by go_simp;exact ⟨rfl,rfl⟩) ?_;refine HW.o.mono ?_;rintro e w2 ⟨A',n',c',rfl,U,af,hA⟩;obtain rfl:=iw U;have ac:=Hd ((O.o.below af).rs [] [13,14,15,16,17]);have HT:=Hd (O.o.tab af U hA);have ab:=Hd (O.o.ne);have ag:=Hd (λt ht=>(O.o.bne t ht).1);clear U af hA HW O I ax ar av au ap;refine ⟨_,rfl,ac,?_⟩;refine dm.tk 1 ac [13,14] ?_
 iterate 2 (refine dm.dG rfl (λK' F=>?_);go_simp;(first|(refine F _ ?_;clear F K')|(apply Exists.intro;refine ⟨λwx aa=>?_,F _ ?_⟩;(first|rfl|(have k0:Ce wx C.gr 0 (P_ (some ⟨C.ga,0,none⟩)):=(Hid.o aa).r 0 d_;go_simp;first|done|rfl));clear F K')))
 refine dm.dn 15 0 ?_;refine dm.skip rfl rfl (Rd.ft (w:=w2) _ _ _ rfl C.ga 13 #[I_ J_ x.r,.slice A' (my x.l id).length c',B_ x.o0,B_ x.o1,B_ x.o2] rfl rfl HT.o.1 k_ v_) (Hd (ac.o.Ev ab.o ag.o)) ?_;have H2:=Hd HT.o.2;clear HT ac ab ag;refine dm.fi ?_;go_wp2_with fail;refine (H2.o.tell 12 0 id (by show y.ev.length<=_;omega)).mono ?_;rintro e w3 ⟨rfl,A3,c3,hq⟩;have HQ:=Hd hq;clear hq H2;go_wp2_with fail;exact bodyPost_end (results_none rfl _ _ _) rfl ⟨rfl,by rw [HZ.o];exact ⟨_,_,A3,c3,HQ.o⟩⟩):p:=h
def Vq {p:Prop} (k:q) (h:Wq q->p:=by
 intro kq;have I:=Hd (O.o.rs [] [13,14,15,16,17]);have G:=Hd (O.o.rs [] []);have ax:Ce wc C.ga 13 x.r:=G.o.a 13 d_;have ar:Ce wc C.ga 14 (S_ x.PA x.l.length x.pc):=G.o.a 14 d_;have av:Ce wc C.ga 15 x.o0:=G.o.a 15 d_;have au:Ce wc C.ga 16 x.o1:=G.o.a 16 d_;have ap:Ce wc C.ga 17 x.o2:=G.o.a 17 d_;have HW:=Hd (oY x.r x.PA x.l.length x.pc x.o0 x.o1 x.o2 x.l id wc O.o.gT.sl HR.o rfl o_ (gy O.o.gT))
 revert I G ax ar av au ap HW
 exact kq.o):p:=h ⟨k⟩
def Jq (id:ByteArray) (h:Rq C rt x y B R w) (hF:eu k rt) (hr:du.dY (eo x.l)) (hl:x.l.length<=1000) (hv:y.ev.length<=90000):
  WX Xa 126 #[P_ (X_ ⟨C.gr,0,Y_⟩),T_ id,I_ J_ (gH rt.bx id).1] w λe w'=>e=R_ (U_ #[])/\rU C x y (uE x.r (rt,x.l,y.ev) id) B R w':=by
 let ⟨z,hz⟩:=nm (uE x.r (rt,x.l,y.ev) id);rw [<-hz];unfold uE at hz;have H:=Hd h;have HF:=Hd hF;have HR:=Hd hr;clear h hF hr;by_cases hb:(gH rt.bx id).1=3
 .rw [if_pos hb] at hz
  rw [hb];clear hb;have G:=Hd (H.o.rs [] [])
  dsimp only at hz
  go_enter func126,ntmps126;go_upto_region 1 with fail;let ⟨wc,X⟩:=nm (Xb w);have O:=Hd (show Rq C rt x y B R wc from by rw [X];exact H.o.drew);have I:=Hd (O.o.rs [] []);have HA:=Hd (O.o.ask (id:=id) (q:=3) (round:=x.r) HF.o.eN d_);have aF:=Hd (mz (id:=id) (q:=3) (r:=x.r) HF.o);clear H O HF G;refine Xj (S:=λwx=>WZ (RS C (y.arr C.ga) (x.arr C.gw C.sb) [] [] B wx)) k_ ?_;rw [<-X];clear X;refine Xw 1 I [0,1,2,3,4,5,6,7,8,9,10,11,12,13,14,15] ?_;refine Mu ?_;refine dm.dn 16 0 ?_;refine wV ?_;refine HA.o.mono ?_;rintro e w1 ⟨rfl,hq⟩;have am:=Hd (hq.rs [] []);have H1:=Hd hq;clear hq HA I;refine ⟨_,rfl,am,?_⟩;refine Xp ?_;have k0:Ce w1 C.gr 0 (P_ (X_ ⟨C.ga,0,Y_⟩)):=am.o.r 0 d_;have xi:Ce w1 C.ga 11 (P_ (X_ ⟨C.gw,0,Y_⟩)):=am.o.a 11 d_;let ⟨ah,ao⟩:=nm (mV rt id 3 x.r);rw [<-ao] at hz H1 aF;clear ao am;have HS:=Hd (H1.o.box (id:=id) aF.o.eN);have aM: ∀v:Int,decide (v=3)=(v==3):=λv=>rfl
  clear aM;let ⟨b1,aE⟩:=nm ((gH ah.bx id).1);let ⟨b2,af⟩:=nm ((gH ah.bx id).2);rw [<-aE] at hz HS;rw [<-af] at HS;clear aE af;go_wp2_with fail;refine HS.o.mono ?_;rintro e w2 ⟨rfl,af⟩;have H2:=Hd (H1.o.below af);clear HS af H1 k0 xi;let ⟨w3,ai⟩:=nm (w2.alloc (.cells #[I_ J_ b1,I_ J_ b2] 228));by_cases hc:b1=3
  .subst hc
   rw [if_pos rfl] at hz;have HZ:=Hd hz;have H3:=Hd (show Rq C ah x y B R w3 from by rw [ai];exact H2.o.below (b_.alloc l_ _));clear hz H2;go_wp2;exact bodyPost_ret (v:=U_ #[]) (by simp [results,results126,go_sem]) rfl ⟨rfl,by rw [HZ.o];exact ⟨_,_,_,_,by rw [<-ai];exact H3.o⟩⟩
  .rw [if_neg hc] at hz
   have HZ:=Hd hz;have H3:=Hd (show Rq C ah x y B R w3 from by rw [ai];exact H2.o.below (b_.alloc l_ _));clear hz H2;go_upto_region 4 with fail;rw [<-ai];clear ai;let ⟨wc,X⟩:=nm (Xb w3);have O:=Hd (show Rq C ah x y B R wc from by rw [X];exact H3.o.drew);refine Vq ?_;intro I G ax ar av au ap HW;clear G H3;exact Vp
 .rw [if_neg hb] at hz
  have HZ:=Hd hz;clear hz HF;let ⟨b0,az⟩:=nm ((gH rt.bx id).1);rw [<-az] at hb |-;clear az;go_enter func126,ntmps126;go_upto_region 4 with fail;let ⟨wc,X⟩:=nm (Xb w);have O:=Hd (show Rq C rt x y B R wc from by rw [X];exact H.o.drew);refine Vq ?_;intro I G ax ar av au ap HW;clear G H;exact Vp
end
section
variable {C:Cx} {w:Z'} {rt:Xn} {x:AV} {y:RV} {B:BL} {R:List RK} {k:Nat}
def Sv (e:dq) (h:Rq C rt x y B R C.w) (hF:eu k rt) (hr:du.dY (eo x.l)) (hl:x.l.length<=1000) (hv:y.ev.length<=90000):
  WX Xa 67 #[P_ (X_ ⟨C.gr,0,Y_⟩),A_ e.arr] C.w λe' w'=>e'=R_ (U_ #[])/\rU C x y (jD x.r (rt,x.l,y.ev) e) B R w':=by
 let ⟨w,a1⟩:=nm (C.w);rw [<-a1] at h |-;have bb:WZ (C.w.heap.size<=w.heap.size):=by rw [a1];exact Nat.le_refl _
 clear a1;obtain ⟨⟨V,q1,q2,q3,q4,q5,q6,q7,q8,q9,O⟩,ac⟩:=e;let ⟨z,U⟩:=nm (jD x.r (rt,x.l,y.ev) ⟨⟨V,q1,q2,q3,q4,q5,q6,q7,q8,q9,O⟩,ac⟩);rw [<-U];unfold jD at U
 dsimp only at U
 unfold dq.arr
 dsimp only
 let ⟨g,hg⟩:=nm (w.heap.size);have H:=Hd h;have HF:=Hd hF;have HR:=Hd hr;have aS:=Hd (show (∀t∈B,t.1≠g)/\(∀t∈R,∀b,Ro.dr t.A=X_ b->b≠g)/\C.w.heap.size<=g from by
  let ⟨h1,h2⟩:=h.VN;rw [<-hg] at h1 h2;exact ⟨λt I=>by have:=h1 t I;omega,λt I b hb=>by have:=h2 t I b hb;omega,by have:=bb.o;omega⟩)
 clear h hF hr bb;go_enter func67,ntmps67;go_upto_region 1 with fail;let ⟨wc,aP⟩:=nm (Xb (w.alloc (.cells #[T_ V,I_ J_ q1,B_ q2,I_ J_ q3,I_ J_ q4,I_ J_ q5,I_ J_ q6,I_ J_ q7,I_ J_ q8,T_ q9,I_ J_ O,I_ J_ ac] 58)));have HC:=Hd (show Rq C rt x y ((g,58,#[T_ V,I_ J_ q1,B_ q2,I_ J_ q3,I_ J_ q4,I_ J_ q5,I_ J_ q6,I_ J_ q7,I_ J_ q8,T_ q9,I_ J_ O,I_ J_ ac])::B) R wc from by
  rw [aP,hg];exact H.o.ku (dL).drew (Mem.c_.drew Xk) l_)
 have HS:=Hd (HC.o.rs [] []);rw [<-hg];clear H hg;have bm:WZ (∀wx,(WZ (RS C (y.arr C.ga) (x.arr C.gw C.sb) [] [] ((g,58,#[T_ V,I_ J_ q1,B_ q2,I_ J_ q3,I_ J_ q4,I_ J_ q5,I_ J_ q6,I_ J_ q7,I_ J_ q8,T_ q9,I_ J_ O,I_ J_ ac])::B) wx))->(Ce wx (C.gr) 0 (P_ (X_ ⟨C.ga,0,Y_⟩)))/\(Ce wx (C.ga) 13 x.r)/\(Ce wx g 0 V)):=λwx F=>⟨F.o.r 0 d_,F.o.a 13 d_,F.o.b _ (m_ ..) 0⟩
 refine Xj (S:=λwx=>WZ (RS C (y.arr C.ga) (x.arr C.gw C.sb) [] [] ((g,58,#[T_ V,I_ J_ q1,B_ q2,I_ J_ q3,I_ J_ q4,I_ J_ q5,I_ J_ q6,I_ J_ q7,I_ J_ q8,T_ q9,I_ J_ O,I_ J_ ac])::B) wx)) k_ ?_;rw [<-aP];clear aP;refine Xi 0 HS [0,1,2,3,4,5,6,7,8,9,10,11,12] bm ?_;refine Xp ?_;have k0:Ce wc (C.gr) 0 (P_ (X_ ⟨C.ga,0,Y_⟩)):=HS.o.r 0 d_;have xi:Ce wc (C.ga) 11 (P_ (X_ ⟨C.gw,0,Y_⟩)):=HS.o.a 11 d_;have HX:=Hd (HC.o.box (id:=V) HF.o.eN);let ⟨b1,aK⟩:=nm ((gH rt.bx V).1);let ⟨b2,al⟩:=nm ((gH rt.bx V).2);let ⟨th,aU⟩:=nm (du.has (Wo.ids rt.bx) V);rw [<-aK,<-aU] at U;rw [<-aK,<-al,<-aU] at HX;have ak:=Hd aK;clear aK al aU;have a5:=Hd U;clear U;go_wp2_with fail;refine HX.o.mono ?_;rintro e w2 ⟨rfl,aM⟩;have H2:=Hd (HC.o.below aM);clear HX aM HC HS k0 xi;let ⟨g2,aX⟩:=nm (w2.heap.size);let ⟨w3,aQ⟩:=nm (w2.alloc (.cells #[I_ J_ b1,I_ J_ b2] 228));have H3:WZ (Rq C rt x y ((g2,228,#[I_ J_ b1,I_ J_ b2])::(g,58,#[T_ V,I_ J_ q1,B_ q2,I_ J_ q3,I_ J_ q4,I_ J_ q5,I_ J_ q6,I_ J_ q7,I_ J_ q8,T_ q9,I_ J_ O,I_ J_ ac])::B) R w3):=by rw [aQ,aX];exact H2.o.ku (dL) Xk l_
 have bq:WZ (g2≠g):=Hd (by have:=(H2.o.dr (m_ ..)).lt;omega);clear H2;have HS:=Hd (H3.o.rs [] []);go_upto_region 3 with fail;rw [<-aX,<-aQ];clear aQ aX;have aT:=HS.o.b _ (n_ _ (m_ ..)) 11;have aR:=HS.o.b _ (m_ ..) 0;have U:=a5.o;clear a5;by_cases c3:ac=3
 .subst c3
  rw [if_pos rfl] at U;have HZ:=Hd U;have HE:=Hd (Jq (C:=C) V H3.o HF.o HR.o hl hv);rw [<-ak.o] at HE;clear U ak;go_upto_region 4 with fail;go_wp2_with fail;refine HE.o.mono ?_;rintro e w4 ⟨rfl,hp⟩;have HP:=Hd hp;clear hp HE;go_wp2;exact bodyPost_end (results_none rfl _ _ _) rfl ⟨rfl,by rw [HZ.o];exact HP.o.sub (λt I=>n_ _ (n_ _ I)) (λ_ I=>I)⟩
 rw [if_neg c3] at U;cases th
 .rw [if_pos rfl] at U
  have HZ:=Hd U;clear U ak aR;have HA:=Hd (H3.o.new (id:=V) (round:=x.r) HF.o.eN);have k0:Ce w3 (C.gr) 0 (P_ (X_ ⟨C.ga,0,Y_⟩)):=HS.o.r 0 d_;have xi:Ce w3 (C.ga) 11 (P_ (X_ ⟨C.gw,0,Y_⟩)):=HS.o.a 11 d_;clear HS H3;go_upto_region 6 with fail;clear aT;go_wp2_with fail;refine HA.o.mono ?_;rintro e w4 ⟨⟨er,rfl⟩,hq⟩;have H4:WZ (Rq C (rZ rt V x.r) x y ((g,58,#[T_ V,I_ J_ q1,B_ q2,I_ J_ q3,I_ J_ q4,I_ J_ q5,I_ J_ q6,I_ J_ q7,I_ J_ q8,T_ q9,I_ J_ O,I_ J_ ac])::(g2,228,#[I_ J_ b1,I_ J_ b2])::B) R w4):=hq.sub (λt I=>by obtain rfl|I:=p_ I;exact n_ _ (m_ ..);obtain rfl|I:=p_ I;exact m_ ..;exact n_ _ (n_ _ I)) (λ_ I=>I);clear HA hq k0 xi;have bi:=pv (H4.o.dr (m_ ..));have ba:w4.frozen? ⟨g,11,Y_⟩=Z_:=(H4.o.dr (m_ ..)).frozen 11;have a8:g2≠g:=bq.o;have H5:=Hd (H4.o.VO (i:=11) (u:=I_ J_ 2) (λt I=>by obtain rfl|I:=p_ I;exact a8;exact aS.o.1 t I) aS.o.2.1 aS.o.2.2);clear H4 a8;go_upto_region 8 with fail;let ⟨X,aa⟩:=nm (Xb (w4.setCell ⟨g,11,Y_⟩ (I_ J_ 2)));have HC:WZ (Rq C (rZ rt V x.r) x y ((g,58,#[T_ V,I_ J_ q1,B_ q2,I_ J_ q3,I_ J_ q4,I_ J_ q5,I_ J_ q6,I_ J_ q7,I_ J_ q8,T_ q9,I_ J_ O,I_ J_ 2])::(g2,228,#[I_ J_ b1,I_ J_ b2])::B) R X):=by rw [aa];exact H5.o.drew
  have HS:=Hd (HC.o.rs [] [13,14,15,16,17]);have ag:=Hd (HC.o.rs [] []);have aZ:Ce X (C.ga) 13 x.r:=ag.o.a 13 d_;have a2:Ce X (C.ga) 14 (S_ x.PA x.l.length x.pc):=ag.o.a 14 d_;have aY:Ce X (C.ga) 15 x.o0:=ag.o.a 15 d_;have a0:Ce X (C.ga) 16 x.o1:=ag.o.a 16 d_;have aW:Ce X (C.ga) 17 x.o2:=ag.o.a 17 d_;have HW:=Hd (yJ x.r x.PA x.l.length x.pc x.o0 x.o1 x.o2 x.l ⟨⟨V,q1,q2,q3,q4,q5,q6,q7,q8,q9,O⟩,2⟩ X HC.o.gT.sl HR.o rfl o_ (gy HC.o.gT));unfold gF dq.arr at HW
  dsimp only at HW
  clear ag H5 bi ba;have a9:WZ (∀wx,(WZ (RS C (y.arr C.ga) (x.arr C.gw C.sb) [] [13,14,15,16,17] ((g,58,#[T_ V,I_ J_ q1,B_ q2,I_ J_ q3,I_ J_ q4,I_ J_ q5,I_ J_ q6,I_ J_ q7,I_ J_ q8,T_ q9,I_ J_ O,I_ J_ 2])::(g2,228,#[I_ J_ b1,I_ J_ b2])::B) wx))->(Ce wx (C.gr) 0 (P_ (X_ ⟨C.ga,0,Y_⟩)))/\(Ce wx g 0 V)/\(Ce wx g 1 q1)/\(Ce wx g 2 q2)/\(Ce wx g 3 q3)/\(Ce wx g 4 q4)/\(Ce wx g 5 q5)/\(Ce wx g 6 q6)/\(Ce wx g 7 q7)/\(Ce wx g 8 q8)/\(Ce wx g 9 q9)/\(Ce wx g 10 O)/\(Ce wx g 11 (I_ J_ 2))):=λwx F=>⟨F.o.r 0 d_,F.o.b _ (m_ ..) 0,F.o.b _ (m_ ..) 1,F.o.b _ (m_ ..) 2,F.o.b _ (m_ ..) 3,F.o.b _ (m_ ..) 4,F.o.b _ (m_ ..) 5,F.o.b _ (m_ ..) 6,F.o.b _ (m_ ..) 7,F.o.b _ (m_ ..) 8,F.o.b _ (m_ ..) 9,F.o.b _ (m_ ..) 10,F.o.b _ (m_ ..) 11⟩
  refine Xj (S:=λwx=>WZ (RS C (y.arr C.ga) (x.arr C.gw C.sb) [] [13,14,15,16,17] ((g,58,#[T_ V,I_ J_ q1,B_ q2,I_ J_ q3,I_ J_ q4,I_ J_ q5,I_ J_ q6,I_ J_ q7,I_ J_ q8,T_ q9,I_ J_ O,I_ J_ 2])::(g2,228,#[I_ J_ b1,I_ J_ b2])::B) wx)) k_ ?_;rw [<-aa];clear aa;refine Xi 5 HS [0,1,2,3,4,5,6,7,8,9,11] a9 ?_;refine Xg 10 4 ?_;refine dm.val rfl rfl (v:=A_ #[I_ J_ x.r,S_ x.PA x.l.length x.pc,B_ x.o0,B_ x.o1,B_ x.o2]) (w':=X) (by go_simp) HS ?_;refine Xg 12 3 ?_;refine Xo ?_;refine HW.o.mono ?_;rintro e w6 ⟨A',n',c',rfl,ai,al,hA⟩;obtain rfl:=iw ai;have ay:=Hd ((HC.o.below al).rs [] [13,14,15,16,17]);have HT:=Hd (HC.o.tab al ai hA);have aI:=Hd (HC.o.ne);have aH:=Hd (λt I=>(HC.o.bne t I).1);clear ai al hA HW HC HS aZ a2 aY a0 aW;refine ⟨_,rfl,ay,?_⟩;refine Xi 1 ay [13,14] a9 ?_;refine Xg 15 0 ?_;refine Xm rfl rfl (XM (w:=w6) _ _ _ rfl C.ga 13 #[I_ J_ x.r,.slice A' (ep x.l ⟨⟨V,q1,q2,q3,q4,q5,q6,q7,q8,q9,O⟩,2⟩).length c',B_ x.o0,B_ x.o1,B_ x.o2] rfl rfl HT.o.1 k_ (by simp [Xh])) (Hd (ay.o.Ev aI.o aH.o)) ?_;have H2:=Hd HT.o.2;clear HT ay aI aH;refine Xp ?_;go_wp2_with fail;refine (H2.o.tell 8 0 V (by show y.ev.length<=_;omega)).mono ?_;rintro e w7 ⟨rfl,A3,aB,hq⟩;have HQ:=Hd hq;clear hq H2;go_wp2;exact bodyPost_end (results_none rfl _ _ _) rfl ⟨rfl,by rw [HZ.o];exact Xq ⟨_,_,A3,aB,HQ.o⟩ (λt I=>n_ _ (n_ _ I)) (λ_ I=>I)⟩
 rw [if_neg d_] at U;by_cases c1:ac=1
 .subst c1
  rw [if_pos rfl] at U;by_cases c2:b1=3
  .subst c2
   rw [if_pos rfl] at U;have HZ:=Hd U;clear U ak;have k0:Ce w3 (C.gr) 0 (P_ (X_ ⟨C.ga,0,Y_⟩)):=HS.o.r 0 d_;have xi:Ce w3 (C.ga) 11 (P_ (X_ ⟨C.gw,0,Y_⟩)):=HS.o.a 11 d_;have HA:=Hd (H3.o.ask (id:=V) (q:=3) (round:=x.r) HF.o.eN d_);clear HS H3;go_upto_region 11 with fail;go_wp2_with fail;refine HA.o.mono ?_;rintro e w4 ⟨rfl,hq⟩;have HQ:=Hd hq;clear hq HA;go_wp2;exact bodyPost_end (results_none rfl _ _ _) rfl ⟨rfl,by rw [HZ.o];exact Xq ⟨_,_,_,_,HQ.o⟩ (λt I=>n_ _ (n_ _ I)) (λ_ I=>I)⟩
  .rw [if_neg c2] at U
   have HZ:=Hd U;clear U ak;have k0:Ce w3 (C.gr) 0 (P_ (X_ ⟨C.ga,0,Y_⟩)):=HS.o.r 0 d_;have xi:Ce w3 (C.ga) 11 (P_ (X_ ⟨C.gw,0,Y_⟩)):=HS.o.a 11 d_;have HA:=Hd (H3.o.ask (id:=V) (q:=4) (round:=x.r) HF.o.eN d_);clear HS H3;go_upto_region 14 with fail;go_wp2_with fail;refine HA.o.mono ?_;rintro e w4 ⟨rfl,hq⟩;have HQ:=Hd hq;clear hq HA;go_wp2;exact bodyPost_end (results_none rfl _ _ _) rfl ⟨rfl,by rw [HZ.o];exact Xq ⟨_,_,_,_,HQ.o⟩ (λt I=>n_ _ (n_ _ I)) (λ_ I=>I)⟩
 rw [if_neg c1] at U;by_cases d4:b1=4
 .subst d4
  rw [if_pos rfl] at U;have HZ:=Hd U;clear U ak;have k0:Ce w3 (C.gr) 0 (P_ (X_ ⟨C.ga,0,Y_⟩)):=HS.o.r 0 d_;have xi:Ce w3 (C.ga) 11 (P_ (X_ ⟨C.gw,0,Y_⟩)):=HS.o.a 11 d_;have HA:=Hd (H3.o.ask (id:=V) (q:=4) (round:=x.r) HF.o.eN d_);clear HS H3;go_upto_region 14 with fail;go_wp2_with fail;refine HA.o.mono ?_;rintro e w4 ⟨rfl,hq⟩;have HQ:=Hd hq;clear hq HA;go_wp2;exact bodyPost_end (results_none rfl _ _ _) rfl ⟨rfl,by rw [HZ.o];exact Xq ⟨_,_,_,_,HQ.o⟩ (λt I=>n_ _ (n_ _ I)) (λ_ I=>I)⟩
 rw [if_neg d4] at U;by_cases d1:b1=1
 .subst d1
  rw [if_pos rfl] at U;have HA:=Hd (H3.o.drew.pull (id:=V) (name:=q9) (size:=O) (round:=x.r) HF.o.eN);let ⟨cm,aG⟩:=nm (qz rt V q9);rw [<-aG] at U HA;have HZ:=Hd U;clear U ak aG HS;go_upto_region 16 with fail;let ⟨X,aa⟩:=nm (Xb w3);rw [<-aa] at HA;have HC:WZ (Rq C rt x y ((g2,228,#[I_ J_ 1,I_ J_ b2])::(g,58,#[T_ V,I_ J_ q1,B_ q2,I_ J_ q3,I_ J_ q4,I_ J_ q5,I_ J_ q6,I_ J_ q7,I_ J_ q8,T_ q9,I_ J_ O,I_ J_ ac])::B) R X):=by rw [aa];exact H3.o.drew
  have HS:=Hd (HC.o.rs [] []);clear H3 aT aR;have bc:WZ (∀wx,(WZ (RS C (y.arr C.ga) (x.arr C.gw C.sb) [] [] ((g2,228,#[I_ J_ 1,I_ J_ b2])::(g,58,#[T_ V,I_ J_ q1,B_ q2,I_ J_ q3,I_ J_ q4,I_ J_ q5,I_ J_ q6,I_ J_ q7,I_ J_ q8,T_ q9,I_ J_ O,I_ J_ ac])::B) wx))->(Ce wx (C.gr) 0 (P_ (X_ ⟨C.ga,0,Y_⟩)))/\(Ce wx (C.ga) 11 (P_ (X_ ⟨C.gw,0,Y_⟩)))/\(Ce wx g 9 q9)/\(Ce wx g 10 O)):=λwx F=>⟨F.o.r 0 d_,F.o.a 11 d_,F.o.b _ (n_ _ (m_ ..)) 9,F.o.b _ (n_ _ (m_ ..)) 10⟩
  refine Xj (S:=λwx=>WZ (RS C (y.arr C.ga) (x.arr C.gw C.sb) [] [] ((g2,228,#[I_ J_ 1,I_ J_ b2])::(g,58,#[T_ V,I_ J_ q1,B_ q2,I_ J_ q3,I_ J_ q4,I_ J_ q5,I_ J_ q6,I_ J_ q7,I_ J_ q8,T_ q9,I_ J_ O,I_ J_ ac])::B) wx)) k_ ?_;rw [<-aa];clear aa;refine Xi 8 HS [0,1,2,3,4,5,6,7,8,9,10,11,12,13,14] bc ?_;refine Xg 15 7 ?_;refine Xo ?_;refine HA.o.mono ?_;rintro e w4 ⟨⟨eb,eq,rfl⟩,hq⟩;have aE:=Hd (hq.rs [] []);have H4:=Hd hq;clear hq HA HS HC;refine ⟨_,rfl,aE,?_⟩;refine Xi 0 aE [16,17,18,19,20,21,22] bc ?_;refine Xp ?_;cases cm
  .clear aE
   go_wp2;exact bodyPost_end (results_none rfl _ _ _) rfl ⟨rfl,by rw [HZ.o];exact Xq ⟨_,_,_,_,H4.o⟩ (λt I=>n_ _ (n_ _ I)) (λ_ I=>I)⟩
  .have y9:Ce w4 g 9 q9:=aE.o.b _ (n_ _ (m_ ..)) 9
   have aJ:Ce w4 g 10 O:=aE.o.b _ (n_ _ (m_ ..)) 10;clear aE;have H2:=H4;clear H4;go_wp2_with fail;refine (H2.o.tell 9 O q9 (by show y.ev.length<=_;omega)).mono ?_;rintro e w7 ⟨rfl,A3,aB,hq⟩;have HQ:=Hd hq;clear hq H2;go_wp2;exact bodyPost_end (results_none rfl _ _ _) rfl ⟨rfl,by rw [HZ.o];exact Xq ⟨_,_,A3,aB,HQ.o⟩ (λt I=>n_ _ (n_ _ I)) (λ_ I=>I)⟩
 rw [if_neg d1] at U;by_cases d2:b1=2
 .subst d2
  rw [if_pos rfl] at U;let ⟨cm,aG⟩:=nm (oF rt V 2);have HA:=Hd (H3.o.ask (id:=V) (q:=2) (round:=x.r) HF.o.eN d_);rw [<-aG] at U HA;have HZ:=Hd U;clear U ak aG;have k0:Ce w3 (C.gr) 0 (P_ (X_ ⟨C.ga,0,Y_⟩)):=HS.o.r 0 d_;have xi:Ce w3 (C.ga) 11 (P_ (X_ ⟨C.gw,0,Y_⟩)):=HS.o.a 11 d_;clear HS H3;go_upto_region 20 with fail;cases cm
  .go_wp2_with fail
   refine HA.o.mono ?_;rintro e w4 ⟨rfl,hq⟩;have HQ:=Hd hq;clear hq HA;go_wp2;exact bodyPost_end (results_none rfl _ _ _) rfl ⟨rfl,by rw [HZ.o];exact Xq ⟨_,_,_,_,HQ.o⟩ (λt I=>n_ _ (n_ _ I)) (λ_ I=>I)⟩
  .go_wp2_with fail
   refine HA.o.mono ?_;rintro e w4 ⟨rfl,hq⟩;have H2:=Hd hq;clear hq HA;go_wp2_with fail;refine (H2.o.tell 10 0 V (by show y.ev.length<=_;omega)).mono ?_;rintro e w7 ⟨rfl,A3,aB,hq⟩;have HQ:=Hd hq;clear hq H2;go_wp2;exact bodyPost_end (results_none rfl _ _ _) rfl ⟨rfl,by rw [HZ.o];exact Xq ⟨_,_,A3,aB,HQ.o⟩ (λt I=>n_ _ (n_ _ I)) (λ_ I=>I)⟩
 rw [if_neg d2] at U;by_cases d6:b1=6
 .subst d6
  rw [if_pos rfl] at U;have HZ:=Hd U;clear U ak HS;go_upto_region 24 with fail;let ⟨X,aa⟩:=nm (Xb w3);have HC:WZ (Rq C rt x y ((g2,228,#[I_ J_ 6,I_ J_ b2])::(g,58,#[T_ V,I_ J_ q1,B_ q2,I_ J_ q3,I_ J_ q4,I_ J_ q5,I_ J_ q6,I_ J_ q7,I_ J_ q8,T_ q9,I_ J_ O,I_ J_ ac])::B) R X):=by rw [aa];exact H3.o.drew
  have HS:=Hd (HC.o.rs [] [13,14,15,16,17]);have ag:=Hd (HC.o.rs [] []);have aZ:Ce X (C.ga) 13 x.r:=ag.o.a 13 d_;have a2:Ce X (C.ga) 14 (S_ x.PA x.l.length x.pc):=ag.o.a 14 d_;have aY:Ce X (C.ga) 15 x.o0:=ag.o.a 15 d_;have a0:Ce X (C.ga) 16 x.o1:=ag.o.a 16 d_;have aW:Ce X (C.ga) 17 x.o2:=ag.o.a 17 d_;have HW:=Hd (oY x.r x.PA x.l.length x.pc x.o0 x.o1 x.o2 x.l V X HC.o.gT.sl HR.o rfl o_ (gy HC.o.gT));unfold gF at HW;clear ag H3 aT aR;have a7:WZ (∀wx,(WZ (RS C (y.arr C.ga) (x.arr C.gw C.sb) [] [13,14,15,16,17] ((g2,228,#[I_ J_ 6,I_ J_ b2])::(g,58,#[T_ V,I_ J_ q1,B_ q2,I_ J_ q3,I_ J_ q4,I_ J_ q5,I_ J_ q6,I_ J_ q7,I_ J_ q8,T_ q9,I_ J_ O,I_ J_ ac])::B) wx))->(Ce wx (C.gr) 0 (P_ (X_ ⟨C.ga,0,Y_⟩)))):=λwx F=>F.o.r 0 d_
  refine Xj (S:=λwx=>WZ (RS C (y.arr C.ga) (x.arr C.gw C.sb) [] [13,14,15,16,17] ((g2,228,#[I_ J_ 6,I_ J_ b2])::(g,58,#[T_ V,I_ J_ q1,B_ q2,I_ J_ q3,I_ J_ q4,I_ J_ q5,I_ J_ q6,I_ J_ q7,I_ J_ q8,T_ q9,I_ J_ O,I_ J_ ac])::B) wx)) k_ ?_;rw [<-aa];clear aa;refine Xi 5 HS [0,1,2,3,4,5,6,7,8,9,11] a7 ?_;refine Xg 10 4 ?_;refine dm.val rfl rfl (v:=A_ #[I_ J_ x.r,S_ x.PA x.l.length x.pc,B_ x.o0,B_ x.o1,B_ x.o2]) (w':=X) (by go_simp) HS ?_;refine Xg 12 3 ?_;refine Xo ?_;refine HW.o.mono ?_;rintro e w6 ⟨A',n',c',rfl,ai,al,hA⟩;obtain rfl:=iw ai;have ay:=Hd ((HC.o.below al).rs [] [13,14,15,16,17]);have HT:=Hd (HC.o.tab al ai hA);have aI:=Hd (HC.o.ne);have aH:=Hd (λt I=>(HC.o.bne t I).1);clear ai al hA HW HC HS aZ a2 aY a0 aW;refine ⟨_,rfl,ay,?_⟩;refine Xi 1 ay [13,14] a7 ?_;refine Xg 15 0 ?_;refine Xm rfl rfl (XM (w:=w6) _ _ _ rfl C.ga 13 #[I_ J_ x.r,.slice A' (my x.l V).length c',B_ x.o0,B_ x.o1,B_ x.o2] rfl rfl HT.o.1 k_ (by simp [Xh])) (Hd (ay.o.Ev aI.o aH.o)) ?_;have H2:=Hd HT.o.2;clear HT ay aI aH;refine Xp ?_;go_wp2_with fail;refine (H2.o.tell 11 0 V (by show y.ev.length<=_;omega)).mono ?_;rintro e w7 ⟨rfl,A3,aB,hq⟩;have HQ:=Hd hq;clear hq H2;go_wp2;exact bodyPost_end (results_none rfl _ _ _) rfl ⟨rfl,by rw [HZ.o];exact Xq ⟨_,_,A3,aB,HQ.o⟩ (λt I=>n_ _ (n_ _ I)) (λ_ I=>I)⟩
 rw [if_neg d6] at U;have HZ:=Hd U;clear U ak HS;go_wp2;exact bodyPost_end (results_none rfl _ _ _) rfl ⟨rfl,by rw [HZ.o];exact Xq ⟨_,_,_,_,H3.o⟩ (λt I=>n_ _ (n_ _ I)) (λ_ I=>I)⟩
def UF (e:dq) (h:Rq C rt x y B R w) (U:eu k rt) (G:du.dY (eo x.l)) (I:x.l.length<=1000) (O:y.ev.length<=90000):
  WX Xa 67 #[P_ (X_ ⟨C.gr,0,Y_⟩),A_ e.arr] w λF w'=>F=R_ (U_ #[])/\rU C x y (jD x.r (rt,x.l,y.ev) e) B R w':=by
 let ⟨b',h,t⟩:=h;exact (Sv (C:={C with w:=w,b':=b'}) e h.at_.start U G I O).mono λF w' p=>⟨p.1,p.2.back t⟩
end
structure aj (c:Nat):Prop where
 a:c≠4
 b:c≠9
structure AN (C:Cx) (b':Nat->Nat) (rt:Xn) (x:AV) (B:BL) (R:List RK) (w:Z'):Prop where
 n:N C.W w b' C.gd C.sb C.gw C.ga C.s C.v rt x
 b: ∀t∈B,fQ w b' 9 t.1 t.2.1 t.2.2
 k: ∀t∈R,eG w b' 9 t.e t.k t.A t.n t.c t.xs
def Aq (C:Cx) (rt:Xn) (x:AV) (B:BL) (R:List RK) (w:Z'):Prop:= ∃b',AN C b' rt x B R w/\dJ aj C.W C.w w C.b' b'
structure AS (C:Cx) (xa:Array WW) (Za:List Nat) (B:BL) (w:Z'):Prop where
 a: ∀i,i∉Za->w.cell? ⟨C.ga,i,Y_⟩=xa[i]?
 b: ∀t∈B,∀i,w.cell? ⟨t.1,i,Y_⟩=t.2.2[i]?
section
variable {C:Cx} {w w' w2:Z'} {b' col':Nat->Nat} {rt rt':Xn} {x x':AV} {y y':RV} {B B':BL} {R R':List RK} {J:Nat->Prop} {xa:Array WW} {Za:List Nat}
def AN.gA {s':Dk.Ds} (h:AN C b' rt x B R w) (hn:N C.W w' col' C.gd C.sb C.gw C.ga s' v' rt' x') (t:dJ J C.W w w' b' col') (h9: ¬J 9):AN {C with s:=s',v:=v'} col' rt' x' B R w':=
 ⟨hn,λq hq=>(h.b q hq).ed t h9,λq hq=>(h.k q hq).ed t h9⟩
def AN.sub (h:AN C b' rt x B R w) (hb: ∀t∈B',t∈B) (hr: ∀t∈R',t∈R):AN C b' rt x B' R' w:=⟨h.n,λt ht=>h.b t (hb t ht),λt ht=>h.k t (hr t ht)⟩
def Aq.sub (h:Aq C rt x B R w) (hb: ∀t∈B',t∈B) (hr: ∀t∈R',t∈R):Aq C rt x B' R' w:=by obtain ⟨b',h,t⟩:=h;exact ⟨b',h.sub hb hr,t⟩
def Aq.nil (h:Aq C rt x B R w):Aq C rt x [] R w:=h.sub (λ_ h=>by cases h) (λ_ h=>h)
def Aq.as (h:Aq C rt x B R w) (Za:List Nat):AS C (x.arr C.gw C.sb) Za B w:=by obtain ⟨_,h,_⟩:=h;exact ⟨λi _=>h.n.ag.dr.dr.cell i,λt ht i=>(h.b t ht).dr.cell i⟩
def AN.start (h:AN C C.b' rt x B R C.w):Aq C rt x B R C.w:=⟨_,h,dJ.refl _ _ _ _⟩
def kV {C:Cx} (t:dJ (λ_=>False) C.W w w' b' col'):dJ aj C.W w w' b' col':=t.mono λ_ c=>c.elim
def Aq.below (h:Aq C rt x B R w) (G:Bw w w'):Aq C rt x B R w':=by
 obtain ⟨b',h,t⟩:=h;have F:dJ (λ_=>False) C.W w w' b' (dN w b' λ_=>9):=XG G _;exact ⟨_,h.gA (h.n.below G (λ_=>9)) F (λc=>c),t.trans (kV F)⟩
def Aq.drew (h:Aq C rt x B R w):Aq C rt x B R w.drew:=h.below b_.drew
def Aq.ku {T:TypeId} (h:Aq C rt x B R w) (G:Bw w w') (U:Mem.c_ w' g T cs) (hn:w.heap.size<=g):Aq C rt x ((g,T,cs)::B) R w':=by
 obtain ⟨b',h,t⟩:=h;have F:dJ (λ_=>False) C.W w w' b' (dN w b' λ_=>9):=XG G _;have I:=h.gA (h.n.below G (λ_=>9)) F (λc=>c);refine ⟨_,⟨I.n,λq O=>?_,I.k⟩,t.trans (kV F)⟩;exact Es
def Aq.kt (h:Aq C rt x B R w) (G:Bw w w') (U:Ro.Row w' e k A n c xs) (hn: ∀b,Ro.dr A=X_ b->w.heap.size<=b):Aq C rt x B (⟨e,k,A,n,c,xs⟩::R) w':=by
 obtain ⟨b',h,t⟩:=h;have F:dJ (λ_=>False) C.W w w' b' (dN w b' λ_=>9):=XG G _;have I:=h.gA (h.n.below G (λ_=>9)) F (λc=>c);refine ⟨_,⟨I.n,I.b,λq O=>?_⟩,t.trans (kV F)⟩;exact Et
def Aq.row (h:Aq C rt x B R w) (F:(⟨e,k,A,n,c,xs⟩:RK)∈R):Ro.Row w e k A n c xs:=by
 obtain ⟨b',h,_⟩:=h;exact (h.k _ F).row
def Aq.gT (h:Aq C rt x B R w):Ro.Row w 58 12 x.PA x.l.length x.pc (XH x.l):=by obtain ⟨b',h,_⟩:=h;exact h.n.ag.gT.row
def Aq.oD (h:Aq C rt x B R w) (i:Nat):w.frozen? ⟨C.ga,i,Y_⟩=Z_:=by obtain ⟨b',h,_⟩:=h;exact h.n.ag.dr.dr.frozen i
def Aq.bne (h:Aq C rt x B R w): ∀t∈B,t.1≠C.ga:=by
 obtain ⟨b',h,_⟩:=h;intro t G e;have F:=(h.b t G).b';rw [e,h.n.ag.dr.b'] at F;cases F
def SJ {C:Cx} (t:dJ (λc=>c=3) C.W w w' b' col'):dJ aj C.W w w' b' col':=t.mono λc hc=>⟨o_,o_⟩
def AN.Ih (h:AN C b' rt x B R w) (t:dJ aj C.W C.w w C.b' b') (G:Ro.dt (λb=>b=C.ga) w w') (U:Mem.c_ w' C.ga 100 (x'.arr C.gw C.sb)) (O:eG w b' 3 92 5 x'.p.A x'.p.n x'.p.c (dA.flat x'.dD))
  (I:eG w b' 3 58 12 x'.PA x'.l.length x'.pc (XH x'.l)) (hs:eG w b' 3 3 1 x'.SA x'.p.n x'.sc (x'.zs.map (.int .i64)))
  (F:eG w b' 3 299 4 x'.UA x'.us.length x'.uc (et.flat x'.us)):Aq C rt x' B R w':=by
 obtain ⟨a1,a2⟩:=h.n.oH (x':=x') G U O I hs F;exact ⟨_,h.gA a1 a2 d_,t.trans (SJ a2)⟩
def Aq.mI (h:Aq C rt x B R w) (i:Nat) (u:WW) (O:(x.arr C.gw C.sb).setIfInBounds i u=x'.arr C.gw C.sb) (I:({x' with r:=x.r,o0:=x.o0,o1:=x.o1,o2:=x.o2,c0:=x.c0,c1:=x.c1,c2:=x.c2,fr:=x.fr,eB:=x.eB,dead:=x.dead}:AV)=x):Aq C rt x' B R (w.setCell ⟨C.ga,i,Y_⟩ u):=by
 exact US
def Aq.Ir (h:Aq C rt x B R w) (r:Int):Aq C rt {x with r:=r} B R (w.setCell ⟨C.ga,13,Y_⟩ (I_ J_ r)):=h.mI 13 _ (by simp [XB]) rfl
def Aq.rE (h:Aq C rt x B R w) (b:Bool):Aq C rt {x with fr:=b} B R (w.setCell ⟨C.ga,27,Y_⟩ (B_ b)):=h.mI 27 _ (by simp [XB]) rfl
def Aq.Mx (h:Aq C rt x B R w) (f:Int):Aq C rt {x with eB:=f} B R (w.setCell ⟨C.ga,28,Y_⟩ (I_ J_ f)):=h.mI 28 _ (by simp [XB]) rfl
def Aq.My (h:Aq C rt x B R w):Aq C rt {x with dead:=Y'} B R (w.setCell ⟨C.ga,29,Y_⟩ (B_ Y')):=h.mI 29 _ (by simp [XB]) rfl
def Aq.WM {us:List et} (h:Aq C rt x B R w) (G:Bw w w2) (X:Ro.Row w2 299 4 A us.length c (et.flat us)) (V: ∀b,Ro.dr A=X_ b->w.heap.size<=b):
  World.there w2 C.ga 22 5/\Aq C rt {x with t:=tm,a0:=a0,a1:=a1,a2:=a2,UA:=A,uc:=c,us:=us} B R (w2.setCells C.ga 22 [I_ J_ tm,I_ J_ a0,I_ J_ a1,I_ J_ a2,S_ A us.length c]):=by
 obtain ⟨b',h,t⟩:=h;refine zu ?_;intro I;have F:=eU.gv [I_ J_ tm,I_ J_ a0,I_ J_ a1,I_ J_ a2,S_ A us.length c] 22 _ _ I;have e:Xt (x.arr C.gw C.sb) 22 [I_ J_ tm,I_ J_ a0,I_ J_ a1,I_ J_ a2,S_ A us.length c]=({x with t:=tm,a0:=a0,a1:=a1,a2:=a2,UA:=A,uc:=c,us:=us}:AV).arr C.gw C.sb:=by simp [Xt,XB]
 rw [e] at F;refine vJ ?_;intro U;have O:=h.gA (h.n.below G (λ_=>3)) U d_;exact O.Ih (x':={x with t:=tm,a0:=a0,a1:=a1,a2:=a2,UA:=A,uc:=c,us:=us}) (t.trans (SJ U)) (eU.eI _ _ _) F O.n.ag.qy O.n.ag.gT O.n.ag.since ⟨X,λb hb=>fv (V b hb)⟩
def AS.Eu {o:Nat} (h:AS C xa Za B w) (U: ∀t∈B,t.1≠C.ga) (O: ∀i,i∉Za->i<o\/o+vs.length<=i):AS C xa Za B (w.setCells C.ga o vs):=by
 refine ⟨λi F=>?_,λt I i=>?_⟩
 .rw [World.cell?_setCells_out _ _ _ _ _ (λ_ _=>O i F)];exact h.a i F
 .exact zv
def AS.Ev (h:AS C xa [13,14,15,16,17] B w) (hB: ∀t∈B,t.1≠C.ga):AS C xa [13,14,15,16,17] B (w.setCells C.ga 13 [v1,v2,v3,v4,v5]):=
 h.Eu hB λi hi=>by
  show i<13\/13+5<=i
  simp at hi;omega
def Aq.end_ (h:Aq C rt x B R w) (i:Nat) (hi:i<x.l.length) (V:x.l.length<=1000) (G:du.dY (eo x.l)):
  WX Xa 62 #[P_ (X_ ⟨C.ga,0,Y_⟩),I_ J_ i] w λe w'=>e=R_ (U_ #[])/\ ∃A c,Aq C rt {x with PA:=A,pc:=c,l:=om x.l i} B R w':=by
 obtain ⟨b',h,t⟩:=h;refine (Oy i hi V G h.n).mono ?_;rintro e w' ⟨X,col',rt',x',F,I,O,A,c,U⟩;rw [O,U] at F;exact ⟨X,A,c,col',h.gA F I d_,t.trans (SJ I)⟩
def Aq.round (h:Aq C rt x [] R w): ∃b',dJ aj C.W C.w w C.b' b'/\ ∀w1,w1=w.alloc (.cells (RV.zero.arr C.ga) 148)->
  ∃col1,dJ aj C.W C.w w1 C.b' col1/\(∀t∈R,eG w1 col1 9 t.e t.k t.A t.n t.c t.xs)/\RN {C with w:=w1,b':=col1,gr:=w.heap.size} col1 rt x RV.zero [] [] w1:=by
 obtain ⟨b',h,t⟩:=h;refine ⟨b',t,?_⟩;rintro w1 rfl;have I:Bw w (w.alloc (.cells (RV.zero.arr C.ga) 148)):=dL;have F:dJ (λ_=>False) C.W w (w.alloc (.cells (RV.zero.arr C.ga) 148)) b' (dN w b' λ_=>8):=XG I _;have G:=h.gA (h.n.below I (λ_=>8)) F (λc=>c);exact ⟨_,t.trans (kV F),G.k,⟨G.n,⟨fQ.new Xk l_ rfl,eG.nil,eG.nil⟩,λ_ h=>(by cases h),λ_ h=>(by cases h)⟩⟩
end
section
variable {W w w':Z'} {b' col':Nat->Nat} {gd sb gw ga:Nat} {s:Dk.Ds} {v:Int} {rt:Xn} {x:AV} {m:Nat->Nat} {j:Nat}
def eG.pT (h:eG w b' j e k A n c xs) (hj:m j=j):eG w (λk=>m (b' k)) j e k A n c xs:=⟨h.row,λb hb=>by show m (b' b)=j;rw [h.b' b hb,hj]⟩
def fQ.pT {t:TypeId} (h:fQ w b' j g t cs) (hj:m j=j):fQ w (λk=>m (b' k)) j g t cs:=⟨h.dr,by show m (b' g)=j;rw [h.b',hj]⟩
def N.pT (h:N W w b' gd sb gw ga s v rt x) (F: ∀c,c<=5->m c=c) (U: ∀c,5<c->5<m c):N W w (λk=>m (b' k)) gd sb gw ga s v rt x:=by
 have key: ∀c j,j<=5->m c=j->c=j:=λc j hj e=>by
  by_cases hc:c<=5
  .rw [F c hc] at e;exact e
  .have:=U c o_;omega
 refine ⟨⟨⟨h.sys.fm.base,λk G=>?_,h.sys.fm.zero,λi g s O=>?_⟩,h.sys.st.pT (F 5 o_),h.sys.rt.mono λk G c=>?_⟩,⟨h.ag.dr.pT (F 3 o_),h.ag.qy.pT (F 3 o_),h.ag.gT.pT (F 3 o_),h.ag.since.pT (F 3 o_),h.ag.use.pT (F 3 o_)⟩⟩
 .show m (b' k)=0
  rw [h.sys.fm.lL k G];exact F 0 o_
 .have V:i=1:=by
   by_cases e:i=1
   .exact e
   .have:=O
    exact Ig
  subst V;refine (h.sys.fm.at_ 1 g s O).mono (λk G c=>?_) (λk G c=>?_) (λk c d=>?_)
  .have c':b' k=1:=c
   show m (b' k)=1
   rw [c'];exact F 1 o_
  .have c':b' k=0:=c
   show m (b' k)=0
   rw [c'];exact F 0 o_
  .have c':m (b' k)=0:=c
   have I:m (b' k)=1:=d;rw [c'] at I;cases I
 .have c':b' k=2:=c
  show m (b' k)=2
  rw [c'];exact F 2 o_
end
section
variable {C:Cx} {w w' w1:Z'} {b' col1:Nat->Nat} {rt:Xn} {x:AV} {y:RV} {R:List RK} {g:Nat}
def JI (c:Nat):Nat:=if c=8 then 9 else c
def Rq.close (h:Rq {C with w:=w1,b':=col1,gr:=g} rt x y [] [] w') (t:dJ aj C.W C.w w1 C.b' col1) (hR: ∀q∈R,eG w1 col1 9 q.e q.k q.A q.n q.c q.xs):Aq C rt x [] (⟨55,4,y.EA,y.ev.length,y.ec,dX.flat y.ev⟩::R) w':=by
 obtain ⟨col',h,t1⟩:=h;have F:dJ rj C.W w1 w' col1 col':=t1;have V:dJ aj C.W C.w w' C.b' col':=t.trans (F.mono λc hc=>by rcases hc.o with h|h|h<;>exact ⟨o_,o_⟩);have G: ∀c,c<=5->JI c=c:=λc hc=>if_neg o_
 have U: ∀c,5<c->5<JI c:=λc hc=>by unfold JI;split<;>omega
 have hn:N C.W w' col' C.gd C.sb C.gw C.ga C.s C.v rt x:=h.n;refine ⟨λk=>JI (col' k),⟨hn.pT G U,λ_ h=>(by cases h),λq I=>?_⟩,⟨V.block,λk hk X=>?_⟩⟩
 .rcases p_ I with rfl|I
  .exact ⟨h.r.ev.row,λb hb=>if_pos (h.r.ev.b' b hb)⟩
  .exact ((hR q I).ed F (λc=>by rcases c.o with h|h|h<;>cases h)).pT (m:=JI) d_
 .have e:=V.b' k hk X
  have O:col' k≠8:=λc=>X ⟨hn.sys.lL (by rw [c];decide),.inl ⟨by rw [<-e,c];decide,by rw [<-e,c];decide⟩⟩
  exact (if_neg O).trans e
end
end Nd
end
end Go.Proofs.YtkidababfdehlaaGreatDoor
