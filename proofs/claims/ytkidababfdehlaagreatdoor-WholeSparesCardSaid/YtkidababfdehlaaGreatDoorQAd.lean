/- Parts of the walk. -/
import Derived.Test.YtkidababfdehlaaGreatDoorQAc
import Derived.Lib.ConvBytes
set_option linter.all false
set_option maxRecDepth 100000
set_option maxHeartbeats 64000000
namespace Go.Proofs.YtkidababfdehlaaGreatDoor
open Value renaming int -> I_,bool -> B_,string -> T_,slice -> S_,pointer -> P_,tuple -> U_,agg -> A_
open IntKind renaming i64 -> J_
open Ending renaming returned -> R_
open _root_.Array renaming size -> X_
open Go.World renaming heap -> Y_
open Option renaming some -> Y',none -> Z_
open Bool renaming true -> Z',false -> WW,false_eq_true -> XS,toNat_false -> Ya
open Go renaming World -> WX,Value -> WY,Calls -> WZ,Addr -> Xa
open Go.RowKit renaming Hid -> Xb
open _root_.Go.Proofs.Tryz renaming prog -> Xc
open Int renaming eq_ofNat_of_zero_le -> Xd
open Go.World renaming size_alloc -> Xe,drew -> XP
open Nat renaming two_pow_pos -> Xf,pow_le_pow_right -> Xh,shiftLeft_zero -> Xi,pow_add -> Xk,sub_add_cancel -> Xo,mul_lt_mul_of_pos_right -> Xq,eq_or_lt_of_le -> Xt,div_eq_of_lt -> Xu,mul_le_mul_right -> Xw,mul_div_cancel -> Xz,one_shiftLeft -> XC,shiftLeft_eq -> XE,le_of_lt -> XG,mul_assoc -> XO,lt_of_le_of_lt -> XR,lt_log2_self -> XZ
open Mem.c_ renaming new -> Xg,a_ -> XF
open Mem renaming c_ -> Xj,ei -> XD,Sl -> Yc
open Sat renaming add -> Xl
open Ieee.Datum renaming integral -> Xm,order -> Xv
open And renaming intro -> Xn
open dA renaming arr -> Xp,ia -> XK
open Go.Instr renaming index -> Xr
open Ieee.Toward renaming cut -> Xs
open Go.World.ownsRow renaming alloc -> Xx,drew -> Xy,lt -> XY
open Go.Lib renaming bytesWorld -> XA,bytesWorld_size -> XM
open Go.IntKind renaming signed -> XB,wrap -> XH,bits -> XI
open Exists renaming intro -> XJ
open Ieee renaming Toward -> XL,signed -> Yb
open Ieee.Format renaming nearest -> XN,order -> XW
open Go.Value renaming bool -> XQ
open dm renaming start -> XT
open List renaming map_map -> XU,foldl_append -> XV
open ef renaming arr -> XX
variable {s:Bool} {k0 k1 k2 x0 x1 x2:Int} {a:List UInt8} {b ga gc gt i j k m n r:Nat} {A:Option Xa} {q:Prop} {u:WY} {w w':WX} {t:dA}
open Go.RowKit
section
open _root_.Go.Proofs.Tryz
namespace gu
def iP (w:WX) (B:Nat) (A:Option Xa) (n c:Nat) (xs:List WY):Prop:=w.ownsRow B 3 1 (S_ A n c) n xs
def lh (w:WX) (B:Nat) (A:Option Xa) (n c:Nat) (xs:List WY):Prop:=w.ownsRow B 4 1 (S_ A n c) n xs
def N_:Mem.El Xc 49 3 (I_ J_ 0) 1 8:=⟨underlying49,k_,rfl,d_⟩
def Ww:Mem.El Xc 48 4 (B_ WW) 1 1:=⟨underlying48,k_,rfl,d_⟩
def QK (t:dA) (F G:Int) (w:WX) (ht:t.ok) (hc:XK F) (ha:XK G):
  WZ Xc 163 #[A_ t.arr,I_ J_ F,I_ J_ G] w λe w'=>e=R_ (B_ (tS t F G))/\Bw w w':=by
 have hb:Xb (∀w,WZ Xc 222 #[I_ J_ G,I_ J_ F,I_ J_ t.jx] w λe w'=>e=R_ (B_ (jW.below G F t.jx))/\Bw w w'):=λw=>jW.MP G F t.jx w ha.2 hc.2 ht.jx.2
 have I:Xb (tS t F G=if 0<t.jx then jW.below G F t.jx else decide (G<t.mN)):=rfl;clear ht hc ha;generalize tS t F G=M at*;let ⟨sig,jx,mN,X,U⟩:=t;unfold Xp
 dsimp only at hb I |-
 obtain h|h:=Int.lt_or_le 0 jx
 .have hd:decide (jx>0)=Z':=by simpa using h
  have O:Xb (M=jW.below G F jx):=by show _=_;rw [I.o,if_pos h]
  clear I h;go_enter func163,ntmps163;go_wp2_with fail;refine (hb _).mono ?_;rintro e w1 ⟨rfl,V⟩;have L1:Bw w w1:=(dL).trans (V.mono y_);go_wp2;go_ret;exact ⟨by rw [O.o];rfl,L1⟩
 .have hd:decide (jx>0)=WW:=by simpa using h
  have O:Xb (M=decide (G<mN)):=by show _=_;rw [I.o,if_neg o_]
  clear I h;go_enter func163,ntmps163;go_wp2;go_ret;exact ⟨by rw [O.o];rfl,dL⟩
def uP (t:dA) (F:Int) (w:WX) (X:t.ok) (hc:XK F):
  WZ Xc 171 #[A_ t.arr,I_ J_ F] w λe w'=>e=R_ (I_ J_ (kD t F))/\Bw w w':=by
 have hb:Xb (∀w,WZ Xc 229 #[I_ J_ F,I_ J_ t.jx] w λe w'=>e=R_ (I_ J_ (jW.share F t.jx))/\Bw w w'):=λw=>jW.MQ F t.jx w hc.2 X.jx.2
 have I:Xb (kD t F=if 0<t.jx then jW.share F t.jx else t.mN):=rfl;clear X hc;generalize kD t F=M at*;let ⟨sig,jx,mN,V,G⟩:=t;unfold Xp
 dsimp only at hb I |-
 obtain h|h:=Int.lt_or_le 0 jx
 .have hd:decide (jx>0)=Z':=by simpa using h
  have O:Xb (M=jW.share F jx):=by show _=_;rw [I.o,if_pos h]
  clear I h;go_enter func171,ntmps171;go_wp2_with fail;refine (hb _).mono ?_;rintro e w1 ⟨rfl,U⟩;have L1:Bw w w1:=(dL).trans (U.mono y_);go_wp2;go_ret;exact ⟨by rw [O.o];rfl,L1⟩
 .have hd:decide (jx>0)=WW:=by simpa using h
  have O:Xb (M=mN):=by show _=_;rw [I.o,if_neg o_]
  clear I h;go_enter func171,ntmps171;go_wp2;go_ret;exact ⟨by rw [O.o];rfl,dL⟩
def CO (n:Nat) (xs:List WY) (W:WX) (e:Ending) (w':WX):Prop:= ∃A' c',e=R_ (S_ A' n c')/\iP w' W.heap.size A' n c' xs/\Bw W w'
def QJ (n:Nat) (xs:List WY) (W:WX) (e:Ending) (w':WX):Prop:= ∃A' c',e=R_ (S_ A' n c')/\lh w' W.heap.size A' n c' xs/\Bw W w'
def iu (n:Nat):List WY:=List.replicate n (I_ J_ (-1))
def uQ (p:ef) (w:WX) (hn:p.n<=1000000):WZ Xc 52 #[A_ p.arr] w (CO p.n (iu p.n) w):=by
 let ⟨k0,k1,k2,a0,a1,a2,A,n,c,az,ax,aA,dead⟩:=p;unfold XX
 dsimp only at hn |-
 let ⟨wm,V,hO,I,_⟩:=tU N_ rfl n hn d_ (w.alloc (.cells #[I_ J_ k0,I_ J_ k1,I_ J_ k2,I_ J_ a0,I_ J_ a1,I_ J_ a2,S_ A n c,I_ J_ az,I_ J_ ax,I_ J_ aA,I_ J_ dead] 25));rw [Xe] at V hO I;have L1:Bw w wm:=(dL).trans (I.mono o_);have O:iP wm w.heap.size (Y' ⟨X_ (Y_ w)+1,0,Z_⟩) n n (part (iu n) (I_ J_ 0) 0):=by
  rw [mh];have:(iu n).length=n:=by simp [iu]
  rw [this];exact lg hO o_
 have ae:(iu n).length=n:=by simp [iu]
 clear I hO;go_enter func52,ntmps52;go_wp2;go_loopw [11] (λvi wr=> ∃k:Nat,k<=n/\vi=I_ J_ k/\Bw w wr/\iP wr w.heap.size (Y' ⟨X_ (Y_ w)+1,0,Z_⟩) n n (part (iu n) (I_ J_ 0) k)) (λi _=>n - (intOf i).toNat)
 .exact ⟨0,o_,rfl,L1,O⟩
 .clear L1 O V
  obtain ⟨k,hk,rfl,X,an⟩:=hrel;by_cases ah:k<n
  .let ⟨g,hl,hg,hg1,hg2,aR,hfz,ba⟩:=lf an ah
   obtain rfl:X_ (Y_ w)+1=g:=by simpa using hg
   have U:Xb (iP (wr.setCell ⟨X_ (Y_ w)+1,k,Z_⟩ (I_ J_ (-1))) w.heap.size (Y' ⟨X_ (Y_ w)+1,0,Z_⟩) n n (part (iu n) (I_ J_ 0) (k+1))):=by
    have q:=ba (I_ J_ (-1));have e:(iu n)[k]'o_=I_ J_ (-1):=by simp [iu]
    show iP _ _ _ _ _ _
    rw [<-nz (iu n) _ k o_,e];exact q
   clear ba hg;go_wp2;go_roundw
   .exact ⟨k+1,o_,by go_num,X.setCell y_ _,U⟩
   .simp [intOf];omega
  .obtain rfl:k=n:=o_
   go_wp2;go_ret;have q:=an;have e:part (iu k) (I_ J_ 0) k=iu k:=by have:=nx (iu k) (I_ J_ 0);rw [ae] at this;exact this
   rw [e] at q;exact ⟨_,_,rfl,q,X⟩
def LB (k0 k1 k2 x0 x1 x2:Int) (t:dA):Bool:=tS t (iY k0 k1 k2 t.sig) (iY x0 x1 x2 t.sig)
def lV (p:ef) (x0 x1 x2:Int) (dD:List dA):List Bool:=dD.map (LB p.c0 p.c1 p.c2 x0 x1 x2)
structure lJ (w:WX) (gc ga gt:Nat) (k0 k1 k2 x0 x1 x2:Int) (t:dA):Prop where
 k0:w.cell? ⟨gc,0,Z_⟩=Y' (I_ J_ k0)
 k1:w.cell? ⟨gc,1,Z_⟩=Y' (I_ J_ k1)
 k2:w.cell? ⟨gc,2,Z_⟩=Y' (I_ J_ k2)
 x0:w.cell? ⟨ga,0,Z_⟩=Y' (I_ J_ x0)
 x1:w.cell? ⟨ga,1,Z_⟩=Y' (I_ J_ x1)
 x2:w.cell? ⟨ga,2,Z_⟩=Y' (I_ J_ x2)
 t0:w.cell? ⟨gt,0,Z_⟩=Y' (I_ J_ t.sig)
 t1:w.cell? ⟨gt,1,Z_⟩=Y' (I_ J_ t.jx)
 t2:w.cell? ⟨gt,2,Z_⟩=Y' (I_ J_ t.mN)
 t3:w.cell? ⟨gt,3,Z_⟩=Y' (B_ t.soft)
 t4:w.cell? ⟨gt,4,Z_⟩=Y' (I_ J_ t.jm)
def lJ.below (h:lJ w gc ga gt k0 k1 k2 x0 x1 x2 t) (hb:Bw w w') (h1:gc<X_ (Y_ w)) (h2:ga<X_ (Y_ w)) (h3:gt<X_ (Y_ w)):lJ w' gc ga gt k0 k1 k2 x0 x1 x2 t:=
 ⟨(hb.cell (p:=⟨gc,0,Z_⟩) h1).trans h.k0,(hb.cell (p:=⟨gc,1,Z_⟩) h1).trans h.k1,(hb.cell (p:=⟨gc,2,Z_⟩) h1).trans h.k2,(hb.cell (p:=⟨ga,0,Z_⟩) h2).trans h.x0,(hb.cell (p:=⟨ga,1,Z_⟩) h2).trans h.x1,(hb.cell (p:=⟨ga,2,Z_⟩) h2).trans h.x2,(hb.cell (p:=⟨gt,0,Z_⟩) h3).trans h.t0,(hb.cell (p:=⟨gt,1,Z_⟩) h3).trans h.t1,(hb.cell (p:=⟨gt,2,Z_⟩) h3).trans h.t2,(hb.cell (p:=⟨gt,3,Z_⟩) h3).trans h.t3,(hb.cell (p:=⟨gt,4,Z_⟩) h3).trans h.t4⟩
def lJ.drew (h:lJ w gc ga gt k0 k1 k2 x0 x1 x2 t):lJ w.drew gc ga gt k0 k1 k2 x0 x1 x2 t:=
 ⟨h.k0,h.k1,h.k2,h.x0,h.x1,h.x2,h.t0,h.t1,h.t2,h.t3,h.t4⟩
def lJ.setCell (h:lJ w gc ga gt k0 k1 k2 x0 x1 x2 t) {q:Xa} (h1:q.block≠gc) (h2:q.block≠ga) (h3:q.block≠gt):lJ (w.setCell q u) gc ga gt k0 k1 k2 x0 x1 x2 t:=
 ⟨XD h1 h.k0,XD h1 h.k1,XD h1 h.k2,XD h2 h.x0,XD h2 h.x1,XD h2 h.x2,XD h3 h.t0,XD h3 h.t1,XD h3 h.t2,XD h3 h.t3,XD h3 h.t4⟩
def QH {p:Prop} (k:q) (h:Wq q->p:=by
 intro kq;have aa:=al _ aA.symm w2 ab;have HS:=Hd aa;clear aa;refine ⟨_,rfl,M2,?_⟩;refine dm.tk 1 M2 [13] ?_
 iterate 1 (refine dm.dG rfl (λK' O=>?_);go_simp;(first|refine O _ ?_|constructor;refine ⟨λwx F=>?_,O _ ?_⟩;(first|rfl|(have ax:=F.k0;have aF:=F.k1;have aB:=F.k2;have aw:=F.x0;have ay:=F.x1;have aC:=F.x2;have ae:=F.t0;have ah:=F.t1;have ai:=F.t2;have ag:=F.t3;have af:=F.t4;dsimp only at ae ah ai ag af;go_simp<;>rfl)));clear O K')
 refine dm.ee ?_;refine dm.on 14 0 ?_
 revert HS
 exact kq.o):p:=h ⟨k⟩
def QI {p:Prop} (k:q) (h:Wq q->p:=by
 intro kq;refine dm.tk 3 M0.drew (u_ 0 12) ?_
 iterate 12 (refine dm.dG rfl (λK' O=>?_);go_simp;(first|refine O _ ?_|constructor;refine ⟨λwx F=>?_,O _ ?_⟩;(first|rfl|(have ax:=F.k0;have aF:=F.k1;have aB:=F.k2;have aw:=F.x0;have ay:=F.x1;have aC:=F.x2;have ae:=F.t0;have ah:=F.t1;have ai:=F.t2;have ag:=F.t3;have af:=F.t4;dsimp only at ae ah ai ag af;go_simp<;>rfl)));clear O K')
 refine dm.ee ?_;refine dm.on 12 2 ?_;refine dm.cl ?_;exact kq.o):p:=h ⟨k⟩
def GF {p:Prop} (h:p:=by
 refine dm.fi ?_;go_wp2_with fail;go_roundw
 .exact ⟨k+1,o_,by go_num,L2.setCell w_ _,by simp<;>omega,D0.fA w_,D1.fA w_,HS⟩
 .simp [intOf];omega):p:=h
def Oz (p:ef) (dD:List dA) (x0 x1 x2:Int) (w:WX) (hp:p.ok w w.heap.size dD) (hn:p.n<=1000000) (hr: ∀t∈dD,fR t) (a8:XK x0) (a4:XK x1) (a5:XK x2):
  WZ Xc 107 #[A_ p.arr,A_ #[x0,x1,x2]] w (QJ p.n ((lV p x0 x1 x2 dD).map .bool) w):=by
 have aO:=hp.len;have aY:=hp.sl;have Hp:=Hd hp;have Hr:=Hd hr;have aJ:((lV p x0 x1 x2 dD).map XQ).length=p.n:=by simp [lV,aO]
 let ⟨L,hL⟩:=nm ((lV p x0 x1 x2 dD).map XQ);rw [<-hL] at aJ |-;have HL:=Hd hL;have Hx:=Hd (Xn a8 (Xn a4 a5));clear hL hp hr a8 a4 a5;let ⟨k0,k1,k2,a0,a1,a2,A,n,c,aL,aM,aK,dead⟩:=p;unfold XX
 dsimp only at hn aO aY aJ |-
 let ⟨wm,aW,hO,au,bh⟩:=tU Ww rfl n hn d_ ((w.alloc (.cells #[k0,k1,k2,a0,a1,a2,S_ A n c,aL,aM,aK,dead] 25)).alloc (.cells #[x0,x1,x2] 22));rw [Xe,Xe] at aW hO au bh;have zm:=au.size;have L1:=((dL).alloc y_ _).trans (au.mono o_);have B0:Xj wm w.heap.size 25 #[k0,k1,k2,a0,a1,a2,S_ A n c,aL,aM,aK,dead]:=Mem.c_.new.alloc.below au o_;have B1:Xj wm (X_ (Y_ w)+1) 22 #[x0,x1,x2]:=by
  have q:=Xg (w:=w.alloc (.cells #[k0,k1,k2,a0,a1,a2,S_ A n c,aL,aM,aK,dead] 25)) (t:=22) (cs:= #[x0,x1,x2]);rw [Xe] at q;exact q.below au o_
 have a9:lh wm w.heap.size (Y' ⟨X_ (Y_ w)+1+1,0,Z_⟩) n n (part L (B_ WW) 0):=by
  rw [mh,aJ];exact lg hO o_
 have zO:X_ (Y_ w)+3<=X_ (Y_ wm):=by
  omega
 have m6:=c6 B0;clear au hO zm;go_enter func107,ntmps107;go_wp2;go_loopw [15] (λvi wr=> ∃k:Nat,k<=n/\vi=I_ J_ k/\Bw w wr/\X_ (Y_ w)+3<=X_ (Y_ wr)/\Xj wr w.heap.size 25 #[k0,k1,k2,a0,a1,a2,S_ A n c,aL,aM,aK,dead]/\Xj wr (X_ (Y_ w)+1) 22 #[x0,x1,x2]/\lh wr w.heap.size (Y' ⟨X_ (Y_ w)+1+1,0,Z_⟩) n n (part L (B_ WW) k)) (λi _=>n - (intOf i).toNat)
 .exact ⟨0,o_,rfl,L1,zO,B0,B1,a9⟩
 .clear L1 a9 aW B0 B1 m6 zO
  obtain ⟨k,hk,rfl,ap,hz,B0,B1,an⟩:=hrel;by_cases az:k<n
  .let ⟨g,hl,hg,hg1,hg2,aR,hfz,ba⟩:=lf an az
   obtain rfl:X_ (Y_ w)+1+1=g:=by simpa using hg
   obtain ⟨ad,bj,rfl,_,hbk,a7⟩:=dA.at_ (aY.below ap) az;have aG:dD[k]∈dD:=g_ bj;have aS:=Hr _ aG;have bb:=Hp.each _ aG;have aT:L[k]'o_=B_ (LB k0 k1 k2 x0 x1 x2 dD[k]):=by
    have:=HL.o;subst this;simp [lV]
   have al:Xb (∀b,b=LB k0 k1 k2 x0 x1 x2 dD[k]-> ∀wx:WX,(∀y:WY,(wx.setCell ⟨X_ (Y_ w)+1+1,k,Z_⟩ y).ownsRow w.heap.size 4 1 (S_ (Y' ⟨X_ (Y_ w)+1+1,0,Z_⟩) n n) n ((part L (B_ WW) k).set k y))->lh (wx.setCell ⟨X_ (Y_ w)+1+1,k,Z_⟩ (B_ b)) w.heap.size (Y' ⟨X_ (Y_ w)+1+1,0,Z_⟩) n n (part L (B_ WW) (k+1))):=by
    intro b hb wx hx;have q:=hx (B_ b);rw [hb,<-aT] at q;rw [hb,<-aT,<-nz L _ k o_];exact q
   have ac:Xb (∀(aE av:Int) (w:WX),XK aE->XK av->WZ Xc 163 #[A_ dD[k].arr,aE,av] w λe w'=>e=R_ (B_ (tS dD[k] aE av))/\Bw w w'):=λaE av w h1 h2=>QK dD[k] aE av w bb h1 h2
   have aA:Xb (LB k0 k1 k2 x0 x1 x2 dD[k]=tS dD[k] (iY k0 k1 k2 dD[k].sig) (iY x0 x1 x2 dD[k].sig)):=rfl;have a6:=aS.s0;have bc:=aS.s2;let ⟨t,ht⟩:=nm (dD[k]);rw [<-ht] at a6 bc a7 ac al aA;clear ba aS bb aT aG ht aR;let ⟨sig,U,V,I,G⟩:=t;unfold Xp at ac
   dsimp only at a6 bc ac aA
   let ⟨c0,c1,c2,c3,c4⟩:=a7
   dsimp only at c0 c1 c2 c3 c4
   have bl:sig=0\/sig=1\/sig=2:=o_;obtain rfl|rfl|rfl:=bl
   .go_wp2_with fail
    clear c0 c1 c2 c3 c4;have LW:Bw w (wr.alloc (.cells (Xp ⟨0,U,V,I,G⟩) 92)):=ap.alloc ap.size _;have M0:lJ (wr.alloc (.cells (Xp ⟨0,U,V,I,G⟩) 92)) w.heap.size (X_ (Y_ w)+1) wr.heap.size k0 k1 k2 x0 x1 x2 ⟨0,U,V,I,G⟩:=
     have T0:=Xg (w:=wr) (t:=92) (cs:=Xp ⟨0,U,V,I,G⟩)
     ⟨B0.alloc.cell 0,B0.alloc.cell 1,B0.alloc.cell 2,B1.alloc.cell 0,B1.alloc.cell 1,B1.alloc.cell 2,T0.cell 0,T0.cell 1,T0.cell 2,T0.cell 3,T0.cell 4⟩
    refine XT (S:=(λw'=>lJ w' w.heap.size (X_ (Y_ w)+1) wr.heap.size k0 k1 k2 x0 x1 x2 ⟨0,U,V,I,G⟩)) k_ ?_;refine QI ?_;refine (ac k0 x0 _ (by first|exact Hp.c0|exact Hp.c1|exact Hp.c2) (by first|exact Hx.1|exact Hx.2.1|exact Hx.2.2)).mono ?_;rintro e w2 ⟨rfl,X⟩;have L2:=LW.drew.trans (X.mono LW.size);have z2:X_ (Y_ wr)+1<=X_ (Y_ w2):=by
     have q:(wr.alloc (.cells (Xp ⟨0,U,V,I,G⟩) 92)).heap.size<=X_ (Y_ w2):=X.size;rw [Xe] at q;exact q
    have M2:=lJ.below M0.drew X w_ w_ w_;have D0:=XF B0.alloc.drew X;have D1:=XF B1.alloc.drew X;have ak:=ib (Xy (Xx an _)) X l_;let ⟨g,_,ao,_,aV,_,aP,ab⟩:=lf ak az;obtain rfl:X_ (Y_ w)+1+1=g:=by simpa using ao
    refine QH ?_;intro HS;clear ab ao;refine dm.skip rfl rfl (w':=w2.setCell ⟨X_ (Y_ w)+1+1,k,Z_⟩ (B_ (tS ⟨0,U,V,I,G⟩ k0 x0))) f_ (M2.setCell w_ w_ w_) ?_;exact GF
   .go_wp2_with fail
    clear c0 c1 c2 c3 c4;have LW:Bw w (wr.alloc (.cells (Xp ⟨1,U,V,I,G⟩) 92)):=ap.alloc ap.size _;have M0:lJ (wr.alloc (.cells (Xp ⟨1,U,V,I,G⟩) 92)) w.heap.size (X_ (Y_ w)+1) wr.heap.size k0 k1 k2 x0 x1 x2 ⟨1,U,V,I,G⟩:=
     have T0:=Xg (w:=wr) (t:=92) (cs:=Xp ⟨1,U,V,I,G⟩)
     ⟨B0.alloc.cell 0,B0.alloc.cell 1,B0.alloc.cell 2,B1.alloc.cell 0,B1.alloc.cell 1,B1.alloc.cell 2,T0.cell 0,T0.cell 1,T0.cell 2,T0.cell 3,T0.cell 4⟩
    refine XT (S:=(λw'=>lJ w' w.heap.size (X_ (Y_ w)+1) wr.heap.size k0 k1 k2 x0 x1 x2 ⟨1,U,V,I,G⟩)) k_ ?_;refine QI ?_;refine (ac k1 x1 _ (by first|exact Hp.c0|exact Hp.c1|exact Hp.c2) (by first|exact Hx.1|exact Hx.2.1|exact Hx.2.2)).mono ?_;rintro e w2 ⟨rfl,X⟩;have L2:=LW.drew.trans (X.mono LW.size);have z2:X_ (Y_ wr)+1<=X_ (Y_ w2):=by
     have q:(wr.alloc (.cells (Xp ⟨1,U,V,I,G⟩) 92)).heap.size<=X_ (Y_ w2):=X.size;rw [Xe] at q;exact q
    have M2:=lJ.below M0.drew X w_ w_ w_;have D0:=XF B0.alloc.drew X;have D1:=XF B1.alloc.drew X;have ak:=ib (Xy (Xx an _)) X l_;let ⟨g,_,ao,_,aV,_,aP,ab⟩:=lf ak az;obtain rfl:X_ (Y_ w)+1+1=g:=by simpa using ao
    refine QH ?_;intro HS;clear ab ao;refine dm.skip rfl rfl (w':=w2.setCell ⟨X_ (Y_ w)+1+1,k,Z_⟩ (B_ (tS ⟨1,U,V,I,G⟩ k1 x1))) f_ (M2.setCell w_ w_ w_) ?_;exact GF
   .go_wp2_with fail
    clear c0 c1 c2 c3 c4;have LW:Bw w (wr.alloc (.cells (Xp ⟨2,U,V,I,G⟩) 92)):=ap.alloc ap.size _;have M0:lJ (wr.alloc (.cells (Xp ⟨2,U,V,I,G⟩) 92)) w.heap.size (X_ (Y_ w)+1) wr.heap.size k0 k1 k2 x0 x1 x2 ⟨2,U,V,I,G⟩:=
     have T0:=Xg (w:=wr) (t:=92) (cs:=Xp ⟨2,U,V,I,G⟩)
     ⟨B0.alloc.cell 0,B0.alloc.cell 1,B0.alloc.cell 2,B1.alloc.cell 0,B1.alloc.cell 1,B1.alloc.cell 2,T0.cell 0,T0.cell 1,T0.cell 2,T0.cell 3,T0.cell 4⟩
    refine XT (S:=(λw'=>lJ w' w.heap.size (X_ (Y_ w)+1) wr.heap.size k0 k1 k2 x0 x1 x2 ⟨2,U,V,I,G⟩)) k_ ?_;refine QI ?_;refine (ac k2 x2 _ (by first|exact Hp.c0|exact Hp.c1|exact Hp.c2) (by first|exact Hx.1|exact Hx.2.1|exact Hx.2.2)).mono ?_;rintro e w2 ⟨rfl,X⟩;have L2:=LW.drew.trans (X.mono LW.size);have z2:X_ (Y_ wr)+1<=X_ (Y_ w2):=by
     have q:(wr.alloc (.cells (Xp ⟨2,U,V,I,G⟩) 92)).heap.size<=X_ (Y_ w2):=X.size;rw [Xe] at q;exact q
    have M2:=lJ.below M0.drew X w_ w_ w_;have D0:=XF B0.alloc.drew X;have D1:=XF B1.alloc.drew X;have ak:=ib (Xy (Xx an _)) X l_;let ⟨g,_,ao,_,aV,_,aP,ab⟩:=lf ak az;obtain rfl:X_ (Y_ w)+1+1=g:=by simpa using ao
    refine QH ?_;intro HS;clear ab ao;refine dm.skip rfl rfl (w':=w2.setCell ⟨X_ (Y_ w)+1+1,k,Z_⟩ (B_ (tS ⟨2,U,V,I,G⟩ k2 x2))) f_ (M2.setCell w_ w_ w_) ?_;exact GF
  .obtain rfl:k=n:=o_
   go_wp2;go_ret;have q:=an;have e:part L (B_ WW) k=L:=by have:=nx L (B_ WW);rw [aJ] at this;exact this
   rw [e] at q;exact ⟨_,_,rfl,q,ap⟩
def yH (t:dA) (W:WX) (e:Ending) (w':WX):Prop:= ∃b,e=R_ (B_ b)/\(b=Z'->fR t)/\Bw W w'
def Gg (t:dA) (w:WX):WZ Xc 32 #[A_ t.arr] w (yH t w):=by
 let ⟨U,G,I,ac,F⟩:=t;unfold Xp
 dsimp only
 have L1:Bw w (w.alloc (.cells #[I_ J_ U,I_ J_ G,I_ J_ I,B_ ac,I_ J_ F] 92)):=dL;have aa:(U<0\/2<U\/G<0\/100<G\/I<0)\/0<=U/\U<=2/\0<=G/\G<=100/\0<=I:=o_;obtain aa|⟨s0,s2,p0,p1,m0⟩:=aa
 .have ah:U<0\/0<=U/\(2<U\/U<=2/\(G<0\/0<=G/\(100<G\/G<=100/\I<0))):=o_
  clear aa;obtain h|⟨h,h'|⟨h',h2|⟨h2,h3|⟨h3,h4⟩⟩⟩⟩:=ah
  all_goals
   go_enter func32,ntmps32;exact kO
 .have e0:decide (U<0)=WW:=by simpa using s0
  have e1:decide (U>2)=WW:=by simpa using s2
  have e2:decide (G<0)=WW:=by simpa using p0
  have e3:decide (G>100)=WW:=by simpa using p1
  have e4:decide (I<0)=WW:=by simpa using m0
  have Hs:=Hd (Xn s0 (Xn s2 (Xn p0 (Xn p1 m0))));have aa:(G=0/\I=0)\/(G≠0/\I≠0)\/(G=0/\I≠0)\/(G≠0/\I=0):=o_;clear s0 s2 p0 p1 m0;obtain ⟨X,V⟩|⟨X,V⟩|⟨X,V⟩|⟨X,V⟩:=aa
  .subst X;subst V
   go_enter func32,ntmps32;exact kO
  .have d1:(G==0)=WW:=by simpa using X
   have d2:(I==0)=WW:=by simpa using V
   clear X V;go_enter func32,ntmps32;exact kO
  all_goals
   have O:Xb ((G=0/\0<I)\/(0<G/\I=0)):=by have:=Hs.o;show _\/_;omega
   cases ac with
   |true=>
    have aa:F<1\/1<=F/\(1000<F\/F<=1000):=o_;obtain g1|⟨g1,g2|g2⟩:=aa
    .have d3:decide (F≥1)=WW:=by simpa using g1
     clear g1
     first
      |(subst X;have d2:(I==0)=WW:=(by simpa using V);clear V O)
      |(subst V;have d2:(G==0)=WW:=(by simpa using X);clear X O)
     go_enter func32,ntmps32;exact kO
    .have d3:decide (F≥1)=Z':=by simpa using g1
     have d4:decide (F<=1000)=WW:=by simpa using g2
     clear g1 g2
     first
      |(subst X;have d2:(I==0)=WW:=(by simpa using V);clear V O)
      |(subst V;have d2:(G==0)=WW:=(by simpa using X);clear X O)
     go_enter func32,ntmps32;exact kO
    .have d3:decide (F≥1)=Z':=by simpa using g1
     have d4:decide (F<=1000)=Z':=by simpa using g2
     have HR:Xb (fR ⟨U,G,I,Z',F⟩):=by
      let ⟨s0,s2,p0,p1,m0⟩:=Hs;exact ⟨s0,s2,p0,p1,m0,O,(by show (0:Int)<=F;omega),g2,λ_=>g1,λh=>by cases h⟩
     clear g1 g2
     first
      |(subst X;have d2:(I==0)=WW:=(by simpa using V);clear V O)
      |(subst V;have d2:(G==0)=WW:=(by simpa using X);clear X O)
     go_enter func32,ntmps32;go_wp2;go_ret;exact ⟨Z',rfl,λ_=>HR,L1⟩
   |false=>
    have aa:F=0\/F≠0:=o_;obtain g1|g1:=aa
    .subst g1
     have HR:Xb (fR ⟨U,G,I,WW,0⟩):=by
      let ⟨s0,s2,p0,p1,m0⟩:=Hs;exact ⟨s0,s2,p0,p1,m0,O,(by show (0:Int)<=0;omega),(by show (0:Int)<=1000;omega),(λh=>by cases h),λ_=>rfl⟩
     first
      |(subst X;have d2:(I==0)=WW:=(by simpa using V);clear V O)
      |(subst V;have d2:(G==0)=WW:=(by simpa using X);clear X O)
     go_enter func32,ntmps32;go_wp2;go_ret;exact ⟨Z',rfl,λ_=>HR,L1⟩
    .have d3:(F==0)=WW:=by simpa using g1
     clear g1
     first
      |(subst X;have d2:(I==0)=WW:=(by simpa using V);clear V O)
      |(subst V;have d2:(G==0)=WW:=(by simpa using X);clear X O)
     go_enter func32,ntmps32;exact kO
def CN (l:List WY) (z:WY) (k:Nat) (h:k<l.length) (e:l[k]=z):part l z (k+1)=part l z k:=by
 unfold part;rw [List.take_succ_eq_append_getElem h,e,List.append_assoc]
 congr 1
 rw [show l.length - k=(l.length - (k+1))+1 from o_,List.replicate_succ];rfl
def mT (m:Bool) (z round:Int):Int:=if m then (if z= -1 then round else z) else -1
def lE (ms:List Bool) (zs:List Int) (round:Int):List Int:=List.zipWith (λm z=>mT m z round) ms zs
def rp (t:dA) (z round:Int):Bool:=decide (z≠ -1)&&(!t.soft||decide (t.jm<=round - z))
def ra (dD:List dA) (zs:List Int) (round:Int):List Bool:=List.zipWith (λt z=>rp t z round) dD zs
def oo {B:Nat} {bs:List Bool} (h:Yc w B 1 A n (bs.map XQ)) (I:k<n):
  ∃(ad:Xa) (F:k<bs.length),A=Y' ad/\ad.block<B/\w.cell? (ad.add k)=Y' (B_ bs[k]):=by
 let ⟨ad,F,e,G,hc⟩:=Mem.Sl.at_ h I;exact ⟨ad,by simpa using F,e,G,by simpa using hc⟩
def OA {p:Prop} (h:p:=by
 clear hset' hkeep hz1;go_wp2_with fail;go_roundw
 .exact ⟨k+1,o_,by go_num,HL.setCell hgs _,JS hBl (λg' hg'=>(by simpa using hg':g2=g')▸hne) _,hS⟩
 .simp [intOf];omega):p:=h
def QO (p:ef) (dD:List dA) (S:Option Xa) (sc:Nat) (zs:List Int) (x0 x1 x2 round:Int) (w:WX) (hp:p.ok w w.heap.size dD) (hn:p.n<=1000000) (hr: ∀t∈dD,fR t) (hx0:XK x0) (hx1:XK x1) (hx2:XK x2)
  (hz:Mem.Ints w w.heap.size .i64 S p.n zs):
  WZ Xc 104 #[A_ p.arr,S_ S p.n sc,A_ #[I_ J_ x0,I_ J_ x1,I_ J_ x2],I_ J_ round] w (CO p.n ((lE (lV p x0 x1 x2 dD) zs round).map (.int .i64)) w):=by
 have hlen:=hp.len;have hzl:=hz.len;have hml:(lV p x0 x1 x2 dD).length=p.n:=by simp [lV,hlen]
 have hbg:Xb (∀w,WZ Xc 52 #[A_ p.arr] w (CO p.n (iu p.n) w)):=λw=>uQ p w hn
 have hmt:Xb (∀w',Bw w w'->WZ Xc 107 #[A_ p.arr,A_ #[I_ J_ x0,I_ J_ x1,I_ J_ x2]] w' (QJ p.n ((lV p x0 x1 x2 dD).map .bool) w')):=λw' hb=>Oz p dD x0 x1 x2 w' ((hp.below hb).more hb.size) hn hr hx0 hx1 hx2
 clear hp hr hx0 hx1 hx2;generalize lV p x0 x1 x2 dD=ms at*;let ⟨k0,k1,k2,a0,a1,a2,A,n,c,fg,ret,fE,dead⟩:=p;unfold XX at hbg hmt |-
 dsimp only at hn hlen hz hzl hml hbg hmt |-
 let ⟨L,hL⟩:=nm ((lE ms zs round).map (Value.int .i64));have hll:L.length=n:=by rw [hL];simp [lE,hml,hzl]
 rw [<-hL];have F:=Hd hL;clear hL;go_enter func104,ntmps104;go_wp2_with fail;refine (hbg _).mono ?_;rintro e w1 ⟨A1,c1,rfl,R1,hb1⟩;have W0:Bw w ((w.alloc (.cells #[I_ J_ k0,I_ J_ k1,I_ J_ k2,I_ J_ a0,I_ J_ a1,I_ J_ a2,S_ A n c,I_ J_ fg,I_ J_ ret,I_ J_ fE,I_ J_ dead] 25)).alloc (.cells #[I_ J_ x0,I_ J_ x1,I_ J_ x2] 22)):=(dL).alloc y_ _;have L1:=W0.trans (hb1.mono z_);have z1:X_ (Y_ w)+2<=X_ (Y_ w1):=by have q:=hb1.size;simp at q;omega
 have B0:Xj w1 w.heap.size 25 #[I_ J_ k0,I_ J_ k1,I_ J_ k2,I_ J_ a0,I_ J_ a1,I_ J_ a2,S_ A n c,I_ J_ fg,I_ J_ ret,I_ J_ fE,I_ J_ dead]:=Mem.c_.new.alloc.a_ hb1;have B1:Xj w1 (X_ (Y_ w)+1) 22 #[I_ J_ x0,I_ J_ x1,I_ J_ x2]:=by
  have q:=Xg (w:=w.alloc (.cells #[I_ J_ k0,I_ J_ k1,I_ J_ k2,I_ J_ a0,I_ J_ a1,I_ J_ a2,S_ A n c,I_ J_ fg,I_ J_ ret,I_ J_ fE,I_ J_ dead] 25)) (t:=22) (cs:= #[I_ J_ x0,I_ J_ x1,I_ J_ x2]);rw [Xe] at q;exact q.a_ hb1
 have R1':iP w1 (X_ (Y_ w)+2) A1 n c1 (iu n):=by
  have q:=R1;rw [Xe,Xe] at q;exact q
 clear hb1 R1 W0;obtain ⟨m0,m1,m2,m3,m4,m5,m6,m7,m8,m9,m10,-⟩:=kA B0;obtain ⟨v0,v1,v2,-⟩:=kA B1;go_wp2_with fail;refine (hmt _ L1).mono ?_;rintro e w2 ⟨A2,c2,rfl,aw,hb2⟩;have L2:=L1.trans (hb2.mono L1.size);have R3:=ib R1' hb2 l_;have hlt1: ∀g,A1=Y' ⟨g,0,Z_⟩->X_ (Y_ w)+2<=g/\g<X_ (Y_ w1):=λg hg=>by subst hg;exact XY R1' g rfl
 have hlt2: ∀g,A2=Y' ⟨g,0,Z_⟩->X_ (Y_ w1)<=g:=λg hg=>by subst hg;exact (XY aw g rfl).1
 have H1:=Hd hlt1;have H2:=Hd hlt2;have le1:=Ep R3;have le2:=Ep aw;unfold maxLen at le1 le2;have hc1:n<=c1/\c1<=9223372036854775807:=o_;have hc2:n<=c2/\c2<=9223372036854775807:=o_;let ⟨hc1a,hc1b⟩:=hc1;let ⟨hc2a,hc2b⟩:=hc2;have an:iP w2 (X_ (Y_ w)+2) A1 n c1 (part L (I_ J_ (-1)) 0):=by
  rw [mh,hll];exact R3
 clear hlt1 hlt2 le1 le2 hb2 B0 B1 L1 R1' R3 m0 m1 m2 m3 m4 m5 m6 m7 m8 m9 m10 v0 v1 v2 hbg hmt;go_wp2;go_loopw [18] (λvi wr=> ∃k:Nat,k<=n/\vi=I_ J_ k/\Bw w wr/\lh wr w1.heap.size A2 n c2 (ms.map .bool)/\iP wr (X_ (Y_ w)+2) A1 n c1 (part L (I_ J_ (-1)) k)) (λi _=>n - (intOf i).toNat)
 .exact ⟨0,o_,rfl,L2,aw,an⟩
 .clear L2 aw an
  obtain ⟨k,hk,rfl,HL,hBl,HM⟩:=hrel;by_cases hlt:k<n
  .obtain ⟨g,hl,rfl,hg1,hg2,hcell,hfz,hset⟩:=lf HM hlt
   obtain ⟨g2,hlb,rfl,hgb1,hgb2,hcb,_,_⟩:=lf hBl hlt;obtain ⟨ad,z,hlz,rfl,_,hzz,hcz⟩:=Mem.Ints.at_ (hz.below HL) hlt;have hmk:k<ms.length:=o_;have hcb':wr.cell? ⟨g2,k,Z_⟩=Y' (B_ ms[k]):=by rw [hcb];simp
   have hLk:L[k]'o_=I_ J_ (mT ms[k] z round):=by
    have:=F.o;subst this;simp [lE,hzz]
   have hne:g2≠g:=by have q1:=H1 g rfl;have q2:=H2 g2 rfl;omega
   have hset':Xb (∀y,y=mT ms[k] z round->iP (wr.setCell ⟨g,k,Z_⟩ (I_ J_ y)) (X_ (Y_ w)+2) (Y' ⟨g,0,Z_⟩) n c1 (part L (I_ J_ (-1)) (k+1))):=by
    intro y hy;have q:=hset (I_ J_ y);rw [hy,<-hLk,nz L _ k o_] at q;rw [hy,<-hLk];exact q
   have hkeep:Xb (mT ms[k] z round= -1->iP wr (X_ (Y_ w)+2) (Y' ⟨g,0,Z_⟩) n c1 (part L (I_ J_ (-1)) (k+1))):=by
    intro e;rw [e] at hLk;rw [CN L _ k o_ hLk];exact HM
   have hgs:X_ (Y_ w)<=g:=o_;clear hcb hset hLk hzz;generalize ms[k]=m at*;cases m with
   |false=>
    have hK:=Hd (hkeep rfl);clear hset' hkeep;go_wp2;go_roundw
    .exact ⟨k+1,o_,by go_num,HL,hBl,hK⟩
    .simp [intOf];omega
   |true=>
    by_cases hz1:z= -1
    .have d1:(z== -1)=Z':=by simp [hz1]
     have hS:=Hd (hset' round (by simp [mT,hz1]));exact OA
    .have d1:(z== -1)=WW:=by simp [hz1]
     have hS:=Hd (hset' z (by simp [mT,hz1]));exact OA
  .obtain rfl:k=n:=o_
   go_wp2;go_ret;have q:=HM;have e:part L (I_ J_ (-1)) k=L:=by have:=nx L (I_ J_ (-1));rw [hll] at this;exact this
   rw [e] at q;exact ⟨_,_,rfl,lg q o_,HL⟩
def Uc {p:Prop} (k:q) (h:Wq q->p:=by
 intro kq;have RX:lh X w.heap.size (some ⟨w.heap.size+1,0,none⟩) n n (part L (B_ false) k):=by rw [hX];exact World.ownsRow.drew (World.ownsRow.alloc an _)
 have SX:(λw'=>w'.cell? (ai.add k)=some (I_ J_ z)/\C w' (wr.heap.size) 3 (B_ true)/\C w' (wr.heap.size) 4 F) X:=by
  rw [hX];have T0:Mem.c_ (wr.alloc (.cells #[aa,ab,ac,B_ true,F] 92)) wr.heap.size 92 #[aa,ab,ac,B_ true,F]:=Mem.c_.new;exact ⟨Mem.ml (Mem.fo au),T0.cell 3,T0.cell 4⟩
 refine dm.start (S:=(λw'=>w'.cell? (ai.add k)=some (I_ J_ z)/\C w' (wr.heap.size) 3 (B_ true)/\C w' (wr.heap.size) 4 F)) k_ ?_;rw [<-hX];refine dm.th 1 SX (u_ 0 24) ?_
 revert RX SX
 exact kq.o):p:=h ⟨k⟩
def Ud {p:Prop} (k:q) (h:Wq q->p:=by
 intro kq;have RX:lh X w.heap.size (some ⟨w.heap.size+1,0,none⟩) n n (part L (B_ false) k):=by rw [hX];exact World.ownsRow.drew (World.ownsRow.alloc an _)
 revert RX
 exact kq.o):p:=h ⟨k⟩
def LD {p:Prop} (h:p:=by
 refine dm.fi ?_;go_wp2_with fail;go_roundw
 .exact ⟨k+1,o_,by go_num,LX.setCell y_ _,by simp<;>omega,HS⟩
 .simp [intOf];omega):p:=h
def OB {p:Prop} (k:q) (h:Wq q->p:=by
 intro kq;refine dm.on 24 0 ?_;refine dm.skip rfl rfl (w':=X.setCell ⟨w.heap.size+1,k,none⟩ (B_ false)) f_ ⟨Mem.ei (by simp [Mem.ew];omega) SX.1,Mem.ei z_ SX.2.1,Mem.ei z_ SX.2.2⟩ ?_;exact kq.o):p:=h ⟨k⟩
def OC {p:Prop} (k:q) (h:Wq q->p:=by
 intro kq;refine dm.on 24 0 ?_;refine dm.skip rfl rfl (w':=X.setCell ⟨w.heap.size+1,k,none⟩ (B_ true)) f_ ⟨Mem.ei (by simp [Mem.ew];omega) SX.1,Mem.ei z_ SX.2.1,Mem.ei z_ SX.2.2⟩ ?_;exact kq.o):p:=h ⟨k⟩
def QP (p:ef) (dD:List dA) (S:Option Xa) (sc:Nat) (zs:List Int) (round:Int) (w:WX) (hp:p.ok w w.heap.size dD) (hn:p.n<=1000000) (h0:0<=round) (h1:round<=4611686018427387904) (af: ∀z∈zs,-1<=z/\z<=round)
  (hb:Mem.Ints w w.heap.size .i64 S p.n zs):
  WZ Xc 105 #[A_ p.arr,S_ S p.n sc,round] w (QJ p.n ((ra dD zs round).map .bool) w):=by
 have aB:=hp.len;have aw:=hp.sl;have aO:=hb.len;have a8:=Hd af;clear hp af;let ⟨k0,k1,k2,a0,a1,a2,A,n,c,az,ax,aA,dead⟩:=p;unfold XX
 dsimp only at hn aB aw hb aO |-
 let ⟨L,hL⟩:=nm ((ra dD zs round).map XQ);have aJ:L.length=n:=by rw [hL];simp [ra,aB,aO]
 rw [<-hL];have HL:=Hd hL;clear hL;let ⟨wm,aH,hO,ar,aW⟩:=tU Ww rfl n hn d_ (w.alloc (.cells #[k0,k1,k2,a0,a1,a2,S_ A n c,az,ax,aA,dead] 25));rw [Xe] at aH hO ar aW;have L1:=(dL).trans (ar.mono o_);have B0:Xj wm w.heap.size 25 #[k0,k1,k2,a0,a1,a2,S_ A n c,az,ax,aA,dead]:=Mem.c_.new.below ar o_;have aR:lh wm w.heap.size (Y' ⟨X_ (Y_ w)+1,0,Z_⟩) n n (part L (B_ WW) 0):=by
  rw [mh,aJ];exact lg hO o_
 have m6:=c6 B0;have zO:X_ (Y_ w)+2<=X_ (Y_ wm):=o_;clear ar hO B0;go_enter func105,ntmps105;go_wp2;go_loopw [17] (λvi wr=> ∃k:Nat,k<=n/\vi=I_ J_ k/\Bw w wr/\X_ (Y_ w)+2<=X_ (Y_ wr)/\lh wr w.heap.size (Y' ⟨X_ (Y_ w)+1,0,Z_⟩) n n (part L (B_ WW) k)) (λi _=>n - (intOf i).toNat)
 .exact ⟨0,o_,rfl,L1,zO,aR⟩
 .clear L1 aR aH m6 zO
  obtain ⟨k,hk,rfl,ae,hBl,an⟩:=hrel;by_cases hlt:k<n
  .let ⟨g0,hl0,aM,_,hg2,ag,am,_⟩:=lf an hlt
   obtain rfl:X_ (Y_ w)+1=g0:=by simpa using aM
   clear aM;obtain ⟨ad,hlk,rfl,_,hbk,a7⟩:=dA.at_ (aw.below ae) hlt;obtain ⟨ai,z,bb,rfl,hb2,G,au⟩:=Mem.Ints.at_ (hb.below ae) hlt;let ⟨hz0,hz1⟩:=a8 z (by rw [<-G];exact g_ bb);have av:L[k]'o_=B_ (rp dD[k] z round):=by
    have:=HL.o;subst this;simp [ra,G]
   let ⟨t,ht⟩:=nm (dD[k]);rw [<-ht] at a7 av;have ah:Xb (∀b,b=rp t z round-> ∀wx:WX,lh wx w.heap.size (Y' ⟨X_ (Y_ w)+1,0,Z_⟩) n n (part L (B_ WW) k)->wx.frozen? ⟨X_ (Y_ w)+1,k,Z_⟩=WW/\(∃v0,wx.cell? ⟨X_ (Y_ w)+1,k,Z_⟩=Y' v0)/\lh (wx.setCell ⟨X_ (Y_ w)+1,k,Z_⟩ (B_ b)) w.heap.size (Y' ⟨X_ (Y_ w)+1,0,Z_⟩) n n (part L (B_ WW) (k+1))):=by
    intro b U wx hx;let ⟨g,_,a3,_,_,aU,aK,aD⟩:=lf hx hlt;obtain rfl:X_ (Y_ w)+1=g:=by simpa using a3
    refine ⟨aK,⟨_,aU⟩,?_⟩;have q:=aD (B_ b);rw [U,<-av,nz L _ k o_] at q;rw [U,<-av];exact q
   clear ht av G;let ⟨aa,ab,ac,V,F⟩:=t;let ⟨c0,c1,c2,c3,c4⟩:=a7
   dsimp only at c0 c1 c2 c3 c4
   have al:z= -1\/z≠ -1/\(V=WW\/V=Z'/\(F<=round - z\/round - z<F)):=by
    cases V<;>simp<;>omega
   obtain hq|⟨hq,rfl|⟨rfl,ak⟩⟩:=al
   .have d1:(z != -1)=WW:=by simp [hq]
    have Hq:=Hd hq;clear hq;go_wp2_with fail;clear c0 c1 c2 c3 c4;let ⟨X,hX⟩:=nm (XP (wr.alloc (.cells #[aa,ab,ac,V,F] 92)));refine sh ?_;intro LX zX;refine Ud ?_;intro RX;have SX:(λw'=>w'.cell? (ai.add k)=Y' (I_ J_ z)/\C w' (X_ (Y_ wr)) 3 V/\C w' (X_ (Y_ wr)) 4 F) X:=by
     rw [hX];have T0:Xj (wr.alloc (.cells #[aa,ab,ac,V,F] 92)) wr.heap.size 92 #[aa,ab,ac,V,F]:=Xg;exact ⟨Mem.ml (Mem.fo au),T0.cell 3,T0.cell 4⟩
    refine XT (S:=(λw'=>w'.cell? (ai.add k)=Y' (I_ J_ z)/\C w' (X_ (Y_ wr)) 3 V/\C w' (X_ (Y_ wr)) 4 F)) k_ ?_;rw [<-hX];clear hX an ag am;refine dm.th 1 SX (u_ 0 24) ?_;obtain ⟨aC,⟨v0,O⟩,(HS:Xb _)⟩:=ah WW (by simp [rp,Hq.o]) X RX;refine OB ?_;exact LD
   .have d1:(z != -1)=Z':=by simp [hq]
    have Hq:=Hd hq;clear hq;go_wp2_with fail;clear c0 c1 c2 c3 c4;let ⟨X,hX⟩:=nm (XP (wr.alloc (.cells #[aa,ab,ac,B_ WW,F] 92)));refine sh ?_;intro LX zX;refine Ud ?_;intro RX;have SX:(λw'=>w'.cell? (ai.add k)=Y' (I_ J_ z)/\C w' (X_ (Y_ wr)) 3 (B_ WW)/\C w' (X_ (Y_ wr)) 4 F) X:=by
     rw [hX];have T0:Xj (wr.alloc (.cells #[aa,ab,ac,B_ WW,F] 92)) wr.heap.size 92 #[aa,ab,ac,B_ WW,F]:=Xg;exact ⟨Mem.ml (Mem.fo au),T0.cell 3,T0.cell 4⟩
    refine XT (S:=(λw'=>w'.cell? (ai.add k)=Y' (I_ J_ z)/\C w' (X_ (Y_ wr)) 3 (B_ WW)/\C w' (X_ (Y_ wr)) 4 F)) k_ ?_;rw [<-hX];clear hX an ag am;refine dm.th 1 SX (u_ 0 24) ?_;obtain ⟨aC,⟨v0,O⟩,(HS:Xb _)⟩:=ah Z' (by have:=Hq.o;simp [rp,this]) X RX;refine OC ?_;exact LD
   .obtain ak|ak:=ak
    .have d1:(z != -1)=Z':=by simp [hq]
     have hw:IntKind.i64.wrap (round - z)=round - z:=by unfold XH;simp [XI,XB];omega
     have d2:decide (F<=round - z)=Z':=by simp;omega
     have Hq:=Hd hq;have I:=Hd ak;clear hq ak;go_wp2_with fail;clear c0 c1 c2 c3 c4;let ⟨X,hX⟩:=nm (XP (wr.alloc (.cells #[aa,ab,ac,B_ Z',F] 92)));refine sh ?_;intro LX zX;refine Uc ?_;intro RX SX;clear hX an ag am;obtain ⟨aC,⟨v0,O⟩,(HS:Xb _)⟩:=ah Z' (by have q1:=Hq.o;have q2:=I.o;simp [rp,q1];omega) X RX;refine OC ?_;exact LD
    .have d1:(z != -1)=Z':=by simp [hq]
     have hw:IntKind.i64.wrap (round - z)=round - z:=by unfold XH;simp [XI,XB];omega
     have d2:decide (F<=round - z)=WW:=by simp;omega
     have Hq:=Hd hq;have I:=Hd ak;clear hq ak;go_wp2_with fail;clear c0 c1 c2 c3 c4;let ⟨X,hX⟩:=nm (XP (wr.alloc (.cells #[aa,ab,ac,B_ Z',F] 92)));refine sh ?_;intro LX zX;refine Uc ?_;intro RX SX;clear hX an ag am;obtain ⟨aC,⟨v0,O⟩,(HS:Xb _)⟩:=ah WW (by have q1:=Hq.o;have q2:=I.o;simp [rp,q1];omega) X RX;refine OB ?_;exact LD
  .obtain rfl:k=n:=o_
   go_wp2;go_ret;have q:=an;have e:part L (B_ WW) k=L:=by have:=nx L (B_ WW);rw [aJ] at this;exact this
   rw [e] at q;exact ⟨_,_,rfl,q,ae⟩
end gu
end
section
namespace gu
def Qu (P:Prop) (W:WX) (e:Ending) (w':WX):Prop:= ∃b,e=R_ (B_ b)/\(b=Z'->P)/\Below W.heap.size W w'
end gu
end
section
open _root_.Go.Proofs.Tryz
namespace gu
structure fK (p:ef) (dD:List dA):Prop where
 rc:PH p dD
 a0:0<=p.a0
 a1:0<=p.a1
 a2:0<=p.a2
 a3:p.a1<=p.c0
 a4:p.a2<=p.c2
 p0:1<=p.fg
 p1:p.fg<=1000
 g0:1<=p.fE
 g1:p.fE<=1000
 r0:0<=p.ret
 r1:p.ret<=20
 d0:0<=p.dead
 d1:p.dead<=100
def Gf (p:ef) (dD:List dA) (w:WX) (hp:p.ok w w.heap.size dD):WZ Xc 19 #[A_ p.arr] w (Qu (fK p dD) w):=by
 have ay:=hp.len;have al:=hp.sl;have aB:=hp.nc;have a6:=hp.cm;unfold maxLen at a6;clear hp;obtain ⟨P,hP⟩: ∃P:Prop,P=fK p dD:=⟨_,rfl⟩;have bP:Xb (1<=p.c0->1<=p.c1->1<=p.c2->p.n<=12->(∀t∈dD,fR t)->0<=p.a0->0<=p.a1->0<=p.a2->p.a1<=p.c0->p.a2<=p.c2->(1<=p.fg/\p.fg<=1000/\1<=p.fE/\p.fE<=1000/\0<=p.ret/\p.ret<=20/\0<=p.dead/\p.dead<=100)->P):=λh0 h1 F hn ht b0 b1 b2 b3 b4 b5=>by rw [hP];exact ⟨⟨h0,h1,F,hn,ht⟩,b0,b1,b2,b3,b4,b5.1,b5.2.1,b5.2.2.1,b5.2.2.2.1,b5.2.2.2.2.1,b5.2.2.2.2.2.1,b5.2.2.2.2.2.2.1,b5.2.2.2.2.2.2.2⟩
 rw [<-hP];clear hP;obtain ⟨V,k1,k2,a0,a1,a2,A,n,c,fg,ret,fE,dead⟩:=p;unfold XX
 dsimp only at ay al aB a6 bP |-
 go_enter func19,ntmps19;go_wp2;go_loopw [3] (λvi wr=> ∃i:Nat,i<=3/\vi=I_ J_ i/\Bw w wr/\Xj wr w.heap.size 25 #[V,k1,k2,a0,a1,a2,S_ A n c,fg,ret,fE,dead]/\(1<=i->1<=V/\0<=a0)/\(2<=i->1<=k1/\0<=a1)/\(3<=i->1<=k2/\0<=a2)) (λi _=>3 - (intOf i).toNat)
 .exact ⟨0,o_,rfl,dL,Xg,λh=>absurd h o_,λh=>absurd h o_,λh=>absurd h o_⟩
 .obtain ⟨i,hi,rfl,L1,B0,hq,am,q2⟩:=hrel
  obtain ⟨m0,m1,m2,m3,m4,m5,-⟩:=kA B0;have O:i=0\/i=1\/i=2\/i=3:=o_;obtain rfl|rfl|rfl|rfl:=O
  .clear hq am q2
   have O:V<1\/1<=V/\(a0<0\/0<=a0):=o_;obtain h|⟨h,F|F⟩:=O
   .exact kO
   .exact kO
   .go_wp2
    go_roundw
    .exact ⟨1,o_,rfl,L1,B0,λ_=>⟨h,F⟩,λh=>absurd h o_,λh=>absurd h o_⟩
    .simp [intOf]
  .have Hq:=Hd (hq o_)
   clear hq am q2;have O:k1<1\/1<=k1/\(a1<0\/0<=a1):=o_;obtain h|⟨h,F|F⟩:=O
   .exact kO
   .exact kO
   .go_wp2
    go_roundw
    .exact ⟨2,o_,rfl,L1,B0,λ_=>Hq,λ_=>⟨h,F⟩,λh=>absurd h o_⟩
    .simp [intOf]
  .have Hq:=Hd (hq o_)
   have aw:=Hd (am o_);clear hq am q2;have O:k2<1\/1<=k2/\(a2<0\/0<=a2):=o_;obtain h|⟨h,F|F⟩:=O
   .exact kO
   .exact kO
   .go_wp2
    go_roundw
    .exact ⟨3,o_,rfl,L1,B0,λ_=>Hq,λ_=>aw,λ_=>⟨h,F⟩⟩
    .simp [intOf]
  .refine qB ?_
   have ax:Xb (n<=12->(∀t∈dD,fR t)->a1<=V->a2<=k2->(1<=fg/\fg<=1000/\1<=fE/\fE<=1000/\0<=ret/\ret<=20/\0<=dead/\dead<=100)->P):=λhn ht=>bP (hq o_).1 (am o_).1 (q2 o_).1 hn ht (hq o_).2 (am o_).2 (q2 o_).2
   have m6:C wr w.heap.size 6 (S_ A n c):=B0.cell 6;clear hq am q2;have O:V<a1\/a1<=V/\(k2<a2\/a2<=k2/\(12<n\/n<=12)):=o_;obtain h|⟨h,F|⟨F,h3|h3⟩⟩:=O
   .have d1:decide (a1>V)=Z':=by simpa using h
    exact kO
   .have d1:decide (a1>V)=WW:=by simpa using h
    have d2:decide (a2>k2)=Z':=by simpa using F
    exact kO
   .have d1:decide (a1>V)=WW:=by simpa using h
    have d2:decide (a2>k2)=WW:=by simpa using F
    have d3:decide ((n:Int)>12)=Z':=by simp;omega
    exact kO
   .have d1:decide (a1>V)=WW:=by simpa using h
    have d2:decide (a2>k2)=WW:=by simpa using F
    have d3:decide ((n:Int)>12)=WW:=by simp;omega
    have HH:=Hd (Xn h F);clear h F;go_wp2_with fail;clear m0 m1 m2 m3 m4 m5 m6 d1 d2 d3;go_loopw [4] (λvj an=> ∃j:Nat,j<=n/\vj=I_ J_ j/\Bw w an/\Xj an w.heap.size 25 #[V,k1,k2,a0,a1,a2,S_ A n c,fg,ret,fE,dead]/\Xb (∀t∈dD.take j,fR t)) (λj _=>n - (intOf j).toNat)
    .exact ⟨0,o_,rfl,L1,B0,by show∀t∈_,_;simp⟩
    .clear L1 B0
     obtain ⟨j,hj,rfl,L1,B0,G⟩:=hrel;have m6:C wr w.heap.size 6 (S_ A n c):=B0.cell 6;by_cases aD:j<n
     .obtain ⟨ad,ae,hA,_,hbk,aI⟩:=dA.at_ (al.below L1) aD
      have ab:Xb (∀w,WZ Xc 32 #[A_ dD[j].arr] w (yH dD[j] w)):=λw=>Gg dD[j] w
      have X:Xb (fR dD[j]-> ∀t∈dD.take (j+1),fR t):=by
       intro h t ht;rw [Mem.dQ _ _ ae] at ht;obtain h1|h1:=List.mem_append.1 ht
       .exact G t h1
       .have:t=dD[j]:=by simpa using h1
        rw [this];exact h
      unfold yH at ab;obtain ⟨R,hR⟩: ∃R:Prop,R=fR dD[j]:=⟨_,rfl⟩;rw [<-hR] at ab X;clear hR;subst hA;generalize dD[j]=t at*;obtain ⟨ai,ac,af,U,I⟩:=t;unfold Xp at ab;obtain ⟨c0,c1,c2,c3,c4⟩:=aI
      dsimp only at c0 c1 c2 c3 c4 ab
      go_wp2_with fail;refine (ab _).mono ?_;rintro e w2 ⟨b,rfl,hb,ak⟩;have L2:Bw w w2:=L1.trans (ak.mono L1.size);have B2:=B0.a_ ak;cases b with
      |false=>
       go_wp2;go_ret;exact ⟨WW,rfl,λh=>(by cases h),L2⟩
      |true=>
       have HN:=Hd (X (hb rfl));clear hb;go_wp2;go_roundw
       .exact ⟨j+1,o_,by go_num,L2,B2,HN⟩
       .simp [intOf];omega
     .obtain rfl:j=n:=o_
      have ag:Xb ((1<=fg/\fg<=1000/\1<=fE/\fE<=1000/\0<=ret/\ret<=20/\0<=dead/\dead<=100)->P):=ax h3 (by have:=G.o;rw [t_ o_] at this;exact this) HH.1 HH.2;have m7:C wr w.heap.size 7 fg:=B0.cell 7;have m8:C wr w.heap.size 8 ret:=B0.cell 8;have m9:C wr w.heap.size 9 fE:=B0.cell 9;have m10:C wr w.heap.size 10 dead:=B0.cell 10;by_cases G:1<=fg/\fg<=1000/\1<=fE/\fE<=1000/\0<=ret/\ret<=20/\0<=dead/\dead<=100
      .have aa:=Hd (ag G)
       go_wp2_with fail
       all_goals (go_ret;exact ⟨_,rfl,λ_=>aa,L1⟩)
      .have HF:=Hd G
       clear G;go_wp2_with fail
       all_goals (go_ret;refine ⟨_,rfl,λh=>absurd ?_ HF,L1⟩)
       all_goals (first|(cases h;done)|skip)
       exact ⟨by assumption,by assumption,by assumption,by assumption,by assumption,by assumption,by assumption,of_decide_eq_true h⟩
end gu
end
section
open _root_.Go.Proofs.Tryz
namespace Tx
open Tp gu
def cat {b:List UInt8} (ha:a.length<=n) (hb:b.length<=m) (h:n+m<=1000000000):
  ∃c,Xb (c=a++b)/\c.length<=n+m/\ ¬9223372036854775807<(str a).size+(str b).size/\str a++str b=str c:=
 ⟨_,Hd rfl,by simp;omega,by rw [fY,fY];omega,ub a b⟩
def mW {b:List UInt8} (t:ByteArray) (F:t=str b) (G:a.length<=n) (h:n+b.length<=1000000000):
  ∃c,Xb (c=a++b)/\c.length<=n+b.length/\ ¬9223372036854775807<(str a).size+t.size/\str a++t=str c:=by
 subst F;exact cat G l_ h
def Kh (i:Nat) (F:i<=2) (w:WX):WZ Xc 92 #[I_ J_ i] w λe w'=>e=R_ (T_ (str (fD i)))/\w'=w:=by
 match i,F with
 |0,_=>
  refine sH ?_;go_enter func92,ntmps92;exact lH
 |1,_=>
  refine vO ?_;go_enter func92,ntmps92;exact lH
 |2,_=>
  refine vP ?_;go_enter func92,ntmps92;exact lH
def ED (t:dA):Th:=⟨t.sig.toNat,t.jx.toNat,t.mN.toNat,t.soft,t.jm.toNat⟩
def PW (s p a g:Nat) (b:Bool):ED ⟨s,p,a,b,g⟩=⟨s,p,a,b,g⟩:=rfl
def pE (i:Nat):(fD i).length<=6:=by unfold fD;split<;>decide
def sG {t:Th} (h:t.jx<=9223372036854775807) (F:t.mN<=9223372036854775807) (G:t.gr<=9223372036854775807):t.print.length<=60:=by
 have h1:=pE t.sig;have h4:=fX h;have h5:=gh F;have h6:=fX G;unfold Th.print Th.value;split<;>split<;>simp<;>omega
def NY {p:Prop} (k:q) (h:Wq q->p:=by
 intro kq;have aB:=Hd (bc.trans (an.mono bc.size));have KC:=HC.a_ an;have c3:w2.cell? ⟨w.heap.size,3,none⟩=some (B_ soft):=KC.cell 3;have c4:w2.cell? ⟨w.heap.size,4,none⟩=some (I_ J_ g):=KC.cell 4;clear KC
 revert aB c3 c4
 exact kq.o):p:=h ⟨k⟩
def BU (t:dA) (h:fR t) (ho:t.mN<=9223372036854775807) (w:WX):WZ Xc 56 #[A_ t.arr] w λe w'=>e=R_ (T_ (str (ED t).print))/\Bw w w':=by
 let ⟨sig,jx,mN,soft,jm⟩:=t;have s2:=h.s2;have p1:=h.p1;have g1:=h.g1
 dsimp only at s2 p1 g1 ho
 obtain ⟨s,rfl⟩:=Xd h.s0;obtain ⟨p,rfl⟩:=Xd h.p0;obtain ⟨a,rfl⟩:=Xd h.a0;obtain ⟨g,rfl⟩:=Xd h.g0;clear h;rw [PW];have HW:=Hd (λW=>Kh s o_ W);have aG:=Hd (λW=>qD p o_ W);have HA:=Hd (λW=>jK a o_ W);have ab:=Hd (λW=>qD g o_ W);have l1:=pE s;have l2:=fX (n:=p) o_;have l3:=gh (n:=a) o_;have l4:=fX (n:=g) o_;have hB:Bw w (w.alloc (.cells #[I_ J_ s,I_ J_ p,I_ J_ a,B_ soft,I_ J_ g] 92)):=dL;have hblk:Xj (w.alloc (.cells #[I_ J_ s,I_ J_ p,I_ J_ a,B_ soft,I_ J_ g] 92)) w.heap.size 92 #[I_ J_ s,I_ J_ p,I_ J_ a,B_ soft,I_ J_ g]:=Xg;unfold Xp
 dsimp only
 unfold Th.print Th.value
 dsimp only
 generalize fD s=ws at*;generalize eP p=wp at*;generalize dR a=wa at*;generalize eP g=wg at*;let ⟨R,hR⟩:=nm (ws++60::((if 0<p then wp++[37] else wa)++if soft=Z' then 58::wg else []));rw [<-hR];have HR:=Hd hR;clear hR;let ⟨x,HX,lx,k1,e1⟩:=mW (b:=[60]) ⟨#[60]⟩ rfl l1 y_;go_enter func56,ntmps56;go_wp2_with fail;refine (HW _).mono ?_;rintro e w1 ⟨rfl,rfl⟩;have m1:=Hd (hblk.cell 1);have m2:=Hd (hblk.cell 2);have m3:=Hd (hblk.cell 3);have m4:=Hd (hblk.cell 4);have bc:=Hd hB;have HC:=Hd hblk;clear HW hB hblk;generalize w.alloc (.cells #[I_ J_ s,I_ J_ p,I_ J_ a,B_ soft,I_ J_ g] 92)=W1 at*;have c1:W1.cell? ⟨X_ (Y_ w),1,Z_⟩=Y' (I_ J_ p):=m1;have c2:W1.cell? ⟨X_ (Y_ w),2,Z_⟩=Y' (I_ J_ a):=m2;clear m1 m2 m3 m4;by_cases hp:0<p
 .have d1:decide ((p:Int)>0)=Z':=dT
  let ⟨y,HY,ly,k2,e2⟩:=cat lx l2 y_;let ⟨z,HZ,lz,k3,e3⟩:=mW (b:=[37]) ⟨#[37]⟩ rfl ly y_;go_wp2_with fail;refine (aG _).mono ?_;rintro e w2 ⟨rfl,an⟩;refine NY ?_;intro aB c3 c4;clear c1 c2 aG HA HC bc an;cases soft with
  |false=>
   go_wp2;go_ret;exact ⟨by rw [HR.o,if_pos hp,HZ.o,HY.o,HX.o];simp [str],aB⟩
  |true=>
   let ⟨u,HU,lu,k4,e4⟩:=mW (b:=[58]) ⟨#[58]⟩ rfl lz y_;let ⟨v,HV,lv,k5,e5⟩:=cat lu l4 y_;go_wp2_with fail;refine (ab _).mono ?_;rintro e w3 ⟨rfl,y4⟩;have bC:=Hd (aB.trans (y4.mono aB.size));go_wp2;go_ret;exact ⟨by rw [HR.o,if_pos hp,HV.o,HU.o,HZ.o,HY.o,HX.o];simp [str],bC⟩
 .have d1:decide ((p:Int)>0)=WW:=dF
  let ⟨z,HZ,lz,k2,e2⟩:=cat lx l3 y_;go_wp2_with fail;refine (HA _).mono ?_;rintro e w2 ⟨rfl,an⟩;refine NY ?_;intro aB c3 c4;clear c1 c2 aG HA HC bc an;cases soft with
  |false=>
   go_wp2;go_ret;exact ⟨by rw [HR.o,if_neg hp,HZ.o,HX.o];simp [str],aB⟩
  |true=>
   let ⟨u,HU,lu,k4,e4⟩:=mW (b:=[58]) ⟨#[58]⟩ rfl lz y_;let ⟨v,HV,lv,k5,e5⟩:=cat lu l4 y_;go_wp2_with fail;refine (ab _).mono ?_;rintro e w3 ⟨rfl,y4⟩;have bC:=Hd (aB.trans (y4.mono aB.size));go_wp2;go_ret;exact ⟨by rw [HR.o,if_neg hp,HV.o,HU.o,HZ.o,HX.o];simp [str],bC⟩
end Tx
end
section
open _root_.Go.Proofs.Tryz
namespace Tx
open Tp gu
def jh (p:ef) (dD:List dA):Cf:=⟨[p.c0.toNat,p.c1.toNat,p.c2.toNat],[p.a0.toNat,p.a1.toNat,p.a2.toNat],dD.map ED,p.fg.toNat,p.ret.toNat,p.fE.toNat,p.dead.toNat⟩
def sp (l:List Nat):List UInt8:=(l.map λn=>32::dR n).flatten
def tX (w:List UInt8): ∀l:List Nat,join (w::l.map dR)=w++sp l
 |[]=>by simp [join,sp]
 |n::l=>by
  show w++32::join ((n::l).map dR)=_
  rw [List.map_cons,tX (dR n) l];simp [sp]
def NV {p:Prop} (h:p:=by
 rw [Mem.dQ _ _ h,List.map_append,List.flatten_append];simp only [List.map_cons,List.map_nil,List.flatten_cons,List.flatten_nil,List.append_nil]):p:=h
def zx (l:List Nat) (k:Nat) (h:k<l.length):sp (l.take (k+1))=sp (l.take k)++32::dR l[k]:=by
 unfold sp;exact NV
def tl (l:List dA):List UInt8:=(l.map λt=>JF++32::((ED t).print++[10])).flatten
def Kc (l:List dA) (k:Nat) (h:k<l.length):tl (l.take (k+1))=tl (l.take k)++(JF++32::((ED l[k]).print++[10])):=by
 unfold tl;exact NV
def iF (x:List UInt8) (l:List (List UInt8)):gK (x::l)=x++10::gK l:=by simp [gK]
def EE (a b:List (List UInt8)):gK (a++b)=gK a++gK b:=by simp [gK]
def Kd (l:List dA):gK ((l.map λt=>[JF,(ED t).print]).map join)=tl l:=by
 unfold gK tl;rw [XU,XU]
 congr 1
def Ke (p:ef) (dD:List dA):(jh p dD).text=nF++sp [p.c0.toNat,p.c1.toNat,p.c2.toNat]++10::(BS++sp [p.a0.toNat,p.a1.toNat,p.a2.toNat]++10::(tl dD++(tY++32::dR p.fg.toNat++10::(tZ++32::dR p.ret.toNat++10::(ua++32::dR p.fE.toNat++10::(nG++32::dR p.dead.toNat++[10])))))):=by
 have F:=tX nF [p.c0.toNat,p.c1.toNat,p.c2.toNat];have G:=tX BS [p.a0.toNat,p.a1.toNat,p.a2.toNat];have e:=Kd dD;unfold Cf.text Cf.lines jh
 dsimp only
 rw [<-F,<-G,<-e];rw [XU]
 show gK (join _::join _::((dD.map _++[_,_,_,_]).map join))=_
 rw [List.map_append,iF,iF,EE];simp [join,gK,Function.comp_def]
def PU {p:Prop} (k:q) (h:Wq q->p:=by
 intro kq
 iterate 4 (refine wpQuiet_step (λK hK=>?_);go_simp;(first|refine hK _ ?_|constructor;refine ⟨λwx hwx=>?_,hK _ ?_⟩;(obtain ⟨x7,x8,x9,x10⟩:=HS.o wx hwx;go_simp<;>rfl));clear hK K)
 exact kq.o):p:=h ⟨k⟩
def NW {p:Prop} (h:p:=by
 go_wp2_with fail;go_roundw
 .exact ⟨i+1,v,o_,by go_num,rfl,HX2,HL2,b8⟩
 .simp [intOf];omega):p:=h
def NX {p:Prop} (h:p:=by
 intro i hi;have hi:=hi;have ax:i=0\/i=1\/i=2:=o_;obtain rfl|rfl|rfl:=ax<;>rfl):p:=h
def BT (p:ef) (dD:List dA) (w:WX) (hF:p.ok w w.heap.size dD) (h:fK p dD):WZ Xc 31 #[A_ p.arr] w λe w'=>e=R_ (T_ (str (jh p dD).text))/\Bw w w':=by
 obtain ⟨R,hR⟩:=nm ((jh p dD).text);rw [<-hR];rw [Ke] at hR;have hn:=h.rc.n;have hlen:=hF.len;have hsl:=hF.sl;have hnc:=hF.nc;have hcm:=hF.cm;have hrt:=Hd h.rc.each;have hok:=Hd hF.each;have u0:=hF.c0.2;have u1:=hF.c1.2;have u2:=hF.c2.2;have v0:=hF.a0.2;have v1:=hF.a1.2;have v2:=hF.a2.2;have q1:=h.p1;have q2:=h.r1;have q3:=h.g1;have q4:=h.d1;obtain ⟨⟨h0,h1,h2,_,_⟩,b0,b1,b2,_,_,r0,_,g0,_,s0,_,t0,_⟩:=h;clear hF;obtain ⟨k0,k1,k2,a0,a1,a2,A,n,c,az,ret,fE,dead⟩:=p
 dsimp only at hlen hsl hnc hcm hR hn u0 u1 u2 v0 v1 v2 q1 q2 q3 q4 h0 h1 h2 b0 b1 b2 r0 g0 s0 t0
 unfold maxLen at hcm;obtain ⟨k0,rfl⟩:=Xd (show 0<=k0 by omega);obtain ⟨k1,rfl⟩:=Xd (show 0<=k1 by omega);obtain ⟨k2,rfl⟩:=Xd (show 0<=k2 by omega);obtain ⟨a0,rfl⟩:=Xd b0;obtain ⟨a1,rfl⟩:=Xd b1;obtain ⟨a2,rfl⟩:=Xd b2;obtain ⟨az,rfl⟩:=Xd (show 0<=az by omega);obtain ⟨ret,rfl⟩:=Xd (show 0<=ret by omega);obtain ⟨fE,rfl⟩:=Xd (show 0<=fE by omega);obtain ⟨dead,rfl⟩:=Xd (show 0<=dead by omega);simp only [Int.toNat_natCast] at hR;have HR:=Hd hR;obtain ⟨caps,hcaps⟩:=nm ([k0,k1,k2]);obtain ⟨als,hals⟩:=nm ([a0,a1,a2]);have hcl:caps.length=3:=by rw [hcaps];rfl
 have hal:als.length=3:=by rw [hals];rfl
 have hcb: ∀i (hi:i<caps.length),caps[i]<=9223372036854775807:=by
  subst hcaps;intro i hi;have hi:=hi;have ax:i=0\/i=1\/i=2:=o_;obtain rfl|rfl|rfl:=ax
  .show k0<=_;unfold XK at*;omega
  .show k1<=_;omega
  .show k2<=_;omega
 have hab: ∀i (hi:i<als.length),als[i]<=9223372036854775807:=by
  subst hals;intro i hi;have hi:=hi;have ax:i=0\/i=1\/i=2:=o_;obtain rfl|rfl|rfl:=ax
  .show a0<=_;omega
  .show a1<=_;omega
  .show a2<=_;omega
 obtain ⟨arr,harr⟩: ∃arr:Array WY,arr= #[I_ J_ k0,I_ J_ k1,I_ J_ k2,I_ J_ a0,I_ J_ a1,I_ J_ a2,S_ A n c,I_ J_ az,I_ J_ ret,I_ J_ fE,I_ J_ dead]:=⟨_,rfl⟩;have hcc: ∀i (hi:i<caps.length),arr[i]?=Y' (I_ J_ (caps[i]:Nat)):=by
  subst hcaps;subst harr;exact NX
 have hac: ∀i (hi:i<als.length),arr[3+i]?=Y' (I_ J_ (als[i]:Nat)):=by
  subst hals;subst harr;exact NX
 have e6:arr[6]?=Y' (S_ A n c):=by rw [harr];rfl
 have e7:arr[7]?=Y' (I_ J_ (az:Nat)):=by rw [harr];rfl
 have e8:arr[8]?=Y' (I_ J_ (ret:Nat)):=by rw [harr];rfl
 have e9:arr[9]?=Y' (I_ J_ (fE:Nat)):=by rw [harr];rfl
 have e10:arr[10]?=Y' (I_ J_ (dead:Nat)):=by rw [harr];rfl
 have HC:=Hd hcb;have HA:=Hd hab;have HCC:=Hd hcc;have HAC:=Hd hac;have HE:=Hd (Xn e6 (Xn e7 (Xn e8 (Xn e9 e10))));have HD:=Hd (Xn hcaps hals);unfold XX
 dsimp only
 rw [<-harr];have HSA:=Hd (show Xj (w.alloc (.cells arr 25)) w.heap.size 25 arr from Xg);have HB:=Hd (show Bw w (w.alloc (.cells arr 25)) from dL);have hag:(Value.agg arr).cells=arr:=rfl;have hsz:arr.size=11:=by rw [harr];rfl
 have H8:=Hd (show (8:Nat)<=8 from Nat.le_refl _);clear e6 e7 e8 e9 e10 hcb hab hcc hac hcaps hals harr hR u0 u1 u2 v0 v1 v2 h0 h1 h2 b0 b1 b2 r0 g0 s0 t0;go_enter func31,ntmps31;go_wp2;generalize w.alloc (.cells arr 25)=W0 at*;go_loopw [3,4] (λvs vi wr=> ∃(i:Nat) (x:List UInt8),i<=3/\vi=I_ J_ i/\vs=T_ (str x)/\Xb (x=nF++sp (caps.take i))/\Xb (x.length<=8+23*i)/\Xb (Bw W0 wr)) (λ_ i _=>3 - (intOf i).toNat)
 .exact ⟨0,nF,o_,rfl,rfl,Hd (by simp [sp]),Hd d_,Hd b_⟩
 .obtain ⟨i,x,hi,rfl,rfl,HX,HL,aN⟩:=hrel
  by_cases hlt:i<3
  .have hil:i<caps.length:=o_
   have hc:wr.cell? ⟨X_ (Y_ w),i,Z_⟩=Y' (I_ J_ (caps[i]:Nat)):=by rw [(HSA.o.a_ aN.o).cell i];exact HCC.o i hil
   have ay:=Hd (λW=>jK caps[i] (HC.o i hil) W);have ly:=gh (HC.o i hil);have hstep:=Hd (zx caps i hil);obtain ⟨y,HY,l1,z1,z2⟩:=mW (b:=[32]) ⟨#[32]⟩ rfl HL.o z_;obtain ⟨v,HV,l2,z3,z4⟩:=cat l1 ly z_;generalize dR caps[i]=q at*;generalize caps[i]=cv at*;have hw:IntKind.i64.wrap ((i:Int)+1)=(i:Int)+1:=fh o_ o_;go_wp2_with fail;refine (ay.o _).mono ?_;refine xZ ?_;intro w2 b9 b8;have HX2:Xb (v=nF++sp (caps.take (i+1))):=Hd (by rw [hstep.o,HV.o,HY.o,HX.o];simp);have HL2:Xb (v.length<=8+23*(i+1)):=Hd (by simp at l2;omega);clear ay b9 aN hstep HX HL HY HV;exact NW
  .obtain rfl:i=3:=o_
   refine qB ?_;obtain ⟨y,HY,l1,z1,z2⟩:=mW (b:=10::BS) ⟨#[10,97,108,108,111,99,97,116,97,98,108,101]⟩ rfl HL.o d_;have HY2:Xb (y=nF++sp caps++10::BS):=Hd (by rw [HY.o,HX.o,t_ o_]);have HL1:=Hd l1;clear HX HL HY;go_wp2_with fail;clear z1 z2 l1;go_loopw [3,5] (λvs vi wr=> ∃(i:Nat) (x:List UInt8),i<=3/\vi=I_ J_ i/\vs=T_ (str x)/\Xb (x=y++sp (als.take i))/\Xb (x.length<=100+23*i)/\Xb (Bw W0 wr)) (λ_ i _=>3 - (intOf i).toNat)
   .exact ⟨0,y,o_,rfl,rfl,Hd (by simp [sp]),Hd (by have:=HL1.o;simp [BS] at this;omega),aN⟩
   .clear aN
    obtain ⟨i,x,hi,rfl,rfl,HX,HL,aN⟩:=hrel;by_cases hlt:i<3
    .have hil:i<als.length:=o_
     have hc:wr.cell? ⟨X_ (Y_ w),3+i,Z_⟩=Y' (I_ J_ (als[i]:Nat)):=by rw [(HSA.o.a_ aN.o).cell (3+i)];exact HAC.o i hil
     have ay:=Hd (λW=>jK als[i] (HA.o i hil) W);have ly:=gh (HA.o i hil);have hstep:=Hd (zx als i hil);obtain ⟨u,HU,l1,z1,z2⟩:=mW (b:=[32]) ⟨#[32]⟩ rfl HL.o z_;obtain ⟨v,HV,l2,z3,z4⟩:=cat l1 ly z_;generalize dR als[i]=q at*;generalize als[i]=cv at*;have hw:IntKind.i64.wrap ((i:Int)+1)=(i:Int)+1:=fh o_ o_;go_wp2_with fail;refine (ay.o _).mono ?_;refine xZ ?_;intro w2 b9 b8;have HX2:Xb (v=y++sp (als.take (i+1))):=Hd (by rw [hstep.o,HV.o,HU.o,HX.o];simp);have HL2:Xb (v.length<=100+23*(i+1)):=Hd (by simp at l2;omega);clear ay b9 aN hstep HX HL HU HV;exact NW
    .obtain rfl:i=3:=o_
     refine qB ?_;obtain ⟨u,HU,l1,z1,z2⟩:=mW (b:=[10]) ⟨#[10]⟩ rfl HL.o d_;have HU2:Xb (u=y++sp als++[10]):=Hd (by rw [HU.o,HX.o,t_ o_]);have HL3:=Hd l1;clear HX HL HU;go_wp2_with fail;clear z1 z2 l1;go_loopw [3,6] (λvs vi wr=> ∃(i:Nat) (x:List UInt8),i<=n/\vi=I_ J_ i/\vs=T_ (str x)/\Xb (x=u++tl (dD.take i))/\Xb (x.length<=200+71*i)/\Xb (Bw W0 wr)) (λ_ i _=>n - (intOf i).toNat)
     .exact ⟨0,u,o_,rfl,rfl,Hd (by simp [tl]),Hd (by have:=HL3.o;simp at this;omega),aN⟩
     .clear aN
      obtain ⟨i,x,hi,rfl,rfl,HX,HL,aN⟩:=hrel;have m6:wr.cell? ⟨X_ (Y_ w),6,Z_⟩=Y' (S_ A n c):=by rw [(HSA.o.a_ aN.o).cell 6];exact HE.o.1
      by_cases hlt:i<n
      .have Hbr:=Hd (HB.o.trans (aN.o.mono HB.o.size))
       obtain ⟨ad,hlk,rfl,_,_,hat⟩:=dA.at_ (hsl.below Hbr.o) hlt;have hmem:dD[i]∈dD:=g_ hlk;have hR:=hrt.o _ hmem;have hO:=(hok.o _ hmem).mN.2;have ay:=Hd (λW=>BU dD[i] hR hO W);have ly:(ED dD[i]).print.length<=60:=by
        have g1:=hR.p1;have g2:=hR.g1;have g3:=hR.p0;have g4:=hR.a0;have g5:=hR.g0;exact sG (by show dD[i].jx.toNat<=_;omega) (by show dD[i].mN.toNat<=_;omega) (by show dD[i].jm.toNat<=_;omega)
       have hstep:=Hd (Kc dD i hlk);obtain ⟨d1,HD1,l1,z1,z2⟩:=mW (b:=[116,104,114,101,115,104,111,108,100,32]) ⟨#[116,104,114,101,115,104,111,108,100,32]⟩ rfl HL.o z_;obtain ⟨d2,HD2,l2,z3,z4⟩:=cat l1 ly z_;obtain ⟨d3,HD3,l3,z5,z6⟩:=mW (b:=[10]) ⟨#[10]⟩ rfl l2 z_;clear hR hO hmem;generalize (ED dD[i]).print=q at*;generalize dD[i]=t at*;obtain ⟨sig,jx,mN,soft,jm⟩:=t;obtain ⟨c0,c1,c2,c3,c4⟩:=hat;unfold Xp at ay
       dsimp only at c0 c1 c2 c3 c4 ay
       have hw:IntKind.i64.wrap ((i:Int)+1)=(i:Int)+1:=fh o_ o_;go_wp2_with fail;refine (ay.o _).mono ?_;refine xZ ?_;intro w2 b9 b8;have HX2:Xb (d3=u++tl (dD.take (i+1))):=Hd (by rw [hstep.o,HD3.o,HD2.o,HD1.o,HX.o];simp [JF]);have HL2:Xb (d3.length<=200+71*(i+1)):=Hd (by simp at l3;omega);clear ay b9 aN hstep HX HL HD1 HD2 HD3 c0 c1 c2 c3 c4 m6;go_wp2;go_roundw
       .exact ⟨i+1,d3,o_,by go_num,rfl,HX2,HL2,b8⟩
       .simp [intOf];omega
      .obtain rfl:i=n:=o_
       have HF:Xb (x=u++tl dD):=Hd (by rw [HX.o,t_ o_]);clear HX;have k7:wr.cell? ⟨X_ (Y_ w),7,Z_⟩=Y' (I_ J_ (az:Nat)):=by rw [(HSA.o.a_ aN.o).cell 7];exact HE.o.2.1
       have k8:wr.cell? ⟨X_ (Y_ w),8,Z_⟩=Y' (I_ J_ (ret:Nat)):=by rw [(HSA.o.a_ aN.o).cell 8];exact HE.o.2.2.1
       have k9:wr.cell? ⟨X_ (Y_ w),9,Z_⟩=Y' (I_ J_ (fE:Nat)):=by rw [(HSA.o.a_ aN.o).cell 9];exact HE.o.2.2.2.1
       have Kf:wr.cell? ⟨X_ (Y_ w),10,Z_⟩=Y' (I_ J_ (dead:Nat)):=by rw [(HSA.o.a_ aN.o).cell 10];exact HE.o.2.2.2.2
       have HS:Xb (∀X,Bw wr X->X.cell? ⟨X_ (Y_ w),7,Z_⟩=Y' (I_ J_ (az:Nat))/\X.cell? ⟨X_ (Y_ w),8,Z_⟩=Y' (I_ J_ (ret:Nat))/\X.cell? ⟨X_ (Y_ w),9,Z_⟩=Y' (I_ J_ (fE:Nat))/\X.cell? ⟨X_ (Y_ w),10,Z_⟩=Y' (I_ J_ (dead:Nat))):=
        Hd λX hX=>⟨(hX.cell (Mem.iA k7)).trans k7,(hX.cell (Mem.iA k8)).trans k8,(hX.cell (Mem.iA k9)).trans k9,(hX.cell (Mem.iA Kf)).trans Kf⟩
       have Q7:=Hd (λW=>jK az o_ W);have Q8:=Hd (λW=>jK ret o_ W);have Q9:=Hd (λW=>jK fE o_ W);have Q10:=Hd (λW=>jK dead o_ W);have l7:=gh (n:=az) o_;have l8:=gh (n:=ret) o_;have l9:=gh (n:=fE) o_;have l10:=gh (n:=dead) o_;have hRR:=HR.o;have hDD:=HD.o;rw [<-hDD.1,<-hDD.2] at hRR;have HRR:Xb (R=x++([112,101,114,105,111,100,32]++(dR az++([10,114,101,116,114,105,101,115,32]++(dR ret++([10,109,97,120,97,103,101,32]++(dR fE++([10,100,101,97,100,32]++(dR dead++[10]))))))))):=Hd (by rw [hRR,HF.o,HU2.o,HY2.o];simp [tY,tZ,ua,nG]);clear hRR hDD HF k7 k8 k9 Kf;generalize dR az=s7 at*;generalize dR ret=s8 at*;generalize dR fE=s9 at*;generalize dR dead=s10 at*;obtain ⟨d1,HD1,g1,z1,z2⟩:=mW (b:=[112,101,114,105,111,100,32]) ⟨#[112,101,114,105,111,100,32]⟩ rfl HL.o z_;obtain ⟨d2,HD2,g2,z3,z4⟩:=cat g1 l7 z_;obtain ⟨d3,HD3,g3,z5,z6⟩:=mW (b:=[10,114,101,116,114,105,101,115,32]) ⟨#[10,114,101,116,114,105,101,115,32]⟩ rfl g2 z_;obtain ⟨d4,HD4,g4,z7,z8⟩:=cat g3 l8 z_;obtain ⟨d5,HD5,g5,z9,z10⟩:=mW (b:=[10,109,97,120,97,103,101,32]) ⟨#[10,109,97,120,97,103,101,32]⟩ rfl g4 z_;obtain ⟨d6,HD6,g6,z11,z12⟩:=cat g5 l9 z_;obtain ⟨d7,HD7,g7,z13,z14⟩:=mW (b:=[10,100,101,97,100,32]) ⟨#[10,100,101,97,100,32]⟩ rfl g6 z_;obtain ⟨d8,HD8,g8,z15,z16⟩:=cat g7 l10 z_;obtain ⟨d9,HD9,g9,z17,z18⟩:=mW (b:=[10]) ⟨#[10]⟩ rfl g8 z_;have y1: ¬9223372036854775807<(str x).size+7:=z1;have y5: ¬9223372036854775807<(str d2).size+9:=z5;have y9: ¬9223372036854775807<(str d4).size+8:=z9;have y13: ¬9223372036854775807<(str d6).size+6:=z13;have y17: ¬9223372036854775807<(str d8).size+1:=z17;have HFIN:Xb (R=d9):=Hd (by rw [HRR.o,HD9.o,HD8.o,HD7.o,HD6.o,HD5.o,HD4.o,HD3.o,HD2.o,HD1.o];simp);clear HRR HD1 HD2 HD3 HD4 HD5 HD6 HD7 HD8 HD9 g1 g2 g3 g4 g5 g6 g7 g8 g9 l7 l8 l9 l10;go_wp2_with fail;refine wp_region_quiet (C:=λw'=>Bw wr w') k_ k_ b_.drew ?_
       iterate 4 (refine wpQuiet_step (λK hK=>?_);go_simp;(first|refine hK _ ?_;clear hK K|constructor;refine ⟨λwx hwx=>?_,hK _ ?_⟩;(obtain ⟨x7,x8,x9,x10⟩:=HS.o wx hwx;go_simp<;>rfl);clear hK K))
       refine wpQuiet_step (λK hK=>?_);go_simp;apply XJ;refine ⟨λwx hwx=>?_,hK _ ?_⟩;(refine (Q7.o wx).mono ?_;rintro e w2 ⟨rfl,aa⟩;exact ⟨rfl,hwx.trans (aa.mono hwx.size)⟩);clear hK K;refine PU ?_;refine wpQuiet_step (λK hK=>?_);go_simp;apply XJ;refine ⟨λwx hwx=>?_,hK _ ?_⟩;(refine (Q8.o wx).mono ?_;rintro e w2 ⟨rfl,aa⟩;exact ⟨rfl,hwx.trans (aa.mono hwx.size)⟩);clear hK K;refine PU ?_;refine wpQuiet_step (λK hK=>?_);go_simp;apply XJ;refine ⟨λwx hwx=>?_,hK _ ?_⟩;(refine (Q9.o wx).mono ?_;rintro e w2 ⟨rfl,aa⟩;exact ⟨rfl,hwx.trans (aa.mono hwx.size)⟩);clear hK K;refine PU ?_;refine wpQuiet_step (λK hK=>?_);go_simp;apply XJ;refine ⟨λwx hwx=>?_,hK _ ?_⟩;(refine (Q10.o wx).mono ?_;rintro e w2 ⟨rfl,aa⟩;exact ⟨rfl,hwx.trans (aa.mono hwx.size)⟩);clear hK K
       iterate 3 (refine wpQuiet_step (λK hK=>?_);go_simp;(first|refine hK _ ?_|constructor;refine ⟨λwx hwx=>?_,hK _ ?_⟩;(obtain ⟨x7,x8,x9,x10⟩:=HS.o wx hwx;go_simp<;>rfl));clear hK K)
       refine wpQuiet_nil ?_;intro w3 hw3;have HZ:=Hd (HB.o.trans ((aN.o.trans (hw3.mono aN.o.size)).mono HB.o.size));go_wp2;go_ret;exact ⟨by rw [HFIN.o];rfl,HZ.o⟩
def Kg (l:List UInt8) (W:WX) (e:Ending) (w':WX):Prop:= ∃g c,e=R_ (S_ (Y' ⟨g,0,Z_⟩) l.length c)/\(l.length<=c/\(l.length<=maxLen->c<=maxLen))/\X_ (Y_ W)<=g/\Yc w' w'.heap.size 1 (Y' ⟨g,0,Z_⟩) l.length (l.map uv)/\Bw W w'
def jX (w:WX) (s:ByteArray):Bw w (XA w 5 s):=
 ⟨rfl,rfl,rfl,by rw [XM];omega,λj hj=>Lib.bytesWorld_at_old w _ s j hj⟩
def vN (w:WX) (l:List UInt8):Yc (XA w 5 (str l)) (XA w 5 (str l)).heap.size 1 (Y' ⟨X_ (Y_ w),0,Z_⟩) l.length (l.map uv):=by
 refine ⟨by simp,λ_=>⟨_,rfl,by rw [XM];exact Nat.lt_succ_self _,λj G=>?_⟩⟩;have F:j<l.length:=by simpa using G
 rw [Mem.iO,Lib.bytesWorld_cell w _ (str l) j F,mn];simp [uv,F]
def qC (p:ef) (dD:List dA) (w:WX) (hp:p.ok w w.heap.size dD) (h:fK p dD):WZ Xc 17 #[A_ p.arr] w (Kg (jh p dD).text w):=by
 have hB:Bw w (w.alloc (.cells p.arr 25)):=dL;have ac:Xj (w.alloc (.cells p.arr 25)) w.heap.size 25 p.arr:=Xg;have HP:=Hd (λX (hX:Bw w X)=>BT p dD X ((hp.below hX).more hX.size) h);have U:=Hd hB;clear hp h;unfold XX at*;obtain ⟨V,k1,k2,a0,a1,a2,A,n,c,F,G,I,dead⟩:=p
 dsimp only at*
 go_enter func17,ntmps17;go_wp2_with fail;refine (HP _ U).mono ?_;rintro e w2 ⟨rfl,O⟩;have hv:=Lib.run_convert_string_bytes (P:=Xc) w2 9 65 5 (str (jh ⟨V,k1,k2,a0,a1,a2,A,n,c,F,G,I,dead⟩ dD).text) underlying9 underlying65 underlying5;have HS:=Hd (vN w2 (jh ⟨V,k1,k2,a0,a1,a2,A,n,c,F,G,I,dead⟩ dD).text);have H2:=Hd (U.trans (O.mono U.size));have H3:=Hd (H2.trans ((jX w2 (str (jh ⟨V,k1,k2,a0,a1,a2,A,n,c,F,G,I,dead⟩ dD).text)).mono H2.size));have hz:=H2.size;generalize hT:(jh ⟨V,k1,k2,a0,a1,a2,A,n,c,F,G,I,dead⟩ dD).text=T at*;clear HP O hT U;generalize XA w2 5 (str T)=w3 at*;go_wp2;go_ret;exact ⟨_,_,rfl,⟨grownCap_ge w2 (str T).size 0 _,λh=>grownCap_le_maxLen w2 (str T).size 0 _ h⟩,hz,HS,H3⟩
end Tx
end
section
open _root_.Go.Proofs.Tryz
namespace Tw
def qq (c:Int) (w:WX):WZ Xc 74 #[.int .u8 c] w λe w'=>e=R_ (B_ (c==32||c==9||c==13))/\w'=w:=by
 by_cases F:c=32
 .subst F
  go_enter func74,ntmps74;exact lH
 .have O:(c==32)=WW:=beq_eq_false_iff_ne.2 F
  by_cases G:c=9
  .subst G
   go_enter func74,ntmps74;exact lH
  .have I:(c==9)=WW:=beq_eq_false_iff_ne.2 G
   rw [O,I];clear F G;go_enter func74,ntmps74;go_wp2;go_ret;exact ⟨by simp,rfl⟩
def LF (n a b:Int) (w:WX):WZ Xc 81 #[I_ J_ n,I_ J_ a,I_ J_ b] w λe w'=>e=R_ (B_ (decide (a<=n/\n<=b)))/\w'=w:=by
 by_cases F:a<=n
 .by_cases G:n<=b
  .rw [decide_eq_true (show a<=n/\n<=b from ⟨F,G⟩)]
   go_enter func81,ntmps81;exact GN
  .rw [decide_eq_false (show¬(a<=n/\n<=b) from λh=>G h.2)]
   go_enter func81,ntmps81;exact GN
 .rw [decide_eq_false (show¬(a<=n/\n<=b) from λh=>F h.1)]
  go_enter func81,ntmps81;exact GN
def dU (on:Bool) (calm:Int) (holds met fresh:Bool) (fg:Int):Bool×Int:=
 if fresh&&holds then (Z',0) else if !on|| !fresh||met then (on,0) else if fg<=calm+1 then (WW,0) else (Z',calm+1)
def CP {p:Prop} (h:p:=by
 go_enter func164,ntmps164;go_wp2_with fail;refine bodyPost_ret (by simp [results,results164,go_sem]) rfl ⟨rfl,(dL).alloc y_ _⟩):p:=h
def uO (on:Bool) (calm:Int) (F O G:Bool) (I:Int) (w:WX) (hc:0<=calm/\calm<=100000):
  WZ Xc 164 #[A_ #[B_ on,I_ J_ calm],B_ F,B_ O,B_ G,I_ J_ I] w λe w'=>e=R_ (A_ #[B_ (dU on calm F O G I).1,I_ J_ (dU on calm F O G I).2])/\Bw w w':=by
 have hw:IntKind.i64.wrap (calm+1)=calm+1:=by unfold XH;simp [XI,XB];omega
 have e0: ∀h m f,dU WW calm h m f I=if f&&h then (Z',0) else (WW,0):=λh m f=>by unfold dU;cases h<;>cases m<;>cases f<;>rfl
 have e1: ∀h m,dU Z' calm h m WW I=(Z',0):=λh m=>by unfold dU;cases h<;>cases m<;>rfl
 have U: ∀m,dU Z' calm Z' m Z' I=(Z',0):=λm=>by unfold dU;cases m<;>rfl
 have X:dU Z' calm WW Z' Z' I=(Z',0):=by unfold dU;rfl
 have V:dU Z' calm WW WW Z' I=if I<=calm+1 then (WW,0) else (Z',calm+1):=by unfold dU;rfl
 cases on
 .rw [e0]
  clear e0 e1 U X V hw;cases F<;>cases G<;>cases O
  all_goals
   exact CP
 .cases G
  .rw [e1]
   clear e0 e1 U X V hw;cases F<;>cases O
   all_goals
    exact CP
  .cases F
   .cases O
    .rw [V]
     clear e0 e1 U X V;by_cases hp:I<=calm+1
     .rw [if_pos hp]
      exact CP
     .rw [if_neg hp]
      exact CP
    .rw [X]
     clear e0 e1 U X V hw;exact CP
   .rw [U]
    clear e0 e1 U X V hw;cases O
    all_goals
     exact CP
end Tw
end
section
namespace Wo
structure eF (W w:WX) (e:TypeId) (k:Nat) (A:Option Xa) (n c:Nat) (xs:List WY):Prop where
 below:Bw W w
 row:Ro.Row w e k A n c xs
 fresh: ∀b,Ro.dr A=Y' b->W.heap.size<=b
section
variable {P:Program} {W w w':WX} {t e:TypeId} {z:WY} {k bytes n c:Nat} {A:Option Xa} {xs:List WY}
def eF.nil (hb:Bw W w):eF W w e k Z_ 0 0 []:=
 ⟨hb,⟨by simp,Nat.le_refl _,Nat.zero_le _,.inl ⟨rfl,rfl⟩⟩,λb h=>by cases h⟩
def eF.free (h:eF W w e k A n c xs) (hb:Bw w w'):eF W w' e k A n c xs:=
 ⟨h.below.trans (hb.mono h.below.size),h.row.dy λb hk=>hb.block b (h.row.lt hk),h.fresh⟩
def eF.drew (h:eF W w e k A n c xs):eF W w.drew e k A n c xs:=h.free b_.drew
def eF.push (E:Mem.El P t e z k bytes) (h:eF W w e k A n c xs) (cs:Array WY) (hk:cs.size=k) (U: ∀u∈cs.toList,u.oneCell'=Z') (hn:n<=100000) (F:bytes<=1000) {N:Nat} (hN:X_ (Y_ w)=N):
  ∃A' c' w',(Builtin.append_ #[t,t] t #[S_ A n c,S_ (Y' ⟨N,0,Z_⟩) 1 1]).run P (w.alloc (.cells cs e))= .ok (S_ A' (n+1) c') w'/\eF W w' e k A' (n+1) c' (xs++cs.toList)/\Ro.dt (λb=>Ro.dr A=Y' b) w w':=by
 subst hN;refine Ow ?_;intro hz G I;let ⟨A',c',w',X,hR,O,V⟩:=Ro.app (P:=P) (ty:=t) (c2:=1) E (h.row.dy λb F=>G.block b (h.row.lt F)) (Mem.gV (w:=w) (n:=1) (cs:=cs) (e:=e) rfl o_ rfl) U e_ I;refine ⟨A',c',w',X,⟨(h.below.trans (G.mono hz)).trans (O.below z_ (λb F e=>by have:=h.fresh b e;omega)),hR,λb F=>?_⟩,(Ro.dt.dW G).trans O (λ_ _ e=>e)⟩;obtain e|e:=V
 .rw [e] at F;exact h.fresh b F
 .rw [e] at F
  have:X_ (Y_ w)+1=b:=by simpa using F
  omega
end
end Wo
end
section
open _root_.Go.Proofs.Tryz
namespace Vi
def ux (s:Int×Int×Int) (p:dz):Int×Int×Int:=(Xl s.1 p.r0,Xl s.2.1 p.r1,Xl s.2.2 p.r2)
def eY (l:List dz):Int×Int×Int:=l.foldl ux (0,0,0)
def Ci (l:List dz) (k:Nat) (h:k<l.length):eY (l.take (k+1))=ux (eY (l.take k)) l[k]:=by
 unfold eY;rw [Mem.dQ _ _ h,XV];rfl
def uy (a b:Int):Xl a b<=9223372036854775807:=by unfold Xl Sat.cut;split<;>omega
def Kx (l:List dz):(eY l).1<=9223372036854775807/\(eY l).2.1<=9223372036854775807/\(eY l).2.2<=9223372036854775807:=by
 obtain rfl|⟨a,p,rfl⟩:=List.eq_nil_or_concat l
 .decide
 .have:eY (a.concat p)=ux (eY a) p:=by unfold eY;rw [List.concat_eq_append,XV];rfl
  rw [this];exact ⟨uy _ _,uy _ _,uy _ _⟩
def fh {n:Int} (h: -9223372036854775808<=n) (h2:n<=9223372036854775807):IntKind.i64.wrap n=n:=by
 unfold XH;simp [XI,XB];omega
def lq (I O G:Int) (w:WX) (j:Nat) (hj:j<3):
  (Xr 22 (A_ #[I,O,G]) (I_ J_ j)).run Xc w= .ok (I_ J_ (if j=0 then I else if j=1 then O else G)) w:=by
 have F:j=0\/j=1\/j=2:=o_;have hz:=sizeOf3;obtain rfl|rfl|rfl:=F<;>simp [Xr,run_underlying underlying22,asIntOf,go_sem]
def Qm (A:Option Xa) (n c:Nat) (ps:List dz) (w:WX) (h:Yc w w.heap.size 11 A n (dz.flat ps)) (an: ∀p∈ps,p.ok) (hn:n<=1000000):
  WZ Xc 148 #[S_ A n c] w λe w'=>e=R_ (A_ #[I_ J_ (eY ps).1,I_ J_ (eY ps).2.1,I_ J_ (eY ps).2.2])/\Bw w w':=by
 have aG:ps.length=n:=by have:=h.1;rw [dz.dO] at this;omega
 have H:=Hd h;have HO:=Hd an;let ⟨S,hS⟩:=nm (eY ps);rw [<-hS];have HS:=Hd hS;clear h an hS;go_enter func148,ntmps148;go_wp2_with fail;have ao:Xb (Bw w ((w.alloc (.cells #[I_ J_ 0,I_ J_ 0,I_ J_ 0] 22)).alloc (.cells #[I_ J_ 0,I_ J_ 0,I_ J_ 0] 22))):=Hd ((dL).alloc y_ _);have F:Xj ((w.alloc (.cells #[I_ J_ 0,I_ J_ 0,I_ J_ 0] 22)).alloc (.cells #[I_ J_ 0,I_ J_ 0,I_ J_ 0] 22)) w.heap.size 22 #[I_ J_ 0,I_ J_ 0,I_ J_ 0]:=Mem.c_.alloc Xg;have ak:Xj ((w.alloc (.cells #[I_ J_ 0,I_ J_ 0,I_ J_ 0] 22)).alloc (.cells #[I_ J_ 0,I_ J_ 0,I_ J_ 0] 22)) (X_ (Y_ w)+1) 22 #[I_ J_ 0,I_ J_ 0,I_ J_ 0]:=by
  have:=Xg (w:=w.alloc (.cells #[I_ J_ 0,I_ J_ 0,I_ J_ 0] 22)) (t:=22) (cs:= #[I_ J_ 0,I_ J_ 0,I_ J_ 0]);simpa using this
 have ah:=Hd F;have ag:=Hd ak;clear F ak;go_loopw [10] (λvi wr=> ∃k:Nat,k<=n/\vi=I_ J_ k/\Xb (Bw w wr)/\Xb (Xj wr w.heap.size 22 #[I_ J_ 0,I_ J_ 0,I_ J_ 0])/\Xb (Xj wr (X_ (Y_ w)+1) 22 #[I_ J_ (eY (ps.take k)).1,I_ J_ (eY (ps.take k)).2.1,I_ J_ (eY (ps.take k)).2.2])) (λi _=>n - (intOf i).toNat)
 .exact ⟨0,o_,rfl,ao,ah,ag⟩
 .clear ao ah ag
  obtain ⟨k,hk,rfl,V,K0,y9⟩:=hrel;by_cases aA:k<n
  .refine sy ?_
   intro d0;obtain ⟨ad,am,rfl,_,_,aw⟩:=dz.at_ (H.o.below V.o) aA;have O:=Hd (Ci ps k am);have hp:=HO.o _ (g_ am);have b0:=hp.r0.2;have b1:=hp.r1.2;have b2:=hp.r2.2;generalize ps[k]=p at*;let ⟨id,ar,ai,r0,r1,r2,l0,l1,l2,ay,size⟩:=p;let ⟨c0,c1,c2,c3,c4,c5,c6,c7,c8,c9,lM⟩:=aw
   dsimp only at b0 b1 b2 c0 c1 c2 c3 c4 c5 c6 c7 c8 c9 lM
   have hb:=Kx (ps.take k);generalize eY (ps.take k)=s at*;let ⟨s0,s1,s2⟩:=s;let ⟨t0,t1,t2⟩:=hb
   dsimp only at t0 t1 t2
   have hw:IntKind.i64.wrap ((k:Int)+1)=(k:Int)+1:=fh o_ o_;go_wp2_with fail;let ⟨w1,I⟩:=nm (wr.alloc (.cells #[id,ar,ai,r0,r1,r2,l0,l1,l2,ay,size] 42));have al:Xb (Bw w w1):=Hd (by rw [I];exact V.o.alloc V.o.size _);have L0:Xb (Xj w1 w.heap.size 22 #[I_ J_ 0,I_ J_ 0,I_ J_ 0]):=Hd (by rw [I];exact K0.o.alloc);have U:Xb (Xj w1 (X_ (Y_ w)+1) 22 #[s0,s1,s2]):=Hd (by rw [I];exact y9.o.alloc);rw [<-I];clear I V K0 y9 c0 c1 c2 c3 c4 c5 c6 c7 c8 c9 lM;go_loopw [16] (λvi wr=> ∃j:Nat,j<=3/\vi=I_ J_ j/\Xb (Bw w wr)/\Xb (Xj wr w.heap.size 22 #[I_ J_ 0,I_ J_ 0,I_ J_ 0])/\Xb (Xj wr (X_ (Y_ w)+1) 22 #[I_ J_ (if 0<j then Xl s0 r0 else s0),I_ J_ (if 1<j then Xl s1 r1 else s1),I_ J_ (if 2<j then Xl s2 r2 else s2)])) (λi _=>3 - (intOf i).toNat)
   .exact ⟨0,o_,rfl,al,L0,U⟩
   .clear al L0 U
    obtain ⟨j,hj,rfl,V,K0,y9⟩:=hrel;have ap:j=0\/j=1\/j=2\/j=3:=o_;obtain rfl|rfl|rfl|rfl:=ap
    .refine sH ?_
     have i0: ∀X,(Xr 22 (A_ #[r0,r1,r2]) (I_ J_ 0)).run Xc X= .ok (I_ J_ r0) X:=λX=>lq r0 r1 r2 X 0 d_
     have m1:=c0 y9.o;have f0:=y9.o.frozen;go_wp2_with fail;refine (Sat.pH _ _ _ t0 b0).mono ?_;rintro e w2 ⟨rfl,rfl⟩;have G:Xb (Bw w (wr.setCell ⟨X_ (Y_ w)+1,0,Z_⟩ (I_ J_ (Xl s0 r0)))):=Hd (V.o.setCell y_ _);have L0:=Hd (K0.o.fA (p:=⟨X_ (Y_ w)+1,0,Z_⟩) (u:=I_ J_ (Xl s0 r0)) y_);have U:=Hd (y9.o.eC 0 (I_ J_ (Xl s0 r0)));go_wp2;go_roundw
     .exact ⟨1,o_,rfl,G,L0,U⟩
     .simp [intOf]
    .refine vO ?_
     have i0: ∀X,(Xr 22 (A_ #[r0,r1,r2]) (I_ J_ 1)).run Xc X= .ok (I_ J_ r1) X:=λX=>lq r0 r1 r2 X 1 d_
     have m1:=c1 y9.o;have f0:=y9.o.frozen;go_wp2_with fail;refine (Sat.pH _ _ _ t1 b1).mono ?_;rintro e w2 ⟨rfl,rfl⟩;have G:Xb (Bw w (wr.setCell ⟨X_ (Y_ w)+1,1,Z_⟩ (I_ J_ (Xl s1 r1)))):=Hd (V.o.setCell y_ _);have L0:=Hd (K0.o.fA (p:=⟨X_ (Y_ w)+1,1,Z_⟩) (u:=I_ J_ (Xl s1 r1)) y_);have U:=Hd (y9.o.eC 1 (I_ J_ (Xl s1 r1)));go_wp2;go_roundw
     .exact ⟨2,o_,rfl,G,L0,U⟩
     .simp [intOf]
    .refine vP ?_
     have i0: ∀X,(Xr 22 (A_ #[r0,r1,r2]) (I_ J_ 2)).run Xc X= .ok (I_ J_ r2) X:=λX=>lq r0 r1 r2 X 2 d_
     have m1:=c2 y9.o;have f0:=y9.o.frozen;go_wp2_with fail;refine (Sat.pH _ _ _ t2 b2).mono ?_;rintro e w2 ⟨rfl,rfl⟩;have G:Xb (Bw w (wr.setCell ⟨X_ (Y_ w)+1,2,Z_⟩ (I_ J_ (Xl s2 r2)))):=Hd (V.o.setCell y_ _);have L0:=Hd (K0.o.fA (p:=⟨X_ (Y_ w)+1,2,Z_⟩) (u:=I_ J_ (Xl s2 r2)) y_);have U:=Hd (y9.o.eC 2 (I_ J_ (Xl s2 r2)));go_wp2;go_roundw
     .exact ⟨3,o_,rfl,G,L0,U⟩
     .simp [intOf]
    .refine qB ?_
     have U:Xb (Xj wr (X_ (Y_ w)+1) 22 #[I_ J_ (eY (ps.take (k+1))).1,I_ J_ (eY (ps.take (k+1))).2.1,I_ J_ (eY (ps.take (k+1))).2.2]):=Hd (by rw [O.o];exact y9.o);clear y9 O;go_wp2;go_roundw
     .exact ⟨k+1,o_,by go_num,V,K0,U⟩
     .simp [intOf];omega
  .obtain rfl:k=n:=o_
   refine zt ?_;intro d0;have af:Xb (eY (ps.take k)=S):=Hd (by rw [HS.o,t_ o_]);rw [af.o] at y9;obtain ⟨m1,x1,x2,-⟩:=kA y9.o;have aa:=K0.o.frozen;have HE:Xb (Bw w (((wr.setCell ⟨X_ (Y_ w),0,Z_⟩ (I_ J_ S.1)).setCell ⟨X_ (Y_ w),1,Z_⟩ (I_ J_ S.2.1)).setCell ⟨X_ (Y_ w),2,Z_⟩ (I_ J_ S.2.2))):=Hd (((V.o.setCell l_ _).setCell l_ _).setCell l_ _);obtain ⟨y0,y1,y2,-⟩:=kA K0.o;go_wp2;refine bodyPost_ret (v:=A_ #[I_ J_ S.1,I_ J_ S.2.1,I_ J_ S.2.2]) (by simp [*,results,results148,go_sem]) rfl ⟨rfl,HE.o⟩
def jO (s r:Int):Bool:= !(s==9223372036854775807)&&decide (s<=r)
def fI (r0 r1 r2:Int) (s:Int×Int×Int):Bool:=jO s.1 r0&&(jO s.2.1 r1&&jO s.2.2 r2)
def uz {p:Prop} (k:q) (h:Wq q->p:=by
 intro kq;go_wp2_with fail;refine (Sat.Qn _ _).mono ?_;rintro e w3 ⟨rfl,rfl⟩;go_wp2_with fail;exact kq.o):p:=h ⟨k⟩
def qR {p:Prop} (h:p:=by
 go_ret;exact ⟨by rw [G.o];rfl,aA.o⟩):p:=h
def Fv (r0 r1 r2:Int) (A:Option Xa) (n c:Nat) (ps:List dz) (w:WX) (h:Yc w w.heap.size 11 A n (dz.flat ps)) (ak: ∀p∈ps,p.ok) (hn:n<=1000000):
  WZ Xc 88 #[A_ #[r0,r1,r2],S_ A n c] w λe w'=>e=R_ (B_ (fI r0 r1 r2 (eY ps)))/\Bw w w':=by
 have HX:=Hd (λX (hX:Bw w X)=>Qm A n c ps X ((h.below hX).more hX.size) ak hn);clear h ak;generalize eY ps=s at*;let ⟨s0,I,O⟩:=s
 dsimp only at HX
 let ⟨ab,G⟩:=nm (fI r0 r1 r2 (s0,I,O));rw [<-G];have HF:=Hd G;clear G;have aN:=Hd (show Bw w (w.alloc (.cells #[r0,r1,r2] 22)) from dL);have HK:=Hd (show Xj (w.alloc (.cells #[r0,r1,r2] 22)) w.heap.size 22 #[r0,r1,r2] from Xg);go_enter func88,ntmps88;go_wp2_with fail;refine (HX.o _ aN.o).mono ?_;rintro e w2 ⟨rfl,aa⟩;have aA:=Hd (aN.o.trans (aa.mono aN.o.size));have K:=Hd (HK.o.a_ aa);clear HX aN HK aa;go_wp2;go_loopw [9] (λvi wr=> ∃j:Nat,j<=3/\vi=I_ J_ j/\wr=w2/\(1<=j->jO s0 r0=Z')/\(2<=j->jO I r1=Z')/\(3<=j->jO O r2=Z')) (λi _=>3 - (intOf i).toNat)
 .exact ⟨0,o_,rfl,rfl,λh=>absurd h o_,λh=>absurd h o_,λh=>absurd h o_⟩
 .obtain ⟨j,hj,rfl,rfl,F,HY,HD⟩:=hrel
  have ap:j=0\/j=1\/j=2\/j=3:=o_;obtain rfl|rfl|rfl|rfl:=ap
  .refine sH ?_
   have i0: ∀X,(Xr 22 (A_ #[s0,I,O]) (I_ J_ 0)).run Xc X= .ok (I_ J_ s0) X:=λX=>lq s0 I O X 0 d_
   have x0:=c0 K.o;by_cases U:s0=9223372036854775807
   .have d1:(s0==9223372036854775807)=Z':=by rw [U];rfl
    have G:Xb (ab=WW):=Hd (by rw [HF.o];simp [fI,jO,d1]);clear U;refine uz ?_;exact qR
   .have d1:=beq_eq_false_iff_ne.2 U
    clear U;by_cases V:s0<=r0
    .have d2:decide (s0>r0)=WW:=dF
     have h1:Xb (jO s0 r0=Z'):=Hd (by simp [jO,d1,V]);clear V;refine uz ?_;go_roundw
     .exact ⟨1,o_,rfl,trivial,λ_=>h1.o,λh=>absurd h o_,λh=>absurd h o_⟩
     .simp [intOf]
    .have d2:decide (s0>r0)=Z':=dT
     have G:Xb (ab=WW):=Hd (by rw [HF.o];simp [fI,jO,V]);clear V;refine uz ?_;exact qR
  .refine vO ?_
   have i0: ∀X,(Xr 22 (A_ #[s0,I,O]) (I_ J_ 1)).run Xc X= .ok (I_ J_ I) X:=λX=>lq s0 I O X 1 d_
   have x0:=c1 K.o;by_cases U:I=9223372036854775807
   .have d1:(I==9223372036854775807)=Z':=by rw [U];rfl
    have G:Xb (ab=WW):=Hd (by rw [HF.o];simp [fI,jO,d1]);clear U;refine uz ?_;exact qR
   .have d1:=beq_eq_false_iff_ne.2 U
    clear U;by_cases V:I<=r1
    .have d2:decide (I>r1)=WW:=dF
     have h1:Xb (jO I r1=Z'):=Hd (by simp [jO,d1,V]);clear V;refine uz ?_;go_roundw
     .exact ⟨2,o_,rfl,trivial,λ_=>F o_,λ_=>h1.o,λh=>absurd h o_⟩
     .simp [intOf]
    .have d2:decide (I>r1)=Z':=dT
     have G:Xb (ab=WW):=Hd (by rw [HF.o];simp [fI,jO,V]);clear V;refine uz ?_;exact qR
  .refine vP ?_
   have i0: ∀X,(Xr 22 (A_ #[s0,I,O]) (I_ J_ 2)).run Xc X= .ok (I_ J_ O) X:=λX=>lq s0 I O X 2 d_
   have x0:=c2 K.o;by_cases U:O=9223372036854775807
   .have d1:(O==9223372036854775807)=Z':=by rw [U];rfl
    have G:Xb (ab=WW):=Hd (by rw [HF.o];simp [fI,jO,d1]);clear U;refine uz ?_;exact qR
   .have d1:=beq_eq_false_iff_ne.2 U
    clear U;by_cases V:O<=r2
    .have d2:decide (O>r2)=WW:=dF
     have h1:Xb (jO O r2=Z'):=Hd (by simp [jO,d1,V]);clear V;refine uz ?_;go_roundw
     .exact ⟨3,o_,rfl,trivial,λ_=>F o_,λ_=>HY o_,λ_=>h1.o⟩
     .simp [intOf]
    .have d2:decide (O>r2)=Z':=dT
     have G:Xb (ab=WW):=Hd (by rw [HF.o];simp [fI,jO,V]);clear V;refine uz ?_;exact qR
  .refine qB ?_
   have G:Xb (ab=Z'):=Hd (by rw [HF.o];simp [fI,F o_,HY o_,HD o_]);clear F HY HD;go_wp2_with fail;exact qR
end Vi
end
section
namespace Fl
def sg (b:Nat):Bool:=decide (9223372036854775808<=b)
def rg (b:Nat):Nat:=b%9223372036854775808
def sr (b:Nat):Int:=if sg b then -(rg b:Int) else rg b
def Mc (r:Nat):Nat:=if r<4503599627370496 then r else 4503599627370496+r%4503599627370496
def pl (r:Nat):Nat:=if r<4503599627370496 then 0 else r/4503599627370496 - 1
def mg (r:Nat):Nat:=Mc r*2^pl r
def AY (r:Nat):mg r<mg (r+1):=by
 unfold mg Mc pl;by_cases h:r+1<4503599627370496
 .rw [if_pos h,if_pos h,if_pos o_,if_pos o_];omega
 .rw [if_neg h,if_neg h]
  by_cases F:r<4503599627370496
  .rw [if_pos F,if_pos F]
   obtain rfl:r=4503599627370495:=o_
   decide
  .rw [if_neg F,if_neg F]
   by_cases O:r%4503599627370496=4503599627370495
   .have G:(r+1)%4503599627370496=0:=o_
    have I:(r+1)/4503599627370496 - 1=(r/4503599627370496 - 1)+1:=o_;rw [G,I,O,Nat.pow_succ];have:=Xf (r/4503599627370496 - 1);generalize 2^(r/4503599627370496 - 1)=p at*;omega
   .have G:(r+1)%4503599627370496=r%4503599627370496+1:=o_
    have I:(r+1)/4503599627370496=r/4503599627370496:=o_;rw [G,I];exact Xq o_ (Xf _)
def AZ {s:Nat} (h:r<s):mg r<mg s:=by
 induction s with
 |zero=>omega
 |succ s ih=>
  obtain h|rfl:=Nat.lt_succ_iff_lt_or_eq.1 h
  .exact Nat.lt_trans (ih h) (AY s)
  .exact AY r
def uY {s:Nat}:mg r<mg s↔r<s:=by
 constructor
 .intro h
  by_cases F:r<s
  .exact F
  .obtain rfl|G:=Xt (Nat.not_lt.1 F)
   .omega
   .have:=AZ G;omega
 .exact AZ
def Ba:mg 0=0:=d_
def Hv {p:Prop} (k:q) (h:Wq q->p:=by
 intro kq;unfold Ieee.Format.read;have I:FloatKind.f64.format.signWeight=9223372036854775808:=d_;have O:FloatKind.f64.format.binade=4503599627370496:=d_
 revert I O
 exact kq.o):p:=h ⟨k⟩
def OK {p:Prop} (k:q) (h:Wq q->p:=by
 intro kq;have G:(b/9223372036854775808%2==1)=sg b:=by
  unfold sg;by_cases h:9223372036854775808<=b
  .have:b/9223372036854775808=1:=o_
   simp [this,h]
  .have:b/9223372036854775808=0:=o_
   simp [this,h]
 revert G
 exact kq.o):p:=h ⟨k⟩
def lX (hb:b<18446744073709551616) (h:rg b<9218868437227405312):FloatKind.f64.format.read b= .number (sg b) (Mc (rg b)) (-1074+(pl (rg b):Nat)):=by
 refine Hv ?_;intro I O;have V:FloatKind.f64.format.infRung=9218868437227405312:=d_;have U:FloatKind.f64.format.leastPlace= -1074:=d_;refine OK ?_;intro G;rw [I,O,V,U]
 dsimp only
 rw [G];unfold Mc pl;unfold rg at*;by_cases F:b%9223372036854775808<4503599627370496
 .rw [if_pos F,if_pos F,if_pos F];rfl
 .rw [if_neg F,if_neg F,if_neg F,if_pos h]
def ry (hb:b<18446744073709551616) (h:rg b=9218868437227405312):FloatKind.f64.format.read b= .infinity (sg b):=by
 refine Hv ?_;intro I O;have F:FloatKind.f64.format.infRung=9218868437227405312:=d_;refine OK ?_;intro G;rw [I,O,F]
 dsimp only
 rw [G];unfold rg at h;rw [h,if_neg d_,if_neg d_,if_pos rfl]
def wY (h:9218868437227405312<rg b): ∃s t,FloatKind.f64.format.read b= .nan s t:=by
 refine Hv ?_;intro I O;have F:FloatKind.f64.format.infRung=9218868437227405312:=d_;rw [I,O,F]
 dsimp only
 unfold rg at h;rw [if_neg o_,if_neg o_,if_neg o_];exact ⟨_,_,rfl⟩
def mM (x y:Int):Ordering:=if x<y then .lt else if x=y then .eq else .gt
def uZ (x y:Int):compare x y=mM x y:=rfl
def Hy (x y:Int) (c:Nat) (hc:0<c):mM (x*c) (y*c)=mM x y:=by
 have F:x*c<y*c↔x<y:=by
  constructor
  .intro h
   exact Int.lt_of_mul_lt_mul_right h o_
  .intro h
   exact Int.mul_lt_mul_of_pos_right h o_
 have G:x*c=y*c↔x=y:=by
  constructor
  .intro h
   exact Int.eq_of_mul_eq_mul_right o_ h
  .intro h;rw [h]
 unfold mM;simp only [F,G]
def tv (s:Bool) (m k:Nat):Yb s m k=(if s then -1 else 1)*((m*2^k:Nat):Int):=by
 unfold Yb;rw [XE];cases s<;>simp
def Dg {t:Bool}:Xv (.number s m (-1074+(i:Nat))) (.number t n (-1074+(j:Nat)))=Y' (mM ((if s then -1 else 1)*((m*2^i:Nat):Int)) ((if t then -1 else 1)*((n*2^j:Nat):Int))):=by
 unfold Xv
 dsimp only
 rw [uZ,tv,tv]
 congr 1
 have e:min (-1074+(i:Int)) (-1074+(j:Int))= -1074+((min i j:Nat):Int):=o_;rw [e];have F:((-1074+(i:Int)) - (-1074+((min i j:Nat):Int))).toNat=i - min i j:=o_;have G:((-1074+(j:Int)) - (-1074+((min i j:Nat):Int))).toNat=j - min i j:=o_;rw [F,G,<-Hy _ _ (2^min i j) (Xf _)]
 congr 1
 .rw [Int.mul_assoc,<-Int.natCast_mul,XO,<-Xk,Xo (Nat.min_le_left _ _)]
 .rw [Int.mul_assoc,<-Int.natCast_mul,XO,<-Xk,Xo (Nat.min_le_right _ _)]
def H_ {p:Prop} (h:p:=by
 cases x<;>cases y<;>simp<;>(repeat' split)<;>first|rfl|omega):p:=h
def lY {a:Nat} (I:a<18446744073709551616) (G:b<18446744073709551616) (U:rg a<=9218868437227405312) (nb:rg b<=9218868437227405312):FloatKind.f64.format.order a b=Y' (mM (sr a) (sr b)):=by
 unfold XW;obtain ea|X:=Xt U
 .rw [ry I ea]
  obtain F|lb:=Xt nb
  .rw [ry G F]
   unfold sr;rw [ea,F];generalize sg a=x;generalize sg b=y;cases x<;>cases y<;>rfl
  .rw [lX G lb]
   unfold Xv sr mM
   dsimp only
   rw [ea];generalize rg b=r at*;generalize sg a=x;generalize sg b=y;exact H_
 .rw [lX I X]
  obtain F|lb:=Xt nb
  .rw [ry G F]
   unfold Xv sr mM
   dsimp only
   rw [F];generalize rg a=r at*;generalize sg a=x;generalize sg b=y;exact H_
  .rw [lX G lb,Dg]
   congr 1
   have O:Mc (rg a)*2^pl (rg a)=mg (rg a):=rfl;have V:Mc (rg b)*2^pl (rg b)=mg (rg b):=rfl;rw [O,V];unfold sr;have i1:= @uY (rg a) (rg b);have i2:= @uY (rg b) (rg a);have z1:0<mg (rg a)↔0<rg a:=by rw [<-Ba];exact uY
   have z2:0<mg (rg b)↔0<rg b:=by rw [<-Ba];exact uY
   generalize mg (rg a)=p at*;generalize mg (rg b)=q at*;generalize rg a=r at*;generalize rg b=t at*;generalize sg a=x;generalize sg b=y;unfold mM;exact H_
def Dh {a:Nat} (h:9218868437227405312<rg a\/9218868437227405312<rg b):FloatKind.f64.format.order a b=Z_:=by
 unfold XW;obtain h|h:=h
 .let ⟨s,t,e⟩:=wY h
  rw [e];rfl
 .let ⟨s,t,e⟩:=wY h
  rw [e];cases FloatKind.f64.format.read a<;>rfl
def kd (b:Nat):Int:=if 9218868437227405312<rg b then 1 else if rg b=9218868437227405312 then (if sg b then 2 else 7) else if rg b=0 then (if sg b then 4 else 5) else if sg b then 3 else 6
def ng (b:Nat):Nat:=b^^^9223372036854775808
def yT (hb:b<18446744073709551616):ng b=if 9223372036854775808<=b then b - 9223372036854775808 else b+9223372036854775808:=by
 have e:ng b=(ng b/2^63)*2^63+ng b%2^63:=o_;rw [e];unfold ng;rw [Nat.xor_div_two_pow,Nat.xor_mod_two_pow];rw [show (9223372036854775808:Nat)/2^63=1 from rfl,show (9223372036854775808:Nat)%2^63=0 from rfl,Nat.xor_zero];by_cases h:9223372036854775808<=b
 .rw [if_pos h,show b/2^63=1 by omega]
  have:(1^^^1:Nat)=0:=d_;rw [this];omega
 .rw [if_neg h,show b/2^63=0 by omega]
  have:(0^^^1:Nat)=1:=d_;rw [this];omega
def Uu (hb:b<18446744073709551616):ng b<18446744073709551616:=by rw [yT hb];split<;>omega
def OL (hb:b<18446744073709551616):rg (ng b)=rg b:=by rw [yT hb];unfold rg;split<;>omega
def Uv (F:b<18446744073709551616):sg (ng b)= !sg b:=by
 rw [yT F];unfold sg;split
 .rename_i h;rw [decide_eq_true h,dF];rfl
 .rename_i h;rw [decide_eq_false h,dT];rfl
def Uw (F:b<18446744073709551616):sr (ng b)= -sr b:=by
 unfold sr;rw [OL F,Uv F];cases sg b<;>simp
def Re (hb:b<18446744073709551616):rg b=if 9223372036854775808<=b then b - 9223372036854775808 else b:=by unfold rg;split<;>omega
def H':sr 9218868437227405311=9218868437227405311:=by unfold sr sg rg;rw [dF];simp
def Md:sr 0=0:=by unfold sr sg rg;rw [dF];simp
def Ia:rg 9218868437227405311<=9218868437227405312:=by unfold rg;omega
def Me:rg 0<=9218868437227405312:=by unfold rg;omega
def Gz (x:Bool) (r:Nat):Int:=if 9218868437227405312<r then 1 else if r=9218868437227405312 then (if x then 2 else 7) else if r=0 then (if x then 4 else 5) else if x then 3 else 6
def TY (b:Nat):kd b=Gz (sg b) (rg b):=rfl
def Lw (x:Bool) (r:Nat):Int:=if x then -(r:Int) else r
def TZ (b:Nat):sr b=Lw (sg b) (rg b):=rfl
def ta (x:Bool) (r:Nat):Gz x r=1/\9218868437227405312<r\/Gz x r=2/\Lw x r= -9218868437227405312\/Gz x r=3/\Lw x r<0/\ -9218868437227405312<Lw x r\/Gz x r=4/\r=0/\x=Z'\/Gz x r=5/\r=0/\x=WW\/Gz x r=6/\0<Lw x r/\Lw x r<9218868437227405312\/Gz x r=7/\Lw x r=9218868437227405312:=by
 unfold Gz Lw;cases x
 .simp only [XS,if_false,and_false,or_false,false_or,and_true]
  (repeat' split)<;>omega
 .simp only [Bool.true_eq_false,if_true,and_false,or_false,false_or,and_true]
  (repeat' split)<;>omega
def vc (x y:Int):(Y' (mM x y)==Y' Ordering.gt)=decide (y<x):=by
 unfold mM;split
 .rw [dF];rfl
 .split
  .rw [dF];rfl
  .rw [dT];rfl
def Rf (x y:Int):(Y' (mM x y)==Y' Ordering.lt)=decide (x<y):=by
 unfold mM;split
 .rename_i h;rw [decide_eq_true h];rfl
 .rename_i h;rw [decide_eq_false h];split<;>rfl
def Ib (x y:Int):(Y' (mM x y)==Y' Ordering.eq)=decide (x=y):=by
 unfold mM;split
 .rw [dF];rfl
 .split
  .rename_i h;rw [decide_eq_true h];rfl
  .rename_i h;rw [decide_eq_false h];rfl
def Rg (x y:Int):(Y' (mM x y) !=Y' Ordering.eq)=decide (x≠y):=by
 rw [bne,Ib];simp
structure KF (b:Nat) (k:Int) where
 n:(FloatKind.f64.format.order b b !=Y' .eq)=decide (k=1)
 i:k≠1->(FloatKind.f64.format.order (ng b) 9218868437227405311==Y' .gt)=decide (k=2)
 p:k≠1->(FloatKind.f64.format.order b 9218868437227405311==Y' .gt)=decide (k=7)
 l:k≠1->(FloatKind.f64.format.order b 0==Y' .lt)=decide (k<=3)
 g:k≠1->(FloatKind.f64.format.order b 0==Y' .gt)=decide (6<=k)
 s:k=4\/k=5->sg b=decide (k=4)
 k:k=1\/k=2\/k=3\/k=4\/k=5\/k=6\/k=7
def kf (G:b<18446744073709551616):KF b (kd b):=by
 have hc:=ta (sg b) (rg b);rw [<-TY,<-TZ] at hc;by_cases hn:9218868437227405312<rg b
 .have V:kd b=1:=by unfold kd;rw [if_pos hn]
  rw [V];exact ⟨by rw [Dh (.inl hn)];rfl,λh=>absurd rfl h,λh=>absurd rfl h,λh=>absurd rfl h,λh=>absurd rfl h,λh=>o_,.inl rfl⟩
 .have F:rg b<=9218868437227405312:=o_
  have hz:rg b=0->sr b=0:=by intro h;unfold sr;rw [h];simp
  have o1:=lY G G F F;have o2:=lY (Uu G) (show 9218868437227405311<18446744073709551616 by omega) (by rw [OL G];exact F) Ia;have O:=lY G (show 9218868437227405311<18446744073709551616 by omega) F Ia;have I:=lY G (show 0<18446744073709551616 by omega) F Me;rw [Uw G,H'] at o2;rw [H'] at O;rw [Md] at I;generalize kd b=k at*;generalize rg b=r at*;constructor
  .rw [o1,Rg,decide_eq_decide];omega
  .intro _;rw [o2,vc,decide_eq_decide];omega
  .intro _;rw [O,vc,decide_eq_decide];omega
  .intro _;rw [I,Rf,decide_eq_decide];omega
  .intro _;rw [I,vc,decide_eq_decide];omega
  .intro h
   by_cases U:k=4
   .rw [decide_eq_true U]
    obtain h|h|h|h|h|h|h:=hc<;>first|exact h.2.2|omega
   .rw [decide_eq_false U]
    obtain h|h|h|h|h|h|h:=hc<;>first|exact h.2.2|omega
  .omega
def l2 (I:2^k<=n) (G:n<2^(k+1)):n.log2=k:=by
 have hp:=Xf k;have F:n≠0:=o_;have a:=(Nat.log2_lt F).2 G;have b:=(Nat.le_log2 F).2 I;omega
def wW (Ea:XL) (s:Bool) (n:Nat):Ea.cut s n 0=n:=by
 unfold Xs;simp only [Nat.zero_min,Xi,Nat.div_one,Nat.mod_one];cases Ea<;>cases s<;>simp
def Dc (Ea:XL) (s:Bool) (m c:Nat) (G:0<m):Ea.cut s (m*2^c) c=m:=by
 unfold Xs;have O:=Xf c;have I:m*2^c≠0:=Nat.mul_ne_zero o_ o_;have hl:c<=(m*2^c).log2:=(Nat.le_log2 I).2 (Nat.le_mul_of_pos_left _ G);rw [Nat.min_eq_left o_];simp only [XC,Xz _ O,Nat.mul_mod_left,Nat.mul_zero];cases Ea
 .have F:decide (2^c<0)=WW:=dF
  have U:(2^c==0)=WW:=by rw [beq_eq_false_iff_ne];omega
  simp only [F,U,Bool.false_and,Bool.or_false];rfl
 all_goals cases s<;>simp
def AT (n d:Nat):n/2^min d (n.log2+2)=n/2^d:=by
 by_cases h:d<=n.log2+2
 .rw [Nat.min_eq_left h]
 .rw [Nat.min_eq_right o_]
  have h1:n<2^(n.log2+1):=XZ;have h2:2^(n.log2+1)<=2^(n.log2+2):=Xh o_ o_;have h3:2^(n.log2+2)<=2^d:=Xh o_ o_;rw [Xu o_,Xu o_]
def wX (n d:Nat):Ieee.Toward.down.cut WW n d=n/2^d:=by
 unfold Xs;simp only [XC,Bool.false_and,Ya,Nat.add_zero];exact AT n d
def Hj (n d:Nat):Ieee.Toward.zero.cut WW n d=n/2^d:=by
 unfold Xs;simp only [XC,Ya,Nat.add_zero];exact AT n d
def Up:FloatKind.f64.format.fractionBits=52:=rfl
def bin:FloatKind.f64.format.binade=4503599627370496:=d_
def inf:FloatKind.f64.format.infRung=9218868437227405312:=d_
def least:FloatKind.f64.format.leastPlace= -1074:=d_
def sign:FloatKind.f64.format.signWeight=9223372036854775808:=d_
def wd (s:Bool) (r:Nat):Nat:=if s then 9223372036854775808+r else r
def AW (s:Bool) (r:Nat):FloatKind.f64.format.word s r=wd s r:=by unfold Ieee.Format.word wd;rw [sign]
def Uq (h:r<=9218868437227405312):wd s r<18446744073709551616:=by unfold wd;split<;>omega
def OH (h:r<=9218868437227405312):rg (wd s r)=r:=by unfold wd rg;split<;>omega
def Ur (h:r<=9218868437227405312):sg (wd s r)=s:=by
 unfold wd sg;cases s
 .simp only [XS,if_false];exact dF
 .simp only [if_true];exact dT
def ru (m:Nat) (p:Int):Nat:=(p+1074).toNat*4503599627370496+m
def Ma (s:Bool) (m c:Nat) (p:Int) (F:4503599627370496<=m) (U:m<9007199254740992) (h3: -1074<=p) (h4:p<=900):FloatKind.f64.format.nearest s (m*2^c) (p - c)=wd s (ru m p):=by
 have I:=Xf c;unfold XN;rw [if_neg (Nat.mul_ne_zero o_ o_),AW,Up,bin,inf,least];have O:(m*2^c).log2=52+c:=by
  apply l2
  .rw [Xk];exact Xw _ F
  .rw [show 52+c+1=53+c by omega,Xk];exact Xq U I
 rw [O];have G:max (p - (c:Int)+((52+c:Nat):Int) - ((52:Nat):Int)) (-1074)=p:=o_;rw [G,show (p - (c:Int) - p).toNat=0 by omega,show (p - (p - (c:Int))).toNat=c by omega,Xi,Dc _ _ _ _ o_]
 congr 1
 unfold ru;rw [show (p - -1074).toNat=(p+1074).toNat by omega];omega
def Dd (s:Bool) (n c:Nat) (p:Int) (F:4503599627370496<=n*2^c) (V:n*2^c<9007199254740992) (h3: -1074<=p) (h4:p<=900):FloatKind.f64.format.nearest s n (p+c)=wd s (ru (n*2^c) p):=by
 have O:=Xf c;have G:n≠0:=by rintro rfl;omega
 have hc:c<=52:=by
  by_cases hc:c<=52
  .exact hc
  .exfalso
   have:2^53<=2^c:=Xh o_ o_;have:1*2^c<=n*2^c:=Xw _ o_;omega
 unfold XN;rw [if_neg G,AW,Up,bin,inf,least];have U:n.log2=52 - c:=by
  apply l2
  .apply Nat.le_of_mul_le_mul_right _ O
   rw [<-Xk,Xo hc];exact F
  .apply Nat.lt_of_mul_lt_mul_right (a:=2^c)
   rw [<-Xk,show 52 - c+1+c=53 by omega];exact V
 rw [U];have I:max (p+(c:Int)+((52 - c:Nat):Int) - ((52:Nat):Int)) (-1074)=p:=o_;rw [I,show (p+(c:Int) - p).toNat=c by omega,show (p - (p+(c:Int))).toNat=0 by omega,wW,XE]
 congr 1
 unfold ru;rw [show (p - -1074).toNat=(p+1074).toNat by omega];omega
def Us {p:Int} (h2:m<9007199254740992) (h4:p<=900):ru m p<9218868437227405312:=by unfold ru;omega
def Mb (s:Bool) (m:Nat) (p:Int) (h1:4503599627370496<=m) (O:m<9007199254740992) (h3: -1074<=p) (I:p<=900):FloatKind.f64.format.read (wd s (ru m p))= .number s m p:=by
 have F:=Us O I;rw [lX (Uq (XG F)) (by rw [OH (XG F)];exact F),OH (XG F),Ur (XG F)];unfold Mc pl;have G: ¬ru m p<4503599627370496:=by unfold ru;omega
 rw [if_neg G,if_neg G]
 congr 1
 .unfold ru;omega
 .unfold ru;omega
def norm (h0:0<n) (h:n<9007199254740992): ∃q,q<=52/\4503599627370496<=n*2^q/\n*2^q<9007199254740992:=by
 have hn:n≠0:=o_;have hl:n.log2<53:=(Nat.log2_lt hn).2 h;refine ⟨52 - n.log2,o_,?_,?_⟩
 .have:=Nat.log2_self_le hn
  calc 4503599627370496=2^n.log2*2^(52 - n.log2):=by rw [<-Xk,show n.log2+(52 - n.log2)=52 by omega]
   _<=n*2^(52 - n.log2):=Xw _ this
 .have:n<2^(n.log2+1):=XZ
  calc n*2^(52 - n.log2)<2^(n.log2+1)*2^(52 - n.log2):=Xq this (Xf _)
   _=9007199254740992:=by rw [<-Xk,show n.log2+1+(52 - n.log2)=53 by omega]
def fl (r:Nat):Nat:=(4503599627370496+r%4503599627370496)*2^(r/4503599627370496)/2^1075
def pw (c e M:Nat) (h:e<=c):M*2^e/2^c=M/2^(c - e):=by
 have:(2:Nat)^c=2^(c - e)*2^e:=by rw [<-Xk,Xo h]
 rw [this,Nat.mul_div_mul_right _ _ (Xf e)]
def WI (c e M:Nat) (h:c<=e):M*2^e/2^c=M*2^(e - c):=by
 have:(2:Nat)^e=2^(e - c)*2^c:=by rw [<-Xk,Xo h]
 rw [this,<-XO,Xz _ (Xf _)]
def uW (h:r/4503599627370496<=1075):fl r=(4503599627370496+r%4503599627370496)/2^(1075 - r/4503599627370496):=pw 1075 _ _ h
def uX (h:1075<=r/4503599627370496):fl r=(4503599627370496+r%4503599627370496)*2^(r/4503599627370496 - 1075):=WI 1075 _ _ h
def Rb (h:r/4503599627370496<1023):fl r=0:=by
 rw [uW o_];apply Xu;have:(2:Nat)^53<=2^(1075 - r/4503599627370496):=Xh o_ o_;exact Nat.lt_of_lt_of_le (show _<(2:Nat)^53 by omega) this
def OI (h:r<4890909195324358656):fl r<9223372036854775808:=by
 by_cases F:1075<=r/4503599627370496
 .rw [uX F]
  have:(2:Nat)^(r/4503599627370496 - 1075)<=2^10:=Xh o_ o_
  calc _<=(4503599627370496+r%4503599627370496)*2^10:=Nat.mul_le_mul_left _ this
   _<9223372036854775808:=o_
 .rw [uW o_]
  exact XR (Nat.div_le_self _ _) o_
def Hn {p:Int} (h1:4503599627370496<=m) (h2:m<9007199254740992) (h3: -1074<=p):fl (ru m p)=if p<0 then m/2^(-p).toNat else m*2^p.toNat:=by
 have F:ru m p/4503599627370496=(p+1075).toNat:=by unfold ru;omega
 have G:4503599627370496+ru m p%4503599627370496=m:=by unfold ru;omega
 split
 .rw [uW o_,F,G,show 1075 - (p+1075).toNat=(-p).toNat by omega]
 .rw [uX o_,F,G,show (p+1075).toNat - 1075=p.toNat by omega]
def Ho (Ea:XL) (G:Ea= .down\/Ea= .zero) {p:Int} (F:4503599627370496<=m) (I:m<9007199254740992) (O: -1074<=p):Xm Ea (.number WW m p)= .number WW (fl (ru m p)) 0:=by
 unfold Xm
 dsimp only
 congr 1
 rw [Hn F I O];split
 .rw [show p.toNat=0 by omega,Xi]
  obtain rfl|rfl:=G
  .exact wX _ _
  .exact Hj _ _
 .rw [show (-p).toNat=0 by omega,wW,XE]
def Ht (Ea:XL) (s:Bool) (p:Int) (hp:p<=0):Xm Ea (.number s 0 p)= .number s 0 0:=by
 unfold Xm
 dsimp only
 congr 1
 rw [show p.toNat=0 by omega,Xi];unfold Xs;cases Ea<;>cases s<;>simp
def whole (n:Nat):Nat:=FloatKind.f64.encode (.number WW n 0)
structure Ex (n:Nat):Prop where
 z:n=0\/ ∃m p,4503599627370496<=m/\m<9007199254740992/\ -1074<=p/\p<=900/\whole n=ru m p/\fl (ru m p)=n
def Hu (h:n<9007199254740992):Ex n:=by
 refine ⟨?_⟩;obtain F|F:=Nat.eq_zero_or_pos n
 .exact .inl F
 .right
  let ⟨q,hq,a,b⟩:=norm F h;refine ⟨n*2^q,-(q:Int),a,b,o_,o_,?_,?_⟩
  .have:=Dd WW n q (-(q:Int)) a b o_ o_
   rw [show -(q:Int)+q=0 by omega] at this;exact this
  .rw [Hn a b o_]
   split
   .rw [show (- -(q:Int)).toNat=q by omega,Xz _ (Xf q)]
   .obtain rfl:q=0:=o_
    simp
def Rc {p:Nat} (F:4503599627370496<=m) (G:m<9007199254740992) (h4:p<=900):Ex (m*2^p):=by
 refine ⟨.inr ⟨m,p,F,G,o_,o_,?_,?_⟩⟩
 .have:=Ma WW m p (p:Int) F G o_ o_
  rw [show (p:Int) - p=0 by omega] at this;exact this
 .rw [Hn F G o_,if_neg o_]
  rfl
def yS:whole 0=0:=d_
def De:FloatKind.f64.format.read 0= .number WW 0 (-1074):=d_
def Ut (h:r<4890909195324358656):Ex (fl r):=by
 by_cases F:1075<=r/4503599627370496
 .rw [uX F]
  exact Rc o_ o_ o_
 .rw [uW o_]
  exact Hu (XR (Nat.div_le_self _ _) o_)
def back (h:Ex n) (hn:n<9223372036854775808):floatToIntVal .f64 (whole n) .i64=Y' (n:Int):=by
 have F:IntKind.i64.min= -9223372036854775808:=d_;have G:IntKind.i64.max=9223372036854775807:=d_;have key:(FloatKind.f64.decode (whole n)).toInt .zero=Y' (n:Int):=by
  unfold Ieee.Datum.toInt;obtain rfl|⟨m,p,a,b,c,d,e,f⟩:=h.z
  .rw [yS]
   rw [show FloatKind.f64.decode 0= .number WW 0 (-1074) from De,Ht _ _ _ o_];rfl
  .have I:FloatKind.f64.decode (whole n)= .number WW m p:=by
    rw [e];exact Mb WW m p a b c d
   rw [I,Ho _ (.inr rfl) a b c,f]
   dsimp only
   unfold Yb;rw [Xi];rfl
 unfold floatToIntVal;rw [key,F,G]
 dsimp only
 rw [if_pos o_]
def Df (G:b<9218868437227405312):FloatKind.f64.encode ((FloatKind.f64.decode b).integral .down)=whole (fl b):=by
 refine OJ ?_;intro F hs e;rw [e];unfold whole
 congr 1
 unfold Mc pl;by_cases h:b<4503599627370496
 .rw [if_pos h,if_pos h]
  unfold Xm
  dsimp only
  congr 1
  rw [Rb o_,show ((-1074+((0:Nat):Int)).toNat)=0 by omega,Xi,wX];apply Xu;have:(2:Nat)^52<=2^(-(-1074+((0:Nat):Int))).toNat:=Xh o_ o_;omega
 .rw [if_neg h,if_neg h,Ho _ (.inl rfl) o_ o_ o_]
  congr 2
  unfold ru;omega
def rdv (b:Nat):Int:=if kd b<=5 then 0 else if 4890909195324358656<=rg b then 9223372036854775807 else fl (rg b)
def jd (b:Nat):0<=rdv b:=by unfold rdv;(repeat' split)<;>omega
def pb (b:Nat):rdv b<=9223372036854775807:=by
 unfold rdv;split
 .omega
 .split
  .omega
  .have:= @OI (rg b) o_
   omega
def rk (b:Nat):Int:=if kd b=1 then 9223372036854775807 else if sg b then -(rg b:Int) - 1 else rg b
end Fl
end
section
open _root_.Go.Proofs.Tryz
namespace Fl
def Vm (b:Nat) (w:WX):(callFunc 385 #[.float .f64 b]).run Xc w= .ok (.value (.int .u64 b)) w:=by
 rw [run_callFunc_extern func385 k_ k_ k_ (e:=Extern.MathFloatBits.float64bits) k_];rfl
def DS (b:Nat) (w:WX) (hb:b<18446744073709551616):WZ Xc 356 #[.float .f64 b] w λe w'=>e=R_ (B_ (sg b))/\w=w':=by
 have fb:=Vm;have d:decide (wrap64 (b:Int)<0)=sg b:=by
  unfold sg wrap64;rw [decide_eq_decide];omega
 generalize sg b=s at*;go_enter func356,ntmps356;exact lH
def Nw (b:Nat) (w:WX) (r:Bool) (h:(FloatKind.f64.format.order b 9218868437227405311==Y' .gt)=r):WZ Xc 355 #[.float .f64 b,I_ J_ 1] w λe w'=>e=R_ (B_ r)/\w=w':=by
 go_enter func355,ntmps355;exact lH
def Je (b:Nat) (w:WX) (r:Bool) (h:(FloatKind.f64.format.order (ng b) 9218868437227405311==Y' .gt)=r):WZ Xc 355 #[.float .f64 b,I_ J_ (-1)] w λe w'=>e=R_ (B_ r)/\w=w':=by
 have F:Op.unary .neg (.float .f64 b)=(pure (.float .f64 (ng b)):Sem WY):=rfl;go_enter func355,ntmps355;exact lH
def Sn (b:Nat) (w:WX) (V:b<18446744073709551616):WZ Xc 299 #[.float .f64 b] w λe w'=>e=R_ (I_ J_ (kd b))/\w=w':=by
 let ⟨n,i,p,l,g,s,F⟩:=kf V;have G:Xb (∀(r:Bool),(FloatKind.f64.format.order b 9218868437227405311==Y' .gt)=r-> ∀w,WZ Xc 355 #[.float .f64 b,I_ J_ 1] w λe w'=>e=R_ (B_ r)/\w=w'):=λr h w=>Nw b w r h
 have hn:Xb (∀(r:Bool),(FloatKind.f64.format.order (ng b) 9218868437227405311==Y' .gt)=r-> ∀w,WZ Xc 355 #[.float .f64 b,I_ J_ (-1)] w λe w'=>e=R_ (B_ r)/\w=w'):=λr h w=>Je b w r h
 have hs:Xb (∀w,WZ Xc 356 #[.float .f64 b] w λe w'=>e=R_ (B_ (sg b))/\w=w'):=λw=>DS b w V
 obtain F|F|F|F|F|F|F:=F
 .rw [F] at n |-
  simp only [decide_true] at n;clear i p l g s;go_enter func299,ntmps299;exact lH
 all_goals
  rw [F] at n i p l g s |-;have i:=hn _ (i d_);have p:=G _ (p d_);have l:=l d_;have g:=g d_;have O:=Hd i;have I:=Hd p;have U:Xb ((_:Int)=4\/(_:Int)=5->sg b=decide ((_:Int)=4)):=s;clear i p s G hn F;simp at n l g;go_enter func299,ntmps299;go_wp2_with fail;refine (O _).mono ?_;rintro e w' ⟨rfl,rfl⟩;clear O;go_wp2_with fail
  try (go_ret;exact ⟨rfl,rfl⟩)
  try (refine (I _).mono ?_;rintro e w' ⟨rfl,rfl⟩;clear I;go_wp2_with fail)
  try (go_ret;exact ⟨rfl,rfl⟩)
  try (refine (hs _).mono ?_;rintro e w' ⟨rfl,rfl⟩;rw [U.o d_];clear U;go_wp2_with fail)
  try (go_ret;exact ⟨rfl,rfl⟩)
end Fl
end
end Go.Proofs.YtkidababfdehlaaGreatDoor
