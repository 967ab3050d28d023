/- Parts of the walk. -/
import Derived.Test.YtkidababfdehlaaGreatDoorQAd
set_option linter.all false
set_option maxRecDepth 100000
set_option maxHeartbeats 64000000
namespace Go.Proofs.YtkidababfdehlaaGreatDoor
open Value renaming int -> I_,bool -> B_,string -> T_,slice -> S_,pointer -> P_,tuple -> U_,agg -> A_
open IntKind renaming i64 -> J_
open Ending renaming returned -> R_
open Bool renaming true -> X_,false -> Y_,false_and -> Xa,true_and -> Xb,or_false -> Xc
open Go renaming Calls -> Y'
open List renaming drop_eq_getElem_cons -> Z_
open Mem.c_ renaming new -> Z'
open Go.World renaming drew -> WW,size_alloc -> WY
open Mem renaming ei -> WX,c_ -> Xd,ew -> Xh
open dm renaming start -> WZ,skip -> Xe,fi -> Xi
open dA renaming me -> Xf
open dA.me renaming drew -> Xg
variable {x y:Bool} {F e s:Int} {dD:List dA} {k:Nat} {q:Prop}
section
open _root_.Go.Proofs.Tryz Tryz Go.RowKit
namespace gu
def kS (cap s:Int):List dA->List Bool->Int->Int
 |t::ts,b::bs,e=>kS cap s ts bs (if b=X_/\t.sig=s then max e (kD t cap) else e)
 |_,_,e=>e
def pR:List dA->List Bool->Bool->Bool->Bool->Bool×Bool×Bool
 |t::ts,b::bs,x,y,z=>pR ts bs (x||(decide (t.sig=0)&&b)) (y||(decide (t.sig=1)&&b)) (z||(decide (t.sig=2)&&b))
 |_,_,x,y,z=>(x,y,z)
def nh {bs:List Bool} (h:k<dD.length) (G:k<bs.length):
  kS F s (dD.drop k) (bs.drop k) e=kS F s (dD.drop (k+1)) (bs.drop (k+1)) (if bs[k]=X_/\dD[k].sig=s then max e (kD dD[k] F) else e):=by
 rw [Z_ h,Z_ G,kS]
def CM {z:Bool} {bs:List Bool} (h:k<dD.length) (F:k<bs.length):
  pR (dD.drop k) (bs.drop k) x y z=pR (dD.drop (k+1)) (bs.drop (k+1)) (x||(decide (dD[k].sig=0)&&bs[k])) (y||(decide (dD[k].sig=1)&&bs[k])) (z||(decide (dD[k].sig=2)&&bs[k])):=by
 rw [Z_ h,Z_ F,pR]
def LC (F:Bool×Bool×Bool) (W:World) (e:Ending) (w':World):Prop:=e=R_ (A_ #[B_ F.1,B_ F.2.1,B_ F.2.2])/\Bw W w'
def GH {p:Prop} (k:q) (h:Wq q->p:=by
 intro kq;have X0:Mem.c_ X (w.heap.size+1) 32 #[B_ false,B_ false,B_ false]:=by rw [hX];exact B0.alloc.drew
 have X1:Mem.c_ X (w.heap.size+1+1) 32 #[x,y,z]:=by rw [hX];exact B1.alloc.drew
 revert X0 X1
 exact kq.o):p:=h ⟨k⟩
def te {p:Prop} (k:q) (h:Wq q->p:=by
 intro kq;refine dm.th 1 V (u_ 6 7) ?_;refine dm.on 13 0 ?_;exact kq.o):p:=h ⟨k⟩
def GI {p:Prop} (h:p:=by
 exact ⟨Mem.ml (Mem.fo au),T0.cell 0⟩):p:=h
def mC (p:ef) (dD:List dA) (S:Option Addr) (sc:Nat) (bs:List Bool) (w:World) (hp:p.ok w w.heap.size dD) (hn:p.n<=1000000) (hr: ∀t∈dD,fR t)
  (hb:Mem.Sl w w.heap.size 1 S p.n (bs.map Value.bool)):
  Y' prog 106 #[A_ p.arr,S_ S p.n sc] w (LC (pR dD bs Y_ Y_ Y_) w):=by
 have aB:=hp.len;have aw:=hp.sl;have aO:bs.length=p.n:=by have:=hb.1;simpa using this
 have Hr:=Hd hr;clear hp hr;let ⟨F,hF⟩:=nm (pR dD bs Y_ Y_ Y_);rw [<-hF];have HF:=hF.symm;clear hF;obtain ⟨k0,k1,k2,a0,a1,a2,A,n,c,az,ax,aA,dead⟩:=p;unfold ef.arr
 dsimp only at hn aB aw hb aO |-
 go_enter func106,ntmps106;go_wp2;go_loopw [11] (λvi wr=> ∃(k:Nat) (x y z:Bool),k<=n/\vi=I_ J_ k/\Bw w wr/\w.heap.size+3<=wr.heap.size/\Xd wr (w.heap.size+1) 32 #[B_ Y_,B_ Y_,B_ Y_]/\Xd wr (w.heap.size+1+1) 32 #[x,y,z]/\Hid (pR (dD.drop k) (bs.drop k) x y z=F)) (λi _=>n - (intOf i).toNat)
 .refine ⟨0,Y_,Y_,Y_,o_,rfl,((dL).alloc y_ _).alloc w_ _,by simp,?_,?_,HF⟩
  .have q:=(Z' (w:=w.alloc (.cells #[k0,k1,k2,a0,a1,a2,S_ A n c,az,ax,aA,dead] 25)) (t:=32) (cs:= #[B_ Y_,B_ Y_,B_ Y_])).alloc (o:= .cells #[B_ Y_,B_ Y_,B_ Y_] 32)
   rw [WY] at q;exact q
  .have q:=Z' (w:=(w.alloc (.cells #[k0,k1,k2,a0,a1,a2,S_ A n c,az,ax,aA,dead] 25)).alloc (.cells #[B_ Y_,B_ Y_,B_ Y_] 32)) (t:=32) (cs:= #[B_ Y_,B_ Y_,B_ Y_])
   rw [WY,WY] at q;exact q
 .clear HF
  obtain ⟨k,x,y,z,hk,rfl,ae,hz,B0,B1,HF⟩:=hrel;by_cases aD:k<n
  .obtain ⟨ad,ay,rfl,_,hbk,aL⟩:=dA.at_ (aw.below ae) aD
   obtain ⟨ah,aN,rfl,hb2,au⟩:=oo (hb.below ae) aD;have ap:=Hr _ (g_ ay);have aM:=ap.s0;have aJ:=ap.s2;have an:=HF.o;rw [CM ay aN] at an;have ab:=Hd an;clear an HF ap;generalize dD[k]=t at*;generalize bs[k]=b at*;obtain ⟨ar,ac,af,U,I⟩:=t;obtain ⟨c0,c1,c2,c3,c4⟩:=aL
   dsimp only at c0 c1 c2 c3 c4 aM aJ ab
   have aI:ar=0\/ar=1\/ar=2:=o_;obtain rfl|rfl|rfl:=aI
   .simp only [decide_true,Xb,decide_false,Xa,Xc,show ((0:Int)=1)=False from by simp,show ((0:Int)=2)=False from by simp,show ((1:Int)=0)=False from by simp,show ((1:Int)=2)=False from by simp,show ((2:Int)=0)=False from by simp,show ((2:Int)=1)=False from by simp] at ab
    go_wp2_with fail;clear c0 c1 c2 c3 c4;let ⟨X,hX⟩:=nm (WW (wr.alloc (.cells #[I_ J_ 0,ac,af,U,I] 92)));refine sh ?_;intro LX zX;refine GH ?_;intro X0 X1;have V:(λw'=>w'.cell? (ah.add k)=some (B_ b)/\C w' (wr.heap.size) 0 (I_ J_ 0)) X:=by
     rw [hX];have T0:Xd (wr.alloc (.cells #[I_ J_ 0,ac,af,U,I] 92)) wr.heap.size 92 #[I_ J_ 0,ac,af,U,I]:=Z';exact GI
    have xc:=c0 X1;have xf:=X1.frozen;refine WZ (S:=(λw'=>w'.cell? (ah.add k)=some (B_ b)/\C w' (wr.heap.size) 0 (I_ J_ 0))) k_ ?_;rw [<-hX];clear hX B0 B1;refine dm.th 9 V (u_ 0 5) ?_;refine dm.on 5 8 ?_;refine dm.val rfl rfl (v:=B_ x) (w':=X) f_ V ?_;cases x with
    |true=>
     refine te ?_;refine Xe rfl rfl (w':=X.setCell ⟨w.heap.size+1+1,0,none⟩ (B_ X_)) f_ ⟨WX (by simp [Xh];omega) V.1,WX z_ V.2⟩ ?_;refine Xi ?_;go_wp2;go_roundw
     .refine ⟨k+1,X_,y,z,o_,by go_num,LX.setCell w_ _,by simp<;>omega,X0.fA y_,?_,?_⟩
      .have q:=X1.eC 0 (B_ X_)
       simpa using q
      .simpa using ab
     .simp [intOf];omega
    |false=>
     refine te ?_;refine Xe rfl rfl (w':=X.setCell ⟨w.heap.size+1+1,0,none⟩ (B_ b)) f_ ⟨WX (by simp [Xh];omega) V.1,WX z_ V.2⟩ ?_;refine Xi ?_;go_wp2;go_roundw
     .refine ⟨k+1,b,y,z,o_,by go_num,LX.setCell w_ _,by simp<;>omega,X0.fA y_,?_,?_⟩
      .have q:=X1.eC 0 (B_ b)
       simpa using q
      .simpa using ab
     .simp [intOf];omega
   .simp only [decide_true,Xb,decide_false,Xa,Xc,show ((0:Int)=1)=False from by simp,show ((0:Int)=2)=False from by simp,show ((1:Int)=0)=False from by simp,show ((1:Int)=2)=False from by simp,show ((2:Int)=0)=False from by simp,show ((2:Int)=1)=False from by simp] at ab
    go_wp2_with fail;clear c0 c1 c2 c3 c4;let ⟨X,hX⟩:=nm (WW (wr.alloc (.cells #[I_ J_ 1,ac,af,U,I] 92)));refine sh ?_;intro LX zX;refine GH ?_;intro X0 X1;have V:(λw'=>w'.cell? (ah.add k)=some (B_ b)/\C w' (wr.heap.size) 0 (I_ J_ 1)) X:=by
     rw [hX];have T0:Xd (wr.alloc (.cells #[I_ J_ 1,ac,af,U,I] 92)) wr.heap.size 92 #[I_ J_ 1,ac,af,U,I]:=Z';exact GI
    have xc:=c1 X1;have xf:=X1.frozen;refine WZ (S:=(λw'=>w'.cell? (ah.add k)=some (B_ b)/\C w' (wr.heap.size) 0 (I_ J_ 1))) k_ ?_;rw [<-hX];clear hX B0 B1;refine dm.th 9 V (u_ 0 5) ?_;refine dm.on 5 8 ?_;refine dm.val rfl rfl (v:=B_ y) (w':=X) f_ V ?_;cases y with
    |true=>
     refine te ?_;refine Xe rfl rfl (w':=X.setCell ⟨w.heap.size+1+1,1,none⟩ (B_ X_)) f_ ⟨WX (by simp [Xh];omega) V.1,WX z_ V.2⟩ ?_;refine Xi ?_;go_wp2;go_roundw
     .refine ⟨k+1,x,X_,z,o_,by go_num,LX.setCell w_ _,by simp<;>omega,X0.fA y_,?_,?_⟩
      .have q:=X1.eC 1 (B_ X_)
       simpa using q
      .simpa using ab
     .simp [intOf];omega
    |false=>
     refine te ?_;refine Xe rfl rfl (w':=X.setCell ⟨w.heap.size+1+1,1,none⟩ (B_ b)) f_ ⟨WX (by simp [Xh];omega) V.1,WX z_ V.2⟩ ?_;refine Xi ?_;go_wp2;go_roundw
     .refine ⟨k+1,x,b,z,o_,by go_num,LX.setCell w_ _,by simp<;>omega,X0.fA y_,?_,?_⟩
      .have q:=X1.eC 1 (B_ b)
       simpa using q
      .simpa using ab
     .simp [intOf];omega
   .simp only [decide_true,Xb,decide_false,Xa,Xc,show ((0:Int)=1)=False from by simp,show ((0:Int)=2)=False from by simp,show ((1:Int)=0)=False from by simp,show ((1:Int)=2)=False from by simp,show ((2:Int)=0)=False from by simp,show ((2:Int)=1)=False from by simp] at ab
    go_wp2_with fail;clear c0 c1 c2 c3 c4;let ⟨X,hX⟩:=nm (WW (wr.alloc (.cells #[I_ J_ 2,ac,af,U,I] 92)));refine sh ?_;intro LX zX;refine GH ?_;intro X0 X1;have V:(λw'=>w'.cell? (ah.add k)=some (B_ b)/\C w' (wr.heap.size) 0 (I_ J_ 2)) X:=by
     rw [hX];have T0:Xd (wr.alloc (.cells #[I_ J_ 2,ac,af,U,I] 92)) wr.heap.size 92 #[I_ J_ 2,ac,af,U,I]:=Z';exact GI
    have xc:=c2 X1;have xf:=X1.frozen;refine WZ (S:=(λw'=>w'.cell? (ah.add k)=some (B_ b)/\C w' (wr.heap.size) 0 (I_ J_ 2))) k_ ?_;rw [<-hX];clear hX B0 B1;refine dm.th 9 V (u_ 0 5) ?_;refine dm.on 5 8 ?_;refine dm.val rfl rfl (v:=B_ z) (w':=X) f_ V ?_;cases z with
    |true=>
     refine te ?_;refine Xe rfl rfl (w':=X.setCell ⟨w.heap.size+1+1,2,none⟩ (B_ X_)) f_ ⟨WX (by simp [Xh];omega) V.1,WX z_ V.2⟩ ?_;refine Xi ?_;go_wp2;go_roundw
     .refine ⟨k+1,x,y,X_,o_,by go_num,LX.setCell w_ _,by simp<;>omega,X0.fA y_,?_,?_⟩
      .have q:=X1.eC 2 (B_ X_)
       simpa using q
      .simpa using ab
     .simp [intOf];omega
    |false=>
     refine te ?_;refine Xe rfl rfl (w':=X.setCell ⟨w.heap.size+1+1,2,none⟩ (B_ b)) f_ ⟨WX (by simp [Xh];omega) V.1,WX z_ V.2⟩ ?_;refine Xi ?_;go_wp2;go_roundw
     .refine ⟨k+1,x,y,b,o_,by go_num,LX.setCell w_ _,by simp<;>omega,X0.fA y_,?_,?_⟩
      .have q:=X1.eC 2 (B_ b)
       simpa using q
      .simpa using ab
     .simp [intOf];omega
  .obtain rfl:k=n:=o_
   have aK:(x,y,z)=F:=by
    have q:=HF.o;rw [List.drop_eq_nil_of_le o_] at q;simpa [pR] using q
   subst aK;obtain ⟨j0,j1,j2,-⟩:=kA B0;obtain ⟨i0,i1,i2,-⟩:=kA B1;have jf:=B0.frozen;go_wp2;refine bodyPost_ret (v:=A_ #[x,y,z]) (by simp [*,results,results106,go_sem]) rfl ⟨rfl,((ae.setCell y_ _).setCell y_ _).setCell y_ _⟩
def VY {p:Prop} (h:p:=by
 refine ⟨_,rfl,S2,?_⟩;have ao:E<e\/e<=E:=o_;obtain hq|hq:=ao
 .have ag:max e E=e:=o_
  have HM:=Hd ag;clear ag;refine dm.tk 0 S2 [7,8] ?_
  iterate 2 (refine dm.dG rfl (λK' G=>?_);go_simp;(first|refine G _ ?_|constructor;refine ⟨λwx aa=>?_,G _ ?_⟩;(first|rfl|(have V:=aa;intro fb;have g0:=dA.me.c0 V;have g1:=dA.me.c1 V;have g2:=dA.me.c2 V;have g3:=dA.me.c3 V;have g4:=dA.me.c4 V;dsimp only at g0 g1 g2 g3 g4;go_simp<;>rfl)));clear G K')
  refine dm.df ?_;go_wp2_with fail
  all_goals
   go_roundw
   .exact ⟨k+1,_,o_,by go_num,rfl,L2,z2,B2,by show _=_;have q:=ah.o;have al:(if e<E then E else e)=e:=(by split<;>omega);simp only [al];simpa [HM.o] using q⟩
   .simp [intOf];omega
 .have ag:max e E=E:=o_
  have HM:=Hd ag;clear ag;refine dm.tk 0 S2 [7,8] ?_
  iterate 2 (refine dm.dG rfl (λK' G=>?_);go_simp;(first|refine G _ ?_|constructor;refine ⟨λwx aa=>?_,G _ ?_⟩;(first|rfl|(have V:=aa;intro fb;have g0:=dA.me.c0 V;have g1:=dA.me.c1 V;have g2:=dA.me.c2 V;have g3:=dA.me.c3 V;have g4:=dA.me.c4 V;dsimp only at g0 g1 g2 g3 g4;go_simp<;>rfl)));clear G K')
  refine dm.df ?_;go_wp2_with fail
  all_goals
   go_roundw
   .exact ⟨k+1,_,o_,by go_num,rfl,L2,z2,B2,by show _=_;have q:=ah.o;have al:(if e<E then E else e)=E:=(by split<;>omega);simp only [al];simpa [HM.o] using q⟩
   .simp [intOf];omega):p:=h
def QL {p:Prop} (k:q) (h:Wq q->p:=by
 intro kq;rw [<-hX];refine dm.tk 3 SX (u_ 0 6) ?_
 iterate 6 (refine dm.dG rfl (λK' G=>?_);go_simp;(first|refine G _ ?_|constructor;refine ⟨λwx aa=>?_,G _ ?_⟩;(first|rfl|(have V:=aa;intro fb;have g0:=dA.me.c0 V;have g1:=dA.me.c1 V;have g2:=dA.me.c2 V;have g3:=dA.me.c3 V;have g4:=dA.me.c4 V;dsimp only at g0 g1 g2 g3 g4;go_simp<;>rfl)));clear G K')
 refine dm.dn 6 2 ?_;refine dm.cl ?_;refine (ab _).mono ?_;rintro e1 w2 ⟨rfl,O⟩;have L2:=LX.trans (O.mono LX.size);have z2:w.heap.size+1<=w2.heap.size:=by have:=O.size;omega
 have B2:=BX.a_ O
 revert w2 O L2 z2 B2
 exact kq.o):p:=h ⟨k⟩
def QM {p:Prop} (h:p:=by
 have Hq:=Hd hq;clear hq;go_wp2_with fail;go_roundw
 .exact ⟨k+1,e,o_,by go_num,rfl,ae.alloc ae.size _,by simp<;>omega,B0.alloc,by show _=_;have q:=ah.o;simpa [Hq.o] using q⟩
 .simp [intOf];omega):p:=h
def GJ {p:Prop} (h:p:=by
 go_wp2_with fail;go_roundw
 .exact ⟨k+1,e,o_,by go_num,rfl,ae.alloc ae.size _,by simp<;>omega,B0.alloc,by show _=_;have q:=ah.o;simpa using q⟩
 .simp [intOf];omega):p:=h
def GK {p:Prop} (h:p:=by
 obtain rfl:k=n:=o_;have aG:e=F:=by
  have q:=HF.o;rw [List.drop_eq_nil_of_le o_] at q;simpa [kS] using q
 subst aG;go_wp2_with fail;go_ret;exact ⟨rfl,ae⟩):p:=h
def GL {p:Prop} (k:q) (h:Wq q->p:=by
 intro kq;have aS:World.cell? (wr.alloc (.cells #[ai,ac,af,U,I] 92)) (aE.add k)=some (B_ b):=Mem.fo aJ
 revert aS
 exact kq.o):p:=h ⟨k⟩
def GM {p:Prop} (h:p:=by
 exact ⟨0,0,o_,rfl,rfl,dL,by simp,Mem.c_.new,HF⟩):p:=h
def QN (p:ef) (dD:List dA) (S:Option Addr) (sc:Nat) (bs:List Bool) (s:Int) (w:World) (hp:p.ok w w.heap.size dD) (hn:p.n<=1000000) (hs:s=0\/s=1\/s=2)
  (hb:Mem.Sl w w.heap.size 1 S p.n (bs.map Value.bool)):
  Y' prog 115 #[A_ p.arr,S_ S p.n sc,s] w λe w'=>e=R_ (I_ J_ (kS (iY p.c0 p.c1 p.c2 s) s dD bs 0))/\Bw w w':=by
 have aB:=hp.len;have aw:=hp.sl;have aO:bs.length=p.n:=by have:=hb.1;simpa using this
 have aT:=Hd hp.each;have aM:dA.ia (iY p.c0 p.c1 p.c2 s):=by
  unfold iY;split
  .exact hp.c0
  .split
   .exact hp.c1
   .exact hp.c2
 have ak:=Hd aM;have a9:Hid (iY p.c0 p.c1 p.c2 s=iY p.c0 p.c1 p.c2 s):=rfl;clear hp aM;let ⟨F,hF⟩:=nm (kS (iY p.c0 p.c1 p.c2 s) s dD bs 0);rw [<-hF];have HF:=hF.symm;clear hF;obtain ⟨k0,k1,k2,a0,a1,a2,A,n,c,az,ax,aA,dead⟩:=p;unfold ef.arr
 dsimp only at hn aB aw hb aO HF ak a9 |-
 obtain rfl|rfl|rfl:=hs
 .have ap:Hid (iY k0 k1 k2 0=k0):=by show _=_;simp [iY]
  rw [ap.o] at HF ak;go_enter func115,ntmps115;go_wp2;go_loopw [7,13] (λve vi wr=> ∃(k:Nat) (e:Int),k<=n/\vi=I_ J_ k/\ve=I_ J_ e/\Bw w wr/\w.heap.size+1<=wr.heap.size/\Xd wr w.heap.size 25 #[k0,k1,k2,a0,a1,a2,S_ A n c,az,ax,aA,dead]/\Hid (kS k0 0 (dD.drop k) (bs.drop k) e=F)) (λ_ i _=>n - (intOf i).toNat)
  .exact GM
  .clear HF
   obtain ⟨k,e,hk,rfl,rfl,ae,hz,B0,HF⟩:=hrel;by_cases an:k<n
   .have m0:=c0 B0
    let ⟨ad,ay,hA,_,a5,aI⟩:=dA.at_ (aw.below ae) an;obtain ⟨aE,aK,rfl,O,aJ⟩:=oo (hb.below ae) an;have ab:Hid (∀w,Y' prog 171 #[A_ dD[k].arr,k0] w λe w'=>e=R_ (I_ J_ (kD dD[k] k0))/\Bw w w'):=λw=>uP dD[k] k0 w (aT _ (g_ ay)) ak
    have am:=HF.o;rw [nh ay aK] at am;have ah:=Hd am;clear am HF;subst hA;generalize dD[k]=t at*;generalize bs[k]=b at*;generalize kD t k0=E at*;obtain ⟨ai,ac,af,U,I⟩:=t;unfold dA.arr at ab;obtain ⟨c0,c1,c2,c3,c4⟩:=aI
    dsimp only at c0 c1 c2 c3 c4 ah ab
    refine GL ?_;intro aS;have ao:b=Y_\/b=X_/\(ai≠0\/ai=0):=by cases b<;>simp<;>omega
    obtain rfl|⟨rfl,hq|hq⟩:=ao
    .exact GJ
    .have d1:(ai==0)=Y_:=by simp [hq]
     exact QM
    .subst hq
     go_wp2_with fail;clear c0 c1 c2 c3 c4;let ⟨X,hX⟩:=nm (WW (wr.alloc (.cells #[I_ J_ 0,ac,af,U,I] 92)));refine sh ?_;intro LX zX;have BX:=B0.alloc (o:= .cells #[I_ J_ 0,ac,af,U,I] 92)|>.drew
     rw [<-hX] at BX;have SX:(λw'=>Xf w' wr.heap.size ⟨0,ac,af,U,I⟩/\C w' (w.heap.size) 0 k0) X:=by
      refine ⟨?_,BX.cell 0⟩;rw [hX];exact Xg (dA.yc (t:=92) (p:=⟨0,ac,af,U,I⟩) Z')
     refine WZ (S:=(λw'=>Xf w' wr.heap.size ⟨0,ac,af,U,I⟩/\C w' (w.heap.size) 0 k0)) k_ ?_;refine QL ?_;intro w2 O L2 z2 B2;clear hX;have S2:(λw'=>Xf w' wr.heap.size ⟨0,ac,af,U,I⟩/\C w' (w.heap.size) 0 k0) w2:=⟨SX.1.below O o_,B2.cell 0⟩;exact VY
   .exact GK
 .have ap:Hid (iY k0 k1 k2 1=k1):=by show _=_;simp [iY]
  rw [ap.o] at HF ak;go_enter func115,ntmps115;go_wp2;go_loopw [7,13] (λve vi wr=> ∃(k:Nat) (e:Int),k<=n/\vi=I_ J_ k/\ve=I_ J_ e/\Bw w wr/\w.heap.size+1<=wr.heap.size/\Xd wr w.heap.size 25 #[k0,k1,k2,a0,a1,a2,S_ A n c,az,ax,aA,dead]/\Hid (kS k1 1 (dD.drop k) (bs.drop k) e=F)) (λ_ i _=>n - (intOf i).toNat)
  .exact GM
  .clear HF
   obtain ⟨k,e,hk,rfl,rfl,ae,hz,B0,HF⟩:=hrel;by_cases an:k<n
   .have m1:=c1 B0
    let ⟨ad,ay,hA,_,a5,aI⟩:=dA.at_ (aw.below ae) an;obtain ⟨aE,aK,rfl,O,aJ⟩:=oo (hb.below ae) an;have ab:Hid (∀w,Y' prog 171 #[A_ dD[k].arr,k1] w λe w'=>e=R_ (I_ J_ (kD dD[k] k1))/\Bw w w'):=λw=>uP dD[k] k1 w (aT _ (g_ ay)) ak
    have am:=HF.o;rw [nh ay aK] at am;have ah:=Hd am;clear am HF;subst hA;generalize dD[k]=t at*;generalize bs[k]=b at*;generalize kD t k1=E at*;obtain ⟨ai,ac,af,U,I⟩:=t;unfold dA.arr at ab;obtain ⟨c0,c1,c2,c3,c4⟩:=aI
    dsimp only at c0 c1 c2 c3 c4 ah ab
    refine GL ?_;intro aS;have ao:b=Y_\/b=X_/\(ai≠1\/ai=1):=by cases b<;>simp<;>omega
    obtain rfl|⟨rfl,hq|hq⟩:=ao
    .exact GJ
    .have d1:(ai==1)=Y_:=by simp [hq]
     exact QM
    .subst hq
     go_wp2_with fail;clear c0 c1 c2 c3 c4;let ⟨X,hX⟩:=nm (WW (wr.alloc (.cells #[I_ J_ 1,ac,af,U,I] 92)));refine sh ?_;intro LX zX;have BX:=B0.alloc (o:= .cells #[I_ J_ 1,ac,af,U,I] 92)|>.drew
     rw [<-hX] at BX;have SX:(λw'=>Xf w' wr.heap.size ⟨1,ac,af,U,I⟩/\C w' (w.heap.size) 1 k1) X:=by
      refine ⟨?_,BX.cell 1⟩;rw [hX];exact Xg (dA.yc (t:=92) (p:=⟨1,ac,af,U,I⟩) Z')
     refine WZ (S:=(λw'=>Xf w' wr.heap.size ⟨1,ac,af,U,I⟩/\C w' (w.heap.size) 1 k1)) k_ ?_;refine QL ?_;intro w2 O L2 z2 B2;clear hX;have S2:(λw'=>Xf w' wr.heap.size ⟨1,ac,af,U,I⟩/\C w' (w.heap.size) 1 k1) w2:=⟨SX.1.below O o_,B2.cell 1⟩;exact VY
   .exact GK
 .have ap:Hid (iY k0 k1 k2 2=k2):=by show _=_;simp [iY]
  rw [ap.o] at HF ak;go_enter func115,ntmps115;go_wp2;go_loopw [7,13] (λve vi wr=> ∃(k:Nat) (e:Int),k<=n/\vi=I_ J_ k/\ve=I_ J_ e/\Bw w wr/\w.heap.size+1<=wr.heap.size/\Xd wr w.heap.size 25 #[k0,k1,k2,a0,a1,a2,S_ A n c,az,ax,aA,dead]/\Hid (kS k2 2 (dD.drop k) (bs.drop k) e=F)) (λ_ i _=>n - (intOf i).toNat)
  .exact GM
  .clear HF
   obtain ⟨k,e,hk,rfl,rfl,ae,hz,B0,HF⟩:=hrel;by_cases an:k<n
   .have m2:=c2 B0
    let ⟨ad,ay,hA,_,a5,aI⟩:=dA.at_ (aw.below ae) an;obtain ⟨aE,aK,rfl,O,aJ⟩:=oo (hb.below ae) an;have ab:Hid (∀w,Y' prog 171 #[A_ dD[k].arr,k2] w λe w'=>e=R_ (I_ J_ (kD dD[k] k2))/\Bw w w'):=λw=>uP dD[k] k2 w (aT _ (g_ ay)) ak
    have am:=HF.o;rw [nh ay aK] at am;have ah:=Hd am;clear am HF;subst hA;generalize dD[k]=t at*;generalize bs[k]=b at*;generalize kD t k2=E at*;obtain ⟨ai,ac,af,U,I⟩:=t;unfold dA.arr at ab;obtain ⟨c0,c1,c2,c3,c4⟩:=aI
    dsimp only at c0 c1 c2 c3 c4 ah ab
    refine GL ?_;intro aS;have ao:b=Y_\/b=X_/\(ai≠2\/ai=2):=by cases b<;>simp<;>omega
    obtain rfl|⟨rfl,hq|hq⟩:=ao
    .exact GJ
    .have d1:(ai==2)=Y_:=by simp [hq]
     exact QM
    .subst hq
     go_wp2_with fail;clear c0 c1 c2 c3 c4;let ⟨X,hX⟩:=nm (WW (wr.alloc (.cells #[I_ J_ 2,ac,af,U,I] 92)));refine sh ?_;intro LX zX;have BX:=B0.alloc (o:= .cells #[I_ J_ 2,ac,af,U,I] 92)|>.drew
     rw [<-hX] at BX;have SX:(λw'=>Xf w' wr.heap.size ⟨2,ac,af,U,I⟩/\C w' (w.heap.size) 2 k2) X:=by
      refine ⟨?_,BX.cell 2⟩;rw [hX];exact Xg (dA.yc (t:=92) (p:=⟨2,ac,af,U,I⟩) Z')
     refine WZ (S:=(λw'=>Xf w' wr.heap.size ⟨2,ac,af,U,I⟩/\C w' (w.heap.size) 2 k2)) k_ ?_;refine QL ?_;intro w2 O L2 z2 B2;clear hX;have S2:(λw'=>Xf w' wr.heap.size ⟨2,ac,af,U,I⟩/\C w' (w.heap.size) 2 k2) w2:=⟨SX.1.below O o_,B2.cell 2⟩;exact VY
   .exact GK
end gu
end
end Go.Proofs.YtkidababfdehlaaGreatDoor
