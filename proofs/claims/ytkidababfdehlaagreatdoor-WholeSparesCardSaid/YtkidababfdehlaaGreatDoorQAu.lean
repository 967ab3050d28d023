/- Parts of the walk. -/
import Derived.Test.YtkidababfdehlaaGreatDoorQAq
set_option linter.all false
set_option maxRecDepth 100000
set_option maxHeartbeats 64000000
namespace Go.Proofs.YtkidababfdehlaaGreatDoor
open Value renaming int -> I_,bool -> B_,string -> T_,slice -> S_,pointer -> P_,tuple -> U_,agg -> A_
open IntKind renaming i64 -> J_
open Ending renaming returned -> R_
open _root_.Array renaming size -> X_
open Go.World renaming heap -> Y_
open Option renaming some -> Y',none -> Z_
open Bool renaming true -> Z',false -> WW
open Go renaming World -> WX,Calls -> WY,Addr -> WZ
open Go.RowKit renaming Hid -> Xa
open _root_.Go.Proofs.Tryz renaming prog -> Xb
open Mem renaming c_ -> Xc,Sl -> Xi
open Mem.c_ renaming alloc -> Xd,new -> Xe,lt -> Xt
open Go.RowKit.Below renaming heap_setCell -> Xf
open List renaming append_nil -> Xg,mem_filter -> Xo,length_map -> Xp
open Go.Instr renaming index -> Xh
open Go.Ending renaming returned -> Xj
open gR renaming flat -> Xk,arr -> Xu
open et renaming flat -> Xl
open eU renaming store -> Xm
open dm renaming cl -> Xn,start -> Xq,on -> Xr,tg -> Xs,tk -> Xv,dG -> Xw
open Fl renaming fx -> Xx
variable {ks:List gR} {k m n:Nat} {A:Option WZ} {w:WX}
open _root_.Go.Proofs.Tryz Go.RowKit
section
structure dX where
 kind:Int
 id:ByteArray
 sig:Int
 n:Int
namespace dX
def arr (p:dX):Array Value:= #[I_ J_ p.kind,T_ p.id,I_ J_ p.sig,I_ J_ p.n]
def cells (p:dX):List Value:=[I_ J_ p.kind,T_ p.id,I_ J_ p.sig,I_ J_ p.n]
section
variable {W:WX}
def flat (ps:List dX):List Value:=(ps.map cells).flatten
end
def eH (ps qs:List dX):flat (ps++qs)=flat ps++flat qs:=by simp [flat]
def dO (ps:List dX):(flat ps).length=ps.length*4:=Gv.len cells ps
structure At (w:WX) (ad:WZ) (p:dX):Prop where
 c0:w.cell? ad=Y' (I_ J_ p.kind)
 c1:Ca w ad 1 p.id
 c2:Ca w ad 2 p.sig
 c3:Ca w ad 3 p.n
def at_ {B:Nat} {ps:List dX} (h:Xi w B 4 A n (flat ps)) (hk:k<n):
  ∃(ad:WZ) (hl:k<ps.length),A=Y' ad/\ad.block<B/\(ad.add (k*4)).block<B/\At w (ad.add (k*4)) ps[k]:=
 let ⟨ad,hl,a,b,c,d,e⟩:=Gv.at_ cells h hk;⟨ad,hl,a,b,c,⟨d,e 1,e 2,e 3⟩⟩
end dX
end
section
open Wo
namespace Tw
def LA:Mem.El Xb 37 55 (A_ #[I_ J_ 0,T_ ⟨#[]⟩,I_ J_ 0,I_ J_ 0]) 4 40:=⟨underlying37,k_,rfl,d_⟩
def na (i:Int) (was on:Bool):List dX:=if on&& !was then [⟨6,⟨#[]⟩,i,0⟩] else if !on&&was then [⟨7,⟨#[]⟩,i,0⟩] else []
def ik (p0 p1 p2:Bool) (q0 q1 q2:Int) (h0 h1 h2 m0 m1 m2 fr:Bool) (fg:Int):Nat->Array Value
 |0=> #[p0,q0,p1,q1,p2,q2]
 |1=> #[B_ (dU p0 q0 h0 m0 fr fg).1,I_ J_ (dU p0 q0 h0 m0 fr fg).2,p1,q1,p2,q2]
 |2=> #[B_ (dU p0 q0 h0 m0 fr fg).1,I_ J_ (dU p0 q0 h0 m0 fr fg).2,B_ (dU p1 q1 h1 m1 fr fg).1,I_ J_ (dU p1 q1 h1 m1 fr fg).2,p2,q2]
 |_=> #[B_ (dU p0 q0 h0 m0 fr fg).1,I_ J_ (dU p0 q0 h0 m0 fr fg).2,B_ (dU p1 q1 h1 m1 fr fg).1,I_ J_ (dU p1 q1 h1 m1 fr fg).2,B_ (dU p2 q2 h2 m2 fr fg).1,I_ J_ (dU p2 q2 h2 m2 fr fg).2]
def jw (p0 p1 p2:Bool) (q0 q1 q2:Int) (h0 h1 h2 m0 m1 m2 fr:Bool) (fg:Int):Nat->List dX
 |0=>[]
 |1=>na 0 p0 (dU p0 q0 h0 m0 fr fg).1
 |2=>na 0 p0 (dU p0 q0 h0 m0 fr fg).1++na 1 p1 (dU p1 q1 h1 m1 fr fg).1
 |_=>na 0 p0 (dU p0 q0 h0 m0 fr fg).1++na 1 p1 (dU p1 q1 h1 m1 fr fg).1++na 2 p2 (dU p2 q2 h2 m2 fr fg).1
def GD (p0 p1 p2:Bool) (G F I:Int) (X:WX) (k:Nat) (hk:k<3):(Xh 204 (A_ #[p0,G,p1,F,p2,I]) (I_ J_ k)).run Xb X= .ok (A_ (if k=0 then #[p0,G] else if k=1 then #[p1,F] else #[p2,I])) X:=by
 have:k=0\/k=1\/k=2:=o_;have hz:=sizeOf203;have ha:=isAgg203;obtain rfl|rfl|rfl:=this<;>simp [Xh,run_underlying underlying204,asIntOf,go_sem]
def ms40 {p:Prop} (h:p:=by
 have K9: ∀{g:Nat} {t:TypeId} {cs:Array Value},Mem.c_ w3 g t cs->55≠t->Mem.c_ w9 g t cs:=λh he=>(an.block _ h.lt (λe=>ag.row.dZ h he _ e rfl)).trans h
 have aK:=Hd (K9 av d_);have aO:=Hd (K9 ar d_);have aN:=Hd (K9 aw d_);have aP:=Hd (K9 aA d_);clear az an K9;go_wp2_with (at_builtin;refine Ro.dS rfl _ _ _ _ rfl _ _ rfl rfl aD ?_)
 go_roundw
 .exact ⟨1,n+1,A2,am,o_,o_,rfl,rfl,af,aK,aO,aN,aP⟩
 .simp [intOf]):p:=h
def ms41 {p:Prop} (h:p:=by
 have K9: ∀{g:Nat} {t:TypeId} {cs:Array Value},Mem.c_ w3 g t cs->55≠t->Mem.c_ w9 g t cs:=λh he=>(an.block _ h.lt (λe=>ag.row.dZ h he _ e rfl)).trans h
 have aK:=Hd (K9 av d_);have aO:=Hd (K9 ar d_);have aN:=Hd (K9 aw d_);have aP:=Hd (K9 aA d_);clear az an K9;go_wp2_with (at_builtin;refine Ro.dS rfl _ _ _ _ rfl _ _ rfl rfl aD ?_)
 go_roundw
 .exact ⟨2,n+1,A2,am,o_,o_,rfl,rfl,af,aK,aO,aN,aP⟩
 .simp [intOf]):p:=h
def ms42 {p:Prop} (h:p:=by
 have K9: ∀{g:Nat} {t:TypeId} {cs:Array Value},Mem.c_ w3 g t cs->55≠t->Mem.c_ w9 g t cs:=λh he=>(an.block _ h.lt (λe=>ag.row.dZ h he _ e rfl)).trans h
 have aK:=Hd (K9 av d_);have aO:=Hd (K9 ar d_);have aN:=Hd (K9 aw d_);have aP:=Hd (K9 aA d_);clear az an K9;go_wp2_with (at_builtin;refine Ro.dS rfl _ _ _ _ rfl _ _ rfl rfl aD ?_)
 go_roundw
 .exact ⟨3,n+1,A2,am,o_,o_,rfl,rfl,af,aK,aO,aN,aP⟩
 .simp [intOf]):p:=h
def ms43 {p:Prop} (h:p:=by
 go_wp2_with fail;go_roundw
 .exact ⟨1,n,A',c',o_,o_,rfl,rfl,af,av,ar,aw,aA⟩
 .simp [intOf]):p:=h
def ms44 {p:Prop} (h:p:=by
 go_wp2_with fail;go_roundw
 .exact ⟨2,n,A',c',o_,o_,rfl,rfl,af,av,ar,aw,aA⟩
 .simp [intOf]):p:=h
def ms45 {p:Prop} (h:p:=by
 go_wp2_with fail;go_roundw
 .exact ⟨3,n,A',c',o_,o_,rfl,rfl,af,av,ar,aw,aA⟩
 .simp [intOf]):p:=h
def QG (p0 p1 p2:Bool) (I q1 O:Int) (G U V m0 m1 m2 fr:Bool) (F:Int) (w:WX) (k0:0<=I/\I<=100000) (k1:0<=q1/\q1<=100000) (k2:0<=O/\O<=100000):
  WY Xb 108 #[A_ #[p0,I,p1,q1,p2,O],A_ #[G,U,V],A_ #[m0,m1,m2],fr,F] w λe w'=> ∃A n c,e=R_ (U_ #[A_ (ik p0 p1 p2 I q1 O G U V m0 m1 m2 fr F 3),S_ A n c])/\eF w w' 55 4 A n c (dX.flat (jw p0 p1 p2 I q1 O G U V m0 m1 m2 fr F 3)):=by
 have bt:=Hd (λX=>uO p0 I G m0 fr F X k0);have bz:=Hd (λX=>uO p1 q1 U m1 fr F X k1);have bq:=Hd (λX=>uO p2 O V m2 fr F X k2);have bc:=Hd (λX k hk=>GD p0 p1 p2 I q1 O X k hk);clear k0 k1 k2;let ⟨w1,a3⟩:=nm ((((w.alloc (.cells #[p0,I,p1,q1,p2,O] 204)).alloc (.cells #[G,U,V] 32)).alloc (.cells #[m0,m1,m2] 32)).alloc (.cells #[B_ WW,I_ J_ 0,B_ WW,I_ J_ 0,B_ WW,I_ J_ 0] 204));have br:Xa (Bw w w1):=by rw [a3];exact (((dL).alloc y_ _).alloc z_ _).alloc z_ _
 have bi:Xa (Xc w1 w.heap.size 204 #[p0,I,p1,q1,p2,O]):=by rw [a3];exact Xd (Xd (Xd Xe))
 have bw:=Hd (show Xc w1 (X_ (Y_ w)+1) 32 #[G,U,V] from by
  rw [a3];have:=Xe (w:=w.alloc (.cells #[p0,I,p1,q1,p2,O] 204)) (t:=32) (cs:= #[G,U,V]);exact Xd (Xd (by simpa using this)))
 have bn:=Hd (show Xc w1 (X_ (Y_ w)+2) 32 #[m0,m1,m2] from by
  rw [a3];have:=Xe (w:=(w.alloc (.cells #[p0,I,p1,q1,p2,O] 204)).alloc (.cells #[G,U,V] 32)) (t:=32) (cs:= #[m0,m1,m2]);exact Xd (by simpa using this))
 have bp:=Hd (show Xc w1 (X_ (Y_ w)+3) 204 #[B_ WW,I_ J_ 0,B_ WW,I_ J_ 0,B_ WW,I_ J_ 0] from by
  rw [a3];have:=Xe (w:=((w.alloc (.cells #[p0,I,p1,q1,p2,O] 204)).alloc (.cells #[G,U,V] 32)).alloc (.cells #[m0,m1,m2] 32)) (t:=204) (cs:= #[B_ WW,I_ J_ 0,B_ WW,I_ J_ 0,B_ WW,I_ J_ 0]);simpa using this)
 have bm:=Hd a3;clear a3;obtain ⟨l0,l1,l2,l3,l4,l5,-⟩:=kA bi;go_enter func108,ntmps108;go_upto_region 1 with fail;rw [show w.heap.size+1+1=X_ (Y_ w)+2 from rfl] at*
 first|rw [<-bm.o]|skip
 go_wp2_with fail;clear l0 l1 l2 l3 l4 l5;go_loopw [12,16] (λvo vi wr=> ∃(k n:Nat) (A':Option WZ) (c':Nat),k<=3/\n<=k/\vi=I_ J_ k/\vo=S_ A' n c'/\Xa (eF w wr 55 4 A' n c' (dX.flat (jw p0 p1 p2 I q1 O G U V m0 m1 m2 fr F k)))/\Xa (Xc wr w.heap.size 204 (ik p0 p1 p2 I q1 O G U V m0 m1 m2 fr F k))/\Xa (Xc wr (X_ (Y_ w)+1) 32 #[G,U,V])/\Xa (Xc wr (X_ (Y_ w)+2) 32 #[m0,m1,m2])/\Xa (Xc wr (X_ (Y_ w)+3) 204 #[B_ WW,I_ J_ 0,B_ WW,I_ J_ 0,B_ WW,I_ J_ 0])) (λ_ i _=>3 - (intOf i).toNat)
 .exact ⟨0,0,Z_,0,o_,o_,rfl,rfl,Hd (eF.nil br),bi,bw,bn,bp⟩
 .obtain ⟨k,n,A',c',hk,hnk,rfl,rfl,aR,HL,HH,HM,HZ⟩:=hrel
  have bu:k=0\/k=1\/k=2\/k=3:=o_;obtain rfl|rfl|rfl|rfl:=bu
  .have a4: ∀X:WX,(Xh 204 (A_ #[p0,I,p1,q1,p2,O]) (I_ J_ 0)).run Xb X= .ok (A_ #[p0,I]) X:=λX=>bc X 0 d_
   rw [show ((0:Nat):Int)=(0:Int) from rfl] at*;have ap:Xa (jw p0 p1 p2 I q1 O G U V m0 m1 m2 fr F 1=jw p0 p1 p2 I q1 O G U V m0 m1 m2 fr F 0++na 0 p0 (dU p0 I G m0 fr F).1):=rfl;have aQ:Xa (ik p0 p1 p2 I q1 O G U V m0 m1 m2 fr F 1=((ik p0 p1 p2 I q1 O G U V m0 m1 m2 fr F 0).setIfInBounds 0 (B_ (dU p0 I G m0 fr F).1)).setIfInBounds 1 (I_ J_ (dU p0 I G m0 fr F).2)):=rfl;have aL:Xa ((ik p0 p1 p2 I q1 O G U V m0 m1 m2 fr F 0)[0]?=Y' (B_ p0)/\(ik p0 p1 p2 I q1 O G U V m0 m1 m2 fr F 0)[1]?=Y' (I_ J_ I)):=⟨rfl,rfl⟩;have aJ:Xa ((ik p0 p1 p2 I q1 O G U V m0 m1 m2 fr F 1)[0]?=Y' (B_ (dU p0 I G m0 fr F).1)):=rfl;have aG:=bt;have aY:=Hd HZ.lt;generalize hst:dU p0 I G m0 fr F=st at*;obtain ⟨v,z⟩:=st;clear hst
   dsimp only at ap aQ aJ aG
   obtain ⟨wb,b3⟩: ∃wb:WX,wb=wr.alloc (.cells #[p0,I] 203):=⟨_,rfl⟩;have b1:Xc wb wr.heap.size 203 #[p0,I]:=by rw [b3];exact Xe
   have b2:Bw wr wb:=by rw [b3];exact dL
   have a5:=Hd b3;have aM:=Hd b1;have aI:=Hd (HH.a_ b2);have aH:=Hd (HM.a_ b2);have a1:=Hd (HL.a_ b2);have aT:=Hd (HZ.a_ b2);have aV:=Hd (aR.free b2);clear b1 b2 b3;have a7:Xa (Xc wb wr.heap.size 203 #[p0,I]/\Xc wb (X_ (Y_ w)+1) 32 #[G,U,V]/\Xc wb (X_ (Y_ w)+2) 32 #[m0,m1,m2]):=⟨aM,aI,aH⟩;go_upto_region 5 with fail;rw [<-a5.o];refine Xq (S:=λwx=>Xa (Xc wx wr.heap.size 203 #[p0,I]/\Xc wx (X_ (Y_ w)+1) 32 #[G,U,V]/\Xc wx (X_ (Y_ w)+2) 32 #[m0,m1,m2])) k_ ?_;refine Xv 3 a7 (u_ 0 10) ?_
   iterate 10 (refine Xw rfl (λK' ah=>?_);go_simp;(first|refine ah _ ?_|constructor;refine ⟨λwx aX=>?_,ah _ ?_⟩;(have ao:Xc wx wr.heap.size 203 #[p0,I]/\Xc wx (X_ (Y_ w)+1) 32 #[G,U,V]/\Xc wx (X_ (Y_ w)+2) 32 #[m0,m1,m2]:=aX;have e0:C wx wr.heap.size 0 p0:=ao.1.cell 0;have e1:C wx wr.heap.size 1 I:=ao.1.cell 1;have e2:C wx (X_ (Y_ w)+1) 0 G:=ao.2.1.cell 0;have e3:C wx (X_ (Y_ w)+2) 0 m0:=ao.2.2.cell 0;clear ao;go_simp<;>rfl));clear ah K')
   refine dm.dn 10 2 ?_;refine Xn ?_;refine (aG _).mono ?_;rintro e w2 ⟨rfl,aS⟩;have ae:Bw wb w2:=b_.drew.trans aS;have aU:=aM.a_ ae;have aE:=Hd (aI.a_ ae);have aF:=Hd (aH.a_ ae);have al:=a1.a_ ae;have aW:=Hd (aT.a_ ae);have ai:=Hd (aV.free ae);have au:=Hd aU;have y0:=(al.cell 0).trans aL.1;have y1:=(al.cell 1).trans aL.2;have f0:=al.frozen 0;have f1:=al.frozen 1;have ay:=Hd al;clear aS ae aU al;have a2:Xa (Xc w2 wr.heap.size 203 #[p0,I]/\Xc w2 (X_ (Y_ w)+1) 32 #[G,U,V]/\Xc w2 (X_ (Y_ w)+2) 32 #[m0,m1,m2]):=⟨au,aE,aF⟩;refine ⟨_,rfl,a2,?_⟩;refine Xs 1 a2 [11] ?_;let ⟨w3,ak⟩:=nm ((w2.setCell ⟨X_ (Y_ w),0,Z_⟩ (B_ v)).setCell ⟨X_ (Y_ w),1,Z_⟩ (I_ J_ z));have a8:=Hd ak;have av:Xa (Xc w3 w.heap.size 204 (ik p0 p1 p2 I q1 O G U V m0 m1 m2 fr F 1)):=by rw [ak,aQ.o];exact (ay.eC 0 _).eC 1 _
   have a0:Xa (Xc w3 wr.heap.size 203 #[p0,I]):=by rw [ak];exact (au.fA (by have:=aY.o;simp;omega)).fA (by have:=aY.o;simp;omega)
   have ar:Xa (Xc w3 (X_ (Y_ w)+1) 32 #[G,U,V]):=by rw [ak];exact (aE.fA y_).fA y_
   have aw:Xa (Xc w3 (X_ (Y_ w)+2) 32 #[m0,m1,m2]):=by rw [ak];exact (aF.fA y_).fA y_
   have aA:Xa (Xc w3 (X_ (Y_ w)+3) 204 #[B_ WW,I_ J_ 0,B_ WW,I_ J_ 0,B_ WW,I_ J_ 0]):=by rw [ak];exact (aW.fA y_).fA y_
   have ag:Xa (eF w w3 55 4 A' n c' (dX.flat (jw p0 p1 p2 I q1 O G U V m0 m1 m2 fr F 0))):=(by
    rw [ak];refine ⟨(ai.below.setCell l_ _).setCell l_ _,(ai.row.dy λb hb=>?_),ai.fresh⟩;have aZ:b≠X_ (Y_ w):=λe=>ai.row.dZ ay d_ b hb e
    exact (Xf _ _ _ b aZ).trans (Xf _ _ _ b aZ))
   clear ak;refine Xr 12 0 ?_;refine dm.skip rfl rfl (w':=w3) (by rw [a8.o];go_simp) (Hd ⟨a0,ar,aw⟩) ?_;clear y0 y1 f0 f1;refine dm.fi ?_;have u0:=(av.cell 0).trans aJ;have u1:=c0 a0;clear aM aI aH a1 aT aV aE aF aW ai au ay a4 aL aQ aJ aG;cases p0 with
   |false=>
    cases v with
    |true=>
     let ⟨A2,am,w9,aD,az,an⟩:=ag.push LA #[I_ J_ 6,T_ ⟨#[]⟩,I_ J_ 0,I_ J_ 0] rfl v_ o_ d_ rfl;have af:Xa (eF w w9 55 4 A2 (n+1) am (dX.flat (jw WW p1 p2 I q1 O G U V m0 m1 m2 fr F 1))):=by rw [ap.o,dX.eH];exact az
     exact ms40
    |false=>
     have af:Xa (eF w w3 55 4 A' n c' (dX.flat (jw WW p1 p2 I q1 O G U V m0 m1 m2 fr F 1))):=by rw [ap.o,show na 0 WW WW=[] from rfl,Xg];exact ag
     exact ms43
   |true=>
    cases v with
    |true=>
     have af:Xa (eF w w3 55 4 A' n c' (dX.flat (jw Z' p1 p2 I q1 O G U V m0 m1 m2 fr F 1))):=by rw [ap.o,show na 0 Z' Z'=[] from rfl,Xg];exact ag
     exact ms43
    |false=>
     let ⟨A2,am,w9,aD,az,an⟩:=ag.push LA #[I_ J_ 7,T_ ⟨#[]⟩,I_ J_ 0,I_ J_ 0] rfl v_ o_ d_ rfl;have af:Xa (eF w w9 55 4 A2 (n+1) am (dX.flat (jw Z' p1 p2 I q1 O G U V m0 m1 m2 fr F 1))):=by rw [ap.o,dX.eH];exact az
     exact ms40
  .have a4: ∀X:WX,(Xh 204 (A_ #[p0,I,p1,q1,p2,O]) (I_ J_ 1)).run Xb X= .ok (A_ #[p1,q1]) X:=λX=>bc X 1 d_
   rw [show ((1:Nat):Int)=(1:Int) from rfl] at*;have ap:Xa (jw p0 p1 p2 I q1 O G U V m0 m1 m2 fr F 2=jw p0 p1 p2 I q1 O G U V m0 m1 m2 fr F 1++na 1 p1 (dU p1 q1 U m1 fr F).1):=rfl;have aQ:Xa (ik p0 p1 p2 I q1 O G U V m0 m1 m2 fr F 2=((ik p0 p1 p2 I q1 O G U V m0 m1 m2 fr F 1).setIfInBounds 2 (B_ (dU p1 q1 U m1 fr F).1)).setIfInBounds 3 (I_ J_ (dU p1 q1 U m1 fr F).2)):=rfl;have aL:Xa ((ik p0 p1 p2 I q1 O G U V m0 m1 m2 fr F 1)[2]?=Y' (B_ p1)/\(ik p0 p1 p2 I q1 O G U V m0 m1 m2 fr F 1)[3]?=Y' (I_ J_ q1)):=⟨rfl,rfl⟩;have aJ:Xa ((ik p0 p1 p2 I q1 O G U V m0 m1 m2 fr F 2)[2]?=Y' (B_ (dU p1 q1 U m1 fr F).1)):=rfl;have aG:=bz;have aY:=Hd HZ.lt;generalize hst:dU p1 q1 U m1 fr F=st at*;obtain ⟨v,z⟩:=st;clear hst
   dsimp only at ap aQ aJ aG
   obtain ⟨wb,b3⟩: ∃wb:WX,wb=wr.alloc (.cells #[p1,q1] 203):=⟨_,rfl⟩;have b1:Xc wb wr.heap.size 203 #[p1,q1]:=by rw [b3];exact Xe
   have b2:Bw wr wb:=by rw [b3];exact dL
   have a5:=Hd b3;have aM:=Hd b1;have aI:=Hd (HH.a_ b2);have aH:=Hd (HM.a_ b2);have a1:=Hd (HL.a_ b2);have aT:=Hd (HZ.a_ b2);have aV:=Hd (aR.free b2);clear b1 b2 b3;have a7:Xa (Xc wb wr.heap.size 203 #[p1,q1]/\Xc wb (X_ (Y_ w)+1) 32 #[G,U,V]/\Xc wb (X_ (Y_ w)+2) 32 #[m0,m1,m2]):=⟨aM,aI,aH⟩;go_upto_region 5 with fail;rw [<-a5.o];refine Xq (S:=λwx=>Xa (Xc wx wr.heap.size 203 #[p1,q1]/\Xc wx (X_ (Y_ w)+1) 32 #[G,U,V]/\Xc wx (X_ (Y_ w)+2) 32 #[m0,m1,m2])) k_ ?_;refine Xv 3 a7 (u_ 0 10) ?_
   iterate 10 (refine Xw rfl (λK' ah=>?_);go_simp;(first|refine ah _ ?_|constructor;refine ⟨λwx aX=>?_,ah _ ?_⟩;(have ao:Xc wx wr.heap.size 203 #[p1,q1]/\Xc wx (X_ (Y_ w)+1) 32 #[G,U,V]/\Xc wx (X_ (Y_ w)+2) 32 #[m0,m1,m2]:=aX;have e0:C wx wr.heap.size 0 p1:=ao.1.cell 0;have e1:C wx wr.heap.size 1 q1:=ao.1.cell 1;have e2:C wx (X_ (Y_ w)+1) 1 U:=ao.2.1.cell 1;have e3:C wx (X_ (Y_ w)+2) 1 m1:=ao.2.2.cell 1;clear ao;go_simp<;>rfl));clear ah K')
   refine dm.dn 10 2 ?_;refine Xn ?_;refine (aG _).mono ?_;rintro e w2 ⟨rfl,aS⟩;have ae:Bw wb w2:=b_.drew.trans aS;have aU:=aM.a_ ae;have aE:=Hd (aI.a_ ae);have aF:=Hd (aH.a_ ae);have al:=a1.a_ ae;have aW:=Hd (aT.a_ ae);have ai:=Hd (aV.free ae);have au:=Hd aU;have y0:=(al.cell 2).trans aL.1;have y1:=(al.cell 3).trans aL.2;have f0:=al.frozen 2;have f1:=al.frozen 3;have ay:=Hd al;clear aS ae aU al;have a2:Xa (Xc w2 wr.heap.size 203 #[p1,q1]/\Xc w2 (X_ (Y_ w)+1) 32 #[G,U,V]/\Xc w2 (X_ (Y_ w)+2) 32 #[m0,m1,m2]):=⟨au,aE,aF⟩;refine ⟨_,rfl,a2,?_⟩;refine Xs 1 a2 [11] ?_;let ⟨w3,ak⟩:=nm ((w2.setCell ⟨X_ (Y_ w),2,Z_⟩ (B_ v)).setCell ⟨X_ (Y_ w),3,Z_⟩ (I_ J_ z));have a8:=Hd ak;have av:Xa (Xc w3 w.heap.size 204 (ik p0 p1 p2 I q1 O G U V m0 m1 m2 fr F 2)):=by rw [ak,aQ.o];exact (ay.eC 2 _).eC 3 _
   have a0:Xa (Xc w3 wr.heap.size 203 #[p1,q1]):=by rw [ak];exact (au.fA (by have:=aY.o;simp;omega)).fA (by have:=aY.o;simp;omega)
   have ar:Xa (Xc w3 (X_ (Y_ w)+1) 32 #[G,U,V]):=by rw [ak];exact (aE.fA y_).fA y_
   have aw:Xa (Xc w3 (X_ (Y_ w)+2) 32 #[m0,m1,m2]):=by rw [ak];exact (aF.fA y_).fA y_
   have aA:Xa (Xc w3 (X_ (Y_ w)+3) 204 #[B_ WW,I_ J_ 0,B_ WW,I_ J_ 0,B_ WW,I_ J_ 0]):=by rw [ak];exact (aW.fA y_).fA y_
   have ag:Xa (eF w w3 55 4 A' n c' (dX.flat (jw p0 p1 p2 I q1 O G U V m0 m1 m2 fr F 1))):=(by
    rw [ak];refine ⟨(ai.below.setCell l_ _).setCell l_ _,(ai.row.dy λb hb=>?_),ai.fresh⟩;have aZ:b≠X_ (Y_ w):=λe=>ai.row.dZ ay d_ b hb e
    exact (Xf _ _ _ b aZ).trans (Xf _ _ _ b aZ))
   clear ak;refine Xr 12 0 ?_;refine dm.skip rfl rfl (w':=w3) (by rw [a8.o];go_simp) (Hd ⟨a0,ar,aw⟩) ?_;clear y0 y1 f0 f1;refine dm.fi ?_;have u0:=(av.cell 2).trans aJ;have u1:=c0 a0;clear aM aI aH a1 aT aV aE aF aW ai au ay a4 aL aQ aJ aG;cases p1 with
   |false=>
    cases v with
    |true=>
     let ⟨A2,am,w9,aD,az,an⟩:=ag.push LA #[I_ J_ 6,T_ ⟨#[]⟩,I_ J_ 1,I_ J_ 0] rfl v_ o_ d_ rfl;have af:Xa (eF w w9 55 4 A2 (n+1) am (dX.flat (jw p0 WW p2 I q1 O G U V m0 m1 m2 fr F 2))):=by rw [ap.o,dX.eH];exact az
     exact ms41
    |false=>
     have af:Xa (eF w w3 55 4 A' n c' (dX.flat (jw p0 WW p2 I q1 O G U V m0 m1 m2 fr F 2))):=by rw [ap.o,show na 1 WW WW=[] from rfl,Xg];exact ag
     exact ms44
   |true=>
    cases v with
    |true=>
     have af:Xa (eF w w3 55 4 A' n c' (dX.flat (jw p0 Z' p2 I q1 O G U V m0 m1 m2 fr F 2))):=by rw [ap.o,show na 1 Z' Z'=[] from rfl,Xg];exact ag
     exact ms44
    |false=>
     let ⟨A2,am,w9,aD,az,an⟩:=ag.push LA #[I_ J_ 7,T_ ⟨#[]⟩,I_ J_ 1,I_ J_ 0] rfl v_ o_ d_ rfl;have af:Xa (eF w w9 55 4 A2 (n+1) am (dX.flat (jw p0 Z' p2 I q1 O G U V m0 m1 m2 fr F 2))):=by rw [ap.o,dX.eH];exact az
     exact ms41
  .have a4: ∀X:WX,(Xh 204 (A_ #[p0,I,p1,q1,p2,O]) (I_ J_ 2)).run Xb X= .ok (A_ #[p2,O]) X:=λX=>bc X 2 d_
   rw [show ((2:Nat):Int)=(2:Int) from rfl] at*;have ap:Xa (jw p0 p1 p2 I q1 O G U V m0 m1 m2 fr F 3=jw p0 p1 p2 I q1 O G U V m0 m1 m2 fr F 2++na 2 p2 (dU p2 O V m2 fr F).1):=rfl;have aQ:Xa (ik p0 p1 p2 I q1 O G U V m0 m1 m2 fr F 3=((ik p0 p1 p2 I q1 O G U V m0 m1 m2 fr F 2).setIfInBounds 4 (B_ (dU p2 O V m2 fr F).1)).setIfInBounds 5 (I_ J_ (dU p2 O V m2 fr F).2)):=rfl;have aL:Xa ((ik p0 p1 p2 I q1 O G U V m0 m1 m2 fr F 2)[4]?=Y' (B_ p2)/\(ik p0 p1 p2 I q1 O G U V m0 m1 m2 fr F 2)[5]?=Y' (I_ J_ O)):=⟨rfl,rfl⟩;have aJ:Xa ((ik p0 p1 p2 I q1 O G U V m0 m1 m2 fr F 3)[4]?=Y' (B_ (dU p2 O V m2 fr F).1)):=rfl;have aG:=bq;have aY:=Hd HZ.lt;generalize hst:dU p2 O V m2 fr F=st at*;obtain ⟨v,z⟩:=st;clear hst
   dsimp only at ap aQ aJ aG
   obtain ⟨wb,b3⟩: ∃wb:WX,wb=wr.alloc (.cells #[p2,O] 203):=⟨_,rfl⟩;have b1:Xc wb wr.heap.size 203 #[p2,O]:=by rw [b3];exact Xe
   have b2:Bw wr wb:=by rw [b3];exact dL
   have a5:=Hd b3;have aM:=Hd b1;have aI:=Hd (HH.a_ b2);have aH:=Hd (HM.a_ b2);have a1:=Hd (HL.a_ b2);have aT:=Hd (HZ.a_ b2);have aV:=Hd (aR.free b2);clear b1 b2 b3;have a7:Xa (Xc wb wr.heap.size 203 #[p2,O]/\Xc wb (X_ (Y_ w)+1) 32 #[G,U,V]/\Xc wb (X_ (Y_ w)+2) 32 #[m0,m1,m2]):=⟨aM,aI,aH⟩;go_upto_region 5 with fail;rw [<-a5.o];refine Xq (S:=λwx=>Xa (Xc wx wr.heap.size 203 #[p2,O]/\Xc wx (X_ (Y_ w)+1) 32 #[G,U,V]/\Xc wx (X_ (Y_ w)+2) 32 #[m0,m1,m2])) k_ ?_;refine Xv 3 a7 (u_ 0 10) ?_
   iterate 10 (refine Xw rfl (λK' ah=>?_);go_simp;(first|refine ah _ ?_|constructor;refine ⟨λwx aX=>?_,ah _ ?_⟩;(have ao:Xc wx wr.heap.size 203 #[p2,O]/\Xc wx (X_ (Y_ w)+1) 32 #[G,U,V]/\Xc wx (X_ (Y_ w)+2) 32 #[m0,m1,m2]:=aX;have e0:C wx wr.heap.size 0 p2:=ao.1.cell 0;have e1:C wx wr.heap.size 1 O:=ao.1.cell 1;have e2:C wx (X_ (Y_ w)+1) 2 V:=ao.2.1.cell 2;have e3:C wx (X_ (Y_ w)+2) 2 m2:=ao.2.2.cell 2;clear ao;go_simp<;>rfl));clear ah K')
   refine dm.dn 10 2 ?_;refine Xn ?_;refine (aG _).mono ?_;rintro e w2 ⟨rfl,aS⟩;have ae:Bw wb w2:=b_.drew.trans aS;have aU:=aM.a_ ae;have aE:=Hd (aI.a_ ae);have aF:=Hd (aH.a_ ae);have al:=a1.a_ ae;have aW:=Hd (aT.a_ ae);have ai:=Hd (aV.free ae);have au:=Hd aU;have y0:=(al.cell 4).trans aL.1;have y1:=(al.cell 5).trans aL.2;have f0:=al.frozen 4;have f1:=al.frozen 5;have ay:=Hd al;clear aS ae aU al;have a2:Xa (Xc w2 wr.heap.size 203 #[p2,O]/\Xc w2 (X_ (Y_ w)+1) 32 #[G,U,V]/\Xc w2 (X_ (Y_ w)+2) 32 #[m0,m1,m2]):=⟨au,aE,aF⟩;refine ⟨_,rfl,a2,?_⟩;refine Xs 1 a2 [11] ?_;let ⟨w3,ak⟩:=nm ((w2.setCell ⟨X_ (Y_ w),4,Z_⟩ (B_ v)).setCell ⟨X_ (Y_ w),5,Z_⟩ (I_ J_ z));have a8:=Hd ak;have av:Xa (Xc w3 w.heap.size 204 (ik p0 p1 p2 I q1 O G U V m0 m1 m2 fr F 3)):=by rw [ak,aQ.o];exact (ay.eC 4 _).eC 5 _
   have a0:Xa (Xc w3 wr.heap.size 203 #[p2,O]):=by rw [ak];exact (au.fA (by have:=aY.o;simp;omega)).fA (by have:=aY.o;simp;omega)
   have ar:Xa (Xc w3 (X_ (Y_ w)+1) 32 #[G,U,V]):=by rw [ak];exact (aE.fA y_).fA y_
   have aw:Xa (Xc w3 (X_ (Y_ w)+2) 32 #[m0,m1,m2]):=by rw [ak];exact (aF.fA y_).fA y_
   have aA:Xa (Xc w3 (X_ (Y_ w)+3) 204 #[B_ WW,I_ J_ 0,B_ WW,I_ J_ 0,B_ WW,I_ J_ 0]):=by rw [ak];exact (aW.fA y_).fA y_
   have ag:Xa (eF w w3 55 4 A' n c' (dX.flat (jw p0 p1 p2 I q1 O G U V m0 m1 m2 fr F 2))):=(by
    rw [ak];refine ⟨(ai.below.setCell l_ _).setCell l_ _,(ai.row.dy λb hb=>?_),ai.fresh⟩;have aZ:b≠X_ (Y_ w):=λe=>ai.row.dZ ay d_ b hb e
    exact (Xf _ _ _ b aZ).trans (Xf _ _ _ b aZ))
   clear ak;refine Xr 12 0 ?_;refine dm.skip rfl rfl (w':=w3) (by rw [a8.o];go_simp) (Hd ⟨a0,ar,aw⟩) ?_;clear y0 y1 f0 f1;refine dm.fi ?_;have u0:=(av.cell 4).trans aJ;have u1:=c0 a0;clear aM aI aH a1 aT aV aE aF aW ai au ay a4 aL aQ aJ aG;cases p2 with
   |false=>
    cases v with
    |true=>
     let ⟨A2,am,w9,aD,az,an⟩:=ag.push LA #[I_ J_ 6,T_ ⟨#[]⟩,I_ J_ 2,I_ J_ 0] rfl v_ o_ d_ rfl;have af:Xa (eF w w9 55 4 A2 (n+1) am (dX.flat (jw p0 p1 WW I q1 O G U V m0 m1 m2 fr F 3))):=by rw [ap.o,dX.eH];exact az
     exact ms42
    |false=>
     have af:Xa (eF w w3 55 4 A' n c' (dX.flat (jw p0 p1 WW I q1 O G U V m0 m1 m2 fr F 3))):=by rw [ap.o,show na 2 WW WW=[] from rfl,Xg];exact ag
     exact ms45
   |true=>
    cases v with
    |true=>
     have af:Xa (eF w w3 55 4 A' n c' (dX.flat (jw p0 p1 Z' I q1 O G U V m0 m1 m2 fr F 3))):=by rw [ap.o,show na 2 Z' Z'=[] from rfl,Xg];exact ag
     exact ms45
    |false=>
     let ⟨A2,am,w9,aD,az,an⟩:=ag.push LA #[I_ J_ 7,T_ ⟨#[]⟩,I_ J_ 2,I_ J_ 0] rfl v_ o_ d_ rfl;have af:Xa (eF w w9 55 4 A2 (n+1) am (dX.flat (jw p0 p1 Z' I q1 O G U V m0 m1 m2 fr F 3))):=by rw [ap.o,dX.eH];exact az
     exact ms42
  .rw [show ((3:Nat):Int)=(3:Int) from rfl] at*
   have bA:=Hd HL;obtain ⟨r0,r1,r2,r3,r4,r5,-⟩:=kA bA;have bf:Xa (∀w9,Ro.dt (λb=>b=X_ (Y_ w)+3) wr w9-> ∃A1 n1 c1,(Xj (U_ #[A_ #[B_ (dU p0 I G m0 fr F).1,I_ J_ (dU p0 I G m0 fr F).2,B_ (dU p1 q1 U m1 fr F).1,I_ J_ (dU p1 q1 U m1 fr F).2,B_ (dU p2 O V m2 fr F).1,I_ J_ (dU p2 O V m2 fr F).2],S_ A' n c']))=R_ (U_ #[A_ (ik p0 p1 p2 I q1 O G U V m0 m1 m2 fr F 3),S_ A1 n1 c1])/\eF w w9 55 4 A1 n1 c1 (dX.flat (jw p0 p1 p2 I q1 O G U V m0 m1 m2 fr F 3))):=λw9 h9=>
    ⟨A',n,c',rfl,aR.below.trans (h9.below aR.below.size (λb hb e=>o_)),aR.row.dy (λb hb=>h9.block b (aR.row.lt hb) (λe=>aR.row.dZ HZ d_ b hb e)),aR.fresh⟩
   go_wp2_with (refine Xm rfl 204 _ _ rfl (X_ (Y_ w)+3) 0 #[B_ (dU p0 I G m0 fr F).1,I_ J_ (dU p0 I G m0 fr F).2,B_ (dU p1 q1 U m1 fr F).1,I_ J_ (dU p1 q1 U m1 fr F).2,B_ (dU p2 O V m2 fr F).1,I_ J_ (dU p2 O V m2 fr F).2] rfl rfl HZ y_ k_ v_ ?_;intro w9 b9 o9;have s0:C w9 (X_ (Y_ w)+3) 0 (B_ (dU p0 I G m0 fr F).1):=b9.cell 0;have s1:C w9 (X_ (Y_ w)+3) 1 (I_ J_ (dU p0 I G m0 fr F).2):=b9.cell 1;have s2:C w9 (X_ (Y_ w)+3) 2 (B_ (dU p1 q1 U m1 fr F).1):=b9.cell 2;have s3:C w9 (X_ (Y_ w)+3) 3 (I_ J_ (dU p1 q1 U m1 fr F).2):=b9.cell 3;have s4:C w9 (X_ (Y_ w)+3) 4 (B_ (dU p2 O V m2 fr F).1):=b9.cell 4;have s5:C w9 (X_ (Y_ w)+3) 5 (I_ J_ (dU p2 O V m2 fr F).2):=b9.cell 5;have HG:=Hd (bf _ o9);clear b9 o9 r0 r1 r2 r3 r4 r5)
   refine bodyPost_ret (v:=U_ #[A_ #[B_ (dU p0 I G m0 fr F).1,I_ J_ (dU p0 I G m0 fr F).2,B_ (dU p1 q1 U m1 fr F).1,I_ J_ (dU p1 q1 U m1 fr F).2,B_ (dU p2 O V m2 fr F).1,I_ J_ (dU p2 O V m2 fr F).2],S_ A' n c']) (by simp [*,results,results108,go_sem]) rfl HG
def mS (x:Int×Int×Int) (s:Int):Int:=if s=0 then x.1 else if s=1 then x.2.1 else x.2.2
def jU (s:Int) (p:dz) (us:List et):Int:=mS (rn us p.id) s - asked p s
def lB (s:Int) (p:dz) (us:List et):gR:=⟨if 0<jU s p us then 0 else 1,p.prio,jU s p us,p.id⟩
def Qz (x y z s:Int) (X:WX) (hs:s=0\/s=1\/s=2):(Xh 22 (A_ #[x,y,z]) (I_ J_ s)).run Xb X= .ok (I_ J_ (mS (x,y,z) s)) X:=by
 have hz:=sizeOf3;obtain rfl|rfl|rfl:=hs<;>simp [Xh,run_underlying underlying22,asIntOf,go_sem,mS]
def mq0 {p:Prop} (h:p:=by
 have f3:=(ar).frozen 3;have ap:=bH.o;have aI:Hid (Mem.c_ (((((ag).setCell ⟨I,0,none⟩ (I_ J_ 1)).setCell ⟨I,1,none⟩ (I_ J_ prio)).setCell ⟨I,2,none⟩ (I_ J_ ex)).setCell ⟨I,3,none⟩ (T_ id)) I 287 #[I_ J_ 1,I_ J_ prio,I_ J_ ex,T_ id]):=(((((ar).eC 0 _).eC 1 _).eC 2 _).eC 3 _);have aB:Hid (Mem.c_ (((((ag).setCell ⟨I,0,none⟩ (I_ J_ 1)).setCell ⟨I,1,none⟩ (I_ J_ prio)).setCell ⟨I,2,none⟩ (I_ J_ ex)).setCell ⟨I,3,none⟩ (T_ id)) (w.heap.size+2) 287 #[I_ J_ 0,I_ J_ 0,I_ J_ 0,T_ ⟨#[]⟩]):=(((((ce).fA z_).fA z_).fA z_).fA z_);have aE:Hid (Mem.c_ (((((ag).setCell ⟨I,0,none⟩ (I_ J_ 1)).setCell ⟨I,1,none⟩ (I_ J_ prio)).setCell ⟨I,2,none⟩ (I_ J_ ex)).setCell ⟨I,3,none⟩ (T_ id)) w.heap.size 42 #[T_ id,I_ J_ prio,B_ G,I_ J_ r0,I_ J_ r1,I_ J_ r2,I_ J_ l0,I_ J_ l1,I_ J_ l2,T_ ab,I_ J_ size]):=(((((bi).fA z_).fA z_).fA z_).fA z_);have aC:Hid (Mem.c_ (((((ag).setCell ⟨I,0,none⟩ (I_ J_ 1)).setCell ⟨I,1,none⟩ (I_ J_ prio)).setCell ⟨I,2,none⟩ (I_ J_ ex)).setCell ⟨I,3,none⟩ (T_ id)) (w.heap.size+1) 98 #[I_ J_ t,I_ J_ a0,I_ J_ a1,I_ J_ a2,S_ A n c]):=(((((bb).fA z_).fA z_).fA z_).fA z_);have aJ:Hid (Bw w (((((ag).setCell ⟨I,0,none⟩ (I_ J_ 1)).setCell ⟨I,1,none⟩ (I_ J_ prio)).setCell ⟨I,2,none⟩ (I_ J_ ex)).setCell ⟨I,3,none⟩ (T_ id))):=(((((bZ).setCell z_ _).setCell z_ _).setCell z_ _).setCell z_ _);refine dm.on 16 0 ?_;refine dm.skip rfl rfl (w':=((((ag).setCell ⟨I,0,none⟩ (I_ J_ 1)).setCell ⟨I,1,none⟩ (I_ J_ prio)).setCell ⟨I,2,none⟩ (I_ J_ ex)).setCell ⟨I,3,none⟩ (T_ id)) f_ (Hd ⟨aE,aC⟩) ?_;refine dm.fi ?_;have aG:=Hd (And.intro ap (And.intro aJ (And.intro aI aB)));clear y0 y1 y2 y3 f0 f1 f2 f3 ap;go_wp2_with fail
 go_meet
 exact ⟨_,rfl,aG⟩):p:=h
def Lq (sg:Int) (p:dz) (t a0 a1 a2:Int) (A:Option WZ) (n c:Nat) (us:List et) (w:WX) (h:Xi w w.heap.size 4 A n (Xl us)) (hr:du.dY (iK us)) (aU:us.length=n) (hn:n<=1000000)
  (hs:sg=0\/sg=1\/sg=2) (hx: -9223372036854775808<=jU sg p us/\jU sg p us<=9223372036854775807):
  WY Xb 233 #[I_ J_ sg,A_ p.arr,A_ (xY t a0 a1 a2 A n c)] w λe w'=>e=R_ (A_ (lB sg p us).arr)/\Bw w w':=by
 have aO:=Hd (λX (hX:Xi X X.heap.size 4 A n (Xl us))=>QA t a0 a1 a2 A n c us p.id X hX hr aU hn);have aH:=Hd (λX=>Lr p sg X);have HW:IntKind.i64.wrap (mS (rn us p.id) sg - asked p sg)=jU sg p us:=Ta.fh hx.1 hx.2;have aQ:=Hd (λX=>Qz (rn us p.id).1 (rn us p.id).2.1 (rn us p.id).2.2 sg X hs);have H:=Hd h;have bF:(lB sg p us).arr= #[I_ J_ (if 0<jU sg p us then 0 else 1),I_ J_ p.prio,I_ J_ (jU sg p us),T_ p.id]:=rfl;rw [bF];clear bF h hx hs hr aU;obtain ⟨id,prio,G,r0,r1,r2,l0,l1,l2,ab,size⟩:=p;unfold dz.arr at aH |-;unfold xY at aO |-
 dsimp only at aO aH HW aQ |-
 generalize jU sg ⟨id,prio,G,r0,r1,r2,l0,l1,l2,ab,size⟩ us=ex at*;obtain ⟨FX,a7⟩: ∃FX:Int,FX=(if 0<ex then 0 else 1):=⟨_,rfl⟩;rw [<-a7];have bu:=Hd a7;clear a7;generalize asked ⟨id,prio,G,r0,r1,r2,l0,l1,l2,ab,size⟩ sg=ask at*;let ⟨PK,a3⟩:=nm (mS (rn us id) sg);rw [show mS ((rn us id).1,(rn us id).2.1,(rn us id).2.2) sg=PK from a3.symm] at aQ;rw [<-a3] at HW;clear a3;generalize (rn us id).1=o1 at*;generalize (rn us id).2.1=o2 at*;generalize (rn us id).2.2=o3 at*;let ⟨w1,az⟩:=nm (((w.alloc (.cells #[T_ id,I_ J_ prio,B_ G,I_ J_ r0,I_ J_ r1,I_ J_ r2,I_ J_ l0,I_ J_ l1,I_ J_ l2,T_ ab,I_ J_ size] 42)).alloc (.cells #[I_ J_ t,I_ J_ a0,I_ J_ a1,I_ J_ a2,S_ A n c] 98)).alloc (.cells #[I_ J_ 0,I_ J_ 0,I_ J_ 0,T_ ⟨#[]⟩] 287));have aA:Xa (Bw w w1):=by rw [az];exact ((b_.alloc l_ _).alloc y_ _).alloc z_ _
 have a8:Xa (Xc w1 w.heap.size 42 #[T_ id,I_ J_ prio,B_ G,I_ J_ r0,I_ J_ r1,I_ J_ r2,I_ J_ l0,I_ J_ l1,I_ J_ l2,T_ ab,I_ J_ size]):=by rw [az];exact Xd (Xd Xe)
 have a9:=Hd (show Xc w1 (X_ (Y_ w)+1) 98 #[I_ J_ t,I_ J_ a0,I_ J_ a1,I_ J_ a2,S_ A n c] from by
  rw [az];have:=Xe (w:=w.alloc (.cells #[T_ id,I_ J_ prio,B_ G,I_ J_ r0,I_ J_ r1,I_ J_ r2,I_ J_ l0,I_ J_ l1,I_ J_ l2,T_ ab,I_ J_ size] 42)) (t:=98) (cs:= #[I_ J_ t,I_ J_ a0,I_ J_ a1,I_ J_ a2,S_ A n c]);exact Xd (by simpa using this))
 have bl:=Hd (show Xc w1 (X_ (Y_ w)+2) 287 #[I_ J_ 0,I_ J_ 0,I_ J_ 0,T_ ⟨#[]⟩] from by
  rw [az];have:=Xe (w:=(w.alloc (.cells #[T_ id,I_ J_ prio,B_ G,I_ J_ r0,I_ J_ r1,I_ J_ r2,I_ J_ l0,I_ J_ l1,I_ J_ l2,T_ ab,I_ J_ size] 42)).alloc (.cells #[I_ J_ t,I_ J_ a0,I_ J_ a1,I_ J_ a2,S_ A n c] 98)) (t:=287) (cs:= #[I_ J_ 0,I_ J_ 0,I_ J_ 0,T_ ⟨#[]⟩]);simpa using this)
 have bR:=Hd az;clear az;go_enter func233,ntmps233;go_upto_region 1 with fail;rw [<-bR.o];go_cut [7] (λs7 wx=> ∃g,s7=P_ (Y' ⟨g,0,Z_⟩)/\Xa (X_ (Y_ w)+2<g/\Bw w wx/\Xc wx g 287 #[I_ J_ 1,I_ J_ prio,I_ J_ ex,T_ id]/\Xc wx (X_ (Y_ w)+2) 287 #[I_ J_ 0,I_ J_ 0,I_ J_ 0,T_ ⟨#[]⟩]))
 case first=>
  have cd:Xa (Xc w1.drew w.heap.size 42 #[T_ id,I_ J_ prio,B_ G,I_ J_ r0,I_ J_ r1,I_ J_ r2,I_ J_ l0,I_ J_ l1,I_ J_ l2,T_ ab,I_ J_ size]/\Xc w1.drew (X_ (Y_ w)+1) 98 #[I_ J_ t,I_ J_ a0,I_ J_ a1,I_ J_ a2,S_ A n c]):=⟨a8,a9⟩;have bP:Xa (∀wx,(Xa (Xc wx w.heap.size 42 #[T_ id,I_ J_ prio,B_ G,I_ J_ r0,I_ J_ r1,I_ J_ r2,I_ J_ l0,I_ J_ l1,I_ J_ l2,T_ ab,I_ J_ size]/\Xc wx (X_ (Y_ w)+1) 98 #[I_ J_ t,I_ J_ a0,I_ J_ a1,I_ J_ a2,S_ A n c]))->(C wx w.heap.size 0 id)/\(C wx w.heap.size 1 prio)/\(C wx w.heap.size 2 G)/\(C wx w.heap.size 3 r0)/\(C wx w.heap.size 4 r1)/\(C wx w.heap.size 5 r2)/\(C wx w.heap.size 6 l0)/\(C wx w.heap.size 7 l1)/\(C wx w.heap.size 8 l2)/\(C wx w.heap.size 9 ab)/\(C wx w.heap.size 10 size)/\(C wx (X_ (Y_ w)+1) 0 t)/\(C wx (X_ (Y_ w)+1) 1 a0)/\(C wx (X_ (Y_ w)+1) 2 a1)/\(C wx (X_ (Y_ w)+1) 3 a2)/\(C wx (X_ (Y_ w)+1) 4 (S_ A n c))):=λwx V=>⟨V.1.cell 0,V.1.cell 1,V.1.cell 2,V.1.cell 3,V.1.cell 4,V.1.cell 5,V.1.cell 6,V.1.cell 7,V.1.cell 8,V.1.cell 9,V.1.cell 10,V.2.cell 0,V.2.cell 1,V.2.cell 2,V.2.cell 3,V.2.cell 4⟩
  refine dm.st bP ?_;refine dm.tf 7 cd [0,1,2,3,4,6,8,9,12,13] bP ?_;refine dm.two (i:=5) (j:=15) (n:=6) k_ ?_ ?_
  .refine Xn ?_
   refine (aO _ ((H.below aA.drew).more (aA.drew).size)).mono ?_;rintro e aw ⟨rfl,hb⟩;have aT:=Hd ((aA.drew).trans (hb.mono (aA.drew).size));have aP:=Hd ((a8.drew).a_ hb);have aR:=Hd ((a9.drew).a_ hb);have a5:=Hd ((bl.drew).a_ hb);clear hb;refine ⟨_,rfl,Hd ⟨aP,aR⟩,?_⟩;refine Xv 5 (Hd ⟨aP,aR⟩) [7] ?_
   iterate 1 (refine Xw rfl (λK' U=>?_);go_simp;(first|refine U _ ?_|constructor;refine ⟨λwx V=>?_,U _ ?_⟩;(have b6:=aQ wx;first|(skip;go_simp<;>rfl)));clear U K')
   refine dm.ee ?_;refine dm.two (i:=10) (j:=15) (n:=4) k_ ?_ ?_
   .refine Xn ?_
    refine (aH _).mono ?_;rintro e av ⟨rfl,hb⟩;have bC:=Hd ((aT).trans (hb.mono (aT).size));have ba:=Hd ((aP).a_ hb);have be:=Hd ((aR).a_ hb);have bM:=Hd ((a5).a_ hb);clear hb;refine ⟨_,rfl,Hd ⟨ba,be⟩,?_⟩;refine Xs 2 (Hd ⟨ba,be⟩) [11,14] ?_;refine Xr 15 1 ?_;let ⟨ag,aa⟩:=nm ((av).alloc (.cells #[I_ J_ 0,I_ J_ 0,I_ J_ 0,T_ ⟨#[]⟩] 287));have bV:=Hd aa;have bZ:Xa (Bw w ag):=by rw [aa];exact (bC).alloc (bC).size _
    have bi:Xa (Xc ag w.heap.size 42 #[T_ id,I_ J_ prio,B_ G,I_ J_ r0,I_ J_ r1,I_ J_ r2,I_ J_ l0,I_ J_ l1,I_ J_ l2,T_ ab,I_ J_ size]):=by rw [aa];exact Xd (ba)
    have bb:Xa (Xc ag (X_ (Y_ w)+1) 98 #[I_ J_ t,I_ J_ a0,I_ J_ a1,I_ J_ a2,S_ A n c]):=by rw [aa];exact Xd (be)
    have ce:Xa (Xc ag (X_ (Y_ w)+2) 287 #[I_ J_ 0,I_ J_ 0,I_ J_ 0,T_ ⟨#[]⟩]):=by rw [aa];exact Xd (bM)
    have ar:Xa (Xc ag (av).heap.size 287 #[I_ J_ 0,I_ J_ 0,I_ J_ 0,T_ ⟨#[]⟩]):=by rw [aa];exact Xe
    have bH:=Hd (Xt (bM));let ⟨I,ah⟩:=nm ((av).heap.size);have b4:=Hd ah;rw [<-ah] at ar bH;clear aa ah;refine dm.val rfl rfl (v:=P_ (Y' ⟨I,0,Z_⟩)) (w':=ag) (by rw [b4.o,bV.o];go_simp) (Hd ⟨bi,bb⟩) ?_;have y0:=c0 (ar);have f0:=(ar).frozen 0;have y1:=c1 (ar);have f1:=(ar).frozen 1;have y2:=c2 (ar);have f2:=(ar).frozen 2;have y3:=c3 (ar);exact mq0
   .let ⟨ay,aa⟩:=nm ((aw).alloc (.cells #[I_ J_ 0,I_ J_ 0,I_ J_ 0,T_ ⟨#[]⟩] 287))
    have bV:=Hd aa;have bK:Xa (Bw w ay):=by rw [aa];exact (aT).alloc (aT).size _
    have br:Xa (Xc ay w.heap.size 42 #[T_ id,I_ J_ prio,B_ G,I_ J_ r0,I_ J_ r1,I_ J_ r2,I_ J_ l0,I_ J_ l1,I_ J_ l2,T_ ab,I_ J_ size]):=by rw [aa];exact Xd (aP)
    have bm:Xa (Xc ay (X_ (Y_ w)+1) 98 #[I_ J_ t,I_ J_ a0,I_ J_ a1,I_ J_ a2,S_ A n c]):=by rw [aa];exact Xd (aR)
    have b5:Xa (Xc ay (X_ (Y_ w)+2) 287 #[I_ J_ 0,I_ J_ 0,I_ J_ 0,T_ ⟨#[]⟩]):=by rw [aa];exact Xd (a5)
    have bG:Xa (Xc ay (aw).heap.size 287 #[I_ J_ 0,I_ J_ 0,I_ J_ 0,T_ ⟨#[]⟩]):=by rw [aa];exact Xe
    have bH:=Hd (Xt (a5));let ⟨I,ah⟩:=nm ((aw).heap.size);have b4:=Hd ah;rw [<-ah] at bG bH;clear aa ah;refine dm.val rfl rfl (v:=P_ (Y' ⟨I,0,Z_⟩)) (w':=ay) (by rw [b4.o,bV.o];go_simp) (Hd ⟨br,bm⟩) ?_;refine Xr 10 3 ?_;refine Xn ?_;refine (aH _).mono ?_;rintro e ag ⟨rfl,hb⟩;have bZ:=Hd ((bK).trans (hb.mono (bK).size));have bi:=Hd ((br).a_ hb);have bb:=Hd ((bm).a_ hb);have ce:=Hd ((b5).a_ hb);have ar:=Hd ((bG).a_ hb);clear hb;refine ⟨_,rfl,Hd ⟨bi,bb⟩,?_⟩;refine Xs 1 (Hd ⟨bi,bb⟩) [11,14] ?_;have y0:=c0 (ar);have f0:=(ar).frozen 0;have y1:=c1 (ar);have f1:=(ar).frozen 1;have y2:C ag I 2 (I_ J_ 0):=(ar).cell 2;have f2:=(ar).frozen 2;have y3:C ag I 3 (T_ ⟨#[]⟩):=(ar).cell 3;exact mq0
  .let ⟨ax,aa⟩:=nm ((w1.drew).alloc (.cells #[I_ J_ 0,I_ J_ 0,I_ J_ 0,T_ ⟨#[]⟩] 287))
   have cc:=Hd aa;have bK:Xa (Bw w ax):=by rw [aa];exact (aA.drew).alloc (aA.drew).size _
   have br:Xa (Xc ax w.heap.size 42 #[T_ id,I_ J_ prio,B_ G,I_ J_ r0,I_ J_ r1,I_ J_ r2,I_ J_ l0,I_ J_ l1,I_ J_ l2,T_ ab,I_ J_ size]):=by rw [aa];exact Xd (a8.drew)
   have bm:Xa (Xc ax (X_ (Y_ w)+1) 98 #[I_ J_ t,I_ J_ a0,I_ J_ a1,I_ J_ a2,S_ A n c]):=by rw [aa];exact Xd (a9.drew)
   have b5:Xa (Xc ax (X_ (Y_ w)+2) 287 #[I_ J_ 0,I_ J_ 0,I_ J_ 0,T_ ⟨#[]⟩]):=by rw [aa];exact Xd (bl.drew)
   have bG:Xa (Xc ax (w1.drew).heap.size 287 #[I_ J_ 0,I_ J_ 0,I_ J_ 0,T_ ⟨#[]⟩]):=by rw [aa];exact Xe
   have bH:=Hd (Xt bl.drew);let ⟨I,ah⟩:=nm ((w1.drew).heap.size);have bY:=Hd ah;rw [<-ah] at bG bH;clear aa ah;refine dm.val rfl rfl (v:=P_ (Y' ⟨I,0,Z_⟩)) (w':=ax) (by rw [bY.o,cc.o];go_simp) (Hd ⟨br,bm⟩) ?_;refine Xr 5 5 ?_;refine Xn ?_;refine (aO _ ((H.below (bK)).more (bK).size)).mono ?_;rintro e av ⟨rfl,hb⟩;have bC:=Hd ((bK).trans (hb.mono (bK).size));have ba:=Hd ((br).a_ hb);have be:=Hd ((bm).a_ hb);have bM:=Hd ((b5).a_ hb);have bW:=Hd ((bG).a_ hb);clear hb;refine ⟨_,rfl,Hd ⟨ba,be⟩,?_⟩;refine Xv 4 (Hd ⟨ba,be⟩) [7] ?_
   iterate 1 (refine Xw rfl (λK' U=>?_);go_simp;(first|refine U _ ?_;clear U K'|constructor;refine ⟨λwx V=>?_,U _ ?_⟩;(have b6:=aQ wx;first|(skip;go_simp<;>rfl));clear U K'))
   refine dm.ee ?_;refine Xr 10 3 ?_;refine Xn ?_;refine (aH _).mono ?_;rintro e ag ⟨rfl,hb⟩;have bZ:Xa (Bw w ag):=(bC).trans (hb.mono (bC).size);have bi:Xa (Xc ag w.heap.size 42 #[T_ id,I_ J_ prio,B_ G,I_ J_ r0,I_ J_ r1,I_ J_ r2,I_ J_ l0,I_ J_ l1,I_ J_ l2,T_ ab,I_ J_ size]):=(ba).a_ hb;have bb:Xa (Xc ag (X_ (Y_ w)+1) 98 #[I_ J_ t,I_ J_ a0,I_ J_ a1,I_ J_ a2,S_ A n c]):=(be).a_ hb;have ce:Xa (Xc ag (X_ (Y_ w)+2) 287 #[I_ J_ 0,I_ J_ 0,I_ J_ 0,T_ ⟨#[]⟩]):=(bM).a_ hb;have ar:Xa (Xc ag I 287 #[I_ J_ 0,I_ J_ 0,I_ J_ 0,T_ ⟨#[]⟩]):=(bW).a_ hb;clear hb;refine ⟨_,rfl,Hd ⟨bi,bb⟩,?_⟩;refine Xs 1 (Hd ⟨bi,bb⟩) [11,14] ?_;have y0:C ag I 0 (I_ J_ 0):=(ar).cell 0;have f0:=(ar).frozen 0;have y1:C ag I 1 (I_ J_ 0):=(ar).cell 1;have f1:=(ar).frozen 1;have y2:C ag I 2 (I_ J_ 0):=(ar).cell 2;have f2:=(ar).frozen 2;have y3:C ag I 3 (T_ ⟨#[]⟩):=(ar).cell 3;exact mq0
 case rest=>
  obtain ⟨g,rfl,HF⟩:=hcut;have aW:=Hd HF.2.1;have aY:=Hd HF.2.2.1;have bA:=Hd HF.2.2.2;have ap:=HF.1;obtain ⟨y0,y1,y2,y3,-⟩:=kA aY;have f0:=aY.frozen 0;by_cases aM:0<ex
  .have hd:=decide_eq_true aM
   have aL:FX=0:=by rw [bu.o,if_pos aM]
   have bh:=Hd aL;clear aL;let ⟨w5,aD⟩:=nm (wc.setCell ⟨g,0,Z_⟩ (I_ J_ 0));have cj:=Hd aD;have k5:Xc w5 g 287 #[I_ J_ 0,I_ J_ prio,I_ J_ ex,T_ id]:=by rw [aD];exact aY.eC 0 _
   have b8:Xa (Xc w5 (X_ (Y_ w)+2) 287 #[I_ J_ 0,I_ J_ 0,I_ J_ 0,T_ ⟨#[]⟩]):=by rw [aD];exact bA.fA z_
   have bL:Xa (Bw w w5):=by rw [aD];exact aW.setCell z_ _
   obtain ⟨z0,z1,z2,z3,-⟩:=kA k5;clear aD k5;go_upto_region 4 with fail;rw [<-cj.o];clear y0 y1 y2 y3 f0;go_wp2_with (refine Xm rfl 287 _ _ rfl (X_ (Y_ w)+2) 0 #[I_ J_ 0,I_ J_ prio,I_ J_ ex,T_ id] rfl rfl b8 y_ k_ v_ ?_;intro w9 b9 o9;have v0:C w9 (X_ (Y_ w)+2) 0 (I_ J_ 0):=b9.cell 0;have v1:C w9 (X_ (Y_ w)+2) 1 prio:=b9.cell 1;have v2:C w9 (X_ (Y_ w)+2) 2 ex:=b9.cell 2;have v3:C w9 (X_ (Y_ w)+2) 3 id:=b9.cell 3;have aX:=Hd (bL.trans (o9.below bL.size (λk hk e=>o_)));clear b9 o9)
   refine bodyPost_ret (v:=A_ #[I_ J_ 0,I_ J_ prio,I_ J_ ex,T_ id]) (by simp [*,results,results233,go_sem]) rfl ⟨by rw [bh.o],aX⟩
  .have hd:=decide_eq_false aM
   have aL:FX=1:=by rw [bu.o,if_neg aM]
   have bh:=Hd aL;clear aL;clear f0;go_wp2_with (refine Xm rfl 287 _ _ rfl (X_ (Y_ w)+2) 0 #[I_ J_ 1,I_ J_ prio,I_ J_ ex,T_ id] rfl rfl bA y_ k_ v_ ?_;intro w9 b9 o9;have v0:C w9 (X_ (Y_ w)+2) 0 (I_ J_ 1):=b9.cell 0;have v1:C w9 (X_ (Y_ w)+2) 1 prio:=b9.cell 1;have v2:C w9 (X_ (Y_ w)+2) 2 ex:=b9.cell 2;have v3:C w9 (X_ (Y_ w)+2) 3 id:=b9.cell 3;have aX:=Hd (aW.trans (o9.below aW.size (λk hk e=>o_)));clear b9 o9)
   refine bodyPost_ret (v:=A_ #[I_ J_ 1,I_ J_ prio,I_ J_ ex,T_ id]) (by simp [*,results,results233,go_sem]) rfl ⟨by rw [bh.o],aX⟩
def vC:Gr.uR od:=by
 have h:=(Gr.lC.pull gR.a).or ((Gr.lC.pull gR.b).or ((Gr.lC.pull gR.c).flip.or (Gr.oq.pull gR.id)));have e:od=λx y=>if Xx x.a y.a=0 then (if Xx x.b y.b=0 then (if Xx y.c x.c=0 then du.cmp x.id y.id else Xx y.c x.c) else Xx x.b y.b) else Xx x.a y.a:=by
  funext x y
  unfold od;simp only [List.find?_cons,List.find?_nil]
  repeat' split
  all_goals simp_all
 rw [e];exact h
def kh (ks:List gR) (m k:Nat):Prop:= ∃h:m<ks.length,∀(j:Nat) (hj:j<ks.length),j<k-> ¬od ks[j] ks[m]<0
def zk (h:kh ks m k) (hk:k<ks.length) (hn: ¬od ks[k] (ks[m]'h.1)<0):kh ks m (k+1):=
 ⟨h.1,λj hj h2=>by
  by_cases h3:j<k
  .exact h.2 j hj h3
  .obtain rfl:j=k:=o_
   exact hn⟩
def DZ (h:kh ks m k) (hk:k<ks.length) (hn:od ks[k] (ks[m]'h.1)<0):kh ks k (k+1):=
 ⟨hk,λj hj h2 hc=>by
  by_cases h3:j<k
  .exact h.2 j hj h3 (by
    have a:=vC.swo.trans ks[j] ks[k] (ks[m]'h.1) (by simpa using hc) (by simpa using hn);simpa using a)
  .obtain rfl:j=k:=o_
   have:=vC.neg ks[j] ks[j];omega⟩
def Vr {W:WX} (A:Option WZ) (n c:Nat) (ks:List gR) (w:WX) (h:Ro.Row w 287 4 A n c (Xk ks)) (ao:ks.length=n) (h1:1<=n) (hn:n<=100000):
  WY Xb 180 #[S_ A n c,.func (.func 181) #[] #[]] w λe w'=> ∃(m:Nat) (hm:kh ks m n),e=R_ (A_ (ks[m]'hm.1).arr)/\Bw w w':=by
 have H:=Hd h.sl;have HL:=Hd ao;clear h ao;let ⟨w0,ae⟩:=nm (w.alloc (.cells #[I_ J_ 0,I_ J_ 0,I_ J_ 0,T_ ⟨#[]⟩] 287));have ak:Bw w w0:=by rw [ae];exact dL
 obtain ⟨ad,ba,rfl,aA,ab,bz⟩:=gR.at_ (H.o.below ak) (show 0<n by omega);have aM:=Hd ae;have bg:Xa (kh ks 0 1):=⟨ba,λj hj h2 hc=>by
  obtain rfl:j=0:=o_;have:=vC.neg ks[0] ks[0];omega⟩
 have aT:Xa (∃q,q=ks[0]):=⟨_,rfl⟩;let ⟨q,hq⟩:=aT.o;rw [<-hq] at bz;have aJ:=Hd hq;clear hq aT;obtain ⟨q0,q1,q2,q3⟩:=q;obtain ⟨c0,c1,c2,c3⟩:=bz
 dsimp only at c0 c1 c2 c3
 have hz:ad.add (0*4)=ad:=rfl;rw [hz] at c0 c1 c2 c3;clear hz;have a5:decide ((n:Int)<1)=WW:=dF;let ⟨w1,ai⟩:=nm (w0.alloc (.cells #[q0,q1,q2,q3] 287));have be:Xa (Bw w w1):=by rw [ai];exact ak.alloc ak.size _
 have bh:Xa (Xc w1 w.heap.size 287 #[I_ J_ 0,I_ J_ 0,I_ J_ 0,T_ ⟨#[]⟩]):=by rw [ai,ae];exact Xd Xe
 have af:=Hd (show Xc w1 (X_ (Y_ w)+1) 287 (ks[0]).arr from by
  rw [ai,<-aJ.o];have:=Xe (w:=w0) (t:=287) (cs:= #[q0,q1,q2,q3]);have bc:X_ (Y_ w0)=X_ (Y_ w)+1:=by rw [ae];simp
  rw [bc] at this;exact this)
 have aG:=Hd ai;clear ai;rw [ae] at c0 c1 c2 c3;clear ae ak aA ab;go_enter func180,ntmps180;go_wp2_with fail;rw [<-aM.o,<-aG.o];clear c0 c1 c2 c3 a5 aM aG aJ;go_loopw [6] (λvi wr=> ∃(k m:Nat),1<=k/\k<=n/\vi=I_ J_ k/\Xa (∃hm:kh ks m k,Xc wr (X_ (Y_ w)+1) 287 (ks[m]'hm.1).arr)/\Xa (Bw w wr)/\Xa (Xc wr w.heap.size 287 #[I_ J_ 0,I_ J_ 0,I_ J_ 0,T_ ⟨#[]⟩])) (λi _=>n - (intOf i).toNat)
 .exact ⟨1,0,o_,o_,rfl,Hd ⟨bg.o,af.o⟩,be,bh⟩
 .obtain ⟨k,m,hk1,hk,rfl,HM,HB,bw⟩:=hrel
  by_cases a6:k<n
  .let ⟨hm,F⟩:=HM.o
   let ⟨a7,hl,aK,aA,ab,bz⟩:=gR.at_ (H.o.below HB.o) a6;obtain rfl:ad=a7:=by simpa using aK
   have G:=Hd (zk hm hl);have ac:=Hd (DZ hm hl);have ah:Xa (∃q,q=ks[m]'hm.1):=⟨_,rfl⟩;let ⟨p,hp⟩:=ah.o;have aH:Xa (∃q,q=ks[k]):=⟨_,rfl⟩;let ⟨q,hq⟩:=aH.o;rw [<-hp] at F G ac;rw [<-hq] at bz G ac;have HP:=Hd hp;have HQ:=Hd hq;clear hp hq ah aH aK;have ay:=Hd (λX=>QB q p X);let ⟨V,hV⟩:=nm (od q p);rw [<-hV] at ay G ac;clear hV;obtain ⟨p0,p1,p2,p3⟩:=p;obtain ⟨q0,q1,q2,q3⟩:=q;unfold Xu at ay F;obtain ⟨x0,x1,x2,x3⟩:=bz
   dsimp only at x0 x1 x2 x3 ay F
   have a8:=Hd F;refine lI ?_;intro hw;have al:Xa ((ad.add (k*4)).block<X_ (Y_ wr)):=Nat.lt_of_lt_of_le ab HB.o.size;have HF:=Hd (show∀wx,Bw wr wx->(wx.cell? (ad.add (k*4))=Y' (I_ J_ q0)/\wx.cell? {block:=(ad.add (k*4)).block,off:=(ad.add (k*4)).off+1}=Y' (I_ J_ q1)/\wx.cell? {block:=(ad.add (k*4)).block,off:=(ad.add (k*4)).off+2}=Y' (I_ J_ q2)/\wx.cell? {block:=(ad.add (k*4)).block,off:=(ad.add (k*4)).off+3}=Y' (T_ q3))/\C wx (X_ (Y_ w)+1) 0 p0/\C wx (X_ (Y_ w)+1) 1 p1/\C wx (X_ (Y_ w)+1) 2 p2/\C wx (X_ (Y_ w)+1) 3 p3 from λwx O=>by
    have k2:=a8.o.a_ O;exact ⟨⟨(O.cell (p:=ad.add (k*4)) al.o).trans x0,(O.cell (p:={block:=(ad.add (k*4)).block,off:=(ad.add (k*4)).off+1}) al.o).trans x1,(O.cell (p:={block:=(ad.add (k*4)).block,off:=(ad.add (k*4)).off+2}) al.o).trans x2,(O.cell (p:={block:=(ad.add (k*4)).block,off:=(ad.add (k*4)).off+3}) al.o).trans x3⟩,k2.cell 0,k2.cell 1,k2.cell 2,k2.cell 3⟩)
   clear x0 x1 x2 x3 F HM aA ab;go_upto_region 7 with fail;refine Xq (S:=λwx=>Bw wr wx) k_ ?_;refine Xv 2 b_.drew [0,1,2,3,4,5] ?_
   iterate 6 (refine Xw rfl (λK' I=>?_);go_simp;(first|refine I _ ?_;clear I K'|constructor;refine ⟨λwx O=>?_,I _ ?_⟩;(let ⟨⟨a0,a1,a2,a3⟩,b0,b1,b2,b3⟩:=HF.o wx O;go_simp<;>rfl);clear I K'))
   refine dm.ee ?_;refine Xr 6 1 ?_;refine Xn ?_;refine (ay.o _).mono ?_;rintro e w2 ⟨rfl,aa⟩;have ar:Bw wr w2:=b_.drew.trans aa.below;have bm:=Hd ar;clear aa;refine ⟨_,rfl,ar,?_⟩;clear ar;refine Xs 0 bm.o [7] ?_;refine dm.fi ?_;obtain ⟨⟨a0,a1,a2,a3⟩,-⟩:=HF.o w2 bm.o;have aB:=Hd (HB.o.trans (bm.o.mono HB.o.size));have cS:=Hd (bw.o.a_ bm.o);have cC:=Hd (a8.o.a_ bm.o);clear HF a8;by_cases hV:V<0
   .have hd:decide (V<0)=Z':=decide_eq_true hV
    have U:=ac.o hV;have ax:=Hd U;clear U;go_wp2_with (refine Xm rfl 287 _ _ rfl (X_ (Y_ w)+1) 0 #[q0,q1,q2,q3] rfl rfl cC.o y_ k_ v_ ?_;intro w9 b9 o9;have aY:=Hd b9;have a9:=Hd (eU.fA cS.o o9 y_);have a4:=Hd (aB.o.trans (o9.below aB.o.size (λk hk e=>o_)));clear b9 o9 a0 a1 a2 a3)
    go_roundw
    .exact ⟨k+1,k,o_,o_,by go_num,Hd ⟨ax.o,by rw [<-HQ.o];exact aY.o⟩,a4,a9⟩
    .simp [intOf];omega
   .have hd:decide (V<0)=WW:=decide_eq_false hV
    have U:=G.o hV;have ax:=Hd U;clear U a0 a1 a2 a3;go_wp2;go_roundw
    .exact ⟨k+1,m,o_,o_,by go_num,Hd ⟨ax.o,by rw [<-HP.o];exact cC.o⟩,aB,cS⟩
    .simp [intOf];omega
  .obtain rfl:k=n:=o_
   let ⟨hm,F⟩:=HM.o;have ah:Xa (∃q,q=ks[m]'hm.1):=⟨_,rfl⟩;let ⟨p,hp⟩:=ah.o;rw [<-hp] at F;have HP:=Hd hp;have bf:=Hd hm;clear hp ah;obtain ⟨p0,p1,p2,p3⟩:=p;unfold Xu at F
   dsimp only at F
   obtain ⟨x0,x1,x2,x3,-⟩:=kA F;have aF:Xa (∀w9,Ro.dt (λb=>b=X_ (Y_ w)) wr w9-> ∃(m:Nat) (hm:kh ks m k),(Xj (A_ #[p0,p1,p2,p3]))=R_ (A_ (ks[m]'hm.1).arr)/\Bw w w9):=λw9 h9=>⟨m,bf.o,by rw [<-HP.o];rfl,HB.o.trans (h9.below HB.o.size (λb hb e=>o_))⟩
   clear F HM;go_wp2_with (refine Xm rfl 287 _ _ rfl w.heap.size 0 #[p0,p1,p2,p3] rfl rfl bw.o y_ k_ v_ ?_;intro w9 b9 o9;have v0:C w9 w.heap.size 0 p0:=b9.cell 0;have v1:C w9 w.heap.size 1 p1:=b9.cell 1;have v2:C w9 w.heap.size 2 p2:=b9.cell 2;have v3:C w9 w.heap.size 3 p3:=b9.cell 3;have HG:=Hd (aF.o _ o9);clear b9 o9 x0 x1 x2 x3)
   refine bodyPost_ret (v:=A_ #[p0,p1,p2,p3]) (by simp [*,results,results180,go_sem]) rfl HG.o
def iV (sg:Int) (l:List dq) (us:List et):List gR:=(l.filter jE).map λe=>lB sg e.dC us
def WS:Mem.El Xb 284 287 (A_ #[I_ J_ 0,I_ J_ 0,I_ J_ 0,T_ ⟨#[]⟩]) 4 40:=⟨underlying284,k_,rfl,d_⟩
def zo (sg:Int) (l:List dq) (us:List et) (k:Nat) (h:k<l.length):iV sg (l.take (k+1)) us=iV sg (l.take k) us++if jE l[k] then [lB sg l[k].dC us] else []:=by
 unfold iV;rw [Mem.dQ l k h,List.filter_append,List.map_append]
 congr 1
 by_cases F:jE l[k]=Z'
 .rw [if_pos F,List.filter_cons_of_pos F];rfl
 .rw [if_neg F,List.filter_cons_of_neg F];rfl
def Sx (sg t a0 a1 a2:Int) (A AU:Option WZ) (n c nU cU:Nat) (l:List dq) (us:List et) (w:WX) (h:Xi w w.heap.size 12 A n (dq.flat l)) (aT:l.length=n) (hn:n<=10000) (hu:Xi w w.heap.size 4 AU nU (Xl us)) (hr:du.dY (iK us)) (aE:us.length=nU) (av:nU<=1000000)
  (hs:sg=0\/sg=1\/sg=2) (hx: ∀e∈l,-9223372036854775808<=jU sg e.dC us/\jU sg e.dC us<=9223372036854775807):
  WY Xb 179 #[sg,S_ A n c,A_ (xY t a0 a1 a2 AU nU cU)] w λe w'=> ∃(A':Option WZ) (n' c':Nat),e=R_ (S_ A' n' c')/\eF w w' 287 4 A' n' c' (Xk (iV sg l us)):=by
 have H:=Hd h;have HU:=Hd hu;have aA:=Hd (λ(e:dq) (he:e∈l) X (hX:Xi X X.heap.size 4 AU nU (Xl us))=>Lq sg e.dC t a0 a1 a2 AU nU cU us X hX hr aE av hs (hx e he));unfold xY at aA |-;clear h hu hr aE av hs hx;let ⟨w1,ae⟩:=nm (w.alloc (.cells #[t,a0,a1,a2,S_ AU nU cU] 98));have I:Xa (Bw w w1):=by rw [ae];exact dL
 have aO:Xa (Xc w1 w.heap.size 98 #[t,a0,a1,a2,S_ AU nU cU]):=by rw [ae];exact Xe
 have aI:=Hd ae;clear ae;go_enter func179,ntmps179;go_wp2_with fail;rw [<-aI.o];go_loopw [7,12] (λvo vi wr=> ∃(k n':Nat) (A':Option WZ) (c':Nat),k<=n/\n'<=k/\vi=I_ J_ k/\vo=S_ A' n' c'/\Xa (eF w1 wr 287 4 A' n' c' (Xk (iV sg (l.take k) us)))) (λ_ i _=>n - (intOf i).toNat)
 .exact AM
 .obtain ⟨k,n',A',c',hk,hn',rfl,rfl,F⟩:=hrel
  by_cases aM:k<n
  .have Hw:=Hd (I.trans (F.below.mono I.size))
   obtain ⟨ad,hl,rfl,aR,ax,af⟩:=dq.at_ (H.below Hw) aM;have HS:=Hd (zo sg l us k hl);have ab:=Hd (λX=>QE l[k] X);have V:=Hd (aA l[k] (g_ hl));generalize l[k]=q at*;obtain ⟨⟨id,ao,ai,r0,r1,r2,l0,l1,l2,eO,size⟩,ph⟩:=q;obtain ⟨c0,c1,c2,c3,c4,c5,c6,c7,c8,c9,lM,pv⟩:=af;unfold dq.arr at ab;unfold dz.arr at V
   dsimp only at c0 c1 c2 c3 c4 c5 c6 c7 c8 c9 lM pv ab V HS
   refine lI ?_;intro hw;let ⟨w2,G⟩:=nm (wr.alloc (.cells #[id,ao,ai,r0,r1,r2,l0,l1,l2,eO,size,ph] 58));have aC:Bw wr w2:=by rw [G];exact dL
   have ag:=Hd (F.free aC);have az:Xa (Xc w2 wr.heap.size 58 #[id,ao,ai,r0,r1,r2,l0,l1,l2,eO,size,ph]):=by rw [G];exact Xe
   have aD:=Hd G;generalize jE ⟨⟨id,ao,ai,r0,r1,r2,l0,l1,l2,eO,size⟩,ph⟩=b at*;clear hl aR ax aC G F;go_wp2_with fail;rw [<-aD.o];refine (ab _).mono ?_;rintro e w3 ⟨rfl,ac⟩;have O:=Hd (ag.free ac);have aL:=Hd (az.a_ ac);have aJ:=Hd (aO.a_ O.below);have aS:=Hd ((HU.below (I.trans (O.below.mono I.size))).more (I.trans (O.below.mono I.size)).size);clear ac c0 c1 c2 c3 c4 c5 c6 c7 c8 c9 lM pv ag az aD ab;cases b with
   |false=>
    have ah:Xa (eF w1 w3 287 4 A' n' c' (Xk (iV sg (l.take (k+1)) us))):=by rw [HS.o,if_neg d_,Xg];exact O
    clear HS V;exact CX
   |true=>
    have aB:=Hd (V w3 aS);have HKV:Xa ((lB sg ⟨id,ao,ai,r0,r1,r2,l0,l1,l2,eO,size⟩ us).arr.toList=(lB sg ⟨id,ao,ai,r0,r1,r2,l0,l1,l2,eO,size⟩ us).cells):=rfl;generalize lB sg ⟨id,ao,ai,r0,r1,r2,l0,l1,l2,eO,size⟩ us=kv at*;obtain ⟨e0,e1,e2,e3,e4,e5,e6,e7,e8,e9,aQ,-⟩:=kA aL;obtain ⟨s0,s1,s2,s3,s4,-⟩:=kA aJ;go_wp2_with fail;clear e0 e1 e2 e3 e4 e5 e6 e7 e8 e9 aQ s0 s1 s2 s3 s4;refine aB.mono ?_;rintro e w4 ⟨rfl,au⟩;obtain ⟨A3,aw,w5,hr,aG,-⟩:=(O.free au).push WS kv.arr rfl (by simp [Xu,Value.oneCell']) o_ d_ rfl;have ah:Xa (eF w1 w5 287 4 A3 (n'+1) aw (Xk (iV sg (l.take (k+1)) us))):=(by
     rw [HS.o,if_pos d_,gR.eH];exact aG)
    clear au aG HS V aB;obtain ⟨v0,v1,v2,v3⟩:=kv;unfold Xu at hr |-
    dsimp only at hr |-
    refine pN ?_;exact AP
  .obtain rfl:k=n:=o_
   have U:=F.o;rw [t_ o_] at U;have HF:Xa (∃(A1:Option WZ) (n1 c1:Nat),(Xj (S_ A' n' c'))=R_ (S_ A1 n1 c1)/\eF w wr 287 4 A1 n1 c1 (Xk (iV sg l us))):=⟨A',n',c',rfl,I.trans (U.below.mono I.size),U.row,λb h=>Nat.le_trans I.size (U.fresh b h)⟩;clear U;go_wp2;go_ret;exact HF
def Sy (a b c:Int) (s:ByteArray) (X:WX):(Instr.field 287 (A_ #[a,b,c,s]) 3).run Xb X= .ok (T_ s) X:=by
 have G:=sizeOf9;have F:=isAgg9;simp [Instr.field,run_underlying underlying287,go_sem,G,F,asAgg]
def pt (sg:Int) (l:List dq) (us:List et) (W:WX) (e:Ending) (w':WX):Prop:=
 Bw W w'/\((l.filter jE=[]/\e=R_ (U_ #[T_ ⟨#[]⟩,B_ WW]))\/
  ∃x∈l,jE x=Z'/\e=R_ (U_ #[x.dC.id,B_ Z'])/\ ∀y∈l,jE y=Z'-> ¬od (lB sg y.dC us) (lB sg x.dC us)<0)
def Ly (sg t a0 a1 a2:Int) (A AU:Option WZ) (n c nU cU:Nat) (l:List dq) (us:List et) (w:WX) (h:Xi w w.heap.size 12 A n (dq.flat l)) (aT:l.length=n) (hn:n<=10000) (hu:Xi w w.heap.size 4 AU nU (Xl us)) (hr:du.dY (iK us)) (aE:us.length=nU) (av:nU<=1000000)
  (hs:sg=0\/sg=1\/sg=2) (hx: ∀e∈l,-9223372036854775808<=jU sg e.dC us/\jU sg e.dC us<=9223372036854775807):
  WY Xb 124 #[sg,S_ A n c,A_ (xY t a0 a1 a2 AU nU cU)] w (pt sg l us w):=by
 have HK:=Hd (λX (h:Xi X X.heap.size 12 A n (dq.flat l)) (hu:Xi X X.heap.size 4 AU nU (Xl us))=>Sx sg t a0 a1 a2 A AU n c nU cU l us X h aT hn hu hr aE av hs hx);have H:=Hd h;have HU:=Hd hu;have HN:Xa ((l.filter jE).length<=n):=by rw [<-aT];exact List.length_filter_le _ _
 unfold xY at HK |-;clear h hu hr aE av hs hx aT;let ⟨w1,V⟩:=nm (w.alloc (.cells #[t,a0,a1,a2,S_ AU nU cU] 98));have G:Xa (Bw w w1):=by rw [V];exact dL
 have aw:=Hd V;have ar:=Hd (HK w1 ((H.below G).more G.size) ((HU.below G).more G.size));clear V HK;go_enter func124,ntmps124;go_wp2_with fail;rw [<-aw.o];refine ar.mono ?_;rintro e w2 ⟨A2,n2,c2,rfl,O⟩;have az:=Hd O;have F:(iV sg l us).length=n2:=by have:=O.row.len;rw [gR.dO] at this;omega
 have hn2:n2<=10000:=by
  have:=HN.o;unfold iV at F;rw [Xp] at F;omega
 have aa:=Hd (G.trans (O.below.mono G.size));have ab:=Hd F;clear O F;by_cases hz:n2=0
 .subst hz
  have HF:Xa (pt sg l us w (R_ (U_ #[T_ ⟨#[]⟩,B_ WW])) w2):=⟨aa,.inl ⟨by
   have:=ab.o;unfold iV at this;rw [Xp] at this;exact List.eq_nil_of_length_eq_zero this,rfl⟩⟩
  go_wp2;refine bodyPost_ret (v:=U_ #[T_ ⟨#[]⟩,B_ WW]) (by simp [results,results124,go_sem]) rfl HF
 .have hz2:((n2:Int)==0)=WW:=beq_eq_false_iff_ne.2 o_
  have HM:=Hd (Vr (W:=w) A2 n2 c2 (iV sg l us) w2 az.row ab o_ o_);go_wp2_with fail;refine HM.mono ?_;rintro e w3 ⟨m,hm,rfl,af⟩;have HF:Xa (pt sg l us w (R_ (U_ #[T_ ((iV sg l us)[m]'hm.1).id,B_ Z'])) w3):=(by
   let ⟨au,ag⟩:=hm;have ak:(iV sg l us)[m]∈iV sg l us:=g_ au;unfold iV at ak;let ⟨x,hx,aC⟩:=List.mem_map.1 ak;let ⟨aB,ax⟩:=Xo.1 hx;have ai:(iV sg l us)[m]=lB sg x.dC us:=aC.symm;refine ⟨aa.trans (af.mono aa.size),.inr ⟨x,aB,ax,by rw [ai];rfl,λy hy ao=>?_⟩⟩;have ay:lB sg y.dC us∈iV sg l us:=List.mem_map.2 ⟨y,Xo.2 ⟨hy,ao⟩,rfl⟩;let ⟨j,hj,aA⟩:=List.getElem_of_mem ay;rw [<-aA,<-ai];exact ag j hj (by have:=ab.o;omega))
  generalize (iV sg l us)[m]'hm.1=kv at*;obtain ⟨v0,v1,v2,v3⟩:=kv;unfold Xu
  dsimp only at HF |-
  clear af HM;have hfk:=λX=>Sy v0 v1 v2 v3 X
  go_wp2;refine bodyPost_ret (v:=U_ #[v3,B_ Z']) (by simp [results,results124,go_sem]) rfl HF
end Tw
end
end Go.Proofs.YtkidababfdehlaaGreatDoor
