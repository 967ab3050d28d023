/- Parts of the walk. -/
import Derived.Test.YtkidababfdehlaaGreatDoorQBe
set_option linter.all false
set_option maxRecDepth 100000
set_option maxHeartbeats 64000000
namespace Go.Proofs.YtkidababfdehlaaGreatDoor
open Value renaming int -> I_,bool -> B_,string -> T_,slice -> S_,pointer -> P_,tuple -> U_,agg -> A_
open IntKind renaming i64 -> J_
open Ending renaming returned -> R_
open Bool renaming false -> X_
open Mem.c_ renaming new -> Y_
variable {l:List dq} {F e:dq}
section
open _root_.Go.Proofs.Tryz Go.RowKit Wo Tx Ta Rd Tq Nu
namespace Nd
def Em (G:du.dY (eo l)) (h:e∈l) (O:F∈l) (U:e.dC.id=F.dC.id):e=F:=by
 obtain ⟨_,a1,a2⟩:=jA G h;obtain ⟨_,b1,b2⟩:=jA G O;have I:l[du.pos (eo l) e.dC.id]?=some e:=List.getElem?_eq_some_iff.2 ⟨a1,a2⟩;have b3:l[du.pos (eo l) F.dC.id]?=some F:=List.getElem?_eq_some_iff.2 ⟨b1,b2⟩;rw [U,b3] at I;exact (q_ I).symm
def vH {p:Prop} (h:p:=by
 go_wp2_with fail;go_roundw
 .exact ⟨i+1,o_,by go_num,aN.o⟩
 .simp [intOf];omega):p:=h
def Ed (p:ef) (dD:List dA) (A:Option Addr) (n c:Nat) (l:List dI) (w:World) (hp:p.ok w w.heap.size dD) (h:Mem.Sl w w.heap.size 21 A n (dI.flat l)) (aF: ∀x∈l,x.ok/\dI.gG w w.heap.size x) (aO:l.length=n) (hn:n<=maxLen) (hg:Gl w):
  Calls prog 3 #[A_ p.arr,S_ A n c] w λe w'=>e=R_ (B_ true)/\Bw w w':=by
 obtain ⟨w1,aE⟩:=nm (w.alloc (.cells p.arr 25));have aN:Hid (Bw w w1):=by rw [aE];exact dL
 refine VG ?_;intro cJ aW bD a9 cu H HL HN;clear h aF hp hg;generalize zq p dD=MD at*;generalize gu.fK p dD=FR at*;unfold ef.arr at*;obtain ⟨k0,k1,k2,a0,a1,a2,cA,cn,cc,fg,ret,fE,dead⟩:=p
 dsimp only at*
 go_enter func3,ntmps3;go_upto_region 1 with fail;rw [<-aE];clear aE;go_wp2_with fail;refine (aW.o w1 aN.o).mono ?_;refine xZ ?_;intro w2 b9 b8;have cm:=Hd (cJ.o.a_ b9);obtain ⟨HR,O,I,y0,y1,y2,y3,y4,y5,y6,y7,-⟩:=kA cm.o;have HF:=Hd (bD.o w2 b8.o);clear b9 cJ aN bD;go_wp2_with fail;refine HF.o.mono ?_;rintro e w3 ⟨b,rfl,h1,bu⟩;have ag:=Hd (b8.o.trans (bu.mono b8.o.size));have aS:=Hd (cm.o.a_ bu);clear HR O I y0 y1 y2 y3 y4 y5 y6 y7 bu cm b8 HF;cases b with
 |false=>
  exact SR
 |true=>
 obtain ⟨hR,hF⟩:=h1 rfl;have aY:=Hd hF;have da:n<=60:=by rw [<-aO];exact hF.1
 obtain ⟨HR,O,I,y0,y1,y2,y3,y4,y5,y6,y7,-⟩:=kA aS.o;have bj:=Hd (a9.o w3 hR ag.o);clear h1 hF hR a9 aW aS;go_wp2_with fail;refine bj.o.mono ?_;intro e w4 h4;obtain ⟨D,x,rt,rfl,aA,aM,bZ⟩:=cu.o w3 e w4 h4;have ak:=Hd (ag.o.trans (aA.mono ag.o.size));have bB:=Hd aM;have n3:=Hd bZ;clear HR O I y0 y1 y2 y3 y4 y5 y6 y7 h4 aA aM bZ bj cu ag;refine SS ?_;intro gn ab hpn;go_wp2_with fail;go_loopw [6] (λvi wr=> ∃(k:Nat) (x:AV) (rt:Wo.St) (o:Option No),k<=n/\vi=I_ J_ k/\Hid (Nk D wr k x rt o [] []/\o.isSome=SU (l.take k))) (λi _=>n - (intOf i).toNat)
 .exact ⟨0,x,rt,none,o_,rfl,n3.o,rfl⟩
 .clear n3
  obtain ⟨k,x,rt,o,hk,rfl,n3,cQ⟩:=hrel;have H5:=Hd cQ;obtain ⟨wo,cK⟩:=nm wr;subst cK;by_cases cp:k<n
  case neg=>
   obtain rfl:k=n:=o_;refine zt ?_;intro d0;exact SY
  case pos=>
   refine sy ?_;intro d0;refine lI ?_;intro hw;have aC:=Hd n3.pW;rw [<-ab.o] at aC;go_upto_region 9 with fail;go_wp2_with fail;refine aC.o.mono ?_;rintro e w5 ⟨A5,c5,he,bH,b5,b4⟩;unfold gF at he;subst he;have bf:=n3.kt b5 bH b4;obtain ⟨g7,au⟩:=nm (w5.heap.size);obtain ⟨w6,ae⟩:=nm (w5.alloc (.cells #[x.r,S_ A5 x.l.length c5,x.o0,x.o1,x.o2] 34));have a6:Hid (Nk D w6 k x rt o [(g7,34,#[x.r,S_ A5 x.l.length c5,x.o0,x.o1,x.o2])] [En x A5 c5]):=bf.ku (show Bw w5 w6 from by rw [ae];exact dL) (by rw [ae,au];exact Y_) (by rw [au];exact Nat.le_refl _);clear bH b5 b4 bf aC;go_upto_region 10 with fail;rw [<-ae,<-au];clear ae au;have cg:=Hd (ak.o.trans (a6.o.base.mono ak.o.size));obtain ⟨ad,hl,rfl,ap,aJ,aV⟩:=JO H.o cp;refine VH ?_;intro HS6 ac cy G;generalize l[k]=d at*;refine SZ ?_;intro HA5;have hxl:x.l.length<=64:=a6.o.st.1.len;clear hl ap aJ aV;go_wp2_with (refine pM rfl _ _ rfl (ad.add (k*21)) rfl d.arr _ HS6.o underlying51 rfl k_ ?_)
   refine HA5.o.mono ?_;rintro e w7 ⟨err,ev,x',rt',o',EA,ec,A',pc,⟨⟨z,z',hB6⟩,HT6⟩,HGT,rfl⟩;have bE:Hid (o'.isSome=SU (l.take (k+1))):=Hd (by rw [S' hB6,G.o,H5.o]);have aD:=Hd (Tb hB6);obtain ⟨g8,ax⟩:=nm (w7.heap.size);unfold kx;obtain ⟨w8,aI⟩:=nm (w7.alloc (.cells #[err,S_ EA ev.length ec,x'.r,S_ A' x'.l.length pc,x'.o0,x'.o1,x'.o2] 39));have HB0:Hid (Nk D w8 (k+1) x' rt' o' [(g8,39,#[err,S_ EA ev.length ec,x'.r,S_ A' x'.l.length pc,x'.o0,x'.o1,x'.o2]),(g7,34,#[x.r,S_ A5 x.l.length c5,x.o0,x.o1,x.o2])] [En x' A' pc,PF ev EA ec,En x A5 c5]):=HGT.ku (show Bw w7 w8 from by rw [aI];exact dL) (by rw [aI,ax];exact Y_) (by rw [ax];exact Nat.le_refl _);clear hB6 HT6 HGT HA5 G HS6;go_upto_region 11 with fail;rw [<-aI,<-ax];clear aI ax;have y4:C w8 g7 1 (S_ A5 x.l.length c5):=(HB0.o.dr (n_ _ (m_ ..))).cell 1;have HT3:Hid (Ro.Row w8 58 12 A5 x.l.length c5 (dq.flat x.l)):=HB0.o.row (n_ _ (n_ _ (m_ ..)));have HB5:=Hd (JP A5 x.l.length c5 x.l w8 HT3.o.sl rfl o_);go_wp2_with fail;refine HB5.o.mono ?_;rintro e w9 ⟨A9,c9,rfl,hb2,HR5,HR4⟩;have br:Hid ((x.l.map λe=>e.dC.eO)=eE x.l):=rfl;generalize (x.l.map λe=>e.dC.eO)=us at*;have bX:=Hd hb2;have al:=Hd (HB0.o.below HR5);have cz:Hid (us.length=x.l.length):=Hd (by rw [br.o];unfold eE;rw [List.length_map]);have bz:=Hd n3.st;clear y4 HB5 hb2 HR5 HR4 HT3 HB0 a6 n3 H5;go_wp2_with fail;go_loopw [10] (λvi wr=> ∃i:Nat,i<=ev.length/\vi=I_ J_ i/\Hid (Bw w9 wr)) (λi _=>ev.length - (intOf i).toNat)
   .exact ⟨0,o_,rfl,Hd b_⟩
   .obtain ⟨i,hi,rfl,ao⟩:=hrel
    have az:=Hd (al.o.below ao.o);have y5:C wr g8 1 (S_ EA ev.length ec):=(az.o.dr (m_ ..)).cell 1;by_cases bA:i<ev.length
    case neg=>
     obtain rfl:i=ev.length:=o_;have e0:decide ((ev.length:Int)<ev.length)=X_:=dF;have HE:=Hd (az.o.sub (B':=[]) (R':=[]) (λ_ h=>(by cases h)) (λ_ h=>(by cases h)));clear al az ao;exact Tc
    case pos=>
     have e0:decide ((i:Int)<ev.length)=true:=dT;have ba:Hid (Ro.Row wr 55 4 EA ev.length ec (dX.flat ev)):=az.o.row (n_ _ (m_ ..));have b6:=ba.o.le;unfold maxLen at b6;have hwj:=Ta.fh (n:=(i:Int)+1) o_ o_;clear b6;obtain ⟨ad2,bV,rfl,_,_,bg⟩:=dX.at_ ba.o.sl bA;have HV:=Hd (aD.o ev[i] (g_ bV));generalize ev[i]=v at*;obtain ⟨vk,aw,vs,vn⟩:=v;obtain ⟨v0,v1,v2,v3⟩:=bg
     dsimp only at v0 v1 v2 v3
     obtain ⟨bO,hg6⟩:=nm (wr.heap.size);obtain ⟨af,hw6⟩:=nm (wr.alloc (.cells #[vk,aw,vs,vn] 55));have ai:Bw wr af:=by rw [hw6];exact dL
     have aP:=Hd (az.o.below ai);have ar:=Hd (ao.o.trans (ai.mono ao.o.size));have hE:Hid (Mem.c_ af bO 55 #[vk,aw,vs,vn]):=by rw [hw6,hg6];exact Y_
     clear bV ai ba az ao;go_upto_region 16 with fail;rw [<-hw6,<-hg6];clear hw6 hg6 v0 v1 v2 v3 y5;have aR:Hid (Mem.c_ af g7 34 #[x.r,S_ A5 x.l.length c5,x.o0,x.o1,x.o2]):=aP.o.dr (n_ _ (m_ ..));have aB:Hid (Ro.Row af 58 12 A5 x.l.length c5 (dq.flat x.l)):=aP.o.row (n_ _ (n_ _ (m_ ..)));have bc:=Hd (JQ x.r A5 x.l.length c5 x.o0 x.o1 x.o2 x.l aw af aB.o.sl rfl o_);unfold gF at bc;obtain ⟨t0,t1,t2,t3,t4,-⟩:=kA aR.o;have z1:C af bO 1 aw:=hE.o.cell 1;go_wp2_with fail;refine bc.o.mono ?_;rintro e bW ⟨⟨y,rfl,hf⟩,V⟩;have ah:=Hd hf;have aN:=Hd (ar.o.trans (V.mono ar.o.size));have HK8:=Hd (aR.o.a_ V);have bJ:=Hd (hE.o.a_ V);have F:=Hd (aB.o.dy λb hb=>V.block b (aB.o.lt hb));clear t0 t1 t2 t3 t4 z1 hf V bc aR hE aB ar aP;obtain ⟨t0,t1,t2,t3,t4,-⟩:=kA HK8.o;obtain ⟨z0,z1,z2,z3,-⟩:=kA bJ.o;have bm:=Hd (ak.o.trans (al.o.base.mono ak.o.size));by_cases h5:vk=5\/vk=2
     case pos=>
      obtain ⟨e,he,aX,bL⟩:=HV.o.o h5;rcases ah.o with ⟨jj,bq,hy,aK,_⟩|⟨_,aG⟩
      .subst hy
       have bh:x.l[jj].dC.fB=X_:=by
        rw [show x.l[jj]=e from Em bz.o.1.gQ (g_ bq) he (by rw [aK,aX])];exact bL
       obtain ⟨ad3,hl4,rfl,_,_,aL⟩:=dq.at_ F.o.sl bq;have q2:=aL.c2;rw [bh] at q2;have dj:decide ((jj:Int)<0)=X_:=dF;clear he aX bL aK bh aL F HV ah al aD ac;rcases h5 with rfl|rfl
       .exact vH
       .exact vH
      .exact absurd aX (aG e he)
     case neg=>
      have e5:(vk==5)=X_:=beq_eq_false_iff_ne.2 λc=>h5 (.inl c)
      have e2:(vk==2)=X_:=beq_eq_false_iff_ne.2 λc=>h5 (.inr c)
      clear h5;by_cases h3:vk=3
      case pos=>
       by_cases ay:vn=3
       case pos=>
        obtain ⟨bn,bN,hs⟩:=HV.o.Wt h3 ay;subst h3 ay;have an:=ac.o.1.below (bm.o.trans (aN.o.mono bm.o.size)) ac.o.2;have a0:=an.c0;have a3:=an.c3;rw [bn] at a0;rw [bN] at a3;clear bn bN an HV ah al aD ac F e5 e2;rcases hs with ⟨rfl,ho⟩|⟨rfl,ho⟩|⟨rfl,ho⟩
        .rw [ho] at t2
         clear ho;exact vH
        .rw [ho] at t3
         clear ho;exact vH
        .rw [ho] at t4
         clear ho;exact vH
       case neg=>
        subst h3;have e3:(vn==3)=X_:=beq_eq_false_iff_ne.2 ay;clear ay HV ah al aD ac F;exact vH
      case neg=>
       have e3:(vk==3)=X_:=beq_eq_false_iff_ne.2 h3;clear h3;by_cases aQ:vk=14
       case pos=>
        subst aQ;have aG:du.has us aw=X_:=by
         cases hh:du.has us aw
         .rfl
         .exact absurd (by rw [<-br.o];exact du.fO.1 hh) (HV.o.eO rfl)
        have HS:=Hd (Wo.PG A9 us.length c9 bW.heap.size us aw bW (bX.o.dy λb hb=>aN.o.block b (bX.o.lt hb)).sl (by have:=cz.o;omega));rw [aG] at HS;clear aG HV ah al aD ac F;go_wp2_with fail;refine HS.o.mono ?_;rintro e w13 ⟨rfl,rfl⟩;clear HS;exact vH
       case neg=>
        have e14:(vk==14)=X_:=beq_eq_false_iff_ne.2 aQ;clear aQ HV ah al aD ac F;exact vH
end Nd
end
end Go.Proofs.YtkidababfdehlaaGreatDoor
