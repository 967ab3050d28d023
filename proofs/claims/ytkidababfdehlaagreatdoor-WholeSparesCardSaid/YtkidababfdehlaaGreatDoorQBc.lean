/- Parts of the walk. -/
import Derived.Test.YtkidababfdehlaaGreatDoorQBb
set_option linter.all false
set_option maxRecDepth 100000
set_option maxHeartbeats 64000000
namespace Go.Proofs.YtkidababfdehlaaGreatDoor
open Value renaming int -> I_,bool -> B_,string -> T_,slice -> S_,pointer -> P_,tuple -> U_,agg -> A_
open IntKind renaming i64 -> J_
open Ending renaming returned -> R_
open _root_.Array renaming size -> X_
open Go.World renaming heap -> Y_
open Option renaming some -> Y',none -> Z_
open Bool renaming true -> Z',false -> WW
open Go renaming World -> WX,Value -> WY,Calls -> WZ,Addr -> Xa
open Go.RowKit renaming Hid -> Xb,Below -> Xc
open _root_.Go.Proofs.Tryz renaming prog -> Xd
open _root_.Go.RowKit.Hid renaming o -> Xe
open Wo renaming St -> Xf
open Go.Value renaming string -> Xg
open Ro.Row renaming nil -> Xh
open Mem.c_ renaming new -> Xi
open Ro renaming dr -> Xj,Row -> Xx
open And renaming intro -> Xk
open List renaming mem_or_eq_of_mem_set -> Xl,length_map -> Xp,length_zipWith -> Xs,getElem_of_mem -> Xt,mem_singleton -> Xv,length_append -> Xw,length_cons -> Xy
open dX renaming flat -> Xm
open Nat renaming le_trans -> Xn
open Exists renaming intro -> Xo
open du renaming has -> Xq
open Mem renaming c_ -> Xr
open Go.World renaming drew -> Xu
open Go.RowKit.Below renaming heap_alloc -> Xz
open fC renaming frame -> XA
open Fl renaming rdv -> XB
open eU renaming eI -> XC
open Bs renaming Bs -> XD
open dm renaming val -> XE,tk -> XF,on -> XG
open Ck renaming dV -> XH
variable {cs:Array WY} {f h m:Bool} {s:ByteArray} {e:Ending} {F last r:Int} {e3 ev:List dX} {G O l l':List dq} {c g j k n:Nat} {A:Option Xa} {q:Prop} {w' w1:WX}
open _root_.Go.Proofs.Tryz Go.RowKit Wo Tx Ta Rd
section
namespace Nd
def Tf (x:AV) (w:WX) (e:Ending) (w':WX):Prop:= ∃(A:Option Xa) (c:Nat),e=R_ (A_ (gF x.r A x.l.length c x.o0 x.o1 x.o2))/\jJ w' A x.l.length c x.l/\Bw w w'/\ ∀b,Xj A=Y' b->X_ (Y_ w)<=b
def jo (x:AV):List fC.dE:=(eK x.r x.o0 x.o1 x.o2 x.l).map UInt8.toBitVec
def Dl (x:AV):(jo x).length=(eK x.r x.o0 x.o1 x.o2 x.l).length:=by simp [jo]
def pF (l:List UInt8):(l.map UInt8.toBitVec).map Bs.bv=l.map uv:=by rw [List.map_map];rfl
section
variable {C:Cx} {w w':WX} {b' col':Nat->Nat} {rt rt':Xf} {x x':AV} {B:BL} {R:List RK} {m:Option (List fC.dE)} {s':Dk.Ds} {v':Int}
def pW (h:Aq C rt x B R w) (hl:x.l.length<=1000):
  WZ Xd 21 #[P_ (Y' ⟨C.ga,0,Z_⟩)] w (Tf x w):=by
 obtain ⟨w0,hw0⟩:=nm (w.alloc (.cells (gF 0 Z_ 0 0 WW WW WW) 34));have HB0:Xb (Bw w w0):=by rw [hw0];exact dL
 have HS0:=Hd ((h.below HB0).as []);have n13:w0.cell? ⟨C.ga,13,Z_⟩=Y' (I_ J_ x.r):=HS0.a 13 d_;have n14:w0.cell? ⟨C.ga,14,Z_⟩=Y' (S_ x.PA x.l.length x.pc):=HS0.a 14 d_;have n15:w0.cell? ⟨C.ga,15,Z_⟩=Y' (B_ x.o0):=HS0.a 15 d_;have n16:w0.cell? ⟨C.ga,16,Z_⟩=Y' (B_ x.o1):=HS0.a 16 d_;have n17:w0.cell? ⟨C.ga,17,Z_⟩=Y' (B_ x.o2):=HS0.a 17 d_;obtain ⟨w1,hw1⟩:=nm (w0.alloc (.cells (gF x.r x.PA x.l.length x.pc x.o0 x.o1 x.o2) 34));have HB1:Xb (Bw w w1):=by rw [hw1];exact HB0.alloc HB0.size _
 have HKa:Xb (Xr w1 w.heap.size 34 (gF 0 Z_ 0 0 WW WW WW)):=by rw [hw1,hw0];exact Mem.c_.alloc Xi
 have HKb:Xb (Xr w1 (X_ (Y_ w)+1) 34 (gF x.r x.PA x.l.length x.pc x.o0 x.o1 x.o2)):=Hd (by rw [hw1,hw0];have:=Xi (w:=w.alloc (.cells (gF 0 Z_ 0 0 WW WW WW) 34)) (t:=34) (cs:=gF x.r x.PA x.l.length x.pc x.o0 x.o1 x.o2);simpa using this);have H1:=Hd (h.below HB1);have HC:=Hd (oi x.PA x.l.length x.pc x.l w1 H1.gT.sl o_ (gy H1.gT));have hz:=HB1.size;unfold gF at HKa HKb hw1 hw0;have HZ0:Xb (X_ (Y_ w0)=X_ (Y_ w)+1):=Hd (by rw [hw0];simp);clear h HS0 HB0;obtain ⟨gz,(HGZ:Xb _)⟩:=nm (X_ (Y_ w));go_enter func21,ntmps21;go_upto_region 1 with fail;rw [<-hw0];clear hw0;go_upto_region 2 with fail;rw [HZ0.o,<-hw1];have b1:w1.cell? ⟨X_ (Y_ w)+1,1,Z_⟩=Y' (S_ x.PA x.l.length x.pc):=HKb.cell 1;clear n13 n14 n15 n16 n17 hw1;go_wp2_with fail;refine HC.mono ?_;rintro e w2 ⟨A',c',rfl,hr,hb2,hA⟩;have K2:=HKb.a_ hb2;have Z2:=HKa.a_ hb2;have b0:w2.cell? ⟨X_ (Y_ w)+1,0,Z_⟩=Y' (I_ J_ x.r):=K2.cell 0;have b1':w2.cell? ⟨X_ (Y_ w)+1,1,Z_⟩=Y' (S_ x.PA x.l.length x.pc):=K2.cell 1;have b2:w2.cell? ⟨X_ (Y_ w)+1,2,Z_⟩=Y' (B_ x.o0):=K2.cell 2;have b3:w2.cell? ⟨X_ (Y_ w)+1,3,Z_⟩=Y' (B_ x.o1):=K2.cell 3;have b4:w2.cell? ⟨X_ (Y_ w)+1,4,Z_⟩=Y' (B_ x.o2):=K2.cell 4;have bz:=K2.frozen;have z0:w2.cell? ⟨X_ (Y_ w),0,Z_⟩=Y' (I_ J_ 0):=Z2.cell 0;have z1:w2.cell? ⟨X_ (Y_ w),1,Z_⟩=Y' (S_ Z_ 0 0):=Z2.cell 1;have z2:w2.cell? ⟨X_ (Y_ w),2,Z_⟩=Y' (B_ WW):=Z2.cell 2;have z3:w2.cell? ⟨X_ (Y_ w),3,Z_⟩=Y' (B_ WW):=Z2.cell 3;have z4:w2.cell? ⟨X_ (Y_ w),4,Z_⟩=Y' (B_ WW):=Z2.cell 4;have zz:=Z2.frozen;have hb:=HB1.trans (hb2.mono HB1.size);have hne: ∀b,Xj A'=Y' b->b≠X_ (Y_ w)/\b≠X_ (Y_ w)+1:=λb hb=>by have:=hA b hb;have:=HKb.o.lt;omega
 have hq:=zQ (w:=w) w.heap.size x.r x.o0 x.o1 x.o2 (hb.setCell (p:=⟨X_ (Y_ w)+1,1,Z_⟩) (by show w.heap.size<=X_ (Y_ w)+1;omega) (S_ A' x.l.length c')) (hr.only (Ro.dt.setCell _ _ _) (λb hk e=>(hne b hk).2 e)) (λb hk=>(hne b hk).1) l_;have HQ:=Hd hq;have HA:Xb (∀b,Xj A'=Y' b->X_ (Y_ w)<=b):=λb hb=>Xn hz (hA b hb)
 clear K2 Z2 hb hne hq hb2 hA hr HC HB1 HKa HKb H1 b1 HGZ;go_wp2_with fail;refine bodyPost_ret (v:=A_ #[I_ J_ x.r,S_ A' x.l.length c',B_ x.o0,B_ x.o1,B_ x.o2]) (by simp [results,results21,go_sem, *]) rfl ⟨A',c',rfl,?_,?_,HA⟩
 .exact HQ.1
 .exact HQ.2
def Rk (h:Aq C rt x B R w) (q:Int) (r:Nat) (O:min (max q 0) 4=(r:Int)):
  WZ Xd 24 #[P_ (Y' ⟨C.ga,0,Z_⟩),q] w λe w'=>e=R_ (U_ #[])/\Aq C rt {x with eB:=r} B R w':=by
 have H:=Hd h;have V:=Hd O;clear h O;go_enter func24,ntmps24;go_wp2_with fail;refine (Ck.Bl _).mono ?_;rintro e w1 ⟨rfl,bb⟩;have H1:=Hd (H.below bb);have G: ∃v,w1.cell? ⟨C.ga,28,Z_⟩=Y' v:=⟨_,(H1.as []).a 28 d_⟩;obtain ⟨v28,G⟩:=G;have f28:=H1.oD 28;have O:=V.o;clear bb H;go_wp2_with fail;refine bodyPost_end (results_none rfl _ _ _) rfl ⟨rfl,?_⟩;have I:=H1.Mx (r:Int)
 first|exact I|(rw [<-V.o] at I |-;exact I)
def AN.UQ (h:AN C b' rt x B R w) (hs:Sys C.W w' col' C.gd C.sb C.gw s' v' rt) (t:dJ (λc=>c<=1\/c=5) C.W w w' b' col'):AN {C with s:=s',v:=v'} col' rt x B R w':=
 h.gA ⟨hs,h.n.ag.ed t d_⟩ t d_
def Wy {C:Cx} (t:dJ (λc=>c<=1\/c=5) C.W w w' b' col'):dJ aj C.W w w' b' col':=t.mono λc hc=>⟨o_,o_⟩
def Aq.part {body:List fC.dE} (h:Aq C rt x B R w) (hs:C.s=⟨XH m Z_,[]⟩) (hv:0<=C.v/\C.v<4294967295) (V:Ck.mq m) (hB:XD w w.heap.size A n body) (hn:n<=90000) (q:Int) (r:Nat) (O:r<=4) (hq:min (max q 0) 4=(r:Int)):
  WZ Xd 102 #[P_ (Y' ⟨C.sb,0,Z_⟩),S_ A n c,q] w λe w'=>e=R_ (I_ J_ 0)/\Aq {C with s:=Ck.ij (XA (C.v+1) body) m r,v:=Ck.yy C.v r} rt x B R w':=by
 obtain ⟨b',h,t⟩:=h;have F:=h.n.sys.ck;rw [hs] at F;refine (Ck.uU (c:=c) F (λx U=>(nC U).2.2) hv V hB hn q r O hq).mono ?_;rintro e w' ⟨X,hc⟩;obtain ⟨col',I,G⟩:=h.n.sys.Ey hc;exact ⟨X,col',h.UQ I G,t.trans (Wy G)⟩
def Aq.save {body:List fC.dE} (h:Aq C rt x B R w) (hs:C.s=⟨XH m Z_,[]⟩) (hv:0<=C.v/\C.v<4294967295) (U:Ck.mq m) (X:XD w w.heap.size A n body) (hn:n<=90000):
  WZ Xd 103 #[P_ (Y' ⟨C.sb,0,Z_⟩),S_ A n c] w λe w'=>e=R_ (I_ J_ 0)/\Aq {C with s:=⟨XH (Y' (XA (C.v+1) body)) Z_,[]⟩,v:=C.v+1} rt x B R w':=by
 obtain ⟨b',h,t⟩:=h;have F:=h.n.sys.ck;rw [hs] at F;refine (Ck.Rv (c:=c) F (λx O=>(nC O).2.2) hv U X hn).mono ?_;rintro e w' ⟨V,hc⟩;obtain ⟨col',I,G⟩:=h.n.sys.Ey hc;exact ⟨V,col',h.UQ I G,t.trans (Wy G)⟩
def OX {p:Prop} (k:q) (h:Wq q->p:=by
 intro kq;have HFU:=Hd hf;have H:=Hd h;have HP:=Hd (Qh x.r x.PA x.l.length x.pc x.o0 x.o1 x.o2 x.l w h.gT.sl rfl hS hok);have hln:=(jn (o0:=x.o0) (o1:=x.o1) (o2:=x.o2) hS).2;have HX:=Hd (And.intro hs (And.intro hv hm));have HS0:=Hd (h.as [])
 revert HFU H HP hln HX HS0
 exact kq.o):p:=h ⟨k⟩
def KR (h:Aq C rt x B R w) (hS:eJ x.r x.l) (hok: ∀e∈x.l,e.ok) (hs:C.s=⟨XH m Z_,[]⟩) (hv:0<=C.v/\C.v<4294967295) (hm:Ck.mq m) (hf:x.eB= -1) (EA:Option Xa) (n ec:Nat):
  WZ Xd 60 #[P_ (Y' ⟨C.ga,0,Z_⟩),S_ EA n ec] w λe w'=>e=R_ (U_ #[S_ EA n ec,I_ J_ 0])/\Aq {C with s:=⟨XH (Y' (XA (C.v+1) (jo x))) Z_,[]⟩,v:=C.v+1} rt x B R w':=by
 refine OX ?_;intro HFU H HP hln HX HS0;clear hf;refine OY ?_;intro n13 n14 n15 n16 n17;unfold gF at HP;obtain ⟨nb,hnb⟩:=nm ((eK x.r x.o0 x.o1 x.o2 x.l).length);rw [<-hnb] at HP hln;clear h hS hok hs hv hm HS0 hnb;go_enter func60,ntmps60;go_wp2_with fail;refine HP.mono ?_;rintro e w1 ⟨A1,c1,rfl,hb⟩;have H1:=Hd (H.below hb.below);have HB:=Hd (show XD w1 w1.heap.size A1 nb (jo x) from by
  have:=hb.row.sl;unfold XD jo;rw [pF];exact this)
 have n28:w1.cell? ⟨C.ga,28,Z_⟩=Y' (I_ J_ x.eB):=(H1.as []).a 28 d_;have n12:w1.cell? ⟨C.ga,12,Z_⟩=Y' (P_ (Y' ⟨C.sb,0,Z_⟩)):=(H1.as []).a 12 d_;rw [HFU.o] at n28;clear hb HP H n13 n14 n15 n16 n17;have U:=Hd (H1.save (c:=c1) HX.1 HX.2.1 HX.2.2 HB o_);clear H1 HB HX;go_wp2_with fail;refine U.mono ?_;rintro e w2 ⟨rfl,(HS:Xb _)⟩;clear U n28 n12;go_wp2_with fail;exact bodyPost_ret (v:=U_ #[S_ EA n ec,I_ J_ 0]) (by simp [results,results60,go_sem]) rfl ⟨rfl,HS⟩
def KT (h:Aq C rt x B R w) (hS:eJ x.r x.l) (hok: ∀e∈x.l,e.ok) (hs:C.s=⟨XH m Z_,[]⟩) (hv:0<=C.v/\C.v<4294967295) (hm:Ck.mq m) (r:Nat) (hr:r<=4) (hf:x.eB=r) (EA:Option Xa) (n ec:Nat):
  WZ Tryz.prog 60 #[P_ (Y' ⟨C.ga,0,Z_⟩),S_ EA n ec] w λe w'=>e=R_ (U_ #[S_ Z_ 0 0,I_ J_ 7])/\Aq {C with s:=Ck.ij (XA (C.v+1) (jo x)) m r,v:=Ck.yy C.v r} rt {x with dead:=Z'} B R w':=by
 refine OX ?_;intro HFU H HP hln HX HS0;clear hf;have n13:w.cell? ⟨C.ga,13,Z_⟩=Y' (I_ J_ x.r):=HS0.o.a 13 (by decide);have n14:w.cell? ⟨C.ga,14,Z_⟩=Y' (S_ x.PA x.l.length x.pc):=HS0.o.a 14 (by decide);have n15:w.cell? ⟨C.ga,15,Z_⟩=Y' (B_ x.o0):=HS0.o.a 15 (by decide);have n16:w.cell? ⟨C.ga,16,Z_⟩=Y' (B_ x.o1):=HS0.o.a 16 (by decide);have n17:w.cell? ⟨C.ga,17,Z_⟩=Y' (B_ x.o2):=HS0.o.a 17 (by decide);unfold gF at HP;obtain ⟨nb,hnb⟩:=nm ((eK x.r x.o0 x.o1 x.o2 x.l).length);rw [<-hnb] at HP hln;clear h hS hok hs hv hm HS0 hnb;go_enter Tryz.func60,Tryz.ntmps60;go_wp2_with fail;refine HP.o.mono ?_;rintro e w1 ⟨A1,c1,rfl,hb⟩;have H1:=Hd (H.o.below hb.below);have HB:=Hd (show XD w1 w1.heap.size A1 nb (jo x) from by
  have:=hb.row.sl;unfold XD jo;rw [pF];exact this)
 have n28:w1.cell? ⟨C.ga,28,Z_⟩=Y' (I_ J_ x.eB):=(H1.o.as []).a 28 (by decide);have n12:w1.cell? ⟨C.ga,12,Z_⟩=Y' (P_ (Y' ⟨C.sb,0,Z_⟩)):=(H1.o.as []).a 12 (by decide);rw [HFU.o] at n28;clear hb HP H n13 n14 n15 n16 n17;have hne:((r:Int)== -1)=WW:=beq_eq_false_iff_ne.2 (by omega);obtain ⟨wc,hwc⟩:=nm (Xu w1);have HC:Xb (Aq C rt x B R wc):=by rw [hwc];exact H1.o.drew
 have F:=Hd (HC.o.as []);have HS:=Hd (HC.o.part (c:=c1) HX.o.1 HX.o.2.1 HX.o.2.2 (show XD wc wc.heap.size A1 nb (jo x) from by rw [hwc];exact HB.o) (by omega) (r:Int) r hr (by omega));go_upto_region 3 with fail;clear H1 HB HX n28 n12;refine dm.start (S:=λwx=>Xb (AS C (x.arr C.gw C.sb) [] B wx)) (by kernel_rfl) ?_;rw [<-hwc];clear hwc;refine XF 1 F (u_ 0 9) ?_
 iterate 9 (refine dm.dG rfl (λK' hK'=>?_);go_simp;(first|(refine hK' _ ?_;clear hK' K')|(apply Xo;refine ⟨λwx hwx=>?_,hK' _ ?_⟩;(first|rfl|(have k12a:wx.cell? ⟨C.ga,12,Z_⟩=Y' (P_ (Y' ⟨C.sb,0,Z_⟩)):=(Xe hwx).a 12 (by decide);have k28:wx.cell? ⟨C.ga,28,Z_⟩=Y' (I_ J_ r):=(by rw [<-HFU.o];exact (Xe hwx).a 28 (by decide));go_simp;first|done|rfl));clear hK' K')))
 refine dm.ee ?_;refine XG 9 0 ?_;refine dm.cl ?_;refine HS.o.mono ?_;rintro e w2 ⟨rfl,af⟩;have HQ:=Hd af;have HS2:Xb (AS C (x.arr C.gw C.sb) [] B w2):=⟨(af.as []).a,(af.as []).b⟩;clear af HS HC F;refine ⟨_,rfl,HS2,?_⟩;refine dm.fi ?_;have n29: ∃v,w2.cell? ⟨C.ga,29,Z_⟩=Y' v:=⟨_,HS2.o.a 29 (by decide)⟩;obtain ⟨v29,n29⟩:=n29;have f29:=HQ.o.oD 29;have H9:=Hd HQ.o.My;clear HS2 HQ;go_wp2_with fail;exact bodyPost_ret (v:=U_ #[S_ Z_ 0 0,I_ J_ 7]) (by simp [results,Tryz.results60,go_sem]) rfl ⟨rfl,H9.o⟩
end
def jc (s:Xf):Prop:= ∀z∈s.im,z.size<=9223372036854775807
section
variable {k:Nat} {s:Xf} {id name:ByteArray} {size r q:Int}
def uD (h:jc s) (us:List ByteArray):jc {s with im:=fZ r s.im us}:=by
 have one: ∀(l:List dK) (u:ByteArray),(∀z∈l,z.size<=9223372036854775807)-> ∀z∈jS r l u,z.size<=9223372036854775807:=by
  intro l u G z F;unfold jS at F;split at F
  .generalize du.pos (fj l) u=P at*
   cases hp:l[P]? with
   |none=>rw [hp] at F;exact G z F
   |some p=>
    rw [hp] at F;obtain ⟨I,e⟩:=List.getElem?_eq_some_iff.1 hp;rcases Xl F with F|rfl
    .exact G z F
    .show p.size<=_
     rw [<-e];exact G _ (g_ I)
  .exact G z F
 have all: ∀(us:List ByteArray) (l:List dK),(∀z∈l,z.size<=9223372036854775807)-> ∀z∈fZ r l us,z.size<=9223372036854775807:=by
  intro us
  induction us with
  |nil=>intro l G;exact G
  |cons u us ih=>intro l G;exact ih _ (one l u G)
 exact all us s.im h
def yA (h:jc s):jc (mV s id q r):=by unfold mV;split;exact h;exact h
def Qq (h:jc s):jc (rZ s id r):=by unfold rZ;split;exact h;exact h
def KW (h:jc s):jc (pC s name):=by
 unfold pC;split
 .intro z G
  have F:z∈(if tk s.outs then ix s.im name else s.im):=G;split at F
  .exact h z (sV.subset F)
  .exact h z F
 .exact h
def KY (h:jc s) (hs:size<=9223372036854775807):jc (pB s id name size r):=by
 unfold pB;split
 .intro z I
  have F:z∈(if kK s name then jq s.im name size r else s.im):=I;split at F
  .unfold jq at F
   split at F
   .rename_i hh
    rcases Xl F with F|rfl
    .exact h z F
    .show (s.im.getD _ _).size<=_
     rw [List.getD_eq_getElem?_getD];cases hp:s.im[du.pos (fj s.im) name]? with
     |none=>exact (d_:(0:Int)<=9223372036854775807)
     |some p=>
      obtain ⟨G,e⟩:=List.getElem?_eq_some_iff.1 hp
      show p.size<=_
      rw [<-e];exact h _ (g_ G)
   .rcases List.mem_append.1 F with F|F
    .exact h z (List.mem_of_mem_take F)
    .rcases p_ F with rfl|F
     .exact hs
     .exact h z (List.mem_of_mem_drop F)
  .exact h z F
 .exact h
end
def mw (q r kind:Int): ∀(l:List ByteArray) (p:Xf×List dX),jc p.1->jc (asks q r kind p l).1
 |[],_,h=>h
 |id::l,p,h=>mw q r kind l (iB q r kind p id) (yA h)
def oa: ∀(l:List dK) (p:Xf×List dX),jc p.1->jc (fM p l).1
 |[],_,h=>h
 |x::l,p,h=>oa l (iU p x) (KW h)
structure PI (k:Nat) (r:Int) (todo:List dq) (s:PS):Prop where
 ju:eu k s.1
 im:jc s.1
 right:eJ r s.2.1
 ok: ∀e∈s.2.1,e.ok
 todo: ∀e∈todo,e∈s.2.1
section
variable {k:Nat} {r:Int} {todo:List dq} {s:PS} {e:dq}
def PI.FP (h:PI k r (e::todo) s) (hd: ∀q∈todo,q.dC.id≠e.dC.id) {rt:Xf} (hf:eu k rt) (hi:jc rt) {n:Int} (hn:1<=n/\n<=3):PI k r todo (rt,ep s.2.1 ⟨e.dC,n⟩,ev):=by
 have U:=h.todo e (m_ ..);obtain ⟨V,hl,O⟩:=jA h.right.gQ U;have F:=h.right.each e U;refine ⟨hf,hi,lS (e:=⟨e.dC,n⟩) h.right ?_ V,λq G=>?_,λq G=>?_⟩
 .unfold gC at F |-
  simp only [Bool.and_eq_true,decide_eq_true_eq] at F |-;exact ⟨F.1,hn⟩
 .rcases kL G with rfl|G
  .exact ⟨(h.ok e U).dC,⟨by show (-9223372036854775808:Int)<=n;omega,by show n<=_;omega⟩⟩
  .exact h.ok q G
 .show q∈ep s.2.1 ⟨e.dC,n⟩
  rw [ob (e:=⟨e.dC,n⟩) V];have I:=h.todo q (n_ _ G);obtain ⟨j,X,rfl⟩:=Xt I;refine List.mem_iff_getElem.2 ⟨j,by simpa using X,?_⟩;rw [List.getElem_set,if_neg];intro c;refine hd _ G ?_;have:du.pos (eo s.2.1) e.dC.id=j:=c;simp only [<-this];rw [O]
def PI.wo (h:PI k r (e::todo) s) (hd: ∀q∈todo,q.dC.id≠e.dC.id) {rt:Xf} (hf:eu k rt) (hi:jc rt):PI k r todo (rt,my s.2.1 e.dC.id,ev):=
 ⟨hf,hi,oc h.right,λq hq=>h.ok q (oT.subset hq),λq hq=>(yB h.right.gQ).2 ⟨h.todo q (n_ _ hq),hd q hq⟩⟩
def PI.same (h:PI k r (e::todo) s) {rt:Xf} (hf:eu k rt) (hi:jc rt):PI k r todo (rt,s.2.1,ev):=⟨hf,hi,h.right,h.ok,λq hq=>h.todo q (n_ _ hq)⟩
def PI.up (h:PI k r todo s):PI (k+1) r todo s:=⟨h.ju.mono,h.im,h.right,h.ok,h.todo⟩
def Ah {p:Prop} (h:p:=by
 exact (h.same (mz h.ju) (yA h.im)).up):p:=h
def PI.step (h:PI k r (e::todo) s) (I:k<90000) (F: ∀q∈todo,q.dC.id≠e.dC.id):PI (k+1) r todo (jD r s e):=by
 have O:=h.todo e (m_ ..);have G:e.dC.size<=9223372036854775807:=(h.ok e O).dC.size.2;have hf1:=h.ju.mono;unfold jD;split
 .unfold uE
  split
  .split
   .exact Ah
   .exact (h.wo F (mz h.ju) (yA h.im)).up
  .exact (h.wo F h.ju h.im).up
 split
 .exact PI.FP h.up F (Cr h.ju I) (Qq h.im) d_
 split
 .exact Ah
 split
 .exact Ah
 split
 .exact PI.same h.up (yC h.ju I) (KY h.im G)
 split
 .exact Ah
 split
 .exact (h.wo F h.ju h.im).up
 .exact (h.same h.ju h.im).up
def FQ (s:PS) (e:dq):(jD r s e).2.2.length<=s.2.2.length+1:=by
 unfold jD uE
 (repeat' split)<;>simp<;>(try split)<;>simp
end
def uF: ∀(l:List dq) (k:Nat) (s:PS),PI k r l s->du.dY (eo l)->k+l.length<=90000->PI (k+l.length) r [] (iH r s l)
 |[],k,s,h,_,_=>h
 |e::l,k,s,h,hr,hk=>by
  have hr':(e.dC.id::eo l).Pairwise λa b=>du.cmp a b<0:=hr
  obtain ⟨h1,h2⟩:=List.pairwise_cons.1 hr';simp only [Xy] at hk |-;have:=uF l (k+1) (jD r s e) (h.step o_ λq hq c=>?_) h2 o_
  .rw [show k+(l.length+1)=k+1+l.length by omega]
   exact this
  .exact FT
def qU {r:Int}: ∀(l:List dq) (s:PS),(iH r s l).2.2.length<=s.2.2.length+l.length
 |[],s=>by simp [iH]
 |e::l,s=>by
  have h:=qU (r:=r) l (jD r s e);have h2:=FQ (r:=r) s e
  show (iH r (jD r s e) l).2.2.length<=_
  simp only [Xy];omega
def KZ {s:PS} (h:PI k r l s) (G:du.dY (eo l)) (hk:k+l.length<=90000) (hj:j<=l.length):PI (k+j) r (l.drop j) (iH r s (l.take j)):=by
 induction j with
 |zero=>simpa [iH] using h
 |succ j ih=>
  have F:=ih o_;rw [List.drop_eq_getElem_cons o_] at F;rw [qV r s l j o_];refine F.step o_ λq I c=>?_
  obtain ⟨i,O,rfl⟩:=Xt I;simp only [List.length_drop] at O;rw [List.getElem_drop] at c;have:=(List.pairwise_iff_getElem.1 G) j (j+1+i) (by rw [f'];omega) (by rw [f'];omega) o_;rw [lr o_,lr o_,c,du.iT] at this;omega
def oU (l:List dq) (us:List et) (p:Nat->Bool) (l':List dq) (evs:List dX):Prop:=
 (l'=l/\evs=[]/\(uG l=Z'\/ ∀k,k<3->p k=Z'->l.filter Tw.jE=[]))\/
 (uG l=WW/\ ∃(k:Nat) (e:dq),k<3/\p k=Z'/\e∈l/\Tw.jE e=Z'/\(∀z∈l,Tw.jE z=Z'-> ¬Tw.od (Tw.lB k z.dC us) (Tw.lB k e.dC us)<0)/\l'=ep l ⟨e.dC,3⟩/\evs=[⟨5,e.dC.id,k,0⟩])
def p3 (a b c:Bool) (k:Nat):Bool:=if k=0 then a else if k=1 then b else c
def rX (x:AV):AV:={x with r:=x.r+1}
def qW (x:AV) (rt:Xf) (xs:List ByteArray):Xf×List dX:=asks 4 (x.r+1) 13 ({rt with im:=fZ (x.r+1) rt.im (eE x.l)},Qr (rX x)) xs
def xX (x:AV) (rt:Xf) (xs:List ByteArray) (zs:List dK) (l3:List dq) (e3:List dX):PS:=iH (x.r+1) ((fM (qW x rt xs) zs).1,l3,(fM (qW x rt xs) zs).2++e3) l3
def Oq (x:AV) (z:PS):Xf×List dX:=asks 3 (x.r+1) 15 (z.1,z.2.2) ((z.1.bx.filter (Tw.gZ (gi z.2.1))).map λb=>b.id)
def jZ (x:AV) (rt:Xf) (ev:List dX) (rt':Xf) (x':AV):Prop:=
 ∃(xs:List ByteArray) (zs:List dK) (b:Bool) (l3:List dq) (e3:List dX) (SA:Option Xa) (sc:Nat) (A:Option Xa) (c:Nat),
  (∀id∈xs,∃q∈rt.bx,q.id=id/\Tw.fF (gi x.l) q=Z')/\(∀z∈zs,z∈(qW x rt xs).1.im/\Tw.fG (eE x.l) z=Z')/\((jV (rX x)).2.1=WW->zs=[]/\b=WW)/\
  oU x.l x.us (p3 (jV (rX x)).1 b (jV (rX x)).2.2) l3 e3/\
  rt'=(Oq x (xX x rt xs zs l3 e3)).1/\ev=(Oq x (xX x rt xs zs l3 e3)).2/\x'={K_ (rX x) SA sc with PA:=A,pc:=c,l:=(xX x rt xs zs l3 e3).2.1,fr:=WW}
def Ad (C:Cx) (P:Xf->AV->List RK->Option Xa->Nat->Nat->WY->WY->WX->Prop) (f:Int):Prop:=
 ∀(rt:Xf) (x:AV) (R:List RK) (w:WX) (EA:Option Xa) (n ec:Nat),Aq C rt x [] R w->eJ x.r x.l->(∀e∈x.l,e.ok)->x.eB=f->
  WZ Xd 60 #[P_ (Y' ⟨C.ga,0,Z_⟩),S_ EA n ec] w λe w'=> ∃a b,e=R_ (U_ #[a,b])/\P rt x R EA n ec a b w'
def vg {x:AV} (h:Ok x) (hr:x.r<1099511627776):Ok (rX x):=
 ⟨h.rf,h.cfg,h.tl,wL h.st (by have:=h.st.r0;show 0<=x.r+1;omega) (by show x.r+1<=_;omega),h.each,h.zl,λz hz=>by have:=h.zs z hz;show _/\z<=x.r+1;omega,h.c0,h.c1,h.c2,⟨h.t.1,by have:=h.t.2;show x.t<=x.r+1;omega⟩,h.a0,h.a1,h.a2,h.us,h.ul,h.am⟩
def Mq (x:AV):(Qr x).length<=3:=by
 have h: ∀i a b,(Tw.na i a b).length<=1:=λi a b=>by unfold Tw.na;(repeat' split)<;>simp
 have h0:=h 0 x.o0 (Lf x).1;have h1:=h 1 x.o1 (Lg x).1;have h2:=h 2 x.o2 (Lh x).1;unfold Qr;simp only [Xw];omega
def pe {on:Bool} {c:Int} (hc:0<=c/\c<=100000) (hp:F<=1000):0<=(Tw.dU on c h m f F).2/\(Tw.dU on c h m f F).2<=100000:=by
 unfold Tw.dU
 (repeat' split)<;>dsimp only<;>omega
def Bj {x:AV} (h:Ok x) (SA:Option Xa) (sc:Nat):Ok (K_ x SA sc):=by
 refine ⟨h.rf,h.cfg,h.tl,h.st,h.each,?_,?_,pe h.c0 h.rf.p1,pe h.c1 h.rf.p1,pe h.c2 h.rf.p1,h.t,h.a0,h.a1,h.a2,h.us,h.ul,h.am⟩
 .show (pQ x).length=x.p.n
  unfold pQ;split
  .unfold gu.lE gu.lV
   have F:x.dD.length=x.p.n:=h.tl;simp only [Xs,Xp,h.zl,F];omega
  .exact h.zl
 .show∀z∈pQ x,-1<=z/\z<=x.r
  unfold pQ;split
  .exact oZ h.st.r0 _ _ h.zs
  .exact h.zs
section
variable {C:Cx} {w:WX} {rt:Xf} {x:AV} {y:RV} {R:List RK} {k:Nat}
def Mr (h:GB C rt x y w): ∃(O:List dq) (I:List dX) (PA:Option Xa) (pc:Nat) (EA:Option Xa) (ec:Nat),oU x.l x.us (p3 y.p0 y.p1 y.p2) O I/\Rq C rt {x with PA:=PA,pc:=pc,l:=O} {y with EA:=EA,ec:=ec,ev:=y.ev++I} [] [] w:=by
 rcases h with ⟨F,G⟩|⟨F,k,e,A,c,EA,ec,G,h3,U,h5,X,V⟩
 .refine ⟨x.l,[],x.PA,x.pc,y.EA,y.ec,.inl ⟨rfl,rfl,G⟩,?_⟩
  rw [List.append_nil];exact F
 .exact ⟨_,_,A,c,EA,ec,.inr ⟨F,k,e,G,h3,U,h5,X,rfl,rfl⟩,V⟩
def rD {p:Nat->Bool} {rt:Xf} (h:oU x.l x.us p O e3) (G:Ok x) (F:eu k rt) (I:jc rt):PI k x.r O (rt,O,ev):=by
 rcases h with ⟨rfl,_,_⟩|⟨_,j,e,_,_,X,_,_,rfl,_⟩
 .exact ⟨F,I,G.st,G.each,λ_ h=>h⟩
 .have hp:PI k x.r [e] (rt,x.l,ev):=⟨F,I,G.st,G.each,λq V=>by rw [Xv] at V;rw [V];exact X⟩
  have U:=hp.FP (λ_ h=>by cases h) (ev:=ev) F I (n:=3) d_;exact ⟨F,I,U.right,U.ok,λ_ h=>h⟩
def Dq {p:Nat->Bool} {us:List et} {F:List dX} (h:oU l us p G F):F.length<=1:=by
 rcases h with ⟨_,h,_⟩|⟨_,_,_,_,_,_,_,_,_,h⟩<;>rw [h]<;>simp
def Dr (h:Rq C rt x RV.zero [] [] w) (F:Ok x):WZ Xd 63 #[P_ (Y' ⟨C.gr,0,Z_⟩)] w λe' w'=>e'=R_ (U_ #[])/\ ∃SA sc EA ec HA hn hc,((jV x).2.1=Z'->hn=x.p.n)/\Rq C rt (K_ x SA sc) (VA x EA ec HA hn hc) [] [] w':=by
 refine (mC h F).mono ?_;rintro e w' ⟨X,SA,sc,EA,ec,HA,hn,hc,O⟩;refine ⟨X,SA,sc,EA,ec,HA,hn,hc,λG=>?_,O⟩;have I:x.fr=Z':=by
  cases hf:x.fr
  .unfold jV at G
   rw [hf] at G;cases G
  .rfl
 have U:=O.hs.len;have h2:(vF x).length=x.p.n:=by
  unfold vF pQ;rw [I,if_pos rfl,if_pos rfl];unfold gu.ra gu.lE gu.lV;have V:x.dD.length=x.p.n:=F.tl;simp only [Xs,Xp,F.zl,V];omega
 have h3:((vF x).map Value.bool).length=hn*1:=U;simp only [Xp] at h3;omega
def Qp {P:Xf->AV->List RK->Option Xa->Nat->Nat->WY->WY->WX->Prop} (hsv:Ad C P x.eB) (h:Aq C rt x [] R w) (ho:Ok x) (hF:eu k rt) (hk:k<=8000) (hi:jc rt) (hd:x.dead=WW) (hr:x.r<1099511627776):
  WZ Xd 40 #[P_ (Y' ⟨C.ga,0,Z_⟩)] w λe w'=> ∃(rt':Xf) (x':AV) (ev:List dX) (EA:Option Xa) (ec:Nat) (a b:WY),jZ x rt ev rt' x'/\e=R_ (U_ #[a,b])/\P rt' x' (⟨55,4,EA,ev.length,ec,Xm ev⟩::R) EA ev.length ec a b w':=by
 have HSV:=Hd hsv;have H:=Hd h;have HO1:=Hd (vg ho hr);have HX0:=Hd (Xk hF hi);have HS0:=Hd (h.as []);have k29:w.cell? ⟨C.ga,29,Z_⟩=Y' (B_ WW):=by rw [<-hd];exact HS0.o.a 29 d_
 have UE:w.cell? ⟨C.ga,13,Z_⟩=Y' (I_ J_ x.r):=HS0.o.a 13 d_;have f13:=h.oD 13;have hr0:=ho.st.r0;have hll:x.l.length<=64:=ho.st.len;have HRI:=Hd ho.st.gQ;have HXR:=Hd (Xk ho.st ho.each);have hge:decide (x.r≥1099511627776)=WW:=dF;have hge2:decide (1099511627776<=x.r)=WW:=dF;have hw:=Ta.fh (n:=x.r+1) o_ o_;clear hsv h ho hF hi hd HS0;obtain ⟨w0,hw0⟩:=nm (w.setCell ⟨C.ga,13,Z_⟩ (I_ J_ (x.r+1)));have H0:Xb (Aq C rt (rX x) [] R w0):=by rw [hw0];exact H.o.Ir (x.r+1)
 clear H;go_enter func40,ntmps40;go_upto_region 6 with fail;rw [<-hw0];clear hw0 k29 UE f13;obtain ⟨g,hg⟩:=nm (X_ (Y_ w0));obtain ⟨w1,hw1⟩:=nm (w0.alloc (.cells #[P_ (Y' ⟨C.ga,0,Z_⟩),S_ Z_ 0 0,S_ Z_ 0 0,B_ WW,B_ WW,B_ WW] 148));obtain ⟨col0,t0,hrd⟩:=H0.o.round;obtain ⟨col1,(HT:Xb _),(HR1:Xb _),hn1⟩:=hrd w1 hw1;have hq1:=hn1.start;rw [<-hg] at hq1;have HSG:=Hd (Dr hq1 HO1.o);clear t0 hrd hn1 hq1 H0
 dsimp only at HSG
 go_upto_region 7 with fail;rw [<-hw1,<-hg];clear hw1 hg;go_wp2_with fail;refine HSG.o.mono ?_;rintro e w2 ⟨rfl,SA,sc,EA2,ec2,HA,hn,hc,hhn,hq2⟩;obtain ⟨x2,hx2⟩:=nm (K_ (rX x) SA sc);obtain ⟨y2,hy2⟩:=nm (VA (rX x) EA2 ec2 HA hn hc);rw [<-hx2,<-hy2] at hq2;have H2:=Hd hq2;have HHN:Xb (y2.p1=Z'->y2.hn=x2.p.n):=by rw [hx2,hy2];exact hhn
 have HOX:Xb (Ok x2):=by rw [hx2];exact Bj HO1.o SA sc
 have HE2:Xb (x2.r=x.r+1/\x2.l=x.l/\x2.us=x.us/\x2.eB=x.eB/\y2.ev=Qr (rX x)/\y2.p0=(jV (rX x)).1/\y2.p1=(jV (rX x)).2.1/\y2.p2=(jV (rX x)).2.2):=by rw [hx2,hy2];exact ⟨rfl,rfl,rfl,rfl,rfl,rfl,rfl,rfl⟩
 have HX2:=Hd hx2;have hev2:y2.ev.length<=3:=by rw [hy2];exact Mq (rX x)
 clear hx2 hy2 hq2 hhn HSG HO1;have hl2:x2.l.length<=64:=HOX.o.st.len;have HCO:=Hd (Ms H2.o HX0.o.1 o_ o_ o_ (by have:=HOX.o.rf.d1;omega))
 dsimp only at HCO
 go_wp2_with fail;refine HCO.o.mono ?_;rintro e w3 ⟨rfl,xs,EA3,ec3,hxl,(HXS:Xb _),hq3⟩;have hf3:eu k (asks 4 x2.r 13 ({rt with im:=fZ x2.r rt.im (eE x2.l)},y2.ev) xs).1:=iI 4 x2.r 13 xs _ (HX0.o.1.TR (round:=x2.r) (eE x2.l));have hi3:jc (asks 4 x2.r 13 ({rt with im:=fZ x2.r rt.im (eE x2.l)},y2.ev) xs).1:=mw 4 x2.r 13 xs _ (uD HX0.o.2 (eE x2.l));have hn3:=ow 4 x2.r 13 xs ({rt with im:=fZ x2.r rt.im (eE x2.l)},y2.ev);obtain ⟨pr1,hpr1⟩:=nm (asks 4 x2.r 13 ({rt with im:=fZ x2.r rt.im (eE x2.l)},y2.ev) xs);rw [<-hpr1] at hq3 hf3 hi3 hn3;have H3:=Hd hq3;have HPR1:Xb (pr1=qW x rt xs):=Hd (by rw [hpr1,HE2.o.1,HE2.o.2.1,HE2.o.2.2.2.2.1];rfl);have hev3:pr1.2.length<=3+k:=by have h3:=HX0.o.1.lb;dsimp only at hn3;omega
 have HF3:=Hd (Xk hf3 hi3);clear hq3 hpr1 hxl HCO H2 hf3 hi3 hn3;have HIM:=Hd (Dt H3.o HOX.o HF3.o.1 o_ o_ (by show pr1.2.length<=_;omega) HHN.o HF3.o.2)
 dsimp only at HIM
 go_wp2_with fail;refine HIM.o.mono ?_;rintro e w4 ⟨rfl,zs,b4,EA4,ec4,hzl,hzs,hzb,hq4⟩;have hf4:eu k (fM (pr1.1,pr1.2) zs).1:=je zs (pr1.1,pr1.2) HF3.o.1;have hi4:jc (fM (pr1.1,pr1.2) zs).1:=oa zs (pr1.1,pr1.2) HF3.o.2;have hn4:=pf zs (pr1.1,pr1.2);obtain ⟨pr2,hpr2⟩:=nm (fM (pr1.1,pr1.2) zs)
 dsimp only at hq4
 rw [<-hpr2] at hq4 hf4 hi4 hn4;have H4:=Hd hq4;have HZS:Xb ((∀z∈zs,z∈(qW x rt xs).1.im/\Tw.fG (eE x.l) z=Z')/\((jV (rX x)).2.1=WW->zs=[]/\b4=WW)):=by rw [<-HPR1.o,<-HE2.o.2.1,<-HE2.o.2.2.2.2.2.2.1];exact ⟨hzs,hzb⟩
 have hev4:pr2.2.length<=3+k+k:=by have h3:=HF3.o.1.li;dsimp only at hn4;omega
 have HF4:=Hd (Xk hf4 hi4);have HPR2:Xb (pr2=fM (qW x rt xs) zs):=Hd (by rw [hpr2,<-HPR1.o]);clear hq4 hzs hzb hpr2 hzl HIM H3 HF3 hev3 hf4 hi4 hn4;have HEV:=Hd (Lx H4.o HOX.o (by show pr2.2.length<=_;omega))
 dsimp only at HEV
 go_wp2_with fail;refine HEV.o.mono ?_;rintro e w5 ⟨rfl,hev⟩;obtain ⟨l3,F,PA3,pc3,EA5,ec5,hel,hq5⟩:=Mr hev
 dsimp only at hq5 hel
 have H5:=Hd hq5;have hev5:(pr2.2++F).length<=4+k+k:=by have:=Dq hel;simp only [Xw];omega
 have HPI:Xb (PI k x2.r l3 (pr2.1,l3,pr2.2++F)):=rD hel HOX.o HF4.o.1 HF4.o.2;have HEL:Xb (oU x.l x.us (p3 (jV (rX x)).1 b4 (jV (rX x)).2.2) l3 F):=by rw [<-HE2.o.2.1,<-HE2.o.2.2.1,<-HE2.o.2.2.2.2.2.1,<-HE2.o.2.2.2.2.2.2.2];exact hel
 clear hev hq5 hel HEV H4 HF4;have hl3:l3.length<=64:=HPI.o.right.len;have HR3:Xb (du.dY (eo l3)):=HPI.o.right.gQ;have HCL:=Hd (oi PA3 l3.length pc3 l3 w5 H5.o.gT.sl o_ (gy H5.o.gT));have k14:w5.cell? ⟨C.ga,14,Z_⟩=Y' (S_ PA3 l3.length pc3):=(H5.o.rs [] []).a 14 d_;go_wp2_with fail;refine HCL.o.mono ?_;rintro e w6 ⟨A6,c6,rfl,hr6,hb6,hA6⟩;have HL:Xb (rU {C with w:=w1,b':=col1,gr:=g} x2 {y2 with p1:=b4} (iH x2.r (pr2.1,l3,pr2.2++F) (l3.take 0)) [] [⟨58,12,A6,l3.length,c6,dq.flat l3⟩] w6):=⟨PA3,pc3,EA5,ec5,H5.o.kt hb6 hr6 hA6⟩;clear hr6 hb6 hA6 HCL H5 k14;obtain ⟨z0,hz0⟩: ∃z0:PS,z0=(pr2.1,l3,pr2.2++F):=⟨_,rfl⟩;rw [<-hz0] at HPI HL;have HZ0:=Hd hz0;have HZL:Xb (z0.2.2.length<=4+k+k):=by rw [hz0];exact hev5
 obtain ⟨n5,hn3⟩:=nm (l3.length);have HN3:=Hd hn3;rw [<-hn3] at HL hl3 |-;clear hz0 hn3 hev5 hev4;go_wp2_with fail;go_loopw [46] (λvi wr=> ∃j:Nat,j<=n5/\vi=I_ J_ j/\Xb (rU {C with w:=w1,b':=col1,gr:=g} x2 {y2 with p1:=b4} (iH x2.r z0 (l3.take j)) [] [⟨58,12,A6,n5,c6,dq.flat l3⟩] wr)) (λvi _=>n5 - (intOf vi).toNat)
 .exact ⟨0,o_,rfl,HL⟩
 .clear HL
  obtain ⟨j,hj,rfl,G⟩:=hrel;by_cases hlt:j<n5
  .obtain ⟨PA7,pc7,EA7,ec7,hq7⟩:=G.o
   obtain ⟨ad,hl7,rfl,hlb,hlb2,aM⟩:=dq.at_ (hq7.row (m_ ..)).sl hlt;have hpi:=KZ HPI.o HR3.o (by rw [<-HN3.o];omega) (show j<=l3.length by omega);have hzl:=qU (r:=x2.r) (l3.take j) z0;have HSN:=Hd (qV x2.r z0 l3 j hl7);obtain ⟨z,hz⟩:=nm (iH x2.r z0 (l3.take j));rw [<-hz] at hq7 hpi hzl HSN;have hzl2:z.2.2.length<=90000:=by have:=HZL.o;simp only [List.length_take] at hzl;omega
   have HPJ:=Hd hpi;have H7:=Hd hq7;have HX:=Hd (λX (hX:Bw wr X)=>UF l3[j] (hq7.below hX) HPJ.o.ju HPJ.o.right.gQ (by show z.2.1.length<=_;have:=HPJ.o.right.len;omega) hzl2);clear hz hpi hzl hq7 G;obtain ⟨q,hq⟩:=nm (l3[j]);rw [<-hq] at HX HSN aM;clear hq;obtain ⟨⟨qi,q1,q2,q3,q4,q5,q6,q7,q8,q9,ab⟩,ae⟩:=q;obtain ⟨e0,e1,e2,e3,e4,e5,e6,e7,e8,e9,aC,aL⟩:=aM;unfold dq.arr at HX
   dsimp only at e0 e1 e2 e3 e4 e5 e6 e7 e8 e9 aC aL HX
   have hw:=Ta.fh (n:=(j:Int)+1) o_ o_;have U:Xb (Bw wr (wr.alloc (.cells #[T_ qi,I_ J_ q1,B_ q2,I_ J_ q3,I_ J_ q4,I_ J_ q5,I_ J_ q6,I_ J_ q7,I_ J_ q8,T_ q9,I_ J_ ab,I_ J_ ae] 58))):=Hd dL;clear hlb hlb2;go_wp2_with fail;refine (HX.o _ U.o).mono ?_;rintro e w8 ⟨rfl,hp⟩;have H8:Xb (rU {C with w:=w1,b':=col1,gr:=g} x2 {y2 with p1:=b4} (iH x2.r z0 (l3.take (j+1))) [] [⟨58,12,Y' ad,n5,c6,dq.flat l3⟩] w8):=by rw [HSN.o];exact hp
   clear hp HX U H7 e0 e1 e2 e3 e4 e5 e6 e7 e8 e9 aC aL;go_wp2_with fail;go_roundw
   .exact ⟨j+1,o_,by go_num,H8⟩
   .simp [intOf];omega
  .obtain rfl:j=n5:=o_
   have hx:=G.o;rw [t_ (by have:=HN3.o;omega)] at hx;obtain ⟨PA7,pc7,EA7,ec7,hq7⟩:=hx;have hpi:=uF l3 k z0 HPI.o HR3.o (by have:=HN3.o;omega);have hzl:=qU (r:=x2.r) l3 z0;obtain ⟨z,hz⟩:=nm (iH x2.r z0 l3);rw [<-hz] at hq7 hpi hzl;have HPE:=Hd hpi;have HZZ:Xb (z=xX x rt xs zs l3 F):=Hd (by rw [hz,HZ0.o,HPR2.o,HE2.o.1];rfl);have H7:=Hd (hq7.sub (B':=[]) (R':=[]) (λ_ h=>h) (λ_ h=>by cases h));have hzl2:z.2.2.length<=70000:=by have:=HZL.o;have:=HN3.o;omega
   have hz64:z.2.1.length<=64:=hpi.right.len;have hkn:k+l3.length<=9000:=by have:=HN3.o;omega
   clear hz hpi hzl hq7 G;have HLO:=Hd (Mt H7.o HPE.o.ju hkn (by show z.2.1.length<=_;omega) (by show z.2.2.length<=_;omega))
   dsimp only at HLO
   go_wp2_with fail;refine HLO.o.mono ?_;rintro e w8 ⟨rfl,EA8,ec8,hq8⟩;obtain ⟨pr5,hpr5⟩:=nm (asks 3 x2.r 15 (z.1,z.2.2) ((z.1.bx.filter (Tw.gZ (gi z.2.1))).map λb=>b.id));rw [<-hpr5] at hq8;have HP5:Xb (pr5=Oq x (xX x rt xs zs l3 F)):=Hd (by rw [hpr5,HZZ.o,HE2.o.1];rfl);have H8:=Hd hq8;have H9:=Hd (hq8.rE WW);have n27: ∃v,w8.cell? ⟨C.ga,27,Z_⟩=Y' v:=⟨_,(hq8.rs [] []).a 27 d_⟩;obtain ⟨v27,n27⟩:=n27;have f27:w8.frozen? ⟨C.ga,27,Z_⟩=WW:=hq8.oD 27;clear hq8 HLO H7 hpr5;obtain ⟨w9,hw9⟩:=nm (w8.setCell ⟨C.ga,27,Z_⟩ (B_ WW));rw [<-hw9] at H9;go_upto_region 18 with fail;rw [<-hw9];clear hw9 n27 f27 H8;have g1:w9.cell? ⟨g,1,Z_⟩=Y' (S_ EA8 pr5.2.length ec8):=(H9.o.rs [] []).r 1 d_;have HA9:=Hd (Rq.close (C:=C) (R:=R) H9.o HT.o HR1.o);have HSE:=Hd (HSV.o _ _ _ _ EA8 pr5.2.length ec8 HA9.o (show eJ x2.r z.2.1 from HPE.o.right) (show∀e∈z.2.1,e.ok from HPE.o.ok) (show x2.eB=x.eB from HE2.o.2.2.2.1));have HTR:Xb (jZ x rt pr5.2 pr5.1 {x2 with PA:=PA7,pc:=pc7,l:=z.2.1,fr:=WW}):=⟨xs,zs,b4,l3,F,SA,sc,PA7,pc7,by rw [<-HE2.o.2.1];exact HXS.o,HZS.o.1,HZS.o.2,HEL.o,by rw [HP5.o],by rw [HP5.o],by rw [HX2.o,HZZ.o]⟩;clear H9 HA9;go_wp2_with fail;refine HSE.o.mono ?_;rintro e w10 ⟨a,b,rfl,(HPP:Xb _)⟩;clear HSE g1;go_wp2_with fail;exact bodyPost_ret (v:=U_ #[a,b]) (by simp [results,results40,go_sem]) rfl ⟨pr5.1,_,pr5.2,EA8,ec8,a,b,HTR.o,rfl,HPP.o⟩
end
def Ae (C:Cx) (rt:Xf) (x:AV) (B:BL) (R:List RK) (A:Option Xa) (n c:Nat) (ev:List dX) (w:WX):Prop:= ∃b',AN C b' rt x B R w/\dJ aj C.W C.w w C.b' b'/\eG w b' 8 55 4 A n c (Xm ev)
section
variable {C:Cx} {w w' w2:WX} {b' col':Nat->Nat} {rt rt':Xf} {x x':AV} {B B':BL} {R R':List RK} {A A':Option Xa} {n c n' c':Nat} {ev:List dX}
def Aq.Ra (h:Aq C rt x B R w):Ae C rt x B R Z_ 0 0 [] w:=by obtain ⟨b',h,t⟩:=h;exact ⟨b',h,t,eG.nil⟩
def Ae.aq (h:Ae C rt x B R A n c ev w):Aq C rt x B R w:=by obtain ⟨b',h,t,_⟩:=h;exact ⟨b',h,t⟩
def Ae.below (h:Ae C rt x B R A n c ev w) (G:Bw w w'):Ae C rt x B R A n c ev w':=by
 obtain ⟨b',h,t,I⟩:=h;have F:dJ (λ_=>False) C.W w w' b' (dN w b' λ_=>9):=dJ.below G _;exact ⟨_,h.gA (h.n.below G (λ_=>9)) F (λc=>c),t.trans (kV F),I.ed F (λc=>c)⟩
def Ae.tab (h:Ae C rt x B R A n c ev w) (G:Bw w w2) (hr:jJ w2 A' n' c' l) (hA: ∀b,Xj A'=Y' b->X_ (Y_ w)<=b):
  World.there w2 C.ga 13 5/\Ae C rt {x with PA:=A',pc:=c',l:=l} B R A n c ev (w2.setCells C.ga 13 [I_ J_ x.r,S_ A' l.length c',B_ x.o0,B_ x.o1,B_ x.o2]):=by
 obtain ⟨b',h,t,V⟩:=h;refine zu ?_;intro I;have O:=eU.gv [I_ J_ x.r,S_ A' l.length c',B_ x.o0,B_ x.o1,B_ x.o2] 13 _ _ I;rw [oG] at O;have hn:=iw hr;subst hn;refine vJ ?_;intro U;have X:=h.gA (h.n.below G (λ_=>3)) U d_;have F:N C.W w2 (dN w b' λ_=>3) C.gd C.sb C.gw C.ga C.s C.v rt x:=X.n;obtain ⟨a1,a2⟩:=F.oH (x':={x with PA:=A',pc:=c',l:=l}) (XC _ _ _) O F.ag.qy ⟨hr,λb hb=>fv (hA b hb)⟩ F.ag.since F.ag.use;exact ⟨_,X.gA a1 a2 d_,(t.trans (SJ U)).trans (SJ a2),(V.ed U d_).ed a2 d_⟩
def Aq.yn {T:TypeId} {q:RK} (h:Aq C rt x B (q::R) w) (hg:Xr w g T cs) (O:Bw w1 w) (hn:X_ (Y_ w1)<=g) (U:Aq C rt x B R w1) (X:Xx w q.e q.k q.A q.n q.c q.xs) (V: ∀b,Xj q.A=Y' b->X_ (Y_ w1)<=b):Aq C rt x ((g,T,cs)::B) (q::R) w:=by
 obtain ⟨b',h,t⟩:=U;have I:dJ (λ_=>False) C.W w1 w b' (dN w1 b' λ_=>9):=dJ.below O _;have G:=h.gA (h.n.below O (λ_=>9)) I (λc=>c);refine ⟨_,⟨G.n,λz F=>?_,λz F=>?_⟩,t.trans (kV I)⟩
 .rcases p_ F with rfl|F
  .exact fQ.new hg hn rfl
  .exact G.b z F
 .rcases p_ F with rfl|F
  .exact eG.new X V (λ_ _=>rfl)
  .exact G.k z F
def Ae.push (h:Ae C rt x B R A n c ev w) (z:dX) (hn:n<=100000):
  ∃(A':Option Xa) (c':Nat) (w2:WX),(Builtin.append_ #[37,37] 37 #[S_ A n c,S_ (Y' ⟨X_ (Y_ w),0,Z_⟩) 1 1]).run Xd (w.alloc (.cells z.arr 55))= .ok (S_ A' (n+1) c') w2/\Ae C rt x B R A' (n+1) c' (ev++[z]) w2:=by
 obtain ⟨b',h,t,F⟩:=h;obtain ⟨A',c',w2,V,hR,hO,hA⟩:=vm Tw.LA F.row z.arr rfl (by simp [dX.arr,Value.oneCell']) hn d_;have I: ∀k,Xj A=Y' k->k<X_ (Y_ w)->b' k=8:=λk G _=>F.b' k G
 have U:dJ (λc=>c=8) C.W w w2 b' (dN w b' λ_=>8):=dJ.only hO (λk G X=>⟨h.n.sys.lL (by rw [I k G X];decide),I k G X⟩) _;have O:N C.W w2 (dN w b' λ_=>8) C.gd C.sb C.gw C.ga C.s C.v rt x:=⟨h.n.sys.put hO I d_ _,h.n.ag.ed U d_⟩;refine ⟨A',c',w2,V,_,h.gA O U d_,t.trans (U.mono λc hc=>⟨o_,o_⟩),⟨by rw [ma];exact hR,λb hb=>?_⟩⟩;exact Pc
def Ae.close (h:Ae C rt x B R A n c ev w):Aq C rt x [] (⟨55,4,A,n,c,Xm ev⟩::R) w:=by
 obtain ⟨col',h,X,O⟩:=h;have G: ∀c,c<=5->JI c=c:=λc hc=>if_neg o_
 have U: ∀c,5<c->5<JI c:=λc hc=>by unfold JI;split<;>omega
 have hn:N C.W w col' C.gd C.sb C.gw C.ga C.s C.v rt x:=h.n;refine ⟨λk=>JI (col' k),⟨hn.pT G U,λ_ h=>(by cases h),λq F=>?_⟩,⟨X.block,λk hk V=>?_⟩⟩
 .rcases p_ F with rfl|F
  .exact ⟨O.row,λb hb=>if_pos (O.b' b hb)⟩
  .exact (h.k q F).pT (m:=JI) d_
 .have e:=X.b' k hk V
  have I:col' k≠8:=λc=>V ⟨hn.sys.lL (by rw [c];decide),.inl ⟨by rw [<-e,c];decide,by rw [<-e,c];decide⟩⟩
  exact (if_neg I).trans e
end
section
variable {C:Cx} {w:WX} {rt:Xf} {x:AV} {B:BL} {R:List RK} {k:Nat}
def V' (C:Cx) (rt:Xf) (x:AV) (R:List RK) (q:Int) (e:Ending) (w':WX):Prop:=e=R_ (U_ #[S_ Z_ 0 0,I_ J_ q])/\Aq C rt x [] R w'
def Wp (C:Cx) (rt:Xf) (x:AV) (R:List RK) (id:ByteArray) (P:Xf->AV->List RK->Option Xa->Nat->Nat->WY->WY->WX->Prop) (e:Ending) (w':WX):Prop:=
 (Xq (eo x.l) id=WW/\V' C rt x R 4 e w')\/ ∃q∈x.l,q.dC.id=id/\((q.ph=3/\V' C rt x R 7 e w')\/(q.ph≠3/\ ∃(A:Option Xa) (c:Nat) (EA:Option Xa) (ec:Nat) (a b:WY),e=R_ (U_ #[a,b])/\
  P rt {x with PA:=A,pc:=c,l:=ep x.l ⟨q.dC,3⟩} (⟨55,4,EA,1,ec,Xm [⟨4,id,0,0⟩]⟩::R) EA 1 ec a b w'))
def nZ {P:Xf->AV->List RK->Option Xa->Nat->Nat->WY->WY->WX->Prop} (hsv:Ad C P x.eB) (id:ByteArray) (h:Aq C rt x [] R w) (ho:Ok x) (hd:x.dead=WW):
  WZ Xd 38 #[P_ (Y' ⟨C.ga,0,Z_⟩),T_ id] w (Wp C rt x R id P):=by
 have HSV:=Hd hsv;have H:=Hd h;have HO:=Hd ho;have hll:x.l.length<=64:=ho.st.len;have HS0:=Hd (h.as []);have k29:w.cell? ⟨C.ga,29,Z_⟩=Y' (B_ WW):=by rw [<-hd];exact HS0.a 29 d_
 refine OY ?_;intro n13 n14 n15 n16 n17;have HFD:=Hd (uN x.r x.PA x.l.length x.pc x.o0 x.o1 x.o2 x.l id w h.gT.sl ho.st.gQ rfl o_);unfold gF at HFD;cases hh:Xq (eo x.l) id
 .rw [hh] at HFD
  have HH:=Hd hh;clear hsv h ho hd HS0 hh;go_enter func38,ntmps38;go_wp2_with fail;refine HFD.mono ?_;rintro e w1 ⟨rfl,bb⟩;have H1:=Hd (H.below bb);clear bb HFD H;go_wp2_with fail;exact bodyPost_ret (v:=U_ #[S_ Z_ 0 0,I_ J_ 4]) (by simp [results,results38,go_sem]) rfl (.inl ⟨HH,rfl,H1⟩)
 .obtain ⟨hpl,hpe⟩:=lU ho.st.gQ hh
  rw [hh] at HFD;obtain ⟨pp,hpp⟩:=nm (du.pos (eo x.l) id);rw [<-hpp] at HFD;simp only [<-hpp] at hpl hpe;obtain ⟨q,hq⟩:=nm (x.l[pp]'hpl);have HM:Xb (q∈x.l/\q.dC.id=id):=by rw [hq];exact ⟨g_ hpl,hpe⟩
  have HEL:Xb (om x.l pp=ep x.l ⟨q.dC,3⟩):=Hd (by unfold om;rw [List.getElem?_eq_getElem hpl,hq]);have hpx:pp<x.l.length:=hpl;obtain ⟨ad,hl2,(HPA:Xb _),hlb,hlb2,hat0⟩:=dq.at_ h.gT.sl hpl;have hat:dq.At w (ad.add (pp*12)) q:=by rw [hq];exact hat0
  clear hat0;have HAT:=Hd (λX (hX:Bw w X)=>hat.below hX hlb2);clear hsv h ho hd HS0 hh hpp hpe hq hl2 hlb hlb2 hat;obtain ⟨qp,qh⟩:=q
  dsimp only at HM HEL HAT
  have hw63:(pp:Int)<(x.l.length:Int):=o_;go_enter func38,ntmps38;go_wp2_with fail;refine HFD.mono ?_;rintro e w1 ⟨rfl,bb⟩;have H1:=Hd (H.below bb);obtain ⟨e0,e1,e2,e3,e4,e5,e6,e7,e8,e9,e10,e11⟩:=HAT w1 bb
  dsimp only at e11
  have n14':w1.cell? ⟨C.ga,14,Z_⟩=Y' (S_ (Y' ad) x.l.length x.pc):=by rw [<-HPA.o];exact (H1.as []).a 14 d_
  clear bb HFD H n13 n14 n15 n16 n17 k29 e0 e1 e2 e3 e4 e5 e6 e7 e8 e9 e10 HAT;by_cases h3:qh=3
  .subst h3
   go_wp2_with fail;exact bodyPost_ret (v:=U_ #[S_ Z_ 0 0,I_ J_ 7]) (by simp [results,results38,go_sem]) rfl (.inr ⟨_,HM.1,HM.2,.inl ⟨rfl,rfl,H1⟩⟩)
  .have HEN:=Hd (H1.end_ pp hpx o_ HO.st.gQ)
   rw [HEL.o] at HEN;have HN3:=Hd h3;have HXR:=Hd (show eJ x.r (ep x.l ⟨qp,3⟩)/\ ∀e∈ep x.l ⟨qp,3⟩,e.ok from by
    have hp:PI 0 x.r [⟨qp,qh⟩] ((⟨0,[],[],[]⟩:Xf),x.l,[]):=⟨eu.nil 0,λ_ h=>(by cases h),HO.st,HO.each,λz hz=>by rw [Xv] at hz;rw [hz];exact HM.1⟩;have h2:=hp.FP (λ_ h=>by cases h) (ev:=[]) hp.ju hp.im (n:=3) d_;exact ⟨h2.right,h2.ok⟩)
   clear H1;go_wp2_with fail;refine HEN.mono ?_;rintro e w2 ⟨rfl,A2,c2,hq2⟩;have HA:=Hd (show Aq C rt {x with PA:=A2,pc:=c2,l:=ep x.l ⟨qp,3⟩} [] (⟨55,4,Y' ⟨X_ (Y_ w2),0,Z_⟩,1,1,Xm [⟨4,id,0,0⟩]⟩::R) (w2.alloc (.cells #[I_ J_ 4,T_ id,I_ J_ 0,I_ J_ 0] 55)) from
    hq2.kt (dL) (Ro.Row.new (cs:= #[I_ J_ 4,T_ id,I_ J_ 0,I_ J_ 0]) rfl d_) (λb hb=>by cases hb;exact Nat.le_refl _))
   have HSE:=Hd (HSV _ _ _ _ (Y' ⟨X_ (Y_ w2),0,Z_⟩) 1 1 HA HXR.1 HXR.2 rfl);clear hq2 HEN HA e11 n14';go_wp2_with fail;refine HSE.mono ?_;rintro e w3 ⟨a,b,rfl,(HPP:Xb _)⟩;clear HSE;go_wp2_with fail;exact bodyPost_ret (v:=U_ #[a,b]) (by simp [results,results38,go_sem]) rfl (.inr ⟨_,HM.1,HM.2,.inr ⟨HN3,A2,c2,_,_,a,b,rfl,HPP⟩⟩)
end
def pO (x:AV) (p:dz) (q k s:Int) (outs:List ByteArray):Prop:=
 (q≠0/\outs=[]/\(fw p=WW\/Xq (eo x.l) p.id=Z'\/64<=x.l.length))\/
 (q=0/\outs=[]/\fw p=Z'/\Xq (eo x.l) p.id=WW/\x.l.length<64/\((k=3/\Tw.oh x.o0 x.o1 x.o2 p=Y' s)\/(k=4/\s=0/\Tw.oh x.o0 x.o1 x.o2 p=Z_/\Vi.fI x.p.a0 x.p.a1 x.p.a2 (Vi.eY (Tw.eT p (dx x.l)))=WW)))\/
 (q=0/\(k=1\/k=2)/\fw p=Z'/\Xq (eo x.l) p.id=WW/\x.l.length<64/\Tw.oh x.o0 x.o1 x.o2 p=Z_/\Vi.fI x.p.a0 x.p.a1 x.p.a2 (Vi.eY (Tw.eT p (dx x.l)))=Z'/\
  ∃ys:List dz,ys.Perm ((dx x.l).filter (Tw.fP p))/\Sort.SortedIn (ltOf Tw.jv) 0 ys.length ys.toArray/\outs.Perm (Tw.fp x.p.a0 x.p.a1 x.p.a2 (Tw.eT p (dx x.l)) ys).2)
def wU {x:AV} {p:dz} {W:WX} (h:Tw.iy x.p.a0 x.p.a1 x.p.a2 x.l x.o0 x.o1 x.o2 p W e w'): ∃(q k s:Int) (A:Option Xa) (c:Nat) (outs:List ByteArray),e=R_ (U_ #[A_ #[I_ J_ k,I_ J_ s,S_ A outs.length c],I_ J_ q])/\
  Bw W w'/\Xx w' 9 1 A outs.length c (outs.map Xg)/\(∀b,Xj A=Y' b->X_ (Y_ W)<=b)/\pO x p q k s outs:=by
 obtain ⟨U,h⟩:=h;have nil: ∀b,Xj (Z_:Option Xa)=Y' b->X_ (Y_ W)<=b:=λ_ h=>by cases h
 rcases h with ⟨G,F⟩|⟨G,F,I⟩|⟨G,F,I,h4⟩|⟨G,F,I,h4⟩
 .exact ⟨1,0,0,Z_,0,[],F,U,Xh,nil,.inl ⟨d_,rfl,.inl G⟩⟩
 .exact ⟨5,0,0,Z_,0,[],I,U,Xh,nil,.inl ⟨d_,rfl,.inr (.inl F)⟩⟩
 .exact ⟨6,0,0,Z_,0,[],h4,U,Xh,nil,.inl ⟨d_,rfl,.inr (.inr I)⟩⟩
 .rcases h4 with ⟨i,h5,V⟩|⟨h5,⟨V,h7⟩|⟨V,ys,outs,h7,h8,h9,⟨X,O⟩|⟨A,c,X,O,af,ae⟩⟩⟩
  .exact ⟨0,3,i,Z_,0,[],V,U,Xh,nil,.inr (.inl ⟨rfl,rfl,G,F,I,.inl ⟨rfl,h5⟩⟩)⟩
  .exact ⟨0,4,0,Z_,0,[],h7,U,Xh,nil,.inr (.inl ⟨rfl,rfl,G,F,I,.inr ⟨rfl,rfl,h5,V⟩⟩)⟩
  .subst X
   exact ⟨0,1,0,Z_,0,[],O,U,Xh,nil,.inr (.inr ⟨rfl,.inl rfl,G,F,I,h5,V,ys,h7,h8,h9⟩)⟩
  .exact ⟨0,2,0,A,c,outs,O,U,af,ae,.inr (.inr ⟨rfl,.inr rfl,G,F,I,h5,V,ys,h7,h8,h9⟩)⟩
def jR (l:List dq) (outs:List ByteArray):List dq:=outs.foldl my l
def Da (l:List dq) (outs:List ByteArray) (k:Nat) (h:k<outs.length):jR l (outs.take (k+1))=my (jR l (outs.take k)) outs[k]:=by
 unfold jR;rw [Mem.dQ outs k h,List.foldl_append];rfl
def nY (outs:List ByteArray):List dX:=outs.map λs=>⟨2,s,0,0⟩
def Db (outs:List ByteArray) (k:Nat) (h:k<outs.length):nY (outs.take (k+1))=nY (outs.take k)++[⟨2,outs[k],0,0⟩]:=by
 unfold nY;rw [Mem.dQ outs k h,List.map_append];rfl
def ot: ∀(outs:List ByteArray) (l:List dq),(jR l outs).Sublist l
 |[],_=>List.Sublist.refl _
 |s::outs,l=>(ot outs (my l s)).trans oT
def pa: ∀(outs:List ByteArray) (l:List dq),eJ r l->eJ r (jR l outs)
 |[],_,h=>h
 |s::outs,l,h=>pa outs (my l s) (oc h)
def qv (h:l'.Sublist l) (hs:Xq (eo l) s=WW):Xq (eo l') s=WW:=by
 cases hh:Xq (eo l') s
 .rfl
 .obtain ⟨e,G,F⟩:=List.mem_map.1 (du.fO.1 hh)
  have I:=du.fO.2 (show s∈eo l from List.mem_map.2 ⟨e,h.subset G,F⟩);rw [I] at hs;cases hs
def L_ (C:Cx) (rt:Xf) (x:AV) (R:List RK) (p:dz) (P:Xf->AV->List RK->Option Xa->Nat->Nat->WY->WY->WX->Prop) (e:Ending) (w':WX):Prop:=
 (∃q:Int,q≠0/\pO x p q 0 0 []/\V' C rt x R q e w')\/
 (∃(k s:Int) (EA:Option Xa),(k=3\/k=4)/\pO x p 0 k s []/\e=R_ (U_ #[S_ EA 1 1,I_ J_ 0])/\Aq C rt x [] (⟨55,4,EA,1,1,Xm [⟨3,p.id,s,k⟩]⟩::R) w')\/
 (∃(k s:Int) (outs:List ByteArray),(k=1\/k=2)/\pO x p 0 k s outs/\ ∃(A:Option Xa) (c:Nat) (EA:Option Xa) (ec:Nat) (a b:WY),e=R_ (U_ #[a,b])/\
  P rt {x with PA:=A,pc:=c,l:=ep (jR x.l outs) ⟨p,1⟩} (⟨55,4,EA,outs.length+1,ec,Xm (nY outs++[⟨1,p.id,0,0⟩])⟩::R) EA (outs.length+1) ec a b w')
section
variable {C:Cx} {w:WX} {rt:Xf} {x:AV} {B:BL} {R:List RK} {n:Nat}
def Un {p:Prop} (h:p:=by
 refine dm.skip rfl rfl (Rd.ft (w:=aS) _ _ _ rfl aa 0 #[I_ J_ k,I_ J_ s,S_ A outs.length c] rfl rfl (eU.gP b6.o y_) k_ v_) aL ?_;refine dm.tk 0 aL [21] ?_
 iterate 1 (refine dm.dG rfl (λK' G=>?_);go_simp;(first|(refine G _ ?_;clear G K')|(apply Exists.intro;refine ⟨λwx F=>?_,G _ ?_⟩;(first|rfl|(have y0:Ce wx g 0 p.id:=(Hid.o F).b _ (m_ ..) 0;have y1:Ce wx g 1 p.prio:=(Hid.o F).b _ (m_ ..) 1;have y2:Ce wx g 2 p.fB:=(Hid.o F).b _ (m_ ..) 2;have y3:Ce wx g 3 p.r0:=(Hid.o F).b _ (m_ ..) 3;have y4:Ce wx g 4 p.r1:=(Hid.o F).b _ (m_ ..) 4;have y5:Ce wx g 5 p.r2:=(Hid.o F).b _ (m_ ..) 5;have y6:Ce wx g 6 p.l0:=(Hid.o F).b _ (m_ ..) 6;have y7:Ce wx g 7 p.l1:=(Hid.o F).b _ (m_ ..) 7;have y8:Ce wx g 8 p.l2:=(Hid.o F).b _ (m_ ..) 8;have y9:Ce wx g 9 p.eO:=(Hid.o F).b _ (m_ ..) 9;have aD:Ce wx g 10 p.size:=(Hid.o F).b _ (m_ ..) 10;have a5:Ce wx C.ga 0 x.p.c0:=(Hid.o F).a 0 d_;have a6:Ce wx C.ga 1 x.p.c1:=(Hid.o F).a 1 d_;have aY:Ce wx C.ga 2 x.p.c2:=(Hid.o F).a 2 d_;have aZ:Ce wx C.ga 3 x.p.a0:=(Hid.o F).a 3 d_;have bc:Ce wx C.ga 4 x.p.a1:=(Hid.o F).a 4 d_;have a8:Ce wx C.ga 5 x.p.a2:=(Hid.o F).a 5 d_;have a4:Ce wx C.ga 6 (S_ x.p.A x.p.n x.p.c):=(Hid.o F).a 6 d_;have a9:Ce wx C.ga 7 x.p.fg:=(Hid.o F).a 7 d_;have a7:Ce wx C.ga 8 x.p.ret:=(Hid.o F).a 8 d_;have bb:Ce wx C.ga 9 x.p.fE:=(Hid.o F).a 9 d_;have ay:Ce wx C.ga 10 x.p.dead:=(Hid.o F).a 10 d_;have aR:Ce wx C.ga 14 (S_ x.PA x.l.length x.pc):=(Hid.o F).a 14 d_;have aK:Ce wx C.ga 15 x.o0:=(Hid.o F).a 15 d_;have aw:Ce wx C.ga 16 x.o1:=(Hid.o F).a 16 d_;have aI:Ce wx C.ga 17 x.o2:=(Hid.o F).a 17 d_;go_simp;first|done|rfl));clear G K')))
 refine dm.df ?_;go_wp2_with fail
 go_meet
 exact ⟨aa,q,k,s,A,c,outs,rfl,rfl,aO,aN,KS,bo,Hd (λb hb=>Nat.le_trans (by first|exact ab.o.size|exact ag.o.size) (ac.o.2 b hb)),bB⟩):p:=h
def Uo {p:Prop} (k:q) (h:Wq q->p:=by
 intro kq
 iterate 3 (refine dm.dG rfl (λK' G=>?_);go_simp;(first|(refine G _ ?_;clear G K')|(apply Exists.intro;refine ⟨λwx F=>?_,G _ ?_⟩;(first|rfl|(have y0:Ce wx g 0 p.id:=(Hid.o F).b _ (m_ ..) 0;have y1:Ce wx g 1 p.prio:=(Hid.o F).b _ (m_ ..) 1;have y2:Ce wx g 2 p.fB:=(Hid.o F).b _ (m_ ..) 2;have y3:Ce wx g 3 p.r0:=(Hid.o F).b _ (m_ ..) 3;have y4:Ce wx g 4 p.r1:=(Hid.o F).b _ (m_ ..) 4;have y5:Ce wx g 5 p.r2:=(Hid.o F).b _ (m_ ..) 5;have y6:Ce wx g 6 p.l0:=(Hid.o F).b _ (m_ ..) 6;have y7:Ce wx g 7 p.l1:=(Hid.o F).b _ (m_ ..) 7;have y8:Ce wx g 8 p.l2:=(Hid.o F).b _ (m_ ..) 8;have y9:Ce wx g 9 p.eO:=(Hid.o F).b _ (m_ ..) 9;have aD:Ce wx g 10 p.size:=(Hid.o F).b _ (m_ ..) 10;have a5:Ce wx C.ga 0 x.p.c0:=(Hid.o F).a 0 d_;have a6:Ce wx C.ga 1 x.p.c1:=(Hid.o F).a 1 d_;have aY:Ce wx C.ga 2 x.p.c2:=(Hid.o F).a 2 d_;have aZ:Ce wx C.ga 3 x.p.a0:=(Hid.o F).a 3 d_;have bc:Ce wx C.ga 4 x.p.a1:=(Hid.o F).a 4 d_;have a8:Ce wx C.ga 5 x.p.a2:=(Hid.o F).a 5 d_;have a4:Ce wx C.ga 6 (S_ x.p.A x.p.n x.p.c):=(Hid.o F).a 6 d_;have a9:Ce wx C.ga 7 x.p.fg:=(Hid.o F).a 7 d_;have a7:Ce wx C.ga 8 x.p.ret:=(Hid.o F).a 8 d_;have bb:Ce wx C.ga 9 x.p.fE:=(Hid.o F).a 9 d_;have ay:Ce wx C.ga 10 x.p.dead:=(Hid.o F).a 10 d_;have aR:Ce wx C.ga 14 (S_ x.PA x.l.length x.pc):=(Hid.o F).a 14 d_;have aK:Ce wx C.ga 15 x.o0:=(Hid.o F).a 15 d_;have aw:Ce wx C.ga 16 x.o1:=(Hid.o F).a 16 d_;have aI:Ce wx C.ga 17 x.o2:=(Hid.o F).a 17 d_;go_simp;first|done|rfl));clear G K')))
 exact kq.o):p:=h ⟨k⟩
def OG {p:Prop} (k:q) (h:Wq q->p:=by
 intro kq;have aL:=Hd ((H1.o.below aO.o).as []);have KS:=Hd (show Mem.c_ (aS.setCells aa 0 [I_ J_ k,I_ J_ s,S_ A outs.length c]) aa 140 #[I_ J_ k,I_ J_ s,S_ A outs.length c] from by have:=eU.gv [I_ J_ k,I_ J_ s,S_ A outs.length c] 0 _ _ b6.o;simpa [eU.lay] using this)
 revert aL KS
 exact kq.o):p:=h ⟨k⟩
def KV {P:Xf->AV->List RK->Option Xa->Nat->Nat->WY->WY->WX->Prop} (b9:Ad C P x.eB) (p:dz) (h:Aq C rt x [] R w) (ho:Ok x) (hd:x.dead=WW) (hp:p.ok):
  WZ Xd 36 #[P_ (Y' ⟨C.ga,0,Z_⟩),A_ p.arr] w (L_ C rt x R p P):=by
 have cx:=Hd b9;have HO:=Hd ho;have hll:=ho.st.len;have cz:=Hd hp;obtain ⟨g,hg⟩:=nm (X_ (Y_ w));obtain ⟨w1,aH⟩:=nm (w.alloc (.cells p.arr 42));have bS:Xc w.heap.size w w1:=by rw [aH];exact b_.alloc l_ _
 have H1:=Hd (show Aq C rt x [(g,42,p.arr)] R w1 from by rw [hg];exact h.ku bS (by rw [aH];exact Xi) l_);have aJ:=Hd (λX (hX:Xc w1.heap.size w1 X)=>Tw.Hi x.p x.PA x.l.length x.pc x.l x.o0 x.o1 x.o2 p X (H1.o.below hX).gT.sl rfl o_ ho.each hp);have cC:=Hd hd;have hR:p.arr= #[T_ p.id,I_ J_ p.prio,B_ p.fB,I_ J_ p.r0,I_ J_ p.r1,I_ J_ p.r2,I_ J_ p.l0,I_ J_ p.l1,I_ J_ p.l2,T_ p.eO,I_ J_ p.size]:=rfl;rw [hR] at aH H1 aJ |-;unfold ef.arr at aJ;have cB:Ce w1 C.ga 29 (B_ WW):=by rw [<-cC.o];exact (H1.o.as []).a 29 d_
 clear h ho hd b9 hp bS hR;go_enter func36,ntmps36;go_upto_region 1 with fail;rw [<-aH,<-hg];clear aH hg;go_upto_region 3 with fail;clear cB;go_cut [6,7] (λs6 s7 wx=> ∃(aa:Nat) (q k s:Int) (A:Option Xa) (c:Nat) (outs:List ByteArray),s6=P_ (Y' ⟨aa,0,Z_⟩)/\s7=I_ J_ q/\Xb (Xc w1.heap.size w1 wx)/\Xb (X_ (Y_ w1)<=aa)/\Xb (Xr wx aa 140 #[I_ J_ k,I_ J_ s,S_ A outs.length c])/\Xb (Xx wx 9 1 A outs.length c (outs.map Xg))/\Xb (∀b,Xj A=Y' b->X_ (Y_ w1)<=b)/\Xb (pO x p q k s outs))
 case first=>
  obtain ⟨wc,aF⟩:=nm (Xu w1);have ag:=Hd (show Xc w1.heap.size w1 wc from by rw [aF];exact b_.drew);have I:=Hd ((H1.o.below ag.o).as []);refine dm.start (S:=λwx=>Xb (AS C (x.arr C.gw C.sb) [] [(g,42,#[T_ p.id,I_ J_ p.prio,B_ p.fB,I_ J_ p.r0,I_ J_ p.r1,I_ J_ p.r2,I_ J_ p.l0,I_ J_ p.l1,I_ J_ p.l2,T_ p.eO,I_ J_ p.size])] wx)) k_ ?_;rw [<-aF];clear aF;refine XF 7 I [0,1,2,3,4,5,6,7,8,9,10,11,12,13,14] ?_
  iterate 15 (refine dm.dG rfl (λK' G=>?_);go_simp;(first|(refine G _ ?_;clear G K')|(apply Xo;refine ⟨λwx F=>?_,G _ ?_⟩;(first|rfl|(have y0:Ce wx g 0 p.id:=(Xe F).b _ (m_ ..) 0;have y1:Ce wx g 1 p.prio:=(Xe F).b _ (m_ ..) 1;have y2:Ce wx g 2 p.fB:=(Xe F).b _ (m_ ..) 2;have y3:Ce wx g 3 p.r0:=(Xe F).b _ (m_ ..) 3;have y4:Ce wx g 4 p.r1:=(Xe F).b _ (m_ ..) 4;have y5:Ce wx g 5 p.r2:=(Xe F).b _ (m_ ..) 5;have y6:Ce wx g 6 p.l0:=(Xe F).b _ (m_ ..) 6;have y7:Ce wx g 7 p.l1:=(Xe F).b _ (m_ ..) 7;have y8:Ce wx g 8 p.l2:=(Xe F).b _ (m_ ..) 8;have y9:Ce wx g 9 p.eO:=(Xe F).b _ (m_ ..) 9;have aD:Ce wx g 10 p.size:=(Xe F).b _ (m_ ..) 10;have a5:Ce wx C.ga 0 x.p.c0:=(Xe F).a 0 d_;have a6:Ce wx C.ga 1 x.p.c1:=(Xe F).a 1 d_;have aY:Ce wx C.ga 2 x.p.c2:=(Xe F).a 2 d_;have aZ:Ce wx C.ga 3 x.p.a0:=(Xe F).a 3 d_;have bc:Ce wx C.ga 4 x.p.a1:=(Xe F).a 4 d_;have a8:Ce wx C.ga 5 x.p.a2:=(Xe F).a 5 d_;have a4:Ce wx C.ga 6 (S_ x.p.A x.p.n x.p.c):=(Xe F).a 6 d_;have a9:Ce wx C.ga 7 x.p.fg:=(Xe F).a 7 d_;have a7:Ce wx C.ga 8 x.p.ret:=(Xe F).a 8 d_;have bb:Ce wx C.ga 9 x.p.fE:=(Xe F).a 9 d_;have ay:Ce wx C.ga 10 x.p.dead:=(Xe F).a 10 d_;have aR:Ce wx C.ga 14 (S_ x.PA x.l.length x.pc):=(Xe F).a 14 d_;have aK:Ce wx C.ga 15 x.o0:=(Xe F).a 15 d_;have aw:Ce wx C.ga 16 x.o1:=(Xe F).a 16 d_;have aI:Ce wx C.ga 17 x.o2:=(Xe F).a 17 d_;go_simp;first|done|rfl));clear G K')))
  refine dm.ee ?_;refine dm.two (i:=15) (j:=19) (n:=6) k_ ?_ ?_
  .refine wV ?_
   refine (aJ.o wc ag.o).mono ?_;rintro e wk hk;obtain ⟨q,k,s,A,c,outs,rfl,aA,ar,az,aM⟩:=wU hk;have ak:=Hd (ag.o.trans (aA.mono ag.o.size));have bB:=Hd aM;have ac:=Hd (Xk ar (show∀b,Xj A=Y' b->X_ (Y_ wc)<=b from az));have aP:=Hd ((H1.o.below ak.o).as []);clear hk aA ar az aM;refine ⟨_,rfl,aP,?_⟩;refine XF 3 aP [16,17,18] ?_;refine Uo ?_;refine dm.dn 19 2 ?_;obtain ⟨aa,an⟩:=nm (X_ (Y_ wk));have aN:=Hd (show w1.heap.size<=aa from by rw [an];exact ak.o.size);obtain ⟨aS,al⟩:=nm (wk.alloc (.cells #[I_ J_ 0,I_ J_ 0,S_ Z_ 0 0] 140));have ab:=Hd (show Xc w1.heap.size w1 aS from by rw [al];exact ak.o.alloc ak.o.size _);have b6:=Hd (show Xr aS aa 140 #[I_ J_ 0,I_ J_ 0,S_ Z_ 0 0] from by rw [al,an];exact Xi);have bi:=Hd ((H1.o.below ab.o).as []);have ch:=Hd (show Xx aS 9 1 A outs.length c (outs.map Xg) from by rw [al];exact ac.o.1.dy λb hb=>Xz _ _ _ (ac.o.1.lt hb));have bn:=Hd (show∀b,Xj A=Y' b->b≠aa from λb hb e=>by have:=ac.o.1.lt hb;omega);refine XE rfl rfl (v:=P_ (Y' ⟨X_ (Y_ wk),0,Z_⟩)) (w':=wk.alloc (.cells #[I_ J_ 0,I_ J_ 0,S_ Z_ 0 0] 140)) f_ (by rw [<-al];exact bi) ?_;rw [<-al,<-an];clear al an;refine XG 20 1 ?_;have aO:=Hd (show Xc w1.heap.size w1 (aS.setCells aa 0 [I_ J_ k,I_ J_ s,S_ A outs.length c]) from ab.o.trans ((XC [I_ J_ k,I_ J_ s,S_ A outs.length c] 0 aS).below ab.o.size (λk hk e=>by have e:k=aa:=e;have:=aN.o;omega)));refine OG ?_;intro aL KS;have bo:=Hd (ch.o.only (XC (g:=aa) [I_ J_ k,I_ J_ s,S_ A outs.length c] 0 aS) (λb hb e=>bn.o b hb e));exact Un
  .obtain ⟨aa,an⟩:=nm (X_ (Y_ wc))
   have aN:=Hd (show w1.heap.size<=aa from by rw [an];exact ag.o.size);obtain ⟨wa,al⟩:=nm (wc.alloc (.cells #[I_ J_ 0,I_ J_ 0,S_ Z_ 0 0] 140));have ab:=Hd (show Xc w1.heap.size w1 wa from by rw [al];exact ag.o.alloc ag.o.size _);have K5:=Hd (show Xr wa aa 140 #[I_ J_ 0,I_ J_ 0,S_ Z_ 0 0] from by rw [al,an];exact Xi);have bi:=Hd ((H1.o.below ab.o).as []);refine XE rfl rfl (v:=P_ (Y' ⟨X_ (Y_ wc),0,Z_⟩)) (w':=wc.alloc (.cells #[I_ J_ 0,I_ J_ 0,S_ Z_ 0 0] 140)) f_ (by rw [<-al];exact bi) ?_;rw [<-al,<-an];clear al an;refine XG 15 5 ?_;refine wV ?_;refine (aJ.o wa ab.o).mono ?_;rintro e aS hk;obtain ⟨q,k,s,A,c,outs,rfl,aA,ar,az,aM⟩:=wU hk;have ak:=Hd (ab.o.trans (aA.mono ab.o.size));have bB:=Hd aM;have ac:=Hd (Xk ar (show∀b,Xj A=Y' b->X_ (Y_ wa)<=b from az));have aP:=Hd ((H1.o.below ak.o).as []);have b6:=Hd (K5.o.a_ aA);have bn:=Hd (show∀b,Xj A=Y' b->b≠aa from λb hb e=>by have:=ac.o.2 b hb;have:=K5.o.lt;omega);clear hk aA ar az aM;refine ⟨_,rfl,aP,?_⟩;refine XF 2 aP [16,17,18] ?_;refine Uo ?_;refine dm.dn 20 1 ?_;have aO:=Hd (show Xc w1.heap.size w1 (aS.setCells aa 0 [I_ J_ k,I_ J_ s,S_ A outs.length c]) from ak.o.trans ((XC [I_ J_ k,I_ J_ s,S_ A outs.length c] 0 aS).below ak.o.size (λk hk e=>by have e:k=aa:=e;have:=aN.o;omega)));refine OG ?_;intro aL KS;have bo:=Hd (ac.o.1.only (XC (g:=aa) [I_ J_ k,I_ J_ s,S_ A outs.length c] 0 aS) (λb hb e=>bn.o b hb e));exact Un
 case rest=>
  obtain ⟨aa,q,k,s,A,c,outs,rfl,rfl,bg,bW,aV,bh,bt,ai⟩:=hcut;have H2:=Hd (show Aq C rt x [(aa,140,#[I_ J_ k,I_ J_ s,S_ A outs.length c]),(g,42,#[T_ p.id,I_ J_ p.prio,B_ p.fB,I_ J_ p.r0,I_ J_ p.r1,I_ J_ p.r2,I_ J_ p.l0,I_ J_ p.l1,I_ J_ p.l2,T_ p.eO,I_ J_ p.size])] (⟨9,1,A,outs.length,c,outs.map Xg⟩::R) wc from (H1.o.kt bg.o bh.o bt.o).yn aV.o bg.o bW.o H1.o bh.o bt.o);clear bg bW bh bt aJ H1;by_cases aG:q=0
  rotate_left
  .have hqb:=beq_eq_false_iff_ne.2 aG
   have bp:=Hd (show L_ C rt x R p P (R_ (U_ #[S_ Z_ 0 0,I_ J_ q])) wc from .inl ⟨q,aG,by rcases ai.o with ⟨ae,h2,h3⟩|⟨ae,_⟩|⟨ae,_⟩;exact .inl ⟨ae,rfl,h3⟩;exact absurd ae aG;exact absurd ae aG,rfl,H2.o.sub (λ_ h=>by cases h) (λt ht=>n_ _ ht)⟩);clear H2 ai aV;go_wp2_with fail;exact bodyPost_ret (v:=U_ #[S_ Z_ 0 0,I_ J_ q]) (by simp [results,results36,go_sem]) rfl bp.o
  subst aG;obtain ⟨v0,v1,v2,-⟩:=kA aV.o;have v3:=((H2.o.as []).b _ (n_ _ (m_ ..)) 0);by_cases aE:k=3\/k=4
  .have cu:=Hd (show L_ C rt x R p P (R_ (U_ #[S_ (Y' ⟨X_ (Y_ wc),0,Z_⟩) 1 1,I_ J_ 0])) (wc.alloc (.cells #[I_ J_ 3,T_ p.id,I_ J_ s,I_ J_ k] 55)) from
    .inr (.inl ⟨k,s,_,aE,by rcases ai.o with ⟨ae,_⟩|⟨ae,h2,h3⟩|⟨_,h2,_⟩;exact absurd rfl ae;exact .inr (.inl ⟨ae,rfl,h3⟩);omega,rfl,(H2.o.kt (b_.alloc l_ _) (Ro.Row.new (n:=1) (k:=4) (cs:= #[I_ J_ 3,T_ p.id,I_ J_ s,I_ J_ k]) rfl d_) (λb hb=>by cases hb;exact Nat.le_refl _)).sub (λ_ h=>by cases h) (λt ht=>by rcases p_ ht with rfl|ht;exact m_ ..;exact n_ _ (n_ _ ht))⟩))
   clear H2 ai aV;rcases aE with rfl|rfl
   all_goals
    go_wp2_with fail;exact bodyPost_ret (v:=U_ #[S_ (Y' ⟨X_ (Y_ wc),0,Z_⟩) 1 1,I_ J_ 0]) (by simp [results,results36,go_sem]) rfl cu.o
  .have h3:=beq_eq_false_iff_ne.2 λe=>aE (.inl e)
   have h4:=beq_eq_false_iff_ne.2 λe=>aE (.inr e)
   have HK:=Hd aE;clear aE;have cm:outs.length<=64:=by
    rcases ai.o with ⟨ae,_⟩|⟨_,ae,_⟩|⟨_,_,_,_,_,_,_,ys,ae,_,h2⟩
    .exact absurd rfl ae
    .rw [ae];exact Nat.zero_le _
    .have e1:=h2.length_eq
     have e2:=(Tw.wS (g0:=x.p.a0) (g1:=x.p.a1) (g2:=x.p.a2) (stay:=Tw.eT p (dx x.l)) ys).2.2.1;have e3:=ae.length_eq;have e4:=List.length_filter_le (Tw.fP p) (dx x.l);have e5:(dx x.l).length=x.l.length:=by simp [dx]
     omega
   have HL:=Hd (show Ae C rt {x with l:=jR x.l (outs.take 0)} [(aa,140,#[I_ J_ k,I_ J_ s,S_ A outs.length c]),(g,42,#[T_ p.id,I_ J_ p.prio,B_ p.fB,I_ J_ p.r0,I_ J_ p.r1,I_ J_ p.r2,I_ J_ p.l0,I_ J_ p.l1,I_ J_ p.l2,T_ p.eO,I_ J_ p.size])] (⟨9,1,A,outs.length,c,outs.map Xg⟩::R) Z_ 0 0 (nY (outs.take 0)) wc from H2.o.Ra);obtain ⟨no,bl⟩:=nm (outs.length);have bR:=Hd bl;rw [<-bl] at v2 HL cm;clear bl H2 aV;go_wp2_with fail;clear v0 v1 v2 v3;go_loopw [8,56] (λv8 vi wr=> ∃(j:Nat) (EA:Option Xa) (ec:Nat) (PA:Option Xa) (pc:Nat),j<=no/\vi=I_ J_ j/\v8=S_ EA j ec/\Xb (Ae C rt {x with PA:=PA,pc:=pc,l:=jR x.l (outs.take j)} [(aa,140,#[I_ J_ k,I_ J_ s,S_ A no c]),(g,42,#[T_ p.id,I_ J_ p.prio,B_ p.fB,I_ J_ p.r0,I_ J_ p.r1,I_ J_ p.r2,I_ J_ p.l0,I_ J_ p.l1,I_ J_ p.l2,T_ p.eO,I_ J_ p.size])] (⟨9,1,A,no,c,outs.map Xg⟩::R) EA j ec (nY (outs.take j)) wr)) (λ_ vi _=>no - (intOf vi).toNat)
   .exact ⟨0,Z_,0,x.PA,x.pc,o_,rfl,rfl,HL⟩
   .clear HL
    obtain ⟨j,EA,ec,PA,pc,hj,rfl,rfl,HX⟩:=hrel;have ao:=Hd (pa (outs.take j) x.l HO.o.st);by_cases cI:j<no
    .obtain ⟨ad,id,cf,rfl,cp,bY,cG⟩:=(show Strs wr wr.heap.size A no outs from (HX.o.aq.row (m_ ..)).sl).at_ cI
     have bu:=Hd (Da x.l outs j cf);have am:=Hd (Db outs j cf);rw [bY] at bu am;obtain ⟨lj,aB⟩:=nm (jR x.l (outs.take j));obtain ⟨ej,bU⟩:=nm (nY (outs.take j));rw [<-aB] at HX bu ao;rw [<-bU] at HX am;have bQ:=ao.o.len;clear aB bU bY cp;have hw:=Ta.fh (n:=(j:Int)+1) o_ o_;have HW:=Hd (oY x.r PA lj.length pc x.o0 x.o1 x.o2 lj id wr HX.o.aq.gT.sl ao.o.gQ rfl o_ (gy HX.o.aq.gT));unfold gF at HW;have ax:Ce wr C.ga 13 x.r:=(HX.o.aq.as []).a 13 d_;have aQ:Ce wr C.ga 14 (S_ PA lj.length pc):=(HX.o.aq.as []).a 14 d_;have av:Ce wr C.ga 15 x.o0:=(HX.o.aq.as []).a 15 d_;have au:Ce wr C.ga 16 x.o1:=(HX.o.aq.as []).a 16 d_;have ap:Ce wr C.ga 17 x.o2:=(HX.o.aq.as []).a 17 d_;go_wp2_with fail;refine HW.o.mono ?_;rintro e w2 ⟨A',n',c',he,U,af,hA⟩;obtain rfl:=iw U;unfold gF at he;subst he;have H2:=Hd (HX.o.below af);have HT:=Hd (HX.o.tab af U hA).2;clear U af hA HW HX ax aQ av au ap cG;obtain ⟨u13,ax⟩: ∃v,w2.cell? ⟨C.ga,13,Z_⟩=Y' v:=⟨_,(H2.o.aq.as []).a 13 d_⟩;have cF:=H2.o.aq.oD 13;obtain ⟨u14,aQ⟩: ∃v,w2.cell? ⟨C.ga,14,Z_⟩=Y' v:=⟨_,(H2.o.aq.as []).a 14 d_⟩;have cj:=H2.o.aq.oD 14;obtain ⟨u15,av⟩: ∃v,w2.cell? ⟨C.ga,15,Z_⟩=Y' v:=⟨_,(H2.o.aq.as []).a 15 d_⟩;have cK:=H2.o.aq.oD 15;obtain ⟨u16,au⟩: ∃v,w2.cell? ⟨C.ga,16,Z_⟩=Y' v:=⟨_,(H2.o.aq.as []).a 16 d_⟩;have cw:=H2.o.aq.oD 16;obtain ⟨u17,ap⟩: ∃v,w2.cell? ⟨C.ga,17,Z_⟩=Y' v:=⟨_,(H2.o.aq.as []).a 17 d_⟩;have ct:=H2.o.aq.oD 17;obtain ⟨w3,bw⟩:=nm (((((w2.setCell ⟨C.ga,13,Z_⟩ (I_ J_ x.r)).setCell ⟨C.ga,14,Z_⟩ (.slice A' (my lj id).length c')).setCell ⟨C.ga,15,Z_⟩ (B_ x.o0)).setCell ⟨C.ga,16,Z_⟩ (B_ x.o1)).setCell ⟨C.ga,17,Z_⟩ (B_ x.o2));have H3:=Hd (show Ae C rt {x with PA:=A',pc:=c',l:=my lj id} [(aa,140,#[I_ J_ k,I_ J_ s,S_ (Y' ad) no c]),(g,42,#[T_ p.id,I_ J_ p.prio,B_ p.fB,I_ J_ p.r0,I_ J_ p.r1,I_ J_ p.r2,I_ J_ p.l0,I_ J_ p.l1,I_ J_ p.l2,T_ p.eO,I_ J_ p.size])] (⟨9,1,Y' ad,no,c,outs.map Xg⟩::R) EA j ec ej w3 from by rw [bw];exact HT.o);clear HT;go_upto_region 13 with fail;rw [<-bw];clear bw H2 ax aQ av au ap cF cj cK cw ct;obtain ⟨cA,cD,w4,hr,bj⟩:=H3.o.push ⟨2,id,0,0⟩ o_;unfold dX.arr at hr;rw [<-bu.o,<-am.o] at bj;have ap:=Hd bj;clear bj H3;go_wp2_with (at_builtin;refine Ro.dS rfl _ _ _ _ rfl _ _ rfl rfl hr ?_)
     go_roundw
     .exact ⟨j+1,cA,cD,A',c',o_,by go_num,rfl,ap⟩
     .simp [intOf];omega
    .obtain rfl:j=no:=o_
     have hx:=HX.o;rw [t_ (by have:=bR.o;omega)] at hx ao;have H5:=Hd hx;clear hx HX;obtain ⟨lj,aB⟩:=nm (jR x.l outs);rw [<-aB] at H5 ao;have bP:=Hd aB;have bQ:=ao.o.len;clear aB;go_upto_region 15 with fail;obtain ⟨aC,aT⟩:=nm (Xu wr);have O:=Hd (H5.o.below b_.drew);rw [<-aT] at O;have I:=Hd (O.o.aq.as [13,14,15,16,17]);have HW:=Hd (yJ x.r PA lj.length pc x.o0 x.o1 x.o2 lj ⟨p,1⟩ aC O.o.aq.gT.sl ao.o.gQ rfl o_ (gy O.o.aq.gT));unfold gF dq.arr at HW
     dsimp only at HW
     have ax:Ce aC C.ga 13 x.r:=(O.o.aq.as []).a 13 d_;have aQ:Ce aC C.ga 14 (S_ PA lj.length pc):=(O.o.aq.as []).a 14 d_;have av:Ce aC C.ga 15 x.o0:=(O.o.aq.as []).a 15 d_;have au:Ce aC C.ga 16 x.o1:=(O.o.aq.as []).a 16 d_;have ap:Ce aC C.ga 17 x.o2:=(O.o.aq.as []).a 17 d_;refine dm.start (S:=λwx=>Xb (AS C (({x with PA:=PA,pc:=pc,l:=lj}:AV).arr C.gw C.sb) [13,14,15,16,17] [(aa,140,#[I_ J_ k,I_ J_ s,S_ A j c]),(g,42,#[T_ p.id,I_ J_ p.prio,B_ p.fB,I_ J_ p.r0,I_ J_ p.r1,I_ J_ p.r2,I_ J_ p.l0,I_ J_ p.l1,I_ J_ p.l2,T_ p.eO,I_ J_ p.size])] wx)) k_ ?_;rw [<-aT];clear aT;refine XF 5 I [0,1,2,3,5,6] ?_
     iterate 6 (refine dm.dG rfl (λK' G=>?_);go_simp;(first|(refine G _ ?_;clear G K')|(apply Xo;refine ⟨λwx F=>?_,G _ ?_⟩;(first|rfl|(have y0:Ce wx g 0 p.id:=(Xe F).b _ (n_ _ (m_ ..)) 0;have y1:Ce wx g 1 p.prio:=(Xe F).b _ (n_ _ (m_ ..)) 1;have y2:Ce wx g 2 p.fB:=(Xe F).b _ (n_ _ (m_ ..)) 2;have y3:Ce wx g 3 p.r0:=(Xe F).b _ (n_ _ (m_ ..)) 3;have y4:Ce wx g 4 p.r1:=(Xe F).b _ (n_ _ (m_ ..)) 4;have y5:Ce wx g 5 p.r2:=(Xe F).b _ (n_ _ (m_ ..)) 5;have y6:Ce wx g 6 p.l0:=(Xe F).b _ (n_ _ (m_ ..)) 6;have y7:Ce wx g 7 p.l1:=(Xe F).b _ (n_ _ (m_ ..)) 7;have y8:Ce wx g 8 p.l2:=(Xe F).b _ (n_ _ (m_ ..)) 8;have y9:Ce wx g 9 p.eO:=(Xe F).b _ (n_ _ (m_ ..)) 9;have aD:Ce wx g 10 p.size:=(Xe F).b _ (n_ _ (m_ ..)) 10;go_simp;first|done|rfl));clear G K')))
     refine dm.dn 4 4 ?_;refine XE rfl rfl (v:=A_ #[I_ J_ x.r,S_ PA lj.length pc,B_ x.o0,B_ x.o1,B_ x.o2]) (w':=aC) f_ I ?_;refine XG 7 3 ?_;refine wV ?_;refine HW.o.mono ?_;rintro e w6 ⟨A',n',c',rfl,U,af,hA⟩;obtain rfl:=iw U;have am:=Hd ((O.o.below af).aq.as [13,14,15,16,17]);have HT:=Hd (O.o.tab af U hA);have bZ:=Hd O.o.aq.bne;clear U af hA HW O I ax aQ av au ap;refine ⟨_,rfl,am,?_⟩;refine XF 1 am [8,9] ?_
     iterate 2 (refine dm.dG rfl (λK' G=>?_);go_simp;(first|(refine G _ ?_;clear G K')|(apply Xo;refine ⟨λwx F=>?_,G _ ?_⟩;(first|rfl|(have y0:C wx g 0 p.id:=(Xe F).b _ (n_ _ (m_ ..)) 0;have y1:C wx g 1 p.prio:=(Xe F).b _ (n_ _ (m_ ..)) 1;have y2:C wx g 2 p.fB:=(Xe F).b _ (n_ _ (m_ ..)) 2;have y3:C wx g 3 p.r0:=(Xe F).b _ (n_ _ (m_ ..)) 3;have y4:C wx g 4 p.r1:=(Xe F).b _ (n_ _ (m_ ..)) 4;have y5:C wx g 5 p.r2:=(Xe F).b _ (n_ _ (m_ ..)) 5;have y6:C wx g 6 p.l0:=(Xe F).b _ (n_ _ (m_ ..)) 6;have y7:C wx g 7 p.l1:=(Xe F).b _ (n_ _ (m_ ..)) 7;have y8:C wx g 8 p.l2:=(Xe F).b _ (n_ _ (m_ ..)) 8;have y9:C wx g 9 p.eO:=(Xe F).b _ (n_ _ (m_ ..)) 9;have aD:C wx g 10 p.size:=(Xe F).b _ (n_ _ (m_ ..)) 10;go_simp;first|done|rfl));clear G K')))
     refine dm.dn 10 0 ?_;refine dm.skip rfl rfl (Rd.ft (w:=w6) _ _ _ rfl C.ga 13 #[I_ J_ x.r,.slice A' (ep lj ⟨p,1⟩).length c',B_ x.o0,B_ x.o1,B_ x.o2] rfl rfl HT.o.1 k_ v_) (Hd (am.o.Ev bZ.o)) ?_;have ah:=Hd HT.o.2;obtain ⟨w7,ba⟩:=nm (w6.setCells C.ga 13 [I_ J_ x.r,.slice A' (ep lj ⟨p,1⟩).length c',B_ x.o0,B_ x.o1,B_ x.o2]);rw [<-ba] at ah
     try rw [<-ba]
     clear HT am bZ;refine dm.fi ?_
     try rw [<-ba]
     try change Code.wp _ _ _ _ w7
     clear ba;have bO:=Hd (show eJ x.r (ep lj ⟨p,1⟩)/\ ∀e∈ep lj ⟨p,1⟩,e.ok from by
      obtain ⟨cE,cr,hnl⟩:fw p=Z'/\Xq (eo x.l) p.id=WW/\x.l.length<64:=by
       rcases ai.o with ⟨ae,_⟩|⟨_,_,ae,h2,h3,_⟩|⟨_,_,ae,h2,h3,_⟩
       .exact absurd rfl ae
       .exact ⟨ae,h2,h3⟩
       .exact ⟨ae,h2,h3⟩
      have bz:lj.Sublist x.l:=by rw [bP.o];exact ot outs x.l
      refine ⟨mR (e:=⟨p,1⟩) ao.o (by unfold gC;rw [cE];rfl) (qv bz cr) (by have:=bz.length_le;omega),λe he=>?_⟩;rcases kL he with rfl|he
      .exact ⟨cz.o,⟨by show (-9223372036854775808:Int)<=1;omega,by show (1:Int)<=9223372036854775807;omega⟩⟩
      .exact HO.o.each e (bz.subset he))
     obtain ⟨bA,bm,w8,hr,hq⟩:=ah.o.push ⟨1,p.id,0,0⟩ o_;unfold dX.arr at hr;have v3:=((ah.o.aq.as []).b _ (n_ _ (m_ ..)) 0);have k0:=Hd ((hq.close).sub (B':=[]) (R':=⟨55,4,bA,j+1,bm,Xm (nY outs++[⟨1,p.id,0,0⟩])⟩::R) (λ_ h=>h) (λt ht=>by rcases p_ ht with rfl|ht;exact m_ ..;exact n_ _ (n_ _ ht)));have b8:=Hd (cx.o _ _ _ _ bA (j+1) bm k0.o bO.o.1 bO.o.2 rfl);clear hq ah k0;go_wp2_with (at_builtin;refine Ro.dS rfl _ _ _ _ rfl _ _ rfl rfl hr ?_)
     refine b8.o.mono ?_;rintro e w9 ⟨a,b,rfl,cd⟩;have ca:=Hd cd;clear cd b8;have bp:=Hd (show L_ C rt x R p P (R_ (U_ #[a,b])) w9 from .inr (.inr ⟨k,s,outs,by rcases ai.o with ⟨ae,_⟩|⟨_,_,_,_,_,⟨ae,_⟩|⟨ae,_⟩⟩|⟨_,ae,_⟩;exact absurd rfl ae;exact absurd (.inl ae) HK.o;exact absurd (.inr ae) HK.o;exact ae,ai.o,A',c',bA,bm,a,b,rfl,by rw [<-bP.o,<-bR.o];exact ca.o⟩));clear ca;go_wp2_with fail;exact bodyPost_ret (v:=U_ #[a,b]) (by simp [results,results36,go_sem]) rfl bp.o
end
section
variable {C:Cx} {w:WX} {rt:Xf} {x:AV} {B:BL} {R:List RK} {k:Nat}
def Wz (r:gj) (last round fS q tm a0 a1 a2:Int) (us:List et):Prop:=
 (q≠0/\(¬Tw.iq r\/Tw.ir r.time last round fS=Z'))\/(q=0/\Tw.iq r/\Tw.ir r.time last round fS=WW/\us.Perm (r.use.map Tw.j_)/\du.dY (iK us)/\tm=r.time/\a0=XB r.pX/\a1=XB r.pY/\a2=XB r.pZ)
def tL {r:gj} {round fS:Int} {W:WX} (h:Tw.ou r last round fS W e w'): ∃(q tm a0 a1 a2:Int) (A:Option Xa) (c:Nat) (us:List et),e=R_ (U_ #[A_ #[tm,a0,a1,a2,S_ A us.length c],q])/\
  Bw W w'/\Xx w' 299 4 A us.length c (et.flat us)/\(∀b,Xj A=Y' b->X_ (Y_ W)<=b)/\Wz r last round fS q tm a0 a1 a2 us:=by
 rcases h with ⟨F,G,I⟩|⟨O,F,G,I⟩|⟨O,F,A,c,us,G,I,U,h5,X,V⟩
 .exact ⟨1,0,0,0,0,Z_,0,[],G,I,Xh,λ_ h=>(by cases h),.inl ⟨d_,.inl F⟩⟩
 .exact ⟨8,0,0,0,0,Z_,0,[],G,I,Xh,λ_ h=>(by cases h),.inl ⟨d_,.inr F⟩⟩
 .exact ⟨0,_,_,_,_,A,c,us,G,V,h5,X,.inr ⟨rfl,O,F,I,U,rfl,rfl,rfl,rfl⟩⟩
def Sj (C:Cx) (rt:Xf) (x:AV) (R:List RK) (r:gj) (e:Ending) (w':WX):Prop:=
 (∃q:Int,q≠0/\(¬Tw.iq r\/Tw.ir r.time x.t x.r x.p.fE=Z')/\e=R_ (I_ J_ q)/\Aq C rt x [] R w')\/
 (Tw.iq r/\Tw.ir r.time x.t x.r x.p.fE=WW/\e=R_ (I_ J_ 0)/\ ∃(A:Option Xa) (c:Nat) (us:List et),us.Perm (r.use.map Tw.j_)/\du.dY (iK us)/\
  Aq C rt {x with t:=r.time,a0:=XB r.pX,a1:=XB r.pY,a2:=XB r.pZ,UA:=A,uc:=c,us:=us,fr:=Z'} [] R w')
def Vl {p:Prop} (k:q) (h:Wq q->p:=by
 intro kq;refine dm.on 21 1 ?_;have aA:Hid (Bw w1 (ab.setCells I 0 [I_ J_ tm,I_ J_ a0,I_ J_ a1,I_ J_ a2,S_ A us.length c])):=ag.trans ((eU.eI [I_ J_ tm,I_ J_ a0,I_ J_ a1,I_ J_ a2,S_ A us.length c] 0 ab).below ag.size (λk hk e=>by have e:k=I:=e;have:=aJ.o;omega));have av:=Hd ((H1.below aA).as []);have KS:Hid (Mem.c_ (ab.setCells I 0 [I_ J_ tm,I_ J_ a0,I_ J_ a1,I_ J_ a2,S_ A us.length c]) I 98 #[I_ J_ tm,I_ J_ a0,I_ J_ a1,I_ J_ a2,S_ A us.length c]):=Hd (by have:=eU.gv [I_ J_ tm,I_ J_ a0,I_ J_ a1,I_ J_ a2,S_ A us.length c] 0 _ _ aR;simpa [eU.lay] using this)
 revert aA av KS
 exact kq.o):p:=h ⟨k⟩
def Ps {p:Prop} (k:q) (h:Wq q->p:=by
 intro kq;refine dm.skip rfl rfl (Rd.ft (w:=ab) _ _ _ rfl I 0 #[I_ J_ tm,I_ J_ a0,I_ J_ a1,I_ J_ a2,S_ A us.length c] rfl rfl (eU.gP aR y_) k_ v_) av ?_;refine dm.tf 0 av [22] ay ?_;refine dm.fi ?_;go_wp2_with fail;exact kq.o):p:=h ⟨k⟩
def FN (r:gj) (h:Aq C rt x [] R w) (ho:Ok x) (hd:x.dead=WW) (hl:gj.gG w w.heap.size r) (hr:r.ok):
  WZ Xd 42 #[P_ (Y' ⟨C.ga,0,Z_⟩),A_ r.arr] w (Sj C rt x R r):=by
 have H:=Hd h;obtain ⟨g,hg⟩:=nm (X_ (Y_ w));obtain ⟨w1,au⟩:=nm (w.alloc (.cells r.arr 47));have ap:Bw w w1:=by rw [au];exact dL
 have H1:Xb (Aq C rt x [(g,47,r.arr)] R w1):=by rw [hg];exact h.ku ap (by rw [au];exact Xi) l_
 have aN:=Hd (λX (hX:Bw w1 X)=>Tw.Mk r x.t x.r x.p.fE X ((hl.below (ap.trans (hX.mono ap.size))).more (Xn ap.size hX.size)) hr ho.t.1 ⟨ho.st.r0,ho.st.r1⟩);have a6:=Hd hd;obtain ⟨RA,(a7:Xb _)⟩: ∃RA:Array WY,RA=r.arr:=⟨_,rfl⟩;have hR:r.arr= #[I_ J_ r.time,.float .f64 r.pX,.float .f64 r.pY,.float .f64 r.pZ,S_ r.mG r.kX r.mH]:=rfl;rw [hR] at au H1 aN |-;have ba:Ce w1 C.ga 29 (B_ WW):=by rw [<-a6.o];exact (H1.as []).a 29 d_
 clear h ho hd hl hr ap hR RA a7 H;go_enter func42,ntmps42;go_upto_region 1 with fail;rw [<-au,<-hg];clear au hg;go_upto_region 3 with fail;clear ba;go_cut [5,6] (λs5 s6 wx=> ∃(I:Nat) (q tm a0 a1 a2:Int) (A:Option Xa) (c:Nat) (us:List et),s5=P_ (Y' ⟨I,0,Z_⟩)/\s6=I_ J_ q/\Xb (Bw w1 wx)/\Xb (Xr wx I 98 #[I_ J_ tm,I_ J_ a0,I_ J_ a1,I_ J_ a2,S_ A us.length c])/\Xb (Xx wx 299 4 A us.length c (et.flat us))/\Xb (∀b,Xj A=Y' b->X_ (Y_ w1)<=b)/\Xb (Wz r x.t x.r x.p.fE q tm a0 a1 a2 us))
 case first=>
  obtain ⟨wc,aF⟩:=nm (Xu w1);have V:Xb (Bw w1 wc):=by rw [aF];exact b_.drew
  have HS:=Hd ((H1.below V).as []);have ay:Xb (∀wx,(Xb (AS C (x.arr C.gw C.sb) [] [(g,47,#[I_ J_ r.time,.float .f64 r.pX,.float .f64 r.pY,.float .f64 r.pZ,S_ r.mG r.kX r.mH])] wx))->(Ce wx g 0 r.time)/\(Ce wx g 1 (.float .f64 r.pX))/\(Ce wx g 2 (.float .f64 r.pY))/\(Ce wx g 3 (.float .f64 r.pZ))/\(Ce wx g 4 (S_ r.mG r.kX r.mH))/\(Ce wx C.ga 22 x.t)/\(Ce wx C.ga 13 x.r)/\(Ce wx C.ga 9 x.p.fE)):=λwx G=>⟨G.b _ (m_ ..) 0,G.b _ (m_ ..) 1,G.b _ (m_ ..) 2,G.b _ (m_ ..) 3,G.b _ (m_ ..) 4,G.a 22 d_,G.a 13 d_,G.a 9 d_⟩
  refine dm.st ay ?_;rw [<-aF];clear aF;refine dm.tf 7 HS (u_ 0 16) ay ?_;refine dm.two (i:=16) (j:=20) (n:=6) k_ ?_ ?_
  .refine dm.cl ?_
   refine (aN wc V).mono ?_;rintro e wk hk;obtain ⟨q,tm,a0,a1,a2,A,c,us,rfl,an,ar,az,(aK:Xb _)⟩:=tL hk;have ae:=Hd (V.trans (an.mono V.size));have ac:=Hd (Xk ar (show∀b,Xj A=Y' b->X_ (Y_ wc)<=b from az));have ax:=Hd ((H1.below ae).as []);clear hk an ar az;refine ⟨_,rfl,ax,?_⟩;refine dm.tf 3 ax [17,18,19] ay ?_;refine XG 20 2 ?_;obtain ⟨I,aa⟩:=nm (X_ (Y_ wk));have aJ:Xb (X_ (Y_ w1)<=I):=by rw [aa];exact ae.size
   obtain ⟨ab,O⟩:=nm (wk.alloc (.cells #[I_ J_ 0,I_ J_ 0,I_ J_ 0,I_ J_ 0,S_ Z_ 0 0] 98));have ag:Xb (Bw w1 ab):=by rw [O];exact ae.alloc ae.size _
   have aR:Xb (Xr ab I 98 #[I_ J_ 0,I_ J_ 0,I_ J_ 0,I_ J_ 0,S_ Z_ 0 0]):=by rw [O,aa];exact Xi
   have aI:=Hd ((H1.below ag).as []);have bd:Xb (Xx ab 299 4 A us.length c (et.flat us)):=by rw [O];exact ac.1.dy λb hb=>Xz _ _ _ (ac.1.lt hb)
   have aH:Xb (∀b,Xj A=Y' b->b≠I):=λb hb e=>by have:=ac.o.1.lt hb;omega
   refine XE rfl rfl (v:=P_ (Y' ⟨X_ (Y_ wk),0,Z_⟩)) (w':=wk.alloc (.cells #[I_ J_ 0,I_ J_ 0,I_ J_ 0,I_ J_ 0,S_ Z_ 0 0] 98)) f_ (by rw [<-O];exact aI) ?_;rw [<-O,<-aa];clear O aa;refine Vl ?_;intro aA av KS;have aP:=Hd (bd.only (XC (g:=I) [I_ J_ tm,I_ J_ a0,I_ J_ a1,I_ J_ a2,S_ A us.length c] 0 ab) (λb hb e=>aH b hb e));refine Ps ?_
   go_meet
   exact ⟨I,q,tm,a0,a1,a2,A,c,us,rfl,rfl,aA,KS,aP,Hd (λb hb=>Xn (by first|exact ag.size|exact V.size) (ac.2 b hb)),aK⟩
  .obtain ⟨I,aa⟩:=nm (X_ (Y_ wc))
   have aJ:Xb (X_ (Y_ w1)<=I):=by rw [aa];exact V.size
   obtain ⟨wa,O⟩:=nm (wc.alloc (.cells #[I_ J_ 0,I_ J_ 0,I_ J_ 0,I_ J_ 0,S_ Z_ 0 0] 98));have U:Xb (Bw w1 wa):=by rw [O];exact V.alloc V.size _
   have K5:Xb (Xr wa I 98 #[I_ J_ 0,I_ J_ 0,I_ J_ 0,I_ J_ 0,S_ Z_ 0 0]):=by rw [O,aa];exact Xi
   have aI:=Hd ((H1.below U).as []);refine XE rfl rfl (v:=P_ (Y' ⟨X_ (Y_ wc),0,Z_⟩)) (w':=wc.alloc (.cells #[I_ J_ 0,I_ J_ 0,I_ J_ 0,I_ J_ 0,S_ Z_ 0 0] 98)) f_ (by rw [<-O];exact aI) ?_;rw [<-O,<-aa];clear O aa;refine XG 16 5 ?_;refine dm.cl ?_;refine (aN wa U).mono ?_;rintro e ab hk;obtain ⟨q,tm,a0,a1,a2,A,c,us,rfl,an,ar,az,(aK:Xb _)⟩:=tL hk;have ag:=Hd (U.trans (an.mono U.size));have ac:=Hd (Xk ar (show∀b,Xj A=Y' b->X_ (Y_ wa)<=b from az));have ax:=Hd ((H1.below ag).as []);have aR:=Hd (K5.a_ an);have aH:Xb (∀b,Xj A=Y' b->b≠I):=λb hb e=>by have:=ac.o.2 b hb;have:=K5.o.lt;omega
   clear hk an ar az;refine ⟨_,rfl,ax,?_⟩;refine dm.tf 2 ax [17,18,19] ay ?_;refine Vl ?_;intro aA av KS;have aP:=Hd (ac.1.only (XC (g:=I) [I_ J_ tm,I_ J_ a0,I_ J_ a1,I_ J_ a2,S_ A us.length c] 0 ab) (λb hb e=>aH b hb e));refine Ps ?_
   go_meet
   exact ⟨I,q,tm,a0,a1,a2,A,c,us,rfl,rfl,aA,KS,aP,Hd (λb hb=>Xn (by first|exact U.size|exact V.size) (ac.2 b hb)),aK⟩
 case rest=>
  obtain ⟨I,q,tm,a0,a1,a2,A,c,us,rfl,rfl,aE,af,aM,aL,aC⟩:=hcut;have H2:=Hd ((H1.below aE).nil);by_cases hq:q=0
  .subst hq
   have HS:=Hd (H1.nil.WM (tm:=tm) (a0:=a0) (a1:=a1) (a2:=a2) aE aM aL);have y0:Ce wc I 0 tm:=af.cell 0;have y1:Ce wc I 1 a0:=af.cell 1;have y2:Ce wc I 2 a1:=af.cell 2;have y3:Ce wc I 3 a2:=af.cell 3;have y4:Ce wc I 4 (S_ A us.length c):=af.cell 4;obtain ⟨u22,n22⟩: ∃v,wc.cell? ⟨C.ga,22,Z_⟩=Y' v:=⟨_,(H2.as []).a 22 d_⟩;have f22:=H2.oD 22;obtain ⟨u23,n23⟩: ∃v,wc.cell? ⟨C.ga,23,Z_⟩=Y' v:=⟨_,(H2.as []).a 23 d_⟩;have f23:=H2.oD 23;obtain ⟨u24,n24⟩: ∃v,wc.cell? ⟨C.ga,24,Z_⟩=Y' v:=⟨_,(H2.as []).a 24 d_⟩;have f24:=H2.oD 24;obtain ⟨u25,n25⟩: ∃v,wc.cell? ⟨C.ga,25,Z_⟩=Y' v:=⟨_,(H2.as []).a 25 d_⟩;have f25:=H2.oD 25;obtain ⟨u26,n26⟩: ∃v,wc.cell? ⟨C.ga,26,Z_⟩=Y' v:=⟨_,(H2.as []).a 26 d_⟩;have f26:=H2.oD 26;obtain ⟨u27,n27⟩: ∃v,wc.cell? ⟨C.ga,27,Z_⟩=Y' v:=⟨_,(H2.as []).a 27 d_⟩;have f27:=H2.oD 27;have H9:=Hd (HS.2.rE Z');have HNG:Xb (I≠C.ga):=λe=>by have h1:=H2.o;obtain ⟨b',h2,_⟩:=h1;have h3:=af.o;rw [e] at h3;have:=(kZ h3 h2.n.ag.dr.dr).1;revert this;decide
   have aO:=Hd (λX (h:Aq C rt {x with t:=tm,a0:=a0,a1:=a1,a2:=a2,UA:=A,uc:=c,us:=us,fr:=Z'} [] R X)=>show Sj C rt x R r (R_ (I_ J_ 0)) X from .inr (by rcases aC with ⟨h0,_⟩|⟨_,h1,h2,h3,h4,rfl,rfl,rfl,rfl⟩;exact absurd rfl h0;exact ⟨h1,h2,rfl,A,c,us,h3,h4,h⟩));clear HS H2 H1 aE aM aL aC af;go_wp2_with fail;exact bodyPost_ret (v:=I_ J_ 0) (by simp [results,results42,go_sem]) rfl (aO _ H9)
  .have aO:Xb (Sj C rt x R r (R_ (I_ J_ q)) wc):= .inl ⟨q,hq,by rcases aC with ⟨_,h1⟩|⟨h0,_⟩;exact h1;exact absurd h0 hq,rfl,H2⟩
   have hqb:(q==0)=WW:=beq_eq_false_iff_ne.2 hq;clear H2 H1 aE aM aL aC af;go_wp2_with fail;exact bodyPost_ret (v:=I_ J_ q) (by simp [results,results42,go_sem]) rfl aO
end
end Nd
end
end Go.Proofs.YtkidababfdehlaaGreatDoor
