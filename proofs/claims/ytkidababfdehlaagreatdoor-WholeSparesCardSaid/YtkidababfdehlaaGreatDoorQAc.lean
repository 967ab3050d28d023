/- Parts of the walk. -/
import Derived.Test.YtkidababfdehlaaGreatDoorQAb
import Derived.Lib.IndexBytes
set_option linter.all false
set_option maxRecDepth 100000
set_option maxHeartbeats 64000000
namespace Go.Proofs.YtkidababfdehlaaGreatDoor
open Value renaming int -> I_,bool -> B_,string -> T_,slice -> S_,pointer -> P_,tuple -> U_,agg -> A_
open IntKind renaming i64 -> J_
open Ending renaming returned -> R_
open _root_.Array renaming size -> X_
open Go.World renaming heap -> Y_
open Option renaming some -> Y',none -> Z_
open Bool renaming true -> Z',false -> WW
open Go renaming World -> WX,Value -> WY,Calls -> WZ,Addr -> Xa
open Go.RowKit renaming Hid -> Xb,Below -> Xc
open _root_.Go.Proofs.Tryz renaming prog -> Xd
open du renaming pos -> Xe,has -> Xl,cmp -> Xx,dY -> Ya
open Mem renaming c_ -> Xf,Sl -> Xz
open Frame renaming il -> Xg,fu -> Xh
open List renaming not_mem_nil -> Xi,mem_append -> Xj,mem_singleton -> Xm,mem_cons -> Xr,eq_nil_of_length_eq_zero -> Xw,take_succ_cons -> XA,drop_succ_cons -> XB,replicate -> XE,drop_of_length_le -> XH,take_append_drop -> XL,take_zero -> XO,drop_zero -> XP,mem_map -> XU,length_take -> XV,ext_getElem -> XW,drop_append -> XX,all_eq_true -> XY
open Mem.c_ renaming new -> Xk,alloc -> XG
open BitVec renaming ofInt -> Xn,toNat_ofInt -> Xs
open Int renaming tmod_eq_emod_of_nonneg -> Xo,tdiv_eq_ediv_of_nonneg -> Xp,eq_ofNat_of_zero_le -> Xt,mul_nonneg -> XQ
open Ro.dt renaming setCell -> Xq
open Nat renaming le_trans -> Xu,div_le_self -> Xy,lt_or_eq_of_le -> XD,strongRecOn -> XJ,one_mul -> XN,zero_mul -> XS,pow_succ -> XT
open Ro renaming dr -> Xv,over -> XF,Row -> Yc,dt -> Ye
open Go.Lib renaming hid -> XC
open Go.RowKit.Below renaming refl -> XI
open List.cons renaming injEq -> XK
open UInt8 renaming toBitVec -> XM
open Go.Value.slice renaming injEq -> XR
open Go.IntKind renaming wrap_i64 -> XZ
open Ro.Row renaming nil -> Yb
open pP renaming lT -> Yd
variable {ad:Xa} {ops:Array Oper} {cs2:Array WY} {id:ByteArray} {a:Go.Act} {b m q:Int} {rest:List Oper} {l r:List UInt8} {cs xs:List WY} {bx:List dP} {B' P bytes c g g2 h i k n off:Nat} {A A2:Option Xa} {T2 e t:TypeId} {x:UInt8} {v:WY} {W' X w w' w0 w2:WX}
section
open _root_.Go.Proofs.Tryz Go.RowKit
namespace Wo
structure Good (s:St):Prop where
 rb:Ya (ids s.bx)
 ri:Ya (fj s.im)
 ok: ∀p∈s.bx,pP.Ok (p.st,p.tr)
 nb:s.bx.length<=100000
 ni:s.im.length<=100000
 no:s.outs.length<=4096
def gy (h:Yc w e k A n c xs) (F:A=Z_):n=0/\c=0:=by
 obtain ⟨h1,h2,_,⟨_,h3⟩|⟨g,off,cur,e,_⟩⟩:=h
 .omega
 .rw [F] at e;cases e
def FZ (A:Option Xa) (n c:Nat) (bs:List Bool) (w:WX) (h:Xz w w.heap.size 1 A n (bs.map Value.bool)) (hn:n<=1000000) (X:A=Z_->n=0/\c=0):
  WZ Xd 174 #[S_ A n c] w λe w'=> ∃A' c',e=R_ (S_ A' n c')/\ue w' A' n c' bs/\Bw w w'/\ ∀b,Xv A'=Y' b->X_ (Y_ w)<=b:=by
 cases A with
 |none=>
  obtain ⟨rfl,rfl⟩:=X rfl;have F:bs=[]:=by
   have:=h.1;exact Xw (by simpa using this)
  subst F;have O: ∀w,(binOp .eql 48 (S_ Z_ 0 0) (S_ Z_ 0 0)).run Xd w= .ok (B_ Z') w:=λw=>k_
  go_enter func174,ntmps174;exact Oa
 |some ad=>
  have I:Yc (w.alloc (.cells #[] 4)) 4 1 (Y' ⟨X_ (Y_ w),0,Z_⟩) 0 0 []:=Ro.Row.new (cs:= #[]) rfl d_;let ⟨A',c',w',hr,V,hO,F⟩:=Ro.app (P:=Xd) (ty:=48) (c2:=c) NZ I (h.alloc l_ _) (by intro u hu;obtain ⟨b,_,rfl⟩:=XU.1 hu;rfl) e_ o_;simp only [Nat.zero_add,List.nil_append] at hr V;have U:Xb (ue w' A' n c' bs/\Bw w w'/\ ∀b,Xv A'=Y' b->X_ (Y_ w)<=b):=by
   refine ⟨V,((Ro.dt.refl (λ_=>False) w).alloc _|>.trans hO (T:=λb=>Xv (Y' ⟨X_ (Y_ w),0,Z_⟩)=Y' b) (λk hk e=>?_)).below l_ (λ_ _ c=>c),λb G=>?_⟩
   .exact vZ
   .obtain F|F:=F
    .exact we
    .rw [F] at G
     have:(w.alloc (.cells #[] 4)).heap.size=b:=by simpa using G
     simp at this;omega
  clear h I V hO F X;have O: ∀w,(binOp .eql 48 (S_ (Y' ad) n c) (S_ Z_ 0 0)).run Xd w= .ok (B_ WW) w:=λw=>k_
  go_enter func174,ntmps174;refine pN ?_;go_ret;exact ⟨_,_,rfl,U⟩
def F_ {p:Prop} (h:p:=by
 go_wp2_with fail;refine hc.mono ?_;rintro e w' ⟨A',c',rfl,F⟩;go_wp2_with fail;go_ret;exact ⟨_,_,rfl,F⟩):p:=h
def Cs (g:Nat) (s:St) (S:Nat->Prop) (w:WX) (h:At w g s S) (hs:Good s):
  WZ Xd 119 #[P_ (Y' ⟨g,0,Z_⟩)] w λe w'=> ∃A' c',e=R_ (S_ A' s.outs.length c')/\ue w' A' s.outs.length c' s.outs/\Bw w w'/\ ∀b,Xv A'=Y' b->X_ (Y_ w)<=b:=by
 let ⟨AQ,nq,cq,AB,nb,cb,AI,ni,ci,h⟩:=h;let ⟨G,_,_⟩:=h.lens;have m0:C w g 0 (S_ AQ nq cq):=h.dr.cell 0;have hno:=hs.no;have hc:=Hd (FZ AQ nq cq s.outs w h.q.sl o_ (gy h.q));rw [G];clear h hs;go_enter func119,ntmps119;exact F_
def uI (g:Nat) (s:St) (S:Nat->Prop) (w:WX) (h:At w g s S) (hs:Good s):
  WZ Xd 112 #[P_ (Y' ⟨g,0,Z_⟩)] w (sW s.bx.length s.bx w):=by
 let ⟨AQ,nq,cq,AB,nb,cb,AI,ni,ci,h⟩:=h;let ⟨_,G,_⟩:=h.lens;have m2:C w g 2 (S_ AB nb cb):=h.dr.cell 2;have hno:=hs.nb;have hc:=Hd (iR AB nb cb s.bx w h.b.sl o_ (gy h.b));rw [G];clear h hs;go_enter func112,ntmps112;exact F_
def F' (g:Nat) (s:St) (S:Nat->Prop) (w:WX) (h:At w g s S) (hs:Good s):
  WZ Xd 116 #[P_ (Y' ⟨g,0,Z_⟩)] w (qX s.im.length s.im w):=by
 let ⟨AQ,nq,cq,AB,nb,cb,AI,ni,ci,h⟩:=h;let ⟨_,_,G⟩:=h.lens;have m3:C w g 3 (S_ AI ni ci):=h.dr.cell 3;have hno:=hs.ni;have hc:=Hd (og AI ni ci s.im w h.i.sl o_ (gy h.i));rw [G];clear h hs;go_enter func116,ntmps116;exact F_
def yD (g:Nat) (s:St) (S:Nat->Prop) (id:ByteArray) (w:WX) (h:At w g s S) (hs:Good s):
  WZ Xd 182 #[P_ (Y' ⟨g,0,Z_⟩),id] w λe w'=>e=R_ (U_ #[I_ J_ (Xe (ids s.bx) id),B_ (Xl (ids s.bx) id)])/\Bw w w':=by
 let ⟨AQ,nq,cq,AB,nb,cb,AI,ni,ci,h⟩:=h;let ⟨_,G,_⟩:=h.lens;have m2:C w g 2 (S_ AB nb cb):=h.dr.cell 2;have hno:=hs.nb;have hc:=Hd (Ga AB nb cb s.bx id w h.b.sl hs.rb G o_);generalize Xe (ids s.bx) id=P at*;generalize Xl (ids s.bx) id=F at*;clear h hs;go_enter func182,ntmps182;go_wp2_with fail;refine hc.mono ?_;rintro e w' ⟨rfl,I⟩;go_wp2
 go_ret2
 exact ⟨rfl,I⟩
def Qs (bx:List dP) (id:ByteArray):Option dP:=if Xl (ids bx) id then bx[Xe (ids bx) id]? else Z_
def qY (I:Ya (ids bx)) (h:Xl (ids bx) id=Z'): ∃(F:Xe (ids bx) id<bx.length),Qs bx id=Y' bx[Xe (ids bx) id]/\bx[Xe (ids bx) id].id=id:=by
 let ⟨G,e⟩:=du.mZ I h;have F:Xe (ids bx) id<bx.length:=by rw [j'] at G;exact G
 refine ⟨F,?_,?_⟩
 .unfold Qs
  rw [h,if_pos rfl,List.getElem?_eq_getElem F]
 .rw [<-yE F G];exact e
def qZ (h:Xl (ids bx) id=WW):Qs bx id=Z_:=by
 unfold Qs;rw [h];rfl
def gH (bx:List dP) (id:ByteArray):Int×Int:=match Qs bx id with|some p=>(p.st,p.tr)|none=>(0,0)
def TS (g:Nat) (s:St) (S:Nat->Prop) (id:ByteArray) (w:WX) (h:At w g s S) (hs:Good s):
  WZ Xd 125 #[P_ (Y' ⟨g,0,Z_⟩),id] w λe w'=>e=R_ (U_ #[A_ #[I_ J_ (gH s.bx id).1,I_ J_ (gH s.bx id).2],B_ (Xl (ids s.bx) id)])/\Bw w w':=by
 have I:=λw' (hb:Bw w w')=>yD g s S id w' (h.below hb) hs
 let ⟨AQ,nq,cq,AB,nb,cb,AI,ni,ci,h⟩:=h;let ⟨_,G,_⟩:=h.lens;cases hh:Xl (ids s.bx) id
 .have HB:Xb (gH s.bx id=(0,0)):=by show _=_;unfold gH;rw [qZ hh]
  rw [hh] at I;have ae:=Hd I;generalize Xe (ids s.bx) id=P at*;generalize gH s.bx id=q at*;clear h hs hh I;go_enter func125,ntmps125;go_wp2_with fail;refine (ae _ (dL)).mono ?_;rintro e w1 ⟨rfl,F⟩;have O:=Mem.c_.a_ (Xk (w:=w) (t:=228) (cs:= #[I_ J_ 0,I_ J_ 0])) F;have V:C w1 w.heap.size 0 (I_ J_ 0):=O.cell 0;have X:C w1 w.heap.size 1 (I_ J_ 0):=O.cell 1;have af:=O.frozen;have U:Bw w w1:=(dL).trans (F.mono y_);clear O F;go_wp2;refine bodyPost_ret (v:=U_ #[A_ #[I_ J_ 0,I_ J_ 0],B_ WW]) (by simp [results,results125,go_sem,V,X]) rfl ⟨by rw [HB.o],?_⟩;exact (U.setCell y_ _).setCell y_ _
 .let ⟨hl,ht,_⟩:=qY hs.rb hh
  have HB:Xb (gH s.bx id=(s.bx[Xe (ids s.bx) id].st,s.bx[Xe (ids s.bx) id].tr)):=by show _=_;unfold gH;rw [ht]
  rw [hh] at I;have ae:=Hd I;obtain ⟨ad,ac,rfl,ab,_,hc⟩:=dP.at_ h.b.sl (k:=Xe (ids s.bx) id) o_;let ⟨q,hq⟩:=nm (s.bx[Xe (ids s.bx) id]);rw [<-hq] at HB hc;clear hq ht hh I;let ⟨P,hP⟩:=nm (Xe (ids s.bx) id);rw [<-hP] at ae hc hl ac;clear hP;obtain ⟨qi,qs,qt,ql⟩:=q
  dsimp only at HB
  have m2:C w g 2 (S_ (Y' ad) nb cb):=h.dr.cell 2;have aa:=h.dr.lt;have hP:P<nb:=o_;generalize gH s.bx id=r at*;clear h hs ac hl G;go_enter func125,ntmps125;go_wp2_with fail;refine (ae _ (dL)).mono ?_;rintro e w1 ⟨rfl,F⟩;have O:=Mem.c_.a_ (Xk (w:=w) (t:=228) (cs:= #[I_ J_ 0,I_ J_ 0])) F;have V:C w1 w.heap.size 0 (I_ J_ 0):=O.cell 0;have X:C w1 w.heap.size 1 (I_ J_ 0):=O.cell 1;have af:=O.frozen;have U:Bw w w1:=(dL).trans (F.mono y_);have m2':C w1 g 2 (S_ (Y' ad) nb cb):=(U.cell (p:=⟨g,2,Z_⟩) aa).trans m2;have bz:=hc.below U (by rw [Mem.ew];exact ab);obtain ⟨c0,c1,c2,c3⟩:=bz
  dsimp only at c0 c1 c2 c3
  have hne:ad.block<X_ (Y_ w):=ab;clear O F m2 hc ae;go_wp2;refine bodyPost_ret (v:=U_ #[A_ #[qs,qt],B_ Z']) (by simp [results,results125,go_sem,V,X]) rfl ⟨by rw [HB.o],?_⟩;exact (U.setCell y_ _).setCell y_ _
def iL (bx:List dP) (id:ByteArray) (q:Int):Int:=match Qs bx id with|some p=>(if Yd p.st q=0 then 7 else 0)|none=>4
def Ai (bx:List dP) (id:ByteArray) (q:Int):Int:=if iL bx id q=0 then (Xe (ids bx) id:Int) else 0
def Gb (g:Nat) (s:St) (S:Nat->Prop) (id:ByteArray) (q:Int) (w:WX) (h:At w g s S) (hs:Good s) (hq:(Lit.int .i64 q).wf=Z'):
  WZ Xd 168 #[P_ (Y' ⟨g,0,Z_⟩),id,q] w λe w'=>e=R_ (U_ #[I_ J_ (Ai s.bx id q),I_ J_ (iL s.bx id q)])/\Bw w w':=by
 have I:=yD g s S id w h hs;let ⟨AQ,nq,cq,AB,nb,cb,AI,ni,ci,h⟩:=h;let ⟨_,G,_⟩:=h.lens;cases hh:Xl (ids s.bx) id
 .have V:Xb (iL s.bx id q=4):=by show _=_;unfold iL;rw [qZ hh]
  have X:Xb (Ai s.bx id q=0):=by show _=_;unfold Ai;rw [if_neg (by rw [V.o];decide)]
  rw [hh] at I;have ae:=Hd I;generalize Xe (ids s.bx) id=P at*;generalize iL s.bx id q=E at*;generalize Ai s.bx id q=L at*;clear h hs hh I;go_enter func168,ntmps168;go_wp2_with fail;refine ae.mono ?_;rintro e w1 ⟨rfl,U⟩;go_wp2
  go_ret2
  exact ⟨by rw [V.o,X.o];rfl,U⟩
 .let ⟨hl,ht,_⟩:=qY hs.rb hh
  have ag:=g_ hl;have O:=hs.ok _ ag;have V:Xb (iL s.bx id q=if Yd s.bx[Xe (ids s.bx) id].st q=0 then 7 else 0):=by show _=_;unfold iL;rw [ht]
  have X:Xb (Ai s.bx id q=if Yd s.bx[Xe (ids s.bx) id].st q=0 then 0 else (Xe (ids s.bx) id:Int)):=by
   show _=_
   unfold Ai;rw [V.o];split<;>rfl
  rw [hh] at I;have ae:=Hd I;obtain ⟨ad,ac,rfl,ab,_,hc⟩:=dP.at_ h.b.sl (k:=Xe (ids s.bx) id) o_;let ⟨p,hp⟩:=nm (s.bx[Xe (ids s.bx) id]);rw [<-hp] at V X hc O;clear hp ht hh I ag;let ⟨P,hP⟩:=nm (Xe (ids s.bx) id);rw [<-hP] at ae hc hl ac X;clear hP;obtain ⟨qi,qs,qt,ql⟩:=p
  dsimp only at V X O
  have ah:(Lit.int .i64 qs).wf=Z':=WalkArith.wf_i64 (by have:=O.1;have:=O.2.1;dsimp only at*;omega);have aG:=Hd (λw=>pP.TT qs qt q w ah hq);have m2:C w g 2 (S_ (Y' ad) nb cb):=h.dr.cell 2;have aa:=h.dr.lt;have hP:P<nb:=o_;generalize iL s.bx id q=E at*;generalize Ai s.bx id q=L at*;have F:(Yd qs q !=0)= !(decide (Yd qs q=0)):=by
   by_cases F:Yd qs q=0
   .rw [decide_eq_true F,F];rfl
   .rw [decide_eq_false F];exact bne_iff_ne.2 F
  rw [F] at aG;clear h hs ac hl G O ah hq F;go_enter func168,ntmps168;go_wp2_with fail;refine ae.mono ?_;rintro e w1 ⟨rfl,U⟩;have m2':C w1 g 2 (S_ (Y' ad) nb cb):=(U.cell (p:=⟨g,2,Z_⟩) aa).trans m2;have bz:=hc.below U (by rw [Mem.ew];exact ab);obtain ⟨c0,c1,c2,c3⟩:=bz
  dsimp only at c0 c1 c2 c3
  clear m2 hc ae;go_wp2_with fail;refine (aG _).mono ?_;rintro e w2 ⟨rfl,an⟩;have af:Bw w w2:=U.trans (an.mono U.size);clear aG U an c0 c1 c2 c3 m2';by_cases F:Yd qs q=0
  .rw [if_pos F] at V X
   rw [decide_eq_true F];clear F;go_wp2
   go_ret2
   exact ⟨by rw [V.o,X.o];rfl,af⟩
  .rw [if_neg F] at V X
   rw [decide_eq_false F];clear F;go_wp2
   go_ret2
   exact ⟨by rw [V.o,X.o];rfl,af⟩
def Qt (rt:Int) (w:WX):WZ Xd 29 #[rt] w λe w'=>e=R_ (P_ (Y' ⟨X_ (Y_ w),0,Z_⟩))/\At w' w.heap.size ⟨rt,[],[],[]⟩ (λk=>k=X_ (Y_ w))/\Bw w w':=by
 go_enter func29,ntmps29;go_wp2;go_ret;exact ⟨rfl,⟨Z_,0,0,Z_,0,0,Z_,0,0,Xk,Yb,Yb,Yb,rfl,λ_ h=>by (cases h),λ_ h=>by (cases h),λ_ h=>by (cases h)⟩,dL⟩
end Wo
end
section
open Go.RowKit
structure dz where
 id:ByteArray
 prio:Int
 fB:Bool
 r0:Int
 r1:Int
 r2:Int
 l0:Int
 l1:Int
 l2:Int
 eO:ByteArray
 size:Int
def ia (n:Int):Prop:= -9223372036854775808<=n/\n<=9223372036854775807
namespace dz
def arr (p:dz):Array WY:= #[T_ p.id,I_ J_ p.prio,B_ p.fB,I_ J_ p.r0,I_ J_ p.r1,I_ J_ p.r2,I_ J_ p.l0,I_ J_ p.l1,I_ J_ p.l2,T_ p.eO,I_ J_ p.size]
def cells (p:dz):List WY:=[T_ p.id,I_ J_ p.prio,B_ p.fB,I_ J_ p.r0,I_ J_ p.r1,I_ J_ p.r2,I_ J_ p.l0,I_ J_ p.l1,I_ J_ p.l2,T_ p.eO,I_ J_ p.size]
structure ok (p:dz):Prop where
 prio:ia p.prio
 r0:ia p.r0
 r1:ia p.r1
 r2:ia p.r2
 l0:ia p.l0
 l1:ia p.l1
 l2:ia p.l2
 size:ia p.size
 id:p.id.size<=maxLen
 eO:p.eO.size<=maxLen
section
variable {W:WX}
set_option maxRecDepth 100000 in
theorem kY {cs:List WY} (h:Xg Tryz.prog W 42 cs): ∃p:dz,cs=p.cells/\p.ok:=by
 let ⟨hl,hf⟩:=h.struct Tryz.underlying42;have pv:(Tryz.prog).cellsOf 42=11:=by kernel_rfl
 have cs1:(Tryz.prog).cellsOf 9=1:=by kernel_rfl
 have ci1:(Tryz.prog).cellsOf 3=1:=by kernel_rfl
 have cb1:(Tryz.prog).cellsOf 4=1:=by kernel_rfl
 have ca3:(Tryz.prog).cellsOf 22=3:=by kernel_rfl
 rw [pv] at hl
 match cs,hl with
 |[a0,a1,a2,a3,a4,a5,a6,a7,a8,a9,a10],_=>
  have f0:Xg Tryz.prog W 9 [a0]:=by simpa [cs1] using hf 0 _ rfl
  have f1:Xg Tryz.prog W 3 [a1]:=by simpa [ci1] using hf 1 _ rfl
  have f2:Xg Tryz.prog W 4 [a2]:=by simpa [cb1] using hf 2 _ rfl
  have f3:Xg Tryz.prog W 22 [a3,a4,a5]:=by simpa [ca3] using hf 3 _ rfl
  have f4:Xg Tryz.prog W 22 [a6,a7,a8]:=by simpa [ca3] using hf 4 _ rfl
  have f5:Xg Tryz.prog W 9 [a9]:=by simpa [cs1] using hf 5 _ rfl
  have f6:Xg Tryz.prog W 3 [a10]:=by simpa [ci1] using hf 6 _ rfl
  let ⟨x0,e0,b0⟩:=f0.string Tryz.underlying9;let ⟨x1,e1,b1⟩:=f1.int Tryz.underlying3;let ⟨x2,e2⟩:=f2.bool Tryz.underlying4;let ⟨_,g3⟩:=f3.array Tryz.underlying22;let ⟨_,g4⟩:=f4.array Tryz.underlying22;let ⟨x9,e9,b9⟩:=f5.string Tryz.underlying9;let ⟨x10,U,b10⟩:=f6.int Tryz.underlying3;rw [ci1] at g3 g4;let ⟨x3,e3,b3⟩:=(g3 0 (by decide)).int Tryz.underlying3;let ⟨x4,e4,b4⟩:=(g3 1 (by decide)).int Tryz.underlying3;let ⟨x5,e5,b5⟩:=(g3 2 (by decide)).int Tryz.underlying3;let ⟨x6,e6,b6⟩:=(g4 0 (by decide)).int Tryz.underlying3;let ⟨x7,e7,b7⟩:=(g4 1 (by decide)).int Tryz.underlying3;let ⟨x8,e8,b8⟩:=(g4 2 (by decide)).int Tryz.underlying3;simp only [XP,XB,XA,XO,XK,and_true,XS,XN] at e0 e1 e2 e3 e4 e5 e6 e7 e8 e9 U;subst e0 e1 e2 e3 e4 e5 e6 e7 e8 e9 U;exact ⟨⟨x0,x1,x2,x3,x4,x5,x6,x7,x8,x9,x10⟩,rfl,⟨Xh b1,Xh b3,Xh b4,Xh b5,Xh b6,Xh b7,Xh b8,Xh b10,b0,b9⟩⟩
def flat (ps:List dz):List WY:=(ps.map cells).flatten
end
def dO (ps:List dz):(flat ps).length=ps.length*11:=Gv.len cells ps
structure At (w:WX) (ad:Xa) (p:dz):Prop where
 c0:w.cell? ad=Y' (T_ p.id)
 c1:Ca w ad 1 p.prio
 c2:Ca w ad 2 p.fB
 c3:Ca w ad 3 p.r0
 c4:Ca w ad 4 p.r1
 c5:Ca w ad 5 p.r2
 c6:Ca w ad 6 p.l0
 c7:Ca w ad 7 p.l1
 c8:Ca w ad 8 p.l2
 c9:Ca w ad 9 p.eO
 lM:Ca w ad 10 p.size
def at_ {B:Nat} {ps:List dz} (h:Xz w B 11 A n (flat ps)) (hk:k<n):
  ∃(ad:Xa) (hl:k<ps.length),A=Y' ad/\ad.block<B/\(ad.add (k*11)).block<B/\At w (ad.add (k*11)) ps[k]:=
 let ⟨ad,hl,a,b,c,d,e⟩:=Gv.at_ cells h hk;⟨ad,hl,a,b,c,⟨d,e 1,e 2,e 3,e 4,e 5,e 6,e 7,e 8,e 9,e 10⟩⟩
end dz
def JR (d:Nat) (a0 a1 a2 b0 b1 b2:Int) (w:WX):
  (Op.equalIn (d+2) 22 (A_ #[I_ J_ a0,I_ J_ a1,I_ J_ a2]) (A_ #[I_ J_ b0,I_ J_ b1,I_ J_ b2])).run Tryz.prog w= .ok (a0==b0&&(a1==b1&&(a2==b2))) w:=by
 let ⟨i,hi⟩:=Option.isSome_iff_exists.1 (show ((Tryz.prog).info? 3).isSome=Z' from by kernel_rfl);rw [run_equalIn_array w (d+1) _ _ Tryz.underlying22 hi];have hc:(Tryz.prog).cellsOf 3=1:=by kernel_rfl
 rw [hc];have hr:List.range 3=[0,1,2]:=rfl;rw [hr];simp only [Op.eqItems];go_simp;by_cases h0:a0=b0<;>by_cases h1:a1=b1<;>by_cases h2:a2=b2<;>simp [h0,h1,h2]
def Te (a0 a1 a2 b0 b1 b2:Int) (w:WX):
  (Op.equalIn 9999 22 (A_ #[I_ J_ a0,I_ J_ a1,I_ J_ a2]) (A_ #[I_ J_ b0,I_ J_ b1,I_ J_ b2])).run Tryz.prog w= .ok (a0==b0&&(a1==b1&&a2==b2)) w:=JR 9997 a0 a1 a2 b0 b1 b2 w
end
section
open _root_.Go.Proofs.Tryz Go.RowKit
structure dq where
 dC:dz
 ph:Int
namespace dq
def ia (n:Int):Prop:= -9223372036854775808<=n/\n<=9223372036854775807
def arr (p:dq):Array WY:= #[T_ p.dC.id,I_ J_ p.dC.prio,B_ p.dC.fB,I_ J_ p.dC.r0,I_ J_ p.dC.r1,I_ J_ p.dC.r2,I_ J_ p.dC.l0,I_ J_ p.dC.l1,I_ J_ p.dC.l2,T_ p.dC.eO,I_ J_ p.dC.size,I_ J_ p.ph]
def cells (p:dq):List WY:=[T_ p.dC.id,I_ J_ p.dC.prio,B_ p.dC.fB,I_ J_ p.dC.r0,I_ J_ p.dC.r1,I_ J_ p.dC.r2,I_ J_ p.dC.l0,I_ J_ p.dC.l1,I_ J_ p.dC.l2,T_ p.dC.eO,I_ J_ p.dC.size,I_ J_ p.ph]
structure ok (p:dq):Prop where
 dC:p.dC.ok
 ph:ia p.ph
section
variable {W:WX}
def flat (ps:List dq):List WY:=(ps.map cells).flatten
end
def eH (ps qs:List dq):flat (ps++qs)=flat ps++flat qs:=by simp [flat]
def iE (p:dq) (qs:List dq):flat (p::qs)=p.cells++flat qs:=by simp [flat]
def oE (ps:List dq) (i:Nat):(flat ps).take (i*12)=flat (ps.take i):=Gv.tk cells ps i
def BM (ps:List dq) (i:Nat):(flat ps).drop (i*12)=flat (ps.drop i):=Gv.dp cells ps i
def dO (ps:List dq):(flat ps).length=ps.length*12:=Gv.len cells ps
structure At (w:WX) (ad:Xa) (p:dq):Prop where
 c0:w.cell? ad=Y' (T_ p.dC.id)
 c1:Ca w ad 1 p.dC.prio
 c2:Ca w ad 2 p.dC.fB
 c3:Ca w ad 3 p.dC.r0
 c4:Ca w ad 4 p.dC.r1
 c5:Ca w ad 5 p.dC.r2
 c6:Ca w ad 6 p.dC.l0
 c7:Ca w ad 7 p.dC.l1
 c8:Ca w ad 8 p.dC.l2
 c9:Ca w ad 9 p.dC.eO
 lM:Ca w ad 10 p.dC.size
 pv:Ca w ad 11 p.ph
def at_ {B:Nat} {ps:List dq} (h:Xz w B 12 A n (flat ps)) (hk:k<n):
  ∃(ad:Xa) (hl:k<ps.length),A=Y' ad/\ad.block<B/\(ad.add (k*12)).block<B/\At w (ad.add (k*12)) ps[k]:=
 let ⟨ad,hl,a,b,c,d,e⟩:=Gv.at_ cells h hk;⟨ad,hl,a,b,c,⟨d,e 1,e 2,e 3,e 4,e 5,e 6,e 7,e 8,e 9,e 10,e 11⟩⟩
def At.below {B:Nat} {p:dq} (h:At w ad p) (G:Xc B w w') (F:ad.block<B):At w' ad p:=by
 exact vI
end dq
end
section
open _root_.Go.Proofs.Tryz Go.RowKit
namespace Wo
def zY (p:dq) (s:ByteArray) (w:WX):WZ Xd 157 #[A_ p.arr,T_ s] w λe w'=>e=R_ (I_ J_ (Xx p.dC.id s))/\Bw w w':=by
 let ⟨⟨qi,q1,q2,q3,q4,q5,q6,q7,q8,q9,q10⟩,q11⟩:=p;unfold dq.arr
 dsimp only
 go_enter func157,ntmps157;go_wp2_with fail;refine (gD _ _ _).mono ?_;refine Ky ?_;go_ret;exact ⟨rfl,dL⟩
def eo (bx:List dq):List ByteArray:=bx.map λp=>p.dC.id
def f' (bx:List dq):(eo bx).length=bx.length:=by simp [eo]
def lr {bx:List dq} (h:k<bx.length) (h2:k<(eo bx).length):(eo bx)[k]=bx[k].dC.id:=by simp [eo]
def Cl (A:Option Xa) (n c:Nat) (bx:List dq) (s:ByteArray) (w:WX) (h:Xz w w.heap.size 12 A n (dq.flat bx)) (hr:Ya (eo bx)) (aR:bx.length=n) (hn:n<=1000000):
  WZ Xd 156 #[S_ A n c,T_ s,.func (.func 157) #[] #[]] w λe w'=>e=R_ (U_ #[I_ J_ (Xe (eo bx) s),B_ (Xl (eo bx) s)])/\Bw w w':=by
 have HR:=Hd hr;clear hr;let ⟨P,hP⟩:=nm (Xe (eo bx) s);let ⟨F,hF⟩:=nm (Xl (eo bx) s);rw [<-hP,<-hF];have HP:=Hd hP;have HF:=Hd hF;clear hP hF;go_enter func156,ntmps156;go_wp2;go_loopw [9,10] (λvi vj wr=> ∃i j:Nat,i<=j/\j<=n/\vi=I_ J_ i/\vj=I_ J_ j/\Bw w wr/\Xb (∀(t:Nat) (ht:t<(eo bx).length),t<i->Xx (eo bx)[t] s<0)/\Xb (∀(t:Nat) (ht:t<(eo bx).length),j<=t->0<=Xx (eo bx)[t] s)) (λi j _=>(intOf j - intOf i).toNat)
 .exact ⟨0,n,o_,o_,rfl,rfl,XI _ _,λt _ h=>absurd h o_,λt ht h=>absurd ht (by rw [f'];omega)⟩
 .obtain ⟨i,j,hij,hjn,rfl,rfl,V,Hl,Hh⟩:=hrel
  by_cases hlt:i<j
  .refine Kz ?_
   intro m hm hm1 hm2 ap d0 aB;obtain ⟨ad,hl,rfl,_,_,ac⟩:=dq.at_ (h.below V) (k:=m) o_;have hx:m<(eo bx).length:=by rw [f'];exact hl
   have ah:(eo bx)[m]=bx[m].dC.id:=lr hl hx;let ⟨q,hq⟩:=nm (bx[m]);rw [<-hq] at ac ah;clear hq;let ⟨c0,c1,c2,c3,c4,c5,c6,c7,c8,c9,lM,pv⟩:=ac;let ⟨⟨qi,q1,q2,q3,q4,q5,q6,q7,q8,q9,ae⟩,ab⟩:=q
   dsimp only at c0 c1 c2 c3 c4 c5 c6 c7 c8 c9 lM pv ah
   have hb:=Hd (λw=>zY ⟨⟨qi,q1,q2,q3,q4,q5,q6,q7,q8,q9,ae⟩,ab⟩ s w);have He:=Hd ah;clear hm ah;go_wp2_with fail;refine (hb _).mono ?_;rintro e w1 ⟨rfl,U⟩;have X:Bw w w1:=V.trans (U.mono V.size);clear hb U c0 c1 c2 c3 c4 c5 c6 c7 c8 c9 lM pv aB ap
   dsimp only
   have ah:=He.o;have hc:Xx qi s=Xx (eo bx)[m] s:=by rw [ah]
   have aa:=HR.o;by_cases G:Xx qi s<0
   .have d1:decide (Xx qi s<0)=Z':=decide_eq_true G
    have ax:Xb (∀(t:Nat) (ht:t<(eo bx).length),t<m+1->Xx (eo bx)[t] s<0):=by
     exact KB
    exact KD
   .have d1:decide (Xx qi s<0)=WW:=decide_eq_false G
    have ay:Xb (∀(t:Nat) (ht:t<(eo bx).length),m<=t->0<=Xx (eo bx)[t] s):=by
     intro t ht ak;refine Int.not_lt.1 λai=>?_
     obtain h|rfl:=XD ak
     .have h1:=List.pairwise_iff_getElem.1 aa m t hx ht h
      have h2:=du.jb h1 (show Xx (eo bx)[t] s<=0 by omega);rw [<-hc] at h2;exact G h2
     .rw [<-hc] at ai;exact G ai
    exact KE
  .obtain rfl:i=j:=o_
   have O:Xe (eo bx) s=i:=du.pos_at HR i (by rw [f'];omega) Hl (λt ht h=>Int.not_lt.2 (Hh t ht h));have d0:decide ((i:Int)<i)=WW:=dF;by_cases au:i<n
   .have d2:decide ((i:Int)<n)=Z':=dT
    obtain ⟨ad,hl,rfl,_,_,ac⟩:=dq.at_ (h.below V) (k:=i) au;have hx:i<(eo bx).length:=by rw [f'];exact hl
    have he:(eo bx)[i]=bx[i].dC.id:=lr hl hx;have I:Xb (Xl (eo bx) s=(Xx bx[i].dC.id s==0)):=by
     show _=_
     subst O;rw [du.nT HR.o (by rw [f'];omega),he]
    let ⟨q,hq⟩:=nm (bx[i]);rw [<-hq] at ac I;have al:Xb (P=i):=HP.trans O;have ah:Xb (F=(Xx q.dC.id s==0)):=HF.trans I;clear hq he O I;let ⟨c0,c1,c2,c3,c4,c5,c6,c7,c8,c9,lM,pv⟩:=ac;let ⟨⟨qi,q1,q2,q3,q4,q5,q6,q7,q8,q9,ae⟩,ab⟩:=q
    dsimp only at c0 c1 c2 c3 c4 c5 c6 c7 c8 c9 lM pv ah
    have hb:=Hd (λw=>zY ⟨⟨qi,q1,q2,q3,q4,q5,q6,q7,q8,q9,ae⟩,ab⟩ s w);go_wp2_with fail;refine (hb _).mono ?_;rintro e w1 ⟨rfl,U⟩;have X:Bw w w1:=V.trans (U.mono V.size);clear hb U c0 c1 c2 c3 c4 c5 c6 c7 c8 c9 lM pv;exact zZ
   .have d2:decide ((i:Int)<n)=WW:=dF
    have I:Xl (eo bx) s=WW:=du.nV (by rw [O,f'];omega);exact KG
def zE:WY:=A_ #[T_ ⟨#[]⟩,I_ J_ 0,B_ WW,I_ J_ 0,I_ J_ 0,I_ J_ 0,I_ J_ 0,I_ J_ 0,I_ J_ 0,T_ ⟨#[]⟩,I_ J_ 0,I_ J_ 0]
def O_:Mem.El Xd 31 58 zE 12 112:=⟨underlying31,k_,rfl,d_⟩
abbrev jJ (w:WX) (A:Option Xa) (n c:Nat) (bx:List dq):Prop:=Yc w 58 12 A n c (dq.flat bx)
def Iw (A:Option Xa) (n:Nat) (bx:List dq) (w:WX) (e:Ending) (w':WX):Prop:= ∃A' c',e=R_ (S_ A' (n+1) c')/\jJ w' A' (n+1) c' bx/\Ye (λb=>Xv A=Y' b) w w'/\(Xv A'=Xv A\/ ∃b,Xv A'=Y' b/\X_ (Y_ w)<=b)
def CD (A:Option Xa) (n c i V:Nat) (bx:List dq) (p:dq) (w:WX) (h:jJ w A n c bx) (hi:i<=n) (hv:Xf w V 58 p.arr) (ai: ¬Xv A=Y' V) (hn:n<=1000000):
  WZ Xd 100 #[S_ A n c,I_ J_ i,S_ (Y' ⟨V,0,Z_⟩) 1 1] w (Iw A n (bx.take i++p::bx.drop i) w):=by
 have aI:=h.le.2;have aM:=h.le.1;unfold maxLen at aI;obtain hlt|rfl:=XD hi
 .obtain ⟨g,off,rfl⟩:=h.fe o_
  refine PZ ?_;intro hg aO aK aJ aT aR;by_cases av:n+1<=c
  .let ⟨w1,w2,X,am,G⟩:=yl (f:=dq.cells) (p:=p) O_ (λ_=>rfl) (λ_=>rfl) rfl h hlt hv hg av
   have aN: ∀lb cb,(callFunc 159 #[S_ (Y' ⟨V,0,Z_⟩) 1 1,S_ (Y' ⟨g,off+(i+1)*12,Z_⟩) lb cb]).run Xd w= .ok (.value (B_ WW)) w:=λlb cb=>by
    rw [run_callFunc_extern func159 k_ k_ k_ (e:=Extern.SlicesOverlaps.overlaps #[31,31] #[4]) k_,ym O_ (λw=>by rw [sizeOf58]) h hlt hv hg];rfl
   refine EK ?_;intro aA hw2 aL;clear hv h ai;go_enter func100,ntmps100;go_wp2_with (simp only [aN])
   go_region_law (refine Ro.jH rfl _ _ 31 31 rfl (S_ (Y' ⟨g,off+(i+1)*12,Z_⟩) (n+1 - (i+1)) (c - (i+1))) (S_ (Y' ⟨g,off+i*12,Z_⟩) (n+1 - i) (c - i)) x_ x_ X ?_)
   go_wp2_with (at_builtin;refine Ro.wpList_copy rfl _ _ 31 31 rfl _ _ rfl rfl am ?_)
   go_ret;exact G.o
  .let ⟨N,c1,w1,w2,w3,X,am,aC,h1,h2,G⟩:=uf (f:=dq.cells) (p:=p) O_ (λ_=>rfl) (λ_=>rfl) rfl underlying3 h hlt hv hn av d_
   refine EL ?_;intro aA aX ay;rw [<-ay] at X;have aL:(i:Int)<=(n:Int):=o_;clear ay hv h ai;go_enter func100,ntmps100;go_wp2_with (at_builtin;first
    |refine Ro.dS rfl _ _ _ _ rfl _ _ rfl rfl X ?_
    |refine Ro.wpList_copy rfl _ _ 31 31 rfl _ _ rfl rfl am ?_)
   go_region_law (refine Ro.jH rfl _ _ 31 31 rfl (S_ (Y' ⟨N,(i+1)*12,Z_⟩) (n+1 - (i+1)) (c1 - (i+1))) (S_ (Y' ⟨g,off+i*12,Z_⟩) (n - i) (c - i)) x_ x_ aC ?_)
   go_wp2;go_ret;exact G.o
 .let ⟨A',c',w',hr,G⟩:=ug (f:=dq.cells) (p:=p) (ty:=31) O_ (λ_=>rfl) (λ_=>rfl) rfl h hv hn d_
  clear h hv ai;obtain _|⟨g,off,sp⟩:=A
  .go_enter func100,ntmps100
   go_wp2_with (at_builtin;refine Ro.dS rfl _ _ _ _ rfl _ _ rfl rfl hr ?_)
   go_ret;exact G.o
  .go_enter func100,ntmps100
   go_wp2_with (at_builtin;refine Ro.dS rfl _ _ _ _ rfl _ _ rfl rfl hr ?_)
   all_goals
    go_ret;exact G.o
def Ry: ∀v∈zE.cells.toList,v.oneCell'=Z':=by
 intro v F;simp [zE,Value.cells] at F;obtain rfl|rfl|rfl|rfl|rfl|rfl:=F<;>rfl
def Ix (A:Option Xa) (n c:Nat) (bx:List dq) (w:WX) (e:Ending) (w':WX):Prop:=e=R_ (S_ A n c)/\jJ w' A n c bx/\Ye (λb=>Xv A=Y' b) w w'
def CA (A:Option Xa) (n c i:Nat) (bx:List dq) (w:WX) (h:jJ w A n c bx) (hi:i<n) (hn:n<=1000000):
  WZ Xd 99 #[S_ A n c,I_ J_ i,I_ J_ ((i:Int)+1)] w (Ix A (n - 1) c (bx.take i++bx.drop (i+1)) w):=by
 have ah:=h.le.1;have af:=h.le.2;unfold maxLen at af;obtain ⟨g,off,rfl⟩:=h.fe o_;let ⟨w1,w2,G,O,F⟩:=Iy (f:=dq.cells) (t0:=0) O_ (λ_=>rfl) (λ_=>rfl) Ry h hi;refine Rz ?_;intro ab hz2 htn hb3 ag f5;clear h;by_cases ac:c=i+1
 .obtain rfl:n=i+1:=o_
  subst ac;simp only [if_true,Nat.sub_self,Nat.add_sub_cancel] at G O F ag ab;rw [show i+1 - i=1 by omega] at O;clear ab;have f1:(i:Int)<=(i:Int)+1:=o_;have f2:i<=i+1:=o_;go_enter func99,ntmps99;go_wp2
  go_region_law (refine Ro.kQ rfl _ _ 31 31 rfl (S_ (Y' ⟨g,off,Z_⟩) i (i+1)) (S_ (Y' ⟨g,off,Z_⟩) 0 0) x_ x_ G ?_)
  go_wp2;go_ret;exact F.o
 .rw [if_neg ac] at G
  have hr3:(Builtin.clear_ #[31] 0 #[S_ (Y' ⟨g,off+(n - 1)*12,Z_⟩) (n - (n - 1)) (c - (n - 1))]).run Xd w1= .ok (U_ #[]) w2:=by rw [show n - (n - 1)=1 by omega];exact O
  clear O;refine Iz ?_;intro f1 f2 f3 f4;go_enter func99,ntmps99;go_wp2
  go_region_law (refine Ro.kQ rfl _ _ 31 31 rfl (S_ (Y' ⟨g,off,Z_⟩) i c) (S_ (Y' ⟨g,off+(i+1)*12,Z_⟩) (n - (i+1)) (c - (i+1))) x_ x_ G ?_)
  go_wp2;go_ret;exact F.o
def yY (n:Nat) (bx:List dq) (w:WX) (e:Ending) (w':WX):Prop:= ∃A' c',e=R_ (S_ A' n c')/\jJ w' A' n c' bx/\Bw w w'/\ ∀b,Xv A'=Y' b->X_ (Y_ w)<=b
def oi (A:Option Xa) (n c:Nat) (bx:List dq) (w:WX) (h:Xz w w.heap.size 12 A n (dq.flat bx)) (hn:n<=1000000) (X:A=Z_->n=0/\c=0):
  WZ Xd 34 #[S_ A n c] w (yY n bx w):=by
 cases A with
 |none=>
  obtain ⟨rfl,rfl⟩:=X rfl;have F:bx=[]:=by
   have:=h.1;rw [dq.dO] at this;exact Xw o_
  subst F;have O: ∀w,(binOp .eql 31 (S_ Z_ 0 0) (S_ Z_ 0 0)).run Xd w= .ok (B_ Z') w:=λw=>k_
  go_enter func34,ntmps34;exact IA
 |some ad=>
  let ⟨A',c',w',hr,G⟩:=IB (f:=dq.cells) (ty:=31) (c:=c) O_ (λ_=>rfl) h hn d_;clear h X;have O: ∀w,(binOp .eql 31 (S_ (Y' ad) n c) (S_ Z_ 0 0)).run Xd w= .ok (B_ WW) w:=λw=>k_
  go_enter func34,ntmps34;refine pN ?_;go_ret;exact G.o
end Wo
end
section
open _root_.Go.Proofs.Tryz Go.RowKit
namespace Ta
open Wo
def fh {n:Int} (h: -9223372036854775808<=n) (h2:n<=9223372036854775807):IntKind.i64.wrap n=n:=by
 rw [XZ];omega
def gF (r:Int) (A:Option Xa) (n c:Nat) (o0 o1 o2:Bool):Array WY:= #[r,S_ A n c,o0,o1,o2]
def Ou {p:Prop} (h:p:=by
 go_wp2_with fail;refine hc.mono ?_;rintro e w' ⟨rfl,X⟩;have V:=Hd (U.trans (X.mono U.size));go_wp2_with fail
 go_ret2
 exact ⟨rfl,V⟩):p:=h
def yD (r:Int) (A:Option Xa) (n c:Nat) (o0 o1 o2:Bool) (l:List dq) (s:ByteArray) (w:WX) (h:Xz w w.heap.size 12 A n (dq.flat l)) (O:Ya (eo l)) (G:l.length=n) (hn:n<=1000000):
  WZ Xd 98 #[A_ (gF r A n c o0 o1 o2),s] w λe w'=>e=R_ (U_ #[I_ J_ (Xe (eo l) s),B_ (Xl (eo l) s)])/\Bw w w':=by
 have I:Bw w (w.alloc (.cells (gF r A n c o0 o1 o2) 34)):=dL;have hc:=Hd (Cl A n c l s _ ((h.below I).more I.size) O G hn);have U:=Hd I;unfold gF at*;generalize Xe (eo l) s=P at*;generalize Xl (eo l) s=F at*;clear h O I;go_enter func98,ntmps98;exact Ou
def uN (r:Int) (A:Option Xa) (n c:Nat) (o0 o1 o2:Bool) (l:List dq) (s:ByteArray) (w:WX) (h:Xz w w.heap.size 12 A n (dq.flat l)) (O:Ya (eo l)) (G:l.length=n) (hn:n<=1000000):
  WZ Xd 61 #[A_ (gF r A n c o0 o1 o2),s] w λe w'=>e=R_ (U_ #[I_ J_ (if Xl (eo l) s then (Xe (eo l) s:Int) else 0),B_ (Xl (eo l) s)])/\Bw w w':=by
 have I:Bw w (w.alloc (.cells (gF r A n c o0 o1 o2) 34)):=dL;have hc:=Hd (yD r A n c o0 o1 o2 l s _ ((h.below I).more I.size) O G hn);have U:=Hd I;unfold gF at*;generalize Xe (eo l) s=P at*;generalize Xl (eo l) s=F at*;clear h O I;cases F
 all_goals
  go_enter func61,ntmps61;exact Ou
def ep (l:List dq) (e:dq):List dq:=if Xl (eo l) e.dC.id then l.set (Xe (eo l) e.dC.id) e else l.take (Xe (eo l) e.dC.id)++e::l.drop (Xe (eo l) e.dC.id)
def my (l:List dq) (s:ByteArray):List dq:=if Xl (eo l) s then l.take (Xe (eo l) s)++l.drop (Xe (eo l) s+1) else l
def Ov (r:Int) (o0 o1 o2:Bool) (l:List dq) (w:WX) (e:Ending) (w':WX):Prop:= ∃A' n' c',e=R_ (A_ (gF r A' n' c' o0 o1 o2))/\jJ w' A' n' c' l/\Bw w w'/\(∀b,Xv A'=Y' b->X_ (Y_ w)<=b)
def Cz {l:List dq} (h:P<l.length) (e:dq):XF (dq.flat l) (P*12) e.cells=dq.flat (l.set P e):=by
 have hl:(dq.flat (l.take P)).length=P*12:=by rw [dq.dO,XV];congr 1;omega
 unfold XF;rw [dq.oE,show P*12+e.cells.length=(P+1)*12 by simp [dq.cells];omega,dq.BM,List.set_eq_take_append_cons_drop,if_pos h,dq.eH,dq.iE,List.append_assoc]
def zQ {n2 c2:Nat} {l:List dq} (gr:Nat) (r:Int) (o0 o1 o2:Bool) (U:Bw w w2) (G:jJ w2 A2 n2 c2 l) (O: ∀b,Xv A2=Y' b->b≠gr) (F:X_ (Y_ w)<=gr):
  jJ (((((w2.setCell ⟨gr,0,Z_⟩ (I_ J_ r)).setCell ⟨gr,1,Z_⟩ (S_ A2 n2 c2)).setCell ⟨gr,2,Z_⟩ (B_ o0)).setCell ⟨gr,3,Z_⟩ (B_ o1)).setCell ⟨gr,4,Z_⟩ (B_ o2)) A2 n2 c2 l/\
  Bw w (((((w2.setCell ⟨gr,0,Z_⟩ (I_ J_ r)).setCell ⟨gr,1,Z_⟩ (S_ A2 n2 c2)).setCell ⟨gr,2,Z_⟩ (B_ o0)).setCell ⟨gr,3,Z_⟩ (B_ o1)).setCell ⟨gr,4,Z_⟩ (B_ o2)):=by
 have f: ∀{X:WX} (i:Nat) (u:WY),jJ X A2 n2 c2 l->jJ (X.setCell ⟨gr,i,Z_⟩ u) A2 n2 c2 l:=λi u h=>h.only (Xq _ _ _) (λb I e=>O b I e)
 exact ⟨f 4 _ (f 3 _ (f 2 _ (f 1 _ (f 0 _ G)))),((((U.setCell F _).setCell F _).setCell F _).setCell F _).setCell F _⟩
def ends {n2 c2:Nat} {l:List dq} (gr:Nat) (r:Int) (o0 o1 o2:Bool) (hB:Bw w w2) (hR:jJ w2 A2 n2 c2 l) (hb: ∀b,Xv A2=Y' b->b≠X_ (Y_ w)/\b≠gr) (hg:X_ (Y_ w)<=gr):
  jJ ((((((w2.setCell ⟨X_ (Y_ w),1,Z_⟩ (S_ A2 n2 c2)).setCell ⟨gr,0,Z_⟩ (I_ J_ r)).setCell ⟨gr,1,Z_⟩ (S_ A2 n2 c2)).setCell ⟨gr,2,Z_⟩ (B_ o0)).setCell ⟨gr,3,Z_⟩ (B_ o1)).setCell ⟨gr,4,Z_⟩ (B_ o2)) A2 n2 c2 l/\
  Bw w ((((((w2.setCell ⟨X_ (Y_ w),1,Z_⟩ (S_ A2 n2 c2)).setCell ⟨gr,0,Z_⟩ (I_ J_ r)).setCell ⟨gr,1,Z_⟩ (S_ A2 n2 c2)).setCell ⟨gr,2,Z_⟩ (B_ o0)).setCell ⟨gr,3,Z_⟩ (B_ o1)).setCell ⟨gr,4,Z_⟩ (B_ o2)):=
 zQ gr r o0 o1 o2 (hB.setCell l_ _) (hR.only (Xq _ _ _) (λb hk e=>(hb b hk).1 e)) (λb hk=>(hb b hk).2) hg
def oY (r:Int) (A:Option Xa) (n c:Nat) (o0 o1 o2:Bool) (l:List dq) (s:ByteArray) (w:WX) (h:Xz w w.heap.size 12 A n (dq.flat l)) (hr:Ya (eo l)) (av:l.length=n) (hn:n<=100000) (hA:A=Z_->n=0/\c=0):
  WZ Xd 58 #[A_ (gF r A n c o0 o1 o2),s] w (Ov r o0 o1 o2 (my l s) w):=by
 have HX:=Hd (λX (hX:Bw w X)=>yD r A n c o0 o1 o2 l s X ((h.below hX).more hX.size) hr av o_);have ab:=Hd (λX (hX:Bw w X)=>oi A n c l X ((h.below hX).more hX.size) o_ hA);have aN:Xb (Bw w ((w.alloc (.cells (gF r A n c o0 o1 o2) 34)).alloc (.cells (gF 0 Z_ 0 0 WW WW WW) 34))):=(dL).alloc y_ _;have HK8:Xb (Xf ((w.alloc (.cells (gF r A n c o0 o1 o2) 34)).alloc (.cells (gF 0 Z_ 0 0 WW WW WW) 34)) w.heap.size 34 (gF r A n c o0 o1 o2)):=XG Xk;have hp:Xl (eo l) s=Z'->Xe (eo l) s<n:=λe=>by have:=(du.mZ hr e).1;rw [f'] at this;omega
 let ⟨R,hR⟩:=nm (my l s);rw [<-hR];unfold my at hR;generalize Xe (eo l) s=P at*;generalize Xl (eo l) s=F at*;have HR:=Hd hR;clear h hr hR;unfold gF at*;have bJ:=Hd (show Xf ((w.alloc (.cells #[r,S_ A n c,o0,o1,o2] 34)).alloc (.cells #[I_ J_ 0,S_ Z_ 0 0,B_ WW,B_ WW,B_ WW] 34)) (X_ (Y_ w)+1) 34 #[I_ J_ 0,S_ Z_ 0 0,B_ WW,B_ WW,B_ WW] from by
  have:=Xk (w:=w.alloc (.cells #[r,S_ A n c,o0,o1,o2] 34)) (t:=34) (cs:= #[I_ J_ 0,S_ Z_ 0 0,B_ WW,B_ WW,B_ WW]);simpa using this)
 cases F
 .go_enter func58,ntmps58
  go_wp2_with fail;refine (HX.o _ aN.o).mono ?_;rintro e w1 ⟨rfl,aT⟩;have am:=Hd (aN.o.trans (aT.mono aN.o.size));have HK:=Hd (HK8.o.a_ aT);have HE:=Hd (bJ.o.a_ aT);have m1:=c1 HK.o;clear HX aT aN HK8 bJ;go_wp2_with fail;refine (ab.o _ am.o).mono ?_;rintro e w2 ⟨A2,c2,rfl,hL,bu,V⟩;have ag:=Hd (am.o.trans (bu.mono am.o.size));have HB0:=Hd (HK.o.a_ bu);have J2:=Hd (HE.o.a_ bu);have HL:=Hd hL;have F2:=Hd V;have z1:=am.o.size;have ah:=Hd HE.o.lt;have au:=HE.o.lt;clear ab am HK HE m1 bu hL V;refine Lo ?_;intro m0 m1 m2 m3 m4 f0 y0 y1 y2 y3 y4 f1;have G:=Hd (ends (X_ (Y_ w)+1) r o0 o1 o2 ag.o HL.o (λb U=>by have:=F2.o b U;omega) y_);clear au;go_wp2;refine bodyPost_ret (v:=A_ #[r,S_ A2 n c2,o0,o1,o2]) (by simp [*,results,results58,go_sem]) rfl ⟨A2,n,c2,rfl,by rw [HR.o];exact G.o.1,G.o.2,λb U=>by have:=F2.o b U;omega⟩
 .go_enter func58,ntmps58
  go_wp2_with fail;refine (HX.o _ aN.o).mono ?_;rintro e w1 ⟨rfl,aT⟩;have b8:=Hd (aN.o.trans (aT.mono aN.o.size));have cm:=Hd (HK8.o.a_ aT);have ba:=Hd (bJ.o.a_ aT);have m1:=c1 cm.o;clear HX aT aN HK8 bJ;go_wp2_with fail;refine (ab.o _ b8.o).mono ?_;rintro e w2 ⟨A2,c2,rfl,hL,bl,V⟩;refine VW ?_;intro cL aS aP;have HL:=Hd hL;have F2:=Hd V;have z1:=b8.o.size;have ah:=Hd ba.o.lt;have au:=ba.o.lt;clear ab b8 cm ba m1 bl hL V;have hP:P<n:=by simpa using hp
  have f0:=aS.o.frozen;have m1:=c1 aS.o;have hw:IntKind.i64.wrap ((P:Int)+1)=(P:Int)+1:=by rw [XZ];omega
  have R3:Xb (jJ (w2.setCell ⟨X_ (Y_ w),1,Z_⟩ (S_ A2 n c2)) A2 n c2 l):=HL.o.only (Xq _ _ _) (λb U e=>by have:=F2.o b U;have e':b=X_ (Y_ w):=e;omega);have H3:=Hd (cL.o.setCell (p:=⟨X_ (Y_ w),1,Z_⟩) l_ (S_ A2 n c2));have K3:Xb (Xf (w2.setCell ⟨X_ (Y_ w),1,Z_⟩ (S_ A2 n c2)) w.heap.size 34 #[r,S_ A2 n c2,o0,o1,o2]):=aS.o.eC 1 _;have J3:=Hd (aP.o.fA (p:=⟨X_ (Y_ w),1,Z_⟩) (u:=S_ A2 n c2) y_);go_wp2_with fail;refine (CA A2 n c2 P l _ R3.o hP o_).mono ?_;rintro e w4 ⟨rfl,ap,ac⟩;have z3:=H3.o.size;have zz:=z3;simp at zz;have I: ∀b,Xv A2=Y' b->b≠X_ (Y_ w)/\b≠X_ (Y_ w)+1:=λb U=>by have h1:=F2.o b U;have h2:=ah.o;omega
  have HB0:Xb (Xf w4 w.heap.size 34 #[r,S_ A2 n c2,o0,o1,o2]):=(ac.block _ K3.o.lt (λe=>(I _ e).1 rfl)).trans K3.o;have J2:Xb (Xf w4 (X_ (Y_ w)+1) 34 #[I_ J_ 0,S_ Z_ 0 0,B_ WW,B_ WW,B_ WW]):=(ac.block _ J3.o.lt (λe=>(I _ e).2 rfl)).trans J3.o;have H4:=Hd (H3.o.trans (ac.below (Xu H3.o.size l_) (λk hk e=>by have:=F2.o k e;omega)));have R4:=Hd ap;have NE:=Hd I;clear ap ac I R3 H3 K3 J3 aS aP HL cL m1 f0 hw;refine Lo ?_;intro m0 m1 m2 m3 m4 f0 y0 y1 y2 y3 y4 f1;have G:=Hd (ends (X_ (Y_ w)+1) r o0 o1 o2 H4.o R4.o (λb U=>(NE.o b U)) y_);go_wp2;refine bodyPost_ret (v:=A_ #[r,S_ A2 (n - 1) c2,o0,o1,o2]) (by simp [*,results,results58,go_sem]) rfl ⟨A2,n - 1,c2,rfl,by rw [HR.o];exact G.o.1,G.o.2,λb U=>by have:=F2.o b U;omega⟩
def Gt (xs:List WY) (o:Nat):XF xs o []=xs:=by simp [XF]
def CB (xs:List WY) (o:Nat) (v:WY) (vs:List WY) (h:o<xs.length):XF xs o (v::vs)=XF (xs.set o v) (o+1) vs:=by
 obtain ⟨a,x,b,rfl,rfl⟩: ∃a x b,xs=a++x::b/\o=a.length:=⟨xs.take o,xs[o],xs.drop (o+1),by rw [<-List.drop_eq_getElem_cons h,XL],by simp;omega⟩;have G:(a++x::b).set a.length v=a++v::b:=by simp
 have F:(a++v::b).take (a.length+1)=a++[v]:=by rw [show a++v::b=(a++[v])++b by simp,List.take_left' y_]
 have O:(a++v::b).drop (a.length+1+vs.length)=b.drop vs.length:=by
  rw [XX,XH o_,show a.length+1+vs.length - a.length=vs.length+1 by omega];simp
 have I:(a++x::b).drop (a.length+(v::vs).length)=b.drop vs.length:=by
  rw [XX,XH y_,show a.length+(v::vs).length - a.length=vs.length+1 by simp];simp
 unfold XF;rw [G,F,O,I];simp
def wN: ∀(vs:List WY) (xs:List WY) (o:Nat) (w:WX) (_:Yc w e k (Y' ⟨g,off,Z_⟩) n c xs) (_:o+vs.length<=xs.length),Yc (w.setCells g (off+o) vs) e k (Y' ⟨g,off,Z_⟩) n c (XF xs o vs)
 |[],xs,o,w,h,_=>by rw [Gt];exact h
 |v::vs,xs,o,w,h,hl=>by
  have hl':o+(vs.length+1)<=xs.length:=hl;rw [CB xs o v vs o_];exact wN vs _ (o+1) _ (h.BR o o_ v) (by rw [List.length_set];omega)
def fq {B:Nat} (hg:B<=g): ∀(vs:List WY) (o:Nat) (w:WX) (_:Xc B w0 w),Xc B w0 (w.setCells g o vs)
 |[],_,_,h=>h
 |v::vs,o,w,h=>fq hg vs (o+1) _ (h.setCell hg v)
def rm {cs:Array WY} (hg:h≠g): ∀(vs:List WY) (o:Nat) (w:WX) (_:Xf w h t cs),Xf (w.setCells g o vs) h t cs
 |[],_,_,h=>h
 |v::vs,o,w,b=>rm hg vs (o+1) _ (b.fA (p:=⟨g,o,Z_⟩) hg)
def CC (h:Yc w e k (Y' ⟨g,off,Z_⟩) n c xs) (G:i<n):World.there w g (off+i*k) k:=by
 intro j hj;have I:=h.len;have F:i*k+j<xs.length:=by
  rw [I]
  calc i*k+j<i*k+k:=o_
   _=(i+1)*k:=by rw [Nat.add_mul,XN]
   _<=n*k:=Nat.mul_le_mul_right _ G
 have:=h.cell (i*k+j) F;rw [<-Nat.add_assoc] at this;exact ⟨by rw [this];rfl,h.frozen _⟩
def yJ (r:Int) (A:Option Xa) (n c:Nat) (o0 o1 o2:Bool) (l:List dq) (p:dq) (w:WX) (h:Xz w w.heap.size 12 A n (dq.flat l)) (hr:Ya (eo l)) (a4:l.length=n) (hn:n<=100000) (hA:A=Z_->n=0/\c=0):
  WZ Xd 59 #[A_ (gF r A n c o0 o1 o2),A_ p.arr] w (Ov r o0 o1 o2 (ep l p) w):=by
 let ⟨R,hR⟩:=nm (ep l p);rw [<-hR];unfold ep at hR;have bf:Xb (dq.cells p=dq.cells p):=Hd rfl;let ⟨P,hP⟩:=nm p;have au:P.arr=p.arr:=by rw [hP]
 have a2:P.cells=p.cells:=by rw [hP]
 rw [<-hP] at hR;have aK:=Hd au;let ⟨⟨q0,q1,q2,q3,q4,q5,q6,q7,q8,q9,I⟩,G⟩:=p;have aS:P.dC.id=q0:=by rw [hP]
 rw [aS] at hR;clear hP bf au aS;have ab:=Hd (λX (hX:Bw w X)=>yD r A n c o0 o1 o2 l q0 X ((h.below hX).more hX.size) hr a4 o_);have HX:=Hd (λX (hX:Bw w X)=>oi A n c l X ((h.below hX).more hX.size) o_ hA);have bE:Xe (eo l) q0<=n:=by have:=du.oP (eo l) q0;rw [f'] at this;omega
 have hp:Xl (eo l) q0=Z'->Xe (eo l) q0<n:=λe=>by have:=(du.mZ hr e).1;rw [f'] at this;omega
 generalize Xe (eo l) q0=pos at*;generalize Xl (eo l) q0=F at*;have HR:=Hd hR;have aP:=Hd a2;clear h hr hR a2;unfold gF at*;unfold dq.arr at aK |-
 dsimp only at aK |-
 unfold dq.cells at aP
 dsimp only at aP
 have ar:=Hd (show Bw w (((w.alloc (.cells #[r,S_ A n c,o0,o1,o2] 34)).alloc (.cells #[q0,q1,q2,q3,q4,q5,q6,q7,q8,q9,I,G] 58)).alloc (.cells #[I_ J_ 0,S_ Z_ 0 0,B_ WW,B_ WW,B_ WW] 34)) from ((dL).alloc y_ _).alloc z_ _);have aR:=Hd (show Xf (((w.alloc (.cells #[r,S_ A n c,o0,o1,o2] 34)).alloc (.cells #[q0,q1,q2,q3,q4,q5,q6,q7,q8,q9,I,G] 58)).alloc (.cells #[I_ J_ 0,S_ Z_ 0 0,B_ WW,B_ WW,B_ WW] 34)) w.heap.size 34 #[r,S_ A n c,o0,o1,o2] from XG (XG Xk));have hE:=Hd (show Xf (((w.alloc (.cells #[r,S_ A n c,o0,o1,o2] 34)).alloc (.cells #[q0,q1,q2,q3,q4,q5,q6,q7,q8,q9,I,G] 58)).alloc (.cells #[I_ J_ 0,S_ Z_ 0 0,B_ WW,B_ WW,B_ WW] 34)) (X_ (Y_ w)+1) 58 #[q0,q1,q2,q3,q4,q5,q6,q7,q8,q9,I,G] from XG (by
  have:=Xk (w:=(w.alloc (.cells #[r,S_ A n c,o0,o1,o2] 34))) (t:=58) (cs:= #[q0,q1,q2,q3,q4,q5,q6,q7,q8,q9,I,G]);simpa using this))
 have av:=Hd (show Xf (((w.alloc (.cells #[r,S_ A n c,o0,o1,o2] 34)).alloc (.cells #[q0,q1,q2,q3,q4,q5,q6,q7,q8,q9,I,G] 58)).alloc (.cells #[I_ J_ 0,S_ Z_ 0 0,B_ WW,B_ WW,B_ WW] 34)) (X_ (Y_ w)+2) 34 #[I_ J_ 0,S_ Z_ 0 0,B_ WW,B_ WW,B_ WW] from by
  have:=Xk (w:=((w.alloc (.cells #[r,S_ A n c,o0,o1,o2] 34)).alloc (.cells #[q0,q1,q2,q3,q4,q5,q6,q7,q8,q9,I,G] 58))) (t:=34) (cs:= #[I_ J_ 0,S_ Z_ 0 0,B_ WW,B_ WW,B_ WW]);simpa using this)
 cases F
 .go_enter func59,ntmps59
  go_wp2_with fail;refine (ab.o _ ar.o).mono ?_;rintro e w1 ⟨rfl,V⟩;have aA:=Hd (ar.o.trans (V.mono ar.o.size));have cr:=Hd (aR.o.a_ V);have bN:=Hd (hE.o.a_ V);have HE:=Hd (av.o.a_ V);have m1:=c1 cr.o;clear ab V ar aR av hE;go_wp2_with fail;refine (HX.o _ aA.o).mono ?_;rintro e w2 ⟨A2,c2,rfl,hL,b9,ae⟩;have aa:=Hd (aA.o.trans (b9.mono aA.o.size));have y9:=Hd (cr.o.a_ b9);have bR:=Hd (bN.o.a_ b9);have HT3:=Hd (HE.o.a_ b9);have HL:=Hd hL;have F2:=Hd ae;have bn:=HE.o.lt;have U:=Hd HE.o.lt;clear HX aA cr HE bN m1 b9 hL ae;have m1:=c1 y9.o;have f0:=y9.o.frozen;obtain ⟨x0,x1,x2,x3,x4,x5,x6,x7,x8,x9,aO,aM,-⟩:=kA bR.o;clear m1 f0;have W3:Xb (∃X,X=(w2.setCell ⟨X_ (Y_ w),1,Z_⟩ (S_ A2 n c2)).alloc (.cells #[q0,q1,q2,q3,q4,q5,q6,q7,q8,q9,I,G] 58)):=Hd ⟨_,rfl⟩;let ⟨X,hX⟩:=W3.o;have af:=Hd hX;have RX:Xb (jJ X A2 n c2 l):=Hd (by
   rw [hX];exact (HL.o.only (Xq _ _ _) (λb hb e=>by have:=F2.o b hb;have e':b=X_ (Y_ w):=e;omega)).dy (λb hb=>Below.heap_alloc _ _ b (by have:=HL.o.lt hb;simpa using this)))
  have KX:Xb (Xf X w.heap.size 34 #[r,S_ A2 n c2,o0,o1,o2]):=Hd (by rw [hX];exact (y9.o.eC 1 _).alloc);have JX:Xb (Xf X (X_ (Y_ w)+2) 34 #[I_ J_ 0,S_ Z_ 0 0,B_ WW,B_ WW,B_ WW]):=Hd (by rw [hX];exact (HT3.o.fA (p:=⟨X_ (Y_ w),1,Z_⟩) y_).alloc);have BX:Xb (Bw w X):=Hd (by rw [hX];exact (aa.o.setCell l_ _).alloc (by have:=aa.o.size;simpa using this) _);have VX:Xb (Xf X w2.heap.size 58 P.arr):=Hd (by
   unfold dq.arr;rw [aK.o,hX];have:=Xk (w:=w2.setCell ⟨X_ (Y_ w),1,Z_⟩ (S_ A2 n c2)) (t:=58) (cs:= #[q0,q1,q2,q3,q4,q5,q6,q7,q8,q9,I,G]);simpa using this)
  have aH: ∀b,Xv A2=Y' b->b<X_ (Y_ w2):=λb hb=>HL.o.lt hb
  have bz:=Hd aH;have hs2:=aa.o.size;have bI:=HT3.o.lt;clear hX W3 aH;have m1:=c1 y9.o;have f0:=y9.o.frozen;go_wp2_with fail;rw [<-af.o];refine (CD A2 n c2 pos w2.heap.size l P X RX.o bE VX.o (λe=>by have:=bz.o _ e;omega) o_).mono ?_;rintro e w4 ⟨A3,c3,rfl,aU,aE,aJ⟩;have a0: ∀b,Xv A3=Y' b->b≠X_ (Y_ w)/\b≠X_ (Y_ w)+2:=λb hb=>by
   obtain h4|⟨k,hk,bm⟩:=aJ
   .rw [h4] at hb;have h1:=F2.o b hb;have h2:=U.o;omega
   .have e':k=b:=by rw [hk] at hb;simpa using hb
    have h1:=JX.o.lt;omega
  have HB0:=Hd (show Xf w4 w.heap.size 34 #[r,S_ A2 n c2,o0,o1,o2] from (aE.block _ KX.o.lt (λe=>by have h1:=F2.o _ e;have h2:=U.o;omega)).trans KX.o);have J2:=Hd (show Xf w4 (X_ (Y_ w)+2) 34 #[I_ J_ 0,S_ Z_ 0 0,B_ WW,B_ WW,B_ WW] from (aE.block _ JX.o.lt (λe=>by have h1:=F2.o _ e;have h2:=U.o;omega)).trans JX.o);have H4:=Hd (BX.o.trans (aE.below BX.o.size (λk hk e=>by have:=F2.o k e;have h2:=U.o;omega)));have R4:=Hd aU;have NE:=Hd a0;have NF:Xb (∀b,Xv A3=Y' b->X_ (Y_ w)<=b):=Hd (λb hb=>by
   obtain h4|⟨k,hk,bm⟩:=aJ
   .rw [h4] at hb;have h1:=F2.o b hb;have h2:=U.o;omega
   .have e':k=b:=by rw [hk] at hb;simpa using hb
    have h1:=JX.o.lt;omega)
  clear aU aE aJ a0 af RX KX JX BX VX y9 HT3 HL aa bR m1 f0;clear x0 x1 x2 x3 x4 x5 x6 x7 x8 x9 aO aM;refine Lo ?_;intro m0 m1 m2 m3 m4 f0 y0 y1 y2 y3 y4 f1;have O:=Hd (ends (X_ (Y_ w)+2) r o0 o1 o2 H4.o R4.o (λb hb=>(NE.o b hb)) y_);go_wp2;refine bodyPost_ret (v:=A_ #[r,S_ A3 (n+1) c3,o0,o1,o2]) (by simp [*,results,results59,go_sem]) rfl ⟨A3,n+1,c3,rfl,by rw [HR.o];exact O.o.1,O.o.2,NF.o⟩
 .go_enter func59,ntmps59
  go_wp2_with fail;refine (ab.o _ ar.o).mono ?_;rintro e w1 ⟨rfl,V⟩;have aN:=Hd (ar.o.trans (V.mono ar.o.size));have HK8:=Hd (aR.o.a_ V);have bJ:=Hd (hE.o.a_ V);have HE:=Hd (av.o.a_ V);have m1:=c1 HK8.o;clear ab V ar aR av hE;go_wp2_with fail;refine (HX.o _ aN.o).mono ?_;rintro e w2 ⟨A2,c2,rfl,hL,aT,ae⟩;have b8:=Hd (aN.o.trans (aT.mono aN.o.size));have cm:=Hd (HK8.o.a_ aT);have ba:=Hd (bJ.o.a_ aT);have aw:=Hd (HE.o.a_ aT);have HL:=Hd hL;have F2:=Hd ae;have bn:=HE.o.lt;have U:=Hd HE.o.lt;clear HX aN HK8 HE bJ m1 aT hL ae;have hP:pos<n:=by simpa using hp
  have bA:pos<l.length:=o_;have bF:=HL.o.le;obtain ⟨gI,off,rfl⟩:=HL.o.fe o_;have hgI:=F2.o gI rfl;have J1l:=U.o;have n1:gI≠X_ (Y_ w):=o_;have n3:gI≠X_ (Y_ w)+2:=o_;let ⟨w3,ac⟩:=nm (w2.setCell ⟨X_ (Y_ w),1,Z_⟩ (S_ (Y' ⟨gI,off,Z_⟩) n c2));have R3:Xb (jJ w3 (Y' ⟨gI,off,Z_⟩) n c2 l):=Hd (by rw [ac];exact HL.o.only (Xq _ _ _) (λb hb e=>by have:=F2.o b hb;have e':b=X_ (Y_ w):=e;omega));have K3:Xb (Xf w3 w.heap.size 34 #[r,S_ (Y' ⟨gI,off,Z_⟩) n c2,o0,o1,o2]):=Hd (by rw [ac];exact cm.o.eC 1 _);have E3:Xb (Xf w3 (X_ (Y_ w)+1) 58 #[q0,q1,q2,q3,q4,q5,q6,q7,q8,q9,I,G]):=Hd (by rw [ac];exact ba.o.fA (p:=⟨X_ (Y_ w),1,Z_⟩) y_);have J3:Xb (Xf w3 (X_ (Y_ w)+2) 34 #[I_ J_ 0,S_ Z_ 0 0,B_ WW,B_ WW,B_ WW]):=Hd (by rw [ac];exact aw.o.fA (p:=⟨X_ (Y_ w),1,Z_⟩) y_);have B3:Xb (Bw w w3):=Hd (by rw [ac];exact b8.o.setCell l_ _);have HT:=CC R3.o hP;let ⟨Y,hY⟩:=nm (w3.setCells gI (off+pos*12) (Array.toList #[q0,q1,q2,q3,q4,q5,q6,q7,q8,q9,I,G]));have a3:Y=w3.setCells gI (off+pos*12) P.cells:=by
   unfold dq.cells;rw [aP.o,hY]
  have ax:=Hd a3;have RX:Xb (jJ Y (Y' ⟨gI,off,Z_⟩) n c2 (l.set pos P)):=Hd (by
   have h2:=wN P.cells _ (pos*12) _ R3.o (by rw [dq.dO];simp [dq.cells];omega);rw [Cz bA] at h2;rw [ax.o];exact h2)
  have HB0:Xb (Xf Y w.heap.size 34 #[r,S_ (Y' ⟨gI,off,Z_⟩) n c2,o0,o1,o2]):=Hd (by
   rw [ax.o];exact rm (λe=>n1 e.symm) _ _ _ K3.o)
  have J2:Xb (Xf Y (X_ (Y_ w)+2) 34 #[I_ J_ 0,S_ Z_ 0 0,B_ WW,B_ WW,B_ WW]):=Hd (by
   rw [ax.o];exact rm (λe=>n3 e.symm) _ _ _ J3.o)
  have BX:Xb (Bw w Y):=Hd (by
   rw [ax.o];exact fq o_ _ _ _ B3.o)
  have HY:=Hd hY;have mm:=c1 cm.o;have ff:=cm.o.frozen;have k1:=c1 K3.o;have bB:=Hd ac;have d0:decide ((pos:Int)<n)=Z':=dT;clear hY a3 ax ac;obtain ⟨x0,x1,x2,x3,x4,x5,x6,x7,x8,x9,aO,aM,-⟩:=kA E3.o;have HA:Array.all (#[q0,q1,q2,q3,q4,q5,q6,q7,q8,q9,I,G]:Array WY) (·.oneCell')=Z':=by simp [Value.oneCell']
  have HI:((Xd).info? 58).map (·.size)=Y' (Array.size (#[q0,q1,q2,q3,q4,q5,q6,q7,q8,q9,I,G]:Array WY)):=k_;go_upto_region 4 with fail;rw [<-bB.o];clear mm ff;refine Lo ?_;intro m0 m1 m2 m3 m4 f0 y0 y1 y2 y3 y4 f1;have O:=Hd (zQ (X_ (Y_ w)+2) r o0 o1 o2 BX.o RX.o (λb hb=>by have:=F2.o b hb;omega) y_);go_wp2_with (refine wpList_store_mid rfl 58 _ _ rfl gI (off+pos*12) #[q0,q1,q2,q3,q4,q5,q6,q7,q8,q9,I,G] rfl rfl HT HI HA ?_;rw [<-HY.o])
  clear HT HA HI k1 d0 x0 x1 x2 x3 x4 x5 x6 x7 x8 x9 aO aM hp hA;refine bodyPost_ret (v:=A_ #[r,S_ (Y' ⟨gI,off,Z_⟩) n c2,o0,o1,o2]) (by simp [*,results,results59,go_sem]) rfl ⟨Y' ⟨gI,off,Z_⟩,n,c2,rfl,by rw [HR.o];exact O.o.1,O.o.2,λb hb=>by have:=F2.o b hb;omega⟩
end Ta
end
section
namespace Tp
def fS:Nat:=9223372036854775807
def vV (a b:Nat):Nat:=min (a+b) fS
def r_ (a b:Nat):Nat:=min (a*b) fS
def sn (k:Nat):UInt8:=UInt8.ofNat (48+k)
def eP (n:Nat):List UInt8:=if n<10 then [sn n] else eP (n/10)++[sn (n%10)]
def fW (c:UInt8):Bool:=decide (48<=c.toNat/\c.toNat<=57)
def nw (h:k<10):(sn k).toNat=48+k:=by
 unfold sn;rw [UInt8.toNat_ofNat'];omega
def EF (h:k<10):fW (sn k)=Z':=by
 unfold fW;rw [nw h];exact dT
def jI: ∀(n:Nat),∀c∈eP n,fW c=Z':=by
 intro n
 induction n using XJ with
 |ind n ih=>
  intro c hc;unfold eP at hc;split at hc
  .rename_i h
   rw [Xm] at hc;subst hc;exact EF h
  .obtain hc|hc:=Xj.1 hc
   .exact ih (n/10) o_ c hc
   .rw [Xm] at hc
    subst hc;exact EF o_
def tQ (n:Nat):eP n≠[]:=by
 unfold eP;split<;>simp
def yj (a:Nat) (c:UInt8):Nat:=vV (r_ a 10) (c.toNat - 48)
def Kj: ∀(n:Nat),n<=fS->(eP n).foldl yj 0=n:=by
 intro n
 induction n using XJ with
 |ind n ih=>
  intro hn;unfold eP;split
  .rename_i h
   show yj 0 (sn n)=n
   unfold yj vV r_;rw [nw h];unfold fS at*;omega
  .rename_i h
   rw [List.foldl_append,ih (n/10) o_ o_]
   show yj (n/10) (sn (n%10))=n
   unfold yj vV r_;rw [nw o_];unfold fS at*;omega
def ahead (l:List UInt8):List UInt8:=l.takeWhile fW
def behind (l:List UInt8):List UInt8:=l.dropWhile fW
def BV (F: ∀c∈l,fW c=Z') (O: ∀c∈r.head?,fW c=WW):ahead (l++r)=l/\behind (l++r)=r:=by
 unfold ahead behind
 induction l with
 |nil=>
  cases r with
  |nil=>exact ⟨rfl,rfl⟩
  |cons c r=>
   have:fW c=WW:=O c rfl;simp [this]
 |cons x l ih=>
  have I:fW x=Z':=F x y_;have G:=ih (λc hc=>F c (by simp [hc]));simp [I,G.1,G.2]
def dH:Nat->List UInt8
 |0=>[84,105]|1=>[84]|2=>[71,105]|3=>[71]|4=>[77,105]|5=>[77]|6=>[75,105]|7=>[107]|_=>[]
def dM:Nat->Nat
 |0=>1099511627776|1=>1000000000000|2=>1073741824|3=>1000000000|4=>1048576|5=>1000000|6=>1024|7=>1000|_=>1
def ic (n:Nat):Nat:=if n%dM 0=0 then 0 else if n%dM 1=0 then 1 else if n%dM 2=0 then 2 else if n%dM 3=0 then 3 else if n%dM 4=0 then 4 else if n%dM 5=0 then 5 else if n%dM 6=0 then 6 else if n%dM 7=0 then 7 else 8
def zA (n:Nat):ic n<=8:=by
 unfold ic
 repeat' split
 all_goals omega
def EG (n:Nat):n%dM (ic n)=0:=by
 unfold ic
 repeat' split
 all_goals first|assumption|exact Nat.mod_one n
def nH (i:Nat):0<dM i:=by
 unfold dM;split<;>decide
def dR (n:Nat):List UInt8:=if n=0 then [48] else eP (n/dM (ic n))++dH (ic n)
def BW: ∀i,∀c∈(dH i).head?,fW c=WW:=by
 intro i c hc;unfold dH at hc;split at hc
 all_goals first
  |(simp at hc;subst hc;decide)
  |simp at hc
def qx {c:UInt8} (h:fW c=Z') (F:fW x=WW):c≠x:=by
 rintro rfl;rw [h] at F;cases F
def mo (n:Nat) (hx:fW x=WW): ∀c∈eP n,c≠x:=λc hc=>qx (jI n c hc) hx
def isLet (c:UInt8):Bool:=decide ((65<=c.toNat/\c.toNat<=90)\/(97<=c.toNat/\c.toNat<=122))
def vQ: ∀i,∀c∈dH i,isLet c=Z':=by
 intro i c hc;unfold dH at hc;split at hc
 all_goals first
  |exact absurd hc Xi
  |(simp only [Xr,Xi,or_false] at hc;obtain rfl|rfl:=hc<;>decide)
  |(simp only [Xr,Xi,or_false] at hc;subst hc;decide)
def gJ (n:Nat) (G:fW x=WW) (F:isLet x=WW): ∀c∈dR n,c≠x:=by
 intro c hc;unfold dR at hc;split at hc
 .rw [Xm] at hc
  subst hc;exact qx d_ G
 .obtain hc|hc:=Xj.1 hc
  .exact mo _ G c hc
  .rintro rfl
   rw [vQ _ _ hc] at F;cases F
structure Th where
 sig:Nat
 jx:Nat
 mN:Nat
 soft:Bool
 gr:Nat
def fD:Nat->List UInt8
 |0=>[109,101,109,111,114,121]|1=>[100,105,115,107]|_=>[112,105,100]
def Th.value (t:Th):List UInt8:=if 0<t.jx then eP t.jx++[37] else dR t.mN
def Th.print (t:Th):List UInt8:=fD t.sig++60::(t.value++if t.soft then 58::eP t.gr else [])
def vR (i:Nat) (h:isLet x=WW): ∀c∈fD i,c≠x:=by
 intro c hc;have F:isLet c=Z':=by
  unfold fD at hc;split at hc
  all_goals
   simp only [Xr,Xi,or_false] at hc;obtain rfl|rfl|rfl|rfl|rfl|rfl:=hc<;>decide
 rintro rfl;rw [F] at h;cases h
def ye (t:Th): ∀c∈t.value,c≠58:=by
 unfold Th.value;split
 .intro c hc
  obtain hc|hc:=Xj.1 hc
  .exact mo _ d_ c hc
  .rw [Xm] at hc
   subst hc
   decide
 .exact gJ _ d_ d_
def blank (c:UInt8):Bool:=c==32||c==9||c==13
structure ki (w:List UInt8):Prop where
 ne:w≠[]
 free: ∀c∈w,blank c=WW
 head: ∀c∈w.head?,c≠35
def join:List (List UInt8)->List UInt8
 |[]=>[]
 |[w]=>w
 |w::ws=>w++32::join ws
structure Cf where
 cap:List Nat
 al:List Nat
 dD:List Th
 fg:Nat
 ret:Nat
 fE:Nat
 dead:Nat
def nF:List UInt8:=[99,97,112,97,99,105,116,121]
def BS:List UInt8:=[97,108,108,111,99,97,116,97,98,108,101]
def JF:List UInt8:=[116,104,114,101,115,104,111,108,100]
def tY:List UInt8:=[112,101,114,105,111,100]
def tZ:List UInt8:=[114,101,116,114,105,101,115]
def ua:List UInt8:=[109,97,120,97,103,101]
def nG:List UInt8:=[100,101,97,100]
def Cf.lines (c:Cf):List (List (List UInt8)):=
 (nF::c.cap.map dR)::(BS::c.al.map dR)::(c.dD.map λt=>[JF,t.print])++[[tY,dR c.fg],[tZ,dR c.ret],[ua,dR c.fE],[nG,dR c.dead]]
def gK (l:List (List UInt8)):List UInt8:=(l.map λx=>x++[10]).flatten
def Cf.text (c:Cf):List UInt8:=gK (c.lines.map join)
def vS (n:Nat): ∃c r,dR n=c::r/\fW c=Z':=by
 unfold dR;split
 .exact ⟨48,[],rfl,d_⟩
 .have F:=tQ (n/dM (ic n))
  match h:eP (n/dM (ic n)),F with
  |c::r,_=>exact ⟨c,r++_,rfl,jI _ c (by rw [h];simp)⟩
def mY (h: ∀x,fW x=WW->isLet x=WW->x≠60->x≠58->x≠37-> ∀c∈l,c≠x): ∀c∈l,blank c=WW:=by
 intro c hc;unfold blank;have F:=h 32 d_ d_ d_ d_ d_ c hc;have I:=h 9 d_ d_ d_ d_ d_ c hc;have G:=h 13 d_ d_ d_ d_ d_ c hc;simp [F,I,G]
def vT (n:Nat):ki (dR n):=by
 let ⟨c,r,e,O⟩:=vS n;refine ⟨by rw [e];simp,mY λx G I _ _ _=>gJ n G I,λy F=>?_⟩;rw [e] at F;cases F;exact qx O d_
structure Wu (x:UInt8):Prop where
 sn:fW x=WW
 Ki:isLet x=WW
 lt:x≠60
 b':x≠58
 jx:x≠37
def zy:Wu 10:=⟨d_,d_,d_,d_,d_⟩
def qE (t:Th) (h:Wu x): ∀c∈t.print,c≠x:=by
 intro c hc;unfold Th.print at hc;obtain hc|hc:=Xj.1 hc
 .exact vR _ h.Ki c hc
 .obtain rfl|hc:=p_ hc
  .exact λe=>h.lt e.symm
  .obtain hc|hc:=Xj.1 hc
   .unfold Th.value at hc
    split at hc
    .obtain hc|hc:=Xj.1 hc
     .exact mo _ h.sn c hc
     .rw [Xm] at hc
      subst hc;exact λe=>h.jx e.symm
    .exact gJ _ h.sn h.Ki c hc
   .split at hc
    .obtain rfl|hc:=p_ hc
     .exact λe=>h.b' e.symm
     .exact mo _ h.sn c hc
    .exact absurd hc Xi
def yg (t:Th):ki t.print:=by
 refine ⟨by unfold Th.print;simp,mY λx F V I O G=>qE t ⟨F,V,I,O,G⟩,λc hc=>?_⟩;unfold Th.print at hc;have hs: ∃y r,fD t.sig=y::r/\y≠35:=by
  unfold fD;split
  .exact ⟨_,_,rfl,d_⟩
  .exact ⟨_,_,rfl,d_⟩
  .exact ⟨_,_,rfl,d_⟩
 let ⟨y,r,e,U⟩:=hs;rw [e] at hc;cases hc;exact U
def yh {w:List UInt8} (h:w≠[]/\w.all isLet=Z'):ki w:=by
 let ⟨O,G⟩:=h;rw [XY] at G;have I: ∀x,isLet x=WW-> ∀c∈w,c≠x:=λx F c hc e=>by
  have:=G c hc;rw [e,F] at this;cases this
 refine ⟨O,mY λx _ F _ _ _=>I x F,λc hc=>?_⟩
 match w,hc with
 |y::r,hc=>
  cases hc;exact I 35 d_ c y_
def yi {w:List UInt8} (h:w.all isLet=Z') (hx:isLet x=WW): ∀c∈w,c≠x:=λc hc e=>by
 rw [XY] at h;have:=h c hc;rw [e,hx] at this;cases this
def vU (c:Cf): ∀l∈c.lines,l≠[]/\ ∀w∈l,ki w/\ ∀x∈w,x≠10:=by
 have X: ∀n,ki (dR n)/\ ∀x∈dR n,x≠10:=λn=>⟨vT n,gJ n zy.sn zy.Ki⟩
 have I: ∀w:List UInt8,w≠[]/\w.all isLet=Z'->ki w/\ ∀x∈w,x≠10:=λw h=>⟨yh h,yi h.2 zy.Ki⟩
 have O: ∀(w:List UInt8) (n:Nat),(w≠[]/\w.all isLet=Z')->([w,dR n]≠[]/\ ∀v∈[w,dR n],ki v/\ ∀x∈v,x≠10):=λw n h=>⟨by simp,λv G=>by
  simp only [Xr,Xi,or_false] at G;obtain rfl|rfl:=G
  .exact I _ h
  .exact X n⟩
 have V: ∀(w:List UInt8) (U:List Nat),(w≠[]/\w.all isLet=Z')->(w::U.map dR≠[]/\ ∀v∈w::U.map dR,ki v/\ ∀x∈v,x≠10):=λw U h=>⟨by simp,λv G=>by
  obtain rfl|G:=p_ G
  .exact I _ h
  .obtain ⟨n,_,rfl⟩:=XU.1 G
   exact X n⟩
 intro l F;unfold Cf.lines at F;obtain rfl|F:=p_ F
 .exact V _ _ ⟨d_,d_⟩
 .obtain F|F:=Xj.1 F
  .obtain rfl|F:=p_ F
   .exact V _ _ ⟨d_,d_⟩
   .obtain ⟨t,_,rfl⟩:=XU.1 F
    refine ⟨by simp,λv G=>?_⟩;simp only [Xr,Xi,or_false] at G;obtain rfl|rfl:=G
    .exact I _ ⟨d_,d_⟩
    .exact ⟨yg t,qE t zy⟩
  .simp only [Xr,Xi,or_false] at F
   obtain rfl|rfl|rfl|rfl:=F
   .exact O _ _ ⟨d_,d_⟩
   .exact O _ _ ⟨d_,d_⟩
   .exact O _ _ ⟨d_,d_⟩
   .exact O _ _ ⟨d_,d_⟩
def sI (hx:x≠32): ∀ws:List (List UInt8),(∀w∈ws,∀c∈w,c≠x)-> ∀c∈join ws,c≠x
 |[],_,c,hc=>absurd hc Xi
 |[w],h,c,hc=>h w y_ c hc
 |w::y::ws,h,c,hc=>by
  have hc':c∈w++32::join (y::ws):=hc;obtain hc'|hc':=Xj.1 hc'
  .exact h w y_ c hc'
  .obtain rfl|hc':=p_ hc'
   .exact λe=>hx e.symm
   .exact sI hx (y::ws) (λv hv=>h v (by simp [hv])) c hc'
end Tp
end
section
open _root_.Go.Proofs.Tryz Go.RowKit
namespace Tx
open Tp
def str (l:List UInt8):ByteArray:=⟨l.toArray⟩
def ub (a b:List UInt8):str a++str b=str (a++b):=by
 apply ByteArray.ext;simp [str]
def fY (l:List UInt8):(str l).size=l.length:=rfl
def mn (l:List UInt8):(str l).data.toList=l:=rfl
def uv (c:UInt8):WY:= .int .u8 (c.toNat:Int)
def pF (l:List UInt8):l.map uv=(l.map XM).map Bs.bv:=by
 rw [List.map_map];rfl
def Ty (l:List UInt8):Bs.strOf (l.map XM)=str l:=by
 unfold Bs.strOf str;simp [Function.comp_def]
def nI {B:Nat} (h:Xz w B 1 A n (l.map uv)):(convert 65 9 (S_ A n c)).run Xd w= .ok (T_ (str l)) w:=by
 rw [<-Ty];exact Bs.nI (bs:=l.map XM) (by unfold Bs.Bs;rw [<-pF];exact h) underlying65 underlying5 underlying9
def fh {n:Int} (h: -9223372036854775808<=n) (h2:n<=9223372036854775807):IntKind.i64.wrap n=n:=by
 unfold IntKind.wrap;simp [IntKind.bits,IntKind.signed];omega
def i_ (l:List UInt8):(str l).toList=l:=Lib.toList_data _
def nJ: ∀(k n:Nat),n<10^(k+1)->(eP n).length<=k+1
 |0,n,h=>by
  unfold eP;rw [if_pos (by simpa using h)];exact Nat.le_refl _
 |k+1,n,h=>by
  unfold eP;split
  .simp
  .have:=nJ k (n/10) (by rw [Nat.div_lt_iff_lt_mul d_];rw [XT] at h;exact h)
   simp;omega
def fX (h:n<=9223372036854775807):(eP n).length<=19:=nJ 18 n o_
def qD (n:Nat):n<=9223372036854775807-> ∀w,WZ Xd 91 #[I_ J_ n] w λe w'=>e=R_ (T_ (str (eP n)))/\Bw w w':=by
 induction n using XJ with
 |_ n ih=>
  intro hn w;by_cases h:n<10
  .have V:decide ((n:Int)<10)=Z':=dT
   have G:eP n=[sn n]:=by unfold eP;rw [if_pos h]
   rw [G];have hv: ∀c,(convert 65 9 (S_ (Y' ⟨X_ (Y_ w),0,Z_⟩) 1 c)).run Xd (w.alloc (.cells #[uv (sn n)] 5))= .ok (T_ (str [sn n])) (w.alloc (.cells #[uv (sn n)] 5)):=
    λc=>nI (Mem.gV rfl rfl rfl)
   have hw:IntKind.i64.wrap (48+(n:Int))=48+(n:Int):=fh o_ o_;have hu:uv (sn n)= .int .u8 (48+(n:Int)):=by unfold uv;rw [nw h];rfl
   rw [hu] at hv;clear ih;have hB:Bw w (w.alloc (.cells #[.int .u8 (48+(n:Int))] 5)):=dL;go_enter func91,ntmps91;go_wp2;go_ret;exact ⟨rfl,hB⟩
  .have V:decide ((n:Int)<10)=WW:=dF
   have G:eP n=eP (n/10)++eP (n%10):=by
    rw [show eP (n%10)=[sn (n%10)] from by unfold eP;rw [if_pos (Nat.mod_lt _ d_)]]
    conv=>lhs;unfold eP
    rw [if_neg h]
   have hb:=Hd (ih (n/10) o_ o_);have aG:=Hd (ih (n%10) o_ o_);have q1:Int.tdiv (n:Int) 10=((n/10:Nat):Int):=by rw [Xp o_];rfl
   have q2:Int.tmod (n:Int) 10=((n%10:Nat):Int):=by rw [Xo o_];rfl
   have q3:IntKind.i64.wrap ((n/10:Nat):Int)=((n/10:Nat):Int):=fh o_ o_;have q4:IntKind.i64.wrap ((n%10:Nat):Int)=((n%10:Nat):Int):=fh o_ o_;have hl: ¬9223372036854775807<(str (eP (n/10))).size+(str (eP (n%10))).size:=by
    have hb:=fX (n:=n/10) o_;have aG:=fX (n:=n%10) o_;rw [fY,fY];omega
   rw [G];clear ih G h hn;generalize n/10=a at*;generalize n%10=b at*;go_enter func91,ntmps91;go_wp2_with fail;refine (hb _).mono ?_;rintro e w1 ⟨rfl,U⟩;go_wp2_with fail;refine (aG _).mono ?_;rintro e w2 ⟨rfl,an⟩;have X:=Hd (U.trans (an.mono U.size));go_wp2;go_ret;exact ⟨by rw [ub];rfl,X⟩
def mP:Array WY:= #[T_ (str (dH 0)),T_ (str (dH 1)),T_ (str (dH 2)),T_ (str (dH 3)),T_ (str (dH 4)),T_ (str (dH 5)),T_ (str (dH 6)),T_ (str (dH 7))]
def zB (w:WX):WZ Xd 89 #[] w λe w'=>e=R_ (S_ (Y' ⟨X_ (Y_ w),0,Z_⟩) 8 8)/\w'=w.alloc (.cells mP 9):=by
 go_enter func89,ntmps89;exact lH
def ud (h:Xf w g 9 mP) (F:i<8):w.cell? ⟨g,i,Z_⟩=Y' (T_ (str (dH i))):=by
 rw [h.cell i]
 match i,F with
 |0,_=>rfl
 |1,_=>rfl
 |2,_=>rfl
 |3,_=>rfl
 |4,_=>rfl
 |5,_=>rfl
 |6,_=>rfl
 |7,_=>rfl
def EH: ∀k,k<8->dH k≠[]:=d_
def Kk: ∀i,i<8-> ∀k,k<8->i≠k->dH i≠dH k:=d_
def zD (k:Nat) (I:k<=8) (w:WX):WZ Xd 90 #[T_ (str (dH k))] w λe w'=>e=R_ (I_ J_ (dM k))/\Bw w w':=by
 have hN:=Hd (zB w);obtain I|rfl:=XD I
 .have af:(str (dH k)).toList.isEmpty=WW:=by
   rw [i_];have:=EH k I;cases h:dH k with
   |nil=>exact absurd h this
   |cons=>rfl
  have Hk:=Hd I;clear I;go_enter func90,ntmps90;go_wp2_with fail;refine hN.o.mono ?_;rintro e w1 ⟨rfl,rfl⟩;have hB:Xb (Bw w (w.alloc (.cells mP 9))):=Hd (dL);have O:Xf (w.alloc (.cells mP 9)) w.heap.size 9 mP:=Xk;have G:=Hd (λi (hi:i<8)=>ud O hi);clear hN O;generalize w.alloc (.cells mP 9)=W1 at*;go_wp2
  go_loop [4] (λvi=> ∃i:Nat,vi=I_ J_ i/\i<=k) (λi=>8 - (intOf i).toNat)
  .exact ⟨0,rfl,o_⟩
  .obtain ⟨i,rfl,ae⟩:=hrel
   have I:=Hk.o;have hc:=G.o i o_;have d1:decide ((i:Int)<8)=Z':=dT;by_cases e:i=k
   .subst e
    clear G;have d2:((str (dH i)).toList==(str (dH i)).toList)=Z':=beq_self_eq_true _;have q1:Int.tdiv (i:Int) 2=((i/2:Nat):Int):=by rw [Xp o_];rfl
    have q2:Int.tmod (i:Int) 2=((i%2:Nat):Int):=by rw [Xo o_];rfl
    have q3:IntKind.i64.wrap ((i/2:Nat):Int)=((i/2:Nat):Int):=fh o_ o_;have q4:IntKind.i64.wrap ((i%2:Nat):Int)=((i%2:Nat):Int):=fh o_ o_;let ⟨p,hp⟩:=nm (i%2);let ⟨F,hh⟩:=nm (i/2);rw [<-hp] at q2 q4;rw [<-hh] at q1 q3;have HP:=Hd hp;have HH:=Hd hh;have hh3:F<=3:=o_;clear hp hh ae;go_wp2
    go_loop [5,6] (λvn vj=> ∃j m:Nat,vj=I_ J_ j/\vn=I_ J_ m/\F<=j/\j<=4/\Xb (m=(if p=0 then 1024 else 1000)^(j - F))) (λ_ j=>4 - (intOf j).toNat)
    .exact ⟨F,1,rfl,rfl,Nat.le_refl _,o_,by rw [Nat.sub_self];rfl⟩
    .obtain ⟨j,m,rfl,rfl,hj1,hj2,U⟩:=hrel
     by_cases hj:j<4
     .have d3:decide ((j:Int)<4)=Z':=dT
      have hw:IntKind.i64.wrap ((j:Int)+1)=(j:Int)+1:=fh o_ o_;have hm:m<=1073741824:=by
       rw [U.o];have h3:j - F<=3:=o_;refine Xu (Nat.pow_le_pow_right (by split<;>omega) h3) ?_;split<;>decide
      by_cases e:p=0
      .subst e
       have d4:(((0:Nat):Int)==0)=Z':=rfl;have hx:IntKind.i64.wrap ((m:Int)*1024)=(m:Int)*1024:=fh o_ o_;have V:Xb (m*1024=(if 0=0 then 1024 else 1000)^(j+1 - F)):=Hd (by rw [show j+1 - F=(j - F)+1 by omega,XT,<-U.o,if_pos rfl]);clear U;go_wp2
       go_round
       .exact ⟨j+1,m*1024,by go_num,by go_num,o_,o_,V⟩
       .simp [intOf];omega
      .have d4:((p:Int)==0)=WW:=beq_eq_false_iff_ne.2 o_
       have hx:IntKind.i64.wrap ((m:Int)*1000)=(m:Int)*1000:=fh o_ o_;have V:Xb (m*1000=(if p=0 then 1024 else 1000)^(j+1 - F)):=Hd (by rw [show j+1 - F=(j - F)+1 by omega,XT,<-U.o,if_neg e]);clear U;go_wp2
       go_round
       .exact ⟨j+1,m*1000,by go_num,by go_num,o_,o_,V⟩
       .simp [intOf];omega
     .obtain rfl:j=4:=o_
      have X:Xb (m=dM i):=by
       have h1:=U.o;have F:=HP.o;have h3:=HH.o;subst F;subst h3
       show _=_
       rw [h1]
       match i,I with
       |0,_=>rfl
       |1,_=>rfl
       |2,_=>rfl
       |3,_=>rfl
       |4,_=>rfl
       |5,_=>rfl
       |6,_=>rfl
       |7,_=>rfl
      rw [show ((4:Nat):Int)=(4:Int) from rfl];clear U;go_wp2;go_ret;exact ⟨by rw [<-X.o];rfl,hB.o⟩
   .have d2:((str (dH i)).toList==(str (dH k)).toList)=WW:=by
     rw [i_,i_];exact beq_eq_false_iff_ne.2 (Kk i o_ k I e)
    refine Tz ?_;intro hw
    go_round
    .exact ⟨i+1,by go_num,o_⟩
    .simp [intOf];omega
 .have af:(str (dH 8)).toList.isEmpty=Z':=by
   rw [i_];rfl
  clear hN;go_enter func90,ntmps90;go_wp2;go_ret;exact ⟨rfl,XI _ _⟩
def gh (h:n<=9223372036854775807):(dR n).length<=22:=by
 unfold dR;split
 .simp
 .have h1:=fX (n:=n/dM (ic n)) (Xu (Xy _ _) h)
  have F: ∀i,(dH i).length<=2:=λi=>by unfold dH;split<;>decide
  have:=F (ic n);simp;omega
def jL (n:Nat):Nat->Nat
 |0=>ic n
 |1=>if n%dM 1=0 then 1 else if n%dM 2=0 then 2 else if n%dM 3=0 then 3 else if n%dM 4=0 then 4 else if n%dM 5=0 then 5 else if n%dM 6=0 then 6 else if n%dM 7=0 then 7 else 8
 |2=>if n%dM 2=0 then 2 else if n%dM 3=0 then 3 else if n%dM 4=0 then 4 else if n%dM 5=0 then 5 else if n%dM 6=0 then 6 else if n%dM 7=0 then 7 else 8
 |3=>if n%dM 3=0 then 3 else if n%dM 4=0 then 4 else if n%dM 5=0 then 5 else if n%dM 6=0 then 6 else if n%dM 7=0 then 7 else 8
 |4=>if n%dM 4=0 then 4 else if n%dM 5=0 then 5 else if n%dM 6=0 then 6 else if n%dM 7=0 then 7 else 8
 |5=>if n%dM 5=0 then 5 else if n%dM 6=0 then 6 else if n%dM 7=0 then 7 else 8
 |6=>if n%dM 6=0 then 6 else if n%dM 7=0 then 7 else 8
 |7=>if n%dM 7=0 then 7 else 8
 |_=>8
def BY (n:Nat): ∀i,i<8->jL n i=if n%dM i=0 then i else jL n (i+1)
 |0,_=>rfl
 |1,_=>rfl
 |2,_=>rfl
 |3,_=>rfl
 |4,_=>rfl
 |5,_=>rfl
 |6,_=>rfl
 |7,_=>rfl
def zF: ∀i,dM i<=1099511627776:=λi=>by unfold dM;split<;>decide
def jK (n:Nat) (hn:n<=9223372036854775807) (w:WX):WZ Xd 55 #[I_ J_ n] w λe w'=>e=R_ (T_ (str (dR n)))/\Bw w w':=by
 obtain rfl|h0:=Nat.eq_zero_or_pos n
 .refine sH ?_
  go_enter func55,ntmps55;go_wp2;go_ret;exact ⟨rfl,XI _ _⟩
 .have d0:decide (n=0)=WW:=dF
  have hN:=Hd (zB w);have HN:=Hd hn;have H0:=Hd h0;clear hn h0;go_enter func55,ntmps55;go_wp2_with fail;refine hN.o.mono ?_;rintro e w1 ⟨rfl,rfl⟩;have hB:Bw w (w.alloc (.cells mP 9)):=dL;have U:=Hd (show Xf (w.alloc (.cells mP 9)) w.heap.size 9 mP from Xk);clear hN;generalize w.alloc (.cells mP 9)=W1 at*;go_wp2;go_loopw [3,5] (λvb vi wr=> ∃i:Nat,i<=8/\vi=I_ J_ ((i:Int) - 1)/\vb=T_ (str (dH (jL n i)))/\Xb (Bw W1 wr)) (λ_ i _=>(intOf i+1).toNat)
  .exact ⟨8,o_,rfl,rfl,Hd b_⟩
  .obtain ⟨i,hi,rfl,rfl,X⟩:=hrel
   by_cases h:i=0
   .subst h
    have d1:decide (((0:Nat):Int) - 1≥0)=WW:=d_;rw [show ((0:Nat):Int) - 1=(-1:Int) from rfl] at*;have ac:=Hd (λW=>zD (ic n) (zA n) W);have af:=Hd (λW=>qD (n/dM (ic n)) (Xu (Xy _ _) HN.o) W);have hQ:Xb (str (dR n)=str (eP (n/dM (ic n))++dH (ic n))):=Hd (by have:=H0.o;unfold dR;rw [if_neg o_]);have G:=nH (ic n);have O:=zF (ic n);have ap: ¬9223372036854775807<(str (eP (n/dM (ic n)))).size+(str (dH (ic n))).size:=by
     have h1:=fX (n:=n/dM (ic n)) (Xu (Xy _ _) HN.o);have F: ∀i,(dH i).length<=2:=λi=>by unfold dH;split<;>decide
     have h3:=F (ic n);rw [fY,fY];omega
    have ag:=Xy n (dM (ic n));rw [show jL n 0=ic n from rfl];have q1:Int.tdiv (n:Int) (dM (ic n))=((n/dM (ic n):Nat):Int):=by rw [Xp o_];rfl
    have hx:n/dM (ic n)<=9223372036854775807:=Xu ag HN.o;generalize n/dM (ic n)=x at*;generalize ic n=b at*;generalize dM b=u at*;have q3:IntKind.i64.wrap (x:Int)=(x:Int):=fh o_ o_;have z1:((u:Int)==0)=WW:=beq_eq_false_iff_ne.2 o_;have z2: ¬(u:Int)=0:=o_;have z3: ¬(u:Int)= -1:=o_;clear hx ag G O;go_wp2_with fail;refine (ac.o _).mono ?_;rintro e w2 ⟨rfl,aa⟩;go_wp2_with fail;refine (af.o _).mono ?_;rintro e w3 ⟨rfl,ab⟩;have HB:=Hd (hB.trans ((X.o.trans (aa.trans (ab.mono aa.size)|>.mono X.o.size)).mono hB.size));clear hB X aa ab;go_wp2;go_ret;exact ⟨by rw [hQ.o,<-ub];rfl,HB.o⟩
   .obtain ⟨j,rfl⟩: ∃j,i=j+1:=⟨i - 1,o_⟩
    have d1:decide ((((j+1:Nat):Int)) - 1≥0)=Z':=dT;have ej:((j+1:Nat):Int) - 1=(j:Int):=o_;rw [ej];rw [ej] at d1;have hc:C wr w.heap.size j (T_ (str (dH j))):=ud (U.o.a_ X.o) o_;have ac:=Hd (λW=>zD j o_ W);have hw:IntKind.i64.wrap ((j:Int) - 1)=(j:Int) - 1:=fh o_ o_;have G:=nH j;have O:=zF j;have I:=Hd (BY n j o_);have q1:Int.tmod (n:Int) (dM j)=((n%dM j:Nat):Int):=by rw [Xo o_];rfl
    have hx:n%dM j<1099511627776:=Nat.lt_of_lt_of_le (Nat.mod_lt _ G) O;let ⟨x,ae⟩:=nm (n%dM j);rw [<-ae] at q1 hx;have HX:=Hd ae;clear ae;generalize dM j=u at*;have q3:IntKind.i64.wrap (x:Int)=(x:Int):=fh o_ o_;have z2: ¬(u:Int)=0:=o_;have z3: ¬(u:Int)= -1:=o_;clear G O;go_wp2_with fail;refine (ac.o _).mono ?_;rintro e w2 ⟨rfl,aa⟩;have V:=Hd (X.o.trans (aa.mono X.o.size));have hc2:C w2 w.heap.size j (T_ (str (dH j))):=ud (U.o.a_ V.o) o_;clear ac X aa hc;by_cases e:x=0
    .subst e
     have hb:Xb (dH j=dH (jL n j)):=Hd (by rw [I.o,if_pos HX.o.symm]);rw [show ((0:Nat):Int)=(0:Int) from rfl] at*;clear I HX;go_wp2;go_roundw
     .exact ⟨j,o_,rfl,by rw [hb.o],V⟩
     .simp [intOf]
    .have d2:((x:Int)==0)=WW:=beq_eq_false_iff_ne.2 o_
     have hb:Xb (dH (jL n (j+1))=dH (jL n j)):=Hd (by rw [I.o,if_neg (λh=>e (by rw [HX.o];exact h))]);clear I HX e;go_wp2;go_roundw
     .exact ⟨j,o_,rfl,by rw [hb.o],V⟩
     .simp [intOf]
end Tx
end
section
open Go.RowKit
namespace eU
def lay (cs:Array WY):Nat->List WY->Array WY
 |_,[]=>cs
 |o,v::r=>lay (cs.setIfInBounds o v) (o+1) r
section
variable {P:Program} {w:WX} {g:Nat} {T:TypeId} {cs:Array WY}
def gv: ∀(vs:List WY) (o:Nat) (w:WX) (cs:Array WY),Xf w g T cs->Xf (w.setCells g o vs) g T (lay cs o vs)
 |[],_,_,_,h=>h
 |v::r,o,_,_,h=>gv r (o+1) _ _ (h.eC o v)
def eI: ∀(vs:List WY) (o:Nat) (w:WX),Ye (λb=>b=g) w (w.setCells g o vs)
 |[],_,w=>Ro.dt.refl _ w
 |v::r,o,w=>(Xq w ⟨g,o,Z_⟩ v).trans (eI r (o+1) _) (λ_ _ h=>h)
def gP {o:Nat} (h:Xf w g T cs) (hn:o+n<=cs.size):World.there w g o n:=λj hj=>
 ⟨by rw [h.cell,Array.getElem?_eq_getElem o_];rfl,h.frozen _⟩
def fA (h:Xf w g2 T2 cs2) (ho:Ye (λb=>b=g) w w') (hg:g2≠g):Xf w' g2 T2 cs2:=(ho.block g2 h.lt hg).trans h
def store {op:Oper} {Q:Exit->Go.Act->WX->Prop} (hgd:op.guard=Z_) (ty:TypeId) (x y:Operand) (ho:op.op= .store ty x y)
  (g o:Nat) (vs:Array WY) (hx:a.eval x=P_ (Y' ⟨g,o,Z_⟩)) (hy:a.eval y=A_ vs) (hB:Xf w g T cs) (hsz:o+vs.size<=cs.size)
  (hi:(P.info? ty).map (·.size)=Y' vs.size) (h1:vs.all (·.oneCell')=Z')
  (h: ∀w2,Xf w2 g T (lay cs o vs.toList)->Ye (λb=>b=g) w w2->wpList P ops Q rest (a.put op.dst undef) w2):wpList P ops Q (op::rest) a w:=
 wpList_store_mid hgd ty x y ho g o vs hx hy (gP hB hsz) hi h1 (h _ (gv _ _ _ _ hB) (eI _ _ _))
def pd {o:Obj} (h:Ye (λb=>b=X_ (Y_ X)) (X.alloc o) w2):Bw X w2/\X_ (Y_ X)<X_ (Y_ w2):=by
 have G:=h.below (B:=X_ (Y_ X)) y_ (λk hk e=>o_);have F:=h.size;refine ⟨((XI X.heap.size X).alloc l_ o).trans G,?_⟩;simp at F;omega
def ie {op:Oper} {Q:Exit->Go.Act->WX->Prop} (hgd:op.guard=Z_) (ty:TypeId) (x y:Operand) (ho:op.op= .store ty x y)
  (vs:Array WY) (hx:a.eval x=P_ (Y' ⟨X_ (Y_ X),0,Z_⟩)) (hy:a.eval y=A_ vs) (hsz:cs.size=vs.size)
  (hi:(P.info? ty).map (·.size)=Y' vs.size) (h1:vs.all (·.oneCell')=Z')
  (h: ∀w2,Xf w2 X.heap.size T (lay cs 0 vs.toList)->Bw X w2->X_ (Y_ X)<X_ (Y_ w2)->wpList P ops Q rest (a.put op.dst undef) w2):wpList P ops Q (op::rest) a (X.alloc (.cells cs T)):=
 store hgd ty x y ho X.heap.size 0 vs hx hy Xk o_ hi h1 λw2 hb ho=>h w2 hb (pd ho).1 (pd ho).2
end
end eU
end
section
open _root_.Go.Proofs.Tryz Go.RowKit
structure dA where
 sig:Int
 jx:Int
 mN:Int
 soft:Bool
 jm:Int
namespace dA
def ia (n:Int):Prop:= -9223372036854775808<=n/\n<=9223372036854775807
def arr (p:dA):Array WY:= #[I_ J_ p.sig,I_ J_ p.jx,I_ J_ p.mN,B_ p.soft,I_ J_ p.jm]
def cells (p:dA):List WY:=[I_ J_ p.sig,I_ J_ p.jx,I_ J_ p.mN,B_ p.soft,I_ J_ p.jm]
structure ok (p:dA):Prop where
 sig:ia p.sig
 jx:ia p.jx
 mN:ia p.mN
 jm:ia p.jm
section
variable {W:WX}
def kY (h:Xg Xd W 92 cs): ∃p:dA,cs=p.cells/\p.ok:=by
 let ⟨hl,F⟩:=h.struct underlying92;have cN:(Xd).cellsOf 92=5:=k_;have G:(Xd).cellsOf 4=1:=k_;have al:(Xd).cellsOf 3=1:=k_;rw [cN] at hl
 match cs,hl with
 |[a0,a1,a2,a3,a4],_=>
  have f0:Xg Xd W 3 [a0]:=by simpa [al] using F 0 _ rfl
  let ⟨x0,e0,b0⟩:=f0.int underlying3;have f1:Xg Xd W 3 [a1]:=by simpa [al] using F 1 _ rfl
  let ⟨x1,U,b1⟩:=f1.int underlying3;have f2:Xg Xd W 3 [a2]:=by simpa [al] using F 2 _ rfl
  let ⟨x2,e2,b2⟩:=f2.int underlying3;have f3:Xg Xd W 4 [a3]:=by simpa [G] using F 3 _ rfl
  let ⟨x3,X⟩:=f3.bool underlying4;have f4:Xg Xd W 3 [a4]:=by simpa [al] using F 4 _ rfl
  let ⟨x4,V,b4⟩:=f4.int underlying3;simp only [XP,XB,XA,XO,XK,and_true,XS,XN] at e0 U e2 X V;subst e0 U e2 X V;exact ⟨⟨x0,x1,x2,x3,x4⟩,rfl,⟨Xh b0,Xh b1,Xh b2,Xh b4⟩⟩
def flat (ps:List dA):List WY:=(ps.map cells).flatten
def iM (h:Xg Xd W 23 cs):
  ∃(A:Option Xa) (n c:Nat) (ps:List dA),cs=[S_ A n c]/\n<=c/\c<=maxLen/\ps.length=n/\(∀p∈ps,p.ok)/\Xz W W.heap.size 5 A n (flat ps):=
 Gv.sd (λ_=>kY) h k_ k_ o_
end
structure At (w:WX) (ad:Xa) (p:dA):Prop where
 c0:w.cell? ad=Y' (I_ J_ p.sig)
 c1:Ca w ad 1 p.jx
 c2:Ca w ad 2 p.mN
 c3:Ca w ad 3 p.soft
 c4:Ca w ad 4 p.jm
def at_ {B:Nat} {ps:List dA} (h:Xz w B 5 A n (flat ps)) (hk:k<n):
  ∃(ad:Xa) (hl:k<ps.length),A=Y' ad/\ad.block<B/\(ad.add (k*5)).block<B/\At w (ad.add (k*5)) ps[k]:=
 let ⟨ad,hl,a,b,c,d,e⟩:=Gv.at_ cells h hk;⟨ad,hl,a,b,c,⟨d,e 1,e 2,e 3,e 4⟩⟩
structure me (w:WX) (g:Nat) (p:dA):Prop where
 c0:w.cell? ⟨g,0,Z_⟩=Y' (I_ J_ p.sig)
 c1:w.cell? ⟨g,1,Z_⟩=Y' (I_ J_ p.jx)
 c2:w.cell? ⟨g,2,Z_⟩=Y' (I_ J_ p.mN)
 c3:w.cell? ⟨g,3,Z_⟩=Y' (B_ p.soft)
 c4:w.cell? ⟨g,4,Z_⟩=Y' (I_ J_ p.jm)
def yc {p:dA} (h:Xf w g t p.arr):me w g p:=
 ⟨h.cell 0,h.cell 1,h.cell 2,h.cell 3,h.cell 4⟩
def me.below {p:dA} (h:me w g p) (hb:Bw w w') (hg:g<X_ (Y_ w)):me w' g p:=
 ⟨(hb.cell (p:=⟨g,0,Z_⟩) hg).trans h.c0,(hb.cell (p:=⟨g,1,Z_⟩) hg).trans h.c1,(hb.cell (p:=⟨g,2,Z_⟩) hg).trans h.c2,(hb.cell (p:=⟨g,3,Z_⟩) hg).trans h.c3,(hb.cell (p:=⟨g,4,Z_⟩) hg).trans h.c4⟩
def me.drew {p:dA} (h:me w g p):me w.drew g p:=⟨h.c0,h.c1,h.c2,h.c3,h.c4⟩
end dA
end
section
namespace jW
open Sat (num num_nonneg gY jP)
def lK (p q:Int):Int:=if p<q then -1 else if q<p then 1 else 0
def compare (a b c d:Int):Int:=lK (num a*num b) (num c*num d)
def wrap_u64 (z:Int):IntKind.u64.wrap z=z%18446744073709551616:=by
 exact Ff
def qo (x:Int) (F:0<=x) (h1:x<18446744073709551616):bits .and .u64 x 4294967295=x%4294967296:=by
 obtain ⟨n,rfl⟩:=Xt F
 show IntKind.u64.wrap ((Xn 64 (n:Int)&&&Xn 64 4294967295).toNat:Int)=_
 have e:(Xn 64 (n:Int)&&&Xn 64 4294967295).toNat=n%4294967296:=by
  rw [BitVec.toNat_and,Xs,Xs];have G:((n:Int)%(((2^64:Nat)):Int)).toNat=n:=by
   have:(((2^64:Nat)):Int)=18446744073709551616:=d_;rw [this];omega
  have I:((4294967295:Int)%(((2^64:Nat)):Int)).toNat=2^32 - 1:=d_;rw [G,I,Nat.and_two_pow_sub_one_eq_mod]
 rw [e,wrap_u64];omega
def GG (a b:Int) (I:0<=a) (ha1:a<128) (O:0<=b) (hb1:b<144115188075855872):bits .or .u64 (a*144115188075855872) b=a*144115188075855872+b:=by
 obtain ⟨n,rfl⟩:=Xt I;obtain ⟨m,rfl⟩:=Xt O
 show IntKind.u64.wrap ((Xn 64 ((n:Int)*144115188075855872)|||Xn 64 (m:Int)).toNat:Int)=_
 have e:(Xn 64 ((n:Int)*144115188075855872)|||Xn 64 (m:Int)).toNat=n*144115188075855872+m:=by
  rw [BitVec.toNat_or,Xs,Xs];have q:(((2^64:Nat)):Int)=18446744073709551616:=d_;have G:((n:Int)*144115188075855872%(((2^64:Nat)):Int)).toNat=2^57*n:=by rw [q];omega
  have F:((m:Int)%(((2^64:Nat)):Int)).toNat=m:=by rw [q];omega
  rw [G,F,<-Nat.two_pow_add_eq_or_of_lt o_];omega
 rw [e,wrap_u64];omega
def lQ {a n:Int} (ha:0<=a) (ham:a<=m) (hb:0<=b) (hbn:b<=n):0<=a*b/\a*b<=m*n:=
 ⟨XQ ha hb,Int.mul_le_mul ham hbn hb o_⟩
def CJ (x y:Int) (V:0<=x) (ag:x<18446744073709551616) (aa:0<=y) (af:y<18446744073709551616):
  ∃X0 X Y0 U W0 V1 I Tt W1 W2 V2 O V3 S1 F:Int,
   bits .and .u64 x 4294967295=X0/\x/(4294967296:Int)=X/\bits .and .u64 y 4294967295=Y0/\y/(4294967296:Int)=U/\
   IntKind.u64.wrap (X0*Y0)=W0/\IntKind.u64.wrap (X*Y0)=V1/\W0/(4294967296:Int)=I/\IntKind.u64.wrap (V1+I)=Tt/\
   bits .and .u64 Tt 4294967295=W1/\Tt/(4294967296:Int)=W2/\IntKind.u64.wrap (X0*U)=V2/\IntKind.u64.wrap (W1+V2)=O/\
   IntKind.u64.wrap (X*U)=V3/\IntKind.u64.wrap (V3+W2)=S1/\O/(4294967296:Int)=F/\
   IntKind.u64.wrap (S1+F)=x*y/18446744073709551616/\IntKind.u64.wrap (x*y)=x*y%18446744073709551616:=by
 refine ⟨_,_,_,_,_,_,_,_,_,_,_,_,_,_,_,rfl,rfl,rfl,rfl,rfl,rfl,rfl,rfl,rfl,rfl,rfl,rfl,rfl,rfl,rfl,?_,wrap_u64 _⟩;rw [qo x V ag,qo y aa af];have ex:x=x/4294967296*4294967296+x%4294967296:=o_;have ey:y=y/4294967296*4294967296+y%4294967296:=o_;obtain ⟨a0,a1⟩:0<=x/4294967296/\x/4294967296<=4294967295:=o_;obtain ⟨b0,b1⟩:0<=x%4294967296/\x%4294967296<=4294967295:=o_;obtain ⟨c0,c1⟩:0<=y/4294967296/\y/4294967296<=4294967295:=o_;obtain ⟨d0,d1⟩:0<=y%4294967296/\y%4294967296<=4294967295:=o_;generalize x/4294967296=p at*;generalize x%4294967296=q at*;generalize y/4294967296=r at*;generalize y%4294967296=s at*;have G:x*y=p*r*18446744073709551616+(p*s+q*r)*4294967296+q*s:=by
  rw [ex,ey];simp only [Int.mul_add,Int.add_mul];have h1:p*4294967296*(r*4294967296)=p*r*18446744073709551616:=by
   have e:(18446744073709551616:Int)=4294967296*4294967296:=d_;rw [e];ac_rfl
  have h2:p*4294967296*s=p*s*4294967296:=by ac_rfl
  have h3:q*(r*4294967296)=q*r*4294967296:=by ac_rfl
  rw [h1,h2,h3];omega
 have m1:=lQ b0 b1 d0 d1;have m2:=lQ a0 a1 d0 d1;have m3:=lQ b0 b1 c0 c1;have m4:=lQ a0 a1 c0 c1;rw [G];generalize q*s=qs at*;generalize p*s=ps at*;generalize q*r=qr at*;generalize p*r=pr at*;clear G ex ey;simp only [wrap_u64];rw [qo _ o_ o_];omega
def lex {p:Int} (hp:0<=p) (hq:0<=q):
  lK p q=if lK (p/18446744073709551616) (q/18446744073709551616)≠0 then lK (p/18446744073709551616) (q/18446744073709551616) else lK (p%18446744073709551616) (q%18446744073709551616):=by
 unfold lK;(repeat' split)<;>omega
def share (whole percent:Int):Int:=(num whole*num (if percent<=100 then percent else 100)+99)/100
def CL (h l:Int) (h0:0<h) (h1:h<100) (l0:0<=l) (l1:l<18446744073709551616):
  ∃A B U D E F Q R I O N1:Int,IntKind.u64.wrap (h*144115188075855872)=A/\l/(128:Int)=B/\bits .or .u64 A B=U/\IntKind.u64.wrap (l*144115188075855872)=D/\
   D/(4294967296:Int)=E/\bits .and .u64 D 4294967295=F/\U/(3355443200:Int)=Q/\U - Q*3355443200=R/\
   IntKind.u64.wrap (IntKind.u64.wrap (IntKind.u64.wrap (U*4294967296)+E) - IntKind.u64.wrap (Q*14411518807585587200))=I/\
   I/(3355443200:Int)=O/\I - O*3355443200=N1/\0<=Q/\Q<4294967296/\0<=O/\O<4294967296/\
   0<=U/\U<14411518807585587200/\0<=R/\R<3355443200/\0<=E/\E<4294967296/\0<=F/\F<4294967296/\0<=I/\I<14411518807585587200/\0<=N1/\N1<3355443200/\
   Q*4294967296+O=(h*18446744073709551616+l)/100/\
   IntKind.u64.wrap (IntKind.u64.wrap (IntKind.u64.wrap (I*4294967296)+F) - IntKind.u64.wrap (O*14411518807585587200))/(144115188075855872:Int)=(h*18446744073709551616+l)%100:=by
 refine ⟨_,_,_,_,_,_,_,_,_,_,_,rfl,rfl,rfl,rfl,rfl,rfl,rfl,rfl,rfl,rfl,rfl,?_⟩;have e1:IntKind.u64.wrap (h*144115188075855872)=h*144115188075855872:=by rw [wrap_u64];omega
 rw [e1,GG h (l/128) o_ o_ o_ o_];simp only [wrap_u64];rw [qo _ o_ o_];let ⟨U,hU⟩:=nm (h*144115188075855872+l/128);let ⟨D,hD⟩:=nm (l*144115188075855872%18446744073709551616);rw [<-hU,<-hD];have hUl:0<=U/\U<14411518807585587200:=o_;have hDl:0<=D/\D<18446744073709551616:=o_;have hN:(h*18446744073709551616+l)*144115188075855872=U*18446744073709551616+D:=o_;let ⟨Q,hQ⟩:=nm (U/3355443200);rw [<-hQ];have hG:(((U*4294967296%18446744073709551616+D/4294967296)%18446744073709551616 - Q*14411518807585587200%18446744073709551616)%18446744073709551616)=(U - Q*3355443200)*4294967296+D/4294967296:=o_;rw [hG];let ⟨G,X⟩:=nm ((U - Q*3355443200)*4294967296+D/4294967296);rw [<-X];have hGl:0<=G/\G<14411518807585587200:=o_;let ⟨M,hM⟩:=nm (G/3355443200);rw [<-hM];have hR:(((G*4294967296%18446744073709551616+D%4294967296)%18446744073709551616 - M*14411518807585587200%18446744073709551616)%18446744073709551616)=(G - M*3355443200)*4294967296+D%4294967296:=o_;rw [hR];let ⟨Nn,V⟩:=nm (h*18446744073709551616+l);rw [<-V] at hN |-;clear V hU hD hG hR;have ae:Nn*144115188075855872=(Q*4294967296+M)*14411518807585587200+((G - M*3355443200)*4294967296+D%4294967296):=o_;refine ⟨o_,o_,o_,o_,o_,o_,o_,o_,o_,o_,o_,o_,o_,o_,o_,o_,o_,o_⟩
end jW
end
section
namespace jW
open Sat (num num_nonneg gY jP)
def below (part whole percent:Int):Bool:=decide (compare part 100 whole percent<0)
end jW
end
section
open _root_.Go.Proofs.Tryz Go.RowKit
namespace jW
open Sat (num num_nonneg gY jP)
def iz {k:IntKind} {a:Int} (h:a=b):Ending.returned (.int k a)=R_ (.int k b):=by rw [h]
def pq (a:Int) (w:WX) (ha:a<=9223372036854775807):WZ Xd 284 #[a] w λe w'=>e=R_ (.int .u64 (num a))/\w=w':=by
 by_cases h:a<0
 all_goals
  go_enter func284,ntmps284;go_wp2;exact IF
def WT (u v:Int) (w:WX) (e:Ending) (w':WX):Prop:=e=R_ (U_ #[.int .u64 u,.int .u64 v])/\w=w'
def Bn (x y:Int) (w:WX) (U:0<=x) (O:x<18446744073709551616) (G:0<=y) (V:y<18446744073709551616):
  WZ Xd 283 #[.int .u64 x,.int .u64 y] w (WT (x*y/18446744073709551616) (x*y%18446744073709551616) w):=by
 let ⟨X0,X1,Y0,Y1,W0,V1,W0h,Tt,W1,W2,V2,W1b,V3,S1,W1h,f1,f2,f3,f4,f5,f6,f7,f8,f9,f10,f11,f12,f13,f14,f15,aa,X⟩:=CJ x y U O G V;let ⟨HI,I⟩:=nm (x*y/18446744073709551616);let ⟨LO,F⟩:=nm (x*y%18446744073709551616);rw [<-I] at aa |-;rw [<-F] at X |-;clear I F U O G V;go_enter func283,ntmps283;go_wp2
 go_ret2
 exact ⟨rfl,rfl⟩
def Js (x y H L:Int) (w:WX) (O:0<=x) (I:x<18446744073709551616) (F:0<=y) (G:y<18446744073709551616) (V:Xb (x*y/18446744073709551616=H)) (U:Xb (x*y%18446744073709551616=L)):
  WZ Xd 283 #[.int .u64 x,.int .u64 y] w (λe w'=>e=R_ (U_ #[.int .u64 H,.int .u64 L])/\w=w'):=by
 refine (Bn x y w O I F G).mono λe w' h=>?_
 rw [V.o,U.o] at h;exact h
def Vs (x:Int) (w:WX):WZ Xd 378 #[.int .u64 x] w λe w'=>e=R_ (B_ WW)/\w=w':=by
 go_enter func378,ntmps378;go_wp2;go_ret;exact ⟨rfl,rfl⟩
def Jt {p:Prop} (h:p:=by
 go_enter func338,ntmps338;go_wp2_with (go_at_call 378;refine (Vs _ _).mono ?_;rintro e w' ⟨rfl,rfl⟩)
 go_ret;exact ⟨iz e.symm,rfl⟩):p:=h
def Vt (x y:Int) (w:WX):WZ Xd 338 #[.int .u64 x,.int .u64 y] w λe w'=>e=R_ (I_ J_ (lK x y))/\w=w':=by
 obtain h|h|h:=Int.lt_trichotomy x y
 .have e:Xb (lK x y= -1):=by show _=_;unfold lK;rw [if_pos h]
  exact Jt
 .subst h
  have e:Xb (lK x x=0):=by show _=_;unfold lK;rw [if_neg o_,if_neg o_]
  have F: ¬x<x:=o_;exact Jt
 .have e:Xb (lK x y=1):=by show _=_;unfold lK;rw [if_neg o_,if_pos h]
  have F: ¬x<y:=o_;exact Jt
def Gx (A:Option Xa) (n c B:Nat) (zs:List Int) (w:WX) (h:Mem.Ints w B .i64 A n zs) (hn:n<=9223372036854775807):
  WZ Xd 214 #[S_ A n c] w λe w'=>e=R_ (I_ J_ ((zs.find? (· !=0)).getD 0))/\w=w':=by
 have G:=Hd h.len;go_enter func214,ntmps214;go_wp2
 go_loop [8] (λvi=> ∃k:Nat,k<=n/\vi=I_ J_ k/\Xb ((zs.take k).find? (· !=0)=Z_)) (λi=>n - (intOf i).toNat)
 .exact ⟨0,Nat.zero_le _,rfl,rfl⟩
 .obtain ⟨k,hk,rfl,bc⟩:=hrel
  by_cases aa:k<n
  .obtain ⟨ad,z,X,rfl,_,O,hc⟩:=h.at_ aa
   have V:Xb ((zs.take (k+1)).find? (· !=0)=if z !=0 then Y' z else Z_):=by
    show _=_
    rw [Mem.dQ _ _ X,List.find?_append,bc.o,O];cases F:(z !=0)<;>simp [F]
   have HA:Xb (zs.find? (· !=0)=((zs.take (k+1)).find? (· !=0)).or ((zs.drop (k+1)).find? (· !=0))):=by
    show _=_
    rw [<-List.find?_append,XL]
   clear O;by_cases F:z=0
   .subst F
    go_wp2
    go_round
    .exact ⟨k+1,o_,by go_num,by show _=_;rw [V.o];rfl⟩
    .simp [intOf];omega
   .have hb:(z !=0)=Z':=by simp [F]
    clear F;go_wp2;go_ret;exact ⟨iz (by rw [HA.o,V.o,hb];rfl),rfl⟩
  .obtain rfl:k=n:=o_
   have e:Xb (zs.find? (· !=0)=Z_):=by
    have:=bc.o;rw [t_ (by have:=G.o;omega)] at this;exact this
   go_wp2;go_ret;exact ⟨iz (by rw [e.o];rfl),rfl⟩
def Sz (u v:Int):(([u,v].find? (· !=0)).getD 0)=if u≠0 then u else v:=by
 by_cases F:u=0
 .subst F
  by_cases G:v=0
  .subst G;rfl
  .have:(v !=0)=Z':=by simp [G]
   simp [List.find?,this]
 .have:(u !=0)=Z':=by simp [F]
  simp [List.find?,this,F]
def NI (a b c d:Int) (W:WX) (e:Ending) (w':WX):Prop:=e=R_ (I_ J_ (compare a b c d))/\Bw W w'
def gD (a b c d:Int) (w:WX) (ha:a<=9223372036854775807) (hb:b<=9223372036854775807) (hc:c<=9223372036854775807) (hd:d<=9223372036854775807):
  WZ Xd 278 #[a,b,c,d] w (NI a b c d w):=by
 have a0:=num_nonneg a;have a1:=gY a ha;have b0:=num_nonneg b;have b1:=gY b hb;have c0:=num_nonneg c;have c1:=gY c hc;have d0:=num_nonneg d;have d1:=gY d hd;have F:=lex (XQ a0 b0) (XQ c0 d0);obtain ⟨H,V⟩: ∃H,num a*num b/18446744073709551616=H:=⟨_,rfl⟩;obtain ⟨L,U⟩: ∃H,num a*num b%18446744073709551616=H:=⟨_,rfl⟩;obtain ⟨X,I⟩: ∃H,num c*num d/18446744073709551616=H:=⟨_,rfl⟩;obtain ⟨L2,G⟩: ∃H,num c*num d%18446744073709551616=H:=⟨_,rfl⟩;rw [V,U,I,G] at F;have O:Xb (compare a b c d=if lK H X≠0 then lK H X else lK L L2):=F;have V:=Hd V;have U:=Hd U;have I:=Hd I;have G:=Hd G;clear F;go_enter func278,ntmps278;go_wp2_with (go_at_call 284;refine (pq _ _ o_).mono ?_;rintro e w' ⟨rfl,rfl⟩)
 refine (Js _ _ H L _ a0 o_ b0 o_ V U).mono ?_;rintro e w' ⟨rfl,rfl⟩;go_wp2_with (go_at_call 284;refine (pq _ _ o_).mono ?_;rintro e w' ⟨rfl,rfl⟩)
 refine (Js _ _ X L2 _ c0 o_ d0 o_ I G).mono ?_;rintro e w' ⟨rfl,rfl⟩;clear a0 a1 b0 b1 c0 c1 d0 d1 V U I G;go_wp2_with (go_at_call 338;refine (Vt _ _ _).mono ?_;rintro e w' ⟨rfl,rfl⟩)
 refine (Gx _ 2 2 (X_ (Y_ w)+1) [lK H X,lK L L2] _ ?lit d_).mono ?_
 .exact Mem.gV (n:=2) rfl rfl rfl
 rw [Sz,<-O.o];rintro e w' ⟨rfl,rfl⟩;go_wp2;go_ret;exact ⟨rfl,dL⟩
def MP (a b c:Int) (w:WX) (G:a<=9223372036854775807) (F:b<=9223372036854775807) (hc:c<=9223372036854775807):
  WZ Xd 222 #[a,b,c] w λe w'=>e=R_ (B_ (below a b c))/\Bw w w':=by
 go_enter func222,ntmps222;go_wp2_with fail;refine (gD a 100 b c w G d_ F hc).mono ?_;rintro e w' ⟨rfl,F⟩;go_wp2;go_ret;exact ⟨rfl,F⟩
end jW
end
section
open _root_.Go.Proofs.Tryz Go.RowKit
namespace jW
open Sat (num num_nonneg gY jP)
def Vu (w:WX):WZ Xd 274 #[.int .u64 100] w λe w'=>e=R_ (I_ J_ 7)/\w=w':=by
 go_enter func274,ntmps274;go_wp2;go_ret;exact ⟨iz (by decide+kernel),rfl⟩
def Wn (w:WX):WZ Xd 347 #[.int .u64 100] w λe w'=>e=R_ (I_ J_ 57)/\w=w':=by
 go_enter func347,ntmps347;go_wp2_with fail;refine (Vu _).mono ?_;rintro e w' ⟨rfl,rfl⟩;go_wp2;go_ret;exact ⟨rfl,rfl⟩
def Vv (h l:Int) (w:WX) (h0:0<=h) (h1:h<100) (l0:0<=l) (l1:l<18446744073709551616):
  WZ Xd 285 #[.int .u64 h,.int .u64 l,.int .u64 100] w λe w'=>e=R_ (U_ #[.int .u64 ((h*18446744073709551616+l)/100),.int .u64 ((h*18446744073709551616+l)%100)])/\Bw w w':=by
 by_cases hz:h=0
 .subst hz
  have e1:Xb ((0*18446744073709551616+l)/100=l/100):=by show _=_;omega
  have e2:Xb ((0*18446744073709551616+l)%100=l%100):=by show _=_;omega
  rw [e1.o,e2.o];go_enter func285,ntmps285;go_wp2
  go_quiet (fail)
  go_wp2
  go_ret2
  exact ⟨rfl,Mem.below_drewN b_ _⟩
 .let ⟨A,B,U,D,E,F,Q,R,G2,M1,N1,f1,f2,f3,f4,f5,f6,f7,f8,f9,aa,V,q0,q1,m0,m1,u0,u1,r0,r1,e0,e1,g0,g1,k0,k1,n0,n1,X,I⟩:=CL h l o_ h1 l0 l1
  have hz':(h==0)=WW:=by simp [hz]
  have hle: ¬100<=h:=o_;have hb:bits .and .u64 14411518807585587200 4294967295=0:=d_;generalize (h*18446744073709551616+l)/100=HQ at*;generalize (h*18446744073709551616+l)%100=HR at*;have ah:=Hd X;have ae:=Hd I;have F9:=Hd f9;have F7:=Hd f7;have O:=Hd aa;have F8:=Hd f8;have af:=Hd V;clear f9 aa V X I;go_enter func285,ntmps285;go_wp2_with (go_at_call 347;refine (Wn _).mono ?_;rintro e w' ⟨rfl,rfl⟩)
  go_loop [15,16] (λag G=>ag= .int .u64 Q/\G= .int .u64 R) (λ_ _=>0)
  .exact ⟨by rw [F7.o],by first|rfl|rw [F8.o]⟩
  .obtain ⟨rfl,rfl⟩:=hrel
   clear f7 f8;have f9:=F9.o;go_wp2
   go_loop [16,18] (λG ac=>G= .int .u64 N1/\ac= .int .u64 M1) (λ_ _=>0)
   .exact ⟨by first|rfl|rw [O.o,af.o],by rw [O.o]⟩
   .obtain ⟨rfl,rfl⟩:=hrel
    clear f9;have I:=ae.o;go_wp2
    go_ret2
    exact ⟨by rw [<-ah.o];rfl,XI _ _⟩
def xg (whole F:Int) (I:whole<=9223372036854775807):0<=share whole F/\share whole F<=num whole/\share whole F<=9223372036854775807:=by
 have G:=num_nonneg whole;have h1:=gY whole I;have p0:=num_nonneg (if F<=100 then F else 100);have p1:num (if F<=100 then F else 100)<=100:=by unfold num;split<;>split<;>omega
 unfold share;generalize num (if F<=100 then F else 100)=p at*;generalize num whole=q at*;have hm:=lQ G (Int.le_refl q) p0 p1;generalize q*p=m at*;omega
def NJ {p:Prop} (h:p:=by
 clear G4 G5 hs0 hs1 hs2 q0 q1;go_enter Tryz.func229,Tryz.ntmps229;go_wp2_with (go_at_call 284;refine (pq _ _ (by omega)).mono ?_;rintro e w' ⟨rfl,rfl⟩)
 refine (Js _ _ H L _ a0 (by omega) b0 (by omega) HH HL).mono ?_;rintro e w' ⟨rfl,rfl⟩;go_wp2_with fail;refine Hd.mono ?_;rintro e w' ⟨rfl,hb1⟩;go_wp2;go_ret;exact ⟨iz hfin.symm,hb1⟩):p:=h
def MQ (a b:Int) (w:WX) (F:a<=9223372036854775807) (G:b<=9223372036854775807):
  WZ Tryz.prog 229 #[I_ J_ a,I_ J_ b] w λe w'=>e=R_ (I_ J_ (share a b))/\Xc w.heap.size w w':=by
 have a0:=num_nonneg a;have a1:=gY a F;obtain ⟨m,hm⟩: ∃m,m=(if b<=100 then b else 100):=⟨_,rfl⟩;have b0:=num_nonneg m;have b1:num m<=100:=by rw [hm];unfold num;split<;>split<;>omega
 have hm1:m<=100:=by rw [hm];split<;>omega
 let ⟨hs0,hs1,hs2⟩:=xg a b F;have hsh:Xb (share a b=(num a*num m+99)/100):=by show _=_;unfold share;rw [<-hm]
 let ⟨q0,q1⟩:=lQ a0 a1 b0 b1;obtain ⟨H,hH⟩: ∃H,num a*num m/18446744073709551616=H:=⟨_,rfl⟩;obtain ⟨L,hL⟩: ∃H,num a*num m%18446744073709551616=H:=⟨_,rfl⟩;have hHL:H*18446744073709551616+L=num a*num m:=by omega
 have hh0:0<=H/\H<100:=by omega
 have hl0:0<=L/\L<18446744073709551616:=by omega
 have HH:=XC hH;have HL:=XC hL;have hd:=Vv H L w hh0.1 hh0.2 hl0.1 hl0.2;rw [hHL] at hd;obtain ⟨QQ,hQQ⟩: ∃QQ,QQ=num a*num m/100:=⟨_,rfl⟩;obtain ⟨RR,hRR⟩: ∃RR,RR=num a*num m%100:=⟨_,rfl⟩;rw [<-hQQ,<-hRR] at hd;have Hd:=XC hd;have hqr:0<=QQ/\0<=RR/\RR<100/\QQ<=9223372036854775807/\(0<RR->share a b=QQ+1)/\(RR<=0->share a b=QQ):=by
  have h:=hsh.o;have k1:=gY a F;clear hd Hd HH HL hH hL;generalize num a*num m=P at*;refine ⟨by omega,by omega,by omega,by omega,λh'=>by omega,λh'=>by omega⟩
 let ⟨g0,g1,g2,g3,g4,g5⟩:=hqr;have G4:=XC g4;have G5:=XC g5;have hmin:=XC hm;clear hH hL hHL hsh hd hm hQQ hRR g4 g5;by_cases hb100:b<=100
 .have e:m=b:=by have:=hmin.o;rw [if_pos hb100] at this;exact this
  subst e;obtain hr|hr:=Int.lt_or_le 0 RR
  .have hfin:=XC (G4 hr)
   have hq:QQ+1<=9223372036854775807:=by rw [<-hfin.o];exact hs2
   exact NJ
  .have hfin:=XC (G5 hr)
   exact NJ
 .have e:m=100:=by have:=hmin.o;rw [if_neg hb100] at this;exact this
  subst e;have hbl:100<b:=by omega
  obtain hr|hr:=Int.lt_or_le 0 RR
  .have hfin:=XC (G4 hr)
   have hq:QQ+1<=9223372036854775807:=by rw [<-hfin.o];exact hs2
   exact NJ
  .have hfin:=XC (G5 hr)
   exact NJ
end jW
end
section
open _root_.Go.Proofs.Tryz Go.RowKit
namespace gu
def iY (x0 x1 x2 s:Int):Int:=if s=0 then x0 else if s=1 then x1 else x2
def tS (t:dA) (cap av:Int):Bool:=if 0<t.jx then jW.below av cap t.jx else decide (av<t.mN)
def kD (t:dA) (cap:Int):Int:=if 0<t.jx then jW.share cap t.jx else t.mN
structure fR (t:dA):Prop where
 s0:0<=t.sig
 s2:t.sig<=2
 p0:0<=t.jx
 p1:t.jx<=100
 a0:0<=t.mN
 one:(t.jx=0/\0<t.mN)\/(0<t.jx/\t.mN=0)
 g0:0<=t.jm
 g1:t.jm<=1000
 soft:t.soft=Z'->1<=t.jm
 VI:t.soft=WW->t.jm=0
end gu
structure ef where
 c0:Int
 c1:Int
 c2:Int
 a0:Int
 a1:Int
 a2:Int
 A:Option Xa
 n:Nat
 c:Nat
 fg:Int
 ret:Int
 fE:Int
 dead:Int
namespace ef
def arr (p:ef):Array WY:= #[p.c0,p.c1,p.c2,p.a0,p.a1,p.a2,S_ p.A p.n p.c,p.fg,p.ret,p.fE,p.dead]
structure ok (W:WX) (B:Nat) (p:ef) (dD:List dA):Prop where
 c0:dA.ia p.c0
 c1:dA.ia p.c1
 c2:dA.ia p.c2
 a0:dA.ia p.a0
 a1:dA.ia p.a1
 a2:dA.ia p.a2
 fg:dA.ia p.fg
 ret:dA.ia p.ret
 fE:dA.ia p.fE
 dead:dA.ia p.dead
 nc:p.n<=p.c
 cm:p.c<=maxLen
 len:dD.length=p.n
 each: ∀t∈dD,t.ok
 sl:Xz W B 5 p.A p.n (dA.flat dD)
def Pz {W:WX} (h:Frame.Arg Xd W 25 v): ∃(p:ef) (dD:List dA),v=A_ p.arr/\p.ok W W.heap.size dD:=by
 obtain ⟨vs,rfl⟩:=h.agg underlying25;let ⟨X,I⟩:=h.qa.struct underlying25;have cN:(Xd).cellsOf 25=11:=k_;have F:(Xd).cellsOf 3=1:=k_;have G:(Xd).cellsOf 22=3:=k_;have V:(Xd).cellsOf 23=1:=k_;rw [cN] at X;have ab:(Value.agg vs).cells.toList=vs.toList:=rfl;rw [ab] at X I;let ⟨cs,O⟩:=nm (vs.toList);rw [<-O] at X I
 match cs,X with
 |[x0,x1,x2,x3,x4,x5,x6,x7,x8,x9,x10],_=>
  have f0:Xg Xd W 22 [x0,x1,x2]:=by simpa [G] using I 0 _ rfl
  have f1:Xg Xd W 22 [x3,x4,x5]:=by simpa [G] using I 1 _ rfl
  have f2:Xg Xd W 23 [x6]:=by simpa [V] using I 2 _ rfl
  have f3:Xg Xd W 3 [x7]:=by simpa [F] using I 3 _ rfl
  have f4:Xg Xd W 3 [x8]:=by simpa [F] using I 4 _ rfl
  have f5:Xg Xd W 3 [x9]:=by simpa [F] using I 5 _ rfl
  have f6:Xg Xd W 3 [x10]:=by simpa [F] using I 6 _ rfl
  let ⟨_,g0⟩:=f0.array underlying22;let ⟨_,g1⟩:=f1.array underlying22;rw [F] at g0 g1;let ⟨y0,e0,b0⟩:=(g0 0 d_).int underlying3;let ⟨y1,e1,b1⟩:=(g0 1 d_).int underlying3;let ⟨y2,e2,b2⟩:=(g0 2 d_).int underlying3;let ⟨y3,e3,b3⟩:=(g1 0 d_).int underlying3;let ⟨y4,e4,b4⟩:=(g1 1 d_).int underlying3;let ⟨y5,e5,b5⟩:=(g1 2 d_).int underlying3;let ⟨A,n,c,dD,e6,h1,h2,h3,h4,h5⟩:=dA.iM f2;let ⟨y7,e7,b7⟩:=f3.int underlying3;let ⟨y8,e8,b8⟩:=f4.int underlying3;let ⟨y9,e9,b9⟩:=f5.int underlying3;let ⟨ac,U,aa⟩:=f6.int underlying3;simp only [XP,XB,XA,XO,XK,and_true,XS,XN] at e0 e1 e2 e3 e4 e5 e6 e7 e8 e9 U;subst e0 e1 e2 e3 e4 e5 e6 e7 e8 e9 U;refine ⟨⟨y0,y1,y2,y3,y4,y5,A,n,c,y7,y8,y9,ac⟩,dD,?_,⟨Xh b0,Xh b1,Xh b2,Xh b3,Xh b4,Xh b5,Xh b7,Xh b8,Xh b9,Xh aa,h1,h2,h3,h4,h5⟩⟩
  congr 1
  exact Array.toList_inj.1 O.symm
def ok.below {W:WX} {B:Nat} {p:ef} {dD:List dA} (h:p.ok W B dD) (hb:Xc B W W'):p.ok W' B dD:=
 ⟨h.c0,h.c1,h.c2,h.a0,h.a1,h.a2,h.fg,h.ret,h.fE,h.dead,h.nc,h.cm,h.len,h.each,h.sl.below hb⟩
def ok.more {W:WX} {B:Nat} {p:ef} {dD:List dA} (h:p.ok W B dD) (hb:B<=B'):p.ok W B' dD:=
 ⟨h.c0,h.c1,h.c2,h.a0,h.a1,h.a2,h.fg,h.ret,h.fE,h.dead,h.nc,h.cm,h.len,h.each,h.sl.more hb⟩
end ef
namespace gu
structure PH (p:ef) (dD:List dA):Prop where
 c0:1<=p.c0
 c1:1<=p.c1
 c2:1<=p.c2
 n:p.n<=12
 each: ∀t∈dD,fR t
def part (l:List WY) (z:WY) (k:Nat):List WY:=l.take k++XE (l.length - k) z
def mh (l:List WY) (z:WY):part l z 0=XE l.length z:=by simp [part]
def nx (l:List WY) (z:WY):part l z l.length=l:=by simp [part]
def nz (l:List WY) (z:WY) (k:Nat) (h:k<l.length):(part l z k).set k l[k]=part l z (k+1):=by
 apply XW
 .simp [part];omega
 .intro i h1 h2
  simp only [part,List.getElem_set,List.getElem_append,XV];by_cases I:k=i
  .subst I
   have:k<min (k+1) l.length:=o_;simp [this]
  .rw [if_neg I]
   by_cases hi:i<k
   .have G:i<min k l.length:=o_
    have F:i<min (k+1) l.length:=o_;simp [G,F]
   .have G: ¬i<min k l.length:=o_
    have F: ¬i<min (k+1) l.length:=o_;simp [G,F]
section
variable {w:WX} {B n c k:Nat} {e:TypeId} {A:Option Xa} {xs:List WY}
def lf (h:w.ownsRow B e 1 (S_ A n c) n xs) (hk:k<n):
  ∃(g:Nat) (F:k<xs.length),A=Y' ⟨g,0,Z_⟩/\B<=g/\g<X_ (Y_ w)/\w.cell? ⟨g,k,Z_⟩=Y' xs[k]/\w.frozen? ⟨g,k,Z_⟩=WW/\
   ∀y:WY,(w.setCell ⟨g,k,Z_⟩ y).ownsRow B e 1 (S_ A n c) n (xs.set k y):=by
 have F:k<xs.length:=by have:=h.1;simp at this;omega
 obtain ⟨_,h0⟩|⟨g,cap,cur,G,O,I,_⟩:=h.2
 .omega
 .simp only [XR,true_and] at G
  obtain ⟨rfl,rfl⟩:=G;refine ⟨g,F,rfl,O,(Array.getElem?_eq_some_iff.1 I).1,?_,World.ownsRow.frozenAt h k,λy=>?_⟩
  .rw [World.ownsRow.cellAt h k o_]
   simp [F]
  .exact (World.ownsRow.stored h k y).1
def Ep (h:w.ownsRow B e 1 (S_ A n c) n xs):n<=c/\c<=maxLen:=by
 exact NM
def ib (h:w.ownsRow B e 1 (S_ A n c) n xs) (X:Xc B' w w') (hB:X_ (Y_ w)<=B'):w'.ownsRow B e 1 (S_ A n c) n xs:=by
 exact NO
def JS (h:w.ownsRow B e 1 (S_ A n c) n xs) {p:Xa} (hp: ∀g,A=Y' ⟨g,0,Z_⟩->g≠p.block) (u:WY):(w.setCell p u).ownsRow B e 1 (S_ A n c) n xs:=by
 let ⟨U,F⟩:=h;refine ⟨U,?_⟩;obtain F|⟨g,I,G,O,X,V,r⟩:=F
 .exact .inl F
 .refine .inr ⟨g,I,G,O,X,?_,r⟩
  simp only [XR,true_and] at O;rw [Below.heap_setCell _ _ _ _ (hp g O.1)];exact V
def lg (h:w.ownsRow B' e 1 (S_ A n c) n xs) (hb:B<=B'):w.ownsRow B e 1 (S_ A n c) n xs:=by
 exact NQ
end
def Er (z:WY) (F:z.cells= #[z]) (n:Nat):(madeCells z.cells (n*1)).toList=XE n z:=by
 rw [F];apply XW
 .simp [madeCells]
 .intro i h1 h2
  simp [madeCells,Nat.mod_one]
def tU {P:Program} {z:WY} (E:Mem.El P t e z 1 bytes) (I:z.cells= #[z]) (n:Nat) (hn:n<=1000000) (hb:bytes<=1000) (w:WX):
  ∃w',(Instr.makeSlice t (I_ J_ (n:Int)) (I_ J_ (n:Int))).run P w= .ok (S_ (Y' ⟨X_ (Y_ w),0,Z_⟩) n n) w'/\
   w'.ownsRow w.heap.size e 1 (S_ (Y' ⟨X_ (Y_ w),0,Z_⟩) n n) n (XE n z)/\Xc w.heap.size w w'/\X_ (Y_ w')=X_ (Y_ w)+1:=by
 let ⟨i,hi,V,hs,F⟩:=info_parts E.info;have hbb:bytes*n<=1000*1000000:=Nat.mul_le_mul hb hn;have G:(bytes:Int)*(n:Int)<=281474976710656:=by
  have:((bytes*n:Nat):Int)<=281474976710656:=o_;rwa [Int.natCast_mul] at this
 have X:=run_makeSlice (P:=P) w t e i z E.ty hi V .i64 .i64 (n:Int) (n:Int) o_ o_ (by rw [hs];simp;omega) (by rw [F];exact G) o_;let ⟨w',O,U,h3⟩:=run_makeSlice_full (P:=P) w w.heap.size t e i z 1 E.ty hi V hs .i64 .i64 n o_ (by rw [F];have:bytes*n<=1000*1000000:=Nat.mul_le_mul hb hn;omega) e_ l_;rw [Er z I] at U;have hw:w'=w.alloc (.cells (madeCells z.cells ((n:Int).toNat*i.size)) e):=by
  rw [O] at X;injection X
 exact ⟨w',O,U,b_.grown h3 l_ y_,by rw [hw];simp⟩
end gu
end
end Go.Proofs.YtkidababfdehlaaGreatDoor
