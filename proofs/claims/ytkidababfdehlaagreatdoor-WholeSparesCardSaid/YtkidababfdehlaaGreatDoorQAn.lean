/- Parts of the walk. -/
import Derived.Test.YtkidababfdehlaaGreatDoorQAc
set_option linter.all false
set_option maxRecDepth 100000
set_option maxHeartbeats 64000000
namespace Go.Proofs.YtkidababfdehlaaGreatDoor
open Value renaming int -> I_,bool -> B_,string -> T_,slice -> S_,pointer -> P_,tuple -> U_,agg -> A_
open IntKind renaming i64 -> J_
open Ending renaming returned -> R_
open Option renaming some -> X_,none -> Y_
open Bool renaming true -> Y',false -> Z_,false_eq_true -> Xq
open Go renaming World -> Z',Calls -> WW,Addr -> WX
open Go.RowKit renaming Hid -> WY
open _root_.Go.Proofs.Tryz renaming prog -> WZ
open du renaming pos -> Xa,has -> Xc,dY -> Xs
open Ro.dt renaming setCell -> Xb,dW -> Xt
open List renaming set_eq_take_append_cons_drop -> Xd,set_append_right -> Xg,drop_eq_getElem_cons -> Xk,length_take -> Xl,take_append_drop -> Xm
open Nat renaming add_assoc -> Xe,add_sub_cancel_left -> Xf,lt_of_lt_of_le -> Xp
open dK renaming flat -> Xh
open dP renaming flat -> Xi
open Ro.Row renaming lt -> Xj,BR -> Xx
open Ro renaming dr -> Xn,dt -> Xw
open Go.ByteArray renaming toList_eq -> Xo
open Go.RowKit.Below renaming heap_alloc -> Xr
open Mem.c_ renaming new -> Xu
open Mem renaming Sl -> Xv
variable {a b id s:ByteArray} {e:Ending} {l:List ByteArray} {A:List Value} {im:List dK} {F bx bx':List dP} {P c c' cb ci cq g gB k n n' nb ni nq off:Nat} {A' AB AI AQ:Option WX} {q:Prop} {G I X w w' w1 w2:Z'}
section
open _root_.Go.Proofs.Tryz Go.RowKit
namespace Wo
def wP (h:P<bx.length):Xi bx=Xi (bx.take P)++(bx[P].cells++Xi (bx.drop (P+1))):=by
 rw [<-dP.iE,<-dP.eH,<-Xk h,Xm]
def Ay {B:List Value} (F:A.length=n) (c0 c1 c2 c3 x y z:Value):
  ((A++([c0,c1,c2,c3]++B)).set (n+1) x).set (n+2) y=A++([c0,x,y,c3]++B)/\(A++([c0,c1,c2,c3]++B)).set (n+3) z=A++([c0,c1,c2,z]++B):=by
 subst F;constructor
 .rw [Xg _ _ o_,Xf,Xg _ _ o_,Xf]
  rfl
 .rw [Xg _ _ o_,Xf]
  rfl
def yO (h:P<bx.length) (x y:Int):((Xi bx).set (P*4+1) (I_ J_ x)).set (P*4+2) (I_ J_ y)=Xi (bx.set P ⟨bx[P].id,x,y,bx[P].last⟩):=by
 have e:bx.set P ⟨bx[P].id,x,y,bx[P].last⟩=bx.take P++⟨bx[P].id,x,y,bx[P].last⟩::bx.drop (P+1):=by
  rw [Xd,if_pos h]
 rw [e,dP.eH,dP.iE,wP h];exact (Ay (by rw [dP.dO,Xl];congr 1;omega) _ _ _ _ _ _ (I_ J_ 0)).1
def CT (h:P<bx.length) (z:Int):(Xi bx).set (P*4+3) (I_ J_ z)=Xi (bx.set P ⟨bx[P].id,bx[P].st,bx[P].tr,z⟩):=by
 have e:bx.set P ⟨bx[P].id,bx[P].st,bx[P].tr,z⟩=bx.take P++⟨bx[P].id,bx[P].st,bx[P].tr,z⟩::bx.drop (P+1):=by
  rw [Xd,if_pos h]
 rw [e,dP.eH,dP.iE,wP h];exact (Ay (by rw [dP.dO,Xl];congr 1;omega) _ _ _ _ (I_ J_ 0) (I_ J_ 0) _).2
def FW (p:dP) (q:Int) (eD:Bool) (rt round:Int):dP:=⟨p.id,(pP.step (p.st,p.tr) q eD rt).1,(pP.step (p.st,p.tr) q eD rt).2,if eD then round else p.last⟩
def pJ (bx:List dP) (P:Nat) (q:Int) (eD:Bool) (rt round:Int):List dP:=match bx[P]? with
 |some p=>if (FW p q eD rt round).st=5 then bx.take P++bx.drop (P+1) else bx.set P (FW p q eD rt round)
 |none=>bx
section
variable {w:Z'} {gB off nb cb P:Nat} {bx:List dP}
def QT (h:mK w (X_ ⟨gB,off,Y_⟩) nb cb bx) (G:P<bx.length) (x y:Int):mK ((w.setCell ⟨gB,off+P*4+1,Y_⟩ (I_ J_ x)).setCell ⟨gB,off+P*4+1+1,Y_⟩ (I_ J_ y)) (X_ ⟨gB,off,Y_⟩) nb cb (bx.set P ⟨bx[P].id,x,y,bx[P].last⟩):=by
 have hl:(Xi bx).length=bx.length*4:=dP.dO bx;have I:=Xx h (P*4+1) o_ (I_ J_ x);have F:=I.BR (P*4+2) z_ (I_ J_ y);rw [yO G,<-Xe,<-Xe] at F;exact F
def Uf (h:mK w (X_ ⟨gB,off,Y_⟩) nb cb bx) (G:P<bx.length) (z:Int):mK (w.setCell ⟨gB,off+P*4+3,Y_⟩ (I_ J_ z)) (X_ ⟨gB,off,Y_⟩) nb cb (bx.set P ⟨bx[P].id,bx[P].st,bx[P].tr,z⟩):=by
 have hl:(Xi bx).length=bx.length*4:=dP.dO bx;have F:=Xx h (P*4+3) o_ (I_ J_ z);rw [CT G,<-Xe] at F;exact F
def Az (h:mK w (X_ ⟨gB,off,Y_⟩) nb cb bx) (O:P<bx.length):w.cell? ⟨gB,off+P*4+1,Y_⟩=X_ (I_ J_ bx[P].st)/\w.cell? ⟨gB,off+P*4+2,Y_⟩=X_ (I_ J_ bx[P].tr)/\w.cell? ⟨gB,off+P*4+3,Y_⟩=X_ (I_ J_ bx[P].last):=by
 have key: ∀(j:Nat) (G:j<4) (v:Value),(bx[P].cells)[j]?=X_ v->w.cell? ⟨gB,off+P*4+j,Y_⟩=X_ v:=by
  intro j G v I;have F:P*4+j<(Xi bx).length:=by rw [dP.dO];omega
  rw [Xe,Ro.Row.cell h _ F,<-I,<-dP.nL bx P j O G,List.getElem?_eq_getElem F]
 exact ⟨key 1 d_ _ rfl,key 2 d_ _ rfl,key 3 d_ _ rfl⟩
variable {g:Nat} {s:St} {S:Nat->Prop} {AQ AI:Option WX} {nq cq ni ci:Nat}
def jG.ed (h:jG w g s S AQ nq cq (X_ ⟨gB,off,Y_⟩) nb cb AI ni ci) (U:Xw (λk=>k=gB) w w') (I:mK w' (X_ ⟨gB,off,Y_⟩) nb cb F):jG w' g {s with bx:=F} S AQ nq cq (X_ ⟨gB,off,Y_⟩) nb cb AI ni ci:=by
 let ⟨G,O,V⟩:=h.vW (U.mono λk _ e=>by rw [e];rfl);exact ⟨G,O,I,V,h.sg,h.sq,h.sb,h.si⟩
end
def AA {s:St} {S:Nat->Prop} (T:jG X g {s with bx:=bx'} S AQ nq cq AB nb cb AI ni ci) (O:Xw S w X):en S w X g {s with bx:=bx'}:=
 ⟨(show At X g _ S from ⟨_,_,_,_,_,_,_,_,_,T⟩).mono λ_ _ c=> .inl c,O⟩
def AD {s:St} {S:Nat->Prop} (T:jG X g {s with bx:=F} S AQ nq cq (X_ ⟨gB,off,Y_⟩) nb cb AI ni ci) (O:Xw S w X) (hS:S gB)
  (hd:qu (X_ ⟨gB,off,Y_⟩) (nb - 1) cb (F.take P++F.drop (P+1)) X e I):en S w (I.setCell ⟨g,2,Y_⟩ (S_ (X_ ⟨gB,off,Y_⟩) (nb - 1) cb)) g {s with bx:=F.take P++F.drop (P+1)}:=by
 let ⟨_,V,hO⟩:=hd;let ⟨G,h2,h3⟩:=T.vW hO;have U:jG (I.setCell ⟨g,2,Y_⟩ (S_ (X_ ⟨gB,off,Y_⟩) (nb - 1) cb)) g {s with bx:=F.take P++F.drop (P+1)} S AQ nq cq (X_ ⟨gB,off,Y_⟩) (nb - 1) cb AI ni ci:=
  ⟨G.eC 2 _,h2.only (Xb _ _ _) (h2.dZ G d_),V.only (Xb _ _ _) (V.dZ G d_),h3.only (Xb _ _ _) (h3.dZ G d_),T.sg,T.sq,T.sb,T.si⟩
 refine ⟨(show At _ g _ S from ⟨_,_,_,_,_,_,_,_,_,U⟩).mono λ_ _ c=> .inl c,(O.trans hO λk _ e=>?_).trans (Xb _ _ _) λk _ e=>by rw [e];exact T.sg⟩;have:gB=k:=by simpa [Xn] using e
 rw [<-this];exact hS
def AE (p:dP):(bx.set P p).take P++(bx.set P p).drop (P+1)=bx.take P++bx.drop (P+1):=by
 rw [List.take_set_of_le l_,List.drop_set_of_lt (Nat.lt_succ_self _)]
def AF {p:Prop} (h:p:=by
 go_wp2_with fail;refine bodyPost_end (results_none rfl _ _ _) rfl ⟨rfl,Q3⟩):p:=h
def GR (g:Nat) (s:St) (S:Nat->Prop) (P:Nat) (q:Int) (eD:Bool) (round:Int) (w:Z') (h:At w g s S) (hs:Good s) (hP:P<s.bx.length) (hq:(Lit.int .i64 q).wf=Y') (hn:pP.lT s.bx[P].st q≠0):
  WW WZ 170 #[P_ (X_ ⟨g,0,Y_⟩),I_ J_ P,I_ J_ q,B_ eD,I_ J_ round] w λe w'=>e=R_ (U_ #[])/\en S w w' g {s with bx:=pJ s.bx P q eD s.rt round}:=by
 let ⟨AQ,nq,cq,AB,nb,cb,AI,ni,ci,h⟩:=h;let ⟨_,G,_⟩:=h.lens;have ag:=hs.ok _ (g_ hP);have hnb:=hs.nb;have hle:=h.b.le;obtain ⟨gB,off,rfl⟩:=h.b.fe o_;let ⟨c1,c2,c3⟩:=Az h.b hP;have m1:C w g 1 s.rt:=h.dr.cell 1;have m2:C w g 2 (S_ (X_ ⟨gB,off,Y_⟩) nb cb):=h.dr.cell 2;have al:=h.b.lt (g:=gB) rfl;have hg:=h.dr.lt;have aF:=h.b.frozen;have hne:gB≠g:=h.b.dZ h.dr d_ gB rfl;have ap:(Lit.int .i64 s.bx[P].st).wf=Y':=WalkArith.wf_i64 (by have:=ag.1;have:=ag.2.1;dsimp only at*;omega);obtain ⟨x,y,am⟩: ∃x y,pP.step (s.bx[P].st,s.bx[P].tr) q eD s.rt=(x,y):=⟨_,_,rfl⟩;have aa: ∀w,WW WZ 227 #[A_ #[I_ J_ s.bx[P].st,I_ J_ s.bx[P].tr],I_ J_ q,B_ eD,I_ J_ s.rt] w λe w'=>e=R_ (U_ #[A_ #[I_ J_ x,I_ J_ y],I_ J_ (pP.err s.bx[P].st q)])/\Bw w w':=by
  intro w;have:=pP.yd s.bx[P].st s.bx[P].tr q s.rt eD w ap hq ag.2.2.2;unfold pP.LN at this;rw [am] at this;exact this
 have fin:WY (∀p',p'=(⟨s.bx[P].id,x,y,if eD then round else s.bx[P].last⟩:dP)->pJ s.bx P q eD s.rt round=if x=5 then s.bx.take P++s.bx.drop (P+1) else s.bx.set P p'):=by
  rintro p' rfl;unfold pJ;rw [List.getElem?_eq_getElem hP]
  dsimp only
  unfold FW;rw [am]
 have ed:WY (∀w1,Bw w w1->jG ((w1.setCell ⟨gB,off+P*4+1,Y_⟩ (I_ J_ x)).setCell ⟨gB,off+P*4+1+1,Y_⟩ (I_ J_ y)) g {s with bx:=s.bx.set P ⟨s.bx[P].id,x,y,s.bx[P].last⟩} S AQ nq cq (X_ ⟨gB,off,Y_⟩) nb cb AI ni ci):=by
  intro w1 U;have h1:=h.dy (w':=w1) (λk hk _=>U.block k hk);exact h1.ed ((Xb w1 ⟨gB,off+P*4+1,Y_⟩ _).trans (Xb _ ⟨gB,off+P*4+1+1,Y_⟩ _) (λ_ _ e=>e)) (QT h1.b hP x y)
 have hS:=h.sb gB rfl;have hSg:=h.sg;let ⟨st,av⟩:=nm (s.bx[P].st);let ⟨tr,ao⟩:=nm (s.bx[P].tr);let ⟨ls,az⟩:=nm (s.bx[P].last);let ⟨r,hr⟩:=nm (s.rt);rw [<-av] at c1 aa;rw [<-ao] at c2 aa;rw [<-az] at c3;rw [<-hr] at m1 aa;have hb:=Hd aa;have HN:=Hd hn;clear h hr hs av ao az aa am ap ag hq hn;generalize pP.err st q=er at*;go_enter func170,ntmps170;go_wp2_with fail
 go_region_with
  (go_at_call 227;refine (hb _).mono ?_;rintro e w1 ⟨rfl,U⟩;have k1:w1.cell? ⟨gB,off+P*4+1,Y_⟩=X_ (I_ J_ st):=(U.cell (p:=⟨gB,off+P*4+1,Y_⟩) al).trans c1;have k2:w1.cell? ⟨gB,off+P*4+2,Y_⟩=X_ (I_ J_ tr):=(U.cell (p:=⟨gB,off+P*4+2,Y_⟩) al).trans c2;have kf: ∀o,w1.frozen? ⟨gB,o,Y_⟩=Z_:=λo=>(U.frozen (p:=⟨gB,o,Y_⟩) al).trans (aF o))
 all_goals
  have ah:Bw w w1:=(show Bw w w.drew from b_.drew).trans U;have T:=ed w1 ah;have O1:Xw S w ((w1.setCell ⟨gB,off+P*4+1,Y_⟩ (I_ J_ x)).setCell ⟨gB,off+P*4+1+1,Y_⟩ (I_ J_ y)):=((Xt ah).trans (Xb w1 _ _) (λ_ _ e=>by rw [e];exact hS)).trans (Xb _ _ _) (λ_ _ e=>by rw [e];exact hS);let ⟨X,hX⟩:=nm (((w1.setCell ⟨gB,off+P*4+1,Y_⟩ (I_ J_ x)).setCell ⟨gB,off+P*4+1+1,Y_⟩ (I_ J_ y)));rw [<-hX] at T O1 |-;clear hX k1 k2 kf U ah;have V:P<(s.bx.set P ⟨s.bx[P].id,x,y,s.bx[P].last⟩).length:=by simpa using hP
  have ac:(s.bx.set P ⟨s.bx[P].id,x,y,s.bx[P].last⟩)[P]=⟨s.bx[P].id,x,y,s.bx[P].last⟩:=List.getElem_set_self _;let ⟨k1,k2,k3⟩:=Az T.b V
  dsimp only at k1 k2 k3
  rw [ac] at k1 k2 k3
  dsimp only at k1 k2 k3
  have kf:=T.b.frozen;have af:(x==5)=decide (x=5):=by
   by_cases I:x=5
   .rw [decide_eq_true I,I];rfl
   .rw [decide_eq_false I];exact beq_eq_false_iff_ne.2 I
  cases eD
  .have F:=Hd (fin ⟨s.bx[P].id,x,y,s.bx[P].last⟩ rfl)
   have mX:C X g 2 (S_ (X_ ⟨gB,off,Y_⟩) nb cb):=T.dr.cell 2;have gf:=T.dr.frozen;by_cases I:x=5
   .rw [decide_eq_true I] at af
    have HD:=Hd (nZ (X_ ⟨gB,off,Y_⟩) nb cb P _ X T.b o_ o_);have hG:WY (∀e O,qu (X_ ⟨gB,off,Y_⟩) (nb - 1) cb ((s.bx.set P ⟨s.bx[P].id,x,y,s.bx[P].last⟩).take P++(s.bx.set P ⟨s.bx[P].id,x,y,s.bx[P].last⟩).drop (P+1)) X e O->C O g 2 (S_ (X_ ⟨gB,off,Y_⟩) nb cb)/\(∀o,O.frozen? ⟨g,o,Y_⟩=Z_)/\en S w (O.setCell ⟨g,2,Y_⟩ (S_ (X_ ⟨gB,off,Y_⟩) (nb - 1) cb)) g {s with bx:=pJ s.bx P q Z_ s.rt round}):=by
     intro e O hd;have ab:=AD T O1 hS hd;let ⟨_,_,hO⟩:=hd;let ⟨ae,_,_⟩:=T.vW hO;refine ⟨ae.cell 2,ae.frozen,?_⟩;rw [F.o,if_pos I];rw [AE] at ab;exact ab
    clear T O1 fin F ed ac V I;go_wp2_with fail;refine HD.mono ?_;intro e O hd;obtain ⟨q1,q2,(Q3:WY _)⟩:=hG e O hd;obtain ⟨rfl,_,_⟩:=hd;clear HD hG;exact AF
   .rw [decide_eq_false I] at af
    have Q3:WY (en S w X g {s with bx:=pJ s.bx P q Z_ s.rt round}):=by
     show en _ _ _ _ _
     rw [F.o,if_neg I];exact AA T O1
    clear T O1 fin F ed ac V I;exact AF
  .have F:=Hd (fin ⟨s.bx[P].id,x,y,round⟩ rfl)
   have T3:jG (X.setCell ⟨gB,off+P*4+3,Y_⟩ (I_ J_ round)) g {s with bx:=s.bx.set P ⟨s.bx[P].id,x,y,round⟩} S AQ nq cq (X_ ⟨gB,off,Y_⟩) nb cb AI ni ci:=by
    have h3:=T.ed (Xb X ⟨gB,off+P*4+3,Y_⟩ (I_ J_ round)) (Uf T.b V round);rw [ac] at h3
    dsimp only at h3
    rw [List.set_set] at h3;exact h3
   have O3:Xw S w (X.setCell ⟨gB,off+P*4+3,Y_⟩ (I_ J_ round)):=O1.trans (Xb _ _ _) (λ_ _ e=>by rw [e];exact hS);clear T O1;have mX:(X.setCell ⟨gB,off+P*4+3,Y_⟩ (I_ J_ round)).cell? ⟨g,2,Y_⟩=X_ (S_ (X_ ⟨gB,off,Y_⟩) nb cb):=T3.dr.cell 2;have gf:=T3.dr.frozen;by_cases I:x=5
   .rw [decide_eq_true I] at af
    have HD:=Hd (nZ (X_ ⟨gB,off,Y_⟩) nb cb P _ (X.setCell ⟨gB,off+P*4+3,Y_⟩ (I_ J_ round)) T3.b o_ o_);have hG:WY (∀e O,qu (X_ ⟨gB,off,Y_⟩) (nb - 1) cb ((s.bx.set P ⟨s.bx[P].id,x,y,round⟩).take P++(s.bx.set P ⟨s.bx[P].id,x,y,round⟩).drop (P+1)) (X.setCell ⟨gB,off+P*4+3,Y_⟩ (I_ J_ round)) e O->C O g 2 (S_ (X_ ⟨gB,off,Y_⟩) nb cb)/\(∀o,O.frozen? ⟨g,o,Y_⟩=Z_)/\en S w (O.setCell ⟨g,2,Y_⟩ (S_ (X_ ⟨gB,off,Y_⟩) (nb - 1) cb)) g {s with bx:=pJ s.bx P q Y' s.rt round}):=by
     intro e O hd;have ab:=AD T3 O3 hS hd;let ⟨_,_,hO⟩:=hd;let ⟨ae,_,_⟩:=T3.vW hO;refine ⟨ae.cell 2,ae.frozen,?_⟩;rw [F.o,if_pos I];rw [AE] at ab;exact ab
    clear T3 O3 fin F ed ac V I;go_wp2_with fail;refine HD.mono ?_;intro e O hd;obtain ⟨q1,q2,(Q3:WY _)⟩:=hG e O hd;obtain ⟨rfl,_,_⟩:=hd;clear HD hG;exact AF
   .rw [decide_eq_false I] at af
    have Q3:WY (en S w (X.setCell ⟨gB,off+P*4+3,Y_⟩ (I_ J_ round)) g {s with bx:=pJ s.bx P q Y' s.rt round}):=by
     show en _ _ _ _ _
     rw [F.o,if_neg I];exact AA T3 O3
    clear T3 O3 fin F ed ac V I;exact AF
def oe (bx:List dP) (id:ByteArray) (round:Int):List dP:=bx.take (Xa (ids bx) id)++⟨id,1,0,round⟩::bx.drop (Xa (ids bx) id)
def yP {A:Option WX} (h:mK w A n c bx) (o:Obj):mK (w.alloc o) A n c bx:=Ro.Row.dy h λk hk=>Xr w o k (Xj h hk)
def yQ {s:St} {S:Nat->Prop} {p:dP} {I:List dP} (h:jG w g s S AQ nq cq AB nb cb AI ni ci) (hb:Bw w w1)
  (hR:mK G A' (nb+1) c' I) (hO:Xw (λb=>Xn AB=X_ b) (w1.alloc (.cells p.arr 273)) G) (V:Xn A'=Xn AB\/ ∃b,Xn A'=X_ b/\(w1.alloc (.cells p.arr 273)).heap.size<=b):
  G.cell? ⟨g,2,Y_⟩=X_ (S_ AB nb cb)/\(∀o,G.frozen? ⟨g,o,Y_⟩=Z_)/\en S w (G.setCell ⟨g,2,Y_⟩ (S_ A' (nb+1) c')) g {s with bx:=I}:=by
 have O:Bw w (w1.alloc (.cells p.arr 273)):=hb.alloc hb.size _;have h1:=h.dy (w':=w1.alloc (.cells p.arr 273)) (λk F _=>O.block k F);let ⟨U,q2,q3⟩:=h1.vW hO;have ae: ∀k,Xn A'=X_ k->k<G.heap.size:=λk F=>Xj hR F
 have hz:=hO.size;have hz1:=O.size;refine ⟨U.cell 2,U.frozen,?_⟩;have X: ∀k,Xn A'=X_ k->ext S w G k:=by
  intro k F;obtain V|⟨b,V,hbb⟩:=V
  .exact .inl (h.sb k (by rw [<-V];exact F))
  .have:b=k:=by rw [V] at F;simpa using F
   exact .inr ⟨o_,ae k F⟩
 have ac:jG (G.setCell ⟨g,2,Y_⟩ (S_ A' (nb+1) c')) g {s with bx:=I} (ext S w G) AQ nq cq A' (nb+1) c' AI ni ci:=
  ⟨U.eC 2 _,q2.only (Xb _ _ _) (q2.dZ U d_),hR.only (Xb _ _ _) (hR.dZ U d_),q3.only (Xb _ _ _) (q3.dZ U d_),.inl h.sg,λk F=> .inl (h.sq k F),X,λk F=> .inl (h.si k F)⟩
 refine ⟨(show At _ g _ (ext S w G) from ⟨_,_,_,_,_,_,_,_,_,ac⟩).mono λk _ c=>?_,((Xt O).trans hO λk _ e=>h.sb k e).trans (Xb _ _ _) λk _ e=>by rw [e];exact h.sg⟩;exact zG
def QU {p:Prop} (h:p:=by
 refine dm.on 11 3 ?_;refine dm.cl ?_;have G:jG w1 g s S AQ nq cq AB nb cb AI ni ci:=U.dy λk hk _=>V.block k hk
 refine (EM AB nb cb P w1.heap.size s.bx ⟨id,1,0,round⟩ _ (yP G.b _) ae Mem.c_.new (λc=>by have:=Ro.Row.lt G.b c;omega) o_).mono ?_;rintro e wI ⟨A',c',rfl,hR,hO,hA⟩;obtain ⟨q1,q2,q3⟩:=yQ (p:=⟨id,1,0,round⟩) U V hR hO hA;have Q3:Hid (en S w (wI.setCell ⟨g,2,none⟩ (S_ A' (nb+1) c')) g {s with bx:=oe s.bx id round}):=by
  show en _ _ _ _ _
  rw [hI.o];exact (en.dW ⟨_,_,_,_,_,_,_,_,_,HL⟩ I).trans (q3.PX λ_ c=> .inl c)
 clear hR hO hA q3 G;refine ⟨_,rfl,trivial,?_⟩;refine dm.tg 1 trivial [12,13] ?_;refine dm.on 14 0 ?_;refine dm.skip rfl rfl (w':=wI.setCell ⟨g,2,none⟩ (S_ A' (nb+1) c')) f_ trivial ?_;refine dm.fi ?_;go_wp2_with fail;go_ret;exact ⟨λc=>(by cases c),λ_=>⟨rfl,Q3⟩⟩):p:=h
def GS {p:Prop} (k:q) (h:Wq q->p:=by
 intro kq;refine dm.val rfl rfl (v:=S_ (some ⟨w1.heap.size,0,none⟩) 1 1) (w':=w1.alloc (.cells #[id,I_ J_ 1,I_ J_ 0,round] 273)) f_ trivial ?_;exact kq.o):p:=h ⟨k⟩
def OD {p:Prop} (k:q) (h:Wq q->p:=by
 intro kq;refine dm.cl ?_;refine (pP.sN _).mono ?_;rintro e w1 ⟨rfl,ac⟩;have V:Bw w0 w1:=(show Bw w0 w0.drew from b_.drew).trans ac;have ar:C w1 g 2 (S_ AB nb cb):=(V.cell (p:=⟨g,2,none⟩) am).trans an;clear ac;refine ⟨_,rfl,trivial,?_⟩
 revert w1 V ar
 exact kq.o):p:=h ⟨k⟩
def CQ (g:Nat) (s:St) (S:Nat->Prop) (id:ByteArray) (round:Int) (w:Z') (h:At w g s S) (hs:Good s):
  WW WZ 127 #[P_ (X_ ⟨g,0,Y_⟩),id,round] w λe w'=>(Xc (ids s.bx) id=Y'->e=R_ (I_ J_ 5)/\en S w w' g s)/\(Xc (ids s.bx) id=Z_->e=R_ (I_ J_ 0)/\en S w w' g {s with bx:=oe s.bx id round}):=by
 have O:=yD g s S id w h hs;cases hh:Xc (ids s.bx) id
 .let ⟨AQ,nq,cq,AB,nb,cb,AI,ni,ci,h⟩:=h
  let ⟨_,l1,_⟩:=h.lens;have hnb:=hs.nb;have ae:Xa (ids s.bx) id<=nb:=by have:=du.oP (ids s.bx) id;rw [j'] at this;omega
  rw [hh] at O;have X:=Hd O;have hI:WY (oe s.bx id round=s.bx.take (Xa (ids s.bx) id)++⟨id,1,0,round⟩::s.bx.drop (Xa (ids s.bx) id)):=rfl;let ⟨P,hP⟩:=nm (Xa (ids s.bx) id);rw [<-hP] at X ae hI;clear hP;have m2:C w g 2 (S_ AB nb cb):=h.dr.cell 2;have hg:=h.dr.lt;have HL:=Hd h;have ap: ∀k,Xn AB=X_ k->k<w.heap.size:=λk hk=>Xj h.b hk
  have SB:=Hd ap;clear h hs hh O ap;go_enter func127,ntmps127;go_wp2_with fail;refine X.mono ?_;rintro e w0 ⟨rfl,I⟩;have U:WY (jG w0 g s S AQ nq cq AB nb cb AI ni ci):=HL.dy λk hk _=>I.block k hk
  have an:C w0 g 2 (S_ AB nb cb):=(I.cell (p:=⟨g,2,Y_⟩) hg).trans m2;have am:g<w0.heap.size:=Xp hg I.size;clear m2 X;go_wp2;refine dm.start (S:=(λ_=>True)) k_ ?_;refine dm.tg 8 trivial [0,1,2,3,5,6,8] ?_;refine dm.two (i:=4) (j:=7) (n:=7) k_ ?_ ?_
  .refine dm.val rfl rfl (v:=S_ AB nb cb) (w':=w0.drew) f_ trivial ?_
   refine dm.on 7 6 ?_;refine OD ?_;intro w1 V ar;refine dm.tg 5 trivial [9] ?_;refine dm.on 10 4 ?_;refine GS ?_;exact QU
  .refine OD ?_
   intro w1 V ar;refine dm.tg 6 trivial [9] ?_;refine dm.two (i:=4) (j:=10) (n:=5) k_ ?_ ?_
   .refine dm.val rfl rfl (v:=S_ AB nb cb) (w':=w1) f_ trivial ?_
    refine dm.on 10 4 ?_;refine GS ?_;exact QU
   .refine GS ?_
    refine dm.on 4 4 ?_;have hg1:g<w1.heap.size:=Xp am V.size;have m22:(w1.alloc (.cells #[id,I_ J_ 1,I_ J_ 0,round] 273)).cell? ⟨g,2,Y_⟩=X_ (S_ AB nb cb):=Mem.fo ar;refine dm.val rfl rfl (v:=S_ AB nb cb) (w':=w1.alloc (.cells #[id,I_ J_ 1,I_ J_ 0,round] 273)) f_ trivial ?_;exact QU
 .rw [hh] at O
  have X:=Hd O;have HP:=Hd (λw' (V:Bw w w')=>en.dW h V);generalize Xa (ids s.bx) id=P at*;clear h hs hh O;go_enter func127,ntmps127;go_wp2_with fail;refine X.mono ?_;rintro e w0 ⟨rfl,I⟩;go_wp2;go_ret;exact ⟨λ_=>⟨rfl,HP _ I⟩,λc=>(by cases c)⟩
def Aw (A:Option WX) (n c:Nat) (im:List dK) (s:ByteArray) (w:Z') (h:Xv w w.heap.size 3 A n (Xh im)) (I:Xs (fj im)) (G:im.length=n) (hn:n<=1000000):
  WW WZ 223 #[S_ A n c,s] w λe w'=>e=R_ (U_ #[I_ J_ (Xa (fj im) s),B_ (Xc (fj im) s)])/\Bw w w':=by
 have hc:=Hd (Ct A n c im s w h I G hn);generalize Xa (fj im) s=P at*;generalize Xc (fj im) s=F at*;clear h I;go_enter func223,ntmps223;go_wp2_with fail;refine hc.mono ?_;rintro e w' ⟨rfl,O⟩;go_wp2
 go_ret2
 exact ⟨rfl,O⟩
def Ug (im:List dK) (s:ByteArray):Option dK:=if Xc (fj im) s then im[Xa (fj im) s]? else Y_
def kN (I:Xs (fj im)) (h:Xc (fj im) s=Y'): ∃(F:Xa (fj im) s<im.length),Ug im s=X_ im[Xa (fj im) s]/\im[Xa (fj im) s].name=s:=by
 let ⟨G,e⟩:=du.mZ I h;have F:Xa (fj im) s<im.length:=by rw [jk] at G;exact G
 refine ⟨F,?_,?_⟩
 .unfold Ug
  rw [h,if_pos rfl,List.getElem?_eq_getElem F]
 .rw [<-yF F G];exact e
def uN (A:Option WX) (n c:Nat) (im:List dK) (s:ByteArray) (w:Z') (h:Xv w w.heap.size 3 A n (Xh im)) (I:Xs (fj im)) (G:im.length=n) (hn:n<=1000000):
  WW WZ 185 #[S_ A n c,s] w λe w'=> ∃p:dK,e=R_ (U_ #[A_ p.arr,B_ (Xc (fj im) s)])/\Bw w w':=by
 have ac:=λw' (hb:Bw w w')=>Aw A n c im s w' ((h.below hb).more hb.size) I G hn
 cases hh:Xc (fj im) s
 .rw [hh] at ac
  have ae:=Hd ac;generalize Xa (fj im) s=P at*;clear h I hh ac;go_enter func185,ntmps185;go_wp2_with fail;refine (ae _ (dL)).mono ?_;rintro e w1 ⟨rfl,F⟩;have O:=Mem.c_.a_ (Xu (w:=w) (t:=223) (cs:= #[T_ ⟨#[]⟩,I_ J_ 0,I_ J_ 0])) F;have X:C w1 w.heap.size 0 (T_ ⟨#[]⟩):=O.cell 0;have V:C w1 w.heap.size 1 (I_ J_ 0):=O.cell 1;have aa:C w1 w.heap.size 2 (I_ J_ 0):=O.cell 2;have af:=O.frozen;have U:Bw w w1:=(dL).trans (F.mono y_);clear O F ae;go_wp2;refine bodyPost_ret (v:=U_ #[A_ #[T_ ⟨#[]⟩,I_ J_ 0,I_ J_ 0],B_ Z_]) (by simp [results,results185,go_sem,X,V,aa]) rfl ⟨⟨⟨#[]⟩,0,0⟩,rfl,?_⟩;exact ((U.setCell y_ _).setCell y_ _).setCell y_ _
 .let ⟨hl,ht,_⟩:=kN I hh
  rw [hh] at ac;have ae:=Hd ac;obtain ⟨ad,ab,rfl,ai,_,hc⟩:=dK.at_ h (k:=Xa (fj im) s) o_;let ⟨q,hq⟩:=nm (im[Xa (fj im) s]);rw [<-hq] at hc;clear hq ht hh ac;let ⟨P,hP⟩:=nm (Xa (fj im) s);rw [<-hP] at ae hc hl ab;clear hP;obtain ⟨qi,qs,ql⟩:=q;have hP:P<n:=o_;clear h I ab hl;go_enter func185,ntmps185;go_wp2_with fail;refine (ae _ (dL)).mono ?_;rintro e w1 ⟨rfl,F⟩;have O:=Mem.c_.a_ (Xu (w:=w) (t:=223) (cs:= #[T_ ⟨#[]⟩,I_ J_ 0,I_ J_ 0])) F;have X:C w1 w.heap.size 0 (T_ ⟨#[]⟩):=O.cell 0;have V:C w1 w.heap.size 1 (I_ J_ 0):=O.cell 1;have aa:C w1 w.heap.size 2 (I_ J_ 0):=O.cell 2;have af:=O.frozen;have U:Bw w w1:=(dL).trans (F.mono y_);have ah:=hc.below U (by rw [Mem.ew];exact ai);obtain ⟨c0,c1,c2⟩:=ah
  dsimp only at c0 c1 c2
  clear O F hc ae;go_wp2;refine bodyPost_ret (v:=U_ #[A_ #[qi,qs,ql],B_ Y']) (by simp [results,results185,go_sem,X,V,aa]) rfl ⟨⟨qi,qs,ql⟩,rfl,?_⟩;exact ((U.setCell y_ _).setCell y_ _).setCell y_ _
def jq (im:List dK) (s:ByteArray) (size round:Int):List dK:=if Xc (fj im) s then im.set (Xa (fj im) s) ⟨s,(im.getD (Xa (fj im) s) ⟨s,0,0⟩).size,round⟩ else im.take (Xa (fj im) s)++⟨s,size,round⟩::im.drop (Xa (fj im) s)
def CU (h:P<im.length):Xh im=Xh (im.take P)++(im[P].cells++Xh (im.drop (P+1))):=by
 rw [<-dK.iE,<-dK.eH,<-Xk h,Xm]
def rq (h:P<im.length) (z:Int):(Xh im).set (P*3+2) (I_ J_ z)=Xh (im.set P ⟨im[P].name,im[P].size,z⟩):=by
 have e:im.set P ⟨im[P].name,im[P].size,z⟩=im.take P++⟨im[P].name,im[P].size,z⟩::im.drop (P+1):=by
  rw [Xd,if_pos h]
 have F:(Xh (im.take P)).length=P*3:=by rw [dK.dO,Xl];congr 1;omega
 rw [e,dK.eH,dK.iE,CU h,Xg _ _ o_,F,Xf];rfl
def CO (n:Nat) (im:List dK) (w:Z') (e:Ending) (w':Z'):Prop:= ∃A' c',e=R_ (S_ A' n c')/\iP w' A' n c' im/\Bw w w'/\ ∀b,Xn A'=X_ b->w.heap.size<=b
def Ax (A:Option WX) (n c:Nat) (im:List dK) (s:ByteArray) (size round:Int) (w:Z') (h:Xv w w.heap.size 3 A n (Xh im)) (hr:Xs (fj im)) (ag:im.length=n) (hn:n<=100000) (hA:A=Y_->n=0/\c=0):
  WW WZ 186 #[S_ A n c,s,size,round] w (CO (jq im s size round).length (jq im s size round) w):=by
 have U:=Aw A n c im s w h hr ag o_;have ac:=Hd (λw' (hb:Bw w w')=>og A n c im w' ((h.below hb).more hb.size) o_ hA);have ai:Xa (fj im) s<=n:=by have:=du.oP (fj im) s;rw [jk] at this;omega
 cases hh:Xc (fj im) s
 .have hI:WY (jq im s size round=im.take (Xa (fj im) s)++⟨s,size,round⟩::im.drop (Xa (fj im) s)):=by
   show _=_
   unfold jq;rw [hh,if_neg d_]
  have hL:WY ((jq im s size round).length=n+1):=by
   show _=_
   rw [hI.o];simp;omega
  rw [hh] at U;have I:=Hd U;let ⟨P,hP⟩:=nm (Xa (fj im) s);rw [<-hP] at I ai hI;generalize jq im s size round=im' at*;clear h hr hh U hP;go_enter func186,ntmps186;go_wp2_with fail;refine I.mono ?_;rintro e w1 ⟨rfl,F⟩;go_wp2_with fail;refine (ac _ F).mono ?_;rintro e w2 ⟨A2,c2,rfl,G,X,(aa:WY _)⟩;have B2:Bw w w2:=F.trans (X.mono F.size);have hz:=B2.size;have aB:=F.size;clear I F X ac;go_wp2_with fail;refine (Cb A2 n c2 P w2.heap.size im ⟨s,size,round⟩ _ (Ro.Row.dy G λk hk=>Xr w2 _ k (Xj G hk)) ai Xu (λc=>by have:=Xj G c;omega) o_).mono ?_;rintro e w3 ⟨A3,c3,rfl,aw,aC,al⟩;have B3:Bw w w3:=(B2.alloc hz _).trans (aC.below z_ (λk hk e=>by have:=aa.o k e;omega));go_wp2;go_ret;rw [hL.o,hI.o];refine ⟨A3,c3,rfl,aw,B3,λb hb=>?_⟩;obtain al|⟨k,hk,ax⟩:=al
  .rw [al] at hb;have:=aa.o b hb;omega
  .have:k=b:=by rw [hk] at hb;simpa using hb
   simp at ax;omega
 .let ⟨hl,ht,ao⟩:=kN hr hh
  have an: ∀(P:Nat) (_:P=Xa (fj im) s) (hl:P<im.length),jq im s size round=im.set P ⟨im[P].name,im[P].size,round⟩:=by
   rintro _ rfl _;unfold jq;rw [hh,if_pos rfl,List.getD_eq_getElem?_getD,List.getElem?_eq_getElem hl,Option.getD_some,ao]
  have hL:WY ((jq im s size round).length=n):=by
   show _=_
   rw [an _ rfl hl];simpa using ag
  rw [hh] at U;have I:=Hd U;let ⟨P,hP⟩:=nm (Xa (fj im) s);have az:P<im.length:=by rw [hP];exact hl
  have hI:=Hd (an P hP az);rw [<-hP] at I ai;clear hl an ht ao
  rename P<im.length=>hl
  generalize jq im s size round=im' at*;clear h hr hh U hP;go_enter func186,ntmps186;go_wp2_with fail;refine I.mono ?_;rintro e w1 ⟨rfl,F⟩;go_wp2_with fail;refine (ac _ F).mono ?_;rintro e w2 ⟨A2,c2,rfl,G,X,(aa:WY _)⟩;have B2:Bw w w2:=F.trans (X.mono F.size);have hz:=B2.size;have aB:=F.size;have aD:=Ro.Row.le G;obtain ⟨gI,off,rfl⟩:=Ro.Row.fe G o_;have hg:=aa gI rfl;have am:P*3+2<(Xh im).length:=by rw [dK.dO];omega
  have ak:=Ro.Row.cell G (P*3+2) am;have af:(Xh im)[P*3+2]=I_ J_ im[P].last:=by
   have:=dK.nL im P 2 hl d_;rw [List.getElem?_eq_getElem am] at this;exact q_ this
  rw [af,<-Xe] at ak;have hfz:=Ro.Row.frozen G;have V:=Xx G (P*3+2) am (I_ J_ round);rw [rq hl,<-Xe] at V;have HS:=Hd V;generalize im[P].last=ls at*;clear I F X ac V G af;go_wp2;go_ret;rw [hL.o,hI.o];exact ⟨X_ ⟨gI,off,Y_⟩,c2,rfl,HS,B2.setCell (by show w.heap.size<=gI;omega) _,λb hb=>by have:=aa.o b hb;omega⟩
def tp {q:Int} (O:Xs (ids bx)) (h:iL bx id q=0):Xc (ids bx) id=Y'/\ ∃F:Xa (ids bx) id<bx.length,pP.lT bx[Xa (ids bx) id].st q≠0:=by
 cases hh:Xc (ids bx) id
 .unfold iL at h
  rw [qZ hh] at h;cases h
 .let ⟨F,G,_⟩:=qY O hh
  refine ⟨rfl,F,?_⟩;unfold iL at h;rw [G] at h
  dsimp only at h
  intro I;rw [if_pos I] at h;cases h
def GQ (bx:List dP) (id:ByteArray) (q:Int):iL bx id q=0\/iL bx id q=4\/iL bx id q=7:=by
 unfold iL;cases Qs bx id with
 |none=>exact .inr (.inl rfl)
 |some p=>dsimp only;split<;>simp
def Good.take {s:St} (h:Good s):Good {s with outs:=s.outs.tail}:=⟨h.rb,h.ri,h.ok,h.nb,h.ni,by have:=h.no;simp;omega⟩
def nB (s:St) (id:ByteArray) (q:Int):Int:=if iL s.bx id q=0 then (if q=1 then 7 else 0) else iL s.bx id q
def FY (s:St) (id:ByteArray) (q round:Int):St:={s with outs:=s.outs.tail,bx:=pJ s.bx (Xa (ids s.bx) id) q (tk s.outs) s.rt round}
def QR (g:Nat) (s:St) (S:Nat->Prop) (id:ByteArray) (q round:Int) (w:Z') (h:At w g s S) (hs:Good s) (hq:(Lit.int .i64 q).wf=Y'):
  WW WZ 113 #[P_ (X_ ⟨g,0,Y_⟩),T_ id,I_ J_ q,I_ J_ round] w λe w'=>(nB s id q≠0->e=R_ (U_ #[B_ Z_,I_ J_ (nB s id q)])/\en S w w' g s)/\(nB s id q=0->e=R_ (U_ #[B_ (tk s.outs),I_ J_ 0])/\en S w w' g (FY s id q round)):=by
 have O:=Hd (Gb g s S id q w h hs hq);have U:=Hd (λw' (U:Bw w w')=>en.dW h U);have X:=GQ s.bx id q;by_cases G:iL s.bx id q=0
 .by_cases I:q=1
  .have V:nB s id q=7:=by unfold nB;rw [if_pos G,if_pos I]
   rw [V];rw [G] at O;have d1:(q==1)=Y':=beq_iff_eq.2 I;generalize Ai s.bx id q=L at*;clear h hs V G X hq I;go_enter func113,ntmps113;go_wp2_with fail;refine O.mono ?_;rintro e w1 ⟨rfl,F⟩;have P1:=Hd (U _ F);clear O U F;go_wp2
   go_ret2
   exact ⟨λ_=>⟨rfl,P1⟩,λc=>by (cases c)⟩
  .have V:nB s id q=0:=by unfold nB;rw [if_pos G,if_neg I]
   let ⟨hh,hl,hn⟩:=tp hs.rb G;have hP:Ai s.bx id q=(Xa (ids s.bx) id:Int):=by unfold Ai;rw [if_pos G]
   rw [V];rw [G,hP] at O;have d1:(q==1)=Z_:=beq_eq_false_iff_ne.2 I;have hA:WY (∀w',Bw w w'->At w' g s (ext S w w')):=λw' F=>(U w' F).at_
   have ab:WY (∀w2 S2,At w2 g {s with outs:=s.outs.tail} S2->WW WZ 170 #[P_ (X_ ⟨g,0,Y_⟩),I_ J_ (Xa (ids s.bx) id),I_ J_ q,B_ (tk s.outs),I_ J_ round] w2 λe w'=>e=R_ (U_ #[])/\en S2 w2 w' g (FY s id q round)):=
    λw2 S2 h2=>GR g {s with outs:=s.outs.tail} S2 (Xa (ids s.bx) id) q (tk s.outs) round w2 h2 hs.take hl hq hn
   have ae:WY (∀w1 S1,At w1 g s S1->WW WZ 169 #[P_ (X_ ⟨g,0,Y_⟩)] w1 λe w'=>e=R_ (B_ (tk s.outs))/\en S1 w1 w' g {s with outs:=s.outs.tail}):=λw1 S1 I=>yk g s S1 w1 I
   generalize FY s id q round=s2 at*;generalize Xa (ids s.bx) id=P at*;generalize tk s.outs=eD at*;obtain ⟨s1,ac⟩: ∃s1:St,s1={s with outs:=s.outs.tail}:=⟨_,rfl⟩;rw [<-ac] at ab ae;clear h hs V G X hq I hh hn hP ac;go_enter func113,ntmps113;go_wp2_with fail;refine O.mono ?_;rintro e w1 ⟨rfl,F⟩;have P1:=Hd (U _ F);clear O;go_wp2_with fail;refine (ae _ _ P1.at_).mono ?_;rintro e w2 ⟨rfl,af⟩;have P2:=Hd (P1.trans af);clear af;go_wp2_with fail;refine (ab _ _ P2.at_).mono ?_;rintro e w3 ⟨rfl,ah⟩;have P3:=Hd (P2.trans ah);clear ah;go_wp2
   go_ret2
   exact ⟨λc=>absurd rfl c,λ_=>⟨rfl,P3⟩⟩
 .have V:nB s id q=iL s.bx id q:=by unfold nB;rw [if_neg G]
  rw [V];have d0:(iL s.bx id q==0)=Z_:=beq_eq_false_iff_ne.2 G;have al:=Hd G;generalize Ai s.bx id q=L at*;generalize iL s.bx id q=E at*;clear h hs V G X hq;go_enter func113,ntmps113;go_wp2_with fail;refine O.mono ?_;rintro e w1 ⟨rfl,F⟩;have P1:=Hd (U _ F);clear O U F;go_wp2
  go_ret2
  exact ⟨λ_=>⟨rfl,P1⟩,λc=>absurd c al⟩
def ti {F:Z'} {s:St} {S:Nat->Prop} {G:List dK} (h:At w g s S) (V:Bw w F) (U:iP F A' n' c' G) (hA: ∀b,Xn A'=X_ b->w.heap.size<=b):
  (∃v,F.cell? ⟨g,3,Y_⟩=X_ v)/\(∀o,F.frozen? ⟨g,o,Y_⟩=Z_)/\en S w (F.setCell ⟨g,3,Y_⟩ (S_ A' n' c')) g {s with im:=G}:=by
 let ⟨AQ,nq,cq,AB,nb,cb,AI,ni,ci,h⟩:=h;have O:=h.dy (w':=F) (λk I _=>V.block k I);refine ⟨⟨_,O.dr.cell 3⟩,O.dr.frozen,?_⟩;have X:jG F g s (ext S w F) AQ nq cq AB nb cb AI ni ci:=O.mono λ_ _ c=> .inl c
 have h3:=X.TC U (λk I=> .inr ⟨hA k I,Xj U I⟩);refine ⟨(show At _ g _ (ext S w F) from ⟨_,_,_,_,_,_,_,_,_,h3⟩).mono λk _ c=>?_,(Xt V).trans (Xb _ _ _) λk _ e=>by rw [e];exact h.sg⟩;exact zG
def kK (s:St) (name:ByteArray):Bool:=if Xc (fj s.im) name then Y' else tk s.outs
def lD (s:St) (id name:ByteArray) (size round:Int):St:={s with outs:=if Xc (fj s.im) name then s.outs else s.outs.tail,bx:=pJ s.bx (Xa (ids s.bx) id) 1 (kK s name) s.rt round,im:=if kK s name then jq s.im name size round else s.im}
def Ue {p:Prop} (h:p:=by
 rintro e w4 ⟨rfl,(P4:Hid _)⟩;clear V;obtain ⟨aS,aP,aQ,aV,aX,aT,ah,ai,al,h4⟩:=P4.at_;have aN:C w4 g 3 (S_ ah ai al):=h4.dr.cell 3;have aa:=Hd (Ax ah ai al s2.im name size round w4 h4.i.sl (by rw [U.o];exact aC) h4.lens.2.2 (by have:=h4.lens.2.2;rw [U.o] at this;omega) (gy h4.i));rw [U.o] at aa;clear h4;go_wp2_with fail;refine aa.mono ?_;rintro e w5 ⟨A5,c5,rfl,aA,aD,aB⟩;obtain ⟨⟨v5,aM⟩,aY,ap⟩:=ti P4.at_ aD aA aB;have P5:=Hd (P4.trans ap);clear ap aa;go_wp2_with fail
 go_ret3
 exact ⟨λc=>absurd rfl c,λ_=>⟨rfl,(G _).mp P5⟩⟩):p:=h
def LK (g:Nat) (s:St) (S:Nat->Prop) (id name:ByteArray) (size round:Int) (w:Z') (h:At w g s S) (hs:Good s):
  WW WZ 128 #[P_ (X_ ⟨g,0,Y_⟩),T_ id,T_ name,I_ J_ size,I_ J_ round] w λe w'=>(iL s.bx id 1≠0->e=R_ (U_ #[B_ Z_,B_ Z_,I_ J_ (iL s.bx id 1)])/\en S w w' g s)/\(iL s.bx id 1=0->e=R_ (U_ #[B_ (kK s name),B_ (kK s name&& !Xc (fj s.im) name),I_ J_ 0])/\en S w w' g (lD s id name size round)):=by
 have hm:=Hd (Gb g s S id 1 w h hs d_);have hb:=Hd (λw' (hb:Bw w w')=>en.dW h hb);by_cases h0:iL s.bx id 1=0
 .let ⟨hh,hl,hn⟩:=tp hs.rb h0
  have hP:Ai s.bx id 1=(Xa (ids s.bx) id:Int):=by unfold Ai;rw [if_pos h0]
  rw [h0,hP] at hm;rw [h0];have af:WY (∀X,Bw w X->WW WZ 169 #[P_ (X_ ⟨g,0,Y_⟩)] X λe w'=>e=R_ (B_ (tk s.outs))/\en S w w' g {s with outs:=s.outs.tail}):=
   λX hX=>(yk g s _ X (hb X hX).at_).mono λe w' h2=>⟨h2.1,(hb X hX).trans h2.2⟩
  have ak:WY (∀w3 eD,en S w w3 g {s with outs:=s.outs.tail}->WW WZ 170 #[P_ (X_ ⟨g,0,Y_⟩),I_ J_ (Xa (ids s.bx) id),I_ J_ 1,B_ eD,I_ J_ round] w3 λe w'=>e=R_ (U_ #[])/\en S w w' g {s with outs:=s.outs.tail,bx:=pJ s.bx (Xa (ids s.bx) id) 1 eD s.rt round}):=
   λw3 eD h3=>(GR g {s with outs:=s.outs.tail} _ (Xa (ids s.bx) id) 1 eD round w3 h3.at_ hs.take hl d_ hn).mono λe w' h2=>⟨h2.1,h3.trans h2.2⟩
  have an:WY (∀X eD,Bw w X->WW WZ 170 #[P_ (X_ ⟨g,0,Y_⟩),I_ J_ (Xa (ids s.bx) id),I_ J_ 1,B_ eD,I_ J_ round] X λe w'=>e=R_ (U_ #[])/\en S w w' g {s with bx:=pJ s.bx (Xa (ids s.bx) id) 1 eD s.rt round}):=
   λX eD hX=>(GR g s _ (Xa (ids s.bx) id) 1 eD round X (hb X hX).at_ hs hl d_ hn).mono λe w' h2=>⟨h2.1,(hb X hX).trans h2.2⟩
  have aC:=hs.ri;have hni:=hs.ni;let ⟨AQ,nq,cq,AB,nb,cb,AI,ni,ci,hL⟩:=h;have aK:=hL.lens.2.2;have m3:C w g 3 (S_ AI ni ci):=hL.dr.cell 3;have hg:=hL.dr.lt;have I:WY (∀w1,Bw w w1->WW WZ 185 #[S_ AI ni ci,T_ name] w1 λe w'=> ∃p:dK,e=R_ (U_ #[A_ p.arr,B_ (Xc (fj s.im) name)])/\Bw w1 w'):=
   λw1 F=>uN AI ni ci s.im name w1 ((hL.i.sl.below F).more F.size) aC aK o_
  clear hL hs hn hh hP h0 hl;cases hth:Xc (fj s.im) name
  .have hW:kK s name=tk s.outs:=by unfold kK;rw [hth];rfl
   have eS:lD s id name size round={s with outs:=s.outs.tail,bx:=pJ s.bx (Xa (ids s.bx) id) 1 (tk s.outs) s.rt round,im:=if tk s.outs then jq s.im name size round else s.im}:=by
    unfold lD;rw [hW,hth];rfl
   rw [hW];rw [hth] at I;have G:WY (∀w',en S w w' g {s with outs:=s.outs.tail,bx:=pJ s.bx (Xa (ids s.bx) id) 1 (tk s.outs) s.rt round,im:=if tk s.outs then jq s.im name size round else s.im}↔en S w w' g (lD s id name size round)):=by
    intro w';rw [eS]
   clear hth hW an eS;generalize lD s id name size round=sf at*;generalize Xa (ids s.bx) id=P at*;let ⟨tb,aG⟩:=nm (tk s.outs);rw [<-aG] at G af |-;clear aG;cases tb
   .simp only [Xq,if_false,if_true] at G
    obtain ⟨s2,O⟩: ∃s2:St,s2={s with outs:=s.outs.tail,bx:=pJ s.bx P 1 Z_ s.rt round}:=⟨_,rfl⟩;have U:WY (s2.im=s.im):=by rw [O];rfl
    have V:WY (∀w3,en S w w3 g {s with outs:=s.outs.tail}->WW WZ 170 #[P_ (X_ ⟨g,0,Y_⟩),I_ J_ P,I_ J_ 1,B_ Z_,I_ J_ round] w3 λe w'=>e=R_ (U_ #[])/\en S w w' g s2):=by rw [O];exact λw3 h3=>ak w3 Z_ h3
    have G:WY (∀w',en S w w' g s2↔en S w w' g sf):=by rw [O];exact G
    clear ak O;go_enter func128,ntmps128;go_wp2_with fail;refine hm.mono ?_;rintro e w1 ⟨rfl,F⟩;have am:C w1 g 3 (S_ AI ni ci):=(F.cell (p:=⟨g,3,Y_⟩) hg).trans m3;clear hm;go_wp2_with fail;refine (I w1 F).mono ?_;rintro e w2 ⟨⟨pn,ps,pl⟩,rfl,ac⟩;have B2:Bw w w2:=F.trans (ac.mono F.size);unfold dK.arr
    dsimp only
    have hz:=B2.size;clear I am F ac;go_wp2_with fail;refine (af _ ?hb).mono ?_
    case hb=>exact B2.alloc hz _
    rintro e w3 ⟨rfl,(P3:WY _)⟩;clear af;go_wp2_with fail;refine (V _ P3).mono ?_;rintro e w4 ⟨rfl,(P4:WY _)⟩;clear V;go_wp2
    go_ret3
    exact ⟨λc=>absurd rfl c,λ_=>⟨rfl,(G _).mp P4⟩⟩
   .simp only [Xq,if_false,if_true] at G
    obtain ⟨s2,O⟩: ∃s2:St,s2={s with outs:=s.outs.tail,bx:=pJ s.bx P 1 Y' s.rt round}:=⟨_,rfl⟩;have U:WY (s2.im=s.im):=by rw [O];rfl
    have V:WY (∀w3,en S w w3 g {s with outs:=s.outs.tail}->WW WZ 170 #[P_ (X_ ⟨g,0,Y_⟩),I_ J_ P,I_ J_ 1,B_ Y',I_ J_ round] w3 λe w'=>e=R_ (U_ #[])/\en S w w' g s2):=by rw [O];exact λw3 h3=>ak w3 Y' h3
    have G:WY (∀w',en S w w' g {s2 with im:=jq s.im name size round}↔en S w w' g sf):=by rw [O];exact G
    clear ak O;go_enter func128,ntmps128;go_wp2_with fail;refine hm.mono ?_;rintro e w1 ⟨rfl,F⟩;have am:C w1 g 3 (S_ AI ni ci):=(F.cell (p:=⟨g,3,Y_⟩) hg).trans m3;clear hm;go_wp2_with fail;refine (I w1 F).mono ?_;rintro e w2 ⟨⟨pn,ps,pl⟩,rfl,ac⟩;have B2:Bw w w2:=F.trans (ac.mono F.size);unfold dK.arr
    dsimp only
    have hz:=B2.size;clear I am F ac;go_wp2_with fail;refine (af _ ?hb).mono ?_
    case hb=>exact B2.alloc hz _
    rintro e w3 ⟨rfl,(P3:WY _)⟩;clear af;go_wp2_with fail;refine (V _ P3).mono ?_;exact Ue
  .have hW:kK s name=Y':=by unfold kK;rw [hth];rfl
   have eS:lD s id name size round={s with bx:=pJ s.bx (Xa (ids s.bx) id) 1 Y' s.rt round,im:=jq s.im name size round}:=by
    unfold lD;rw [hW,hth];rfl
   rw [hW];rw [hth] at I;have G:WY (∀w',en S w w' g {s with bx:=pJ s.bx (Xa (ids s.bx) id) 1 Y' s.rt round,im:=jq s.im name size round}↔en S w w' g (lD s id name size round)):=by
    intro w';rw [eS]
   clear hth hW ak af eS;generalize lD s id name size round=sf at*;generalize Xa (ids s.bx) id=P at*;obtain ⟨s2,O⟩: ∃s2:St,s2={s with bx:=pJ s.bx P 1 Y' s.rt round}:=⟨_,rfl⟩;have U:WY (s2.im=s.im):=by rw [O];rfl
   have V:WY (∀X,Bw w X->WW WZ 170 #[P_ (X_ ⟨g,0,Y_⟩),I_ J_ P,I_ J_ 1,B_ Y',I_ J_ round] X λe w'=>e=R_ (U_ #[])/\en S w w' g s2):=by rw [O];exact λX h3=>an X Y' h3
   have G:WY (∀w',en S w w' g {s2 with im:=jq s.im name size round}↔en S w w' g sf):=by rw [O];exact G
   clear an O;go_enter func128,ntmps128;go_wp2_with fail;refine hm.mono ?_;rintro e w1 ⟨rfl,F⟩;have am:C w1 g 3 (S_ AI ni ci):=(F.cell (p:=⟨g,3,Y_⟩) hg).trans m3;clear hm;go_wp2_with fail;refine (I w1 F).mono ?_;rintro e w2 ⟨⟨pn,ps,pl⟩,rfl,ac⟩;have B2:Bw w w2:=F.trans (ac.mono F.size);unfold dK.arr
   dsimp only
   have hz:=B2.size;clear I am F ac;go_wp2_with fail;refine (V _ ?hb).mono ?_
   case hb=>exact B2.alloc hz _
   exact Ue
 .have aW:=Hd h0
  have d0:(iL s.bx id 1==0)=Z_:=beq_eq_false_iff_ne.2 h0;generalize Ai s.bx id 1=L at*;generalize iL s.bx id 1=E at*;clear h hs h0;go_enter func128,ntmps128;go_wp2_with fail;refine hm.mono ?_;rintro e w1 ⟨rfl,F⟩;have P1:=Hd (hb _ F);clear hm hb F;go_wp2
  go_ret3
  exact ⟨λ_=>⟨rfl,P1⟩,λc=>absurd c aW⟩
def ix (im:List dK) (s:ByteArray):List dK:=if Xc (fj im) s then im.take (Xa (fj im) s)++im.drop (Xa (fj im) s+1) else im
def LM (n:Nat) (f:Bool) (im:List dK) (w:Z') (e:Ending) (w':Z'):Prop:= ∃A' c',e=R_ (U_ #[S_ A' n c',f])/\iP w' A' n c' im/\Bw w w'/\ ∀b,Xn A'=X_ b->w.heap.size<=b
def QS (A:Option WX) (n c:Nat) (im:List dK) (s:ByteArray) (w:Z') (h:Xv w w.heap.size 3 A n (Xh im)) (hr:Xs (fj im)) (V:im.length=n) (hn:n<=100000) (hA:A=Y_->n=0/\c=0):
  WW WZ 178 #[S_ A n c,s] w (LM (ix im s).length (Xc (fj im) s) (ix im s) w):=by
 have O:=Aw A n c im s w h hr V o_;have ac:=Hd (λw' (hb:Bw w w')=>og A n c im w' ((h.below hb).more hb.size) o_ hA);cases hh:Xc (fj im) s
 .have hI:WY (ix im s=im):=by
   show _=_
   unfold ix;rw [hh,if_neg d_]
  have hL:WY ((ix im s).length=n):=by
   show _=_
   rw [hI.o,V]
  rw [hh] at O;have G:=Hd O;generalize Xa (fj im) s=P at*;generalize ix im s=im' at*;clear h hr hh O;go_enter func178,ntmps178;go_wp2_with fail;refine G.mono ?_;rintro e w1 ⟨rfl,F⟩;go_wp2_with fail;refine (ac _ F).mono ?_;rintro e w2 ⟨A2,c2,rfl,(aa:WY _),I,(ab:WY _)⟩;have B2:=Hd (F.trans (I.mono F.size));have ap:=F.size;clear G F I ac;go_wp2
  go_ret2
  rw [hL.o,hI.o];exact ⟨A2,c2,rfl,aa,B2,λb hb=>by have:=ab.o b hb;omega⟩
 .let ⟨hl,ht,an⟩:=kN hr hh
  have af: ∀(P:Nat) (_:P=Xa (fj im) s),ix im s=im.take P++im.drop (P+1):=by
   rintro _ rfl;unfold ix;rw [hh,if_pos rfl]
  rw [hh] at O;have G:=Hd O;let ⟨P,hP⟩:=nm (Xa (fj im) s);have hl':P<im.length:=by rw [hP];exact hl
  have hI:=Hd (af P hP);have hL:WY ((ix im s).length=n - 1):=by
   show _=_
   rw [hI.o];simp;omega
  rw [<-hP] at G;clear hl af ht an
  rename P<im.length=>hl
  generalize ix im s=im' at*;clear h hr hh O hP;go_enter func178,ntmps178;go_wp2_with fail;refine G.mono ?_;rintro e w1 ⟨rfl,F⟩;go_wp2_with fail;refine (ac _ F).mono ?_;rintro e w2 ⟨A2,c2,rfl,X,I,(ab:WY _)⟩;have B2:=Hd (F.trans (I.mono F.size));have ap:=F.size;have hz2:=I.size;have HD:=Hd (CR A2 n c2 P im w2 (V▸X) o_ o_);clear G F I ac X;go_wp2_with fail;refine HD.mono ?_;rintro e w3 ⟨rfl,(HR:WY _),ah⟩;have B3:=Hd (B2.trans (Ro.dt.below ah o_ (λk hk e=>by have:=ab.o k e;omega)));clear HD ah B2;go_wp2
  go_ret2
  rw [hL.o,hI.o];exact ⟨A2,c2,rfl,HR,B3,λb hb=>by have:=ab.o b hb;omega⟩
def tj {s I:St} {S:Nat->Prop} {F:List dK} (h:At w g s S) (hb:Bw w w1) (V:en (λk=>S k/\k<w.heap.size) w1 w2 g I) (hR:iP w1 A' n' c' F) (hA: ∀b,Xn A'=X_ b->w.heap.size<=b):
  (∃v,w2.cell? ⟨g,3,Y_⟩=X_ v)/\(∀o,w2.frozen? ⟨g,o,Y_⟩=Z_)/\en S w w2 g I/\en S w (w2.setCell ⟨g,3,Y_⟩ (S_ A' n' c')) g {I with im:=F}:=by
 have hz:=hb.size;have hz2:=V.only.size;have O:Xw S w w2:=(Xt hb).trans V.only (λk _ c=>c.1);have aa:S g:=by let ⟨_,_,_,_,_,_,_,_,_,h⟩:=h;exact h.sg
 have G:At w2 g I (ext S w w2):=V.at_.mono λk _ c=>by
  obtain c|c:=c
  .exact .inl c.1
  .exact .inr ⟨o_,c.2⟩
 have U:iP w2 A' n' c' F:=Ro.Row.only hR V.only (λk X c=>by have:=hA k X;omega);have P2:en S w w2 g I:=⟨G,O⟩;obtain ⟨AQ,nq,cq,AB,nb,cb,AI,ni,ci,G⟩:=G;refine ⟨⟨_,G.dr.cell 3⟩,G.dr.frozen,P2,?_⟩;have h3:=G.TC U (λk X=> .inr ⟨hA k X,Xj U X⟩);refine ⟨(show At _ g _ (ext S w w2) from ⟨_,_,_,_,_,_,_,_,_,h3⟩).mono λk _ c=>?_,O.trans (Xb _ _ _) λk _ e=>by rw [e];exact aa⟩;exact zG
def wH (s:St) (name:ByteArray):St:={s with outs:=s.outs.tail,im:=if tk s.outs then ix s.im name else s.im}
def LL (g:Nat) (s:St) (S:Nat->Prop) (name:ByteArray) (w:Z') (h:At w g s S) (hs:Good s):
  WW WZ 121 #[P_ (X_ ⟨g,0,Y_⟩),name] w λe w'=>(Xc (fj s.im) name=Z_->e=R_ (U_ #[B_ Z_,I_ J_ 4])/\en S w w' g s)/\(Xc (fj s.im) name=Y'->e=R_ (U_ #[B_ (tk s.outs),I_ J_ 0])/\en S w w' g (wH s name)):=by
 have hb:=Hd (λw' (hb:Bw w w')=>en.dW h hb);have H:=Hd h;have ag:=hs.ri;have hni:=hs.ni;have HP:WY (∀X,Bw w X->WW WZ 169 #[P_ (X_ ⟨g,0,Y_⟩)] X λe w'=>e=R_ (B_ (tk s.outs))/\en (λk=>S k/\k<w.heap.size) X w' g {s with outs:=s.outs.tail}):=
  λX hX=>yk g s _ X ((h.mono (T:=λk=>S k/\k<w.heap.size) λk hk c=>⟨c,hk⟩).below hX)
 let ⟨AQ,nq,cq,AB,nb,cb,AI,ni,ci,hL⟩:=h;have aK:=hL.lens.2.2;have m3:C w g 3 (S_ AI ni ci):=hL.dr.cell 3;have F:=Hd (QS AI ni ci s.im name w hL.i.sl ag aK o_ (gy hL.i));clear hL hs ag;cases hh:Xc (fj s.im) name
 .rw [hh] at F
  clear hh HP;generalize (ix s.im name).length=nn at*;go_enter func121,ntmps121;go_wp2_with fail;refine F.mono ?_;rintro e w1 ⟨A',c',rfl,aa,G,V⟩;have P1:=Hd (hb _ G);clear F aa G V hb;go_wp2
  go_ret2
  exact ⟨λ_=>⟨rfl,P1⟩,λc=>(by cases c)⟩
 .rw [hh] at F
  clear hh;have hS:WY (∀b,tk s.outs=b->wH s name={s with outs:=s.outs.tail,im:=if b then ix s.im name else s.im}):=by
   rintro _ rfl;rfl
  generalize (ix s.im name).length=nn at*;let ⟨tb,I⟩:=nm (tk s.outs);have eS:=Hd (hS tb I.symm);rw [<-I] at HP |-;clear I hS;cases tb
  .go_enter func121,ntmps121
   go_wp2_with fail;refine F.mono ?_;rintro e w1 ⟨A',c',rfl,(HR:WY _),(U:WY _),(HA:WY _)⟩;clear F hb;go_wp2_with fail;refine (HP _ U).mono ?_;rintro e w2 ⟨rfl,O⟩;have P2:=Hd (tj H U O HR HA).2.2.1;clear HP O;go_wp2
   go_ret2
   exact ⟨λc=>(by cases c),λ_=>⟨rfl,by rw [eS.o];exact P2⟩⟩
  .go_enter func121,ntmps121
   go_wp2_with fail;refine F.mono ?_;rintro e w1 ⟨A',c',rfl,(HR:WY _),(U:WY _),(HA:WY _)⟩;clear F hb;go_wp2_with fail;refine (HP _ U).mono ?_;rintro e w2 ⟨rfl,O⟩;obtain ⟨⟨v,k3⟩,kf,_,(P3:WY _)⟩:=tj H U O HR HA;clear HP O;go_wp2
   go_ret2
   exact ⟨λc=>(by cases c),λ_=>⟨rfl,by rw [eS.o];exact P3⟩⟩
end Wo
end
section
namespace Wo
def Gi (h:a.toList=b.toList):a=b:=by
 rw [Xo,Xo] at h;obtain ⟨⟨x⟩⟩:=a;obtain ⟨⟨y⟩⟩:=b;simpa using h
end Wo
end
section
open _root_.Go.Proofs.Tryz Go.RowKit
namespace Wo
def sY {a b:Bool} (h:a=b):Ending.returned (B_ a)=R_ (B_ b):=by rw [h]
def Strs (w:Z') (B:Nat) (A:Option WX) (n:Nat) (us:List ByteArray):Prop:=Xv w B 1 A n (us.map Value.string)
section
variable {w w':Z'} {B n:Nat} {A:Option WX} {us:List ByteArray}
def Strs.len (h:Strs w B A n us):us.length=n:=by have:=h.1;simpa using this
def Strs.at_ (h:Strs w B A n us) (I:k<n): ∃(ad:WX) (t:ByteArray) (F:k<us.length),A=X_ ad/\ad.block<B/\us[k]=t/\w.cell? (ad.add k)=X_ (T_ t):=by
 let ⟨ad,F,e,G,hc⟩:=Mem.Sl.at_ h I;exact ⟨ad,_,by simpa using F,e,G,rfl,by simpa using hc⟩
end
def Cw (hk:k<l.length) (e:l[k]=s):Xc l s=Y':=du.fO.2 (by rw [<-e];exact g_ hk)
def Gh (h: ∀(j:Nat) (F:j<l.length),l[j]≠s):Xc l s=Z_:=by
 cases hh:Xc l s
 .rfl
 .let ⟨j,F,e⟩:=List.getElem_of_mem (du.fO.1 hh)
  exact absurd e (h j F)
def PG (A:Option WX) (n c B:Nat) (us:List ByteArray) (s:ByteArray) (w:Z') (h:Strs w B A n us) (hn:n<=1000000):
  WW WZ 12 #[S_ A n c,T_ s] w λe w'=>e=R_ (B_ (Xc us s))/\w'=w:=by
 have Hl:=Hd h.len;have H:=Hd h;clear h;go_enter func12,ntmps12;go_wp2
 go_loop [5] (λvi=> ∃k:Nat,k<=n/\vi=I_ J_ k/\WY (∀(j:Nat) (I:j<us.length),j<k->us[j]≠s)) (λi=>n - (intOf i).toNat)
 .exact ⟨0,o_,rfl,λj I c=>absurd c o_⟩
 .obtain ⟨k,hk,rfl,bc⟩:=hrel
  by_cases aa:k<n
  .obtain ⟨ad,t,V,rfl,_,e,hat⟩:=H.at_ aa
   have U:=Hd e;clear e;by_cases G:t=s
   .subst G
    have F:=Hd (Cw V U);clear U V;go_wp2;go_ret;exact ⟨sY F.symm,rfl⟩
   .have aB:WY (∀(j:Nat) (I:j<us.length),j<k+1->us[j]≠s):=λj I X=>by
     obtain h|h:=Nat.lt_succ_iff_lt_or_eq.1 X
     .exact bc j I h
     .subst h;rw [U.o];exact G
    have hx:(t.toList==s.toList)=Z_:=beq_eq_false_iff_ne.2 (λe=>G (Gi e));clear U V G;go_wp2
    go_round
    .exact ⟨k+1,o_,by go_num,aB⟩
    .simp [intOf];omega
  .obtain rfl:k=n:=o_
   have F:=Hd (Gh (l:=us) (s:=s) (λj I=>bc j I (by rw [Hl.o] at I;exact I)));go_wp2;go_ret;exact ⟨sY F.symm,rfl⟩
def jS (round:Int) (l:List dK) (u:ByteArray):List dK:=if Xc (fj l) u then match l[Xa (fj l) u]? with
 |some p=>l.set (Xa (fj l) u) ⟨p.name,p.size,round⟩
 |none=>l
 else l
def LG (round:Int) (l:List dK) (u:ByteArray):fj (jS round l u)=fj l:=by
 unfold jS;split
 .generalize Xa (fj l) u=P
  cases hp:l[P]? with
  |none=>rfl
  |some p=>
   let ⟨F,_⟩:=List.getElem?_eq_some_iff.1 hp
   show (l.set P _).map (λp=>p.name)=l.map λp=>p.name
   rw [List.map_set];apply List.ext_getElem?;intro j;rw [List.getElem?_set];by_cases e:P=j
   .subst e
    rw [if_pos rfl,if_pos (by simpa using F),List.getElem?_map,hp];rfl
   .rw [if_neg e]
 .rfl
def fZ (round:Int) (im:List dK) (us:List ByteArray):List dK:=us.foldl (jS round) im
def uH (round:Int) (us:List ByteArray): ∀im:List dK,fj (fZ round im us)=fj im:=by
 induction us with
 |nil=>intro im;rfl
 |cons u us ih=>intro im;show fj (fZ round (jS round im u) us)=_;rw [ih,LG]
def FV (round:Int) (us:List ByteArray) (im:List dK):(fZ round im us).length=im.length:=by
 rw [<-jk,uH,jk]
def LH (round:Int) (us:List ByteArray) (k:Nat) (h:k<us.length) (im:List dK):fZ round im (us.take (k+1))=jS round (fZ round im (us.take k)) us[k]:=by
 unfold fZ;rw [Mem.dQ _ _ h,List.foldl_append];rfl
def LI (A A2:Option WX) (n c m d:Nat) (im:List dK) (us:List ByteArray) (round:Int) (w:Z') (h:Xv w w.heap.size 3 A n (Xh im)) (h2:Strs w w.heap.size A2 m us) (hr:Xs (fj im)) (ag:im.length=n) (hn:n<=100000) (hm:m<=10000) (hA:A=Y_->n=0/\c=0):
  WW WZ 165 #[S_ A n c,S_ A2 m d,I_ J_ round] w (CO n (fZ round im us) w):=by
 have ar:=Hd (og A n c im w h o_ hA);have Hl:=Hd ag;have H2:=Hd h2;have Hr:=Hd hr;clear ag h h2 hr hA;go_enter func165,ntmps165;go_wp2_with fail;refine ar.mono ?_;rintro e w2 ⟨A',c',rfl,(HR:WY _),(aB:WY _),(HA:WY _)⟩;clear ar;go_wp2;go_loopw [16] (λvi wr=> ∃k:Nat,k<=m/\vi=I_ J_ k/\WY (Bw w wr)/\WY (iP wr A' n c' (fZ round im (us.take k)))) (λi _=>m - (intOf i).toNat)
 .exact ⟨0,o_,rfl,aB,HR⟩
 .clear HR aB
  obtain ⟨k,hk,rfl,aB,HR⟩:=hrel;by_cases aD:k<m
  .obtain ⟨ad,t,hl,rfl,ax,ht,ay⟩:=(show Strs wr w.heap.size A2 m us from Mem.Sl.below H2 aB).at_ aD
   have HS:=Hd (LH round us k hl im);rw [ht] at HS;have F:=FV round (us.take k) im;have V:=Aw A' n c' (fZ round im (us.take k)) t wr (Ro.Row.sl HR) (by rw [uH];exact Hr) (by rw [F];exact Hl) o_;have G:Xs (fj (fZ round im (us.take k))):=by rw [uH];exact Hr
   have aw:(fZ round im (us.take k)).length=n:=by rw [F];exact Hl
   clear hl ht ax F;generalize fZ round im (us.take k)=L at*;cases hh:Xc (fj L) t
   .have e1:jS round L t=L:=by unfold jS;rw [hh,if_neg d_]
    rw [e1] at HS;rw [hh] at V;have U:=Hd V;generalize Xa (fj L) t=P at*;clear e1 hh V G aw;go_wp2_with fail;refine U.mono ?_;rintro e w3 ⟨rfl,y4⟩;have bC:=Hd (aB.trans (y4.mono aB.size));have aC:=Hd (HR.dy λb hb=>y4.block b (HR.lt hb));clear U y4;go_wp2;go_roundw
    .exact ⟨k+1,o_,by go_num,bC,by show iP _ _ _ _ _;rw [HS.o];exact aC⟩
    .simp [intOf];omega
   .obtain ⟨hl,-,az⟩:=kN G hh
    have e1: ∀P (hP:P<L.length),P=Xa (fj L) t->jS round L t=L.set P ⟨L[P].name,L[P].size,round⟩:=by
     rintro P hP rfl;unfold jS;rw [hh,if_pos rfl,List.getElem?_eq_getElem hP]
    rw [hh] at V;have U:=Hd V;let ⟨P,hP⟩:=nm (Xa (fj L) t);have ai:P<L.length:=by rw [hP];exact hl
    have e2:=e1 P ai hP;rw [e2] at HS;rw [<-hP] at U;clear e1 e2 hh V G az hl hP;have hPn:P<n:=o_;go_wp2_with fail;refine U.mono ?_;rintro e w3 ⟨rfl,y4⟩;have bC:=Hd (aB.trans (y4.mono aB.size));have O:iP w3 A' n c' L:=HR.dy λb hb=>y4.block b (HR.lt hb)
    have hle:=O.le;obtain ⟨gI,off,rfl⟩:=O.fe o_;have hg:=HA gI rfl;have am:P*3+2<(Xh L).length:=by rw [dK.dO];omega
    have ak:=O.cell (P*3+2) am;have af:(Xh L)[P*3+2]=I_ J_ L[P].last:=by
     have:=dK.nL L P 2 ai d_;rw [List.getElem?_eq_getElem am] at this;exact q_ this
    rw [af,<-Xe] at ak;have hfz:=O.frozen;have X:=O.BR (P*3+2) am (I_ J_ round);rw [rq ai,<-Xe] at X;have aA:=Hd X;have hz:=bC.size;generalize L[P].last=ls at*;clear U y4 X O af am;go_wp2;go_roundw
    .exact ⟨k+1,o_,by go_num,bC.setCell (by show w.heap.size<=gI;have:=aB.o.size;omega) _,by show iP _ _ _ _ _;rw [HS.o];exact aA⟩
    .simp [intOf];omega
  .obtain rfl:k=m:=o_
   have he:WY (us.take k=us):=by show _=_;rw [t_ (by have:=H2.o.len;omega)]
   go_wp2;go_ret;have h2:=HR.o;rw [he.o] at h2;exact ⟨A',c',rfl,h2,aB,HA⟩
def GO (g:Nat) (s:St) (S:Nat->Prop) (A2:Option WX) (m d:Nat) (us:List ByteArray) (round:Int) (w:Z') (h:At w g s S) (hs:Good s) (V:Strs w w.heap.size A2 m us) (hm:m<=10000):
  WW WZ 110 #[P_ (X_ ⟨g,0,Y_⟩),S_ A2 m d,I_ J_ round] w λe w'=>e=R_ (U_ #[])/\en S w w' g {s with im:=fZ round s.im us}:=by
 have H:=Hd h;have hni:=hs.ni;let ⟨AQ,nq,cq,AB,nb,cb,AI,ni,ci,hL⟩:=h;have aK:=hL.lens.2.2;have m3:C w g 3 (S_ AI ni ci):=hL.dr.cell 3;have ht:=Hd (LI AI A2 ni ci m d s.im us round w hL.i.sl V hs.ri aK o_ hm (gy hL.i));clear hL V hs aK;go_enter func110,ntmps110;go_wp2_with fail;refine ht.mono ?_;rintro e w1 ⟨A',c',rfl,U,I,O⟩;obtain ⟨⟨v,k3⟩,kf,(H3:WY _)⟩:=ti H I U O;clear ht U I O;exact sJ
end Wo
end
end Go.Proofs.YtkidababfdehlaaGreatDoor
