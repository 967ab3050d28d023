/- Parts of the walk. -/
import Derived.Test.YtkidababfdehlaaGreatDoorQAm
import Derived.Test.YtkidababfdehlaaGreatDoorQAn
import Derived.Test.YtkidababfdehlaaGreatDoorQAt
import Derived.Test.YtkidababfdehlaaGreatDoorQAp
import Derived.Test.YtkidababfdehlaaGreatDoorQAu
import Derived.Test.YtkidababfdehlaaGreatDoorQAr
import Derived.Test.YtkidababfdehlaaGreatDoorQAo
set_option linter.all false
set_option maxRecDepth 100000
set_option maxHeartbeats 64000000
namespace Go.Proofs.YtkidababfdehlaaGreatDoor
open Value renaming int -> I_,bool -> B_,string -> T_,slice -> S_,pointer -> P_,tuple -> U_,agg -> A_
open IntKind renaming i64 -> J_
open Ending renaming returned -> R_
open _root_.Array renaming size -> X_
open Go.World renaming heap -> Y_
open Option renaming some -> Y',none -> Z_
open Bool renaming true -> Z',false -> WW
open Go renaming World -> WX,Value -> WY,Calls -> WZ,Addr -> Xa
open _root_.Go.Proofs.Tryz renaming prog -> Xb
open Wo renaming St -> Xc,Good -> Xj,ids -> XV
open du renaming pos -> Xd,has -> Xe,dY -> Xr
open List renaming getElem_of_mem -> Xf,map_append -> Xi,getElem_set -> Xo,ext_getElem -> Xp,filter_eq_self -> Xq,pairwise_iff_getElem -> Xs,mem_or_eq_of_mem_set -> Xt,getElem_drop -> Xv,foldl_append -> Xw,map_set -> XA,mem_append -> XB,take_append_drop -> XC,mem_append_right -> XD,pairwise_append -> XE,mem_of_mem_take -> XF,mem_of_mem_drop -> XG,mem_append_left -> XH,map_take -> XI,map_drop -> XJ,map_cons -> XK,mem_filterMap -> XM,getElem_take -> XP
open Ro renaming dr -> Xg,Row -> Xl,dt -> Xx
open Mem renaming c_ -> Xh,dQ -> XX
open Ro.dt renaming setCell -> Xk
open List.Pairwise renaming sublist -> Xm,nil -> XR
open Go.Value renaming bool -> Xn,string -> Xz
open Nat renaming zero_le -> Xu,lt_trichotomy -> XO,le_of_not_lt -> XS
open dX renaming flat -> Xy
open Dk renaming Ds -> XL
open dq renaming flat -> XN
open List.Sublist renaming refl -> XQ
open Go.Builtin renaming append_ -> XT
open dA renaming flat -> XU
open et renaming flat -> XW
variable {cs cs':Array WY} {name:ByteArray} {q size:Int} {zs:List Int} {Za' Zr':List Nat} {F vs xs:List WY} {l:List dq} {G c c' d e e' g i j k m n n':Nat} {A A' A2:Option Xa} {P:Program} {t:TypeId} {u v1 v2 v3 v4 v5:WY} {U V w w2:WX} {x:dq}
open _root_.Go.Proofs.Tryz Go.RowKit
section
open Go.Maps
namespace Nd
open Dk Bs Ck
open fC (dE)
open Classical
def plain (w:WX) (k:Nat):Prop:= ∃cs t,w.heap[k]?=Y' (.cells cs t (0,0))
def may (J:Nat->Prop) (W w:WX) (b':Nat->Nat) (k:Nat):Prop:=X_ (Y_ W)<=k/\(J (b' k)\/ ¬plain w k)
structure dJ (J:Nat->Prop) (W w w':WX) (b' col':Nat->Nat):Prop where
 block: ∀k,k<w.heap.size-> ¬may J W w b' k->w'.heap[k]?=w.heap[k]?
 b': ∀k,k<w.heap.size-> ¬may J W w b' k->col' k=b' k
def dN (w:WX) (b' f:Nat->Nat) (k:Nat):Nat:=if k<X_ (Y_ w) then b' k else f k
section
variable {J J':Nat->Prop} {W w w1 w':WX} {b' col1 col' f:Nat->Nat} {e:TypeId} {k n c g b j:Nat} {A:Option Xa} {xs:List WY} {t:TypeId} {cs:Array WY}
def mi {o:Obj} (h:w.heap[k]?=Y' o):k<X_ (Y_ w):=(Array.getElem?_eq_some_iff.1 h).1
def plain.lt (h:plain w k):k<X_ (Y_ w):=by let ⟨_,_,h⟩:=h;exact mi h
def dJ.refl (J:Nat->Prop) (W w:WX) (b':Nat->Nat):dJ J W w w b' b':=⟨λ_ _ _=>rfl,λ_ _ _=>rfl⟩
def dJ.mono (h:dJ J W w w' b' col') (hJ: ∀c,J c->J' c):dJ J' W w w' b' col':=
 ⟨λk hk hm=>h.block k hk λm=>hm ⟨m.1,m.2.imp (hJ _) id⟩,λk hk hm=>h.b' k hk λm=>hm ⟨m.1,m.2.imp (hJ _) id⟩⟩
def dJ.trans (h:dJ J W w w1 b' col1) (I:dJ J W w1 w' col1 col'):dJ J W w w' b' col':=by
 have key: ∀k,k<X_ (Y_ w)-> ¬may J W w b' k->k<X_ (Y_ w1)/\ ¬may J W w1 col1 k:=by
  intro k G F;have O:=h.block k G F;have hc:=h.b' k G F;obtain ⟨o,U⟩: ∃o,w.heap[k]?=Y' o:=⟨_,Array.getElem?_eq_getElem G⟩;refine ⟨mi (O.trans U),λm=>F ⟨m.1,m.2.imp (λz=>by rw [<-hc];exact z) λz p=>z ?_⟩⟩;obtain ⟨cs,t,V⟩:=p;exact ⟨cs,t,O.trans V⟩
 exact ⟨λk G F=>(I.block k (key k G F).1 (key k G F).2).trans (h.block k G F),λk G F=>(I.b' k (key k G F).1 (key k G F).2).trans (h.b' k G F)⟩
def fL (h:k<X_ (Y_ w)):dN w b' f k=b' k:=if_pos h
def fv (h:X_ (Y_ w)<=k):dN w b' f k=f k:=if_neg o_
def dJ.below (h:Bw w w') (f:Nat->Nat):dJ J W w w' b' (dN w b' f):=⟨λk hk _=>h.block k hk,λ_ hk _=>fL hk⟩
def dJ.only {S:Nat->Prop} (h:Xx S w w') (hS: ∀k,S k->k<X_ (Y_ w)->X_ (Y_ W)<=k/\J (b' k)) (f:Nat->Nat):dJ J W w w' b' (dN w b' f):=
 ⟨λk hk hm=>h.block k hk λs=>hm ⟨(hS k s hk).1,.inl (hS k s hk).2⟩,λ_ hk _=>fL hk⟩
def kG (h:Xl w e k A n c xs) (G:Xg A=Y' g):plain w g:=by
 let ⟨F,hc⟩:=h.type G;exact ⟨F,e,hc⟩
def mj (h:Xh w g t cs):plain w g:=⟨cs,t,h⟩
def dJ.keeps (h:dJ J W w w' b' col') (hp:plain w g) (hc: ¬J (b' g)):w'.heap[g]?=w.heap[g]?/\col' g=b' g:=
 ⟨h.block g hp.lt λm=>m.2.elim hc (λz=>z hp),h.b' g hp.lt λm=>m.2.elim hc (λz=>z hp)⟩
structure eG (w:WX) (b':Nat->Nat) (j:Nat) (e:TypeId) (k:Nat) (A:Option Xa) (n c:Nat) (xs:List WY):Prop where
 row:Xl w e k A n c xs
 b': ∀b,Xg A=Y' b->b' b=j
def eG.ed (h:eG w b' j e k A n c xs) (t:dJ J W w w' b' col') (hJ: ¬J j):eG w' col' j e k A n c xs:=
 ⟨h.row.dy λg hg=>(t.keeps (kG h.row hg) (by rw [h.b' g hg];exact hJ)).1,λg hg=>(t.keeps (kG h.row hg) (by rw [h.b' g hg];exact hJ)).2.trans (h.b' g hg)⟩
def eG.nil:eG w b' j e k Z_ 0 0 []:=⟨Ro.Row.nil,λ_ h=>by cases h⟩
def eG.new (h:Xl w' e k A n c xs) (hn: ∀b,Xg A=Y' b->X_ (Y_ w)<=b) (hf: ∀b,X_ (Y_ w)<=b->f b=j):eG w' (dN w b' f) j e k A n c xs:=
 ⟨h,λb hb=>(fv (hn b hb)).trans (hf b (hn b hb))⟩
structure fQ (w:WX) (b':Nat->Nat) (j g:Nat) (t:TypeId) (cs:Array WY):Prop where
 dr:Xh w g t cs
 b':b' g=j
def fQ.ed (h:fQ w b' j g t cs) (u:dJ J W w w' b' col') (hJ: ¬J j):fQ w' col' j g t cs:=
 ⟨(u.keeps (mj h.dr) (by rw [h.b'];exact hJ)).1.trans h.dr,(u.keeps (mj h.dr) (by rw [h.b'];exact hJ)).2.trans h.b'⟩
def fQ.new (h:Xh w' g t cs) (hn:X_ (Y_ w)<=g) (hf:f g=j):fQ w' (dN w b' f) j g t cs:=⟨h,(fv hn).trans hf⟩
def fQ.eC (h:fQ w b' j g t cs) (i:Nat) (u:WY):fQ (w.setCell ⟨g,i,Z_⟩ u) b' j g t (cs.setIfInBounds i u):=⟨h.dr.eC i u,h.b'⟩
def Fm.mO {D:BQ} (h:Fm W w b' D) (hc: ∀k,k<X_ (Y_ w)->col' k=b' k):Fm W w col' D:=by
 refine ⟨h.base,λk F=>(hc k (by have:=h.base.size;omega)).trans (h.lL k F),h.zero,λi g s G=>(h.at_ i g s G).mono (λk F z=>(hc k F).trans z) (λk F z=>(hc k F).trans z) λk z y=>h.ne G (z.symm.trans y).symm⟩
structure Sys (W w:WX) (b':Nat->Nat) (gd sb gw:Nat) (s:Ds) (v:Int) (rt:Xc):Prop where
 fm:Fm W w b' (Ck.one gd s)
 st:fQ w b' 5 sb 155 (mJ gd v)
 rt:Wo.At w gw rt (λk=>b' k=2)
end
def vK {s:Xc} {S:Nat->Prop} (h:Wo.At w g s S):Wo.At w g s (λk=>S k/\plain w k):=by
 let ⟨AQ,nq,cq,AB,nb,cb,AI,ni,ci,h⟩:=h;exact ⟨AQ,nq,cq,AB,nb,cb,AI,ni,ci,h.dr,h.q,h.b,h.i,⟨h.sg,mj h.dr⟩,λk e=>⟨h.sq k e,kG h.q e⟩,λk e=>⟨h.sb k e,kG h.b e⟩,λk e=>⟨h.si k e,kG h.i e⟩⟩
section
variable {J:Nat->Prop} {W w w':WX} {b' col' f:Nat->Nat} {gd sb gw g j:Nat} {s s':Ds} {v v':Int} {rt rt':Xc}
def Sys.lL (h:Sys W w b' gd sb gw s v rt) (hk:b' k≠0):X_ (Y_ W)<=k:=XS λc=>hk (h.fm.lL k c)
def Sys.mO (h:Sys W w b' gd sb gw s v rt) (hc: ∀k,k<X_ (Y_ w)->col' k=b' k):Sys W w col' gd sb gw s v rt:=
 ⟨Fm.mO h.fm hc,⟨h.st.dr,(hc sb h.st.dr.lt).trans h.st.b'⟩,h.rt.mono λk hk z=>(hc k hk).trans z⟩
def Sys.below (h:Sys W w b' gd sb gw s v rt) (G:Bw w w') (f:Nat->Nat):Sys W w' (dN w b' f) gd sb gw s v rt:=by
 have F:=h.mO (col':=dN w b' f) λk I=>fL I
 exact ⟨h.fm.below G f,⟨F.st.dr.a_ G,F.st.b'⟩,F.rt.below G⟩
def Sys.put {Z:Nat->Prop} (h:Sys W w b' gd sb gw s v rt) (G:Xx Z w w') (V: ∀k,Z k->k<X_ (Y_ w)->b' k=j) (O:j≠0/\j≠1/\j≠2/\j≠5) (f:Nat->Nat):Sys W w' (dN w b' f) gd sb gw s v rt:=by
 have F:=h.mO (col':=dN w b' f) λk I=>fL I
 have U:Xx (λk=>Z k/\k<X_ (Y_ w)) w w':=⟨G.os,G.tape,G.output,G.size,λk I c=>G.block k I λz=>c ⟨z,I⟩⟩;have hc: ∀k,Z k/\k<X_ (Y_ w)->dN w b' f k=j:=λk z=>(fL z.2).trans (V k z.1 z.2)
 refine ⟨F.fm.put U hc (j:=j) ?_ O.1,⟨(U.block sb h.st.dr.lt λz=>O.2.2.2 ((hc sb z).symm.trans F.st.b')).trans h.st.dr,F.st.b'⟩,F.rt.dy λk I c=>U.block k I λz=>O.2.2.1 ((hc k z).symm.trans c)⟩
 show oH _ 1 _ j=Z_
 rw [jF _ _ O.2.1]
def Sys.set (h:Sys W w b' gd sb gw s v rt) {p:Xa} (u:WY) (hj:b' p.block≠0/\b' p.block≠1/\b' p.block≠2/\b' p.block≠5):Sys W (w.setCell p u) b' gd sb gw s v rt:=
 (h.put (f:=b') (Xk w p u) (λk z _=>by rw [z]) hj).mO λk _=>by unfold dN;split<;>rfl
def Sys.asks (h:Sys W w b' gd sb gw s v rt) (V:Wo.en (λk=>b' k=2) w w' gw rt'):Sys W w' (dN w b' λ_=>2) gd sb gw s v rt'/\dJ (λc=>c=2) W w w' b' (dN w b' λ_=>2):=by
 have U:=h.mO (col':=dN w b' λ_=>2) λk I=>fL I
 have F:=V.only;have G:Xx (λk=>b' k=2/\k<X_ (Y_ w)) w w':=⟨F.os,F.tape,F.output,F.size,λk I c=>F.block k I λz=>c ⟨z,I⟩⟩;have hc: ∀k,b' k=2/\k<X_ (Y_ w)->dN w b' (λ_=>2) k=2:=λk z=>(fL z.2).trans z.1
 refine ⟨⟨U.fm.put G hc (j:=2) ?_ d_,⟨(G.block sb h.st.dr.lt λz=>?_).trans h.st.dr,U.st.b'⟩,V.at_.mono λk I c=>?_⟩,?_⟩
 .show oH _ 1 _ 2=Z_
  rw [jF _ _ d_]
 .have:=h.st.b'
  rw [z.1] at this;cases this
 .obtain c|c:=c
  .by_cases O:k<X_ (Y_ w)
   .exact (fL O).trans c
   .exact fv o_
  .exact fv c.1
 .exact dJ.only F (λk z _=>⟨h.lL (by rw [z];decide),z⟩) _
def Ew (w:WX) (b':Nat->Nat) (sb k:Nat):Option (Nat×TypeId×Array WY):=match w.heap[k]? with
 |Y' (.cells cs t fz)=>if fz=(0,0)/\2<=b' k/\k≠sb then Y' (k,t,cs) else Z_
 |_=>Z_
def pD (w:WX) (b':Nat->Nat) (sb:Nat):KL:=(List.range w.heap.size).filterMap (Ew w b' sb)
def nC {x:Nat×TypeId×Array WY} (h:x∈pD w b' sb):Xh w x.1 x.2.1 x.2.2/\2<=b' x.1/\x.1≠sb:=by
 let ⟨k,_,h⟩:=XM.1 h;unfold Ew at h;split at h
 .rename_i cs t fz hk
  split at h
  .rename_i hc
   obtain ⟨rfl,F,G⟩:=hc;cases h;exact ⟨hk,F,G⟩
  .cases h
 .cases h
def kH (F:plain w k) (hc:2<=b' k) (hs:k≠sb): ∃t cs,w.heap[k]?=Y' (.cells cs t (0,0))/\(k,t,cs)∈pD w b' sb:=by
 obtain ⟨cs,t,h⟩:=F;refine ⟨t,cs,h,XM.2 ⟨k,List.mem_range.2 (mi h),?_⟩⟩;unfold Ew;rw [h];exact if_pos ⟨rfl,hc,hs⟩
def Sys.ck (h:Sys W w b' gd sb gw s v rt):CK W w gd s ((sb,155,mJ gd v)::pD w b' sb) []:=by
 refine ⟨λk=>if 2<=b' k then 9 else b' k,⟨h.fm.base,λk I=>?_,h.fm.zero,λi g s O=>?_⟩,λx G=>?_,λx G=>by cases G⟩
 .show (if 2<=b' k then 9 else b' k)=0
  rw [if_neg (by rw [h.fm.lL k I];omega)];exact h.fm.lL k I
 .have hi:i=1:=by
   by_cases e:i=1
   .exact e
   .have F:oH (λ_=>Z_) 1 (gd,s) i=Y' (g,s):=by
     have:=O;unfold Ck.one oH at this;rw [if_neg e] at this;cases this
    unfold oH at F;rw [if_neg e] at F;cases F
  subst hi;refine (h.fm.at_ 1 g s O).mono (λk I c=>?_) (λk I c=>?_) (λk c d=>?_)
  .have c':b' k=1:=c
   show (if 2<=b' k then 9 else b' k)=1
   rw [if_neg o_];exact c'
  .have c':b' k=0:=c
   show (if 2<=b' k then 9 else b' k)=0
   rw [if_neg o_];exact c'
  .have c':(if 2<=b' k then 9 else b' k)=0:=c
   have U:(if 2<=b' k then 9 else b' k)=1:=d;rw [c'] at U;cases U
 .obtain rfl|G:=p_ G
  .exact ⟨h.st.dr,if_pos (by rw [h.st.b'];decide)⟩
  .let ⟨V,X,_⟩:=nC G
   exact ⟨V,if_pos X⟩
def zw (w:WX) (b' col2:Nat->Nat): ∃f:Nat->Nat,(∀k,k<X_ (Y_ w)/\2<=b' k/\plain w k->f k=b' k)/\(∀k,¬(k<X_ (Y_ w)/\2<=b' k/\plain w k)->f k=if col2 k=1 then 1 else 0):=
 ⟨λk=>if k<X_ (Y_ w)/\2<=b' k/\plain w k then b' k else if col2 k=1 then 1 else 0,λ_ h=>if_pos h,λ_ h=>if_neg h⟩
def Sys.Ey {R:RL} (h:Sys W w b' gd sb gw s v rt) (hc:CK W w' gd s' ((sb,155,mJ gd v')::pD w b' sb) R):
  ∃col',Sys W w' col' gd sb gw s' v' rt/\dJ (λc=>c<=1\/c=5) W w w' b' col':=by
 let ⟨G,X,hK,_⟩:=hc;let ⟨F,V,O⟩:=zw w b' G;have aa:=hK _ (m_ ..);have key: ∀k,2<=b' k->plain w k->w'.heap[k]?=w.heap[k]?\/k=sb:=by
  intro k h1 h2;by_cases e:k=sb
  .exact .inr e
  .let ⟨t,cs,h3,h4⟩:=kH h2 h1 e
   exact .inl ((hK _ (n_ _ h4)).1.trans h3.symm)
 have U: ∀k,2<=b' k->plain w k->G k=9:=by
  intro k h1 h2;by_cases e:k=sb
  .subst e;exact aa.2
  .let ⟨t,cs,h3,h4⟩:=kH h2 h1 e
   exact (hK _ (n_ _ h4)).2
 have hT:dJ (λc=>c<=1\/c=5) W w w' b' (F):=by
  have hm: ∀k,k<X_ (Y_ w)-> ¬may (λc=>c<=1\/c=5) W w b' k->k<X_ (Y_ W)\/(2<=b' k/\plain w k/\k≠sb):=by
   intro k I m;by_cases hW:k<X_ (Y_ W)
   .exact .inl hW
   .refine .inr ⟨?_,?_,?_⟩
    .refine XS λc=>m ⟨o_,.inl (.inl o_)⟩
    .exact byContradiction λc=>m ⟨o_,.inr c⟩
    .rintro rfl
     exact m ⟨o_,.inl (.inr h.st.b')⟩
  refine ⟨λk I m=>?_,λk I m=>?_⟩
  .obtain c|⟨c1,c2,c3⟩:=hm k I m
   .exact (X.base.block k c).trans (h.fm.base.block k c).symm
   .exact (key k c1 c2).resolve_right c3
  .obtain c|⟨c1,c2,c3⟩:=hm k I m
   .have e0:=h.fm.lL k c
    rw [O k (by rw [e0];omega),if_neg (by rw [X.lL k c];decide),e0]
   .exact V k ⟨I,c1,c2⟩
 refine ⟨F,⟨⟨X.base,λk I=>?_,X.zero,λi g s2 hD=>?_⟩,⟨aa.1,?_⟩,?_⟩,hT⟩
 .rw [O k (by rw [h.fm.lL k I];omega),if_neg (by rw [X.lL k I];decide)]
 .have hi:i=1:=by
   by_cases e:i=1
   .exact e
   .have:=hD
    unfold Ck.one oH at this;rw [if_neg e] at this;cases this
  subst hi;refine (X.at_ 1 g s2 hD).mono (λk I c=>?_) (λk I c=>?_) (λk c d=>?_)
  .have c':G k=1:=c
   show F k=1
   rw [O k (λz=>by rw [U k z.2.1 z.2.2] at c';cases c'),if_pos c']
  .have c':G k=0:=c
   show F k=0
   rw [O k (λz=>by rw [U k z.2.1 z.2.2] at c';cases c'),if_neg o_]
  .have c':F k=0:=c
   have d':F k=1:=d;rw [c'] at d';cases d'
 .exact (V sb ⟨h.st.dr.lt,by rw [h.st.b'];decide,mj h.st.dr⟩).trans h.st.b'
 .refine ((vK h.rt).dy λk I c=>?_).mono λk I c=>?_
  .have c1:b' k=2:=c.1
   refine (key k o_ c.2).resolve_right λe=>?_
   have:=h.st.b';rw [<-e,c1] at this;cases this
  .have c1:b' k=2:=c.1
   exact (V k ⟨c.2.lt,o_,c.2⟩).trans c1
end
end Nd
end
section
open Wo Tx
namespace Nd
structure AV where
 p:ef
 dD:List dA
 r:Int
 PA:Option Xa
 pc:Nat
 l:List dq
 o0:Bool
 o1:Bool
 o2:Bool
 SA:Option Xa
 sc:Nat
 zs:List Int
 c0:Int
 c1:Int
 c2:Int
 t:Int
 a0:Int
 a1:Int
 a2:Int
 UA:Option Xa
 uc:Nat
 us:List et
 fr:Bool
 eB:Int
 dead:Bool
def AV.arr (x:AV) (gw sb:Nat):Array WY:= #[I_ J_ x.p.c0,I_ J_ x.p.c1,I_ J_ x.p.c2,I_ J_ x.p.a0,I_ J_ x.p.a1,I_ J_ x.p.a2,S_ x.p.A x.p.n x.p.c,I_ J_ x.p.fg,I_ J_ x.p.ret,I_ J_ x.p.fE,I_ J_ x.p.dead,
 P_ (Y' ⟨gw,0,Z_⟩),P_ (Y' ⟨sb,0,Z_⟩),I_ J_ x.r,S_ x.PA x.l.length x.pc,B_ x.o0,B_ x.o1,B_ x.o2,S_ x.SA x.p.n x.sc,I_ J_ x.c0,I_ J_ x.c1,I_ J_ x.c2,
 I_ J_ x.t,I_ J_ x.a0,I_ J_ x.a1,I_ J_ x.a2,S_ x.UA x.us.length x.uc,B_ x.fr,I_ J_ x.eB,B_ x.dead]
structure Ag (w:WX) (b':Nat->Nat) (ga gw sb:Nat) (x:AV):Prop where
 dr:fQ w b' 3 ga 100 (x.arr gw sb)
 qy:eG w b' 3 92 5 x.p.A x.p.n x.p.c (XU x.dD)
 gT:eG w b' 3 58 12 x.PA x.l.length x.pc (XN x.l)
 since:eG w b' 3 3 1 x.SA x.p.n x.sc (x.zs.map (.int .i64))
 use:eG w b' 3 299 4 x.UA x.us.length x.uc (XW x.us)
structure N (W w:WX) (b':Nat->Nat) (gd sb gw ga:Nat) (s:XL) (v:Int) (rt:Xc) (x:AV):Prop where
 sys:Sys W w b' gd sb gw s v rt
 ag:Ag w b' ga gw sb x
section
variable {J J':Nat->Prop} {W w w':WX} {b' col' f:Nat->Nat} {gd sb gw ga gr j i:Nat} {s s':XL} {v v':Int} {rt rt':Xc} {x x':AV}
def Ag.ed (h:Ag w b' ga gw sb x) (t:dJ J W w w' b' col') (hJ: ¬J 3):Ag w' col' ga gw sb x:=
 ⟨h.dr.ed t hJ,h.qy.ed t hJ,h.gT.ed t hJ,h.since.ed t hJ,h.use.ed t hJ⟩
def N.below (h:N W w b' gd sb gw ga s v rt x) (hb:Bw w w') (f:Nat->Nat):N W w' (dN w b' f) gd sb gw ga s v rt x:=
 ⟨h.sys.below hb f,h.ag.ed (J:=λ_=>False) (W:=W) (dJ.below hb f) (λc=>c)⟩
def kZ {T:Nat} (h:Xh w g T cs) (F:Xh w g G cs'):T=G/\cs=cs':=by
 unfold Xh at h F;rw [h] at F;injection F with F
 injection F with h1 h2 _
 exact ⟨h2,h1⟩
def la {T:Nat} (h:Xl w e k A n c xs) (h':Xh w g T cs) (he:e≠T): ∀b,Xg A=Y' b->b≠g:=λb hb=>h.dZ h' he b hb
def eG.set {T:Nat} (h:eG w b' j e k A n c xs) (h':Xh w g T cs) (he:e≠T) (i:Nat) (u:WY):eG (w.setCell ⟨g,i,Z_⟩ u) b' j e k A n c xs:=
 ⟨h.row.only (Xk w ⟨g,i,Z_⟩ u) (λb hb e=>la h.row h' he b hb e),h.b'⟩
def eG.only {Z:Nat->Prop} (h:eG w b' j e k A n c xs) (ho:Xx Z w w') (hz: ∀b,Xg A=Y' b-> ¬Z b) (hc: ∀k,k<X_ (Y_ w)->col' k=b' k):eG w' col' j e k A n c xs:=
 ⟨h.row.only ho hz,λb hb=>(hc b (h.row.lt hb)).trans (h.b' b hb)⟩
def Sys.mI (h:Sys W w b' gd sb gw s v rt) {T:Nat} (G:fQ w b' j g T cs) (F:j≠0/\j≠1/\j≠2/\j≠5) (i:Nat) (u:WY):Sys W (w.setCell ⟨g,i,Z_⟩ u) b' gd sb gw s v rt:=by
 refine h.set (p:=⟨g,i,Z_⟩) u ?_;rw [G.b'];exact F
def dJ.set (h:Sys W w b' gd sb gw s v rt) {T:Nat} (F:fQ w b' j g T cs) (I:j≠0) (G:J j) (i:Nat) (u:WY):dJ J W w (w.setCell ⟨g,i,Z_⟩ u) b' b':=by
 have:=dJ.only (J:=J) (W:=W) (b':=b') (Xk w ⟨g,i,Z_⟩ u) (λk z hk=>by
  have z:k=g:=z;subst z;exact ⟨h.lL (by rw [F.b'];exact I),by rw [F.b'];exact G⟩) b'
 exact ⟨this.block,λ_ _ _=>rfl⟩
def N.asks (h:N W w b' gd sb gw ga s v rt x) (I:Wo.en (λk=>b' k=2) w w' gw rt'):N W w' (dN w b' λ_=>2) gd sb gw ga s v rt' x/\dJ (λc=>c=2) W w w' b' (dN w b' λ_=>2):=by
 let ⟨G,F⟩:=h.sys.asks I;exact ⟨⟨G,h.ag.ed F d_⟩,F⟩
end
structure RV where
 EA:Option Xa
 ec:Nat
 ev:List dX
 HA:Option Xa
 hn:Nat
 hc:Nat
 hs:List Bool
 p0:Bool
 p1:Bool
 p2:Bool
def RV.arr (y:RV) (ga:Nat):Array WY:= #[P_ (Y' ⟨ga,0,Z_⟩),S_ y.EA y.ev.length y.ec,S_ y.HA y.hn y.hc,B_ y.p0,B_ y.p1,B_ y.p2]
structure Rd (w:WX) (b':Nat->Nat) (gr ga:Nat) (y:RV):Prop where
 dr:fQ w b' 8 gr 148 (y.arr ga)
 ev:eG w b' 8 55 4 y.EA y.ev.length y.ec (Xy y.ev)
 hs:eG w b' 8 4 1 y.HA y.hn y.hc (y.hs.map Xn)
section
variable {J J':Nat->Prop} {W w w':WX} {b' col' f:Nat->Nat} {gd sb gw ga gr j i:Nat} {s s':XL} {v v':Int} {rt rt':Xc} {x x':AV} {y y':RV}
def Rd.ed (h:Rd w b' gr ga y) (t:dJ J W w w' b' col') (hJ: ¬J 8):Rd w' col' gr ga y:=⟨h.dr.ed t hJ,h.ev.ed t hJ,h.hs.ed t hJ⟩
def Rd.mI (h:Rd w b' gr ga y) {T:Nat} (F:fQ w b' j g T cs) (I:j≠8) (i:Nat) (u:WY):Rd (w.setCell ⟨g,i,Z_⟩ u) b' gr ga y:=by
 refine Eo ?_;intro G;have key: ∀k,b' k=8->k≠g:=λk O e=>I (by rw [<-F.b',<-e,O])
 exact ⟨⟨(G.block _ h.dr.dr.lt (key _ h.dr.b')).trans h.dr.dr,h.dr.b'⟩,h.ev.only G (λb F e=>key b (h.ev.b' b F) e) (λ_ _=>rfl),h.hs.only G (λb F e=>key b (h.hs.b' b F) e) (λ_ _=>rfl)⟩
def Ag.yb (h:Ag w b' ga gw sb x) {T:Nat} (F:fQ w b' j g T cs) (I:j≠3) (i:Nat) (u:WY):Ag (w.setCell ⟨g,i,Z_⟩ u) b' ga gw sb x:=by
 refine Eo ?_;intro G;have key: ∀k,b' k=3->k≠g:=λk O e=>I (by rw [<-F.b',<-e,O])
 exact ⟨⟨(G.block _ h.dr.dr.lt (key _ h.dr.b')).trans h.dr.dr,h.dr.b'⟩,h.qy.only G (λb F e=>key b (h.qy.b' b F) e) (λ_ _=>rfl),h.gT.only G (λb F e=>key b (h.gT.b' b F) e) (λ_ _=>rfl),h.since.only G (λb F e=>key b (h.since.b' b F) e) (λ_ _=>rfl),h.use.only G (λb F e=>key b (h.use.b' b F) e) (λ_ _=>rfl)⟩
def N.yb (h:N W w b' gd sb gw ga s v rt x) {T:Nat} (hb:fQ w b' j g T cs) (hj:j≠0/\j≠1/\j≠2/\j≠5) (hj3:j≠3) (i:Nat) (u:WY):N W (w.setCell ⟨g,i,Z_⟩ u) b' gd sb gw ga s v rt x:=
 ⟨h.sys.mI hb hj i u,h.ag.yb hb hj3 i u⟩
end
def vm {e:TypeId} {z:WY} {bytes:Nat} (E:Mem.El P t e z k bytes) (h:Xl w e k A n c xs) (cs:Array WY) (G:cs.size=k) (I: ∀u∈cs.toList,u.oneCell'=Z') (hn:n<=100000) (hb:bytes<=1000):
  ∃A' c' w',(XT #[t,t] t #[S_ A n c,S_ (Y' ⟨X_ (Y_ w),0,Z_⟩) 1 1]).run P (w.alloc (.cells cs e))= .ok (S_ A' (n+1) c') w'/\Xl w' e k A' (n+1) c' (xs++cs.toList)/\Xx (λb=>Xg A=Y' b) w w'/\(∀b,Xg A'=Y' b->Xg A=Y' b\/X_ (Y_ w)<=b):=by
 have X:eF {w with heap:= #[]} w e k A n c xs:=⟨⟨rfl,rfl,rfl,Xu _,λk G=>absurd G y_⟩,h,λb _=>Xu _⟩;let ⟨A',c',w',U,F,V,O⟩:=Tq.rl E X cs G I hn hb rfl;exact ⟨A',c',w',U,F.row,V,O⟩
def ma (l:List dX) (z:dX):Xy (l++[z])=Xy l++z.arr.toList:=by simp [Xy,dX.cells,dX.arr]
section
variable {J J':Nat->Prop} {W w w':WX} {b' col' f:Nat->Nat} {gd sb gw ga gr j i:Nat} {s s':XL} {v v':Int} {rt rt':Xc} {x x':AV} {y y':RV}
def Ub (h:N W w b' gd sb gw ga s v rt x) (G:Rd w b' gr ga y) (z:dX) (hn:y.ev.length<=100000):
  ∃(A':Option Xa) (c':Nat) (w2:WX),(XT #[37,37] 37 #[S_ y.EA y.ev.length y.ec,S_ (Y' ⟨X_ (Y_ w),0,Z_⟩) 1 1]).run Xb (w.alloc (.cells z.arr 55))= .ok (S_ A' (y.ev.length+1) c') w2/\
   w2.cell? ⟨gr,1,Z_⟩=Y' (S_ y.EA y.ev.length y.ec)/\w2.frozen? ⟨gr,1,Z_⟩=WW/\ ∃col',N W (w2.setCell ⟨gr,1,Z_⟩ (S_ A' (y.ev.length+1) c')) col' gd sb gw ga s v rt x/\
   Rd (w2.setCell ⟨gr,1,Z_⟩ (S_ A' (y.ev.length+1) c')) col' gr ga {y with EA:=A',ec:=c',ev:=y.ev++[z]}/\dJ (λc=>c=8) W w (w2.setCell ⟨gr,1,Z_⟩ (S_ A' (y.ev.length+1) c')) b' col':=by
 let ⟨A',c',w2,ac,hR,V,hA⟩:=vm Tw.LA G.ev.row z.arr rfl (by simp [dX.arr,Value.oneCell']) hn d_;have hZ: ∀k,Xg y.EA=Y' k->k<X_ (Y_ w)->b' k=8:=λk I _=>G.ev.b' k I
 have hT:dJ (λc=>c=8) W w w2 b' (dN w b' λ_=>8):=dJ.only V (λk I hl=>⟨h.sys.lL (by rw [hZ k I hl];decide),hZ k I hl⟩) _;have O:N W w2 (dN w b' λ_=>8) gd sb gw ga s v rt x:=⟨h.sys.put V hZ d_ _,h.ag.ed hT d_⟩;have ab: ∀b,Xg y.EA=Y' b->b≠gr:=λb U=>G.ev.row.dZ G.dr.dr d_ b U
 have F:fQ w2 (dN w b' λ_=>8) 8 gr 148 (y.arr ga):=⟨(V.block gr G.dr.dr.lt (λe=>ab gr e rfl)).trans G.dr.dr,(fL G.dr.dr.lt).trans G.dr.b'⟩;have X:eG w2 (dN w b' λ_=>8) 8 4 1 y.HA y.hn y.hc (y.hs.map Xn):=G.hs.only V (λb U e=>G.hs.row.apart G.ev.row d_ b U e) (λk I=>fL I);have ae:eG w2 (dN w b' λ_=>8) 8 55 4 A' (y.ev.length+1) c' (Xy (y.ev++[z])):=⟨by rw [ma];exact hR,λb U=>by
  obtain e|e:=hA b U
  .exact (fL (G.ev.row.lt e)).trans (G.ev.b' b e)
  .exact fv e⟩
 refine ⟨A',c',w2,ac,F.dr.cell 1,F.dr.frozen 1,dN w b' λ_=>8,O.yb F d_ d_ 1 _,?_,hT.trans (dJ.set (J:=λc=>c=8) O.sys F d_ rfl 1 _)⟩;refine ⟨?_,?_,?_⟩
 .have:=F.eC 1 (S_ A' (y.ev.length+1) c')
  unfold RV.arr at this |-;simpa using this
 .have:=eG.set (j:=8) ae F.dr d_ 1 (S_ A' (y.ev.length+1) c')
  simpa using this
 .exact X.set F.dr d_ 1 _
def Rn (W:WX) (J:Nat->Prop) (b':Nat->Nat) (w:WX) (gd sb gw ga gr:Nat) (s:XL) (v:Int) (P:Xc->AV->RV->Prop) (w':WX):Prop:=
 ∃(col':Nat->Nat) (rt:Xc) (x:AV) (y:RV),N W w' col' gd sb gw ga s v rt x/\Rd w' col' gr ga y/\dJ J W w w' b' col'/\P rt x y
def UT (x:AV) (y:RV) (rt:Xc) (zs:List dX) (rt':Xc) (x':AV) (y':RV):Prop:=rt'=rt/\x'=x/\ ∃(A':Option Xa) (c':Nat),y'={y with EA:=A',ec:=c',ev:=y.ev++zs}
def PT (kind n:Int) (id:ByteArray) (h:N W w b' gd sb gw ga s v rt x) (G:Rd w b' gr ga y) (hn:y.ev.length<=100000):
  WZ Xb 114 #[P_ (Y' ⟨gr,0,Z_⟩),I_ J_ kind,T_ id,I_ J_ n] w λe w'=>e=R_ (U_ #[])/\Rn W (λc=>c=8) b' w gd sb gw ga gr s v (UT x y rt [⟨kind,id,0,n⟩]) w':=by
 obtain ⟨A',c',w2,hr,q1,f1,(O:Hid _)⟩:=Ub h G ⟨kind,id,0,n⟩ hn;have m1:C w gr 1 (S_ y.EA y.ev.length y.ec):=G.dr.dr.cell 1;unfold dX.arr at hr;clear h G;go_enter func114,ntmps114;refine pN ?_;obtain ⟨col',X,U,V⟩:=O;exact bodyPost_end (results_none rfl _ _ _) rfl ⟨rfl,col',rt,x,_,X,U,V,rfl,rfl,A',c',rfl⟩
end
def gi (l:List dq):List ByteArray:=l.map λe=>e.dC.id
def eE (l:List dq):List ByteArray:=l.map λe=>e.dC.eO
def TW (l:List dq) (w:WX) (e:Ending) (w':WX):Prop:= ∃(A1 A2:Option Xa) (c1 c2:Nat),e=R_ (U_ #[S_ A1 l.length c1,S_ A2 l.length c2])/\Ta.mL w' A1 l.length c1 (gi l)/\Ta.mL w' A2 l.length c2 (eE l)/\
 (∀b,Xg A1=Y' b->X_ (Y_ w)<=b)/\(∀b,Xg A2=Y' b->X_ (Y_ w)<=b)/\Bw w w'
def Ot (gr ga:Nat) (l:List dq) (PA:Option Xa) (pc:Nat) (w:WX) (h0:w.cell? ⟨gr,0,Z_⟩=Y' (P_ (Y' ⟨ga,0,Z_⟩))) (h1:w.cell? ⟨ga,14,Z_⟩=Y' (S_ PA l.length pc)) (h:Xl w 58 12 PA l.length pc (XN l)) (hl:l.length<=10000):
  WZ Xb 109 #[P_ (Y' ⟨gr,0,Z_⟩)] w (TW l w):=by
 have H:=Hd h;let ⟨n,hn⟩:=nm (l.length);have HN:=Hd hn;rw [<-hn] at h1 hl;have HS:=Hd h.sl;rw [<-hn] at HS;clear h hn;go_enter func109,ntmps109;go_wp2_with fail;clear h0 h1;go_loopw [4,5,17] (λv4 v5 vi wr=> ∃(k:Nat) (A1 A2:Option Xa) (c1 c2:Nat),k<=n/\vi=I_ J_ k/\v4=S_ A1 k c1/\v5=S_ A2 k c2/\Hid (eF w wr 9 1 A1 k c1 ((gi (l.take k)).map Xz))/\Hid (eF w wr 9 1 A2 k c2 ((eE (l.take k)).map Xz))/\Hid (∀b,Xg A1=Y' b-> ¬Xg A2=Y' b)) (λ_ _ i _=>n - (intOf i).toNat)
 .exact ⟨0,Z_,Z_,0,0,o_,rfl,rfl,rfl,Hd (eF.nil b_),Hd (eF.nil b_),Hd (λb h=>by cases h)⟩
 .obtain ⟨k,A1,A2,c1,c2,hk,rfl,rfl,rfl,O,V,U⟩:=hrel
  by_cases aR:k<n
  .obtain ⟨ad,aw,rfl,hlb,aU,aM⟩:=dq.at_ (HS.below O.below) aR
   have af:Hid (gi (l.take (k+1))=gi (l.take k)++[l[k].dC.id]):=Hd (by unfold gi;rw [XX l k aw,Xi];rfl);have ai:Hid (eE (l.take (k+1))=eE (l.take k)++[l[k].dC.eO]):=Hd (by unfold eE;rw [XX l k aw,Xi];rfl);generalize l[k]=q at*;obtain ⟨⟨qi,q1,q2,q3,q4,q5,q6,q7,q8,q9,ab⟩,ae⟩:=q;obtain ⟨e0,e1,e2,e3,e4,e5,e6,e7,e8,e9,aC,aL⟩:=aM
   dsimp only at e0 e1 e2 e3 e4 e5 e6 e7 e8 e9 aC aL af ai
   refine lI ?_;intro hw;let ⟨w2,G⟩:=nm (wr.alloc (.cells #[T_ qi,I_ J_ q1,B_ q2,I_ J_ q3,I_ J_ q4,I_ J_ q5,I_ J_ q6,I_ J_ q7,I_ J_ q8,T_ q9,I_ J_ ab,I_ J_ ae] 58));have ac:Bw wr w2:=by rw [G];exact dL
   have X:Xh w2 wr.heap.size 58 #[T_ qi,I_ J_ q1,B_ q2,I_ J_ q3,I_ J_ q4,I_ J_ q5,I_ J_ q6,I_ J_ q7,I_ J_ q8,T_ q9,I_ J_ ab,I_ J_ ae]:=by rw [G];exact Mem.c_.new
   have ao:X_ (Y_ w2)=X_ (Y_ wr)+1:=by rw [G];simp
   have b1:=O.free ac;have b2:=V.free ac;let ⟨A3,c3,w3,an,b3,ah,ap⟩:=Tq.rl Ta.Qv b1 #[T_ qi] rfl v_ o_ d_ ao;have I: ∀b,Xg A2=Y' b-> ¬Xg A3=Y' b:=λb hb F=>by
    obtain h|h:=ap b F
    .exact U b h hb
    .have:=b2.row.lt hb;omega
   have al:=Tw.kP b2 ah b3.below (λb hb F=>U b F hb);have ax:Xh w3 wr.heap.size 58 #[T_ qi,I_ J_ q1,B_ q2,I_ J_ q3,I_ J_ q4,I_ J_ q5,I_ J_ q6,I_ J_ q7,I_ J_ q8,T_ q9,I_ J_ ab,I_ J_ ae]:=(ah.block _ X.lt (λe=>b1.row.dZ X d_ _ e rfl)).trans X;let ⟨A4,c4,w4,aN,b4,ak,au⟩:=Tq.rl Ta.Qv al #[T_ q9] rfl v_ o_ d_ rfl;have ar:=Tw.kP b3 ak b4.below (λb hb F=>I b F hb);have am:=Hd (show∀b,Xg A3=Y' b-> ¬Xg A4=Y' b from λb hb F=>by
    obtain h|h:=au b F
    .exact I b h hb
    .have:=b3.row.lt hb;omega)
   have aK:Hid (eF w w4 9 1 A3 (k+1) c3 ((gi (l.take (k+1))).map Xz)):=by rw [af.o,Xi];exact ar
   have aJ:Hid (eF w w4 9 1 A4 (k+1) c4 ((eE (l.take (k+1))).map Xz)):=by rw [ai.o,Xi];exact b4
   have y9:C w3 wr.heap.size 9 q9:=ax.cell 9;rw [G] at an;clear ac X ao b1 b2 b3 ah ap I al ax b4 ak au ar G af ai O V U;refine Oe ?_;go_roundw
   .exact ⟨k+1,A3,A4,c3,c4,o_,by go_num,rfl,rfl,aK,aJ,am⟩
   .simp [intOf];omega
  .obtain rfl:k=n:=o_
   have b1:=O.o;have b2:=V.o;rw [t_ (by have:=HN.o;omega)] at b1 b2;have aD:Hid (TW l w (R_ (U_ #[S_ A1 k c1,S_ A2 k c2])) wr):=(by
    have e:=HN.o;subst e;exact ⟨A1,A2,c1,c2,rfl,b1.row,b2.row,b1.fresh,b2.fresh,b1.below⟩)
   clear b1 b2 O V U;go_wp2;exact bodyPost_ret (v:=U_ #[S_ A1 k c1,S_ A2 k c2]) (by simp [results,results109,go_sem]) rfl aD
end Nd
end
section
namespace Wo
section
variable {l:List ByteArray} {s:ByteArray}
def La (hh:Xe l s=WW) (hj:j<l.length):du.cmp l[j] s≠0:=λe=>by
 rw [du.fO.2 (by rw [<-(du.cmp_eq _ _).1 e];exact g_ hj)] at hh;cases hh
def Lb (G:Xr l) (O:Xe l s=Z') (F:j<l.length) (h:j≠Xd l s):du.cmp l[j] s≠0:=by
 let ⟨I,e⟩:=du.mZ G O;obtain h|h:=Nat.lt_or_gt_of_ne h
 .have:=du.kI j F h
  omega
 .have:=(Xs.1 G) (Xd l s) j I F h
  rw [e] at this;have:=du.qm s l[j];omega
def oV (X:Xr l) (hh:Xe l s=WW):Xr (l.take (Xd l s)++s::l.drop (Xd l s)):=by
 have V:Xr (l.take (Xd l s)++l.drop (Xd l s)):=by rw [XC];exact X
 let ⟨h1,h2,h3⟩:=XE.1 V;refine XE.2 ⟨h1,List.pairwise_cons.2 ⟨λx G=>?_,h2⟩,λx G y U=>?_⟩
 .obtain ⟨j,I,rfl⟩:=Xf G
  rw [Xv];have F:Xd l s+j<l.length:=by simp at I;omega
  have c1:=du.oQ (s:=s) X (Xd l s+j) F o_;have c2:=La hh F;have:=du.qm l[Xd l s+j] s;omega
 .have O:du.cmp x s<0:=by
   obtain ⟨j,I,rfl⟩:=Xf G;rw [XP];have F:j<Xd l s/\j<l.length:=by simp at I;omega
   exact du.kI j F.2 F.1
  obtain rfl|U:=p_ U
  .exact O
  .exact h3 x G y U
end
section
variable {im:List dK} {s:ByteArray}
def sV:(ix im s).Sublist im:=by
 unfold ix;split
 .exact FU
 .exact XQ _
end
structure eu (k:Nat) (s:St):Prop where
 eN:Good s
 up: ∀p∈s.bx,p.st≠5
 lb:s.bx.length<=k
 li:s.im.length<=k
section
variable {k:Nat} {s:St} {id name:ByteArray} {size round q:Int} {eD:Bool}
def eu.nil (rt:Int):eu 0 ⟨rt,[],[],[]⟩:=⟨⟨XR,XR,λp hp=>(by cases hp),Xu _,Xu _,Xu _⟩,λp hp=>(by cases hp),Nat.le_refl _,Nat.le_refl _⟩
def eu.mono (h:eu k s):eu (k+1) s:=⟨h.eN,h.up,by have:=h.lb;omega,by have:=h.li;omega⟩
def eu.outs (h:eu k s) {o:List Bool} (ho:o.length<=4096):eu k {s with outs:=o}:=⟨⟨h.eN.rb,h.eN.ri,h.eN.ok,h.eN.nb,h.eN.ni,ho⟩,h.up,h.lb,h.li⟩
def eu.next (h:eu k s):eu k {s with outs:=s.outs.tail}:=h.outs (by have:=h.eN.no;simp;omega)
def Lc:ids (oe s.bx id round)=(ids s.bx).take (Xd (ids s.bx) id)++id::(ids s.bx).drop (Xd (ids s.bx) id):=by
 unfold oe ids;rw [Xi,XK,XI,XJ]
def eu.ins (h:eu k s) (hk:k<90000) (I:Xe (ids s.bx) id=WW):eu (k+1) {s with bx:=oe s.bx id round}:=by
 have hl:(oe s.bx id round).length=s.bx.length+1:=by unfold oe;simp;omega
 have G: ∀p∈oe s.bx id round,p=⟨id,1,0,round⟩\/p∈s.bx:=by
  intro p F;unfold oe at F;obtain F|F:=XB.1 F
  .exact .inr (XF F)
  .obtain F|F:=p_ F
   .exact .inl F
   .exact .inr (XG F)
 have h1:=h.lb;refine ⟨⟨?_,h.eN.ri,λp F=>?_,by show (oe s.bx id round).length<=_;omega,h.eN.ni,h.eN.no⟩,λp F=>?_,by show (oe s.bx id round).length<=_;omega,by have:=h.li;show s.im.length<=_;omega⟩
 .show Xr (ids (oe s.bx id round))
  rw [Lc];exact oV h.eN.rb I
 .obtain rfl|F:=G p F
  .exact ⟨by show (0:Int)<=1;decide,by show (1:Int)<=6;decide,by show (0:Int)<=0;decide,by show (0:Int)<=9223372036854775807;decide⟩
  .exact h.eN.ok p F
 .obtain rfl|F:=G p F
  .show (1:Int)≠5
   decide
  .exact h.up p F
def eu.put (h:eu k s) (hk:k<90000):eu (k+1) {s with im:=jq s.im name size round}:=by
 have F:(jq s.im name size round).length<=s.im.length+1:=by
  unfold jq;split
  .simp
  .simp;omega
 have G:=h.li;refine ⟨⟨h.eN.rb,?_,h.eN.ok,h.eN.nb,by show (jq s.im name size round).length<=_;omega,h.eN.no⟩,h.up,by have:=h.lb;show s.bx.length<=_;omega,by show (jq s.im name size round).length<=_;omega⟩
 show Xr (fj (jq s.im name size round))
 unfold jq;cases hh:Xe (fj s.im) name
 .rw [if_neg d_]
  have:=oV h.eN.ri hh;unfold fj at*;rw [Xi,XK,XI,XJ];exact this
 .obtain ⟨F,-,hn⟩:=kN h.eN.ri hh
  rw [if_pos rfl];have e:fj (s.im.set (Xd (fj s.im) name) ⟨name,(s.im.getD (Xd (fj s.im) name) ⟨name,0,0⟩).size,round⟩)=fj s.im:=by
   generalize Xd (fj s.im) name=P at*;unfold fj;rw [XA];apply Xp y_;intro j G h2;rw [Xo];split
   .rename_i e
    subst e;simp [hn]
   .rfl
  rw [e];exact h.eN.ri
def eu.drop (h:eu k s):eu k {s with im:=ix s.im name}:=by
 have hs:(ix s.im name).Sublist s.im:=sV;have hl:=hs.length_le;have h1:=h.li;have h2:=h.eN.ni;exact ⟨⟨h.eN.rb,Xm (hs.map _) h.eN.ri,h.eN.ok,h.eN.nb,by show (ix s.im name).length<=_;omega,h.eN.no⟩,h.up,h.lb,by show (ix s.im name).length<=_;omega⟩
def eu.TR (h:eu k s) (us:List ByteArray):eu k {s with im:=fZ round s.im us}:=by
 have hl:=FV round us s.im;have h1:=h.li;have h2:=h.eN.ni;exact ⟨⟨h.eN.rb,by show Xr (fj (fZ round s.im us));rw [uH];exact h.eN.ri,h.eN.ok,h.eN.nb,by show (fZ round s.im us).length<=_;omega,h.eN.no⟩,h.up,h.lb,by show (fZ round s.im us).length<=_;omega⟩
def eu.pJ (h:eu k s) (P:Nat):eu k {s with bx:=pJ s.bx P q eD s.rt round}:=by
 have V:=h.lb;have h2:=h.eN.nb;cases G:s.bx[P]? with
 |none=>
  have e:Wo.pJ s.bx P q eD s.rt round=s.bx:=by unfold Wo.pJ;rw [G]
  rw [e];exact h
 |some p=>
  let ⟨hl,U⟩:=List.getElem?_eq_some_iff.1 G;have e:Wo.pJ s.bx P q eD s.rt round=if (FW p q eD s.rt round).st=5 then s.bx.take P++s.bx.drop (P+1) else s.bx.set P (FW p q eD s.rt round):=by unfold Wo.pJ;rw [G]
  rw [e];by_cases I:(FW p q eD s.rt round).st=5
  .rw [if_pos I]
   have hs:(s.bx.take P++s.bx.drop (P+1)).Sublist s.bx:=by
    exact FU
   have hll:=hs.length_le;exact ⟨⟨Xm (hs.map _) h.eN.rb,h.eN.ri,λp G=>h.eN.ok p (hs.subset G),by show (s.bx.take P++s.bx.drop (P+1)).length<=_;omega,h.eN.ni,h.eN.no⟩,λp G=>h.up p (hs.subset G),by show (s.bx.take P++s.bx.drop (P+1)).length<=_;omega,h.li⟩
  .rw [if_neg I]
   have O: ∀x∈s.bx.set P (FW p q eD s.rt round),x=FW p q eD s.rt round\/x∈s.bx:=λx F=>(Xt F).symm
   refine ⟨⟨?_,h.eN.ri,λx F=>?_,by show (s.bx.set P _).length<=_;simp;omega,h.eN.ni,h.eN.no⟩,λx F=>?_,by show (s.bx.set P _).length<=_;simp;omega,h.li⟩
   .have X:ids (s.bx.set P (FW p q eD s.rt round))=ids s.bx:=by
     unfold ids;rw [XA];apply Xp y_;intro j V h2;rw [Xo];split
     .rename_i e
      subst e;simp [U,FW]
     .rfl
    show Xr (ids (s.bx.set P (FW p q eD s.rt round)))
    rw [X];exact h.eN.rb
   .obtain rfl|F:=O x F
    .exact pP.Ld (h.eN.ok p (by rw [<-U];exact g_ hl)) q eD s.rt
    .exact h.eN.ok x F
   .obtain rfl|F:=O x F
    .exact I
    .exact h.up x F
end
section
variable {k:Nat} {s:St} {id name:ByteArray} {size round q:Int}
def eu.ask (h:eu k s):eu k (FY s id q round):=eu.pJ (s:={s with outs:=s.outs.tail}) h.next _
def eu.pull (h:eu k s) (I:k<90000):eu (k+1) (lD s id name size round):=by
 have G:eu k {s with outs:=if Xe (fj s.im) name then s.outs else s.outs.tail}:=by
  by_cases c:Xe (fj s.im) name=Z'
  .rw [if_pos c];exact h
  .rw [if_neg c];exact h.next
 have F:=eu.pJ (q:=1) (eD:=kK s name) (round:=round) G (Xd (ids s.bx) id);unfold lD;by_cases c:kK s name=Z'
 .rw [if_pos c]
  exact eu.put (name:=name) (size:=size) (round:=round) F I
 .rw [if_neg c]
  exact F.mono
def eu.WG (h:eu k s):eu k (wH s name):=by
 unfold wH;by_cases c:tk s.outs=Z'
 .rw [if_pos c];exact eu.drop (name:=name) h.next
 .rw [if_neg c];exact h.next
end
end Wo
end
section
open Wo Tx
namespace Nd
def mV (s:Xc) (id:ByteArray) (q r:Int):Xc:=if nB s id q=0 then FY s id q r else s
def oF (s:Xc) (id:ByteArray) (q:Int):Bool:=decide (nB s id q=0)&&tk s.outs
def rZ (s:Xc) (id:ByteArray) (r:Int):Xc:=if Xe (XV s.bx) id then s else {s with bx:=oe s.bx id r}
def pB (s:Xc) (id name:ByteArray) (size r:Int):Xc:=if iL s.bx id 1=0 then lD s id name size r else s
def qz (s:Xc) (id name:ByteArray):Bool:=decide (iL s.bx id 1=0)&&(kK s name&& !Xe (fj s.im) name)
def pC (s:Xc) (name:ByteArray):Xc:=if Xe (fj s.im) name then wH s name else s
def sE (s:Xc) (name:ByteArray):Bool:=Xe (fj s.im) name&&tk s.outs
section
variable {k:Nat} {s:Xc} {id name:ByteArray} {size r q:Int}
def mz (h:eu k s):eu k (mV s id q r):=by unfold mV;split;exact h.ask;exact h
def Cr (h:eu k s) (F:k<90000):eu (k+1) (rZ s id r):=by
 unfold rZ;cases hh:Xe (XV s.bx) id
 .rw [if_neg d_];exact h.ins F hh
 .rw [if_pos rfl];exact h.mono
def yC (h:eu k s) (hk:k<90000):eu (k+1) (pB s id name size r):=by unfold pB;split;exact h.pull hk;exact h.mono
def yN (h:eu k s):eu k (pC s name):=by unfold pC;split;exact h.WG;exact h
end
section
variable {J J':Nat->Prop} {W w w':WX} {b' col' f:Nat->Nat} {gd sb gw ga gr j i:Nat} {s s':XL} {v v':Int} {rt rt':Xc} {x x':AV} {y y':RV}
def PL (W:WX) (b':Nat->Nat) (w:WX) (gd sb gw ga:Nat) (s:XL) (v:Int) (x:AV) (rt:Xc) (w':WX):Prop:= ∃col',N W w' col' gd sb gw ga s v rt x/\dJ (λc=>c=2) W w w' b' col'
def Ts (W:WX) (b':Nat->Nat) (w:WX) (gd sb gw ga:Nat) (s:XL) (v:Int) (x:AV) (rt:Xc) (e:TypeId) (k:Nat) (A:Option Xa) (n c:Nat) (xs:List WY) (w':WX):Prop:= ∃col',N W w' col' gd sb gw ga s v rt x/\eG w' col' 9 e k A n c xs/\dJ (λ_=>False) W w w' b' col'/\Bw w w'
def N.LJ (h:N W w b' gd sb gw ga s v rt x) (hp:Wo.en (λk=>b' k=2) w w' gw rt'):PL W b' w gd sb gw ga s v x rt' w':=⟨_,h.asks hp⟩
def N.at9 {e:TypeId} (h:N W w b' gd sb gw ga s v rt x) (hr:Xl w' e k A n c xs) (hb:Bw w w') (hn: ∀b,Xg A=Y' b->X_ (Y_ w)<=b):Ts W b' w gd sb gw ga s v x rt e k A n c xs w':=
 ⟨_,h.below hb (λ_=>9),eG.new hr hn (λ_ _=>rfl),dJ.below hb _,hb⟩
def Tl {id:ByteArray} {round:Int} (h:N W w b' gd sb gw ga s v rt x) (hs:Xj rt) (hq:(Lit.int .i64 q).wf=Z'):
  WZ Xb 113 #[P_ (Y' ⟨gw,0,Z_⟩),T_ id,I_ J_ q,I_ J_ round] w λe w'=>e=R_ (U_ #[B_ (oF rt id q),I_ J_ (nB rt id q)])/\PL W b' w gd sb gw ga s v x (mV rt id q round) w':=
 (QR gw rt _ id q round w h.sys.rt hs hq).mono λe w' p=>by
  unfold oF mV;by_cases h0:nB rt id q=0
  .let ⟨e1,e2⟩:=p.2 h0
   rw [if_pos h0,h0];exact ⟨by rw [e1];simp,h.LJ e2⟩
  .let ⟨e1,e2⟩:=p.1 h0
   rw [if_neg h0,decide_eq_false h0];exact ⟨e1,h.LJ e2⟩
def Tm {id:ByteArray} {round:Int} (h:N W w b' gd sb gw ga s v rt x) (hs:Xj rt):
  WZ Xb 127 #[P_ (Y' ⟨gw,0,Z_⟩),T_ id,I_ J_ round] w λe w'=>(∃q,e=R_ (I_ J_ q))/\PL W b' w gd sb gw ga s v x (rZ rt id round) w':=
 (CQ gw rt _ id round w h.sys.rt hs).mono λe w' p=>by
  unfold rZ;cases h0:Xe (XV rt.bx) id
  .let ⟨e1,e2⟩:=p.2 h0
   exact ⟨⟨_,e1⟩,h.LJ e2⟩
  .let ⟨e1,e2⟩:=p.1 h0
   exact ⟨⟨_,e1⟩,h.LJ e2⟩
def PM {id:ByteArray} {round:Int} (h:N W w b' gd sb gw ga s v rt x) (hs:Xj rt):
  WZ Xb 128 #[P_ (Y' ⟨gw,0,Z_⟩),T_ id,T_ name,I_ J_ size,I_ J_ round] w λe w'=>(∃b q,e=R_ (U_ #[B_ b,B_ (qz rt id name),I_ J_ q]))/\PL W b' w gd sb gw ga s v x (pB rt id name size round) w':=
 (LK gw rt _ id name size round w h.sys.rt hs).mono λe w' p=>by
  unfold qz pB;by_cases h0:iL rt.bx id 1=0
  .let ⟨e1,e2⟩:=p.2 h0
   rw [if_pos h0,decide_eq_true h0];exact ⟨⟨kK rt name,0,by rw [e1,Bool.true_and]⟩,h.LJ e2⟩
  .let ⟨e1,e2⟩:=p.1 h0
   rw [if_neg h0,decide_eq_false h0];exact ⟨⟨_,_,e1⟩,h.LJ e2⟩
def PO (h:N W w b' gd sb gw ga s v rt x) (hs:Xj rt):
  WZ Xb 121 #[P_ (Y' ⟨gw,0,Z_⟩),T_ name] w λe w'=>(∃q,e=R_ (U_ #[B_ (sE rt name),I_ J_ q]))/\PL W b' w gd sb gw ga s v x (pC rt name) w':=
 (LL gw rt _ name w h.sys.rt hs).mono λe w' p=>by
  unfold sE pC;cases h0:Xe (fj rt.im) name
  .let ⟨e1,e2⟩:=p.1 h0
   exact ⟨⟨_,e1⟩,h.LJ e2⟩
  .let ⟨e1,e2⟩:=p.2 h0
   exact ⟨⟨_,e1⟩,h.LJ e2⟩
def JY {us:List ByteArray} {round:Int} (h:N W w b' gd sb gw ga s v rt x) (hs:Xj rt) (h2:Strs w w.heap.size A2 m us) (hm:m<=10000):
  WZ Xb 110 #[P_ (Y' ⟨gw,0,Z_⟩),S_ A2 m d,I_ J_ round] w λe w'=>e=R_ (U_ #[])/\PL W b' w gd sb gw ga s v x {rt with im:=fZ round rt.im us} w':=
 (GO gw rt _ A2 m d us round w h.sys.rt hs h2 hm).mono λe w' p=>⟨p.1,h.LJ p.2⟩
def Tr {id:ByteArray} (h:N W w b' gd sb gw ga s v rt x) (hs:Xj rt):
  WZ Xb 125 #[P_ (Y' ⟨gw,0,Z_⟩),T_ id] w λe w'=>e=R_ (U_ #[A_ #[I_ J_ (gH rt.bx id).1,I_ J_ (gH rt.bx id).2],B_ (Xe (XV rt.bx) id)])/\Bw w w':=TS gw rt _ id w h.sys.rt hs
def GP {p:Prop} (h:p:=by
 obtain ⟨A',c',e1,e2,e3,e4⟩:=p;exact ⟨A',c',e1,h.at9 e2 e3 e4⟩):p:=h
def JZ (h:N W w b' gd sb gw ga s v rt x) (hs:Xj rt):
  WZ Xb 112 #[P_ (Y' ⟨gw,0,Z_⟩)] w λe w'=> ∃A' c',e=R_ (S_ A' rt.bx.length c')/\Ts W b' w gd sb gw ga s v x rt 273 4 A' rt.bx.length c' (dP.flat rt.bx) w':=
 (uI gw rt _ w h.sys.rt hs).mono λe w' p=>by
  exact GP
def PQ (h:N W w b' gd sb gw ga s v rt x) (hs:Xj rt):
  WZ Xb 116 #[P_ (Y' ⟨gw,0,Z_⟩)] w λe w'=> ∃A' c',e=R_ (S_ A' rt.im.length c')/\Ts W b' w gd sb gw ga s v x rt 223 3 A' rt.im.length c' (dK.flat rt.im) w':=
 (F' gw rt _ w h.sys.rt hs).mono λe w' p=>by
  exact GP
def PR (h:N W w b' gd sb gw ga s v rt x) (hs:Xj rt):
  WZ Xb 119 #[P_ (Y' ⟨gw,0,Z_⟩)] w λe w'=> ∃A' c',e=R_ (S_ A' rt.outs.length c')/\Ts W b' w gd sb gw ga s v x rt 4 1 A' rt.outs.length c' (rt.outs.map Xn) w':=
 (Cs gw rt _ w h.sys.rt hs).mono λe w' p=>by
  exact GP
end
end Nd
end
section
open Wo Tx Ta
namespace Nd
section
variable {J J':Nat->Prop} {W w w':WX} {b' col' f:Nat->Nat} {gd sb gw ga gr j i:Nat} {s s':XL} {v v':Int} {rt rt':Xc} {x x':AV} {y y':RV}
def N.oH (h:N W w b' gd sb gw ga s v rt x) (G:Xx (λb=>b=ga) w w') (F:Xh w' ga 100 (x'.arr gw sb)) (ht:eG w b' 3 92 5 x'.p.A x'.p.n x'.p.c (XU x'.dD))
  (V:eG w b' 3 58 12 x'.PA x'.l.length x'.pc (XN x'.l)) (hs:eG w b' 3 3 1 x'.SA x'.p.n x'.sc (x'.zs.map (.int .i64)))
  (X:eG w b' 3 299 4 x'.UA x'.us.length x'.uc (XW x'.us)):N W w' b' gd sb gw ga s v rt x'/\dJ (λc=>c=3) W w w' b' b':=by
 have O: ∀k,k=ga->k<X_ (Y_ w)->b' k=3:=λk e _=>by rw [e];exact h.ag.dr.b'
 have key: ∀k,dN w b' b' k=b' k:=λk=>by unfold dN;split<;>rfl
 have I:=h.ag.dr.dr;refine ⟨⟨(h.sys.put G O d_ b').mO λk _=>(key k).symm,⟨⟨F,h.ag.dr.b'⟩,ht.only G (λb F e=>la ht.row I d_ b F e) (λ_ _=>rfl),V.only G (λb F e=>la V.row I d_ b F e) (λ_ _=>rfl),hs.only G (λb F e=>la hs.row I d_ b F e) (λ_ _=>rfl),X.only G (λb F e=>la X.row I d_ b F e) (λ_ _=>rfl)⟩⟩,?_⟩;have:=dJ.only (J:=λc=>c=3) (W:=W) (b':=b') G (λk z U=>⟨h.sys.lL (by rw [O k z U];decide),O k z U⟩) b';exact ⟨this.block,λ_ _ _=>rfl⟩
def An (W:WX) (J:Nat->Prop) (b':Nat->Nat) (w:WX) (gd sb gw ga:Nat) (s:XL) (v:Int) (P:Xc->AV->Prop) (w':WX):Prop:=
 ∃(col':Nat->Nat) (rt:Xc) (x:AV),N W w' col' gd sb gw ga s v rt x/\dJ J W w w' b' col'/\P rt x
def UX (x:AV) (rt:Xc) (l:List dq) (rt':Xc) (x':AV):Prop:=rt'=rt/\ ∃(A:Option Xa) (c:Nat),x'={x with PA:=A,pc:=c,l:=l}
def iw (h:jJ w A n c l):n=l.length:=by
 have:=h.1;rw [dq.dO] at this;omega
def ME (h:N W w b' gd sb gw ga s v rt x) (X:Bw w U) (hr:jJ w2 A n c l) (O:Bw U w2) (hA: ∀b,Xg A=Y' b->X_ (Y_ U)<=b)
  (ho:Xx (λb=>b=ga) w2 V) (hB:Xh V ga 100 (({x with PA:=A,pc:=c,l:=l}:AV).arr gw sb)):An W (λc=>c=3) b' w gd sb gw ga s v (UX x rt l) V:=by
 have G:=X.trans (O.mono X.size);have F:=h.below G (λ_=>3);have hn:=iw hr;subst hn;let ⟨h1,h2⟩:=F.oH (x':={x with PA:=A,pc:=c,l:=l}) ho hB F.ag.qy ⟨hr,λb I=>fv (w:=w) (Nat.le_trans X.size (hA b I))⟩ F.ag.since F.ag.use;exact ⟨_,rt,_,h1,(dJ.below G _).trans h2,rfl,A,c,rfl⟩
def oG (x:AV) (gw sb:Nat) (r:Int) (A:Option Xa) (c:Nat) (l:List dq) (o0 o1 o2:Bool):eU.lay (x.arr gw sb) 13 [I_ J_ r,S_ A l.length c,B_ o0,B_ o1,B_ o2]=({x with r:=r,PA:=A,pc:=c,l:=l,o0:=o0,o1:=o1,o2:=o2}:AV).arr gw sb:=by
 simp [eU.lay,AV.arr]
def om (l:List dq) (i:Nat):List dq:=match l[i]? with|some e=>ep l ⟨e.dC,3⟩|none=>l
def Oy (i:Nat) (hi:i<x.l.length) (hl:x.l.length<=1000) (au:Xr (eo x.l)) (h:N W w b' gd sb gw ga s v rt x):
  WZ Xb 62 #[P_ (Y' ⟨ga,0,Z_⟩),I_ J_ i] w λe w'=>e=R_ (U_ #[])/\An W (λc=>c=3) b' w gd sb gw ga s v (UX x rt (om x.l i)) w':=by
 have hp:=h.ag.gT.row;have al:=hp.sl;let ⟨ad,aS,G,aU,ar,aM⟩:=dq.at_ al hi;have aA:=λ(hA:x.PA=Z_)=>gy hp hA
 have af:=Hd (λX (hX:Mem.Sl X X.heap.size 12 x.PA x.l.length (XN x.l))=>yJ x.r x.PA x.l.length x.pc x.o0 x.o1 x.o2 x.l ⟨x.l[i].dC,3⟩ X hX au rfl o_ aA);have ai:Hid (om x.l i=ep x.l ⟨x.l[i].dC,3⟩):=Hd (by unfold om;rw [List.getElem?_eq_getElem hi]);have aX:C w ga 13 x.r:=h.ag.dr.dr.cell 13;have aE:C w ga 14 (S_ x.PA x.l.length x.pc):=h.ag.dr.dr.cell 14;have aN:C w ga 15 x.o0:=h.ag.dr.dr.cell 15;have aV:C w ga 16 x.o1:=h.ag.dr.dr.cell 16;have aP:C w ga 17 x.o2:=h.ag.dr.dr.cell 17;have H:=Hd h;have am:=Hd al;have ao:(i:Int)<(x.l.length:Int):=o_;generalize x.l[i]=q at*;obtain ⟨⟨qi,q1,q2,q3,q4,q5,q6,q7,q8,q9,ab⟩,ae⟩:=q;obtain ⟨e0,e1,e2,e3,e4,e5,e6,e7,e8,e9,aC,aL⟩:=aM
 dsimp only at e0 e1 e2 e3 e4 e5 e6 e7 e8 e9 aC aL af ai
 unfold gF dq.arr at af
 dsimp only at af
 clear hp al au h aA aS;rw [G] at aE;go_enter func62,ntmps62;go_upto_region 2 with fail;clear aX aE aN aV aP e0 e1 e2 e3 e4 e5 e6 e7 e8 e9 aC aL;let ⟨wc,aa⟩:=nm (World.drew (w.alloc (.cells #[T_ qi,I_ J_ q1,B_ q2,I_ J_ q3,I_ J_ q4,I_ J_ q5,I_ J_ q6,I_ J_ q7,I_ J_ q8,T_ q9,I_ J_ ab,I_ J_ 3] 58)));have V:Bw w wc:=by rw [aa];exact (dL).drew
 have ak:Hid (Xh wc w.heap.size 58 #[T_ qi,I_ J_ q1,B_ q2,I_ J_ q3,I_ J_ q4,I_ J_ q5,I_ J_ q6,I_ J_ q7,I_ J_ q8,T_ q9,I_ J_ ab,I_ J_ 3]):=by rw [aa];exact Mem.c_.drew Mem.c_.new
 have U:=Hd (H.ag.dr.dr.a_ V);have HC:=Hd (af wc ((am.below V).more V.size));have HBC:=Hd V;have n13:C wc ga 13 x.r:=U.cell 13;have n14:C wc ga 14 (S_ (Y' ad) x.l.length x.pc):=by rw [<-G];exact U.cell 14
 have n15:C wc ga 15 x.o0:=U.cell 15;have n16:C wc ga 16 x.o1:=U.cell 16;have n17:C wc ga 17 x.o2:=U.cell 17;have aK:=Hd (λ(w2 w9:WX) (A:Option Xa) (n c:Nat) (hr:jJ w2 A n c (om x.l i)) (O:Bw wc w2) (hA: ∀b,Xg A=Y' b->X_ (Y_ wc)<=b) (ho:Xx (λb=>b=ga) w2 w9) (hB:Xh w9 ga 100 (({x with PA:=A,pc:=c,l:=om x.l i}:AV).arr gw sb))=>ME (rt:=rt) H V hr O hA ho hB);have ap:=Hd H.ag.dr.dr.lt;rw [G] at HC;clear V G af am H aU ar hi ao hl;have an:Hid (∀wx,(Hid (Xh wx w.heap.size 58 #[T_ qi,I_ J_ q1,B_ q2,I_ J_ q3,I_ J_ q4,I_ J_ q5,I_ J_ q6,I_ J_ q7,I_ J_ q8,T_ q9,I_ J_ ab,I_ J_ 3]))->(C wx w.heap.size 0 qi)/\(C wx w.heap.size 1 q1)/\(C wx w.heap.size 2 q2)/\(C wx w.heap.size 3 q3)/\(C wx w.heap.size 4 q4)/\(C wx w.heap.size 5 q5)/\(C wx w.heap.size 6 q6)/\(C wx w.heap.size 7 q7)/\(C wx w.heap.size 8 q8)/\(C wx w.heap.size 9 q9)/\(C wx w.heap.size 10 ab)/\(C wx w.heap.size 11 (I_ J_ 3))):=λwx F=>⟨F.cell 0,F.cell 1,F.cell 2,F.cell 3,F.cell 4,F.cell 5,F.cell 6,F.cell 7,F.cell 8,F.cell 9,F.cell 10,F.cell 11⟩
 refine dm.st an ?_;rw [<-aa];clear aa;refine dm.tf 5 ak [0,1,2,3,5] an ?_;refine dm.on 4 4 ?_;refine dm.val rfl rfl (v:=A_ #[I_ J_ x.r,S_ (Y' ad) x.l.length x.pc,B_ x.o0,B_ x.o1,B_ x.o2]) (w':=wc) f_ ak ?_;refine dm.on 6 3 ?_;refine dm.cl ?_;refine HC.mono ?_;rintro e w2 ⟨A',n',c',rfl,I,O,hA⟩;rw [<-ai.o] at I;obtain rfl:=iw I;have ac:=Hd (ak.a_ O);have ah:=Hd (U.a_ O);have aT:=Hd (λw9 ho hB=>aK w2 w9 A' (om x.l i).length c' I O hA ho hB);clear I O hA;refine ⟨_,rfl,ac,?_⟩;refine dm.tg 1 ac [7,8] ?_;refine dm.on 9 0 ?_;refine dm.skip rfl rfl (Rd.ft (w:=w2) _ _ _ rfl ga 13 #[I_ J_ x.r,.slice A' (om x.l i).length c',B_ x.o0,B_ x.o1,B_ x.o2] rfl rfl (eU.gP ah (by simp [AV.arr])) k_ v_) (Hd (eU.fA ac (eU.eI _ _ _) (by have:=ap.o;omega))) ?_;refine dm.fi ?_;go_wp2;exact bodyPost_end (results_none rfl _ _ _) rfl ⟨rfl,aT _ (eU.eI _ _ _) (by have:=eU.gv [I_ J_ x.r,.slice A' (om x.l i).length c',B_ x.o0,B_ x.o1,B_ x.o2] 13 _ _ ah;rw [oG] at this;exact this)⟩
end
section
variable {l:List dq} {e:dq} {s:ByteArray} {r r':Int}
def lr (h:i<l.length):(eo l)[i]'(by rw [f'];exact h)=l[i].dC.id:=by simp [eo]
def Le {P:Nat} (h:P<l.length) (F:e.dC.id=l[P].dC.id):eo (l.set P e)=eo l:=by
 unfold eo;rw [XA];apply Xp y_;intro j h1 h2;rw [Xo];split
 .rename_i c
  subst c;simp [F]
 .rfl
def lU (O:Xr (eo l)) (I:Xe (eo l) s=Z'): ∃h:Xd (eo l) s<l.length,l[Xd (eo l) s].dC.id=s:=by
 let ⟨G,e⟩:=du.mZ O I;have F:Xd (eo l) s<l.length:=by rw [f'] at G;exact G
 exact ⟨F,by rw [<-lr F];exact e⟩
def ob (hh:Xe (eo l) e.dC.id=Z'):ep l e=l.set (Xd (eo l) e.dC.id) e:=by unfold ep;rw [hh];rfl
def uJ (hh:Xe (eo l) e.dC.id=WW):ep l e=l.take (Xd (eo l) e.dC.id)++e::l.drop (Xd (eo l) e.dC.id):=by unfold ep;rw [hh];rfl
def uK (O:Xr (eo l)) (F:Xe (eo l) e.dC.id=Z'):eo (ep l e)=eo l:=by
 let ⟨G,I⟩:=lU O F;rw [ob F,Le G I.symm]
def wJ (F:Xe (eo l) e.dC.id=WW):eo (ep l e)=(eo l).take (Xd (eo l) e.dC.id)++e.dC.id::(eo l).drop (Xd (eo l) e.dC.id):=by
 rw [uJ F];generalize Xd (eo l) e.dC.id=P;unfold eo;rw [Xi,XK,XI,XJ]
def kL (h:x∈ep l e):x=e\/x∈l:=by
 unfold ep at h;split at h
 .exact (Xt h).symm
 .obtain h|h:=XB.1 h
  .exact .inr (XF h)
  .obtain h|h:=p_ h
   .exact .inl h
   .exact .inr (XG h)
def oT:(my l s).Sublist l:=by
 unfold my;split
 .exact FU
 .exact XQ _
def uL (hh:Xe (eo l) e.dC.id=Z'):(ep l e).length=l.length:=by rw [ob hh];simp
def wK (F:Xe (eo l) e.dC.id=WW):(ep l e).length=l.length+1:=by
 have:=du.oP (eo l) e.dC.id;rw [f'] at this;rw [uJ F];simp;omega
def lS (h:eJ r l) (he:gC e=Z') (hh:Xe (eo l) e.dC.id=Z'):eJ r (ep l e):=
 ⟨h.r0,h.r1,by rw [uL hh];exact h.len,λx hx=>(kL hx).elim (λc=>by rw [c];exact he) (h.each x),by rw [uK h.gQ hh];exact h.gQ⟩
def mR (h:eJ r l) (he:gC e=Z') (hh:Xe (eo l) e.dC.id=WW) (hl:l.length<64):eJ r (ep l e):=
 ⟨h.r0,h.r1,by rw [wK hh];omega,λx hx=>(kL hx).elim (λc=>by rw [c];exact he) (h.each x),by rw [wJ hh];exact oV h.gQ hh⟩
def oc (h:eJ r l):eJ r (my l s):=
 ⟨h.r0,h.r1,Nat.le_trans oT.length_le h.len,λx hx=>h.each x (oT.subset hx),Xm (oT.map _) h.gQ⟩
def wL (h:eJ r l) (h0:0<=r') (h1:r'<=1099511627776):eJ r' l:=⟨h0,h1,h.len,h.each,h.gQ⟩
def jA (hr:Xr (eo l)) (he:e∈l):Xe (eo l) e.dC.id=Z'/\ ∃h:Xd (eo l) e.dC.id<l.length,l[Xd (eo l) e.dC.id]=e:=by
 have hh:Xe (eo l) e.dC.id=Z':=du.fO.2 (List.mem_map.2 ⟨e,he,rfl⟩);let ⟨O,hi⟩:=lU hr hh;refine ⟨hh,O,?_⟩;let ⟨j,X,F⟩:=Xf he;have G: ∀a b (U:a<l.length) (V:b<l.length),a<b->l[a].dC.id≠l[b].dC.id:=by
  intro a b U V I c;have:=(Xs.1 hr) a b (by rw [f'];exact U) (by rw [f'];exact V) I;rw [lr U,lr V,c,du.iT] at this;omega
 obtain c|c|c:=XO (Xd (eo l) e.dC.id) j
 .exact absurd (by rw [hi,F]) (G _ _ O X c)
 .simp only [c];exact F
 .exact absurd (by rw [hi,F]) (G _ _ X O c)
def kJ (O:Xr (eo l)) (V:x∈l) (G:x.dC=e.dC):dx (ep l e)=dx l:=by
 let ⟨U,hl,I⟩:=jA O V;have F:e.dC.id=x.dC.id:=by rw [G]
 rw [ob (by rw [F];exact U),F];generalize Xd (eo l) x.dC.id=P at*;unfold dx;rw [XA];apply Xp y_;intro j h1 h2;rw [Xo];split
 .rename_i c
  subst c;simp [I,G]
 .rfl
def yB (G:Xr (eo l)):x∈my l s↔x∈l/\x.dC.id≠s:=by
 cases hh:Xe (eo l) s
 .unfold my
  rw [hh,if_neg d_];refine ⟨λh=>⟨h,λc=>?_⟩,λh=>h.1⟩;rw [<-c,(jA G h).1] at hh;cases hh
 .let ⟨hl,O⟩:=lU G hh
  have I: ∀j (F:j<l.length),j≠Xd (eo l) s->l[j].dC.id≠s:=λj F c d=>by
   have:=Lb G hh (by rw [f'];exact F) c;rw [lr F,d,du.iT] at this;exact this rfl
  unfold my;rw [hh,if_pos rfl];generalize Xd (eo l) s=P at*;constructor
  .intro h
   obtain h|h:=XB.1 h
   .obtain ⟨j,F,rfl⟩:=Xf h
    simp only [List.length_take] at F;rw [XP];exact ⟨g_ _,I j o_ o_⟩
   .obtain ⟨j,F,rfl⟩:=Xf h
    simp only [List.length_drop] at F;rw [Xv];exact ⟨g_ _,I _ o_ o_⟩
  .rintro ⟨h,hn⟩
   obtain ⟨j,F,rfl⟩:=Xf h;obtain c|c|c:=XO j P
   .exact XH _ (List.mem_take_iff_getElem.2 ⟨j,o_,rfl⟩)
   .subst c;exact absurd O hn
   .refine XD _ (List.mem_iff_getElem.2 ⟨j - (P+1),by simp;omega,?_⟩)
    rw [Xv];simp only [show P+1+(j - (P+1))=j by omega]
def TV (s:ByteArray) (e:dq):Bool:= !(du.cmp e.dC.id s==0)
def mA:TV s e=Z'↔e.dC.id≠s:=by
 unfold TV;rw [Bool.not_eq_true',beq_eq_false_iff_ne];exact not_congr (du.cmp_eq _ _)
def Cu (G:Xr (eo l)):my l s=l.filter (TV s):=by
 cases hh:Xe (eo l) s
 .unfold my
  rw [hh,if_neg d_];refine (Xq.2 λx F=>mA.2 λc=>?_).symm;rw [<-c,(jA G F).1] at hh;cases hh
 .let ⟨hl,O⟩:=lU G hh
  have I:=λx=>yB (s:=s) G (x:=x)
  unfold my at I |-;rw [hh,if_pos rfl] at I |-;generalize Xd (eo l) s=P at*;have e:l=l.take P++l[P]::l.drop (P+1):=by rw [<-List.drop_eq_getElem_cons hl,XC]
  conv=>rhs;rw [e]
  rw [List.filter_append,List.filter_cons_of_neg (by rw [mA];exact λh=>h O),Xq.2 λx F=>mA.2 ((I x).1 (XH _ F)).2,Xq.2 λx F=>mA.2 ((I x).1 (XD _ F)).2]
end
structure Ok (x:AV):Prop where
 rf:gu.fK x.p x.dD
 cfg: ∀(w:WX) (B:Nat),Mem.Sl w B 5 x.p.A x.p.n (XU x.dD)->x.p.ok w B x.dD
 tl:x.dD.length=x.p.n
 st:eJ x.r x.l
 each: ∀e∈x.l,e.ok
 zl:x.zs.length=x.p.n
 zs: ∀z∈x.zs,-1<=z/\z<=x.r
 c0:0<=x.c0/\x.c0<=100000
 c1:0<=x.c1/\x.c1<=100000
 c2:0<=x.c2/\x.c2<=100000
 t: -1<=x.t/\x.t<=x.r
 a0:0<=x.a0/\x.a0<=9223372036854775807
 a1:0<=x.a1/\x.a1<=9223372036854775807
 a2:0<=x.a2/\x.a2<=9223372036854775807
 us:Xr (iK x.us)
 ul:x.us.length<=128
 am: ∀u∈x.us,(0<=u.sA/\u.sA<=9223372036854775807)/\(0<=u.sB/\u.sB<=9223372036854775807)/\(0<=u.sC/\u.sC<=9223372036854775807)
def iB (q r kind:Int) (p:Xc×List dX) (id:ByteArray):Xc×List dX:=(mV p.1 id q r,if oF p.1 id q then p.2++[⟨kind,id,0,0⟩] else p.2)
def asks (q r kind:Int) (p:Xc×List dX) (ids:List ByteArray):Xc×List dX:=ids.foldl (iB q r kind) p
def iU (p:Xc×List dX) (x:dK):Xc×List dX:=(pC p.1 x.name,if sE p.1 x.name then p.2++[⟨14,x.name,0,x.size⟩] else p.2)
def fM (p:Xc×List dX) (l:List dK):Xc×List dX:=l.foldl iU p
abbrev PS:=Xc×List dq×List dX
def uE (r:Int) (s:PS) (id:ByteArray):PS:=
 if (gH s.1.bx id).1=3 then
  (if (gH (mV s.1 id 3 r).bx id).1=3 then (mV s.1 id 3 r,s.2.1,s.2.2) else (mV s.1 id 3 r,my s.2.1 id,s.2.2++[⟨12,id,0,0⟩]))
 else (s.1,my s.2.1 id,s.2.2++[⟨12,id,0,0⟩])
def jD (r:Int) (s:PS) (e:dq):PS:=
 if e.ph=3 then uE r s e.dC.id
 else if Xe (XV s.1.bx) e.dC.id=WW then (rZ s.1 e.dC.id r,ep s.2.1 ⟨e.dC,2⟩,s.2.2++[⟨8,e.dC.id,0,0⟩])
 else if e.ph=1 then (mV s.1 e.dC.id (if (gH s.1.bx e.dC.id).1=3 then 3 else 4) r,s.2.1,s.2.2)
 else if (gH s.1.bx e.dC.id).1=4 then (mV s.1 e.dC.id 4 r,s.2.1,s.2.2)
 else if (gH s.1.bx e.dC.id).1=1 then (pB s.1 e.dC.id e.dC.eO e.dC.size r,s.2.1,if qz s.1 e.dC.id e.dC.eO then s.2.2++[⟨9,e.dC.eO,0,e.dC.size⟩] else s.2.2)
 else if (gH s.1.bx e.dC.id).1=2 then (mV s.1 e.dC.id 2 r,s.2.1,if oF s.1 e.dC.id 2 then s.2.2++[⟨10,e.dC.id,0,0⟩] else s.2.2)
 else if (gH s.1.bx e.dC.id).1=6 then (s.1,my s.2.1 e.dC.id,s.2.2++[⟨11,e.dC.id,0,0⟩])
 else s
def iH (r:Int) (s:PS) (l:List dq):PS:=l.foldl (jD r) s
def sX (q r kind:Int) (p:Xc×List dX) (l:List ByteArray) (k:Nat) (h:k<l.length):asks q r kind p (l.take (k+1))=iB q r kind (asks q r kind p (l.take k)) l[k]:=by
 unfold asks;rw [XX l k h,Xw];rfl
def yG (p:Xc×List dX) (l:List dK) (k:Nat) (h:k<l.length):fM p (l.take (k+1))=iU (fM p (l.take k)) l[k]:=by
 unfold fM;rw [XX l k h,Xw];rfl
def qV (r:Int) (s:PS) (l:List dq) (k:Nat) (h:k<l.length):iH r s (l.take (k+1))=jD r (iH r s (l.take k)) l[k]:=by
 unfold iH;rw [XX l k h,Xw];rfl
def pQ (x:AV):List Int:=if x.fr then gu.lE (gu.lV x.p x.a0 x.a1 x.a2 x.dD) x.zs x.r else x.zs
def vF (x:AV):List Bool:=if x.fr then gu.ra x.dD (pQ x) x.r else []
def jV (x:AV):Bool×Bool×Bool:=if x.fr then gu.pR x.dD (vF x) WW WW WW else (WW,WW,WW)
def re (x:AV):Bool×Bool×Bool:=if x.fr then gu.pR x.dD (gu.lV x.p x.a0 x.a1 x.a2 x.dD) WW WW WW else (WW,WW,WW)
def Lf (x:AV):Bool×Int:=Tw.dU x.o0 x.c0 (jV x).1 (re x).1 x.fr x.p.fg
def Lg (x:AV):Bool×Int:=Tw.dU x.o1 x.c1 (jV x).2.1 (re x).2.1 x.fr x.p.fg
def Lh (x:AV):Bool×Int:=Tw.dU x.o2 x.c2 (jV x).2.2 (re x).2.2 x.fr x.p.fg
def Qr (x:AV):List dX:=Tw.na 0 x.o0 (Lf x).1++Tw.na 1 x.o1 (Lg x).1++Tw.na 2 x.o2 (Lh x).1
structure rj (c:Nat):Prop where
 o:c=2\/c=3\/c=8
structure RK where
 e:TypeId
 k:Nat
 A:Option Xa
 n:Nat
 c:Nat
 xs:List WY
abbrev BL:=List (Nat×TypeId×Array WY)
structure Cx where
 W:WX
 w:WX
 b':Nat->Nat
 gd:Nat
 sb:Nat
 gw:Nat
 ga:Nat
 gr:Nat
 s:XL
 v:Int
structure RN (C:Cx) (b':Nat->Nat) (rt:Xc) (x:AV) (y:RV) (B:BL) (R:List RK) (w:WX):Prop where
 n:N C.W w b' C.gd C.sb C.gw C.ga C.s C.v rt x
 r:Rd w b' C.gr C.ga y
 b: ∀t∈B,fQ w b' 9 t.1 t.2.1 t.2.2
 k: ∀t∈R,eG w b' 9 t.e t.k t.A t.n t.c t.xs
def Rq (C:Cx) (rt:Xc) (x:AV) (y:RV) (B:BL) (R:List RK) (w:WX):Prop:= ∃b',RN C b' rt x y B R w/\dJ rj C.W C.w w C.b' b'
structure RS (C:Cx) (ya xa:Array WY) (Zr Za:List Nat) (B:BL) (w:WX):Prop where
 r: ∀i,i∉Zr->w.cell? ⟨C.gr,i,Z_⟩=ya[i]?
 a: ∀i,i∉Za->w.cell? ⟨C.ga,i,Z_⟩=xa[i]?
 b: ∀t∈B,∀i,w.cell? ⟨t.1,i,Z_⟩=t.2.2[i]?
section
variable {C:Cx} {w w' w2:WX} {b' col':Nat->Nat} {rt rt':Xc} {x x':AV} {y y':RV} {B B':BL} {R R':List RK} {J:Nat->Prop} {ya xa:Array WY} {Zr Za:List Nat}
def RS.mono {B':BL} (h:RS C ya xa Zr Za B w) (h1: ∀i,i∉Zr'->i∉Zr) (h2: ∀i,i∉Za'->i∉Za) (h3: ∀t∈B',t∈B):RS C ya xa Zr' Za' B' w:=⟨λi hi=>h.r i (h1 i hi),λi hi=>h.a i (h2 i hi),λt ht=>h.b t (h3 t ht)⟩
def RN.gA (h:RN C b' rt x y B R w) (hn:N C.W w' col' C.gd C.sb C.gw C.ga C.s C.v rt' x') (t:dJ J C.W w w' b' col') (h8: ¬J 8) (h9: ¬J 9):RN C col' rt' x' y B R w':=
 ⟨hn,h.r.ed t h8,λq hq=>(h.b q hq).ed t h9,λq hq=>(h.k q hq).ed t h9⟩
def RN.sub (h:RN C b' rt x y B R w) (hb: ∀t∈B',t∈B) (hr: ∀t∈R',t∈R):RN C b' rt x y B' R' w:=⟨h.n,h.r,λt ht=>h.b t (hb t ht),λt ht=>h.k t (hr t ht)⟩
def RN.rs (h:RN C b' rt x y B R w) (Zr Za:List Nat):RS C (y.arr C.ga) (x.arr C.gw C.sb) Zr Za B w:=⟨λi _=>h.r.dr.dr.cell i,λi _=>h.n.ag.dr.dr.cell i,λt ht i=>(h.b t ht).dr.cell i⟩
def Rq.rs (h:Rq C rt x y B R w) (Zr Za:List Nat):RS C (y.arr C.ga) (x.arr C.gw C.sb) Zr Za B w:=by let ⟨_,h,_⟩:=h;exact h.rs Zr Za
def Rq.sub (h:Rq C rt x y B R w) (hb: ∀t∈B',t∈B) (hr: ∀t∈R',t∈R):Rq C rt x y B' R' w:=by let ⟨b',h,t⟩:=h;exact ⟨b',h.sub hb hr,t⟩
def Rq.nil (h:Rq C rt x y B R w):Rq C rt x y [] [] w:=h.sub (λ_ h=>by cases h) (λ_ h=>by cases h)
def RN.start (h:RN C C.b' rt x y B R C.w):Rq C rt x y B R C.w:=⟨_,h,dJ.refl _ _ _ _⟩
def RN.at_ (h:RN C b' rt x y B R w):RN {C with w:=w,b':=b'} b' rt x y B R w:=⟨h.n,h.r,h.b,h.k⟩
def Rq.back (t:dJ rj C.W C.w w C.b' b') (h:Rq {C with w:=w,b':=b'} rt x y B R w'):Rq C rt x y B R w':=by
 let ⟨col',h,F⟩:=h;exact ⟨col',⟨h.n,h.r,h.b,h.k⟩,t.trans F⟩
def Rq.below (h:Rq C rt x y B R w) (G:Bw w w'):Rq C rt x y B R w':=by
 let ⟨b',h,t⟩:=h;have F:dJ (λ_=>False) C.W w w' b' (dN w b' λ_=>9):=dJ.below G _;exact ⟨_,h.gA (h.n.below G (λ_=>9)) F (λc=>c) (λc=>c),t.trans (F.mono λ_ c=>c.elim)⟩
def Rq.drew (h:Rq C rt x y B R w):Rq C rt x y B R w.drew:=h.below b_.drew
def Rq.ku {T:TypeId} (h:Rq C rt x y B R w) (G:Bw w w') (U:Xh w' g T cs) (hn:X_ (Y_ w)<=g):Rq C rt x y ((g,T,cs)::B) R w':=by
 let ⟨b',h,t⟩:=h;have F:dJ (λ_=>False) C.W w w' b' (dN w b' λ_=>9):=dJ.below G _;have I:=h.gA (h.n.below G (λ_=>9)) F (λc=>c) (λc=>c);refine ⟨_,⟨I.n,I.r,λq O=>?_,I.k⟩,t.trans (F.mono λ_ c=>c.elim)⟩;exact Es
def Rq.kt (h:Rq C rt x y B R w) (G:Bw w w') (U:Xl w' e k A n c xs) (hn: ∀b,Xg A=Y' b->X_ (Y_ w)<=b):Rq C rt x y B (⟨e,k,A,n,c,xs⟩::R) w':=by
 let ⟨b',h,t⟩:=h;have F:dJ (λ_=>False) C.W w w' b' (dN w b' λ_=>9):=dJ.below G _;have I:=h.gA (h.n.below G (λ_=>9)) F (λc=>c) (λc=>c);refine ⟨_,⟨I.n,I.r,I.b,λq O=>?_⟩,t.trans (F.mono λ_ c=>c.elim)⟩;exact Et
def Rq.row (h:Rq C rt x y B R w) (F:(⟨e,k,A,n,c,xs⟩:RK)∈R):Xl w e k A n c xs:=by
 let ⟨b',h,_⟩:=h;exact (h.k _ F).row
def Rq.dr {T:TypeId} (h:Rq C rt x y B R w) (F:(g,T,cs)∈B):Xh w g T cs:=by
 let ⟨b',h,_⟩:=h;exact (h.b _ F).dr
def Rq.gT (h:Rq C rt x y B R w):Xl w 58 12 x.PA x.l.length x.pc (XN x.l):=by let ⟨b',h,_⟩:=h;exact h.n.ag.gT.row
def Rq.qy (h:Rq C rt x y B R w):Xl w 92 5 x.p.A x.p.n x.p.c (XU x.dD):=by let ⟨b',h,_⟩:=h;exact h.n.ag.qy.row
def Rq.since (h:Rq C rt x y B R w):Xl w 3 1 x.SA x.p.n x.sc (x.zs.map (.int .i64)):=by let ⟨b',h,_⟩:=h;exact h.n.ag.since.row
def Rq.use (h:Rq C rt x y B R w):Xl w 299 4 x.UA x.us.length x.uc (XW x.us):=by let ⟨b',h,_⟩:=h;exact h.n.ag.use.row
def Rq.hs (h:Rq C rt x y B R w):Xl w 4 1 y.HA y.hn y.hc (y.hs.map Xn):=by let ⟨b',h,_⟩:=h;exact h.r.hs.row
def Rq.ne (h:Rq C rt x y B R w):C.ga≠C.gr:=by
 let ⟨b',h,_⟩:=h;intro e;have F:=h.n.ag.dr.b';rw [e,h.r.dr.b'] at F;cases F
def Rq.oD (h:Rq C rt x y B R w) (i:Nat):w.frozen? ⟨C.ga,i,Z_⟩=WW:=by let ⟨b',h,_⟩:=h;exact h.n.ag.dr.dr.frozen i
def Rq.PJ (h:Rq C rt x y B R w) (i:Nat):w.frozen? ⟨C.gr,i,Z_⟩=WW:=by let ⟨b',h,_⟩:=h;exact h.r.dr.dr.frozen i
def RN.Tk (h:RN C b' rt x y B R w) (t:dJ rj C.W C.w w C.b' b') (p:PL C.W b' w C.gd C.sb C.gw C.ga C.s C.v x rt' w'):Rq C rt' x y B R w':=by
 obtain ⟨col',G,F⟩:=p;exact ⟨col',h.gA G F d_ d_,t.trans (F.mono λc hc=>⟨.inl hc⟩)⟩
def Rq.ask {id:ByteArray} {round:Int} (h:Rq C rt x y B R w) (hs:Xj rt) (F:(Lit.int .i64 q).wf=Z'):
  WZ Xb 113 #[P_ (Y' ⟨C.gw,0,Z_⟩),id,q,round] w λe w'=>e=R_ (U_ #[B_ (oF rt id q),I_ J_ (nB rt id q)])/\Rq C (mV rt id q round) x y B R w':=by
 let ⟨b',h,t⟩:=h;exact (Tl h.n hs F).mono λe w' p=>⟨p.1,h.Tk t p.2⟩
def Rq.new {id:ByteArray} {round:Int} (h:Rq C rt x y B R w) (hs:Xj rt):
  WZ Xb 127 #[P_ (Y' ⟨C.gw,0,Z_⟩),id,round] w λe w'=>(∃q,e=R_ (I_ J_ q))/\Rq C (rZ rt id round) x y B R w':=by
 let ⟨b',h,t⟩:=h;exact (Tm h.n hs).mono λe w' p=>⟨p.1,h.Tk t p.2⟩
def Rq.pull {id:ByteArray} {round:Int} (h:Rq C rt x y B R w) (hs:Xj rt):
  WZ Xb 128 #[P_ (Y' ⟨C.gw,0,Z_⟩),id,name,size,round] w λe w'=>(∃b q,e=R_ (U_ #[B_ b,B_ (qz rt id name),I_ J_ q]))/\Rq C (pB rt id name size round) x y B R w':=by
 let ⟨b',h,t⟩:=h;exact (PM h.n hs).mono λe w' p=>⟨p.1,h.Tk t p.2⟩
def Rq.drop (h:Rq C rt x y B R w) (hs:Xj rt):
  WZ Xb 121 #[P_ (Y' ⟨C.gw,0,Z_⟩),name] w λe w'=>(∃q,e=R_ (U_ #[B_ (sE rt name),I_ J_ q]))/\Rq C (pC rt name) x y B R w':=by
 let ⟨b',h,t⟩:=h;exact (PO h.n hs).mono λe w' p=>⟨p.1,h.Tk t p.2⟩
def Rq.To {us:List ByteArray} {round:Int} (h:Rq C rt x y B R w) (hs:Xj rt) (G:Strs w w.heap.size A2 m us) (F:m<=10000):
  WZ Xb 110 #[P_ (Y' ⟨C.gw,0,Z_⟩),S_ A2 m d,round] w λe w'=>e=R_ (U_ #[])/\Rq C {rt with im:=fZ round rt.im us} x y B R w':=by
 let ⟨b',h,t⟩:=h;exact (JY h.n hs G F).mono λe w' p=>⟨p.1,h.Tk t p.2⟩
def Rq.box {id:ByteArray} (h:Rq C rt x y B R w) (hs:Xj rt):
  WZ Xb 125 #[P_ (Y' ⟨C.gw,0,Z_⟩),id] w λe w'=>e=R_ (U_ #[A_ #[I_ J_ (gH rt.bx id).1,I_ J_ (gH rt.bx id).2],B_ (Xe (XV rt.bx) id)])/\Bw w w':=by
 let ⟨b',h,t⟩:=h;exact Tr h.n hs
def RN.VL (h:RN C b' rt x y B R w) (t:dJ rj C.W C.w w C.b' b') (p:Ts C.W b' w C.gd C.sb C.gw C.ga C.s C.v x rt e k A n c xs w'):Rq C rt x y B (⟨e,k,A,n,c,xs⟩::R) w':=by
 obtain ⟨col',O,U,I,_⟩:=p;have F:=h.gA O I (λc=>c) (λc=>c);refine ⟨col',⟨F.n,F.r,F.b,λq G=>?_⟩,t.trans (I.mono λc hc=>hc.elim)⟩;obtain rfl|G:=p_ G
 .exact U
 .exact F.k q G
def Rq.NS (h:Rq C rt x y B R w) (hs:Xj rt):
  WZ Xb 112 #[P_ (Y' ⟨C.gw,0,Z_⟩)] w λe w'=> ∃A' c',e=R_ (S_ A' rt.bx.length c')/\Rq C rt x y B (⟨273,4,A',rt.bx.length,c',dP.flat rt.bx⟩::R) w':=by
 let ⟨b',h,t⟩:=h;exact (JZ h.n hs).mono λe w' ⟨A',c',e1,p⟩=>⟨A',c',e1,h.VL t p⟩
def Rq.VM (h:Rq C rt x y B R w) (hs:Xj rt):
  WZ Xb 116 #[P_ (Y' ⟨C.gw,0,Z_⟩)] w λe w'=> ∃A' c',e=R_ (S_ A' rt.im.length c')/\Rq C rt x y B (⟨223,3,A',rt.im.length,c',dK.flat rt.im⟩::R) w':=by
 let ⟨b',h,t⟩:=h;exact (PQ h.n hs).mono λe w' ⟨A',c',e1,p⟩=>⟨A',c',e1,h.VL t p⟩
def Rq.wait (h:Rq C rt x y B R w) (hs:Xj rt):
  WZ Xb 119 #[P_ (Y' ⟨C.gw,0,Z_⟩)] w λe w'=> ∃A' c',e=R_ (S_ A' rt.outs.length c')/\Rq C rt x y B (⟨4,1,A',rt.outs.length,c',rt.outs.map Xn⟩::R) w':=by
 let ⟨b',h,t⟩:=h;exact (PR h.n hs).mono λe w' ⟨A',c',e1,p⟩=>⟨A',c',e1,h.VL t p⟩
def Rq.tell (kind n:Int) (id:ByteArray) (h:Rq C rt x y B R w) (hn:y.ev.length<=100000):
  WZ Xb 114 #[P_ (Y' ⟨C.gr,0,Z_⟩),kind,id,n] w λe w'=>e=R_ (U_ #[])/\ ∃(A':Option Xa) (c':Nat),Rq C rt x {y with EA:=A',ec:=c',ev:=y.ev++[⟨kind,id,0,n⟩]} B R w':=by
 let ⟨b',h,t⟩:=h;refine (PT kind n id h.n h.r hn).mono ?_;rintro e w' ⟨U,col',rt',x',y',F,G,I,rfl,rfl,A',c',rfl⟩;exact ⟨U,A',c',col',⟨F,G,λq O=>(h.b q O).ed I d_,λq O=>(h.k q O).ed I d_⟩,t.trans (I.mono λc hc=>⟨.inr (.inr hc)⟩)⟩
def RN.WB {P:Xc->AV->Prop} (h:RN C b' rt x y B R w) (t:dJ rj C.W C.w w C.b' b') (p:An C.W (λc=>c=3) b' w C.gd C.sb C.gw C.ga C.s C.v P w'): ∃rt' x',P rt' x'/\Rq C rt' x' y B R w':=by
 obtain ⟨col',rt',x',F,G,I⟩:=p;exact ⟨rt',x',I,col',h.gA F G d_ d_,t.trans (G.mono λc hc=>⟨.inr (.inl hc)⟩)⟩
def Rq.tab (h:Rq C rt x y B R w) (G:Bw w w2) (V:jJ w2 A n c l) (X: ∀b,Xg A=Y' b->X_ (Y_ w)<=b):
  World.there w2 C.ga 13 5/\Rq C rt {x with PA:=A,pc:=c,l:=l} y B R (w2.setCells C.ga 13 [I_ J_ x.r,S_ A l.length c,B_ x.o0,B_ x.o1,B_ x.o2]):=by
 let ⟨b',h,t⟩:=h;refine zu ?_;intro I;have O:=eU.gv [I_ J_ x.r,S_ A l.length c,B_ x.o0,B_ x.o1,B_ x.o2] 13 _ _ I;rw [oG] at O;have hn:=iw V;subst hn;have F:=h.n.below G (λ_=>3);let ⟨a1,a2⟩:=F.oH (x':={x with PA:=A,pc:=c,l:=l}) (eU.eI _ _ _) O F.ag.qy ⟨V,λb hb=>fv (X b hb)⟩ F.ag.since F.ag.use;refine vJ ?_;intro U;exact ⟨_,h.gA a1 (U.trans a2) d_ d_,t.trans ((U.trans a2).mono λc hc=>⟨.inr (.inl hc)⟩)⟩
def RS.Eu {o:Nat} (h:RS C ya xa Zr Za B w) (G:C.ga≠C.gr) (U: ∀t∈B,t.1≠C.ga) (O: ∀i,i∉Za->i<o\/o+vs.length<=i):RS C ya xa Zr Za B (w.setCells C.ga o vs):=by
 refine ⟨λi F=>?_,λi F=>?_,λt I i=>?_⟩
 .rw [World.cell?_setCells_out _ _ _ _ _ (λe _=>absurd e.symm G)];exact h.r i F
 .rw [World.cell?_setCells_out _ _ _ _ _ (λ_ _=>O i F)];exact h.a i F
 .exact zv
def RS.Ev (h:RS C ya xa Zr [13,14,15,16,17] B w) (hne:C.ga≠C.gr) (hB: ∀t∈B,t.1≠C.ga):RS C ya xa Zr [13,14,15,16,17] B (w.setCells C.ga 13 [v1,v2,v3,v4,v5]):=
 h.Eu hne hB λi hi=>by
  show i<13\/13+5<=i
  simp at hi;omega
def rU (C:Cx) (x:AV) (y:RV) (z:PS) (B:BL) (R:List RK) (w:WX):Prop:= ∃(A:Option Xa) (c:Nat) (EA:Option Xa) (ec:Nat),Rq C z.1 {x with PA:=A,pc:=c,l:=z.2.1} {y with EA:=EA,ec:=ec,ev:=z.2.2} B R w
def rU.sub {z:PS} (h:rU C x y z B R w) (F: ∀t∈B',t∈B) (G: ∀t∈R',t∈R):rU C x y z B' R' w:=by
 let ⟨A,c,EA,ec,h⟩:=h;exact ⟨A,c,EA,ec,h.sub F G⟩
def Rq.VN (h:Rq C rt x y B R w):(∀t∈B,t.1<X_ (Y_ w))/\ ∀t∈R,∀b,Xg t.A=Y' b->b<X_ (Y_ w):=by
 let ⟨b',h,_⟩:=h;exact ⟨λt F=>(h.b t F).dr.lt,λt F b G=>(h.k t F).row.lt G⟩
def Rq.VO {T:TypeId} (h:Rq C rt x y ((g,T,cs)::B) R w) (hB: ∀t∈B,t.1≠g) (X: ∀t∈R,∀b,Xg t.A=Y' b->b≠g) (hC:C.w.heap.size<=g):
  Rq C rt x y ((g,T,cs.setIfInBounds i u)::B) R (w.setCell ⟨g,i,Z_⟩ u):=by
 let ⟨b',h,t⟩:=h;have I:=h.b _ (m_ ..);refine Eo ?_;intro G;refine ⟨b',⟨h.n.yb I d_ d_ i u,h.r.mI I d_ i u,λq F=>?_,λq F=>(h.k q F).only G (λb hb e=>X q F b hb e) (λ_ _=>rfl)⟩,⟨λk O V=>(G.block k ?_ ?_).trans (t.block k O V),t.b'⟩⟩
 .obtain rfl|F:=p_ F
  .exact I.eC i u
  .have U:=h.b q (n_ _ F)
   exact ⟨U.dr.fA (p:=⟨g,i,Z_⟩) (hB q F),U.b'⟩
 .obtain ⟨o,G⟩: ∃o,C.w.heap[k]?=Y' o:=⟨_,Array.getElem?_eq_getElem O⟩
  exact mi ((t.block k O V).trans G)
 .show k≠g
  omega
def rU.back {z:PS} (t:dJ rj C.W C.w w C.b' b') (h:rU {C with w:=w,b':=b'} x y z B R w'):rU C x y z B R w':=by
 let ⟨A,c,EA,ec,h⟩:=h;exact ⟨A,c,EA,ec,h.back t⟩
def Rq.bne (h:Rq C rt x y B R w): ∀t∈B,t.1≠C.ga/\t.1≠C.gr:=by
 let ⟨b',h,_⟩:=h;intro t G;have F:=(h.b t G).b';refine ⟨λe=>?_,λe=>?_⟩
 .rw [e,h.n.ag.dr.b'] at F;cases F
 .rw [e,h.r.dr.b'] at F;cases F
end
section
variable {C:Cx} {w w' w2:WX} {b' col':Nat->Nat} {rt rt':Xc} {x x':AV} {y y':RV} {B B':BL} {R R':List RK} {J:Nat->Prop} {ya xa:Array WY} {Zr Za:List Nat}
def RN.Ih (h:RN C b' rt x y B R w) (t:dJ rj C.W C.w w C.b' b') (G:Xx (λb=>b=C.ga) w w') (U:Xh w' C.ga 100 (x'.arr C.gw C.sb)) (O:eG w b' 3 92 5 x'.p.A x'.p.n x'.p.c (XU x'.dD))
  (I:eG w b' 3 58 12 x'.PA x'.l.length x'.pc (XN x'.l)) (hs:eG w b' 3 3 1 x'.SA x'.p.n x'.sc (x'.zs.map (.int .i64)))
  (F:eG w b' 3 299 4 x'.UA x'.us.length x'.uc (XW x'.us)):Rq C rt x' y B R w':=by
 let ⟨a1,a2⟩:=h.n.oH (x':=x') G U O I hs F;exact ⟨_,h.gA a1 a2 d_ d_,t.trans (a2.mono λc hc=>⟨.inr (.inl hc)⟩)⟩
def Rq.mI (h:Rq C rt x y B R w) (i:Nat) (u:WY) (O:(x.arr C.gw C.sb).setIfInBounds i u=x'.arr C.gw C.sb) (I:({x' with r:=x.r,o0:=x.o0,o1:=x.o1,o2:=x.o2,c0:=x.c0,c1:=x.c1,c2:=x.c2,fr:=x.fr,eB:=x.eB,dead:=x.dead}:AV)=x):Rq C rt x' y B R (w.setCell ⟨C.ga,i,Z_⟩ u):=by
 exact US
def Rq.rE (h:Rq C rt x y B R w) (b:Bool):Rq C rt {x with fr:=b} y B R (w.setCell ⟨C.ga,27,Z_⟩ (B_ b)):=h.mI 27 _ (by simp [AV.arr]) rfl
def AV.on (x:AV) (k:Nat) (b:Bool):AV:=if k=0 then {x with o0:=b} else if k=1 then {x with o1:=b} else {x with o2:=b}
def AV.calm (x:AV) (k:Nat) (c:Int):AV:=if k=0 then {x with c0:=c} else if k=1 then {x with c1:=c} else {x with c2:=c}
def Rq.Ul (h:Rq C rt x y B R w) (k:Nat) (hk:k<3) (b:Bool):Rq C rt (x.on k b) y B R (w.setCell ⟨C.ga,15+k,Z_⟩ (B_ b)):=by
 have:k=0\/k=1\/k=2:=o_;obtain rfl|rfl|rfl:=this
 .exact h.mI 15 _ (by simp [AV.arr,AV.on]) rfl
 .exact h.mI 16 _ (by simp [AV.arr,AV.on]) rfl
 .exact h.mI 17 _ (by simp [AV.arr,AV.on]) rfl
def Rq.LV (h:Rq C rt x y B R w) (k:Nat) (hk:k<3) (c:Int):Rq C rt (x.calm k c) y B R (w.setCell ⟨C.ga,19+k,Z_⟩ (I_ J_ c)):=by
 have:k=0\/k=1\/k=2:=o_;obtain rfl|rfl|rfl:=this
 .exact h.mI 19 _ (by simp [AV.arr,AV.calm]) rfl
 .exact h.mI 20 _ (by simp [AV.arr,AV.calm]) rfl
 .exact h.mI 21 _ (by simp [AV.arr,AV.calm]) rfl
def Rq.GX (h:Rq C rt x y B R w) (G:Bw w w2) (I:w2.ownsRow w.heap.size 3 1 (S_ A x.p.n c) x.p.n (zs.map (.int .i64))):
  Rq C rt {x with SA:=A,sc:=c,zs:=zs} y B R (w2.setCell ⟨C.ga,18,Z_⟩ (S_ A x.p.n c)):=by
 let ⟨A',c',e,I,V⟩:=Dk.gW I;obtain ⟨rfl,rfl⟩:A=A'/\c=c':=by simpa using e
 let ⟨b',h,t⟩:=h;refine vJ ?_;intro U;have F:=h.gA (h.n.below G (λ_=>3)) U d_ d_;have O:=F.n.ag.dr.dr.eC 18 (S_ A x.p.n c);refine F.Ih (x':={x with SA:=A,sc:=c,zs:=zs}) (t.trans (U.mono λc hc=>⟨.inr (.inl hc)⟩)) (Xk w2 ⟨C.ga,18,Z_⟩ _) ?_ F.n.ag.qy F.n.ag.gT ⟨I,λb O=>fv (V b O)⟩ F.n.ag.use;have e:(x.arr C.gw C.sb).setIfInBounds 18 (S_ A x.p.n c)=({x with SA:=A,sc:=c,zs:=zs}:AV).arr C.gw C.sb:=by simp [AV.arr]
 rw [<-e];exact O
def RN.NB (h:RN C b' rt x y B R w) (t:dJ rj C.W C.w w C.b' b') (G:Xx (λb=>b=C.gr) w w') (F:Xh w' C.gr 148 (y'.arr C.ga))
  (X:eG w b' 8 55 4 y'.EA y'.ev.length y'.ec (Xy y'.ev)) (hh:eG w b' 8 4 1 y'.HA y'.hn y'.hc (y'.hs.map Xn)):Rq C rt x y' B R w':=by
 have U: ∀k,k=C.gr->k<X_ (Y_ w)->b' k=8:=λk e _=>by rw [e];exact h.r.dr.b'
 have key: ∀k,k<X_ (Y_ w)->dN w b' b' k=b' k:=λk _=>by unfold dN;split<;>rfl
 have I:dJ (λc=>c=8) C.W w w' b' (dN w b' b'):=dJ.only G (λk z hl=>⟨h.n.sys.lL (by rw [U k z hl];decide),U k z hl⟩) b';have hn:N C.W w' (dN w b' b') C.gd C.sb C.gw C.ga C.s C.v rt x:=⟨h.n.sys.put G U d_ b',h.n.ag.ed I d_⟩;have V:=h.r.dr.dr;refine ⟨_,⟨hn,⟨⟨F,(key _ V.lt).trans h.r.dr.b'⟩,X.only G (λb F e=>la X.row V d_ b F e) key,hh.only G (λb F e=>la hh.row V d_ b F e) key⟩,λq O=>(h.b q O).ed I d_,λq O=>(h.k q O).ed I d_⟩,t.trans (I.mono λc hc=>⟨.inr (.inr hc)⟩)⟩
def Rq.GZ {bs:List Bool} (h:Rq C rt x y B R w) (F:Bw w w2) (I:w2.ownsRow w.heap.size 4 1 (S_ A n c) n (bs.map Xn)):
  Rq C rt x {y with HA:=A,hn:=n,hc:=c,hs:=bs} B R (w2.setCell ⟨C.gr,2,Z_⟩ (S_ A n c)):=by
 let ⟨A',c',e,I,U⟩:=Dk.gW I;obtain ⟨rfl,rfl⟩:A=A'/\c=c':=by simpa using e
 let ⟨b',h,t⟩:=h;have V:dJ (λc=>c=8) C.W w w2 b' (dN w b' λ_=>8):=dJ.below F _;have t0:dJ (λ_=>False) C.W w w2 b' (dN w b' λ_=>8):=dJ.below F _;have G:=h.gA (h.n.below F (λ_=>8)) t0 (λc=>c) (λc=>c);have O:=G.r.dr.dr.eC 2 (S_ A n c);refine G.NB (y':={y with HA:=A,hn:=n,hc:=c,hs:=bs}) (t.trans (V.mono λc hc=>⟨.inr (.inr hc)⟩)) (Xk w2 ⟨C.gr,2,Z_⟩ _) ?_ G.r.ev ⟨I,λb O=>fv (U b O)⟩;have e:(y.arr C.ga).setIfInBounds 2 (S_ A n c)=({y with HA:=A,hn:=n,hc:=c,hs:=bs}:RV).arr C.ga:=by simp [RV.arr]
 rw [<-e];exact O
def Rq.G' (h:Rq C rt x y B R w) (b0 b1 b2:Bool):
  World.there w C.gr 3 3/\Rq C rt x {y with p0:=b0,p1:=b1,p2:=b2} B R (w.setCells C.gr 3 [B_ b0,B_ b1,B_ b2]):=by
 let ⟨b',h,t⟩:=h;refine ⟨eU.gP h.r.dr.dr (by simp [RV.arr]),?_⟩;have F:=eU.gv [B_ b0,B_ b1,B_ b2] 3 _ _ h.r.dr.dr;have e:eU.lay (y.arr C.ga) 3 [B_ b0,B_ b1,B_ b2]=({y with p0:=b0,p1:=b1,p2:=b2}:RV).arr C.ga:=by simp [eU.lay,RV.arr]
 rw [e] at F;exact h.NB t (eU.eI _ _ _) F h.r.ev h.r.hs
def Rq.UH (h:Rq C rt x y B R w) (b:Bool):Rq C rt x {y with p1:=b} B R (w.setCell ⟨C.gr,4,Z_⟩ (B_ b)):=by
 let ⟨b',h,t⟩:=h;have F:=h.r.dr.dr.eC 4 (B_ b);have e:(y.arr C.ga).setIfInBounds 4 (B_ b)=({y with p1:=b}:RV).arr C.ga:=by simp [RV.arr]
 rw [e] at F;exact h.NB t (Xk w ⟨C.gr,4,Z_⟩ _) F h.r.ev h.r.hs
def Pt {p:Prop} (h:p:=by
 rw [World.cell?_setCell_other _ _ _ _ (λe=>U t I (congrArg Addr.block e).symm)];exact h.b t I j):p:=h
def RS.GY (h:RS C ya xa Zr Za B w) (G:C.ga≠C.gr) (U: ∀t∈B,t.1≠C.ga) (O:i∈Za):RS C ya xa Zr Za B (w.setCell ⟨C.ga,i,Z_⟩ u):=by
 refine ⟨λj F=>?_,λj F=>?_,λt I j=>?_⟩
 .rw [World.cell?_setCell_other _ _ _ _ (λe=>G (by simpa using congrArg Addr.block e))];exact h.r j F
 .rw [World.cell?_setCell_other _ _ _ _ (λe=>F (by have:i=j:=congrArg Addr.off e;rw [<-this];exact O))];exact h.a j F
 .exact Pt
def RS.G_ (h:RS C ya xa Zr Za B w) (G:C.ga≠C.gr) (U: ∀t∈B,t.1≠C.gr) (O:i∈Zr):RS C ya xa Zr Za B (w.setCell ⟨C.gr,i,Z_⟩ u):=by
 refine ⟨λj F=>?_,λj F=>?_,λt I j=>?_⟩
 .rw [World.cell?_setCell_other _ _ _ _ (λe=>F (by have:i=j:=congrArg Addr.off e;rw [<-this];exact O))];exact h.r j F
 .rw [World.cell?_setCell_other _ _ _ _ (λe=>G (congrArg Addr.block e).symm)];exact h.a j F
 .exact Pt
def RS.Uk {o:Nat} (h:RS C ya xa Zr Za B w) (G:C.ga≠C.gr) (U: ∀t∈B,t.1≠C.gr) (O: ∀i,i∉Zr->i<o\/o+vs.length<=i):RS C ya xa Zr Za B (w.setCells C.gr o vs):=by
 refine ⟨λi F=>?_,λi F=>?_,λt I i=>?_⟩
 .rw [World.cell?_setCells_out _ _ _ _ _ (λ_ _=>O i F)];exact h.r i F
 .rw [World.cell?_setCells_out _ _ _ _ _ (λe _=>absurd e G)];exact h.a i F
 .exact zv
def RS.Ha {o:Nat} (h:RS C ya xa Zr Za B w) (O:g≠C.ga) (G:g≠C.gr) (U: ∀t∈B,t.1≠g):RS C ya xa Zr Za B (w.setCells g o vs):=by
 refine ⟨λi F=>?_,λi F=>?_,λt I i=>?_⟩
 .rw [World.cell?_setCells_out _ _ _ _ _ (λe _=>absurd e.symm G)];exact h.r i F
 .rw [World.cell?_setCells_out _ _ _ _ _ (λe _=>absurd e.symm O)];exact h.a i F
 .exact zv
def RN.tq {T:TypeId} (h:RN C b' rt x y ((g,T,cs)::B) R w) (t:dJ rj C.W C.w w C.b' b') (hB: ∀t∈B,t.1≠g) (hR: ∀t∈R,∀b,Xg t.A=Y' b->b≠g) (hC:C.w.heap.size<=g) (aa:Xx (λb=>b=g) w w') (hb:Xh w' g T cs'):
  ∃col',RN C col' rt x y ((g,T,cs')::B) R w'/\dJ rj C.W C.w w' C.b' col'/\dJ (λc=>c=9) C.W w w' b' col':=by
 have X:=h.b _ (m_ ..);have U: ∀k,k=g->k<X_ (Y_ w)->b' k=9:=λk e _=>by rw [e];exact X.b'
 have key: ∀k,k<X_ (Y_ w)->dN w b' b' k=b' k:=λk _=>by unfold dN;split<;>rfl
 have I:dJ (λc=>c=9) C.W w w' b' (dN w b' b'):=dJ.only aa (λk z hl=>⟨h.n.sys.lL (by rw [U k z hl];decide),U k z hl⟩) b';have hn:N C.W w' (dN w b' b') C.gd C.sb C.gw C.ga C.s C.v rt x:=⟨h.n.sys.put aa U d_ b',h.n.ag.ed I d_⟩;refine ⟨_,⟨hn,h.r.ed I d_,λq F=>?_,λq F=>(h.k q F).only aa (λb hb e=>hR q F b hb e) key⟩,⟨λk O ab=>?_,λk O ab=>?_⟩,I⟩
 .obtain rfl|F:=p_ F
  .exact ⟨hb,(key _ X.dr.lt).trans X.b'⟩
  .have V:=h.b q (n_ _ F)
   exact ⟨(aa.block q.1 V.dr.lt (hB q F)).trans V.dr,(key _ V.dr.lt).trans V.b'⟩
 .obtain ⟨o,G⟩: ∃o,C.w.heap[k]?=Y' o:=⟨_,Array.getElem?_eq_getElem O⟩
  have ac:=mi ((t.block k O ab).trans G);exact (aa.block k ac (λe=>by have e:k=g:=e;omega)).trans (t.block k O ab)
 .obtain ⟨o,G⟩: ∃o,C.w.heap[k]?=Y' o:=⟨_,Array.getElem?_eq_getElem O⟩
  exact (key k (mi ((t.block k O ab).trans G))).trans (t.b' k O ab)
def Rq.tq {T:TypeId} (h:Rq C rt x y ((g,T,cs)::B) R w) (O: ∀t∈B,t.1≠g) (F: ∀t∈R,∀b,Xg t.A=Y' b->b≠g) (V:C.w.heap.size<=g) (I:Xx (λb=>b=g) w w') (X:Xh w' g T cs'):Rq C rt x y ((g,T,cs')::B) R w':=by
 let ⟨b',h,t⟩:=h;let ⟨col',G,U,_⟩:=h.tq t O F V I X;exact ⟨col',G,U⟩
def Rq.V_ {T:TypeId} {l:List dX} (h:Rq C rt x y ((g,T,cs)::B) R w) (F:Bw w w2) (hr:Xl w2 55 4 A n c (Xy l)) (X: ∀b,Xg A=Y' b->X_ (Y_ w)<=b) (hn:n=l.length)
  (hB: ∀t∈B,t.1≠g) (hR: ∀t∈R,∀b,Xg t.A=Y' b->b≠g) (hC:C.w.heap.size<=g) (ho:Xx (λb=>b=g) w2 w') (O:Xh w' g T cs'):
  Rq C rt x {y with EA:=A,ec:=c,ev:=l} ((g,T,cs')::B) R (w'.setCell ⟨C.gr,1,Z_⟩ (S_ A n c)):=by
 subst hn;let ⟨b',h,t⟩:=h;have t1:dJ (λc=>c=8) C.W w w2 b' (dN w b' λ_=>8):=dJ.below F _;have t0:dJ (λ_=>False) C.W w w2 b' (dN w b' λ_=>8):=dJ.below F _;have G:=h.gA (h.n.below F (λ_=>8)) t0 (λc=>c) (λc=>c);have hE:eG w2 (dN w b' λ_=>8) 8 55 4 A l.length c (Xy l):=⟨hr,λb O=>fv (X b O)⟩;let ⟨col',U,V,t4⟩:=G.tq (t.trans (t1.mono λc hc=>⟨.inr (.inr hc)⟩)) hB hR hC ho O;have aa:=hE.ed t4 d_;have I:=U.r.dr.dr.eC 1 (S_ A l.length c);refine U.NB (y':={y with EA:=A,ec:=c,ev:=l}) V (Xk w' ⟨C.gr,1,Z_⟩ _) ?_ aa U.r.hs;have e:(y.arr C.ga).setIfInBounds 1 (S_ A l.length c)=({y with EA:=A,ec:=c,ev:=l}:RV).arr C.ga:=by simp [RV.arr]
 rw [<-e];exact I
def Rq.UJ {V:Nat} (h:Rq C rt x y B R w) (hb:Bw w w') (U:Xl w' e k A n c xs) (hn: ∀b,Xg A=Y' b->X_ (Y_ w)<=b) (aa:Xl w' e' V A' n' c' F) (G: ∀b,Xg A'=Y' b->X_ (Y_ w)<=b):
  Rq C rt x y B (⟨e,k,A,n,c,xs⟩::⟨e',V,A',n',c',F⟩::R) w':=by
 let ⟨b',h,t⟩:=h;have X:dJ (λ_=>False) C.W w w' b' (dN w b' λ_=>9):=dJ.below hb _;have I:=h.gA (h.n.below hb (λ_=>9)) X (λc=>c) (λc=>c);refine ⟨_,⟨I.n,I.r,I.b,λq O=>?_⟩,t.trans (X.mono λ_ c=>c.elim)⟩;obtain rfl|O:=p_ O
 .exact eG.new U hn (λ_ _=>rfl)
 .obtain rfl|O:=p_ O
  .exact eG.new aa G (λ_ _=>rfl)
  .exact I.k q O
end
end Nd
end
end Go.Proofs.YtkidababfdehlaaGreatDoor
