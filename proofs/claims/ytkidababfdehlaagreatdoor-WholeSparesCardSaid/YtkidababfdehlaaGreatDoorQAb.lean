/- Parts of the walk. -/
import Derived.Test.YtkidababfdehlaaGreatDoorQAa
import Derived.Sort.KeysCollected
import Derived.Lib.Bytealg
set_option linter.all false
set_option maxRecDepth 100000
set_option maxHeartbeats 64000000
namespace Go.Proofs.YtkidababfdehlaaGreatDoor
open Value renaming int -> I_,bool -> B_,string -> T_,slice -> S_,pointer -> P_,tuple -> U_,agg -> A_
open IntKind renaming i64 -> J_
open Ending renaming returned -> R_
open _root_.Array renaming size -> X_
open Go.World renaming heap -> Y_
open Option renaming some -> Y',none -> Z_,getD_some -> XF,map_some -> XH
open Bool renaming true -> Z',false -> WW,not_false -> XP,not_eq_true' -> XX,and_eq_true -> Yd
open Go renaming World -> WX,Value -> WY,Calls -> WZ,Addr -> Xa
open Go.RowKit renaming Hid -> Xb
open _root_.Go.Proofs.Tryz renaming prog -> Xc
open _root_.Array renaming getD_eq_getD_getElem? -> Xd,all_eq_true_iff_forall_mem -> Xu
open Ro.dt renaming setCell -> Xe
open List renaming map_cons -> Xf,mem_filter -> Xh,mem_of_getElem? -> Xk,pairwise_iff_getElem -> Xq,range -> Xs,eq_nil_of_length_eq_zero -> Xx,mem_range -> XB,filter_map -> XI,mem_iff_getElem -> XN,length_cons -> XZ,getElem_mem -> Ya,all_eq_true -> Yb,map_append -> Yi
open Ro renaming dr -> Xg,Row -> Xp,dt -> XJ,dS -> Ym
open Go.Instr renaming mapUpdate -> Xi,lookup -> Xn
open Go.Region renaming ready -> Xj
open Go.Extern.SlicesOverlaps renaming overlaps -> Xl
open Go.Lit renaming string -> Xm,int -> Xo
open Nat renaming lt_or_eq_of_le -> Xr,mul_le_mul_right -> Xw,le_of_lt -> XA,succ_mul -> XG,mul_le_mul -> XK,min_def -> XL,add_sub_cancel -> XS,sub_self -> XU,le_refl -> Yf
open Go.Value renaming oneCell' -> Xt,bool -> XR,cells -> Ye
open UInt8 renaming lt_iff_toNat_lt -> Xv,lt_irrefl -> Yg
open Mem renaming Sl -> Xy,c_ -> XC,El -> XD
open Go.Builtin renaming append_ -> Xz,copy_ -> XE,clear_ -> XO
open Go.Maps renaming has -> XM,size -> XY
open List.cons renaming inj -> XQ
open Int renaming not_lt -> XT
open Go.IntWalk renaming wrap64_in -> XV
open Go.DataW renaming insert -> XW,map -> Yc
open Go.Program renaming keyLits -> Yh
open Go.Sem renaming run -> Yj
open Go.Act renaming eval -> Yk,put -> Yl
variable {a:Act} {ad:Xa} {L:Array Bool} {ops:Array Oper} {d:Bool} {s:ByteArray} {D:DataW WY} {b:Int} {l:List ByteArray} {xs:List WY} {lx:Lit} {c g i j k m n:Nat} {A:Option Xa} {P:Program} {q:Prop} {K tR tn ty:TypeId} {v x:WY} {R:WY->Option (DataW WY×List MemPlace)} {w w':WX}
section
open _root_.Go.Proofs.Tryz Go.RowKit Go.Maps
namespace Dk
open Bs
open fC (dE)
abbrev Key:=List UInt8
def NZ:XD Xc 65 5 (.int .u8 0) 1 1:=⟨underlying65,k_,rfl,d_⟩
def zO:WY:=A_ #[I_ J_ 0,.string ⟨#[]⟩,.string ⟨#[]⟩,S_ Z_ 0 0]
def WC:XD Xc 126 158 zO 4 64:=⟨underlying126,k_,rfl,d_⟩
def law:Keyed Xc 9:=string_keyed underlying9
def TG (w:WX):(zeroValue 65).run Xc w= .ok (S_ Z_ 0 0) w:=k_
def Vx (v:WY):Option (DataW WY×List MemPlace):=Y' (.held v,[])
abbrev lh (w:WX) (A:Option Xa) (n c:Nat) (bs:List dE):Prop:=Xp w 5 1 A n c (bs.map bv)
structure gk (w:WX) (C:Nat->Prop) (A:Option Xa) (n c:Nat) (bs:List dE):Prop where
 sl:Xy w w.heap.size 1 A n (bs.map bv)
 le:n<=c/\c<=maxLen
 nil:A=Z_->n=0/\c=0
 Vy: ∀ad,A=Y' ad->0<n->C ad.block
section
variable {w w':WX} {C C':Nat->Prop} {A:Option Xa} {n c:Nat} {bs:List dE}
def gk.len (h:gk w C A n c bs):bs.length=n:=by have:=h.sl.1;simpa using this
def gk.dy (h:gk w C A n c bs) (hz:X_ (Y_ w)<=X_ (Y_ w')) (F: ∀k,k<X_ (Y_ w)->C k->w'.heap[k]?=w.heap[k]?):gk w' C A n c bs:=by
 refine ⟨⟨h.sl.1,λhn=>?_⟩,h.le,h.nil,h.Vy⟩;let ⟨ad,e,G,hc⟩:=h.sl.2 hn;refine ⟨ad,e,o_,hc.dy λp I=>?_⟩;have:=F ad.block G (h.Vy ad e hn);unfold World.cell?;rw [I,this]
def gk.below (h:gk w C A n c bs) (hb:Bw w w'):gk w' C A n c bs:=h.dy hb.size λk hk _=>hb.block k hk
def gk.mono (h:gk w C A n c bs) (G: ∀k,k<X_ (Y_ w)->C k->C' k):gk w C' A n c bs:=by
 refine ⟨h.sl,h.le,h.nil,λad e hn=>G _ ?_ (h.Vy ad e hn)⟩;let ⟨ad',F,I,_⟩:=h.sl.2 hn;rw [e] at F;cases F;exact I
def gk.none (w:WX) (C:Nat->Prop):gk w C Z_ 0 0 []:=⟨Mem.Sl.nil,⟨o_,by unfold maxLen;omega⟩,λ_=>⟨rfl,rfl⟩,λ_ _ h=>o_⟩
def gk.yo (h:lh w A n c bs) (G: ∀k,Xg A=Y' k->C k):gk w C A n c bs:=by
 refine ⟨h.sl,h.le,λe=>?_,λad e _=>G _ (by rw [e];rfl)⟩;obtain ⟨_,h2,_,⟨_,h3⟩|⟨g,off,cur,F,_⟩⟩:=h
 .omega
 .rw [e] at F;cases F
def gk.cut (h:gk w C A n c bs) (hm:m<=n):gk w C A m c (bs.take m):=by
 have hl:=h.len;refine ⟨⟨by simp;omega,λhn=>?_⟩,⟨by have:=h.le.1;omega,h.le.2⟩,λe=>⟨by have:=(h.nil e).1;omega,(h.nil e).2⟩,λad e hn=>h.Vy ad e o_⟩;let ⟨ad,e,I,hc⟩:=h.sl.2 o_;refine ⟨ad,e,I,λj G=>?_⟩;have F:j<bs.length:=by simp at G;omega
 have:=hc j (by simpa using F);rw [this];simp [List.getElem_take]
end
structure iJ where
 key:Key
 A:Option Xa
 n:Nat
 c:Nat
 bs:List dE
def iJ.val (e:iJ):WY:=S_ e.A e.n e.c
def qa (es:List iJ):DataW WY:= .map (es.map λe=>(Xm e.key,.held e.val))
abbrev fH:=List (Key×List dE)
def zM (es:List iJ):fH:=es.map λe=>(e.key,e.bs)
def Mp (w:WX) (C:Nat->Prop) (b:Nat) (l:fH):Prop:=
 ∃es:List iJ,zM es=l/\(∀e∈es,gk w C e.A e.n e.c e.bs)/\w.ownsMap Xc 9 Vx b es.length (qa es)
def ins {α:Type} (k:Key) (x:α):List (Key×α)->List (Key×α)
 |[]=>[(k,x)]
 |y::r=>if bytesBefore k y.1 then (k,x)::y::r else y::ins k x r
def oJ {α:Type} (l:List (Key×α)) (k:Key):List (Key×α):=l.filter λp=> !(p.1==k)
def yq {α:Type} (l:List (Key×α)) (k:Key) (x:α):List (Key×α):=ins k x (oJ l k)
def jt {α:Type} (l:List (Key×α)) (k:Key):Option α:=(l.find? λp=>p.1==k).map (·.2)
section
variable {w w':WX} {C C':Nat->Prop} {b:Nat} {l:fH} {k:Key}
def sK (h:w.ownsMap P K R b n D):w.ownsMap P K R b (XY D) D:=by
 obtain ⟨I,G,O,F,_,rfl⟩:=h;exact ⟨I,G,O,F,by simp [XY,length_sorted],rfl⟩
def Mp.lt (h:Mp w C b l):b<X_ (Y_ w):=by let ⟨_,_,_,h⟩:=h;exact h.lt
def E' (h:w.ownsMap P K R b n D) (V:w'.heap[b]?=w.heap[b]?):w'.ownsMap P K R b n D:=by
 let ⟨O,G,I,F,U,X⟩:=h;exact ⟨O,G,V.trans I,F,U,X⟩
def Mp.dy (h:Mp w C b l) (U:X_ (Y_ w)<=X_ (Y_ w')) (V: ∀k,k<X_ (Y_ w)->C k->w'.heap[k]?=w.heap[k]?) (X:w'.heap[b]?=w.heap[b]?):Mp w' C b l:=by
 let ⟨G,F,O,h3⟩:=h;exact ⟨G,F,λe I=>(O e I).dy U V,E' h3 X⟩
def Mp.below (h:Mp w C b l) (hb:Bw w w'):Mp w' C b l:=h.dy hb.size (λk hk _=>hb.block k hk) (hb.block b h.lt)
def Mp.mono (h:Mp w C b l) (U: ∀k,k<X_ (Y_ w)->C k->C' k):Mp w C' b l:=by
 let ⟨G,F,O,V⟩:=h;exact ⟨G,F,λe I=>(O e I).mono U,V⟩
def nM (a c:Key):(Xm a).sameKey (Xm c)=(a==c):=rfl
def Kq (F:List iJ) (k:Key):(qa F).del (.string k)=qa (F.filter λe=> !(e.key==k)):=by
 show Yc _=Yc _
 rw [XI];rfl
def sa (x:iJ):List iJ->List iJ
 |[]=>[x]
 |y::r=>if bytesBefore x.key y.key then x::y::r else y::sa x r
def Fa (x:iJ) (F:List iJ):XW (Xm x.key,DataW.held x.val) (F.map λe=>(Xm e.key,DataW.held e.val))=(sa x F).map λe=>(Xm e.key,.held e.val):=by
 induction F with
 |nil=>rfl
 |cons y r ih=>
  simp only [Xf,XW,sa];by_cases c:bytesBefore x.key y.key=Z'
  .have c':(Xm x.key).before (Xm y.key)=Z':=c
   rw [if_pos c',if_pos c];rfl
  .have c': ¬(Xm x.key).before (Xm y.key)=Z':=c
   rw [if_neg c',if_neg c,ih];rfl
def Fb (x:iJ) (F:List iJ):zM (sa x F)=ins x.key x.bs (zM F):=by
 induction F with
 |nil=>rfl
 |cons y r ih=>
  simp only [sa,zM,Xf,ins];by_cases c:bytesBefore x.key y.key=Z'
  .rw [if_pos c,if_pos c];rfl
  .rw [if_neg c,if_neg c,Xf]
   congr 1
def qI (F:List iJ) (k:Key):zM (F.filter λe=> !(e.key==k))=oJ (zM F) k:=by
 unfold zM oJ;rw [XI];rfl
def Kr (F:List iJ) (x:iJ):(qa F).put (.string x.key) (.held x.val)=qa (sa x (F.filter λe=> !(e.key==x.key))):=by
 show Yc (XW _ (List.filter _ _))=Yc _
 rw [XI,<-Fa];rfl
def Fc {x e:iJ} {F:List iJ} (h:e∈sa x F):e=x\/e∈F:=by
 induction F with
 |nil=>simp [sa] at h;exact .inl h
 |cons y r ih=>
  unfold sa at h;split at h
  .simpa using h
  .obtain h|h:=p_ h
   .exact .inr (by simp [h])
   .exact (ih h).imp id λh=>by simp [h]
def wh (es:List iJ):XY (qa es)=es.length:=by simp [qa,XY]
def qe (hs:s.size<=maxLen):keyOf Xc 9 (.string s)=Y' (.string s.data.toList):=Go.WideMaps.keyOf_string_mk underlying9 hs
def pG (h:w.mapTurned w' b):XJ (λk=>k=b) w w':=by
 have:=h.grown;exact ⟨this.os,this.tape,this.output,this.size,λk F hn=>this.block k F (λe=>hn (by simpa using e))⟩
def Mp.put (h:Mp w C b l) (hC: ¬C b) (hs:s.size<=maxLen) {bs:List dE} (hh:gk w C A n c bs) (hl:l.length<=100000):
  ∃w',(Xi 125 (.map (Y' b)) (.string s) (S_ A n c)).run Xc w= .ok () w'/\Mp w' C b (yq l s.data.toList bs)/\XJ (λk=>k=b) w w':=by
 obtain ⟨U,rfl,X,h3⟩:=h;let ⟨w',F,G,ht⟩:=h3.store law underlying125 (by simp [zM] at hl;unfold maxLen;omega) (qe hs) (val:=S_ A n c) (d:= .held (S_ A n c)) (ps:=[]) rfl;have I:=pG ht;refine ⟨w',F,⟨sa ⟨s.data.toList,A,n,c,bs⟩ (U.filter λe=> !(e.key==s.data.toList)),?_,λe V=>?_,?_⟩,I⟩
 .rw [Fb,qI]
  rfl
 .have O: ∀k,k<X_ (Y_ w)->C k->w'.heap[k]?=w.heap[k]?:=λk O hc=>I.block k O (λe=>hC (by rw [<-e];exact hc))
  obtain rfl|V:=Fc V
  .exact hh.dy I.size O
  .exact (X e (Xh.1 V).1).dy I.size O
 .have:=sK G
  rw [show DataW.put (qa U) (.string s.data.toList) (.held (S_ A n c))=_ from Kr U ⟨s.data.toList,A,n,c,bs⟩,wh] at this;exact this
def Mp.del (h:Mp w C b l) (hC: ¬C b) (hs:s.size<=maxLen) (ty:TypeId):
  ∃w',(Builtin.delete_ #[125,9] ty #[.map (Y' b),s]).run Xc w= .ok (U_ #[]) w'/\Mp w' C b (oJ l s.data.toList)/\XJ (λk=>k=b) w w':=by
 obtain ⟨O,rfl,V,h3⟩:=h;let ⟨w',F,G,ht⟩:=h3.drop law underlying125 (qe hs) ty;have I:=pG ht;refine ⟨w',F,⟨O.filter λe=> !(e.key==s.data.toList),qI _ _,λe U=>?_,?_⟩,I⟩
 .exact (V e (Xh.1 U).1).dy I.size λk X hc=>I.block k X (λe=>hC (by rw [<-e];exact hc))
 .have:=sK G
  rw [Kq,wh] at this;exact this
def Mp.look (h:Mp w C b l) (hs:s.size<=maxLen):
  ∃A n c,(Xn 125 (.map (Y' b)) (.string s) Z').run Xc w= .ok (U_ #[S_ A n c,B_ (jt l s.data.toList).isSome]) w/\gk w C A n c ((jt l s.data.toList).getD []):=by
 obtain ⟨G,rfl,h2,h3⟩:=h;let ⟨v,ps,F,hv⟩:=h3.look_ok law underlying125 (TG w) (zd:= .held (S_ Z_ 0 0)) (zp:=[]) rfl (qe hs);have V: ∀G:List iJ,(∃e∈G,e.key=s.data.toList/\jt (zM G) s.data.toList=Y' e.bs/\(qa G).atKey (.string s.data.toList) (.held (S_ Z_ 0 0))= .held e.val/\XM (qa G) (.string s.data.toList)=Z')\/
   (jt (zM G) s.data.toList=Z_/\(qa G).atKey (.string s.data.toList) (.held (S_ Z_ 0 0))= .held (S_ Z_ 0 0)/\XM (qa G) (.string s.data.toList)=WW):=by
  intro G
  induction G with
  |nil=>exact .inr ⟨rfl,rfl,rfl⟩
  |cons y r ih=>
   by_cases c:y.key=s.data.toList
   .have c2:(y.key==s.data.toList)=Z':=by simpa using c
    refine .inl ⟨y,by simp,c,?_,?_,?_⟩
    .unfold jt zM
     rw [Xf,List.find?_cons_of_pos (by simpa using c)];rfl
    .unfold DataW.atKey qa
     dsimp only
     rw [Xf,List.find?_cons_of_pos (by rw [nM];exact c2)]
    .unfold XM qa
     dsimp only
     rw [Xf,List.any_cons,nM,c2];rfl
   .have c2:(y.key==s.data.toList)=WW:=by simpa using c
    have X:jt (zM (y::r)) s.data.toList=jt (zM r) s.data.toList:=by
     unfold jt zM;rw [Xf,List.find?_cons_of_neg (by simpa using c)]
    have O:(qa (y::r)).atKey (.string s.data.toList) (.held (S_ Z_ 0 0))=(qa r).atKey (.string s.data.toList) (.held (S_ Z_ 0 0)):=by
     unfold DataW.atKey qa
     dsimp only
     rw [Xf,List.find?_cons_of_neg (by rw [nM,c2];decide)]
    have U:XM (qa (y::r)) (.string s.data.toList)=XM (qa r) (.string s.data.toList):=by
     unfold XM qa
     dsimp only
     rw [Xf,List.any_cons,nM,c2];rfl
    rw [X,O,U];obtain ⟨e,he,h⟩|h:=ih
    .exact .inl ⟨e,by simp [he],h⟩
    .exact .inr h
 have I: ∀d,Vx v=Y' (.held d,ps)->v=d:=λd h=>by
  simp only [Vx,Option.some.injEq,Prod.mk.injEq,DataW.held.injEq] at h;exact h.1
 obtain ⟨e,he,_,X,O,U⟩|⟨X,O,U⟩:=V G
 .rw [O] at hv
  rw [U,I _ hv] at F;rw [X];exact ⟨e.A,e.n,e.c,F,h2 e he⟩
 .rw [O] at hv
  rw [U,I _ hv] at F;rw [X];exact ⟨Z_,0,0,F,gk.none w C⟩
end
end Dk
end
section
open Go.RowKit
namespace du
open Go.Lib (compareBytes)
def Qo: ∀(a b:List UInt8),compareBytes a b= -1\/compareBytes a b=0\/compareBytes a b=1
 |[],[]=> .inr (.inl rfl)
 |[],_::_=> .inl rfl
 |_::_,[]=> .inr (.inr rfl)
 |a::aS',b::bs=>by
  unfold compareBytes;split
  .exact .inl rfl
  .split
   .exact .inr (.inr rfl)
   .exact Qo aS' bs
def FC: ∀(a b:List UInt8),compareBytes b a= -compareBytes a b
 |[],[]=>rfl
 |[],_::_=>rfl
 |_::_,[]=>rfl
 |a::aS',b::bs=>by
  unfold compareBytes;by_cases h1:a<b
  .have h2: ¬b<a:=by rw [Xv] at*;omega
   rw [if_pos h1,if_neg h2,if_pos h1];rfl
  .by_cases h2:b<a
   .rw [if_pos h2,if_neg h1,if_pos h2]
   .rw [if_neg h2,if_neg h1,if_neg h1,if_neg h2]
    exact FC aS' bs
def Oi: ∀(a b:List UInt8),compareBytes a b=0↔a=b
 |[],[]=>by simp [compareBytes]
 |[],_::_=>by simp [compareBytes]
 |_::_,[]=>by simp [compareBytes]
 |a::aS',b::bs=>by
  have ih:=Oi aS' bs;unfold compareBytes;by_cases h1:a<b
  .rw [if_pos h1]
   constructor
   .intro h;omega
   .intro h;obtain ⟨rfl,_⟩:=XQ h;exact absurd h1 (Yg a)
  .by_cases h2:b<a
   .rw [if_neg h1,if_pos h2]
    constructor
    .intro h;omega
    .intro h;obtain ⟨rfl,_⟩:=XQ h;exact absurd h2 (Yg a)
   .rw [if_neg h1,if_neg h2,ih]
    have:a=b:=by
     rw [Xv] at h1 h2;exact UInt8.toNat_inj.1 (by omega)
    subst this;constructor
    .intro h;rw [h]
    .intro h;exact (XQ h).2
def wC: ∀(a b c:List UInt8),compareBytes a b<0->compareBytes b c<=0->compareBytes a c<0
 |[],[],_,h,_=>by simp [compareBytes] at h
 |_::_,[],_,h,_=>by simp [compareBytes] at h
 |[],_::_,[],_,h2=>by simp [compareBytes] at h2
 |[],_::_,_::_,_,_=>by simp [compareBytes]
 |_::_,_::_,[],_,h2=>by simp [compareBytes] at h2
 |a::aS',b::bs,c::cs,h1,h2=>by
  have ih:=wC aS' bs cs;unfold compareBytes at h1 h2 |-;simp only [Xv] at*;by_cases p1:a.toNat<b.toNat
  .by_cases p2:b.toNat<c.toNat
   .rw [if_pos (by omega)];omega
   .rw [if_neg p2] at h2
    by_cases p3:c.toNat<b.toNat
    .rw [if_pos p3] at h2;omega
    .rw [if_pos (by omega)];omega
  .rw [if_neg p1] at h1
   by_cases p3:b.toNat<a.toNat
   .rw [if_pos p3] at h1;omega
   .rw [if_neg p3] at h1
    by_cases p2:b.toNat<c.toNat
    .rw [if_pos (by omega)];omega
    .rw [if_neg p2] at h2
     by_cases p4:c.toNat<b.toNat
     .rw [if_pos p4] at h2;omega
     .rw [if_neg p4] at h2
      rw [if_neg (by omega),if_neg (by omega)];exact ih h1 h2
def cmp (a b:ByteArray):Int:=compareBytes a.data.toList b.data.toList
def qm (a b:ByteArray):cmp b a= -cmp a b:=FC _ _
def cmp_eq (a b:ByteArray):cmp a b=0↔a=b:=by
 unfold cmp;rw [Oi];constructor
 .intro h
  let ⟨a⟩:=a;let ⟨b⟩:=b;exact congrArg _ (Array.toList_inj.1 h)
 .intro h;rw [h]
def iT (a:ByteArray):cmp a a=0:=(cmp_eq a a).2 rfl
def jb {a b c:ByteArray} (h:cmp a b<0) (h2:cmp b c<=0):cmp a c<0:=wC _ _ _ h h2
def dY (l:List ByteArray):Prop:=l.Pairwise λa b=>cmp a b<0
def pos (l:List ByteArray) (s:ByteArray):Nat:=(l.takeWhile λx=>decide (cmp x s<0)).length
def oP (l:List ByteArray) (s:ByteArray):pos l s<=l.length:=by
 unfold pos;exact (List.takeWhile_prefix _).length_le
def wD (x:ByteArray) (l:List ByteArray) (s:ByteArray):pos (x::l) s=if cmp x s<0 then pos l s+1 else 0:=by
 unfold pos;rw [List.takeWhile_cons];by_cases h:cmp x s<0
 .rw [if_pos h,decide_eq_true h];simp
 .rw [if_neg h,decide_eq_false h];simp
def kI: ∀(j:Nat) (hj:j<l.length),j<pos l s->cmp l[j] s<0:=by
 induction l with
 |nil=>intro j hj;simp at hj
 |cons x l ih=>
  intro j hj h;rw [wD] at h;by_cases hx:cmp x s<0
  .rw [if_pos hx] at h
   cases j with
   |zero=>exact hx
   |succ j=>exact ih j (by simpa using hj) (by omega)
  .rw [if_neg hx] at h;omega
def oQ (hr:dY l): ∀(j:Nat) (hj:j<l.length),pos l s<=j-> ¬cmp l[j] s<0:=by
 induction l with
 |nil=>intro j hj;simp at hj
 |cons x l ih=>
  intro j hj h;rw [wD] at h;let ⟨h1,h2⟩:=List.pairwise_cons.1 hr;by_cases hx:cmp x s<0
  .rw [if_pos hx] at h
   cases j with
   |zero=>omega
   |succ j=>exact ih h2 j (by simpa using hj) (by omega)
  .cases j with
   |zero=>exact hx
   |succ j=>
    intro hc;have hj2:j<l.length:=by simpa using hj
    have:=h1 l[j] (Ya hj2);exact hx (jb this (by have:cmp l[j] s<0:=hc;omega))
def pos_at (hr:dY l) (i:Nat) (hi:i<=l.length) (h1: ∀(j:Nat) (hj:j<l.length),j<i->cmp l[j] s<0) (h2: ∀(j:Nat) (hj:j<l.length),i<=j-> ¬cmp l[j] s<0):pos l s=i:=by
 have hp:=oP l s;obtain h|h|h:=Nat.lt_trichotomy (pos l s) i
 .exact absurd (h1 (pos l s) (by omega) h) (oQ hr _ (by omega) (Yf _))
 .exact h
 .exact absurd (kI i (by omega) h) (h2 i (by omega) (Yf _))
def has (l:List ByteArray) (s:ByteArray):Bool:=l.any λx=>cmp x s==0
def fO:has l s=Z'↔s∈l:=by
 unfold has;rw [List.any_eq_true];constructor
 .rintro ⟨x,hx,h⟩
  obtain rfl:=(cmp_eq x s).1 (by simpa using h);exact hx
 .intro h
  exact ⟨s,h,by rw [iT];rfl⟩
def nT (hr:dY l) (h:pos l s<l.length):has l s=(cmp l[pos l s] s==0):=by
 cases hc:cmp l[pos l s] s==0
 .cases hh:has l s
  .rfl
  .exfalso
   let ⟨j,hj,e⟩:=XN.1 (fO.1 hh);have hz:cmp l[j] s=0:=(cmp_eq _ _).2 e;have a1: ¬j<pos l s:=λc=>by have:=kI j hj c;omega
   have a2:j≠pos l s:=by rintro rfl;rw [hz] at hc;simp at hc
   have:=(Xq.1 hr) (pos l s) j h hj (by omega);rw [e] at this;have:=oQ hr (pos l s) h (Yf _)
   contradiction
 .have e:l[pos l s]=s:=(cmp_eq _ _).1 (by simpa using hc)
  have hm:l[pos l s]∈l:=Ya h;exact fO.2 (by rw [e] at hm;exact hm)
def nV (h:pos l s=l.length):has l s=WW:=by
 cases hh:has l s
 .rfl
 .exfalso
  let ⟨j,hj,e⟩:=XN.1 (fO.1 hh);have:=kI (s:=s) j hj (by omega);rw [e,iT] at this;omega
def mZ (hr:dY l) (h:has l s=Z'): ∃(hp:pos l s<l.length),l[pos l s]=s:=by
 by_cases hp:pos l s<l.length
 .refine ⟨hp,?_⟩
  rw [nT hr hp] at h;exact (cmp_eq _ _).1 (by simpa using h)
 .have:=oP l s
  rw [nV (by omega)] at h;cases h
end du
end
section
open _root_.Go.Proofs.Tryz Go.RowKit
structure dP where
 id:ByteArray
 st:Int
 tr:Int
 last:Int
namespace dP
def arr (p:dP):Array WY:= #[T_ p.id,I_ J_ p.st,I_ J_ p.tr,I_ J_ p.last]
def cells (p:dP):List WY:=[T_ p.id,I_ J_ p.st,I_ J_ p.tr,I_ J_ p.last]
def flat (ps:List dP):List WY:=(ps.map cells).flatten
def eH (ps qs:List dP):flat (ps++qs)=flat ps++flat qs:=by simp [flat]
def iE (p:dP) (qs:List dP):flat (p::qs)=p.cells++flat qs:=by simp [flat]
def dO (ps:List dP):(flat ps).length=ps.length*4:=Gv.len cells ps
def nL (ps:List dP) (i j:Nat) (hi:i<ps.length) (hj:j<4):(flat ps)[i*4+j]?=(ps[i].cells)[j]?:=Gv.get cells ps i j hi hj
structure At (w:WX) (ad:Xa) (p:dP):Prop where
 c0:w.cell? ad=Y' (T_ p.id)
 c1:Ca w ad 1 p.st
 c2:Ca w ad 2 p.tr
 c3:Ca w ad 3 p.last
def at_ {B:Nat} {ps:List dP} (h:Xy w B 4 A n (flat ps)) (hk:k<n):
  ∃(ad:Xa) (hl:k<ps.length),A=Y' ad/\ad.block<B/\(ad.add (k*4)).block<B/\At w (ad.add (k*4)) ps[k]:=
 let ⟨ad,hl,a,b,c,d,e⟩:=Gv.at_ cells h hk;⟨ad,hl,a,b,c,⟨d,e 1,e 2,e 3⟩⟩
def At.below {B:Nat} {p:dP} (h:At w ad p) (G:Below B w w') (F:ad.block<B):At w' ad p:=by
 exact vI
end dP
end
section
open _root_.Go.Proofs.Tryz Go.RowKit
namespace Wo
def Gc (a b:ByteArray) (w:WX):WZ Xc 218 #[a,b] w λe w'=>e=R_ (I_ J_ (du.cmp a b))/\w=w':=by
 go_enter func218,ntmps218;go_wp2;rw [run_callFunc_extern func275 k_ k_ k_ (e:=Extern.BytealgCompare.compare) k_,Lib.run_compareString];simp only [Result.andThen];rw [Oper.upon_value];go_wp2;go_ret;exact ⟨rfl,rfl⟩
def gD (a b:ByteArray) (w:WX):WZ Xc 158 #[a,b] w λe w'=>e=R_ (I_ J_ (du.cmp a b))/\w=w':=by
 go_enter func158,ntmps158;go_wp2_with fail;refine (Gc _ _ _).mono ?_;rintro e w' ⟨rfl,rfl⟩;exact lH
def Gd (p:dP) (s:ByteArray) (w:WX):WZ Xc 235 #[A_ p.arr,s] w λe w'=>e=R_ (I_ J_ (du.cmp p.id s))/\Bw w w':=by
 let ⟨id,st,tr,last⟩:=p;unfold dP.arr
 dsimp only
 go_enter func235,ntmps235;go_wp2_with fail;refine (gD _ _ _).mono ?_;refine Ky ?_;go_ret;exact ⟨rfl,dL⟩
def ids (bx:List dP):List ByteArray:=bx.map λp=>p.id
def j' (bx:List dP):(ids bx).length=bx.length:=by simp [ids]
def yE {bx:List dP} (h:k<bx.length) (h2:k<(ids bx).length):(ids bx)[k]=bx[k].id:=by simp [ids]
def Ga (A:Option Xa) (n c:Nat) (bx:List dP) (s:ByteArray) (w:WX) (h:Xy w w.heap.size 4 A n (dP.flat bx)) (hr:du.dY (ids bx)) (aJ:bx.length=n) (hn:n<=1000000):
  WZ Xc 234 #[S_ A n c,s,.func (.func 235) #[] #[]] w λe w'=>e=R_ (U_ #[I_ J_ (du.pos (ids bx) s),B_ (du.has (ids bx) s)])/\Bw w w':=by
 have HR:=Hd hr;clear hr;let ⟨P,hP⟩:=nm (du.pos (ids bx) s);let ⟨F,hF⟩:=nm (du.has (ids bx) s);rw [<-hP,<-hF];have HP:=Hd hP;have HF:=Hd hF;clear hP hF;go_enter func234,ntmps234;go_wp2;go_loopw [9,10] (λvi vj wr=> ∃i j:Nat,i<=j/\j<=n/\vi=I_ J_ i/\vj=I_ J_ j/\Bw w wr/\Xb (∀(t:Nat) (ht:t<(ids bx).length),t<i->du.cmp (ids bx)[t] s<0)/\Xb (∀(t:Nat) (ht:t<(ids bx).length),j<=t->0<=du.cmp (ids bx)[t] s)) (λi j _=>(intOf j - intOf i).toNat)
 .exact ⟨0,n,o_,o_,rfl,rfl,Below.refl _ _,λt _ h=>absurd h o_,λt ht h=>absurd ht (by rw [j'];omega)⟩
 .obtain ⟨i,j,hij,hjn,rfl,rfl,V,Hl,Hh⟩:=hrel
  by_cases hlt:i<j
  .refine Kz ?_
   intro m hm hm1 hm2 ap d0 aB;obtain ⟨ad,hl,rfl,_,_,ac⟩:=dP.at_ (h.below V) (k:=m) o_;have hx:m<(ids bx).length:=by rw [j'];exact hl
   have ah:(ids bx)[m]=bx[m].id:=yE hl hx;let ⟨q,hq⟩:=nm (bx[m]);rw [<-hq] at ac ah;clear hq;let ⟨c0,c1,c2,c3⟩:=ac;let ⟨qi,qs,qt,ql⟩:=q
   dsimp only at c0 c1 c2 c3 ah
   have hb:=Hd (λw=>Gd ⟨qi,qs,qt,ql⟩ s w);have He:=Hd ah;clear hm ah;go_wp2_with fail;refine (hb _).mono ?_;rintro e w1 ⟨rfl,U⟩;have X:Bw w w1:=V.trans (U.mono V.size);clear hb U c0 c1 c2 c3 aB ap
   dsimp only
   have ah:=He.o;have hc:du.cmp qi s=du.cmp (ids bx)[m] s:=by rw [ah]
   have aa:=HR.o;by_cases G:du.cmp qi s<0
   .have d1:decide (du.cmp qi s<0)=Z':=decide_eq_true G
    have ax:Xb (∀(t:Nat) (ht:t<(ids bx).length),t<m+1->du.cmp (ids bx)[t] s<0):=by
     exact KB
    exact KD
   .have d1:decide (du.cmp qi s<0)=WW:=decide_eq_false G
    have ay:Xb (∀(t:Nat) (ht:t<(ids bx).length),m<=t->0<=du.cmp (ids bx)[t] s):=by
     intro t ht ak;refine XT.1 λai=>?_
     obtain h|rfl:=Xr ak
     .have h1:=Xq.1 aa m t hx ht h
      have h2:=du.jb h1 (show du.cmp (ids bx)[t] s<=0 by omega);rw [<-hc] at h2;exact G h2
     .rw [<-hc] at ai;exact G ai
    exact KE
  .obtain rfl:i=j:=o_
   have O:du.pos (ids bx) s=i:=du.pos_at HR i (by rw [j'];omega) Hl (λt ht h=>XT.2 (Hh t ht h));have d0:decide ((i:Int)<i)=WW:=dF;by_cases au:i<n
   .have d2:decide ((i:Int)<n)=Z':=dT
    obtain ⟨ad,hl,rfl,_,_,ac⟩:=dP.at_ (h.below V) (k:=i) au;have hx:i<(ids bx).length:=by rw [j'];exact hl
    have he:(ids bx)[i]=bx[i].id:=yE hl hx;have I:Xb (du.has (ids bx) s=(du.cmp bx[i].id s==0)):=by
     show _=_
     subst O;rw [du.nT HR.o (by rw [j'];omega),he]
    let ⟨q,hq⟩:=nm (bx[i]);rw [<-hq] at ac I;have al:Xb (P=i):=HP.trans O;have ah:Xb (F=(du.cmp q.id s==0)):=HF.trans I;clear hq he O I;let ⟨c0,c1,c2,c3⟩:=ac;let ⟨qi,qs,qt,ql⟩:=q
    dsimp only at c0 c1 c2 c3 ah
    have hb:=Hd (λw=>Gd ⟨qi,qs,qt,ql⟩ s w);go_wp2_with fail;refine (hb _).mono ?_;rintro e w1 ⟨rfl,U⟩;have X:Bw w w1:=V.trans (U.mono V.size);clear hb U c0 c1 c2 c3;exact zZ
   .have d2:decide ((i:Int)<n)=WW:=dF
    have I:du.has (ids bx) s=WW:=du.nV (by rw [O,j'];omega);exact KG
end Wo
end
section
open Go.RowKit
namespace Wo
def i64 {n:Int} (h: -9223372036854775808<=n) (h2:n<=9223372036854775807):IntKind.i64.wrap n=n:=by rw [IntKind.wrap_i64];omega
section
variable {α:Type} (f:α->List WY) (y:TypeId) (k:Nat)
def RB (A:Option Xa) (n:Nat) (bx:List α) (w:WX) (e:Ending) (w':WX):Prop:= ∃A' c',e=R_ (S_ A' (n+1) c')/\Xp w' y k A' (n+1) c' (bx.map f).flatten/\XJ (λb=>Xg A=Y' b) w w'/\(Xg A'=Xg A\/ ∃b,Xg A'=Y' b/\X_ (Y_ w)<=b)
variable {f y k} {P:Program} {t:TypeId} {z:WY} {sz g off n c i V:Nat} {bx:List α} {p:α} {cs:Array WY} {w:WX}
def IC (hf: ∀p:α,(f p).length=k) (i:Nat):((bx.map f).flatten).take (i*k)++f p++((bx.map f).flatten).drop (i*k)=((bx.take i++p::bx.drop i).map f).flatten:=by
 rw [Gv.tk f bx i hf,Gv.dp f bx i hf];simp
def O' {p:Prop} (k:q) (h:Wq q->p:=by
 intro kq;have hl:=h.1;have ab: ∀u∈((bx.map f).flatten).drop (i*k),u.oneCell'=true:=λu hu=>Gv.one f bx ho u (List.mem_of_mem_drop hu)
 have ae: ∀u∈f p,u.oneCell'=true:=λu hu=>List.all_eq_true.1 (ho p) u hu
 revert hl ab ae
 exact kq.o):p:=h ⟨k⟩
def Pb {p:Prop} (k:q) (h:Wq q->p:=by
 intro kq;have U:Mem.Sl w1 w1.heap.size k (some ⟨V,0,none⟩) 1 (f p):=⟨by rw [hf,Nat.one_mul],λ_=>⟨_,rfl,aa.lt,hc▸Mem.Cells.of_block aa⟩⟩
 revert U
 exact kq.o):p:=h ⟨k⟩
def yl (E:XD P t y z k sz) (hf: ∀p:α,(f p).length=k) (ho: ∀p:α,(f p).all Xt=Z') (hc:cs.toList=f p) (h:Xp w y k (Y' ⟨g,off,Z_⟩) n c (bx.map f).flatten) (hi:i<n) (hv:XC w V y cs) (hg: ¬V=g) (av:n+1<=c):
  ∃w1 w2,(XE #[t,t] 3 #[S_ (Y' ⟨g,off+(i+1)*k,Z_⟩) (n+1 - (i+1)) (c - (i+1)),S_ (Y' ⟨g,off+i*k,Z_⟩) (n+1 - i) (c - i)]).run P w.drew= .ok (goInt (n - i:Nat)) w1/\
   (XE #[t,t] 3 #[S_ (Y' ⟨g,off+i*k,Z_⟩) (n+1 - i) (c - i),S_ (Y' ⟨V,0,Z_⟩) 1 1]).run P w1= .ok (goInt (1:Nat)) w2/\Xb (RB f y k (Y' ⟨g,off,Z_⟩) n (bx.take i++p::bx.drop i) w (R_ (S_ (Y' ⟨g,off,Z_⟩) (n+1) c)) w2):=by
 have e1:(n+1)*k=n*k+k:=XG n k;have e2:(i+1)*k=i*k+k:=XG i k;have e3:i*k<=n*k:=Xw k (XA hi);have e5:(n - i)*k=n*k - i*k:=Nat.sub_mul n i k;have F:=h.from_ i (XA hi);rw [if_neg (show¬c=i by omega)] at F;have ag:=F.sl;refine O' ?_;intro hl ab ae;obtain ⟨zs,al,ao⟩: ∃zs:List WY,zs.length=k/\Xp w y k (Y' ⟨g,off,Z_⟩) (n+1) c ((bx.map f).flatten++zs):=by
  let ⟨ys,hy,ht⟩:=h.full;have h2:=hy.cut (n+1) av;have hyl:=hy.1;have e4:(n+1)*k<=c*k:=Xw k av;refine ⟨(ys.drop (n*k)).take k,by simp;omega,?_⟩;have e:(bx.map f).flatten++(ys.drop (n*k)).take k=ys.take ((n+1)*k):=by rw [<-ht,e1,List.take_add]
  rw [e];exact h2
 let ⟨w1,X,O,I⟩:=Ro.nD (P:=P) (t:=t) (ty:=3) (A2:=Y' ⟨g,off+i*k,Z_⟩) (w:=w.drew) E (show Xp w.drew y k _ _ _ _ from ao) (i+1) (n+1 - (i+1)) (c - (i+1)) (n - i) (n+1 - i) (c - i) (((bx.map f).flatten).drop (i*k)) (by simp only [XL];split<;>omega) o_ (show Xy w.drew _ k _ _ _ from ag) o_ ab;have aa:XC w1 V y cs:=(I.block V hv.lt (λe=>hg e)).trans hv;refine Pb ?_;intro U;let ⟨w2,am,ah,ac⟩:=Ro.nD (P:=P) (t:=t) (ty:=3) (A2:=Y' ⟨V,0,Z_⟩) (w:=w1) E O i (n+1 - i) (c - i) 1 1 1 (f p) (by simp only [XL];split<;>omega) o_ U o_ ae;refine ⟨w1,w2,X,am,_,_,rfl,?_,?_,.inl rfl⟩
 .rw [<-IC hf]
  have e:=Ro.Lp (xs:=(bx.map f).flatten) (zs:=zs) (v:=f p) (a:=i*k) (k:=k) (by rw [hl];exact e3) (hf p) al;rw [<-e2] at e;rw [<-e];exact ah
 .exact (I.qA.trans ac (λ_ _ c=>c)).mono (λb _ hb=>by rw [hb];rfl)
def uf (E:XD P t y z k sz) (hf: ∀p:α,(f p).length=k) (ho: ∀p:α,(f p).all Xt=Z') (hc:cs.toList=f p) (hu:P.underlying tn=Y' (.int .i64)) (h:Xp w y k (Y' ⟨g,off,Z_⟩) n c (bx.map f).flatten) (hi:i<n) (hv:XC w V y cs) (hn:n<=1000000) (av: ¬n+1<=c) (hs:sz<=1000):
  ∃N c1 w1 w2 w3,(Xz #[t,tn] t #[S_ (Y' ⟨g,off,Z_⟩) i c,I_ J_ ((n+1 - i:Nat):Int)]).run P w= .ok (S_ (Y' ⟨N,0,Z_⟩) (n+1) c1) w1/\
   (XE #[t,t] 3 #[S_ (Y' ⟨N,i*k,Z_⟩) (n+1 - i) (c1 - i),S_ (Y' ⟨V,0,Z_⟩) 1 1]).run P w1= .ok (goInt (1:Nat)) w2/\
   (XE #[t,t] 3 #[S_ (Y' ⟨N,(i+1)*k,Z_⟩) (n+1 - (i+1)) (c1 - (i+1)),S_ (Y' ⟨g,off+i*k,Z_⟩) (n - i) (c - i)]).run P w2.drew= .ok (goInt (n - i:Nat)) w3/\
   n+1<=c1/\c1<=9223372036854775807/\Xb (RB f y k (Y' ⟨g,off,Z_⟩) n (bx.take i++p::bx.drop i) w (R_ (S_ (Y' ⟨N,0,Z_⟩) (n+1) c1)) w3):=by
 have e2:(i+1)*k=i*k+k:=XG i k;have e3:i*k<=n*k:=Xw k (XA hi);have F:=h.from_ i (XA hi);have hcn:=h.le;rw [if_neg (show¬c=i by omega)] at F;refine O' ?_;intro hl ab ae;have ap:=h.cut i (XA hi);have hq:i+(n+1 - i)=n+1:=o_;let ⟨c1,w1,zs,X,al,O,I⟩:=Ro.CE (P:=P) (t:=t) (tn:=tn) (ty:=t) E hu ap (n+1 - i) o_ o_ e_ (by
  have:(i+(n+1 - i))*sz<=1000001*1000:=XK o_ hs;omega)
 rw [hq] at X O;have au:=O.le;have aB:=au.2;unfold maxLen at aB;have hgN:g<X_ (Y_ w):=h.lt rfl;have hvN:V<X_ (Y_ w):=hv.lt;have e6:(n+1 - i)*k=(n+1)*k - i*k:=Nat.sub_mul _ _ _;have e1:(n+1)*k=n*k+k:=XG n k;have ax:zs.length=k+((bx.map f).flatten.length - i*k):=by rw [al,hl];omega
 have aa:XC w1 V y cs:=(I.block V hv.lt (λc=>c)).trans hv;refine Pb ?_;intro U;let ⟨w2,am,ah,ac⟩:=Ro.nD (P:=P) (t:=t) (ty:=3) (A2:=Y' ⟨V,0,Z_⟩) (w:=w1) E O i (n+1 - i) (c1 - i) 1 1 1 (f p) (by simp only [XL];split<;>omega) o_ U o_ ae;have aD:Xp w2 y k (Y' ⟨g,off+i*k,Z_⟩) (n - i) (c - i) (((bx.map f).flatten).drop (i*k)):=(F.only I (λ_ _ c=>c)).only ac (λb hb e=>by
  have:g=b:=by simpa [Xg] using hb
  omega)
 let ⟨w3,aC,aw,aG⟩:=Ro.nD (P:=P) (t:=t) (ty:=3) (A2:=Y' ⟨g,off+i*k,Z_⟩) (w:=w2.drew) E (show Xp w2.drew _ k _ _ _ _ from ah) (i+1) (n+1 - (i+1)) (c1 - (i+1)) (n - i) (n - i) (c - i) (((bx.map f).flatten).drop (i*k)) (by simp only [XL];split<;>omega) o_ (show Xy w2.drew _ k _ _ _ from aD.sl) o_ ab;simp only [Nat.zero_add] at am aC;refine ⟨_,c1,w1,w2,w3,X,am,aC,au.1,aB,_,_,rfl,?_,?_,.inr ⟨_,rfl,l_⟩⟩
 .rw [<-IC hf]
  have e:=Ro.Gu (xs:=(bx.map f).flatten) (zs:=zs) (v:=f p) (a:=i*k) (k:=k) (by rw [hl];exact e3) (hf p) ax;rw [<-e2] at e;rw [<-e];exact aw
 .exact ((I.trans ac (T:=λb=>b=X_ (Y_ w)) (λb hb e=>o_)).trans aG.qA (λb hb e=>o_)).mono (λb _ c=>c.elim)
def ug (E:XD P t y z k sz) (hf: ∀p:α,(f p).length=k) (ho: ∀p:α,(f p).all Xt=Z') (hc:cs.toList=f p) (h:Xp w y k A n c (bx.map f).flatten) (hv:XC w V y cs) (hn:n<=1000000) (hs:sz<=1000):
  ∃A' c' w',(Xz #[t,t] ty #[S_ A n c,S_ (Y' ⟨V,0,Z_⟩) 1 1]).run P w= .ok (S_ A' (n+1) c') w'/\Xb (RB f y k A n (bx.take n++p::bx.drop n) w (R_ (S_ A' (n+1) c')) w'):=by
 have hl:bx.length=n:=by have:=h.1;rw [Gv.len f bx hf] at this;exact Nat.eq_of_mul_eq_mul_right (by have:=E.zs;have:=E.pos;omega) this
 have ak:Xy w w.heap.size k (Y' ⟨V,0,Z_⟩) 1 (f p):=⟨by rw [hf,Nat.one_mul],λ_=>⟨_,rfl,hv.lt,hc▸Mem.Cells.of_block hv⟩⟩;let ⟨A',c',w',hr,hR,hO,hb⟩:=Ro.app (P:=P) (ty:=ty) (c2:=1) E h ak (λu hu=>Yb.1 (ho p) u hu) e_ (by
  have:(n+1)*sz<=1000001*1000:=XK o_ hs;omega)
 refine ⟨A',c',w',hr,A',c',rfl,?_,hO,hb.imp id (λe=>⟨_,e,l_⟩)⟩;rw [t_ o_,List.drop_of_length_le o_];simpa using hR
def ym (E:XD P t y z k sz) (hz: ∀w,(Go.sizeOf y).run P w= .ok k w) (h:Xp w y k (Y' ⟨g,off,Z_⟩) n c xs) (hi:i<n) (hv:XC w V y cs) (hg: ¬V=g) (o lb cb:Nat):
  (Xl #[t,t] #[tR] #[S_ (Y' ⟨V,0,Z_⟩) 1 1,S_ (Y' ⟨g,o,Z_⟩) lb cb]).run P w= .ok (B_ WW) w:=by
 let ⟨aS,an⟩:=h.type (g:=g) rfl;exact Lib.run_overlaps_apart w t tR y E.ty k hz ⟨V,0,Z_⟩ ⟨g,o,Z_⟩ 1 1 lb cb hg _ _ _ _ (Ro.wO hv) (Ro.wO an) (by
  have hp:0<n*k:=Nat.mul_pos o_ E.pos;have az:=h.cell 0 (by rw [h.1];exact hp);intro hz;have hz:aS= #[]:=Array.eq_empty_of_size_eq_zero hz;subst hz;rw [Nat.add_zero,cell_of_row w g off #[] _ (0,0) an] at az;simp at az) (hv.frozen 0) (hv.frozen _)
end
section
variable {α:Type} (f:α->List WY) (y:TypeId) (k:Nat)
def Wd (A:Option Xa) (n c:Nat) (bx:List α) (w:WX) (e:Ending) (w':WX):Prop:=e=R_ (S_ A n c)/\Xp w' y k A n c (bx.map f).flatten/\XJ (λb=>Xg A=Y' b) w w'
def We (n:Nat) (bx:List α) (w:WX) (e:Ending) (w':WX):Prop:= ∃A' c',e=R_ (S_ A' n c')/\Xp w' y k A' n c' (bx.map f).flatten/\Bw w w'/\ ∀b,Xg A'=Y' b->X_ (Y_ w)<=b
variable {f y k} {P:Program} {t:TypeId} {z:WY} {sz g off n c i:Nat} {bx:List α} {w:WX}
def Iy (E:XD P t y z k sz) (hf: ∀p:α,(f p).length=k) (ho: ∀p:α,(f p).all Xt=Z') {t0:TypeId} (zz: ∀v∈z.cells.toList,v.oneCell'=Z') (h:Xp w y k (Y' ⟨g,off,Z_⟩) n c (bx.map f).flatten) (hi:i<n):
  ∃w1 w2,(Xz #[t,t] t #[S_ (Y' ⟨g,off,Z_⟩) i c,S_ (if c=i+1 then Y' ⟨g,off,Z_⟩ else Y' ⟨g,off+(i+1)*k,Z_⟩) (n - (i+1)) (c - (i+1))]).run P w.drew= .ok (S_ (Y' ⟨g,off,Z_⟩) (n - 1) c) w1/\
   (XO #[t] t0 #[S_ (Y' ⟨g,off+(n - 1)*k,Z_⟩) 1 (c - (n - 1))]).run P w1= .ok (U_ #[]) w2/\Xb (Wd f y k (Y' ⟨g,off,Z_⟩) (n - 1) c (bx.take i++bx.drop (i+1)) w (R_ (S_ (Y' ⟨g,off,Z_⟩) (n - 1) c)) w2):=by
 have hcn:=h.le;have U:Xp w.drew y k (Y' ⟨g,off,Z_⟩) i c (((bx.map f).flatten).take (i*k)):=h.cut i o_;have I:=h.from_ (i+1) o_;let ⟨w1,G,V,X⟩:=Ro.CF (P:=P) (t:=t) (ty:=t) (c2:=c - (i+1)) E U (show Xy w.drew _ k _ _ _ from I.sl) (λu hu=>Gv.one f bx ho u (List.mem_of_mem_drop hu)) o_;rw [show i+(n - (i+1))=n - 1 by omega] at G V;let ⟨w2,O,ae,aa⟩:=Ro.CH (P:=P) (t:=t) (ty:=t0) (m:=1) (cc:=c - (n - 1)) E zz V o_ o_;refine ⟨w1,w2,G,O,rfl,?_,X.qA.trans aa (λb _ e=>by rw [e];rfl)⟩;rw [Yi,List.flatten_append,<-Gv.tk f bx i hf,<-Gv.dp f bx (i+1) hf];exact ae
def IB (E:XD P t y z k sz) (ho: ∀p:α,(f p).all Xt=Z') {ad:Option Xa} (h:Xy w w.heap.size k ad n (bx.map f).flatten) (hn:n<=1000000) (hs:sz<=1000):
  ∃A' c' w',(Xz #[t,t] ty #[S_ (Y' ⟨X_ (Y_ w),0,Z_⟩) 0 0,S_ ad n c]).run P (w.alloc (.cells #[] y))= .ok (S_ A' n c') w'/\Xb (We f y k n bx w (R_ (S_ A' n c')) w'):=by
 have I:Xp (w.alloc (.cells #[] y)) y k (Y' ⟨X_ (Y_ w),0,Z_⟩) 0 0 []:=Ro.Row.new (cs:= #[]) y_ d_;let ⟨A',c',w',hr,V,hO,F⟩:=Ro.app (P:=P) (ty:=ty) (c2:=c) E I (h.alloc l_ _) (Gv.one f bx ho) e_ (by
  have:(0+n)*sz<=1000000*1000:=XK o_ hs;omega)
 simp only [Nat.zero_add,List.nil_append] at hr V;refine ⟨A',c',w',hr,A',c',rfl,V,((Ro.dt.refl (λ_=>False) w).alloc _|>.trans hO (T:=λb=>Xg (Y' ⟨X_ (Y_ w),0,Z_⟩)=Y' b) (λk hk e=>?_)).below l_ (λ_ _ c=>c),λb G=>?_⟩
 .exact vZ
 .obtain F|F:=F
  .exact we
  .rw [F] at G
   have:(w.alloc (.cells #[] y)).heap.size=b:=by simpa using G
   simp at this;omega
end
end Wo
end
section
open _root_.Go.Proofs.Tryz Go.RowKit
namespace Wo
def zC:WY:=A_ #[T_ ⟨#[]⟩,I_ J_ 0,I_ J_ 0,I_ J_ 0]
def SF:XD Xc 108 273 zC 4 40:=⟨underlying108,k_,rfl,d_⟩
abbrev mK (w:WX) (A:Option Xa) (n c:Nat) (bx:List dP):Prop:=Xp w 273 4 A n c (dP.flat bx)
def Kl (A:Option Xa) (n:Nat) (bx:List dP) (w:WX) (e:Ending) (w':WX):Prop:= ∃A' c',e=R_ (S_ A' (n+1) c')/\mK w' A' (n+1) c' bx/\XJ (λb=>Xg A=Y' b) w w'/\(Xg A'=Xg A\/ ∃b,Xg A'=Y' b/\X_ (Y_ w)<=b)
def EM (A:Option Xa) (n c i V:Nat) (bx:List dP) (p:dP) (w:WX) (h:mK w A n c bx) (hi:i<=n) (hv:XC w V 273 p.arr) (ai: ¬Xg A=Y' V) (hn:n<=1000000):
  WZ Xc 183 #[S_ A n c,I_ J_ i,S_ (Y' ⟨V,0,Z_⟩) 1 1] w (Kl A n (bx.take i++p::bx.drop i) w):=by
 have aI:=h.le.2;have aM:=h.le.1;unfold maxLen at aI;obtain hlt|rfl:=Xr hi
 .obtain ⟨g,off,rfl⟩:=h.fe o_
  refine PZ ?_;intro hg aO aK aJ aT aR;by_cases av:n+1<=c
  .let ⟨w1,w2,X,am,G⟩:=yl (f:=dP.cells) (p:=p) SF (λ_=>rfl) (λ_=>rfl) rfl h hlt hv hg av
   have aN: ∀lb cb,(callFunc 236 #[S_ (Y' ⟨V,0,Z_⟩) 1 1,S_ (Y' ⟨g,off+(i+1)*4,Z_⟩) lb cb]).run Xc w= .ok (.value (B_ WW)) w:=λlb cb=>by
    rw [run_callFunc_extern func236 k_ k_ k_ (e:=Xl #[108,108] #[4]) k_,ym SF (λw=>by rw [sizeOf273]) h hlt hv hg];rfl
   refine EK ?_;intro aA hw2 aL;clear hv h ai;go_enter func183,ntmps183;go_wp2_with (simp only [aN])
   go_region_law (refine Ro.jH rfl _ _ 108 108 rfl (S_ (Y' ⟨g,off+(i+1)*4,Z_⟩) (n+1 - (i+1)) (c - (i+1))) (S_ (Y' ⟨g,off+i*4,Z_⟩) (n+1 - i) (c - i)) x_ x_ X ?_)
   go_wp2_with (at_builtin;refine Ro.wpList_copy rfl _ _ 108 108 rfl _ _ rfl rfl am ?_)
   go_ret;exact G.o
  .let ⟨N,c1,w1,w2,w3,X,am,aC,h1,h2,G⟩:=uf (f:=dP.cells) (p:=p) SF (λ_=>rfl) (λ_=>rfl) rfl underlying3 h hlt hv hn av d_
   refine EL ?_;intro aA aX ay;rw [<-ay] at X;have aL:(i:Int)<=(n:Int):=o_;clear ay hv h ai;go_enter func183,ntmps183;go_wp2_with (at_builtin;first
    |refine Ym rfl _ _ _ _ rfl _ _ rfl rfl X ?_
    |refine Ro.wpList_copy rfl _ _ 108 108 rfl _ _ rfl rfl am ?_)
   go_region_law (refine Ro.jH rfl _ _ 108 108 rfl (S_ (Y' ⟨N,(i+1)*4,Z_⟩) (n+1 - (i+1)) (c1 - (i+1))) (S_ (Y' ⟨g,off+i*4,Z_⟩) (n - i) (c - i)) x_ x_ aC ?_)
   go_wp2;go_ret;exact G.o
 .let ⟨A',c',w',hr,G⟩:=ug (f:=dP.cells) (p:=p) (ty:=108) SF (λ_=>rfl) (λ_=>rfl) rfl h hv hn d_
  clear h hv ai;obtain _|⟨g,off,sp⟩:=A
  .go_enter func183,ntmps183
   go_wp2_with (at_builtin;refine Ym rfl _ _ _ _ rfl _ _ rfl rfl hr ?_)
   go_ret;exact G.o
  .go_enter func183,ntmps183
   go_wp2_with (at_builtin;refine Ym rfl _ _ _ _ rfl _ _ rfl rfl hr ?_)
   all_goals
    go_ret;exact G.o
def Sq: ∀v∈zC.cells.toList,v.oneCell'=Z':=by
 intro v F;simp [zC,Ye] at F;obtain rfl|rfl:=F<;>rfl
def qu (A:Option Xa) (n c:Nat) (bx:List dP) (w:WX) (e:Ending) (w':WX):Prop:=e=R_ (S_ A n c)/\mK w' A n c bx/\XJ (λb=>Xg A=Y' b) w w'
def nZ (A:Option Xa) (n c i:Nat) (bx:List dP) (w:WX) (h:mK w A n c bx) (hi:i<n) (hn:n<=1000000):
  WZ Xc 228 #[S_ A n c,I_ J_ i,I_ J_ ((i:Int)+1)] w (qu A (n - 1) c (bx.take i++bx.drop (i+1)) w):=by
 have ah:=h.le.1;have af:=h.le.2;unfold maxLen at af;obtain ⟨g,off,rfl⟩:=h.fe o_;let ⟨w1,w2,G,O,F⟩:=Iy (f:=dP.cells) (t0:=0) SF (λ_=>rfl) (λ_=>rfl) Sq h hi;refine Rz ?_;intro ab hz2 htn hb3 ag f5;clear h;by_cases ac:c=i+1
 .obtain rfl:n=i+1:=o_
  subst ac;simp only [if_true,XU,XS] at G O F ag ab;rw [show i+1 - i=1 by omega] at O;clear ab;have f1:(i:Int)<=(i:Int)+1:=o_;have f2:i<=i+1:=o_;go_enter func228,ntmps228;go_wp2
  go_region_law (refine Ro.kQ rfl _ _ 108 108 rfl (S_ (Y' ⟨g,off,Z_⟩) i (i+1)) (S_ (Y' ⟨g,off,Z_⟩) 0 0) x_ x_ G ?_)
  go_wp2;go_ret;exact F.o
 .rw [if_neg ac] at G
  have hr3:(XO #[108] 0 #[S_ (Y' ⟨g,off+(n - 1)*4,Z_⟩) (n - (n - 1)) (c - (n - 1))]).run Xc w1= .ok (U_ #[]) w2:=by rw [show n - (n - 1)=1 by omega];exact O
  clear O;refine Iz ?_;intro f1 f2 f3 f4;go_enter func228,ntmps228;go_wp2
  go_region_law (refine Ro.kQ rfl _ _ 108 108 rfl (S_ (Y' ⟨g,off,Z_⟩) i c) (S_ (Y' ⟨g,off+(i+1)*4,Z_⟩) (n - (i+1)) (c - (i+1))) x_ x_ G ?_)
  go_wp2;go_ret;exact F.o
def sW (n:Nat) (bx:List dP) (w:WX) (e:Ending) (w':WX):Prop:= ∃A' c',e=R_ (S_ A' n c')/\mK w' A' n c' bx/\Bw w w'/\ ∀b,Xg A'=Y' b->X_ (Y_ w)<=b
def iR (A:Option Xa) (n c:Nat) (bx:List dP) (w:WX) (h:Xy w w.heap.size 4 A n (dP.flat bx)) (hn:n<=1000000) (X:A=Z_->n=0/\c=0):
  WZ Xc 167 #[S_ A n c] w (sW n bx w):=by
 cases A with
 |none=>
  obtain ⟨rfl,rfl⟩:=X rfl;have F:bx=[]:=by
   have:=h.1;rw [dP.dO] at this;exact Xx o_
  subst F;have O: ∀w,(binOp .eql 108 (S_ Z_ 0 0) (S_ Z_ 0 0)).run Xc w= .ok (B_ Z') w:=λw=>k_
  go_enter func167,ntmps167;exact IA
 |some ad=>
  let ⟨A',c',w',hr,G⟩:=IB (f:=dP.cells) (ty:=108) (c:=c) SF (λ_=>rfl) h hn d_;clear h X;have O: ∀w,(binOp .eql 108 (S_ (Y' ad) n c) (S_ Z_ 0 0)).run Xc w= .ok (B_ WW) w:=λw=>k_
  go_enter func167,ntmps167;refine pN ?_;go_ret;exact G.o
end Wo
end
section
open _root_.Go.Proofs.Tryz Go.RowKit
structure dK where
 name:ByteArray
 size:Int
 last:Int
namespace dK
def arr (p:dK):Array WY:= #[T_ p.name,I_ J_ p.size,I_ J_ p.last]
def cells (p:dK):List WY:=[T_ p.name,I_ J_ p.size,I_ J_ p.last]
def flat (ps:List dK):List WY:=(ps.map cells).flatten
def eH (ps qs:List dK):flat (ps++qs)=flat ps++flat qs:=by simp [flat]
def iE (p:dK) (qs:List dK):flat (p::qs)=p.cells++flat qs:=by simp [flat]
def oE (ps:List dK) (i:Nat):(flat ps).take (i*3)=flat (ps.take i):=Gv.tk cells ps i
def dO (ps:List dK):(flat ps).length=ps.length*3:=Gv.len cells ps
def nL (ps:List dK) (i j:Nat) (hi:i<ps.length) (hj:j<3):(flat ps)[i*3+j]?=(ps[i].cells)[j]?:=Gv.get cells ps i j hi hj
structure At (w:WX) (ad:Xa) (p:dK):Prop where
 c0:w.cell? ad=Y' (T_ p.name)
 c1:Ca w ad 1 p.size
 c2:Ca w ad 2 p.last
def at_ {B:Nat} {ps:List dK} (h:Xy w B 3 A n (flat ps)) (hk:k<n):
  ∃(ad:Xa) (hl:k<ps.length),A=Y' ad/\ad.block<B/\(ad.add (k*3)).block<B/\At w (ad.add (k*3)) ps[k]:=
 let ⟨ad,hl,a,b,c,d,e⟩:=Gv.at_ cells h hk;⟨ad,hl,a,b,c,⟨d,e 1,e 2⟩⟩
def At.below {B:Nat} {p:dK} (h:At w ad p) (G:Below B w w') (F:ad.block<B):At w' ad p:=by
 exact vI
end dK
end
section
open _root_.Go.Proofs.Tryz Go.RowKit
namespace Wo
def Aj (p:dK) (s:ByteArray) (w:WX):WZ Xc 280 #[A_ p.arr,T_ s] w λe w'=>e=R_ (I_ J_ (du.cmp p.name s))/\Bw w w':=by
 obtain ⟨name,size,last⟩:=p;unfold dK.arr
 dsimp only
 go_enter func280,ntmps280;go_wp2_with fail;refine (gD _ _ _).mono ?_;refine Ky ?_;go_ret;exact ⟨rfl,dL⟩
def fj (bx:List dK):List ByteArray:=bx.map λp=>p.name
def jk (bx:List dK):(fj bx).length=bx.length:=by simp [fj]
def yF {bx:List dK} (h:k<bx.length) (h2:k<(fj bx).length):(fj bx)[k]=bx[k].name:=by simp [fj]
def Ct (A:Option Xa) (n c:Nat) (bx:List dK) (s:ByteArray) (w:WX) (h:Xy w w.heap.size 3 A n (dK.flat bx)) (hr:du.dY (fj bx)) (aI:bx.length=n) (hn:n<=1000000):
  WZ Xc 279 #[S_ A n c,T_ s,.func (.func 280) #[] #[]] w λe w'=>e=R_ (U_ #[I_ J_ (du.pos (fj bx) s),B_ (du.has (fj bx) s)])/\Bw w w':=by
 have HR:=Hd hr;clear hr;let ⟨P,hP⟩:=nm (du.pos (fj bx) s);let ⟨F,hF⟩:=nm (du.has (fj bx) s);rw [<-hP,<-hF];have HP:=Hd hP;have HF:=Hd hF;clear hP hF;go_enter func279,ntmps279;go_wp2;go_loopw [9,10] (λvi vj wr=> ∃i j:Nat,i<=j/\j<=n/\vi=I_ J_ i/\vj=I_ J_ j/\Bw w wr/\Xb (∀(t:Nat) (ht:t<(fj bx).length),t<i->du.cmp (fj bx)[t] s<0)/\Xb (∀(t:Nat) (ht:t<(fj bx).length),j<=t->0<=du.cmp (fj bx)[t] s)) (λi j _=>(intOf j - intOf i).toNat)
 .exact ⟨0,n,o_,o_,rfl,rfl,Below.refl _ _,λt _ h=>absurd h o_,λt ht h=>absurd ht (by rw [jk];omega)⟩
 .obtain ⟨i,j,hij,hjn,rfl,rfl,V,Hl,Hh⟩:=hrel
  by_cases hlt:i<j
  .refine Kz ?_
   intro m hm hm1 hm2 ap d0 aB;obtain ⟨ad,hl,rfl,_,_,ac⟩:=dK.at_ (h.below V) (k:=m) o_;have hx:m<(fj bx).length:=by rw [jk];exact hl
   have ah:(fj bx)[m]=bx[m].name:=yF hl hx;let ⟨q,hq⟩:=nm (bx[m]);rw [<-hq] at ac ah;clear hq;obtain ⟨c0,c1,c2⟩:=ac;obtain ⟨qi,qs,ql⟩:=q
   dsimp only at c0 c1 c2 ah
   have hb:=Hd (λw=>Aj ⟨qi,qs,ql⟩ s w);have He:=Hd ah;clear hm ah;go_wp2_with fail;refine (hb _).mono ?_;rintro e w1 ⟨rfl,U⟩;have X:Bw w w1:=V.trans (U.mono V.size);clear hb U c0 c1 c2 aB ap
   dsimp only
   have ah:=He.o;have hc:du.cmp qi s=du.cmp (fj bx)[m] s:=by rw [ah]
   have aa:=HR.o;by_cases G:du.cmp qi s<0
   .have d1:decide (du.cmp qi s<0)=Z':=decide_eq_true G
    have ax:Xb (∀(t:Nat) (ht:t<(fj bx).length),t<m+1->du.cmp (fj bx)[t] s<0):=by
     exact KB
    exact KD
   .have d1:decide (du.cmp qi s<0)=WW:=decide_eq_false G
    have ay:Xb (∀(t:Nat) (ht:t<(fj bx).length),m<=t->0<=du.cmp (fj bx)[t] s):=by
     intro t ht ak;refine XT.1 λai=>?_
     obtain h|rfl:=Xr ak
     .have h1:=Xq.1 aa m t hx ht h
      have h2:=du.jb h1 (show du.cmp (fj bx)[t] s<=0 by omega);rw [<-hc] at h2;exact G h2
     .rw [<-hc] at ai;exact G ai
    exact KE
  .obtain rfl:i=j:=o_
   have O:du.pos (fj bx) s=i:=du.pos_at HR i (by rw [jk];omega) Hl (λt ht h=>XT.2 (Hh t ht h));have d0:decide ((i:Int)<i)=WW:=dF;by_cases au:i<n
   .have d2:decide ((i:Int)<n)=Z':=dT
    obtain ⟨ad,hl,rfl,_,_,ac⟩:=dK.at_ (h.below V) (k:=i) au;have hx:i<(fj bx).length:=by rw [jk];exact hl
    have he:(fj bx)[i]=bx[i].name:=yF hl hx;have I:Xb (du.has (fj bx) s=(du.cmp bx[i].name s==0)):=by
     show _=_
     subst O;rw [du.nT HR.o (by rw [jk];omega),he]
    let ⟨q,hq⟩:=nm (bx[i]);rw [<-hq] at ac I;have al:Xb (P=i):=HP.trans O;have ah:Xb (F=(du.cmp q.name s==0)):=HF.trans I;clear hq he O I;obtain ⟨c0,c1,c2⟩:=ac;obtain ⟨qi,qs,ql⟩:=q
    dsimp only at c0 c1 c2 ah
    have hb:=Hd (λw=>Aj ⟨qi,qs,ql⟩ s w);go_wp2_with fail;refine (hb _).mono ?_;rintro e w1 ⟨rfl,U⟩;have X:Bw w w1:=V.trans (U.mono V.size);clear hb U c0 c1 c2;exact zZ
   .have d2:decide ((i:Int)<n)=WW:=dF
    have I:du.has (fj bx) s=WW:=du.nV (by rw [O,jk];omega);exact KG
def zI:WY:=A_ #[T_ ⟨#[]⟩,I_ J_ 0,I_ J_ 0]
def N_:XD Xc 109 223 zI 3 32:=⟨underlying109,k_,rfl,d_⟩
abbrev iP (w:WX) (A:Option Xa) (n c:Nat) (bx:List dK):Prop:=Xp w 223 3 A n c (dK.flat bx)
def EJ (A:Option Xa) (n:Nat) (bx:List dK) (w:WX) (e:Ending) (w':WX):Prop:= ∃A' c',e=R_ (S_ A' (n+1) c')/\iP w' A' (n+1) c' bx/\XJ (λb=>Xg A=Y' b) w w'/\(Xg A'=Xg A\/ ∃b,Xg A'=Y' b/\X_ (Y_ w)<=b)
def Cb (A:Option Xa) (n c i V:Nat) (bx:List dK) (p:dK) (w:WX) (h:iP w A n c bx) (hi:i<=n) (hv:XC w V 223 p.arr) (ai: ¬Xg A=Y' V) (hn:n<=1000000):
  WZ Xc 238 #[S_ A n c,I_ J_ i,S_ (Y' ⟨V,0,Z_⟩) 1 1] w (EJ A n (bx.take i++p::bx.drop i) w):=by
 have aI:=h.le.2;have aM:=h.le.1;unfold maxLen at aI;obtain hlt|rfl:=Xr hi
 .obtain ⟨g,off,rfl⟩:=h.fe o_
  refine PZ ?_;intro hg aO aK aJ aT aR;by_cases av:n+1<=c
  .let ⟨w1,w2,X,am,G⟩:=yl (f:=dK.cells) (p:=p) N_ (λ_=>rfl) (λ_=>rfl) rfl h hlt hv hg av
   have aN: ∀lb cb,(callFunc 297 #[S_ (Y' ⟨V,0,Z_⟩) 1 1,S_ (Y' ⟨g,off+(i+1)*3,Z_⟩) lb cb]).run Xc w= .ok (.value (B_ WW)) w:=λlb cb=>by
    rw [run_callFunc_extern func297 k_ k_ k_ (e:=Xl #[109,109] #[4]) k_,ym N_ (λw=>by rw [sizeOf223]) h hlt hv hg];rfl
   refine EK ?_;intro aA hw2 aL;clear hv h ai;go_enter func238,ntmps238;go_wp2_with (simp only [aN])
   go_region_law (refine Ro.jH rfl _ _ 109 109 rfl (S_ (Y' ⟨g,off+(i+1)*3,Z_⟩) (n+1 - (i+1)) (c - (i+1))) (S_ (Y' ⟨g,off+i*3,Z_⟩) (n+1 - i) (c - i)) x_ x_ X ?_)
   go_wp2_with (at_builtin;refine Ro.wpList_copy rfl _ _ 109 109 rfl _ _ rfl rfl am ?_)
   go_ret;exact G.o
  .let ⟨N,c1,w1,w2,w3,X,am,aC,h1,h2,G⟩:=uf (f:=dK.cells) (p:=p) N_ (λ_=>rfl) (λ_=>rfl) rfl underlying3 h hlt hv hn av d_
   refine EL ?_;intro aA aX ay;rw [<-ay] at X;have aL:(i:Int)<=(n:Int):=o_;clear ay hv h ai;go_enter func238,ntmps238;go_wp2_with (at_builtin;first
    |refine Ym rfl _ _ _ _ rfl _ _ rfl rfl X ?_
    |refine Ro.wpList_copy rfl _ _ 109 109 rfl _ _ rfl rfl am ?_)
   go_region_law (refine Ro.jH rfl _ _ 109 109 rfl (S_ (Y' ⟨N,(i+1)*3,Z_⟩) (n+1 - (i+1)) (c1 - (i+1))) (S_ (Y' ⟨g,off+i*3,Z_⟩) (n - i) (c - i)) x_ x_ aC ?_)
   go_wp2;go_ret;exact G.o
 .let ⟨A',c',w',hr,G⟩:=ug (f:=dK.cells) (p:=p) (ty:=109) N_ (λ_=>rfl) (λ_=>rfl) rfl h hv hn d_
  clear h hv ai;obtain _|⟨g,off,sp⟩:=A
  .go_enter func238,ntmps238
   go_wp2_with (at_builtin;refine Ym rfl _ _ _ _ rfl _ _ rfl rfl hr ?_)
   go_ret;exact G.o
  .go_enter func238,ntmps238
   go_wp2_with (at_builtin;refine Ym rfl _ _ _ _ rfl _ _ rfl rfl hr ?_)
   all_goals
    go_ret;exact G.o
def Sw: ∀v∈zI.cells.toList,v.oneCell'=Z':=by
 intro v F;simp [zI,Ye] at F;obtain rfl|rfl:=F<;>rfl
def Jr (A:Option Xa) (n c:Nat) (bx:List dK) (w:WX) (e:Ending) (w':WX):Prop:=e=R_ (S_ A n c)/\iP w' A n c bx/\XJ (λb=>Xg A=Y' b) w w'
def CR (A:Option Xa) (n c i:Nat) (bx:List dK) (w:WX) (h:iP w A n c bx) (hi:i<n) (hn:n<=1000000):
  WZ Xc 231 #[S_ A n c,I_ J_ i,I_ J_ ((i:Int)+1)] w (Jr A (n - 1) c (bx.take i++bx.drop (i+1)) w):=by
 have ah:=h.le.1;have af:=h.le.2;unfold maxLen at af;obtain ⟨g,off,rfl⟩:=h.fe o_;let ⟨w1,w2,G,O,F⟩:=Iy (f:=dK.cells) (t0:=0) N_ (λ_=>rfl) (λ_=>rfl) Sw h hi;refine Rz ?_;intro ab hz2 htn hb3 ag f5;clear h;by_cases ac:c=i+1
 .obtain rfl:n=i+1:=o_
  subst ac;simp only [if_true,XU,XS] at G O F ag ab;rw [show i+1 - i=1 by omega] at O;clear ab;have f1:(i:Int)<=(i:Int)+1:=o_;have f2:i<=i+1:=o_;go_enter func231,ntmps231;go_wp2
  go_region_law (refine Ro.kQ rfl _ _ 109 109 rfl (S_ (Y' ⟨g,off,Z_⟩) i (i+1)) (S_ (Y' ⟨g,off,Z_⟩) 0 0) x_ x_ G ?_)
  go_wp2;go_ret;exact F.o
 .rw [if_neg ac] at G
  have hr3:(XO #[109] 0 #[S_ (Y' ⟨g,off+(n - 1)*3,Z_⟩) (n - (n - 1)) (c - (n - 1))]).run Xc w1= .ok (U_ #[]) w2:=by rw [show n - (n - 1)=1 by omega];exact O
  clear O;refine Iz ?_;intro f1 f2 f3 f4;go_enter func231,ntmps231;go_wp2
  go_region_law (refine Ro.kQ rfl _ _ 109 109 rfl (S_ (Y' ⟨g,off,Z_⟩) i c) (S_ (Y' ⟨g,off+(i+1)*3,Z_⟩) (n - (i+1)) (c - (i+1))) x_ x_ G ?_)
  go_wp2;go_ret;exact F.o
def qX (n:Nat) (bx:List dK) (w:WX) (e:Ending) (w':WX):Prop:= ∃A' c',e=R_ (S_ A' n c')/\iP w' A' n c' bx/\Bw w w'/\ ∀b,Xg A'=Y' b->X_ (Y_ w)<=b
def og (A:Option Xa) (n c:Nat) (bx:List dK) (w:WX) (h:Xy w w.heap.size 3 A n (dK.flat bx)) (hn:n<=1000000) (X:A=Z_->n=0/\c=0):
  WZ Xc 172 #[S_ A n c] w (qX n bx w):=by
 cases A with
 |none=>
  obtain ⟨rfl,rfl⟩:=X rfl;have F:bx=[]:=by
   have:=h.1;rw [dK.dO] at this;exact Xx o_
  subst F;have O: ∀w,(binOp .eql 109 (S_ Z_ 0 0) (S_ Z_ 0 0)).run Xc w= .ok (B_ Z') w:=λw=>k_
  go_enter func172,ntmps172;exact IA
 |some ad=>
  let ⟨A',c',w',hr,G⟩:=IB (f:=dK.cells) (ty:=109) (c:=c) N_ (λ_=>rfl) h hn d_;clear h X;have O: ∀w,(binOp .eql 109 (S_ (Y' ad) n c) (S_ Z_ 0 0)).run Xc w= .ok (B_ WW) w:=λw=>k_
  go_enter func172,ntmps172;refine pN ?_;go_ret;exact G.o
def NZ:XD Xc 48 4 (B_ WW) 1 1:=⟨underlying48,k_,rfl,d_⟩
abbrev ue (w:WX) (A:Option Xa) (n c:Nat) (bs:List Bool):Prop:=Xp w 4 1 A n c (bs.map XR)
structure St where
 rt:Int
 outs:List Bool
 bx:List dP
 im:List dK
structure jG (w:WX) (g:Nat) (s:St) (S:Nat->Prop) (AQ:Option Xa) (nq cq:Nat) (AB:Option Xa) (nb cb:Nat) (AI:Option Xa) (ni ci:Nat):Prop where
 dr:XC w g 111 #[S_ AQ nq cq,s.rt,S_ AB nb cb,S_ AI ni ci]
 q:ue w AQ nq cq s.outs
 b:mK w AB nb cb s.bx
 i:iP w AI ni ci s.im
 sg:S g
 sq: ∀k,Xg AQ=Y' k->S k
 sb: ∀k,Xg AB=Y' k->S k
 si: ∀k,Xg AI=Y' k->S k
def At (w:WX) (g:Nat) (s:St) (S:Nat->Prop):Prop:= ∃AQ nq cq AB nb cb AI ni ci,jG w g s S AQ nq cq AB nb cb AI ni ci
def ext (S:Nat->Prop) (w w':WX) (k:Nat):Prop:=S k\/(X_ (Y_ w)<=k/\k<X_ (Y_ w'))
structure en (S:Nat->Prop) (w w':WX) (g:Nat) (s:St):Prop where
 at_:At w' g s (ext S w w')
 only:XJ S w w'
section
variable {w w' w1:WX} {g:Nat} {s:St} {S T:Nat->Prop} {AQ AB AI:Option Xa} {nq cq nb cb ni ci:Nat}
def jG.mono (h:jG w g s S AQ nq cq AB nb cb AI ni ci) (hS: ∀k,k<X_ (Y_ w)->S k->T k):jG w g s T AQ nq cq AB nb cb AI ni ci:=
 ⟨h.dr,h.q,h.b,h.i,hS _ h.dr.lt h.sg,λk hk=>hS k (h.q.lt hk) (h.sq k hk),λk hk=>hS k (h.b.lt hk) (h.sb k hk),λk hk=>hS k (h.i.lt hk) (h.si k hk)⟩
def jG.dy (h:jG w g s S AQ nq cq AB nb cb AI ni ci) (hk: ∀k,k<X_ (Y_ w)->S k->w'.heap[k]?=w.heap[k]?):jG w' g s S AQ nq cq AB nb cb AI ni ci:=
 ⟨(hk g h.dr.lt h.sg).trans h.dr,h.q.dy λk e=>hk k (h.q.lt e) (h.sq k e),h.b.dy λk e=>hk k (h.b.lt e) (h.sb k e),h.i.dy λk e=>hk k (h.i.lt e) (h.si k e),h.sg,h.sq,h.sb,h.si⟩
def At.dy (h:At w g s S) (F: ∀k,k<X_ (Y_ w)->S k->w'.heap[k]?=w.heap[k]?):At w' g s S:=by
 let ⟨_,_,_,_,_,_,_,_,_,h⟩:=h;exact ⟨_,_,_,_,_,_,_,_,_,h.dy F⟩
def At.mono (h:At w g s S) (F: ∀k,k<X_ (Y_ w)->S k->T k):At w g s T:=by
 let ⟨_,_,_,_,_,_,_,_,_,h⟩:=h;exact ⟨_,_,_,_,_,_,_,_,_,h.mono F⟩
def At.below (h:At w g s S) (hb:Bw w w'):At w' g s S:=h.dy λk hk _=>hb.block k hk
def en.dW (h:At w g s S) (hb:Bw w w'):en S w w' g s:=⟨(h.below hb).mono λ_ _ c=> .inl c,.dW hb⟩
def BZ (h1:X_ (Y_ w)<=X_ (Y_ w1)) (h2:X_ (Y_ w1)<=X_ (Y_ w')) (h:ext (ext S w w1) w1 w' k):ext S w w' k:=by
 rcases h with (h|h)|h
 .exact .inl h
 .exact .inr ⟨h.1,o_⟩
 .exact .inr ⟨o_,h.2⟩
def en.trans {s1:St} (h:en S w w1 g s1) (h2:en (ext S w w1) w1 w' g s):en S w w' g s:=
 ⟨h2.at_.mono λ_ _ c=>BZ h.only.size h2.only.size c,h.only.trans h2.only λk hk c=>by
  obtain c|c:=c
  .exact c
  .omega⟩
def en.PX (h:en S w w' g s) (hS: ∀k,S k->T k):en T w w' g s:=
 ⟨h.at_.mono λk _ c=>c.imp (hS k) id,h.only.mono λk _ c=>hS k c⟩
def jG.VP (h:jG w g s S AQ nq cq AB nb cb AI ni ci) {outs:List Bool} (hR:ue w A n c outs) (hS: ∀k,Xg A=Y' k->S k):
  jG (w.setCell ⟨g,0,Z_⟩ (S_ A n c)) g {s with outs:=outs} S A n c AB nb cb AI ni ci:=
 ⟨h.dr.eC 0 _,hR.only (Xe _ _ _) (hR.dZ h.dr d_),h.b.only (Xe _ _ _) (h.b.dZ h.dr d_),h.i.only (Xe _ _ _) (h.i.dZ h.dr d_),h.sg,hS,h.sb,h.si⟩
def jG.TC (h:jG w g s S AQ nq cq AB nb cb AI ni ci) {im:List dK} (hR:iP w A n c im) (hS: ∀k,Xg A=Y' k->S k):
  jG (w.setCell ⟨g,3,Z_⟩ (S_ A n c)) g {s with im:=im} S AQ nq cq AB nb cb A n c:=
 ⟨h.dr.eC 3 _,h.q.only (Xe _ _ _) (h.q.dZ h.dr d_),h.b.only (Xe _ _ _) (h.b.dZ h.dr d_),hR.only (Xe _ _ _) (hR.dZ h.dr d_),h.sg,h.sq,h.sb,hS⟩
def jG.TD (h:jG w g s S AQ nq cq AB nb cb AI ni ci) (ho:XJ (λk=>Xg AQ=Y' k) w w'):
  XC w' g 111 #[S_ AQ nq cq,s.rt,S_ AB nb cb,S_ AI ni ci]/\mK w' AB nb cb s.bx/\iP w' AI ni ci s.im:=
 ⟨(ho.block g h.dr.lt (λe=>h.q.dZ h.dr d_ g e rfl)).trans h.dr,h.b.only ho (h.b.apart h.q d_),h.i.only ho (h.i.apart h.q d_)⟩
def jG.vW (h:jG w g s S AQ nq cq AB nb cb AI ni ci) (ho:XJ (λk=>Xg AB=Y' k) w w'):
  XC w' g 111 #[S_ AQ nq cq,s.rt,S_ AB nb cb,S_ AI ni ci]/\ue w' AQ nq cq s.outs/\iP w' AI ni ci s.im:=
 ⟨(ho.block g h.dr.lt (λe=>h.b.dZ h.dr d_ g e rfl)).trans h.dr,h.q.only ho (h.q.apart h.b d_),h.i.only ho (h.i.apart h.b d_)⟩
def jG.lens (h:jG w g s S AQ nq cq AB nb cb AI ni ci):s.outs.length=nq/\s.bx.length=nb/\s.im.length=ni:=by
 have F:=h.q.1;have G:=h.b.1;have I:=h.i.1;rw [dP.dO] at G;rw [dK.dO] at I;simp at F;omega
end
def tk:List Bool->Bool
 |[]=>Z'
 |x::_=>x
def EI {p:Prop} (h:p:=by
 go_enter func169,ntmps169;go_wp2_with fail;go_ret;exact ⟨rfl,I⟩):p:=h
def yk (g:Nat) (s:St) (S:Nat->Prop) (w:WX) (h:At w g s S):
  WZ Xc 169 #[P_ (Y' ⟨g,0,Z_⟩)] w λe w'=>e=R_ (B_ (tk s.outs))/\en S w w' g {s with outs:=s.outs.tail}:=by
 let ⟨AQ,nq,cq,AB,nb,cb,AI,ni,ci,h⟩:=h;let ⟨G,_,_⟩:=h.lens;have m0:C w g 0 (S_ AQ nq cq):=h.dr.cell 0;have f0:=h.dr.frozen 0;have X:=h.q.le;have V:=X.2;unfold maxLen at V;obtain ⟨rt,outs,bx,im⟩:=s
 dsimp only at*
 cases outs with
 |nil=>
  obtain rfl:nq=0:=by simpa using G.symm
  have I:Xb (en S w w g ⟨rt,[],bx,im⟩):=en.dW ⟨_,_,_,_,_,_,_,_,_,h⟩ b_;clear h;exact EI
 |cons x outs=>
  have hn:0<nq:=by simp at G;omega
  obtain ⟨U,off,rfl⟩:=h.q.fe o_;have hc0:C w U off x:=h.q.cell 0 y_;have F:=h.q.from_ 1 o_;have aa:Xb (∀A,A=(if cq=1 then Y' (⟨U,off,Z_⟩:Xa) else Y' ⟨U,off+1,Z_⟩)->en S w (w.setCell ⟨g,0,Z_⟩ (S_ A (nq - 1) (cq - 1))) g ⟨rt,outs,bx,im⟩):=by
   rintro A rfl;have hR:ue w (if cq=1 then Y' (⟨U,off,Z_⟩:Xa) else Y' ⟨U,off+1,Z_⟩) (nq - 1) (cq - 1) outs:=by
    have e:((x::outs).map XR).drop (1*1)=outs.map XR:=by simp
    rw [Nat.one_mul] at F e;rw [e] at F;exact F
   have hS:=h.sq;have h2:=h.VP hR (λk hk=>hS k (by split at hk<;>exact hk));refine ⟨(show At _ g ⟨rt,outs,bx,im⟩ S from ⟨_,_,_,_,_,_,_,_,_,h2⟩).mono λ_ _ c=> .inl c,(Xe _ _ _).mono λk _ e=>by rw [e];exact h.sg⟩
  have d:((nq:Int)==0)=WW:=beq_eq_false_iff_ne.2 o_;clear F h;by_cases O:cq=1
  .subst O
   have I:=Hd (aa _ rfl);obtain rfl:nq=1:=o_;simp only [if_true,XU] at I;clear aa;exact EI
  .have I:=Hd (aa _ rfl)
   rw [if_neg O] at I;clear aa;exact EI
def PY (g:Nat) (s:St) (S:Nat->Prop) (A:Option Xa) (n c:Nat) (bs:List Bool) (w:WX) (h:At w g s S) (hw:Xy w w.heap.size 1 A n (bs.map XR)) (hn:n<=1000000) (ho:s.outs.length<=4096):
  WZ Xc 44 #[P_ (Y' ⟨g,0,Z_⟩),S_ A n c] w λe w'=>(4096<s.outs.length+n->e=R_ (I_ J_ 6)/\en S w w' g s)/\(s.outs.length+n<=4096->e=R_ (I_ J_ 0)/\en S w w' g {s with outs:=s.outs++bs}):=by
 let ⟨AQ,nq,cq,AB,nb,cb,AI,ni,ci,h⟩:=h;let ⟨G,_,_⟩:=h.lens;have m0:C w g 0 (S_ AQ nq cq):=h.dr.cell 0;have hle:=h.q.le;by_cases hf:4096<s.outs.length+n
 .have d:decide ((nq:Int)+(n:Int)>4096)=Z':=dT
  have hp:Xb (en S w w g s):=en.dW ⟨_,_,_,_,_,_,_,_,_,h⟩ b_;have HF:=Hd hf;clear h hw hf;go_enter func44,ntmps44;go_wp2;go_ret;exact ⟨λ_=>⟨rfl,hp⟩,λc=>by have:=HF.o;omega⟩
 .have d:decide ((nq:Int)+(n:Int)>4096)=WW:=dF
  let ⟨A',c',w1,hr,hR,hO,O⟩:=Ro.app (P:=Xc) (ty:=48) (c2:=c) NZ h.q hw (by intro u hu;obtain ⟨b,_,rfl⟩:=List.mem_map.1 hu;rfl) e_ o_;let ⟨U,I,ab⟩:=h.TD hO;have m1:C w1 g 0 (S_ AQ nq cq):=U.cell 0;have f1:=U.frozen 0;have aa: ∀k,Xg A'=Y' k->k<X_ (Y_ w1):=λk F=>hR.lt F
  have hsz:=hO.size;have hp:Xb (en S w (w1.setCell ⟨g,0,Z_⟩ (S_ A' (nq+n) c')) g {s with outs:=s.outs++bs}):=by
   have h2:jG w1 g s (ext S w w1) AQ nq cq AB nb cb AI ni ci\/True:= .inr trivial;have X: ∀k,Xg A'=Y' k->ext S w w1 k:=by
    intro k F;obtain O|O:=O
    .exact .inl (h.sq k (by rw [<-O];exact F))
    .rw [O] at F
     have:X_ (Y_ w)=k:=by simpa using F
     exact .inr ⟨o_,aa k (by rw [O];exact F)⟩
   have V:ue w1 A' (nq+n) c' (s.outs++bs):=by unfold ue;rw [Yi];exact hR
   have ah:jG (w1.setCell ⟨g,0,Z_⟩ (S_ A' (nq+n) c')) g {s with outs:=s.outs++bs} (ext S w w1) A' (nq+n) c' AB nb cb AI ni ci:=
    ⟨U.eC 0 _,V.only (Xe _ _ _) (V.dZ U d_),I.only (Xe _ _ _) (I.dZ U d_),ab.only (Xe _ _ _) (ab.dZ U d_),.inl h.sg,X,λk F=> .inl (h.sb k F),λk F=> .inl (h.si k F)⟩
   refine ⟨(show At _ g _ (ext S w w1) from ⟨_,_,_,_,_,_,_,_,_,ah⟩).mono λk _ c=>?_,(hO.mono (λk _ e=>h.sq k e)).trans (Xe _ _ _) λk _ e=>by rw [e];exact h.sg⟩;exact zG
  have HF:=Hd hf;clear h hw hf hR hO O U I ab aa;go_enter func44,ntmps44;refine pN ?_;go_ret;exact ⟨λc=>absurd c HF,λ_=>⟨rfl,hp⟩⟩
end Wo
end
section
namespace Sat
def num (a:Int):Int:=if a<0 then 0 else a
def cut (n:Int):Int:=if n<=9223372036854775807 then n else 9223372036854775807
def add (a b:Int):Int:=cut (num a+num b)
def mul (a b:Int):Int:=cut (num a*num b)
def less (a b:Int):Int:=if num a<num b then 0 else num a - num b
def num_nonneg (a:Int):0<=num a:=by unfold num;split<;>omega
def gY (a:Int) (h:a<=9223372036854775807):num a<=9223372036854775807:=by unfold num;split<;>omega
def jP (a:Int) (h:0<=a):num a=a:=by unfold num;split<;>omega
def Fx (a:Int) (h:0<=a):0<=cut a/\cut a<=9223372036854775807:=by unfold cut;split<;>omega
def Fy (a b:Int):0<=add a b/\add a b<=9223372036854775807:=by
 have:=num_nonneg a;have:=num_nonneg b;unfold add;exact Fx _ o_
def lQ (a b:Int):0<=mul a b/\mul a b<=9223372036854775807:=by
 have:=num_nonneg a;have:=num_nonneg b;unfold mul;exact Fx _ (Int.mul_nonneg (num_nonneg a) (num_nonneg b))
def Fz {a:Int} (F:0<num b) (h:9223372036854775807/num b<num a):mul a b=9223372036854775807:=by
 have h1:=(Int.ediv_lt_iff_lt_mul F).1 h;unfold mul cut;rw [if_neg o_]
def Cj {a:Int} (G:0<num b) (h:num a<=9223372036854775807/num b):mul a b=num a*num b/\0<=num a*num b/\num a*num b<=9223372036854775807:=by
 have F:=(Int.le_ediv_iff_mul_le G).1 h;unfold mul cut;rw [if_pos o_];exact ⟨rfl,Int.mul_nonneg (num_nonneg a) (num_nonneg b),F⟩
def FA {a:Int} (hb:num b<=0):mul a b=0/\num a*num b=0:=by
 have F:num b=0:=by have:=num_nonneg b;omega
 unfold mul cut;rw [F,Int.mul_zero];exact ⟨rfl,rfl⟩
end Sat
end
section
open _root_.Go.Proofs.Tryz Go.RowKit
namespace Sat
def iz {k:IntKind} {a:Int} (h:a=b):Ending.returned (.int k a)=R_ (.int k b):=by rw [h]
def gM (a:Int) (w:WX):WZ Xc 173 #[I_ J_ a] w λe w'=>e=R_ (I_ J_ (num a))/\w=w':=by
 go_enter func173,ntmps173;go_wp2
 .exact IF
 .exact IF
def pH (a b:Int) (w:WX) (F:a<=9223372036854775807) (G:b<=9223372036854775807):
  WZ Xc 122 #[I_ J_ a,I_ J_ b] w λe w'=>e=R_ (I_ J_ (add a b))/\w=w':=by
 have h1:=num_nonneg a;have h2:=num_nonneg b;have h3:=gY a F;have h4:=gY b G;go_enter func122,ntmps122;go_wp2_with (go_at_call 173;refine (gM _ _).mono ?_;rintro e w' ⟨rfl,rfl⟩)
 all_goals
  go_ret;exact ⟨iz (by unfold add cut;split<;>omega),rfl⟩
def Rs (a b:Int) (w:WX) (F:a<=9223372036854775807) (G:b<=9223372036854775807):
  WZ Xc 118 #[I_ J_ a,I_ J_ b] w λe w'=>e=R_ (I_ J_ (less a b))/\w=w':=by
 have h1:=num_nonneg a;have h2:=num_nonneg b;have h3:=gY a F;have h4:=gY b G;go_enter func118,ntmps118;go_wp2_with (go_at_call 173;refine (gM _ _).mono ?_;rintro e w' ⟨rfl,rfl⟩)
 all_goals
  go_ret;exact ⟨iz (by unfold less;split<;>omega),rfl⟩
def Qn (a:Int) (w:WX):
  WZ Xc 149 #[I_ J_ a] w λe w'=>e=R_ (B_ (a==9223372036854775807))/\w=w':=by
 go_enter func149,ntmps149;go_wp2;go_ret;exact ⟨rfl,rfl⟩
def Bn (a b:Int) (w:WX) (F:a<=9223372036854775807) (V:b<=9223372036854775807):
  WZ Xc 203 #[I_ J_ a,I_ J_ b] w λe w'=>e=R_ (I_ J_ (mul a b))/\w=w':=by
 have h1:=num_nonneg a;have h2:=num_nonneg b;have h3:=gY a F;have h4:=gY b V;go_enter func203,ntmps203;by_cases U:0<num b
 .by_cases O:9223372036854775807/num b<num a
  .go_wp2_with (go_at_call 173;refine (gM _ _).mono ?_;rintro e w' ⟨rfl,rfl⟩)
   go_ret;exact ⟨iz (Fz U O).symm,rfl⟩
  .go_wp2_with (go_at_call 173;refine (gM _ _).mono ?_;rintro e w' ⟨rfl,rfl⟩)
   go_ret;obtain ⟨G,l1,l2⟩:=Cj U o_;exact ⟨iz (by rw [G,XV _ ⟨o_,o_⟩]),rfl⟩
 .go_wp2_with (go_at_call 173;refine (gM _ _).mono ?_;rintro e w' ⟨rfl,rfl⟩)
  go_ret;obtain ⟨G,I⟩:=FA (a:=a) (b:=b) o_;exact ⟨iz (by rw [G,I];exact XV _ ⟨o_,o_⟩),rfl⟩
end Sat
end
section
open Go.RowKit Go.Maps
namespace Map
def At (P:Program) (K:TypeId) (w:WX) (g:Nat) (R:WY->WY->Prop):Prop:=
 ∃(es:Array MapEntry) (clock:Nat),w.heap[g]?=Y' (.map es clock)/\(∀e∈es.toList,∃l,keyOf P K e.key=Y' l)/\(∀e∈es.toList,R e.key e.val)/\
  (∀k v,R k v-> ∃e∈es.toList,e.key=k/\e.val=v)/\(∀(i j:Nat) (e e':MapEntry),es[i]?=Y' e->es[j]?=Y' e'->e.key=e'.key->i=j)
section
variable {P:Program} {K T E:TypeId} {w w':WX} {g:Nat} {R R':WY->WY->Prop}
def At.of_block (h:At P K w g R) (O:w'.heap[g]?=w.heap[g]?):At P K w' g R:=by
 let ⟨G,c,F,I⟩:=h;exact ⟨G,c,O.trans F,I⟩
def At.lt (h:At P K w g R):g<X_ (Y_ w):=by
 let ⟨es,c,F,_⟩:=h;exact (Array.getElem?_eq_some_iff.1 F).1
def At.iff (h:At P K w g R) (F: ∀k v,R k v↔R' k v):At P K w g R':=by
 have e:R=R':=funext λk=>funext λv=>propext (F k v)
 rw [<-e];exact h
def At.made (w:WX):At P K (w.alloc (.map #[] 0)) w.heap.size (λ_ _=>False):=
 ⟨#[],0,heap_alloc_new w _,by simp,by simp,by simp,by simp⟩
def At.look (h:At P K w g R) (L:Keyed P K) (U:P.underlying T=Y' (.map K E)) {z:WY} (hz: ∀w:WX,(zeroValue E).run P w= .ok z w) (X:keyOf P K x=Y' lx) (ok:Bool):
  (∃v,R x v/\(Xn T (.map (Y' g)) x ok).run P w= .ok (if ok then U_ #[v,B_ Z'] else v) w)\/
  ((∀v,¬R x v)/\(Xn T (.map (Y' g)) x ok).run P w= .ok (if ok then U_ #[z,B_ WW] else z) w):=by
 let ⟨es,c,V,h2,h3,h4,h5⟩:=h;have F:=λem=>L.check w em X
 have I:=hz w;obtain ⟨G,O⟩|⟨j,e,G,hj,he⟩:=L.find w X es.toList h2
 .refine .inr ⟨λv hv=>?_,?_⟩
  .let ⟨e,hm,hk,_⟩:=h4 x v hv
   exact O e hm hk
  .simp [Xn,run_underlying U,getObj,Yj,V,F,G,I]
 .refine .inl ⟨e.val,?_,?_⟩
  .rw [<-he];exact h3 e (Xk hj)
  .simp [Xn,run_underlying U,getObj,Yj,V,F,G]
def At.store (h:At P K w g R) (L:Keyed P K) (hT:P.underlying T=Y' (.map K E)) (hx:keyOf P K x=Y' lx) (v:WY):
  ∃w',(Xi T (.map (Y' g)) x v).run P w= .ok () w'/\At P K w' g (λk u=>(k=x/\u=v)\/(k≠x/\R k u))/\w.grownBy w' (Y' g):=by
 let ⟨X,c,h1,h2,h3,h4,h5⟩:=h;have aw:=L.check w WW hx;have aF:=(Array.getElem?_eq_some_iff.1 h1).1;have ae: ∀o:Obj,({w with heap:=w.heap.setIfInBounds g o}:WX).heap[g]?=Y' o:=λo=>by simp [aF]
 have al: ∀o:Obj,w.grownBy {w with heap:=w.heap.setIfInBounds g o} (Y' g):=λo=>
  ⟨rfl,rfl,rfl,by simp,λk _ O=>by simp only [Array.getElem?_setIfInBounds];rw [if_neg];intro e;exact O (by rw [e])⟩
 obtain ⟨hf,az⟩|⟨j,e,hf,hj,he⟩:=L.find w hx X.toList h2
 .refine ⟨{w with heap:=w.heap.setIfInBounds g (.map (X.push {key:=x,val:=v,born:=c}) (c+1))},by simp [Xi,run_underlying hT,getObj,setObj,Yj,h1,aw,hf],⟨_,_,ae _,?_,?_,?_,?_⟩,al _⟩
  .intro F G
   simp at G;obtain G|rfl:=G
   .exact h2 F (by simpa using G)
   .exact ⟨lx,hx⟩
  .intro F G
   simp at G;obtain G|rfl:=G
   .exact .inr ⟨az F (by simpa using G),h3 F (by simpa using G)⟩
   .exact .inl ⟨rfl,rfl⟩
  .rintro k u (⟨rfl,rfl⟩|⟨_,hR⟩)
   .exact ⟨⟨k,u,c⟩,by simp,rfl,rfl⟩
   .let ⟨F,hm,O⟩:=h4 k u hR
    exact ⟨F,by simp at hm |-;exact .inl hm,O⟩
  .have ag: ∀(i:Nat) (F:MapEntry),X[i]?=Y' F->F.key≠x:=λi F I=>az F (Xk (i:=i) (by simpa using I))
   intro i j e1 e2 I hj O;rw [Array.getElem?_push] at I hj;split at I<;>split at hj
   .omega
   .rename_i a b;injection I with I;subst I;exact absurd O.symm (ag _ _ hj)
   .rename_i a b;injection hj with hj;subst hj;exact absurd O (ag _ _ I)
   .exact h5 i j e1 e2 I hj O
 .have U:X[j]?=Y' e:=by simpa using hj
  have aJ:j<X.size:=(Array.getElem?_eq_some_iff.1 U).1;have aC:=L.stays w hx;subst he;have ao:(X[j]?.getD e).key=e.key:=by rw [U];rfl
  have av:(Xi T (.map (Y' g)) e.key v).run P w= .ok () {w with heap:=w.heap.setIfInBounds g (.map (X.modify j λy=>{y with key:=e.key,val:=v}) c)}:=by
   simp [Xi,run_underlying hT,getObj,setObj,Yj,h1,aw,hf,ao,aC]
  have ak: ∀i F,(X.modify j λy=>{y with key:=e.key,val:=v})[i]?=Y' F->(i=j/\F.key=e.key/\F.val=v)\/(i≠j/\X[i]?=Y' F):=by
   intro i F I;simp only [Array.getElem?_modify] at I;split at I
   .rename_i V
    subst V;rw [U] at I;injection I with I
    rw [<-I];exact .inl ⟨rfl,rfl,rfl⟩
   .rename_i V
    exact .inr ⟨λe=>V e.symm,I⟩
  have ah: ∀F,F∈(X.modify j λy=>{y with key:=e.key,val:=v}).toList->(F.key=e.key/\F.val=v)\/(F∈X.toList/\F.key≠e.key):=by
   intro F G;let ⟨i,I⟩:=List.getElem?_of_mem G;obtain ⟨_,h⟩|⟨V,I⟩:=ak i F (by rw [Array.getElem?_toList] at I;exact I)
   .exact .inl h
   .exact .inr ⟨Xk (i:=i) (by simpa using I),λO=>V (h5 i j F e I U O)⟩
  refine ⟨_,av,⟨_,_,ae _,?_,?_,?_,?_⟩,al _⟩
  .intro F G
   obtain ⟨O,_⟩|⟨hm,_⟩:=ah F G
   .exact ⟨lx,by rw [O];exact hx⟩
   .exact h2 F hm
  .intro F G
   obtain ⟨O,hv⟩|⟨hm,O⟩:=ah F G
   .exact .inl ⟨O,hv⟩
   .exact .inr ⟨O,h3 F hm⟩
  .rintro k u (⟨rfl,rfl⟩|⟨O,hR⟩)
   .refine ⟨{e with key:=e.key,val:=u},?_,rfl,rfl⟩
    refine Xk (i:=j) ?_;simp [U]
   .let ⟨F,hm,an,aD⟩:=h4 k u hR
    let ⟨i,I⟩:=List.getElem?_of_mem hm;have V:j≠i:=by
     rintro rfl;rw [hj] at I;injection I with I
     exact O (by rw [<-an,I])
    refine ⟨F,Xk (i:=i) ?_,an,aD⟩;simp only [Array.getElem?_toList,Array.getElem?_modify,if_neg V];simpa using I
  .intro i k e1 e2 I O ai
   obtain ⟨ar,ac,_⟩|⟨ar,ac⟩:=ak i e1 I<;>obtain ⟨au,ab,_⟩|⟨au,ab⟩:=ak k e2 O
   .omega
   .exact absurd (h5 k j e2 e ab U (by rw [<-ai,ac])) au
   .exact absurd (h5 i j e1 e ac U (by rw [ai,ab])) ar
   .exact h5 i k e1 e2 ac ab ai
end
section
variable {P:Program} {ops:Array Oper} {Q:Exit->Act->WX->Prop} {md:Region.Mode}
def open_ (n:Nat) (L:Array Bool):Nat:=((Xs n).filter λi=> !L.getD i Z').length
def xF (hi:i<n) (hs:L.size=n) (h:L.getD i Z'=WW):open_ n (L.setIfInBounds i Z')<open_ n L:=by
 have O:i<L.size:=o_;unfold open_;have G:((Xs n).filter λj=> !(L.setIfInBounds i Z').getD j Z')=((Xs n).filter λj=> !L.getD j Z').filter (λj=>j !=i):=by
  rw [List.filter_filter];apply List.filter_congr;intro j hj;simp only [Xd,Array.getElem?_setIfInBounds];by_cases F:i=j
  .subst F;simp [O]
  .have V: ¬j=i:=λe=>F e.symm
   simp [F,V]
 rw [G];have X:i∈(Xs n).filter λj=> !L.getD j Z':=Xh.2 ⟨by simpa using hi,by simp only [h,XP]⟩
 generalize ((Xs n).filter λj=> !L.getD j Z')=l at X;have I: ∀l:List Nat,i∈l->(l.filter λj=>j !=i).length<l.length:=by
  intro l
  induction l with
  |nil=>intro h;cases h
  |cons x l ih=>
   intro h;rw [List.filter_cons];split
   .rename_i hx
    have U:i≠x:=by intro e;simp [e] at hx
    have:=ih (by obtain e|e:=p_ h;exact absurd e U;exact e);simp only [XZ];omega
   .have:=List.length_filter_le (λj=>j !=i) l
    simp only [XZ];omega
 exact I l X
def Po {p:Prop} (h:p:=by
 unfold wpOp;rw [F];simp only [Region.wanted,I,if_true];refine .inl ?_;unfold Oper.wp;rw [G];exact h):p:=h
def eX {o:Oper} {K:Act->WX->Prop} (F:ops[i]?=Y' o) (I:o.guard=Z_)
  (G:(execOp a.eval o).run P w= .ok (.value v) w') (h:K (a.put o.dst v) w'):wpOp P ops Q i K a w:=by
 exact Po
def tI {o:Oper} {K:Act->WX->Prop} (F:ops[i]?=Y' o) (I:o.guard=Z_)
  (G:(execOp a.eval o).run P w= .ok .skip w') (h:K (a.put o.dst undef) w'):wpOp P ops Q i K a w:=by
 exact Po
def forward (ops:Array Oper):Bool:=(Xs ops.size).all λi=>((ops[i]?).map (·.after.all λe=>decide (e.on<i))).getD Z'
def xG (hf:forward ops=Z') (hs:L.size=ops.size) (hr:Xj md ops L=[]): ∀i,i<ops.size->L.getD i Z'=Z':=by
 intro i
 induction i using Nat.strongRecOn with
 |_ i ih=>
  intro O;cases hL:L.getD i Z' with
  |true=>rfl
  |false=>
   exfalso;have F:ops[i]?=Y' ops[i]:=Array.getElem?_eq_getElem O;have G:=Yb.1 hf i (XB.2 O);rw [F] at G;simp only [XH,XF] at G;have U:i∈Xj md ops L:=by
    refine Xh.2 ⟨XB.2 O,?_⟩;rw [hL,F];simp only [XP,XH,XF,Bool.true_and];rw [Xu] at G |-;intro e V;have h2:=of_decide_eq_true (G e V);have X:=ih e.on h2 o_;have h4:L.getD e.on WW=Z':=by
     have I:e.on<L.size:=o_;simpa [Xd,Array.getElem?_eq_getElem I] using X
    rw [h4,Bool.or_true]
   rw [hr] at U;cases U
def xH (h:i∈Xj md ops L): ∃o,ops[i]?=Y' o/\L.getD i Z'=WW/\ ∀e∈o.after,Region.binds md e=Z'->L.getD e.on WW=Z':=by
 have:=Xh.1 h;simp only [XB,Yd,XX] at this;let ⟨O,V,G⟩:=this;have F:ops[i]?=Y' ops[i]:=Array.getElem?_eq_getElem O;rw [F] at G;simp only [XH,XF] at G;rw [Xu] at G;refine ⟨_,F,V,λe I U=>?_⟩;have:=G e I;rw [U] at this;simpa using this
def DK (I:Array Bool->Act->WX->Prop) (ae: ∀L a w,I L a w->L.size=ops.size)
  (G: ∀L a w,I L a w->Xj md ops L=[]->Q .normal a w)
  (O: ∀L a w i,I L a w->i∈Xj md ops L->wpOp P ops Q i (I (L.setIfInBounds i Z')) a w):
  ∀(F:Nat) (L:Array Bool) (a:Act) (w:WX),open_ ops.size L<=F->I L a w->wpAny P md ops Q F L a w:=by
 intro F;have V: ∀{L:Array Bool} {i:Nat},i∈Xj md ops L->i<ops.size/\L.getD i Z'=WW:=by
  intro L i U;have:=Xh.1 U;simp only [XB,Yd,XX] at this;exact ⟨this.1,this.2.1⟩
 induction F with
 |zero=>
  intro L a w hf X;have hr:Xj md ops L=[]:=by
   obtain h|⟨l,i,h⟩:=List.eq_nil_or_concat (Xj md ops L)
   .exact h
   .exfalso
    have U:i∈Xj md ops L:=by rw [h];simp
    let ⟨h1,h2⟩:=V U;have hm:i∈(Xs ops.size).filter λj=> !L.getD j Z':=Xh.2 ⟨by simpa using h1,by simp only [h2,XP]⟩
    have:=List.length_pos_of_mem hm;unfold open_ at hf;omega
  exact ⟨hr,G L a w X hr⟩
 |succ F ih=>
  intro L a w hf X;refine ⟨λhr=>G L a w X hr,λi U=>?_⟩;let ⟨h1,h2⟩:=V U;refine wpOp_mono (λa' w' ac=>ih _ _ _ ?_ ac) (O L a w i X U);have:=xF h1 (ae L a w X) h2;omega
end
end Map
end
section
namespace pP
def lT (s q:Int):Int:=if q=1/\s=1 then 2 else if q=2/\s=2 then 3 else if q=3/\s=3 then 4 else if q=4/\(s=1\/s=2\/s=4\/s=6) then 5 else 0
abbrev B:=Int×Int
def step (b:B) (q:Int) (eD:Bool) (r:Int):B:=
 if lT b.1 q=0 then b else if eD then (lT b.1 q,0) else if r<Sat.add b.2 1 then (6,Sat.add b.2 1) else (b.1,Sat.add b.2 1)
def err (s q:Int):Int:=if lT s q=0 then 7 else 0
def TU (s q:Int):0<=lT s q/\lT s q<=5:=by unfold lT;(repeat' split)<;>omega
def Ok (b:B):Prop:=0<=b.1/\b.1<=6/\0<=b.2/\b.2<=9223372036854775807
def Ld {b:B} (h:Ok b) (q:Int) (eD:Bool) (r:Int):Ok (step b q eD r):=by
 let ⟨G,I,O,U⟩:=h;have ht:=TU b.1 q;have F:=Sat.Fy b.2 1;unfold step;split
 .exact ⟨G,I,O,U⟩
 .split
  .exact ⟨by simp;omega,by simp;omega,by simp,by simp⟩
  .split
   .exact ⟨by simp,by simp,F.1,F.2⟩
   .exact ⟨G,I,F.1,F.2⟩
end pP
end
section
open _root_.Go.Proofs.Tryz Go.RowKit Go.Maps
namespace pP
def laidOut:laidOutB Xc=Z':=k_
def keyed:Keyed Xc 388:=Keyed.of_law (deep_law_laid laidOut (m:=2) o_ (of_decide_eq_true k_) k_ k_)
def key (s q:Int):WY:=A_ #[s,q]
def Jo (s q:Int) (hs:(Xo .i64 s).wf=Z') (U:(Xo .i64 q).wf=Z'): ∃l,keyOf Xc 388 (key s q)=Y' l:=by
 have V:prog.keyType 388=Z':=k_;have hc:prog.cellsOf 388=2:=k_;have F:prog.cellsOf 3=1:=k_;obtain ⟨m,O⟩: ∃m,prog.types.size=m+1:=⟨prog.types.size - 1,by have:0<prog.types.size:=of_decide_eq_true k_;omega⟩;have G: ∀(d:Nat) (n:Int),(Xo .i64 n).wf=Z'->prog.keyLits (d+1) 3 [.int .i64 n]=Y' [.int .i64 n]:=by
  intro d n hn;simp [Yh,underlying3,hn]
 have I:prog.keyLits (m+1+1) 388 [.int .i64 s,.int .i64 q]=Y' [.int .i64 s,.int .i64 q]:=by
  unfold Yh;rw [underlying388];simp [hc,F,Xs,List.range.loop,G m s hs,G m q U]
 refine ⟨.string (keyBytes [.int .i64 s,.int .i64 q]),?_⟩;unfold keyOf;rw [underlying388];simp only [V,Value.formed,underlying388,key,hc,Ye,O];simp [I]
def jC:List (Nat×Int×Int×Int):=[(2,1,1,2),(4,2,2,3),(6,3,3,4),(8,1,4,5),(10,2,4,5),(12,4,4,5),(14,6,4,5)]
def xS (k v:WY):Prop:= ∃s q:Int,k=key s q/\lT s q≠0/\v= .int .i64 (lT s q)
structure Inv (P:Program) (B:WX) (L:Array Bool) (a:Act) (w:WX):Prop where
 size:L.size=17
 defers:a.defers=[]
 tmps:a.tmps.size=10
 below:Bw B w
 build: ∀x∈jC,L.getD (x.1 - 1) WW=Z'->a.tmps[x.1/2+1]?=Y' (key x.2.1 x.2.2.1)
 made:L.getD 0 WW=Z'-> ∃g,a.tmps[1]?=Y' (.map (Y' g))/\B.heap.size<=g/\
  Map.At P 388 w g (λk v=> ∃x∈jC,L.getD x.1 WW=Z'/\k=key x.2.1 x.2.2.1/\v= .int .i64 x.2.2.2)
 dep:L.getD 0 Z'=WW-> ∀i,i%2=0\/i=15->L.getD i WW=Z'->False
 move:L.getD 15 WW=Z'->a.tmps[9]?=a.tmps[1]?
 o:L.getD 16 WW=Z'->a.tmps[0]?=a.tmps[1]?
def dB (F:i<L.size):(L.setIfInBounds i Z').getD j d=if i=j then Z' else L.getD j d:=by
 exact Pj
def eh (a:Act) (d j:Nat) (v:WY) (h:d<a.tmps.size):(a.put (Y' d) v).tmps[j]?=if d=j then Y' v else a.tmps[j]?:=by
 exact Pk
def kg (h:L.getD i WW=Z') (G:L.getD i Z'=WW):False:=by
 exact Pm
def kW (h:(Array.replicate n WW).getD i WW=Z'):False:=by
 simp only [Xd,Array.getElem?_replicate] at h;split at h<;>cases h
def fU: ∀x∈jC,2<=x.1/\x.1<=14/\x.1%2=0:=d_
def Sr: ∀x∈jC,(Xo .i64 x.2.1).wf=Z'/\(Xo .i64 x.2.2.1).wf=Z':=d_
def Ss: ∀x∈jC,lT x.2.1 x.2.2.1=x.2.2.2/\x.2.2.2≠0:=d_
def NG: ∀x∈jC,∀y∈jC,x.2.1=y.2.1->x.2.2.1=y.2.2.1->x.1=y.1:=d_
def Su (s q:Int) (h:lT s q≠0): ∃x∈jC,x.2.1=s/\x.2.2.1=q/\x.2.2.2=lT s q:=by
 unfold lT at*;split at h
 .rename_i h1;rw [if_pos h1];exact ⟨(2,1,1,2),d_,h1.2.symm,h1.1.symm,rfl⟩
 .rename_i h1
  split at h
  .rename_i h2;rw [if_neg h1,if_pos h2];exact ⟨(4,2,2,3),d_,h2.2.symm,h2.1.symm,rfl⟩
  .rename_i h2
   split at h
   .rename_i h3;rw [if_neg h1,if_neg h2,if_pos h3];exact ⟨(6,3,3,4),d_,h3.2.symm,h3.1.symm,rfl⟩
   .rename_i h3
    split at h
    .rename_i h4;rw [if_neg h1,if_neg h2,if_neg h3,if_pos h4]
     obtain ⟨rfl,rfl|rfl|rfl|rfl⟩:=h4
     .exact ⟨(8,1,4,5),d_,rfl,rfl,rfl⟩
     .exact ⟨(10,2,4,5),d_,rfl,rfl,rfl⟩
     .exact ⟨(12,4,4,5),d_,rfl,rfl,rfl⟩
     .exact ⟨(14,6,4,5),d_,rfl,rfl,rfl⟩
    .exact absurd rfl h
section
variable {P:Program} {B:WX} {L:Array Bool} {a:Act} {w:WX}
def BG {p:Prop} (k:q) (h:Wq q->p:=by
 intro kq;rw [eh _ _ _ _ O,eh _ _ _ _ O,if_neg o_,if_neg o_];exact kq.o):p:=h ⟨k⟩
def fy (h:Inv P B L a w) (x:Nat×Int×Int×Int) (X:x∈jC):Inv P B (L.setIfInBounds (x.1 - 1) Z') (a.put (Y' (x.1/2+1)) (key x.2.1 x.2.2.1)) w:=by
 let ⟨b1,b2,b3⟩:=fU x X;have hs:=h.size;have ht:=h.tmps;have I:x.1 - 1<L.size:=o_;have O:x.1/2+1<a.tmps.size:=o_;refine ⟨by simpa using hs,h.defers,by simpa [Yl] using ht,h.below,?_,?_,?_,?_,?_⟩
 .intro y G F
  let ⟨c1,c2,c3⟩:=fU y G;rw [eh _ _ _ _ O];by_cases e:x.1=y.1
  .rw [if_pos o_]
   have:x=y:=by
    have key: ∀x∈jC,∀y∈jC,x.1=y.1->x=y:=d_;exact key x X y G e
   rw [this]
  .rw [if_neg o_]
   rw [dB I,if_neg o_] at F;exact h.build y G F
 .intro F
  rw [dB I,if_neg o_] at F;let ⟨g,h1,h2,h3⟩:=h.made F;refine ⟨g,by rw [eh _ _ _ _ O,if_neg o_];exact h1,h2,h3.iff λk v=>?_⟩;refine ⟨λ⟨y,G,hLy,e⟩=>⟨y,G,?_,e⟩,λ⟨y,G,hLy,e⟩=>⟨y,G,?_,e⟩⟩
  .let ⟨c1,c2,c3⟩:=fU y G
   rw [dB I,if_neg o_];exact hLy
  .let ⟨c1,c2,c3⟩:=fU y G
   rw [dB I,if_neg o_] at hLy;exact hLy
 .intro F i V U
  rw [dB I,if_neg o_] at F;rw [dB I,if_neg o_] at U;exact h.dep F i V U
 .intro F
  rw [dB I,if_neg o_] at F;refine BG ?_;exact h.move F
 .intro F
  rw [dB I,if_neg o_] at F;refine BG ?_;exact h.o F
end
def eW {B:WX} {Q:Exit->Act->WX->Prop} {o:Oper} (h:Inv Xc B L a w) (x:Nat×Int×Int×Int) (U:x∈jC)
  (ho:ops[x.1]?=Y' o) (hg:o.guard=Z_) (ah:o.op= .insert 386 (.tmp 1) (.tmp (x.1/2+1)) (.const (.int .i64 x.2.2.2))) (X:o.dst=Z_)
  (h0:L.getD 0 WW=Z') (h1:L.getD (x.1 - 1) WW=Z'):wpOp Xc ops Q x.1 (Inv Xc B (L.setIfInBounds x.1 Z')) a w:=by
 let ⟨b1,b2,b3⟩:=fU x U;have hs:=h.size;have I:x.1<L.size:=o_;let ⟨g,V,ac,ai⟩:=h.made h0;have hk:=h.build x U h1;let ⟨ak,ae⟩:=Sr x U;let ⟨l,hl⟩:=Jo x.2.1 x.2.2.1 ak ae;let ⟨w',hr,aa,al⟩:=ai.store keyed underlying386 hl (.int .i64 x.2.2.2);have ag:a.eval (.tmp 1)= .map (Y' g):=by simp [Yk,V,Xd]
 have am:a.eval (.tmp (x.1/2+1))=key x.2.1 x.2.2.1:=by simp [Yk,hk,Xd]
 refine Map.tI ho hg (w':=w') ?_ ?_
 .unfold execOp
  simp only [ah,ag,am]
  show Yj _ (Xi _ _ _ _>>=λ_=>pure Next.skip) _=_
  rw [Sem.run_bind]
  show ((Xi 386 (.map (Y' g)) (key x.2.1 x.2.2.1) (.int .i64 x.2.2.2)).run Xc w).andThen _=_
  rw [hr];rfl
 .rw [X]
  show Inv _ _ _ a w'
  refine ⟨by simpa using hs,h.defers,h.tmps,h.below.grown al h.below.size (λk hk=>by injection hk with hk;omega),?_,?_,?_,?_,?_⟩
  .intro y G F
   let ⟨c1,c2,c3⟩:=fU y G;rw [dB I,if_neg o_] at F;exact h.build y G F
  .intro _
   refine ⟨g,V,ac,aa.iff λk v=>?_⟩;constructor
   .rintro (⟨rfl,rfl⟩|⟨hne,y,G,O,rfl,rfl⟩)
    .exact ⟨x,U,by rw [dB I,if_pos rfl],rfl,rfl⟩
    .exact ⟨y,G,by rw [dB I];split;rfl;exact O,rfl,rfl⟩
   .rintro ⟨y,G,O,rfl,rfl⟩
    by_cases e:x.1=y.1
    .have key: ∀x∈jC,∀y∈jC,x.1=y.1->x=y:=d_
     have:=key x U y G e;subst this;exact .inl ⟨rfl,rfl⟩
    .rw [dB I,if_neg e] at O
     refine .inr ⟨λhe=>?_,y,G,O,rfl,rfl⟩;simp [key] at he;exact e (NG y G x U he.1 he.2).symm
  .intro F
   rw [dB I,if_neg o_] at F;exact (kg h0 F).elim
  .intro F
   rw [dB I,if_neg o_] at F;exact h.move F
  .intro F
   rw [dB I,if_neg o_] at F;exact h.o F
def rN {B:WX} {Q:Exit->Act->WX->Prop} {o:Oper} (h:Inv Xc B L a w)
  (ho:ops[0]?=Y' o) (hg:o.guard=Z_) (U:o={o with op:= .makeMap 386 Z_,dst:=Y' 1}) (hL:L.getD 0 Z'=WW):wpOp Xc ops Q 0 (Inv Xc B (L.setIfInBounds 0 Z')) a w:=by
 have hs:=h.size;have ht:=h.tmps;have I:0<L.size:=o_;have hd:1<a.tmps.size:=o_;have G:o.op= .makeMap 386 Z_:=by rw [U]
 have O:o.dst=Y' 1:=by rw [U]
 have hz:=h.below.size;refine Map.eX ho hg (v:= .map (Y' w.heap.size)) (w':=w.alloc (.map #[] 0)) ?_ ?_
 .unfold execOp
  simp only [G];rfl
 .rw [O]
  refine ⟨by simpa using hs,h.defers,by simpa [Yl] using ht,h.below.alloc hz _,?_,?_,?_,?_,?_⟩
  .intro y X F
   let ⟨c1,c2,c3⟩:=fU y X;rw [dB I,if_neg o_] at F;rw [eh _ _ _ _ hd,if_neg o_];exact h.build y X F
  .intro _
   refine ⟨X_ (Y_ w),by rw [eh _ _ _ _ hd,if_pos rfl],hz,(Map.At.made w).iff λk v=>⟨λhf=>hf.elim,?_⟩⟩;rintro ⟨y,X,F,_⟩;let ⟨c1,c2,c3⟩:=fU y X;rw [dB I,if_neg o_] at F;exact h.dep hL _ (.inl c3) F
  .intro V
   rw [dB I,if_pos rfl] at V;cases V
  .intro F
   rw [dB I,if_neg o_] at F;exact (h.dep hL _ (.inr rfl) F).elim
  .intro F
   rw [dB I,if_neg o_] at F;exact (h.dep hL _ (.inl rfl) F).elim
def Pu {p:Prop} (h:p:=by
 refine ⟨λ⟨y,G,F,e⟩=>⟨y,G,?_,e⟩,λ⟨y,G,F,e⟩=>⟨y,G,?_,e⟩⟩
 .obtain ⟨c1,c2,c3⟩:=fU y G
  rw [dB I,if_neg o_];exact F
 .obtain ⟨c1,c2,c3⟩:=fU y G
  rw [dB I,if_neg o_] at F;exact F):p:=h
def Pv {p:Prop} (h:p:=by
 intro y G F;obtain ⟨c1,c2,c3⟩:=fU y G;rw [dB I,if_neg o_] at F;rw [eh _ _ _ _ O,if_neg o_];exact h.build y G F):p:=h
def Jp {B:WX} {Q:Exit->Act->WX->Prop} {o:Oper} (h:Inv Xc B L a w)
  (ho:ops[15]?=Y' o) (hg:o.guard=Z_) (V:o={o with op:= .move (.tmp 1),dst:=Y' 9}) (h0:L.getD 0 WW=Z'):wpOp Xc ops Q 15 (Inv Xc B (L.setIfInBounds 15 Z')) a w:=by
 have hs:=h.size;have ht:=h.tmps;have I:15<L.size:=o_;have O:9<a.tmps.size:=o_;have U:o.op= .move (.tmp 1):=by rw [V]
 have aa:o.dst=Y' 9:=by rw [V]
 let ⟨g,h9,h2,h3⟩:=h.made h0;refine Map.eX ho hg (v:= .map (Y' g)) (w':=w) ?_ ?_
 .unfold execOp
  simp only [U];simp [Yk,h9,Xd]
 .rw [aa]
  refine ⟨by simpa using hs,h.defers,by simpa [Yl] using ht,h.below,?_,?_,?_,?_,?_⟩
  .exact Pv
  .intro _
   refine ⟨g,by rw [eh _ _ _ _ O,if_neg o_];exact h9,h2,h3.iff λk v=>?_⟩;exact Pu
  .intro X
   rw [dB I,if_neg o_] at X;exact (kg h0 X).elim
  .intro _
   rw [eh _ _ _ _ O,eh _ _ _ _ O,if_pos rfl,if_neg o_,h9]
  .intro X
   rw [dB I,if_neg o_] at X;refine BG ?_;exact h.o X
def NH {B:WX} {Q:Exit->Act->WX->Prop} {o:Oper} (h:Inv Xc B L a w)
  (ho:ops[16]?=Y' o) (hg:o.guard=Z_) (V:o={o with op:= .assign (.tmp 9),dst:=Y' 0}) (h0:L.getD 0 WW=Z') (ac:L.getD 15 WW=Z'):wpOp Xc ops Q 16 (Inv Xc B (L.setIfInBounds 16 Z')) a w:=by
 have hs:=h.size;have ht:=h.tmps;have I:16<L.size:=o_;have O:0<a.tmps.size:=o_;have U:o.op= .assign (.tmp 9):=by rw [V]
 have aa:o.dst=Y' 0:=by rw [V]
 let ⟨g,h1,h2,h3⟩:=h.made h0;have h9:a.tmps[9]?=Y' (.map (Y' g)):=(h.move ac).trans h1;refine Map.eX ho hg (v:= .map (Y' g)) (w':=w) ?_ ?_
 .unfold execOp
  simp only [U];simp [Yk,h9,Xd]
 .rw [aa]
  refine ⟨by simpa using hs,h.defers,by simpa [Yl] using ht,h.below,?_,?_,?_,?_,?_⟩
  .exact Pv
  .intro _
   refine ⟨g,by rw [eh _ _ _ _ O,if_neg o_];exact h1,h2,h3.iff λk v=>?_⟩;exact Pu
  .intro X
   rw [dB I,if_neg o_] at X;exact (kg h0 X).elim
  .intro X
   rw [dB I,if_neg o_] at X;refine BG ?_;exact h.move X
  .intro _
   rw [eh _ _ _ _ O,eh _ _ _ _ O,if_pos rfl,if_neg o_,h1]
def ko (w:WX):WZ Xc 282 #[] w λe w'=> ∃g,e=R_ (.map (Y' g))/\X_ (Y_ w)<=g/\Bw w w'/\Map.At Xc 388 w' g xS:=by
 go_enter func282,ntmps282;go_wp2;refine wp_region_any k_ ?_;refine Map.DK (Inv Xc w) (λL a w' h=>h.size.trans rfl) ?_ ?_ _ _ _ _ l_ ?_
 .intro L a w' h hr
  have hd:=Map.xG k_ (h.size.trans rfl) hr;have hs:=h.size;have I: ∀i,i<17->L.getD i WW=Z':=by
   intro i hi;have h1:=hd i hi;have ab:i<L.size:=o_;simpa [Xd,Array.getElem?_eq_getElem ab] using h1
  let ⟨g,h1,h2,h3⟩:=h.made (I 0 o_);have G:=(h.o (I 16 o_)).trans h1;have U:=h.defers;have af:Map.At Xc 388 w' g xS:=h3.iff λk v=>by
   constructor
   .rintro ⟨x,X,_,rfl,rfl⟩
    let ⟨V,e2⟩:=Ss x X;exact ⟨_,_,rfl,by rw [V];exact e2,by rw [V]⟩
   .rintro ⟨s,q,rfl,ah,rfl⟩
    let ⟨x,X,V,e2,e3⟩:=Su s q ah;let ⟨b1,b2,_⟩:=fU x X;exact ⟨x,X,I _ o_,by rw [V,e2],by rw [e3]⟩
  have ae:=h.below;obtain ⟨ts,ds⟩:=a;simp only at G U;subst U
  rename_i Q' K hK
  refine hK _ _ ?_;go_wp2;go_ret;refine ⟨g,?_,h2,ae,af⟩;have e:ts.getD 0 undef= .map (Y' g):=by simp [Xd,G]
  rw [e]
 .intro L a w' i h hi
  let ⟨o,G,hL,F⟩:=Map.xH hi;have O:i<17:=(Array.getElem?_eq_some_iff.1 G).1;have hc:i=0\/i=1\/i=2\/i=3\/i=4\/i=5\/i=6\/i=7\/i=8\/i=9\/i=10\/i=11\/i=12\/i=13\/i=14\/i=15\/i=16:=o_;clear hi O;obtain rfl|rfl|rfl|rfl|rfl|rfl|rfl|rfl|rfl|rfl|rfl|rfl|rfl|rfl|rfl|rfl|rfl:=hc
  .obtain rfl:=q_ G
   exact rN h rfl rfl rfl hL
  .obtain rfl:=q_ G
   exact Map.eX rfl rfl (v:=key 1 1) (w':=w') k_ (fy h (2,1,1,2) d_)
  .obtain rfl:=q_ G
   exact eW h (2,1,1,2) d_ rfl rfl rfl rfl (F ⟨0,.data⟩ y_ rfl) (F ⟨1,.data⟩ y_ rfl)
  .obtain rfl:=q_ G
   exact Map.eX rfl rfl (v:=key 2 2) (w':=w') k_ (fy h (4,2,2,3) d_)
  .obtain rfl:=q_ G
   exact eW h (4,2,2,3) d_ rfl rfl rfl rfl (F ⟨0,.data⟩ y_ rfl) (F ⟨3,.data⟩ y_ rfl)
  .obtain rfl:=q_ G
   exact Map.eX rfl rfl (v:=key 3 3) (w':=w') k_ (fy h (6,3,3,4) d_)
  .obtain rfl:=q_ G
   exact eW h (6,3,3,4) d_ rfl rfl rfl rfl (F ⟨0,.data⟩ y_ rfl) (F ⟨5,.data⟩ y_ rfl)
  .obtain rfl:=q_ G
   exact Map.eX rfl rfl (v:=key 1 4) (w':=w') k_ (fy h (8,1,4,5) d_)
  .obtain rfl:=q_ G
   exact eW h (8,1,4,5) d_ rfl rfl rfl rfl (F ⟨0,.data⟩ y_ rfl) (F ⟨7,.data⟩ y_ rfl)
  .obtain rfl:=q_ G
   exact Map.eX rfl rfl (v:=key 2 4) (w':=w') k_ (fy h (10,2,4,5) d_)
  .obtain rfl:=q_ G
   exact eW h (10,2,4,5) d_ rfl rfl rfl rfl (F ⟨0,.data⟩ y_ rfl) (F ⟨9,.data⟩ y_ rfl)
  .obtain rfl:=q_ G
   exact Map.eX rfl rfl (v:=key 4 4) (w':=w') k_ (fy h (12,4,4,5) d_)
  .obtain rfl:=q_ G
   exact eW h (12,4,4,5) d_ rfl rfl rfl rfl (F ⟨0,.data⟩ y_ rfl) (F ⟨11,.data⟩ y_ rfl)
  .obtain rfl:=q_ G
   exact Map.eX rfl rfl (v:=key 6 4) (w':=w') k_ (fy h (14,6,4,5) d_)
  .obtain rfl:=q_ G
   exact eW h (14,6,4,5) d_ rfl rfl rfl rfl (F ⟨0,.data⟩ y_ rfl) (F ⟨13,.data⟩ y_ rfl)
  .obtain rfl:=q_ G
   exact Jp h rfl rfl rfl (F ⟨0,.data⟩ y_ rfl)
  .obtain rfl:=q_ G
   exact NH h rfl rfl rfl (F ⟨0,.phase⟩ y_ rfl) (F ⟨15,.data⟩ y_ rfl)
 .exact ⟨rfl,rfl,rfl,Below.drew b_,λx _ h=>(kW h).elim,λh=>(kW h).elim,λ_ i _ h=>kW h,λh=>(kW h).elim,λh=>(kW h).elim⟩
def look (h:Map.At Xc 388 w g xS) (s q:Int) (hs:(Xo .i64 s).wf=Z') (V:(Xo .i64 q).wf=Z'):
  (Xn 386 (.map (Y' g)) (A_ #[s,q]) Z').run Xc w= .ok (U_ #[.int .i64 (lT s q),B_ (lT s q !=0)]) w:=by
 let ⟨l,U⟩:=Jo s q hs V;obtain ⟨v,X,G⟩|⟨hn,G⟩:=h.look keyed underlying386 (z:= .int .i64 0) (λw=>k_) U Z'
 .obtain ⟨s',q',O,I,rfl⟩:=X
  simp [key] at O;obtain ⟨rfl,rfl⟩:=O;have:(lT s q !=0)=Z':=by simp [I]
  rw [this];exact G
 .have F:lT s q=0:=by
   by_cases F:lT s q=0
   .exact F
   .exact absurd ⟨s,q,rfl,F,rfl⟩ (hn (.int .i64 (lT s q)))
  rw [F];exact G
def TT (s t q:Int) (w:WX) (hs:(Xo .i64 s).wf=Z') (hq:(Xo .i64 q).wf=Z'):
  WZ Xc 226 #[A_ #[.int .i64 s,.int .i64 t],.int .i64 q] w λe w'=>e=R_ (B_ (lT s q !=0))/\Bw w w':=by
 go_enter func226,ntmps226;go_wp2
 go_region_held3 (λw'=>w'.cell? ⟨X_ (Y_ w),0,Z_⟩=Y' (.int .i64 s)) (first|assumption|(simp [go_sem];done))
  ((go_at_call 282;refine (ko _).mono ?_;rintro e w1 ⟨g,rfl,hg,hb1,hat⟩;have hs1:w1.cell? ⟨X_ (Y_ w),0,Z_⟩=Y' (.int .i64 s):=(hb1.cell (p:=⟨X_ (Y_ w),0,Z_⟩) y_).trans (by simp [go_sem]);have hlk:=look hat s q hs hq))
 go_wp2;go_ret;exact ⟨rfl,((dL).drew).trans (hb1.mono y_)⟩
def sN (w:WX):WZ Xc 184 #[] w λe w'=>e=R_ (A_ #[.int .i64 1,.int .i64 0])/\Bw w w':=by
 go_enter func184,ntmps184;go_wp2;refine bodyPost_ret (v:=A_ #[.int .i64 1,.int .i64 0]) (by simp [results,results184,go_sem]) rfl ⟨rfl,?_⟩;exact dL
def Vo (h:Map.At Xc 388 w g xS) {s q:Int} (hs:(Xo .i64 s).wf=Z') (G:(Xo .i64 q).wf=Z') (F:Xb (lT s q=0)):
  (Xn 386 (.map (Y' g)) (A_ #[s,q]) Z').run Xc w= .ok (U_ #[I_ J_ 0,B_ WW]) w:=by
 rw [look h s q hs G,F.o];rfl
def Jn (h:Map.At Xc 388 w g xS) {s q:Int} (hs:(Xo .i64 s).wf=Z') (G:(Xo .i64 q).wf=Z') (F:Xb (lT s q≠0)):
  (Xn 386 (.map (Y' g)) (A_ #[s,q]) Z').run Xc w= .ok (U_ #[I_ J_ (lT s q),B_ Z']) w:=by
 rw [look h s q hs G,show (lT s q !=0)=Z' from by simp [F.o]]
def LN (s t q r:Int) (eD:Bool) (W:WX) (e:Ending) (w':WX):Prop:=
 e=R_ (U_ #[A_ #[I_ J_ (step (s,t) q eD r).1,I_ J_ (step (s,t) q eD r).2],I_ J_ (err s q)])/\Bw W w'
def VC {p:Prop} (k:q) (h:Wq q->p:=by
 intro kq;have hbl:Bw w w1:=((dL).alloc y_ _).drew.trans (hb1.mono z_);obtain ⟨hc,hf⟩:=Mem.Tv hb1;have hz:w.heap.size+1<w1.heap.size:=by have:=hb1.size;simp at this;omega
 have hs2:w1.cell? ⟨w.heap.size,1,none⟩=some (I_ J_ t):=(hc _ _ z_).trans (by simp [go_sem]);have hr1:w1.cell? ⟨w.heap.size+1,0,none⟩=some (I_ J_ 0):=(hc _ _ y_).trans (by simp [go_sem]);have hr2:w1.cell? ⟨w.heap.size+1,1,none⟩=some (I_ J_ 0):=(hc _ _ y_).trans (by simp [go_sem]);have hf1: ∀o,w1.frozen? ⟨w.heap.size,o,none⟩=false:=λo=>(hf _ _ z_).trans (by simp [go_sem])
 have hf2: ∀o,w1.frozen? ⟨w.heap.size+1,o,none⟩=false:=λo=>(hf _ _ y_).trans (by simp [go_sem])
 clear hc hf
 revert hbl hz hs2 hr1 hr2 hf1 hf2
 exact kq.o):p:=h ⟨k⟩
def NC {p:Prop} (k:q) (h:Wq q->p:=by
 intro kq;have hs1:w1.cell? ⟨w.heap.size,0,none⟩=some (I_ J_ s):=(hb1.cell (p:=⟨w.heap.size,0,none⟩) z_).trans (by simp [go_sem])
 revert hs1
 exact kq.o):p:=h ⟨k⟩
def yd (s t q r:Int) (eD:Bool) (w:WX) (hs:(Xo .i64 s).wf=Z') (hq:(Xo .i64 q).wf=Z') (ht:t<=9223372036854775807):
  WZ Xc 227 #[A_ #[I_ J_ s,I_ J_ t],I_ J_ q,B_ eD,I_ J_ r] w (LN s t q r eD w):=by
 by_cases h0:lT s q=0
 .have e1:Xb (step (s,t) q eD r=(s,t)):=by show step _ _ _ _=_;unfold step;rw [if_pos h0]
  have h0':=Hd h0;have fin: ∀w',Bw w w'->LN s t q r eD w (R_ (U_ #[A_ #[I_ J_ s,I_ J_ t],I_ J_ 7])) w':=
   λw' hb=>⟨by unfold err;rw [e1.o,if_pos h0'.o],hb⟩
  clear h0;go_enter func227,ntmps227;go_wp2
  go_region_held3 (λw'=>w'.cell? ⟨X_ (Y_ w),0,Z_⟩=Y' (I_ J_ s)) (first|assumption|(simp [go_sem];done))
   ((go_at_call 282;refine (ko _).mono ?_;rintro e w1 ⟨g,rfl,hg,hb1,hat⟩;refine NC ?_;intro hs1;have hlk:=Vo hat hs hq h0'))
  refine VC ?_;intro hbl hz hs2 hr1 hr2 hf1 hf2;clear hat hlk hb1 hg;go_wp2;refine bodyPost_ret (v:=U_ #[A_ #[I_ J_ s,I_ J_ t],I_ J_ 7]) (by simp [results,results227,go_sem,hr1,hr2]) rfl (fin _ ?_);exact (hbl.setCell y_ _).setCell y_ _
 .have h0':=Hd h0
  have htb:=Sat.Fy t 1;have fin: ∀(x y:Int),step (s,t) q eD r=(x,y)-> ∀w',Bw w w'->LN s t q r eD w (R_ (U_ #[A_ #[I_ J_ x,I_ J_ y],I_ J_ 0])) w':=
   λx y e w' hb=>⟨by unfold err;rw [e,if_neg h0'.o],hb⟩
  have Fin:=Hd fin;clear fin;have e0:Xb (step (s,t) q eD r=if eD then (lT s q,0) else if r<Sat.add t 1 then (6,Sat.add t 1) else (s,Sat.add t 1)):=by
   show step _ _ _ _=_;unfold step;rw [if_neg h0]
  clear h0;cases eD with
  |true=>
   go_enter func227,ntmps227;go_wp2
   go_region_held3 (λw'=>w'.cell? ⟨X_ (Y_ w),0,Z_⟩=Y' (I_ J_ s)) (first|assumption|(simp [go_sem];done))
    ((go_at_call 282;refine (ko _).mono ?_;rintro e w1 ⟨g,rfl,hg,hb1,hat⟩;refine NC ?_;intro hs1;have hlk:=Jn hat hs hq h0'))
   refine VC ?_;intro hbl hz hs2 hr1 hr2 hf1 hf2;clear hat hlk hb1 hg;go_wp2;refine bodyPost_ret (v:=U_ #[A_ #[I_ J_ (lT s q),I_ J_ 0],I_ J_ 0]) (by simp [results,results227,go_sem,hr1,hr2]) rfl (Fin _ _ (by rw [e0.o];rfl) _ ?_);exact (hbl.setCell y_ _).setCell y_ _
  |false=>
   by_cases hr:r<Sat.add t 1
   .have e1:Xb (step (s,t) q WW r=(6,Sat.add t 1)):=by show step _ _ _ _=_;rw [e0.o,if_neg y_,if_pos hr]
    go_enter func227,ntmps227;go_wp2
    go_region_held3 (λw'=>w'.cell? ⟨X_ (Y_ w),0,Z_⟩=Y' (I_ J_ s)) (first|assumption|(simp [go_sem];done))
     ((go_at_call 282;refine (ko _).mono ?_;rintro e w1 ⟨g,rfl,hg,hb1,hat⟩;refine NC ?_;intro hs1;have hlk:=Jn hat hs hq h0'))
    refine VC ?_;intro hbl hz hs2 hr1 hr2 hf1 hf2;clear hat hlk hb1 hg;go_wp2_with (go_at_call 122;refine (Sat.pH _ _ _ ht d_).mono ?_;rintro e w' ⟨rfl,rfl⟩)
    refine bodyPost_ret (v:=U_ #[A_ #[I_ J_ 6,I_ J_ (Sat.add t 1)],I_ J_ 0]) (by simp [results,results227,go_sem,hr1,hr2]) rfl (Fin _ _ e1 _ ?_);exact ((((hbl.setCell y_ _).setCell y_ _).setCell y_ _).setCell y_ _)
   .have e1:Xb (step (s,t) q WW r=(s,Sat.add t 1)):=by show step _ _ _ _=_;rw [e0.o,if_neg y_,if_neg hr]
    go_enter func227,ntmps227;go_wp2
    go_region_held3 (λw'=>w'.cell? ⟨X_ (Y_ w),0,Z_⟩=Y' (I_ J_ s)) (first|assumption|(simp [go_sem];done))
     ((go_at_call 282;refine (ko _).mono ?_;rintro e w1 ⟨g,rfl,hg,hb1,hat⟩;refine NC ?_;intro hs1;have hlk:=Jn hat hs hq h0'))
    refine VC ?_;intro hbl hz hs2 hr1 hr2 hf1 hf2;clear hat hlk hb1 hg;go_wp2_with (go_at_call 122;refine (Sat.pH _ _ _ ht d_).mono ?_;rintro e w' ⟨rfl,rfl⟩)
    refine bodyPost_ret (v:=U_ #[A_ #[I_ J_ s,I_ J_ (Sat.add t 1)],I_ J_ 0]) (by simp [results,results227,go_sem,hr1,hr2]) rfl (Fin _ _ e1 _ ?_);exact (((hbl.setCell y_ _).setCell y_ _).setCell y_ _)
end pP
end
end Go.Proofs.YtkidababfdehlaaGreatDoor
