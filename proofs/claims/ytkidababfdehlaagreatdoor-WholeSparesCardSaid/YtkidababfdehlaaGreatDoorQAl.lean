/- Parts of the walk. -/
import Derived.Test.YtkidababfdehlaaGreatDoorQAb
import Derived.Test.YtkidababfdehlaaGreatDoorQAk
import Derived.Test.YtkidababfdehlaaGreatDoorQAj
import Derived.RangeFuncNested
import Derived.RangeFuncBound
set_option linter.all false
set_option maxRecDepth 100000
set_option maxHeartbeats 64000000
namespace Go.Proofs.YtkidababfdehlaaGreatDoor
open Value renaming int -> I_,bool -> B_,string -> T_,slice -> S_,pointer -> P_,tuple -> U_,agg -> A_
open IntKind renaming i64 -> J_
open Ending renaming returned -> R_
open _root_.Array renaming size -> X_
open Go.World renaming heap -> Y_
open Option renaming some -> Y',none -> Z_,map_eq_some_iff -> XK
open Bool renaming true -> Z',false -> WW,and_eq_true -> Yc
open Go renaming World -> WX,Value -> WY,Calls -> WZ,Addr -> Xa
open Go.RowKit renaming Hid -> Xb,Below -> Xc
open _root_.Go.Proofs.Tryz renaming prog -> Xd
open Mem.c_ renaming cell -> Xe,new -> XL
open And renaming intro -> Xf
open Mem renaming c_ -> Xg
open Ro renaming dr -> Xh,dt -> Xk,Row -> Ya
open List renaming length_append -> Xi,take_append_drop -> Xj,length_cons -> Xo,flatMap_append -> Xp,pairwise_singleton -> Xr,getElem_map -> Xt,nil_append -> Xx,mem_append -> Xy,append_toArray -> Xz,replicate -> XB,size_toArray -> XD,push_toArray -> XE,foldl_append -> XF,cons_append -> XI,length_nil -> XN,foldl_cons -> XO,mem_singleton -> XU,zip_nil_left -> XY,map_toArray -> Yb,mem_filter -> Ye
open Go.Builtin renaming zeroCells -> Xl,append_ -> Xq,nextslicecap -> XR
open Ro.dt renaming dW -> Xm,setCell -> Xn,refl -> Xs
open Go.RowKit.Below renaming refl -> Xu
open _root_.Array renaming replicate_zero -> Xv,replicate_succ -> Xw
open Go.Instr renaming lookup -> XA
open Nat renaming le_refl -> XC,reduceSub -> XG,reduceAdd -> XS
open Go.Value renaming int -> XH
open Int renaming eq_ofNat_of_zero_le -> XJ
open BitVec renaming ofInt -> XM,toNat_setWidth -> XP,toNat_ofInt -> XV
open Go.Result renaming andThen -> XQ,andThen_ok -> XX
open dm renaming val -> XT,start -> XW,on -> Yj
open Go.World renaming size_alloc -> XZ,cell? -> Yd
open Ro.Row renaming nil -> Yf
open Go.IntWalk renaming i64_in -> Yg
open qH renaming flat -> Yh
open Go.Oper renaming wp -> Yi
variable {a:Act} {ops:Array Oper} {cs:Array WY} {fJ name:ByteArray} {kind:Int} {rest:List Oper} {xs:List WY} {ps:List qH} {Bx N' b c cO g i j k kc kn n nO n₀:Nat} {v:Obj} {m s x:Operand} {A AO KA:Option Xa} {P:Program} {F U e t:TypeId} {G K M V v' v2:WY} {w w' w2:WX}
section
open _root_.Go.Proofs.Tryz Go.RowKit Go.Maps
namespace Dk
open Bs
open fC (dE)
def Qb (bs:List dE): ∀u∈bs.map bv,u.oneCell'=Z':=by intro u hu;obtain ⟨b,_,rfl⟩:=List.mem_map.1 hu;rfl
def iR {C:Nat->Prop} {bs:List dE} (h:gk w C A n c bs) (hn:n<=1000000):
  WZ Xd 27 #[S_ A n c] w λe w'=> ∃A' c',e=R_ (S_ A' n c')/\lh w' A' n c' bs/\Bw w w'/\ ∀b,Xh A'=Y' b->X_ (Y_ w)<=b:=by
 cases A with
 |none=>
  obtain ⟨rfl,rfl⟩:=h.nil rfl;have F:bs=[]:=List.eq_nil_of_length_eq_zero h.len;subst F;have O: ∀w,(binOp .eql 65 (S_ Z_ 0 0) (S_ Z_ 0 0)).run Xd w= .ok (B_ Z') w:=λw=>k_
  go_enter func27,ntmps27;exact Oa
 |some ad=>
  have I:Ya (w.alloc (.cells #[] 5)) 5 1 (Y' ⟨X_ (Y_ w),0,Z_⟩) 0 0 []:=Ro.Row.new (cs:= #[]) rfl d_;let ⟨A',c',w',hr,V,X,F⟩:=Ro.app (P:=Xd) (ty:=65) (c2:=c) NZ I (h.sl.alloc l_ _) (Qb bs) e_ o_;simp only [Nat.zero_add,Xx] at hr V;have U:Xb (lh w' A' n c' bs/\Bw w w'/\ ∀b,Xh A'=Y' b->X_ (Y_ w)<=b):=by
   refine ⟨V,((Xs (λ_=>False) w).alloc _|>.trans X (T:=λb=>Xh (Y' ⟨X_ (Y_ w),0,Z_⟩)=Y' b) (λk hk e=>?_)).below l_ (λ_ _ c=>c),λb G=>?_⟩
   .exact vZ
   .obtain F|F:=F
    .exact we
    .rw [F] at G
     have:(w.alloc (.cells #[] 5)).heap.size=b:=by simpa using G
     simp at this;omega
  clear h I V X F;have O: ∀w,(binOp .eql 65 (S_ (Y' ad) n c) (S_ Z_ 0 0)).run Xd w= .ok (B_ WW) w:=λw=>k_
  go_enter func27,ntmps27;refine pN ?_;go_ret;exact ⟨_,_,rfl,U⟩
structure oI where
 kind:Int
 name:ByteArray
 fJ:ByteArray
 bytes:List dE
def key (s:ByteArray):Key:=s.data.toList
def gX (l:fH) (o:oI):fH:=
 if o.kind=1 then yq l (key o.name) o.bytes
 else if o.kind=3 then oJ l (key o.name)
 else if o.kind=2 then (match jt l (key o.name) with|some b=>yq (oJ l (key o.name)) (key o.fJ) b|none=>l)
 else l
def Kp {α:Type} (k:Key) (x:α) (l:List (Key×α)):(ins k x l).length=l.length+1:=by
 induction l with
 |nil=>rfl
 |cons y r ih=>
  unfold ins;split
  .rfl
  .simp [ih]
def qd {α:Type} (l:List (Key×α)) (k:Key):(oJ l k).length<=l.length:=List.length_filter_le _ _
def zK {α:Type} (l:List (Key×α)) (k:Key) (x:α):(yq l k x).length<=l.length+1:=by
 unfold yq;rw [Kp];have:=qd l k;omega
def vY (l:fH) (o:oI):(gX l o).length<=l.length+1:=by
 unfold gX;split
 .exact zK _ _ _
 split
 .have:=qd l (key o.name);omega
 split
 .split
  .rename_i b _
   have:=zK (oJ l (key o.name)) (key o.fJ) b;have h2:=qd l (key o.name);by_cases c:(oJ l (key o.name)).length<l.length
   .omega
   .omega
  .omega
 .omega
def Wv (w:WX) (C:Nat->Prop) (w':WX):Nat->Prop:=λk=>C k\/(X_ (Y_ w)<=k/\k<X_ (Y_ w'))
end Dk
end
section
open _root_.Go.Proofs.Tryz Go.RowKit Go.Maps
namespace Dk
open Bs
open fC (dE)
section
variable {P:Program} {w w':WX} {ops:Array Oper} {rest:List Oper} {o:Oper} {a:Act} {Q:Exit->Act->WX->Prop}
def zg (O:o.guard=Z_) {v:Operand} (I:o.op=Op.mapUpdate t m x v) (X:a.eval m=M) (U:a.eval x=K) (hv:a.eval v=V) (F:(Instr.mapUpdate t M K V).run P w= .ok () w')
  (h:wpList P ops Q rest (a.put o.dst undef) w'):wpList P ops Q (o::rest) a w:=by
 refine wpList_plain O λK' G=>?_
 unfold Yi;simp [execOp,I,X,U,hv,F,XQ];exact G _ _ h
def ke (O:o.guard=Z_) (I:o.op=Op.lookup t m x Z') (X:a.eval m=M) (U:a.eval x=K) (F:(XA t M K Z').run P w= .ok V w)
  (h:wpList P ops Q rest (a.put o.dst V) w):wpList P ops Q (o::rest) a w:=by
 refine wpList_plain O λK' G=>?_
 unfold Yi;simp [execOp,I,X,U,F,XQ];exact G _ _ h
def rL (O:o.guard=Z_) {k:TypeId} (I:o.op=Op.call {callee:=Callee.builtin Builtin.delete,args:= #[m,x],argTypes:= #[t,k]}) (X:a.eval m=M) (U:a.eval x=K) (F:(Builtin.delete_ #[t,k] o.type #[M,K]).run P w= .ok V w')
  (h:wpList P ops Q rest (a.put o.dst V) w'):wpList P ops Q (o::rest) a w:=by
 refine wpList_plain O λK' G=>?_
 unfold Yi;simp [execOp,I,resolve,invoke,builtin,X,U,F,XQ];exact G _ _ h
end
def xD {p:Prop} (h:p:=by
 exact bodyPost_end (results_none rfl _ _ _) rfl ⟨rfl,HF,HO⟩):p:=h
def qc {C:Nat->Prop} {l:fH} {bs:List dE} (h:Mp w C b l) (hb: ¬C b) (ho:gk w C A n c bs) (h1:name.size<=maxLen) (h2:fJ.size<=maxLen) (hl:l.length<=10000) (hn:n<=100000):
  WZ Xd 71 #[.map (Y' b),A_ #[kind,name,fJ,S_ A n c]] w λe w'=>e=R_ (U_ #[])/\Mp w' (Wv w C w') b (gX l ⟨kind,name,fJ,bs⟩)/\Xk (λk=>k=b) w w':=by
 have G:Bw w (w.alloc (.cells #[kind,name,fJ,S_ A n c] 158)):=dL;have aK:=h.lt;have N0:=Hd (XL (w:=w) (t:=158) (cs:= #[kind,name,fJ,S_ A n c]));have U:=Hd (h.below G);have HH:=Hd (ho.below G);have HA:=Hd G;have hz:(w.alloc (.cells #[kind,name,fJ,S_ A n c] 158)).heap.size=X_ (Y_ w)+1:=by simp
 have HZ:=Hd hz;have HE:Xb (∀(u:WX) (l':fH),Mp u (λk=>C k\/X_ (Y_ w)<=k) b l'->Xk (λk=>k=b) w u->Mp u (Wv w C u) b l'):=λu l' hm hu=>
  hm.mono λk hk c=>c.imp id λc=>⟨c,hk⟩
 have O:Xb (¬(λk=>C k\/X_ (Y_ w)<=k) b):=(by
  rintro (e|e)
  .exact hb e
  .omega)
 by_cases k1:kind=1
 .subst k1
  have e1:gX l ⟨1,name,fJ,bs⟩=yq l (key name) bs:=by unfold gX;rw [if_pos rfl]
  rw [e1];clear h ho G e1 hz;go_enter func71,ntmps71;go_wp2;generalize w.alloc (.cells #[I_ J_ 1,name,fJ,S_ A n c] 158)=X at*;refine XW (S:=λw'=>Xk (λk=>k=b) X w') k_ ?_;refine dm.py (n:=2) k_ (λ_ _ d _ _ h=>by cases d<;>exact h) (Xs _ _).drew [0,1,2,3,4] _ _ k_ ?_
  iterate 5 (refine dm.dG rfl (λK' af=>?_);go_simp;(first|refine af _ ?_;clear af K'|constructor;refine ⟨λwx ah=>?_,af _ ?_⟩;(first|rfl|(let ⟨i0,i1,i2,i3⟩:=Xf (Xe (((ah.block _ N0.lt o_).trans N0:Xg wx w.heap.size 158 _)) 0) (Xf (Xe (((ah.block _ N0.lt o_).trans N0:Xg wx w.heap.size 158 _)) 1) (Xf (Xe (((ah.block _ N0.lt o_).trans N0:Xg wx w.heap.size 158 _)) 2) (Xe (((ah.block _ N0.lt o_).trans N0:Xg wx w.heap.size 158 _)) 3)));go_simp<;>rfl));clear af K'))
  refine dm.ee ?_;refine Yj 5 1 ?_;refine dm.cl ?_;refine (iR (HH.below b_.drew) o_).mono ?_;rintro e w1 ⟨A',c',rfl,hR,al,hf⟩;have am:Xk (λk=>k=b) X w1:=Xm (b_.drew.trans al);have hz1:X_ (Y_ X)<=X_ (Y_ w1):=am.size;refine ⟨_,rfl,am,?_⟩;let ⟨w2,aA,V,ac⟩:=((U.below b_.drew).below al|>.mono (C':=λk=>C k\/X_ (Y_ w)<=k) (λk _ c=> .inl c)).put O h1 (gk.yo hR (λk hk=> .inr (by have h1:=hf k hk;have h2:X_ (Y_ X)<=k:=h1;have:=HZ.o;omega))) o_;have av:=am.trans ac (λ_ _ e=>e);have HO:=Hd ((Xm (S:=λk=>k=b) HA).trans av (λ_ _ e=>e));have HF:=Hd (HE w2 _ V HO);clear hR al hf V ac U HH N0 HA HE O;refine Yj 6 0 ?_;refine dm.skip rfl rfl (w':=w2) f_ av ?_;refine dm.fi ?_;go_wp2_with fail;exact xD
 .have e1:(kind==1)=WW:=beq_eq_false_iff_ne.2 k1
  by_cases k3:kind=3
  .subst k3
   have e2:gX l ⟨3,name,fJ,bs⟩=oJ l (key name):=by unfold gX;rw [if_neg (show¬(3:Int)=1 by decide),if_pos rfl]
   rw [e2];let ⟨w1,hr,ab,F⟩:=U.del hb h1 0;have HF:=Hd (HE w1 _ (ab.mono λk _ c=> .inl c) ((Xm HA).trans F (λ_ _ e=>e)));have HO:=Hd ((Xm (S:=λk=>k=b) HA).trans F (λ_ _ e=>e));clear h ho G e1 e2 hz ab F U HH N0 HA HZ HE O;go_enter func71,ntmps71;go_wp2_with (first|(at_delete;refine rL rfl rfl rfl rfl hr ?_))
   exact xD
  .have e3:(kind==3)=WW:=beq_eq_false_iff_ne.2 k3
   by_cases k2:kind=2
   .subst k2
    let ⟨A1,n1,c1,hr,I⟩:=U.look h1;cases hg:jt l (key name) with
    |none=>
     have e4:gX l ⟨2,name,fJ,bs⟩=l:=by unfold gX;rw [if_neg (show¬(2:Int)=1 by decide),if_neg (show¬(2:Int)=3 by decide),if_pos rfl];dsimp only;rw [hg]
     rw [e4];have hr:(XA 125 (.map (Y' b)) (T_ name) Z').run Xd (w.alloc (.cells #[I_ J_ 2,name,fJ,S_ A n c] 158))= .ok (U_ #[S_ A1 n1 c1,B_ WW]) (w.alloc (.cells #[I_ J_ 2,name,fJ,S_ A n c] 158)):=by rw [hr];show _=_;rw [show jt l name.data.toList=Z_ from hg];rfl
     have HF:=Hd (HE _ _ (U.mono λk _ c=> .inl c) (Xm HA));have HO:=Hd (Xm (S:=λk=>k=b) HA);clear h ho G e1 e3 e4 hz U HH N0 HA HZ HE O I hg;go_enter func71,ntmps71;refine Vd ?_;exact xD
    |some bs1=>
     have e4:gX l ⟨2,name,fJ,bs⟩=yq (oJ l (key name)) (key fJ) bs1:=by unfold gX;rw [if_neg (show¬(2:Int)=1 by decide),if_neg (show¬(2:Int)=3 by decide),if_pos rfl];dsimp only;rw [hg]
     rw [e4];have hr:(XA 125 (.map (Y' b)) (T_ name) Z').run Xd (w.alloc (.cells #[I_ J_ 2,name,fJ,S_ A n c] 158))= .ok (U_ #[S_ A1 n1 c1,B_ Z']) (w.alloc (.cells #[I_ J_ 2,name,fJ,S_ A n c] 158)):=by rw [hr];show _=_;rw [show jt l name.data.toList=Y' bs1 from hg];rfl
     have I:gk (w.alloc (.cells #[I_ J_ 2,name,fJ,S_ A n c] 158)) C A1 n1 c1 bs1:=by rw [show jt l name.data.toList=Y' bs1 from hg] at I;exact I
     let ⟨w1,aF,ab,F⟩:=U.del hb h1 0;have aw:=I.dy F.size (λk hk hc=>F.block k hk (λe=>hb (by rw [<-e];exact hc)));let ⟨w2,aA,V,ac⟩:=ab.put hb h2 aw (by have:=qd l (key name);show (oJ l name.data.toList).length<=100000;unfold key at this;omega);have N1:=(F.block w.heap.size N0.lt o_).trans N0;let ⟨x0,x1,x2,x3⟩:=Xf (Xe (w:=w1) N1 0) (Xf (Xe (w:=w1) N1 1) (Xf (Xe (w:=w1) N1 2) (Xe (w:=w1) N1 3)));have HO:=Hd (((Xm (S:=λk=>k=b) HA).trans F (λ_ _ e=>e)).trans ac (λ_ _ e=>e));have HF:=Hd (HE w2 _ (V.mono λk _ c=> .inl c) HO);clear h ho G e1 e3 e4 hz U HH N0 HA HZ HE O I hg ab F aw V ac N1;go_enter func71,ntmps71;go_wp2_with (first|(at_lookup;refine ke rfl rfl rfl rfl hr ?_)|(at_delete;refine rL rfl rfl rfl rfl aF ?_)|(at_mapUpdate;refine zg rfl rfl rfl rfl rfl aA ?_))
     exact xD
   .have e2:(kind==2)=WW:=beq_eq_false_iff_ne.2 k2
    have e4:gX l ⟨kind,name,fJ,bs⟩=l:=by unfold gX;rw [if_neg k1,if_neg k3,if_neg k2]
    rw [e4];have HF:=Hd (HE _ _ (U.mono λk _ c=> .inl c) (Xm HA));have HO:=Hd (Xm (S:=λk=>k=b) HA);clear h ho G e4 hz U HH N0 HA HZ HE O k1 k2 k3;go_enter func71,ntmps71;go_wp2_with fail;exact xD
end Dk
end
section
open _root_.Go.Proofs.Tryz Go.RowKit Go.Maps
namespace Dk
open Bs
open fC (dE)
structure Ds where
 fs:fH
 op:List oI
def yp (p:qH):oI:=⟨p.kind,p.name,p.fJ,p.bytes⟩
def look (s:Ds):fH:=s.op.foldl gX s.fs
structure Good (s:Ds):Prop where
 no:s.op.length<=1000
 nf:s.fs.length<=1000
 ok: ∀o∈s.op,o.name.size<=maxLen/\o.fJ.size<=maxLen/\o.bytes.length<=100000
 fb: ∀p∈s.fs,p.2.length<=100000
 fk: ∀p∈s.fs,p.1.length<=maxLen
structure jG (w:WX) (g:Nat) (s:Ds) (M C:Nat->Prop) (b:Nat) (AO:Option Xa) (nO cO:Nat) (ps:List qH):Prop where
 dr:Xg w g 128 #[.map (Y' b),S_ AO nO cO]
 mp:Mp w C b s.fs
 row:Ya w 158 4 AO nO cO (Yh ps)
 ops:ps.map yp=s.op
 hold: ∀p∈ps,gk w C p.uj p.uk p.uo p.bytes
 mg:M g/\M b/\ ∀k,Xh AO=Y' k->M k
 cm: ∀k,C k-> ¬M k
def At (w:WX) (g:Nat) (s:Ds) (M C:Nat->Prop):Prop:= ∃b AO nO cO ps,jG w g s M C b AO nO cO ps
section
variable {w w':WX} {g b nO cO:Nat} {s:Ds} {M C M' C':Nat->Prop} {AO:Option Xa} {ps:List qH}
def jG.len (h:jG w g s M C b AO nO cO ps):ps.length=nO/\s.op.length=nO:=by
 have F:=h.row.len;rw [qH.dO] at F;have G:=congrArg List.length h.ops;rw [List.length_map] at G;omega
def jG.dy (h:jG w g s M C b AO nO cO ps) (hz:X_ (Y_ w)<=X_ (Y_ w')) (hk: ∀k,k<X_ (Y_ w)->M k\/C k->w'.heap[k]?=w.heap[k]?):jG w' g s M C b AO nO cO ps:=
 ⟨(hk g h.dr.lt (.inl h.mg.1)).trans h.dr,h.mp.dy hz (λk hk1 hc=>hk k hk1 (.inr hc)) (hk b h.mp.lt (.inl h.mg.2.1)),h.row.dy λk hb=>hk k (h.row.lt hb) (.inl (h.mg.2.2 k hb)),h.ops,λp hp=>(h.hold p hp).dy hz (λk hk1 hc=>hk k hk1 (.inr hc)),h.mg,h.cm⟩
def At.dy (h:At w g s M C) (F:X_ (Y_ w)<=X_ (Y_ w')) (G: ∀k,k<X_ (Y_ w)->M k\/C k->w'.heap[k]?=w.heap[k]?):At w' g s M C:=by
 let ⟨b,AO,nO,cO,ps,h⟩:=h;exact ⟨b,AO,nO,cO,ps,h.dy F G⟩
def At.below (h:At w g s M C) (hb:Bw w w'):At w' g s M C:=h.dy hb.size λk hk _=>hb.block k hk
def At.mono (h:At w g s M C) (F: ∀k,k<X_ (Y_ w)->M k->M' k) (I: ∀k,k<X_ (Y_ w)->C k->C' k) (G: ∀k,C' k-> ¬M' k):At w g s M' C':=by
 let ⟨b,AO,nO,cO,ps,h⟩:=h;exact ⟨b,AO,nO,cO,ps,h.dr,h.mp.mono I,h.row,h.ops,λp U=>(h.hold p U).mono I,⟨F g h.dr.lt h.mg.1,F b h.mp.lt h.mg.2.1,λk O=>F k (h.row.lt O) (h.mg.2.2 k O)⟩,G⟩
end
def EU (l:fH) (os:List oI):(os.foldl gX l).length<=l.length+os.length:=by
 induction os generalizing l with
 |nil=>simp
 |cons o os ih=>
  rw [XO,Xo];have:=ih (gX l o);have h2:=vY l o;omega
def SH (w:WX) (C:Nat->Prop) (w':WX) (b:Nat):Nat->Prop:=λk=>(C k\/(X_ (Y_ w)<=k/\k<X_ (Y_ w')))/\k≠b
def EV (I:Ya w 158 4 AO nO cO (Yh ps)) (O:k<nO): ∃(ad:Xa) (G:k<ps.length),AO=Y' ad/\(ad.add (k*4)).block<X_ (Y_ w)/\qH.At w (ad.add (k*4)) ps[k]:=by
 let ⟨ad,G,e,_,U,F⟩:=qH.at_ I.sl O;exact ⟨ad,G,e,U,F⟩
def EW {s:Ds} {M C:Nat->Prop} (h:At w g s M C) (hs:Good s):
  WZ Xd 143 #[P_ (Y' ⟨g,0,Z_⟩)] w λe w'=>e=R_ (.map (Y' w.heap.size))/\Mp w' (SH w C w' w.heap.size) w.heap.size (look s)/\Bw w w':=by
 let ⟨b,AO,nO,cO,ps,h⟩:=h;let ⟨hl1,hl2⟩:=h.len;have hno:=hs.no;have hnf:=hs.nf;let ⟨es,af,ag,ae⟩:=h.mp;have HC:=Hd (Tryz.iR 9 Vx b es.length (qa es) w ae);have m0:=h.dr.cell 0;have m1:=h.dr.cell 1;have HB:=Hd h.dr;have HR:=Hd h.row;have aC:=Hd h.ops;have HH:=Hd h.hold;have HK:=Hd hs.ok;have HE:=Hd ag;have HF:=Hd af;clear h hs af ag ae;go_enter func143,ntmps143;go_wp2_with fail;refine HC.o.mono ?_;rintro e w1 ⟨rfl,I,-,G⟩;have aa:=I.lt;have HM:Xb (Mp w1 (SH w C w1 w.heap.size) w.heap.size s.fs):=Hd ⟨es,HF.o,λe he=>(((HE.o e he).mono (C':=λk=>C k/\k<X_ (Y_ w)) (λk hk hc=>⟨hc,hk⟩)).below G).mono (λk _ hc=>⟨.inl hc.1,by have:=hc.2;omega⟩),I⟩;have aw:=Hd G;have an:=Hd aa;let ⟨n1,n2⟩:=Xf (Xe (HB.o.a_ G) 0) (Xe (HB.o.a_ G) 1);clear HC I G m0 m1 HE HF aa;go_wp2_with fail;clear n1 n2;obtain ⟨B,hB⟩: ∃B,X_ (Y_ w)=B:=⟨_,rfl⟩;rw [hB];rw [hB] at HM an;have V:=Hd hB;clear hB;go_loopw [16] (λvi wr=> ∃k:Nat,k<=nO/\vi=I_ J_ k/\Xb (Bw w wr)/\B<X_ (Y_ wr)/\Xb (Mp wr (SH w C wr B) B ((s.op.take k).foldl gX s.fs))) (λi _=>nO - (intOf i).toNat)
 .exact ⟨0,o_,rfl,aw,an.o,HM⟩
 .clear HM aw an
  obtain ⟨k,hk,rfl,HL,hBl,HM⟩:=hrel;by_cases aa:k<nO
  .obtain ⟨ad,hl,rfl,ak,ao⟩:=EV HR.o aa
   have am:k<s.op.length:=o_;have F:=HK.o s.op[k] (g_ am);have ap:s.op[k]=yp ps[k]:=by
    have:=aC.o;simp only [<-this,Xt]
   have O:=HH.o ps[k] (g_ hl);have aF:Xb ((s.op.take (k+1)).foldl gX s.fs=gX ((s.op.take k).foldl gX s.fs) (yp ps[k])):=Hd (by
    rw [Mem.dQ _ _ am,XF,ap];rfl)
   have av:Xb (((s.op.take k).foldl gX s.fs).length<=2000):=Hd (by
    have:=EU s.fs (s.op.take k);simp at this;omega)
   rw [ap] at F;generalize (s.op.take k).foldl gX s.fs=L at*;generalize ps[k]=p at*;obtain ⟨kd,nm,nt,bs,bA,bn,bc⟩:=p;have ao:=ao.below HL.o ak;obtain ⟨c0,c1,c2,c3⟩:=ao
   dsimp only at c0 c1 c2 c3 O
   have ab:nm.size<=maxLen:=F.1;have ai:nt.size<=maxLen:=F.2.1;have ac:bs.length<=100000:=F.2.2;have aD:bn<=100000:=by rw [<-O.len];exact ac
   have HX:=Hd (λ(X:WX) (hX:Bw wr X)=>qc (kind:=kd) (name:=nm) (fJ:=nt) (bs:=bs) (HM.o.below hX) (λc=>c.2 rfl) (((((O.mono (C':=λk=>C k/\k<X_ (Y_ w)) (λk hk hc=>⟨hc,hk⟩)).below HL.o).below hX).mono (C':=SH w C wr B) (λk _ hc=>⟨.inl hc.1,by have:=V.o;have:=hc.2;omega⟩))) ab ai (by have:=av.o;omega) aD);clear F ap O am ak hl ab ai ac;have U:Xb (Bw wr (wr.alloc (.cells #[kd,nm,nt,S_ bA bn bc] 158))):=Hd (dL);go_wp2_with fail;refine (HX.o _ U.o).mono ?_;rintro e w2 ⟨rfl,hm,ho⟩;have hza:=U.o.size;have hzo:=ho.size;have aG:=Hd (HL.o.trans (Ro.dt.below ((Xm (S:=λk=>k=B) U.o).trans ho (λ_ _ e=>e)) HL.o.size (λk hk e=>by have:=V.o;omega)));have az:Xb (Mp w2 (SH w C w2 B) B (gX L (yp ⟨kd,nm,nt,bs,bA,bn,bc⟩))):=Hd (hm.mono λk hk c=>by
    obtain ⟨c1|c1,c2⟩|c:=c
    .exact ⟨.inl c1,c2⟩
    .exact ⟨.inr ⟨c1.1,hk⟩,c2⟩
    .have:=V.o
     exact ⟨.inr ⟨o_,hk⟩,o_⟩)
   have aA:B<X_ (Y_ w2):=o_;clear hm ho HX U c0 c1 c2 c3;go_wp2;go_roundw
   .exact ⟨k+1,o_,by go_num,aG,aA,by rw [aF.o];exact az⟩
   .simp [intOf];omega
  .obtain rfl:nO=k:=o_
   have he:s.op.take nO=s.op:=t_ o_;rw [he] at HM;go_wp2;go_ret;have hB:=V.o;subst hB;exact ⟨rfl,HM.o,HL.o⟩
end Dk
end
section
open _root_.Go.Proofs.Tryz Go.RowKit Go.Maps
namespace Dk
open Bs
open fC (dE)
def TI {α:Type} (l:List (Key×α)):Prop:=l.Pairwise λp q=>bytesBefore p.1 q.1=Z'
def gW {B:Nat} {v:WY} (h:w.ownsRow B e 1 v n xs): ∃A c,v=S_ A n c/\Ya w e 1 A n c xs/\ ∀k,Xh A=Y' k->B<=k:=by
 obtain ⟨I,⟨rfl,rfl⟩|⟨g,cap,F,rfl,hb,O,hn,V,hc,U⟩⟩:=h
 .exact ⟨Z_,0,rfl,⟨I,XC _,by unfold maxLen;omega,.inl ⟨rfl,rfl⟩⟩,λk G=>by cases G⟩
 .refine ⟨_,_,rfl,⟨I,hn,V,.inr ⟨g,0,F,rfl,O,o_,by rw [List.drop_zero];exact U⟩⟩,λk G=>?_⟩
  have:g=k:=by simpa [Xh] using G
  omega
def RQ {l:fH} {o:oI} {N:Nat} (h: ∀p∈l,p.2.length<=N) (V:o.bytes.length<=N): ∀p∈gX l o,p.2.length<=N:=by
 have G: ∀k,∀p∈oJ l k,p.2.length<=N:=λk p F=>h p (Ye.1 F).1
 have I: ∀(l:fH) k x,(∀p∈l,p.2.length<=N)->x.length<=N-> ∀p∈ins k x l,p.2.length<=N:=by
  intro l k x O U
  induction l with
  |nil=>intro p F;simp [ins] at F;subst F;exact U
  |cons y r ih=>
   intro p F;unfold ins at F;split at F
   .obtain rfl|F:=p_ F
    .exact U
    .exact O p F
   .obtain rfl|F:=p_ F
    .exact O _ y_
    .exact ih (λp F=>O p (by simp [F])) p F
 unfold gX;split
 .exact I _ _ _ (G _) V
 split
 .exact G _
 split
 .split
  .rename_i b hb
   refine I _ _ _ (λp F=>G _ p (Ye.1 F).1) ?_;unfold jt at hb;obtain ⟨p,F,rfl⟩:=XK.1 hb;exact h p (List.mem_of_find?_eq_some F)
  .exact h
 .exact h
def MN {N:Nat} (os:List oI): ∀{l:fH},(∀p∈l,p.2.length<=N)->(∀o∈os,o.bytes.length<=N)-> ∀p∈os.foldl gX l,p.2.length<=N:=by
 induction os with
 |nil=>exact λh _=>h
 |cons o os ih=>exact λh F=>ih (RQ h (F o y_)) (λo' G=>F o' (by simp [G]))
def Good.look {s:Ds} (h:Good s): ∀p∈look s,p.2.length<=100000:=MN s.op h.fb (λo ho=>(h.ok o ho).2.2)
def RT {l:fH} {N:Nat} (h: ∀p∈l,p.2.length<=N) {k:Key} {b:List dE} (F:jt l k=Y' b):b.length<=N:=by
 unfold jt at F;obtain ⟨p,G,rfl⟩:=XK.1 F;exact h p (List.mem_of_find?_eq_some G)
def iQ (w:WX) (o:Option (List dE)) (e:Ending) (w':WX):Prop:=Bw w w'/\match o with
 |none=>e=R_ (U_ #[S_ Z_ 0 0,I_ J_ 4])
 |some bs=> ∃A c,e=R_ (U_ #[S_ A bs.length c,I_ J_ 0])/\lh w' A bs.length c bs/\ ∀k,Xh A=Y' k->X_ (Y_ w)<=k
def rz {s:Ds} {M C:Nat->Prop} (h:At w g s M C) (hs:Good s) (hn:name.size<=maxLen):
  WZ Xd 83 #[P_ (Y' ⟨g,0,Z_⟩),T_ name] w (iQ w (jt (look s) (key name))):=by
 have X:=Hd (EW h hs);have HG:=Hd hs.look;clear h hs;go_enter func83,ntmps83;go_wp2_with fail;refine X.mono ?_;rintro e w1 ⟨rfl,hm,O⟩;let ⟨A,n,c,G,I⟩:=hm.look hn;have F:=Hd O;unfold key;cases hg:jt (look s) name.data.toList with
 |none=>
  rw [hg] at G;have G:(XA 125 (.map (Y' w.heap.size)) (T_ name) Z').run Xd w1= .ok (U_ #[S_ A n c,B_ WW]) w1:=G;have U:Xb (jt (look s) (key name)=Z_):=hg;clear hm O I hg X HG;go_wp2_with (first|(at_lookup;refine ke rfl rfl rfl rfl G ?_))
  exact bodyPost_ret (v:=U_ #[S_ Z_ 0 0,I_ J_ 4]) (by simp [results,results83,go_sem]) rfl (by show iQ _ _ _ _;rw [U.o];exact ⟨F,rfl⟩)
 |some bs=>
  rw [hg] at G I;have G:(XA 125 (.map (Y' w.heap.size)) (T_ name) Z').run Xd w1= .ok (U_ #[S_ A n c,B_ Z']) w1:=G;have I:gk w1 (SH w C w1 w.heap.size) A n c bs:=I;have hbs:bs.length<=100000:=RT HG hg;have hl:=I.len;have aa:Xb (jt (look s) (key name)=Y' bs):=hg;have HC:=Hd (iR I o_);clear hm O I hg X HG;go_wp2_with (first|(at_lookup;refine ke rfl rfl rfl rfl G ?_))
  refine HC.mono ?_;rintro e w2 ⟨A',c',rfl,hR,V,hf⟩;subst hl;have U:Xb (jt (look s) (key name)=Y' bs):=aa;have HF:Xb (iQ w (Y' bs) (R_ (U_ #[S_ A' bs.length c',I_ J_ 0])) w2):=⟨F.trans (V.mono F.size),A',c',rfl,hR,λk hk=>by have:=hf k hk;have:=F.o.size;omega⟩;clear hR V hf HC F;go_wp2;exact bodyPost_ret (v:=U_ #[S_ A' bs.length c',I_ J_ 0]) (by simp [results,results83,go_sem]) rfl (by show iQ _ _ _ _;rw [U.o];exact HF)
end Dk
end
section
open _root_.Go.Proofs.Tryz Go.RowKit Go.Maps
namespace Dk
open Bs
open fC (dE)
def en (M C:Nat->Prop) (w w':WX) (g:Nat) (s:Ds):Prop:=
 ∃M' C',At w' g s M' C'/\(∀k,M' k->M k\/X_ (Y_ w)<=k)/\(∀k,C' k->C k\/X_ (Y_ w)<=k)/\Xk M w w'
def Mp.none (w:WX) (C:Nat->Prop):Mp (w.alloc (.map #[] 0)) C w.heap.size []:=
 ⟨[],rfl,λe he=>(by cases he),World.ownsMap_made w _ _ _⟩
def sN (w:WX):WZ Xd 28 #[] w λe w'=>e=R_ (P_ (Y' ⟨X_ (Y_ w)+1,0,Z_⟩))/\At w' (X_ (Y_ w)+1) ⟨[],[]⟩ (λk=>X_ (Y_ w)<=k) (λ_=>False)/\Bw w w':=by
 have hmm:= @run_makeMap Xd;have F:Xg ((w.alloc (.map #[] 0)).alloc (.cells #[.map (Y' w.heap.size),S_ Z_ 0 0] 128)) (X_ (Y_ w)+1) 128 #[.map (Y' w.heap.size),S_ Z_ 0 0]:=by
  have:=XL (w:=w.alloc (.map #[] 0)) (t:=128) (cs:= #[.map (Y' w.heap.size),S_ Z_ 0 0]);simpa using this
 have G:Mp ((w.alloc (.map #[] 0)).alloc (.cells #[.map (Y' w.heap.size),S_ Z_ 0 0] 128)) (λ_=>False) w.heap.size []:=(Mp.none w _).below (dL);have HA:Xb (At ((w.alloc (.map #[] 0)).alloc (.cells #[.map (Y' w.heap.size),S_ Z_ 0 0] 128)) (X_ (Y_ w)+1) ⟨[],[]⟩ (λk=>X_ (Y_ w)<=k) (λ_=>False)):=⟨X_ (Y_ w),Z_,0,0,[],F,G,Yf,rfl,λp I=>(by cases I),⟨o_,XC _,λk O=>(by cases O)⟩,λk c=>c.elim⟩;clear F G;go_enter func28,ntmps28;go_wp2;go_ret;exact ⟨rfl,HA,(dL).alloc y_ _⟩
def Sb {s:Ds} {M C:Nat->Prop} (h:At w g s M C) (hs:Good s):
  WZ Xd 133 #[P_ (Y' ⟨g,0,Z_⟩)] w λe w'=>e=R_ (U_ #[])/\en M C w w' g ⟨look s,[]⟩:=by
 have HL:=Hd (EW h hs);let ⟨b,AO,nO,cO,ps,h⟩:=h;have HB:=Hd h.dr;have HM:=Hd h.mg;have HC:=Hd h.cm;clear h hs;go_enter func133,ntmps133;go_wp2_with fail;refine HL.mono ?_;rintro e w1 ⟨rfl,hm,I⟩;have V:=hm.lt;have F:=HB.a_ I;have X:=HB.lt;have G:=HM.1;have m0:=F.cell 0;have m1:=F.cell 1;have mf:=F.frozen;have O:Xk (λk=>k=g) w1 ((w1.setCell ⟨g,0,Z_⟩ (.map (Y' w.heap.size))).setCell ⟨g,1,Z_⟩ (S_ Z_ 0 0)):=
  (Xn w1 ⟨g,0,Z_⟩ _).trans (Xn _ ⟨g,1,Z_⟩ _) (λ_ _ e=>e)
 have H3:Xb (en M C w ((w1.setCell ⟨g,0,Z_⟩ (.map (Y' w.heap.size))).setCell ⟨g,1,Z_⟩ (S_ Z_ 0 0)) g ⟨look s,[]⟩):=Hd
  ⟨λk=>(M k/\k<X_ (Y_ w))\/k=X_ (Y_ w),λk=>(C k/\k<X_ (Y_ w))\/X_ (Y_ w)<k,⟨X_ (Y_ w),Z_,0,0,[],(F.eC 0 _).eC 1 _,
   (hm.mono (C':=λk=>(C k/\k<X_ (Y_ w))\/X_ (Y_ w)<k) (λk _ c=>by
    obtain ⟨c|c,d⟩:=c
    .by_cases U:k<X_ (Y_ w)
     .exact .inl ⟨c,U⟩
     .exact .inr o_
    .exact .inr o_)).dy O.size (λk U c=>O.block k U (λe=>by
     obtain c|c:=c
     .exact HC k c.1 (by rw [e];exact G)
     .omega)) (O.block _ V o_),Yf,rfl,λp hp=>(by cases hp),⟨.inl ⟨G,X⟩,.inr rfl,λk U=>(by cases U)⟩,λk c d=>by
    obtain c|c:=c<;>obtain d|d:=d
    .exact HC k c.1 d.1
    .omega
    .omega
    .omega⟩,λk c=>c.imp (·.1) (λe=>o_),λk c=>c.imp (·.1) (λe=>o_),(Xm I).trans O (λk _ e=>by rw [e];exact G)⟩
 clear hm I V F O HL HB HM HC;exact sJ
end Dk
end
section
open _root_.Go.Proofs.Tryz Go.RowKit Go.Maps
namespace Dk
open Bs
open fC (dE)
def right (o:oI):Bool:=decide (1<=o.kind/\o.kind<=3/\1<=o.name.size/\o.name.size<=32/\(o.kind=2->1<=o.fJ.size/\o.fJ.size<=32))
def ms73 {p:Prop} (h:p:=by
 go_enter func191,ntmps191;go_wp2_with fail;go_ret;exact ⟨by first|rfl|(simp;omega),rfl⟩):p:=h
def mv (s:ByteArray) (w:WX) (hs:s.size<=maxLen):WZ Xd 191 #[s] w λe w'=>e=R_ (B_ (decide (1<=s.size/\s.size<=32)))/\w'=w:=by
 unfold maxLen at hs;by_cases F:1<=s.size
 .by_cases G:s.size<=32
  .rw [show decide (1<=s.size/\s.size<=32)=Z' from by simp [F,G]]
   exact ms73
  .rw [show decide (1<=s.size/\s.size<=32)=WW from by simp;omega]
   exact ms73
 .rw [show decide (1<=s.size/\s.size<=32)=WW from by simp;omega]
  exact ms73
def jr {o:Oper} (U:o.op= .call {callee:= .builtin .append,args:= #[s,x],argTypes:= #[t,F]}) (V:a.eval s=G) (O:a.eval x=v2) (I:(Xq #[t,F] o.type #[G,v2]).run P w= .ok v' w'):
  (execOp a.eval o).run P w= .ok (.value v') w':=by
 unfold execOp;simp only [U,resolve,invoke,builtin,Sem.run_bind,Sem.run_pure,XX,Yb,List.map_cons,List.map_nil,V,O,I]
section
variable {w Y Z w2 w3:WX} {g b nO cO n c' c2:Nat} {s:Ds} {M C:Nat->Prop} {AO A' A2:Option Xa} {ps:List qH}
def IP {v:Array WY} (h:jG Z g s M C b AO nO cO ps) (hv:v.size=4) (O: ∀u∈v.toList,u.oneCell'=Z') (hn:nO<=100000):
  ∃A2 c2 w2,(Xq #[126,126] 126 #[S_ AO nO cO,S_ (Y' ⟨X_ (Y_ Z),0,Z_⟩) 1 1]).run Xd (Z.alloc (.cells v 158))= .ok (S_ A2 (nO+1) c2) w2/\
   Ya w2 158 4 A2 (nO+1) c2 (Yh ps++v.toList)/\Xk (λk=>Xh AO=Y' k) (Z.alloc (.cells v 158)) w2/\(Xh A2=Xh AO\/Xh A2=Y' (X_ (Y_ Z)+1)):=by
 let ⟨A2,c2,w2,U,I,G,F⟩:=Ro.app (P:=Xd) (ty:=126) (c2:=1) WC (h.row.dy λk V=>Below.heap_alloc Z (.cells v 158) k (h.row.lt V)) (Mem.gV (w:=Z) (n:=1) (cs:=v) (e:=158) (size:=4) rfl o_ rfl) O e_ o_;exact ⟨A2,c2,w2,U,I,G,F.imp id λe=>by simpa using e⟩
def jG.pj (_h:jG Y g s M C b AO nO cO ps) (hZ:Bw Y Z) (hO:Xk (λk=>Xh AO=Y' k) (Z.alloc v) w2):Xk (λk=>Xh AO=Y' k) Y w2:=
 (Xm (hZ.alloc hZ.size v)).trans hO (λ_ _ e=>e)
def jG.xE (h:jG Y g s M C b AO nO cO ps) (hZ:Bw Y Z) (hO:Xk (λk=>Xh AO=Y' k) (Z.alloc v) w2):Xg w2 g 128 #[.map (Y' b),S_ AO nO cO]:=
 ((h.pj hZ hO).block g h.dr.lt (λe=>h.row.dZ h.dr d_ g e rfl)).trans h.dr
def Bv {bs:List dE} (h:jG w g s M C b AO nO cO ps) (hY:Bw w Y) (ah:gk Y (λk=>(C k/\k<X_ (Y_ w))\/X_ (Y_ w)<k) A' n c' bs) (hz:X_ (Y_ w)<X_ (Y_ Y))
  (ag:Xk (λk=>Xh AO=Y' k) Y w2) (ab:Xh A2=Xh AO\/Xh A2=Y' (X_ (Y_ Y)+1)) (an:Ya w2 158 4 A2 (nO+1) c2 (Yh ps++ #[I_ J_ kind,T_ name,T_ fJ,S_ A' n c'].toList))
  (ae:Xk (λk=>k=g) w2 w3) (ai:Xg w3 g 128 #[.map (Y' b),S_ A2 (nO+1) c2]):en M C w w3 g ⟨s.fs,s.op++[⟨kind,name,fJ,bs⟩]⟩:=by
 have I: ∀k,Xh AO=Y' k->M k/\k<X_ (Y_ w):=λk G=>⟨h.mg.2.2 k G,h.row.lt G⟩
 have hg:=h.dr.lt;have al:=h.mp.lt;have ac:b≠g:=by
  rintro rfl;let ⟨es,_,_,ak,U,e1,_⟩:=h.mp;rw [show w.heap[b]?=_ from h.dr] at e1;cases e1
 have F:Xk (λk=>Xh AO=Y' k\/k=g) Y w3:=(ag.mono λk _ e=> .inl e).trans ae (λ_ _ e=> .inr e);have V: ∀k,(C k/\k<X_ (Y_ w))\/(X_ (Y_ w)<k/\k<X_ (Y_ Y))-> ¬(Xh AO=Y' k\/k=g):=by
  rintro k (⟨c,d⟩|d) (e|e)
  .exact h.cm k c (I k e).1
  .exact h.cm k c (by rw [e];exact h.mg.1)
  .have:=(I k e).2;omega
  .omega
 have O: ∀k,Xh A2=Y' k->(M k/\k<X_ (Y_ w))\/k=X_ (Y_ Y)+1:=by
  intro k G;obtain e|e:=ab
  .rw [e] at G;exact .inl (I k G)
  .rw [e] at G
   have:X_ (Y_ Y)+1=k:=by simpa using G
   exact .inr this.symm
 refine ⟨λk=>(M k/\k<X_ (Y_ w))\/k=X_ (Y_ Y)+1,λk=>(C k/\k<X_ (Y_ w))\/(X_ (Y_ w)<k/\k<X_ (Y_ Y)),⟨b,A2,nO+1,c2,ps++[⟨kind,name,fJ,bs,A',n,c'⟩],ai,?_,?_,?_,?_,⟨.inl ⟨h.mg.1,hg⟩,.inl ⟨h.mg.2.1,al⟩,O⟩,?_⟩,?_,?_,?_⟩
 .have h1:=((h.mp.mono (C':=λk=>(C k/\k<X_ (Y_ w))\/(X_ (Y_ w)<k/\k<X_ (Y_ Y))) (λk G c=> .inl ⟨c,G⟩)).below hY)
  refine h1.dy F.size (λk G c=>F.block k G (V k c)) (F.block b o_ ?_);rintro (e|e)
  .let ⟨es,_,_,ak,U,e1,_⟩:=h.mp
   let ⟨cur,X⟩:=h.row.type e;rw [e1] at X;cases X
  .exact ac e
 .rw [qH.eH]
  exact an.only ae λk G e=>by
   obtain c|c:=O k G
   .obtain X|X:=ab
    .rw [X] at G
     exact h.row.dZ h.dr d_ k G e
    .rw [X] at G
     have:X_ (Y_ Y)+1=k:=by simpa using G
     omega
   .have e':=e
    omega
 .rw [List.map_append,h.ops]
  rfl
 .intro p hp
  obtain hp|hp:=Xy.1 hp
  .exact (((h.hold p hp).mono (C':=λk=>(C k/\k<X_ (Y_ w))\/(X_ (Y_ w)<k/\k<X_ (Y_ Y))) (λk G c=> .inl ⟨c,G⟩)).below hY).dy F.size (λk G c=>F.block k G (V k c))
  .rw [XU] at hp
   subst hp;exact (ah.mono (C':=λk=>(C k/\k<X_ (Y_ w))\/(X_ (Y_ w)<k/\k<X_ (Y_ Y))) (λk G c=>c.imp id λc=>⟨c,G⟩)).dy F.size (λk G c=>F.block k G (V k c))
 .rintro k (c|c) (d|d)
  .exact h.cm k c.1 d.1
  .omega
  .omega
  .omega
 .exact λk c=>c.imp (·.1) λe=>o_
 .exact λk c=>c.imp (·.1) λe=>o_
 .refine (Xm hY).trans (F.mono (T:=M) λk _ e=>?_) (λk _ e=>e)
  obtain e|e:=e
  .exact (I k e).1
  .rw [e];exact h.mg.1
end
def ms70 {p:Prop} (h:p:=by
 refine dm.on 7 3 ?_;refine dm.val rfl rfl (v:=S_ A2 (nO+1) c2) (w':=w2) (jr rfl f_ f_ hr) S2 ?_;refine dm.tk 1 S2 [8,9] ?_
 iterate 2 (refine dm.dG rfl (λK' F=>?_);go_simp;(first|refine F _ ?_|constructor;refine ⟨λwx G=>?_,F _ ?_⟩;(first|rfl|go_simp<;>rfl));clear F K')
 refine dm.dn 10 0 ?_;refine dm.skip rfl rfl (w':=w2.setCell ⟨g,1,none⟩ (S_ A2 (nO+1) c2)) f_ S3 ?_;refine dm.fi ?_;go_wp2_with fail;go_ret;exact ⟨rfl,HP.o⟩):p:=h
def ms71 {p:Prop} (h:p:=by
 rw [show right ⟨kind,name,fJ,bs⟩=false from by unfold right;simp;omega];refine (show Calls prog 132 #[P_ (some ⟨g,0,none⟩),A_ #[kind,name,fJ,S_ A n c]] w λe w'=>e=R_ (I_ J_ 1)/\Bw w w' from ?_).mono λe w' p=>⟨λ_=>p,λc=>(by cases c)⟩
 go_enter func132,ntmps132;go_wp2_with fail;go_ret;exact ⟨rfl,HA.o⟩):p:=h
def ms72 {p:Prop} (h:p:=by
 refine gk.yo (hR.only (Ro.dt.setCell X ⟨w.heap.size,3,none⟩ _) (λk hk e=>?_)) (λk hk=> .inr ?_)
 .have h1:=ai k hk
  have h2:k=w.heap.size:=e;simp at h1;omega
 .have h1:=ai k hk
  simp at h1;omega):p:=h
def yd {s:Ds} {M C C0:Nat->Prop} {bs:List dE} (h:At w g s M C) (hs:Good s) (ho:gk w C0 A n c bs) (h1:name.size<=maxLen) (h2:fJ.size<=maxLen) (hn:n<=100000):
  WZ Xd 132 #[P_ (Y' ⟨g,0,Z_⟩),A_ #[kind,name,fJ,S_ A n c]] w λe w'=>(right ⟨kind,name,fJ,bs⟩=WW->e=R_ (I_ J_ 1)/\Bw w w')/\(right ⟨kind,name,fJ,bs⟩=Z'->e=R_ (I_ J_ 0)/\en M C w w' g ⟨s.fs,s.op++[⟨kind,name,fJ,bs⟩]⟩):=by
 have hno:=hs.no;let ⟨b,AO,nO,cO,ps,h⟩:=h;have aT:=h.len;have N0:=Hd (XL (w:=w) (t:=158) (cs:= #[kind,name,fJ,S_ A n c]));have HA:=Hd ((Xu w.heap.size w).alloc l_ (.cells #[kind,name,fJ,S_ A n c] 158));have ak:=Hd (λ(X:WX) (hX:Bw w X)=>iR (ho.below hX) o_);have H:=Hd h;have ac:=Hd (λX=>mv name X h1);have af:=Hd (λX=>mv fJ X h2);have aS:=h1;have aQ:=h2;unfold maxLen at aS aQ;clear h hs ho h1 h2;by_cases k1:kind<1
 .exact ms71
 by_cases k3:3<kind
 .exact ms71
 by_cases n1:1<=name.size/\name.size<=32
 .rw [show decide (1<=name.size/\name.size<=32)=Z' from decide_eq_true n1] at ac
  by_cases k2:kind=2
  .subst k2
   by_cases n2:1<=fJ.size/\fJ.size<=32
   .rw [show decide (1<=fJ.size/\fJ.size<=32)=Z' from decide_eq_true n2] at af
    rw [show right ⟨2,name,fJ,bs⟩=Z' from by unfold right;simp;omega];refine (show WZ Xd 132 #[P_ (Y' ⟨g,0,Z_⟩),A_ #[I_ J_ 2,name,fJ,S_ A n c]] w λe w'=>e=R_ (I_ J_ 0)/\en M C w w' g ⟨s.fs,s.op++[⟨2,name,fJ,bs⟩]⟩ from ?_).mono λe w' p=>⟨λc=>(by cases c),λ_=>p⟩
    clear n1 n2 k1 k3;go_enter func132,ntmps132;go_wp2_with fail;refine (ac.o _).mono ?_;rintro e wz ⟨rfl,I⟩;subst I;go_wp2_with fail;refine (af.o _).mono ?_;rintro e wz ⟨rfl,I⟩;subst I;clear ac af;go_wp2_with fail;refine (ak.o _ HA.o).mono ?_;rintro e X ⟨A',c',rfl,hR,aa,ai⟩;have N1:=N0.o.a_ aa;let ⟨i0,i1,i2,i3⟩:=Xf (N1.cell 0) (Xf (N1.cell 1) (Xf (N1.cell 2) (N1.cell 3)));have az:=N1.frozen;have au:=HA.o.trans (aa.mono HA.o.size);have U:=N1.eC 3 (S_ A' n c');have aA:X_ (Y_ w)+1<=X_ (Y_ X):=by have:=aa.size;simpa using this
    have hY:Bw w (X.setCell ⟨X_ (Y_ w),3,Z_⟩ (S_ A' n c')):=au.setCell l_ _;have HL:=Hd (H.o.dy hY.size (λk hk _=>hY.block k hk));have an:gk (X.setCell ⟨X_ (Y_ w),3,Z_⟩ (S_ A' n c')) (λk=>(C k/\k<X_ (Y_ w))\/X_ (Y_ w)<k) A' n c' bs:=by
     exact ms72
    have ar:=Hd an;have U:=Hd U;have HY:=Hd hY;have HZ:Xb (X_ (Y_ w)<(X.setCell ⟨X_ (Y_ w),3,Z_⟩ (S_ A' n c')).heap.size):=Hd z_;clear hR aa ai N1 au hY an ak HA N0 aA;go_wp2_with fail;clear i0 i1 i2 i3 az;generalize (X.setCell ⟨X_ (Y_ w),3,Z_⟩ (S_ A' n c'))=Y at*;have aO:=HL.o.len;have HD:=Hd (λ(Z:WX) (hZ:Bw Y Z)=>IP (v:= #[I_ J_ 2,name,fJ,S_ A' n c']) (HL.o.dy hZ.size (λk hk _=>hZ.block k hk)) rfl (by intro u hu;simp at hu;obtain rfl|rfl|rfl|rfl:=hu<;>rfl) o_);have ae:Bw Y Y.drew:=b_.drew;let ⟨A2,c2,w2,hr,aw,V,ao⟩:=HD.o Y.drew ae;have O:=HL.o.xE ae V;have m0:=O.cell 0;have m1:=O.cell 1;have mf:=O.frozen;have HP:=Hd (Bv (kind:=2) (name:=name) (fJ:=fJ) H.o HY.o ar.o HZ.o (HL.o.pj ae V) ao aw (Xn w2 ⟨g,1,Z_⟩ (S_ A2 (nO+1) c2)) (O.eC 1 (S_ A2 (nO+1) c2)));have am:=HL.o.dr;have n1:=am.cell 1;have S0:Xk (λk=>k=g\/Xh AO=Y' k) Y Y.drew:=(Xs _ _).drew;have S1:Xk (λk=>k=g\/Xh AO=Y' k) Y (Y.drew.alloc (.cells #[I_ J_ 2,name,fJ,S_ A' n c'] 158)):=S0.alloc _;have S2:=S1.trans V (λ_ _ e=> .inr e);have S3:Xk (λk=>k=g\/Xh AO=Y' k) Y (w2.setCell ⟨g,1,Z_⟩ (S_ A2 (nO+1) c2)):=S2.trans (Xn w2 ⟨g,1,Z_⟩ _) (λ_ _ e=> .inl e);have ab: ¬(X_ (Y_ w)=g\/Xh AO=Y' w.heap.size):=by
     rintro (e|e)
     .exact absurd H.o.dr.lt o_
     .exact absurd (H.o.row.lt e) o_
    clear aw V ao O HD am HL ar HY HZ H;refine XW (S:=λw'=>Xk (λk=>k=g\/Xh AO=Y' k) Y w') k_ ?_;refine dm.tk 6 S0 [0,1,2,3,5] ?_
    iterate 5 (refine dm.dG rfl (λK' F=>?_);go_simp;(first|refine F _ ?_|constructor;refine ⟨λwx G=>?_,F _ ?_⟩;(first|rfl|(let ⟨i0,i1,i2,i3⟩:=Xf (Xe (((G.block _ U.o.lt ab).trans U.o:Xg wx w.heap.size 158 _)) 0) (Xf (Xe (((G.block _ U.o.lt ab).trans U.o:Xg wx w.heap.size 158 _)) 1) (Xf (Xe (((G.block _ U.o.lt ab).trans U.o:Xg wx w.heap.size 158 _)) 2) (Xe (((G.block _ U.o.lt ab).trans U.o:Xg wx w.heap.size 158 _)) 3)));go_simp<;>rfl)));clear F K')
    refine dm.ee ?_;refine dm.two (i:=4) (j:=6) (n:=5) k_ ?_ ?_
    .refine XT rfl rfl (v:=S_ AO nO cO) (w':=Y.drew) f_ S0 ?_
     refine Yj 6 4 ?_;refine XT rfl rfl (v:=S_ (Y' ⟨X_ (Y_ Y),0,Z_⟩) 1 1) (w':=Y.drew.alloc (.cells #[I_ J_ 2,name,fJ,S_ A' n c'] 158)) f_ S1 ?_;exact ms70
    .refine XT rfl rfl (v:=S_ (Y' ⟨X_ (Y_ Y),0,Z_⟩) 1 1) (w':=Y.drew.alloc (.cells #[I_ J_ 2,name,fJ,S_ A' n c'] 158)) f_ S1 ?_
     have aR:=Mem.fo (o:= .cells #[I_ J_ 2,name,fJ,S_ A' n c'] 158) n1;refine Yj 4 4 ?_;refine XT rfl rfl (v:=S_ AO nO cO) (w':=Y.drew.alloc (.cells #[I_ J_ 2,name,fJ,S_ A' n c'] 158)) f_ S1 ?_;exact ms70
   .rw [show decide (1<=fJ.size/\fJ.size<=32)=WW from decide_eq_false n2] at af
    rw [show right ⟨2,name,fJ,bs⟩=WW from by unfold right;simp;omega];refine (show WZ Xd 132 #[P_ (Y' ⟨g,0,Z_⟩),A_ #[I_ J_ 2,name,fJ,S_ A n c]] w λe w'=>e=R_ (I_ J_ 1)/\Bw w w' from ?_).mono λe w' p=>⟨λ_=>p,λc=>(by cases c)⟩
    clear n1 n2 k1 k3 H ak;go_enter func132,ntmps132;go_wp2_with fail;refine (ac.o _).mono ?_;rintro e wz ⟨rfl,I⟩;subst I;go_wp2_with fail;refine (af.o _).mono ?_;rintro e wz ⟨rfl,I⟩;subst I;go_wp2;go_ret;exact ⟨rfl,HA.o⟩
  .have hk2:=beq_eq_false_iff_ne.2 k2
   rw [show right ⟨kind,name,fJ,bs⟩=Z' from by unfold right;simp;omega];refine (show WZ Xd 132 #[P_ (Y' ⟨g,0,Z_⟩),A_ #[kind,name,fJ,S_ A n c]] w λe w'=>e=R_ (I_ J_ 0)/\en M C w w' g ⟨s.fs,s.op++[⟨kind,name,fJ,bs⟩]⟩ from ?_).mono λe w' p=>⟨λc=>(by cases c),λ_=>p⟩
   clear n1 af k2;go_enter func132,ntmps132;go_wp2_with fail;refine (ac.o _).mono ?_;rintro e wz ⟨rfl,I⟩;subst I;clear ac;go_wp2_with fail;refine (ak.o _ HA.o).mono ?_;rintro e X ⟨A',c',rfl,hR,aa,ai⟩;have N1:=N0.o.a_ aa;let ⟨i0,i1,i2,i3⟩:=Xf (N1.cell 0) (Xf (N1.cell 1) (Xf (N1.cell 2) (N1.cell 3)));have az:=N1.frozen;have au:=HA.o.trans (aa.mono HA.o.size);have U:Xg (X.setCell ⟨X_ (Y_ w),3,Z_⟩ (S_ A' n c')) w.heap.size 158 #[kind,name,fJ,S_ A' n c']:=N1.eC 3 (S_ A' n c');have aA:X_ (Y_ w)+1<=X_ (Y_ X):=by have:=aa.size;simpa using this
   have hY:Bw w (X.setCell ⟨X_ (Y_ w),3,Z_⟩ (S_ A' n c')):=au.setCell l_ _;have HL:=Hd (H.o.dy hY.size (λk hk _=>hY.block k hk));have an:gk (X.setCell ⟨X_ (Y_ w),3,Z_⟩ (S_ A' n c')) (λk=>(C k/\k<X_ (Y_ w))\/X_ (Y_ w)<k) A' n c' bs:=by
    exact ms72
   have ar:=Hd an;have U:=Hd U;have HY:=Hd hY;have HZ:Xb (X_ (Y_ w)<(X.setCell ⟨X_ (Y_ w),3,Z_⟩ (S_ A' n c')).heap.size):=Hd z_;clear hR aa ai N1 au hY an ak HA N0 aA;go_wp2_with fail;clear i0 i1 i2 i3 az;generalize (X.setCell ⟨X_ (Y_ w),3,Z_⟩ (S_ A' n c'))=Y at*;have aO:=HL.o.len;have HD:=Hd (λ(Z:WX) (hZ:Bw Y Z)=>IP (v:= #[kind,name,fJ,S_ A' n c']) (HL.o.dy hZ.size (λk hk _=>hZ.block k hk)) rfl (by intro u hu;simp at hu;obtain rfl|rfl|rfl|rfl:=hu<;>rfl) o_);have ae:Bw Y Y.drew:=b_.drew;let ⟨A2,c2,w2,hr,aw,V,ao⟩:=HD.o Y.drew ae;have O:=HL.o.xE ae V;have m0:=O.cell 0;have m1:=O.cell 1;have mf:=O.frozen;have HP:=Hd (Bv (kind:=kind) (name:=name) (fJ:=fJ) H.o HY.o ar.o HZ.o (HL.o.pj ae V) ao aw (Xn w2 ⟨g,1,Z_⟩ (S_ A2 (nO+1) c2)) (O.eC 1 (S_ A2 (nO+1) c2)));have am:=HL.o.dr;have n1:=am.cell 1;have S0:Xk (λk=>k=g\/Xh AO=Y' k) Y Y.drew:=(Xs _ _).drew;have S1:Xk (λk=>k=g\/Xh AO=Y' k) Y (Y.drew.alloc (.cells #[kind,name,fJ,S_ A' n c'] 158)):=S0.alloc _;have S2:Xk (λk=>k=g\/Xh AO=Y' k) Y w2:=S1.trans V (λ_ _ e=> .inr e);have S3:Xk (λk=>k=g\/Xh AO=Y' k) Y (w2.setCell ⟨g,1,Z_⟩ (S_ A2 (nO+1) c2)):=S2.trans (Xn w2 ⟨g,1,Z_⟩ _) (λ_ _ e=> .inl e);have ab: ¬(X_ (Y_ w)=g\/Xh AO=Y' w.heap.size):=by
    rintro (e|e)
    .exact absurd H.o.dr.lt o_
    .exact absurd (H.o.row.lt e) o_
   clear aw V ao O HD am HL ar HY HZ H;refine XW (S:=λw'=>Xk (λk=>k=g\/Xh AO=Y' k) Y w') k_ ?_;refine dm.tk 6 S0 [0,1,2,3,5] ?_
   iterate 5 (refine dm.dG rfl (λK' F=>?_);go_simp;(first|refine F _ ?_|constructor;refine ⟨λwx G=>?_,F _ ?_⟩;(first|rfl|(let ⟨i0,i1,i2,i3⟩:=Xf (Xe (((G.block _ U.o.lt ab).trans U.o:Xg wx w.heap.size 158 _)) 0) (Xf (Xe (((G.block _ U.o.lt ab).trans U.o:Xg wx w.heap.size 158 _)) 1) (Xf (Xe (((G.block _ U.o.lt ab).trans U.o:Xg wx w.heap.size 158 _)) 2) (Xe (((G.block _ U.o.lt ab).trans U.o:Xg wx w.heap.size 158 _)) 3)));go_simp<;>rfl)));clear F K')
   refine dm.ee ?_;refine dm.two (i:=4) (j:=6) (n:=5) k_ ?_ ?_
   .refine XT rfl rfl (v:=S_ AO nO cO) (w':=Y.drew) f_ S0 ?_
    refine Yj 6 4 ?_;refine XT rfl rfl (v:=S_ (Y' ⟨X_ (Y_ Y),0,Z_⟩) 1 1) (w':=Y.drew.alloc (.cells #[kind,name,fJ,S_ A' n c'] 158)) f_ S1 ?_;exact ms70
   .refine XT rfl rfl (v:=S_ (Y' ⟨X_ (Y_ Y),0,Z_⟩) 1 1) (w':=Y.drew.alloc (.cells #[kind,name,fJ,S_ A' n c'] 158)) f_ S1 ?_
    have aR:=Mem.fo (o:= .cells #[kind,name,fJ,S_ A' n c'] 158) n1;refine Yj 4 4 ?_;refine XT rfl rfl (v:=S_ AO nO cO) (w':=Y.drew.alloc (.cells #[kind,name,fJ,S_ A' n c'] 158)) f_ S1 ?_;exact ms70
 .rw [show decide (1<=name.size/\name.size<=32)=WW from decide_eq_false n1] at ac
  rw [show right ⟨kind,name,fJ,bs⟩=WW from by unfold right;simp;omega];refine (show WZ Xd 132 #[P_ (Y' ⟨g,0,Z_⟩),A_ #[kind,name,fJ,S_ A n c]] w λe w'=>e=R_ (I_ J_ 1)/\Bw w w' from ?_).mono λe w' p=>⟨λ_=>p,λc=>(by cases c)⟩
  clear n1 H ak af;go_enter func132,ntmps132;go_wp2_with fail;refine (ac.o _).mono ?_;rintro e wz ⟨rfl,I⟩;subst I;go_wp2;go_ret;exact ⟨rfl,HA.o⟩
end Dk
end
section
open _root_.Go.Proofs.Tryz Go.RowKit Go.Maps
namespace Dk
open Bs
open fC (dE)
def sM (o:oI) (z:Int):oI:=if o.kind=1/\1<=z/\z<=o.bytes.length then ⟨o.kind,o.name,o.fJ,o.bytes.take (z - 1).toNat⟩ else o
def iS (l:fH) (o:oI) (z:Int):fH:=if z=0 then l else gX l (sM o z)
def i' (l:fH) (ops:List oI) (dy:List Int):fH:=(ops.zip dy).foldl (λl p=>iS l p.1 p.2) l
def zj (l:fH) (o:oI) (z:Int):(iS l o z).length<=l.length+1:=by
 unfold iS;split
 .omega
 .exact vY _ _
def DN (ps:List (oI×Int)) (l:fH):(ps.foldl (λl p=>iS l p.1 p.2) l).length<=l.length+ps.length:=by
 induction ps generalizing l with
 |nil=>simp
 |cons p ps ih=>
  rw [XO,Xo];have:=ih (iS l p.1 p.2);have h2:=zj l p.1 p.2;omega
def gS (l:fH) (ops:List oI) (dy:List Int) (k:Nat):fH:=((ops.zip dy).take k).foldl (λl p=>iS l p.1 p.2) l
def xN (l:fH) (ops:List oI) (dy:List Int) (k:Nat):(gS l ops dy k).length<=l.length+k:=by
 have:=DN ((ops.zip dy).take k) l;unfold gS;simp only [List.length_take] at this;omega
def vA {l:fH} {ops:List oI} {dy:List Int} (h:dy.length<=k):gS l ops dy (k+1)=gS l ops dy k:=by
 unfold gS;rw [t_ z_,t_ z_]
def vB {l:fH} {ops:List oI} {dy:List Int} (h1:k<ops.length) (h2:k<dy.length):gS l ops dy (k+1)=iS (gS l ops dy k) ops[k] dy[k]:=by
 unfold gS;rw [Mem.dQ _ _ z_,XF];simp
def Jb (w:WX) (C:Nat->Prop) (w':WX):Nat->Prop:=λk=>(C k/\k<X_ (Y_ w))\/(X_ (Y_ w)<=k/\k<X_ (Y_ w'))
def DO {s:Ds} {M C:Nat->Prop} {l:fH} (h:jG w g s M C b AO nO cO ps) (X:Xk (λk=>k=b) w w2) (hm:Mp w2 (Jb w C w2) b l) (G:b≠g):
  en M C w (w2.setCell ⟨g,1,Z_⟩ (S_ Z_ 0 0)) g ⟨l,[]⟩:=by
 have V:=h.dr.lt;have I:Xg w2 g 128 #[.map (Y' b),S_ AO nO cO]:=(X.block g V (λe=>G e.symm)).trans h.dr;have F:=Xn w2 ⟨g,1,Z_⟩ (S_ Z_ 0 0);refine ⟨λk=>M k/\k<X_ (Y_ w),Jb w C w2,⟨b,Z_,0,0,[],I.eC 1 _,hm.dy F.size (λk U c=>F.block k U (λe=>?_)) (F.block b hm.lt G),Yf,rfl,λp hp=>(by cases hp),⟨⟨h.mg.1,V⟩,⟨h.mg.2.1,h.mp.lt⟩,λk U=>(by cases U)⟩,λk c d=>?_⟩,λk c=> .inl c.1,λk c=>c.imp (·.1) (·.1),?_⟩
 .have O:k=g:=e
  obtain c|c:=c
  .exact h.cm k c.1 (by rw [O];exact h.mg.1)
  .omega
 .obtain c|c:=c
  .exact h.cm k c.1 d.1
  .have:=d.2;omega
 .refine (X.mono (T:=M) λk _ e=>by rw [e];exact h.mg.2.1).trans F (λk _ e=>?_)
  have O:=e;rw [O];exact h.mg.1
def zh {C:Nat->Prop} {l:fH} (h:Mp w C b l) (I:Xg w g t cs):b≠g:=by
 rintro rfl;let ⟨es,_,_,es0,F,G,_⟩:=h;rw [show w.heap[b]?=_ from I] at G;cases G
def Nt {C:Nat->Prop} {l:fH} (h:Mp w C b l) (I:Ya w e k A n c xs): ∀g,Xh A=Y' g->b≠g:=by
 rintro g O rfl;let ⟨es,_,_,es0,F,U,_⟩:=h;let ⟨cur,G⟩:=I.type O;rw [U] at G;cases G
def ms30 {p:Prop} (h:p:=by
 go_wp2_with fail;have G:Hid (Bw wr (wr.alloc (.cells #[I_ J_ 1,nm,nt,S_ bA bn bc] 158))):=Hd (dL);have N0:=Hd (Mem.c_.new (w:=wr) (t:=158) (cs:= #[I_ J_ 1,nm,nt,S_ bA bn bc]));have aw:=Hd (aB.o.a_ G.o);have O: ¬wr.heap.size=b:=by have:=aL.o;omega
 have ap: ¬g=b:=λe=>ar e.symm
 have HZ:Hid (wr.heap.size<(wr.alloc (.cells #[I_ J_ 1,nm,nt,S_ bA bn bc] 158)).heap.size):=Hd y_;have aa:=Hd (ah.o _ G.o);have ae:=Hd (ag.o _ G.o);have af:=Hd (an.o _ G.o);clear ah ag an G U e0 e1 e2 e3;generalize wr.alloc (.cells #[I_ J_ 1,nm,nt,S_ bA bn bc] 158)=X at*;refine dm.start (S:=λw'=>Ro.dt (λk=>k=b) X w') k_ ?_;refine dm.py (n:=1) k_ (λ_ _ d _ _ h=>by cases d<;>exact h) (Ro.dt.refl _ _).drew [0,1,2,3,4] _ _ k_ ?_
 iterate 5 (refine dm.dG rfl (λK' ac=>?_);go_simp;(first|refine ac _ ?_|constructor;refine ⟨λwx I=>?_,ac _ ?_⟩;(first|rfl|(obtain ⟨i0,i1,i2,i3⟩:=And.intro (Mem.c_.cell (((I.block _ N0.o.lt O).trans N0.o:Mem.c_ wx wr.heap.size 158 _)) 0) (And.intro (Mem.c_.cell (((I.block _ N0.o.lt O).trans N0.o:Mem.c_ wx wr.heap.size 158 _)) 1) (And.intro (Mem.c_.cell (((I.block _ N0.o.lt O).trans N0.o:Mem.c_ wx wr.heap.size 158 _)) 2) (Mem.c_.cell (((I.block _ N0.o.lt O).trans N0.o:Mem.c_ wx wr.heap.size 158 _)) 3)));have j0:=Mem.c_.cell ((I.block g (by have:=aM.o;have:=HZ.o;omega) ap).trans aw.o) 0;go_simp<;>rfl)));clear ac K')
 refine dm.dn 5 0 ?_;refine dm.cl ?_;refine (qc (w:=X.drew) (C:=Jb w C X) (kind:=1) (name:=nm) (fJ:=nt) (bs:=bs) (ae.o.below b_.drew) (λc=>?nb) (af.o.below b_.drew) ab ai (by have:=ay.o;omega) o_).mono ?_
 case nb=>
  obtain c|c:=c
  .exact aE.o c.1
  .have:=aG.o;omega
 rintro e w2 ⟨rfl,hm,ho⟩;have V:=ho.qA;have aI:=V.size;have aX:=aa.o.size;have av:=Hd (aa.o.trans V (λ_ _ e=>e));have au:Hid (Mp w2 (Jb w C w2) b L'):=Hd (by
  rw [ak];refine hm.mono λk hk c=>?_
  obtain c|c:=c
  .obtain c|c:=c
   .exact .inl c
   .exact .inr ⟨c.1,hk⟩
  .have h1:X.heap.size<=k:=c.1
   exact .inr ⟨o_,hk⟩)
 clear hm ho ae af aa;refine ⟨_,rfl,V,?_⟩;refine dm.fi ?_;go_wp2_with fail;go_roundw
 .exact ⟨k+1,o_,by go_num,av,by show Mp _ _ _ _;rw [az.o];exact au.o⟩
 .simp [intOf];omega):p:=h
def ms31 {p:Prop} (h:p:=by
 rintro e w2 ⟨rfl,hm,ho⟩;have V:=ho.qA;have aI:=V.size;have aX:=aa.o.size;have av:=Hd (aa.o.trans V (λ_ _ e=>e));have au:Hid (Mp w2 (Jb w C w2) b L'):=Hd (by
  rw [ak];refine hm.mono λk hk c=>?_
  obtain c|c:=c
  .obtain c|c:=c
   .exact .inl c
   .exact .inr ⟨c.1,hk⟩
  .have h1:X.heap.size<=k:=c.1
   exact .inr ⟨o_,hk⟩)
 clear hm ho ae af aa;refine ⟨_,rfl,V,?_⟩;refine dm.fi ?_;go_wp2_with fail;go_roundw
 .exact ⟨k+1,o_,by go_num,av,by show Mp _ _ _ _;rw [az.o];exact au.o⟩
 .simp [intOf];omega):p:=h
def ms32 {p:Prop} (h:p:=by
 go_wp2_with fail;go_roundw
 .exact ⟨k+1,o_,by go_num,ah.o _ U.o,by show Mp _ _ _ _;rw [az.o,hL];exact ag.o _ U.o⟩
 .simp [intOf];omega):p:=h
def MY {s:Ds} {M C:Nat->Prop} {dy:List Int} (h:At w g s M C) (hs:Good s) (hk:Mem.Ints w w.heap.size .i64 KA kn dy) (a6: ∀ad,KA=Y' ad->0<kn-> ¬M ad.block) (a5: ∀z∈dy,z<=9223372036854775807) (bK:kn<=100000):
  WZ Xd 46 #[P_ (Y' ⟨g,0,Z_⟩),S_ KA kn kc] w λe w'=>e=R_ (U_ #[])/\en M C w w' g ⟨i' s.fs s.op dy,[]⟩:=by
 let ⟨b,AO,nO,cO,ps,h⟩:=h;let ⟨hl1,hl2⟩:=h.len;have hno:=hs.no;have hnf:=hs.nf;have HK:=Hd hs.ok;have hkl:=hk.len;have ar:=zh h.mp h.dr;have bl:=Hd (Nt h.mp h.row);have bE:Xb (∀ad,KA=Y' ad->0<kn->ad.block≠b):=Hd λad e hn c=>a6 ad e hn (by rw [c];exact h.mg.2.1)
 have aE:Xb (¬C b):=Hd λc=>h.cm b c h.mg.2.1
 have aG:=Hd h.mp.lt;have H:=Hd h;have a8:=Hd hk;have bf:=Hd a5;have m0:=h.dr.cell 0;have m1:=h.dr.cell 1;clear h hs hk a6 a5;go_enter func46,ntmps46;go_wp2_with fail;clear m0 m1;go_loopw [12] (λvi wr=> ∃k:Nat,k<=nO/\vi=I_ J_ k/\Xb (Xk (λk=>k=b) w wr)/\Xb (Mp wr (Jb w C wr) b (gS s.fs s.op dy k))) (λi _=>nO - (intOf i).toNat)
 .exact ⟨0,o_,rfl,Xs _ _,H.o.mp.mono λk hk c=> .inl ⟨c,hk⟩⟩
 .obtain ⟨k,hk,rfl,HO,HM⟩:=hrel
  by_cases bi:k<nO
  .let ⟨ad,hl,bF,aQ,bz⟩:=EV H.o.row bi
   subst bF;have am:k<s.op.length:=o_;have F:=HK.o s.op[k] (g_ am);have a1:s.op[k]=yp ps[k]:=by
    have:=H.o.ops;simp only [<-this,Xt]
   have a7:=H.o.hold ps[k] (g_ hl);have aP:=Hd (λ(h2:k<dy.length)=>vB (l:=s.fs) am h2);have a4:=Hd (λ(h2:dy.length<=k)=>vA (l:=s.fs) (ops:=s.op) h2);have ay:Xb ((gS s.fs s.op dy k).length<=2000):=Hd (by have:=xN s.fs s.op dy k;omega);rw [a1] at F aP;have aF:(ad.add (k*4)).block≠b:=by rw [Mem.ew];exact λe=>bl.o ad.block rfl e.symm
   have aO: ∀o,wr.cell? ⟨(ad.add (k*4)).block,o,Z_⟩=w.cell? ⟨(ad.add (k*4)).block,o,Z_⟩:=λo=>by
    have:=HO.o.block _ aQ aF;unfold Yd;rw [this]
   have aB:Xb (Xg wr g 128 #[.map (Y' b),S_ (Y' ad) nO cO]):=Hd ((HO.o.block g H.o.dr.lt (λe=>ar e.symm)).trans H.o.dr);have a2:Xb (Mem.Ints wr w.heap.size .i64 KA kn dy):=Hd ⟨a8.o.1,λhn=>by
    let ⟨a,e,hb,hc⟩:=a8.o.2 hn;refine ⟨a,e,hb,hc.dy λp hp=>?_⟩;have:=HO.o.block a.block hb (bE.o a e hn);unfold Yd;rw [hp,this]⟩
   have aU:Xb (gk wr (Jb w C wr) ps[k].uj ps[k].uk ps[k].uo ps[k].bytes):=Hd ((a7.mono (C':=λk=>C k/\k<X_ (Y_ w)) (λk hk hc=>⟨hc,hk⟩)).dy HO.o.size (λk hk hc=>HO.o.block k hk (λe=>aE.o (by rw [<-e];exact hc.1)))|>.mono λk _ hc=> .inl hc);generalize hL':gS s.fs s.op dy (k+1)=L' at*;have az:=Hd hL';clear hL';generalize gS s.fs s.op dy k=L at*;generalize ps[k]=p at*;obtain ⟨kd,nm,nt,bs,bA,bn,bc⟩:=p;obtain ⟨c0,c1,c2,c3⟩:=bz
   dsimp only at c0 c1 c2 c3
   have e0:wr.cell? (ad.add (k*4))=Y' (I_ J_ kd):=by
    have:=HO.o.block _ aQ aF;rw [<-c0];unfold Yd;rw [this]
   have e1:=(aO _).trans c1;have e2:=(aO _).trans c2;have e3:=(aO _).trans c3;have U:Xb (Bw wr (wr.alloc (.cells #[kd,nm,nt,S_ bA bn bc] 158))):=Hd (dL);have hob:=HO.o.size;have ah:Xb (∀X,Bw wr X->Xk (λk=>k=b) w X):=Hd λX hX=>HO.o.trans (Xm (S:=λk=>k=b) hX) (λ_ _ e=>e)
   have ag:Xb (∀X,Bw wr X->Mp X (Jb w C X) b L):=Hd λX hX=>(HM.o.below hX).mono λk hk c=>c.imp id λc=>⟨c.1,hk⟩
   have an:Xb (∀X,Bw wr X->gk X (Jb w C X) bA bn bc bs):=Hd λX hX=>(aU.o.below hX).mono λk hk c=>c.imp id λc=>⟨c.1,hk⟩
   have bD:bs.length=bn:=aU.o.len;have hb5:bs.length<=100000:=F.2.2;have ab:nm.size<=maxLen:=F.1;have ai:nt.size<=maxLen:=F.2.1;have aL:Xb (b<X_ (Y_ wr)):=Hd (by have:=aG.o;omega);have aM:=Hd aB.o.lt;clear c0 c1 c2 c3 aO aF a7 a1 F HM HO aU;by_cases hkk:kn<=k
   .have hL:=a4.o o_
    have bt:decide ((k:Int)≥(kn:Int))=Z':=by simp;omega
    clear bt aP;exact ms32
   .obtain ⟨adk,z,bG,rfl,hzb,ez,bq⟩:=a2.o.at_ (k:=k) o_
    have ak:=aP.o o_;have bN:=bf.o z (by rw [<-ez];exact g_ _);rw [ez] at ak;have bJ:=Mem.fo (o:= .cells #[kd,nm,nt,S_ bA bn bc] 158) bq;clear aP a4 ez bG;by_cases ax:z=0
    .subst ax
     have hL:L'=L:=by rw [ak];rfl
     clear ak;exact ms32
    .have aR:=beq_eq_false_iff_ne.2 ax
     rw [show iS L _ z=gX L (sM _ z) from by unfold iS;rw [if_neg ax]] at ak;by_cases al:kd=1/\1<=z/\z<=bn
     .obtain ⟨rfl,aV,bm⟩:=al
      obtain ⟨q,hq⟩: ∃q:Nat,z=(q:Int)+1:=⟨(z - 1).toNat,o_⟩;have ak:L'=gX L ⟨1,nm,nt,bs.take q⟩:=by
       rw [ak];unfold sM yp;rw [if_pos ⟨rfl,aV,by show _<=((bs.length:Nat):Int);omega⟩]
       congr 2
       show bs.take (z - 1).toNat=_
       congr 1
       omega
      have bj:q<=bn:=o_;have hw:IntKind.i64.wrap (z - 1)=(q:Int):=by unfold IntKind.wrap;simp [IntKind.bits,IntKind.signed];omega
      have hbc:=(an.o _ b_).le.1;clear hq;have aZ:=Hd (λX hX=>(an.o X hX).cut bj);clear an aR ax;go_wp2_with fail;have G:Xb (Bw wr (wr.alloc (.cells #[I_ J_ 1,nm,nt,S_ bA q bc] 158))):=Hd (dL);have N0:=Hd (XL (w:=wr) (t:=158) (cs:= #[I_ J_ 1,nm,nt,S_ bA q bc]));have aw:=Hd (aB.o.a_ G.o);have O: ¬X_ (Y_ wr)=b:=by have:=aL.o;omega
      have ap: ¬g=b:=λe=>ar e.symm
      have HZ:Xb (X_ (Y_ wr)<(wr.alloc (.cells #[I_ J_ 1,nm,nt,S_ bA q bc] 158)).heap.size):=Hd y_;have aa:=Hd (ah.o _ G.o);have ae:=Hd (ag.o _ G.o);have af:=Hd (aZ.o _ G.o);clear ah ag aZ G U e0 e1 e2 e3;generalize wr.alloc (.cells #[I_ J_ 1,nm,nt,S_ bA q bc] 158)=X at*;refine XW (S:=λw'=>Xk (λk=>k=b) X w') k_ ?_;refine dm.py (n:=1) k_ (λ_ _ d _ _ h=>by cases d<;>exact h) (Xs _ _).drew [0,1,2,3,4] _ _ k_ ?_
      iterate 5 (refine dm.dG rfl (λK' ac=>?_);go_simp;(first|refine ac _ ?_|constructor;refine ⟨λwx I=>?_,ac _ ?_⟩;(first|rfl|(let ⟨i0,i1,i2,i3⟩:=Xf (Xe (((I.block _ N0.o.lt O).trans N0.o:Xg wx wr.heap.size 158 _)) 0) (Xf (Xe (((I.block _ N0.o.lt O).trans N0.o:Xg wx wr.heap.size 158 _)) 1) (Xf (Xe (((I.block _ N0.o.lt O).trans N0.o:Xg wx wr.heap.size 158 _)) 2) (Xe (((I.block _ N0.o.lt O).trans N0.o:Xg wx wr.heap.size 158 _)) 3)));have j0:=Xe ((I.block g (by have:=aM.o;have:=HZ.o;omega) ap).trans aw.o) 0;go_simp<;>rfl)));clear ac K')
      refine dm.dn 5 0 ?_;refine dm.cl ?_;refine (qc (w:=X.drew) (C:=Jb w C X) (kind:=1) (name:=nm) (fJ:=nt) (bs:=bs.take q) (ae.o.below b_.drew) (λc=>?nb) (af.o.below b_.drew) ab ai (by have:=ay.o;omega) o_).mono ?_
      case nb=>
       obtain c|c:=c
       .exact aE.o c.1
       .have:=aG.o;omega
      exact ms31
     .have ak:L'=gX L ⟨kd,nm,nt,bs⟩:=by
       rw [ak];unfold sM yp;rw [if_neg (by show¬(kd=1/\1<=z/\z<=((bs.length:Nat):Int));rw [bD];exact al)]
      by_cases k1:kd=1
      .subst k1
       by_cases aV:1<=z
       .have bm: ¬z<=bn:=λc=>al ⟨rfl,aV,c⟩
        clear al aR ax;exact ms30
       .clear al ax
        exact ms30
      .have k1':=beq_eq_false_iff_ne.2 k1
       clear al ax k1;go_wp2_with fail;have G:Xb (Bw wr (wr.alloc (.cells #[kd,nm,nt,S_ bA bn bc] 158))):=Hd (dL);have N0:=Hd (XL (w:=wr) (t:=158) (cs:= #[kd,nm,nt,S_ bA bn bc]));have aw:=Hd (aB.o.a_ G.o);have O: ¬X_ (Y_ wr)=b:=by have:=aL.o;omega
       have ap: ¬g=b:=λe=>ar e.symm
       have HZ:Xb (X_ (Y_ wr)<(wr.alloc (.cells #[kd,nm,nt,S_ bA bn bc] 158)).heap.size):=Hd y_;have aa:=Hd (ah.o _ G.o);have ae:=Hd (ag.o _ G.o);have af:=Hd (an.o _ G.o);clear ah ag an G U e0 e1 e2 e3;generalize wr.alloc (.cells #[kd,nm,nt,S_ bA bn bc] 158)=X at*;refine XW (S:=λw'=>Xk (λk=>k=b) X w') k_ ?_;refine dm.py (n:=1) k_ (λ_ _ d _ _ h=>by cases d<;>exact h) (Xs _ _).drew [0,1,2,3,4] _ _ k_ ?_
       iterate 5 (refine dm.dG rfl (λK' ac=>?_);go_simp;(first|refine ac _ ?_|constructor;refine ⟨λwx I=>?_,ac _ ?_⟩;(first|rfl|(let ⟨i0,i1,i2,i3⟩:=Xf (Xe (((I.block _ N0.o.lt O).trans N0.o:Xg wx wr.heap.size 158 _)) 0) (Xf (Xe (((I.block _ N0.o.lt O).trans N0.o:Xg wx wr.heap.size 158 _)) 1) (Xf (Xe (((I.block _ N0.o.lt O).trans N0.o:Xg wx wr.heap.size 158 _)) 2) (Xe (((I.block _ N0.o.lt O).trans N0.o:Xg wx wr.heap.size 158 _)) 3)));have j0:=Xe ((I.block g (by have:=aM.o;have:=HZ.o;omega) ap).trans aw.o) 0;go_simp<;>rfl)));clear ac K')
       refine dm.dn 5 0 ?_;refine dm.cl ?_;refine (qc (w:=X.drew) (C:=Jb w C X) (kind:=kd) (name:=nm) (fJ:=nt) (bs:=bs) (ae.o.below b_.drew) (λc=>?nb) (af.o.below b_.drew) ab ai (by have:=ay.o;omega) o_).mono ?_
       case nb=>
        obtain c|c:=c
        .exact aE.o c.1
        .have:=aG.o;omega
       exact ms31
  .obtain rfl:nO=k:=o_
   have he:gS s.fs s.op dy nO=i' s.fs s.op dy:=by unfold gS i';rw [t_ z_]
   rw [he] at HM;have aK:Xg wr g 128 #[.map (Y' b),S_ AO nO cO]:=(HO.o.block g H.o.dr.lt (λe=>ar e.symm)).trans H.o.dr;have m0:=aK.cell 0;have m1:=aK.cell 1;have mf:=aK.frozen;have HP:=Hd (DO H.o HO.o HM.o ar);clear H HO HM aK he;go_wp2;exact bodyPost_end (results_none rfl _ _ _) rfl ⟨rfl,HP.o⟩
end Dk
end
section
open _root_.Go.Proofs.Tryz Go.RowKit Go.Maps
namespace Dk
open Bs
open fC (dE)
open Classical
abbrev BQ:=Nat->Option (Nat×Ds)
def oH (D:BQ) (i:Nat) (x:Nat×Ds):BQ:=λk=>if k=i then Y' x else D k
def qF (D:BQ) (i:Nat) (x:Nat×Ds):oH D i x i=Y' x:=if_pos rfl
def jF (D:BQ) (x:Nat×Ds) (h:j≠i):oH D i x j=D j:=if_neg h
structure Fm (W w:WX) (b':Nat->Nat) (D:BQ):Prop where
 base:Bw W w
 lL: ∀k,k<W.heap.size->b' k=0
 zero:D 0=Z_
 at_: ∀i g s,D i=Y' (g,s)->At w g s (λk=>b' k=i) (λk=>b' k=0)
section
variable {W w w':WX} {b':Nat->Nat} {D:BQ} {i j g:Nat} {s s':Ds}
def Fm.ne (h:Fm W w b' D) (F:D i=Y' (g,s)):i≠0:=by
 rintro rfl;rw [h.zero] at F;cases F
def Fm.start (hb:Bw W w):Fm W w (λ_=>0) (λ_=>Z_):=⟨hb,λ_ _=>rfl,rfl,λ_ _ _ h=>by cases h⟩
def Fm.below (h:Fm W w b' D) (I:Bw w w') (f:Nat->Nat):Fm W w' (λk=>if k<X_ (Y_ w) then b' k else f k) D:=by
 refine ⟨h.base.trans (I.mono h.base.size),λk F=>?_,h.zero,λi g s G=>?_⟩
 .show (if k<X_ (Y_ w) then b' k else f k)=0
  rw [if_pos (by have:=h.base.size;omega)];exact h.lL k F
 .have O:=h.at_ i g s G
  have U:=h.ne G;refine (O.mono (M':=λk=>(if k<X_ (Y_ w) then b' k else f k)=i) (C':=λk=>(if k<X_ (Y_ w) then b' k else f k)=0) (λk F c=>?_) (λk F c=>?_) (λk c d=>U ?_)).below I
  .show (if k<X_ (Y_ w) then b' k else f k)=i
   rw [if_pos F];exact c
  .show (if k<X_ (Y_ w) then b' k else f k)=0
   rw [if_pos F];exact c
  .have c':(if k<X_ (Y_ w) then b' k else f k)=0:=c
   have V:(if k<X_ (Y_ w) then b' k else f k)=i:=d;rw [<-V,c']
def Fm.put {Z:Nat->Prop} (h:Fm W w b' D) (I:Xk Z w w') (V: ∀k,Z k->b' k=j) (X:D j=Z_) (F:j≠0):Fm W w' b' D:=by
 refine ⟨h.base.trans (I.below h.base.size λk O c=>F (by rw [<-V k c];exact h.lL k O)),h.lL,h.zero,λi g s G=>(h.at_ i g s G).dy I.size λk O c=>I.block k O λz=>?_⟩;have U:=V k z;obtain c|c:=c
 .have c':b' k=i:=c
  rw [U] at c';subst c';rw [X] at G;cases G
 .exact F (by rw [<-U];exact c)
def Fm.op (h:Fm W w b' D) (hD:D i=Y' (g,s)) (hp:en (λk=>b' k=i) (λk=>b' k=0) w w' g s'):
  ∃col',(∀k,k<X_ (Y_ w)->col' k=b' k)/\Fm W w' col' (oH D i (g,s'))/\Xk (λk=>b' k=i) w w':=by
 let ⟨M',C',X,hM,hC,O⟩:=hp;have U:=h.ne hD;have ab: ∀k,C' k-> ¬M' k:=by obtain ⟨_,_,_,_,_,X⟩:=X;exact X.cm
 refine ⟨λk=>if k<X_ (Y_ w) then b' k else if M' k then i else 0,λk F=>if_pos F,⟨h.base.trans (O.below h.base.size λk F c=>U (by rw [<-show b' k=i from c];exact h.lL k F)),λk F=>?_,?_,λj g2 s2 I=>?_⟩,O⟩
 .show (if k<X_ (Y_ w) then b' k else _)=0
  rw [if_pos (by have:=h.base.size;omega)];exact h.lL k F
 .rw [jF D (g,s') (Ne.symm U)]
  exact h.zero
 .by_cases e:j=i
  .subst e
   rw [qF] at I;cases I;refine X.mono (λk F c=>?_) (λk F c=>?_) (λk c d=>U ?_)
   .show (if k<X_ (Y_ w) then b' k else if M' k then j else 0)=j
    by_cases G:k<X_ (Y_ w)
    .rw [if_pos G]
     obtain c|c:=hM k c
     .exact c
     .omega
    .rw [if_neg G,if_pos c]
   .show (if k<X_ (Y_ w) then b' k else if M' k then j else 0)=0
    by_cases G:k<X_ (Y_ w)
    .rw [if_pos G]
     obtain c|c:=hC k c
     .exact c
     .omega
    .rw [if_neg G,if_neg (ab k c)]
   .have c':(if k<X_ (Y_ w) then b' k else if M' k then j else 0)=0:=c
    have d':(if k<X_ (Y_ w) then b' k else if M' k then j else 0)=j:=d;rw [<-d',c']
  .rw [jF D (g,s') e] at I
   have V:=h.ne I;have h2:=(h.at_ j g2 s2 I).dy O.size (λk F c=>O.block k F λz=>by
    have z':b' k=i:=z;obtain c|c:=c
    .have c':b' k=j:=c
     exact e (by rw [<-c',z'])
    .have c':b' k=0:=c
     exact U (by rw [<-z',c']))
   have ae:At w' g2 s2 (λk=>b' k=j/\k<X_ (Y_ w)) (λk=>b' k=0/\k<X_ (Y_ w)):=by
    have h3:=(h.at_ j g2 s2 I).mono (M':=λk=>b' k=j/\k<X_ (Y_ w)) (C':=λk=>b' k=0/\k<X_ (Y_ w)) (λk F c=>⟨c,F⟩) (λk F c=>⟨c,F⟩) (λk c d=>V (by rw [<-d.1];exact c.1));exact h3.dy O.size (λk F c=>O.block k F λz=>by
     have z':b' k=i:=z;obtain c|c:=c
     .exact e (by rw [<-c.1,z'])
     .exact U (by rw [<-z',c.1]))
   refine ae.mono (λk F c=>?_) (λk F c=>?_) (λk c d=>V ?_)
   .show (if k<X_ (Y_ w) then b' k else if M' k then i else 0)=j
    rw [if_pos c.2];exact c.1
   .show (if k<X_ (Y_ w) then b' k else if M' k then i else 0)=0
    rw [if_pos c.2];exact c.1
   .have c':(if k<X_ (Y_ w) then b' k else if M' k then i else 0)=0:=c
    have d':(if k<X_ (Y_ w) then b' k else if M' k then i else 0)=j:=d;rw [<-d',c']
def Fm.new {O:Nat->Prop} (h:Fm W w b' D) (hb:Bw w w') (ha:At w' g s (λk=>X_ (Y_ w)<=k) O) (U: ∀k,O k->k<X_ (Y_ w)/\b' k=0) (hj:D j=Z_) (F:j≠0):Fm W w' (λk=>if k<X_ (Y_ w) then b' k else j) (oH D j (g,s)):=by
 have I:=h.below hb (λ_=>j);refine ⟨I.base,I.lL,?_,λi g2 V G=>?_⟩
 .rw [jF D (g,s) (Ne.symm F)]
  exact h.zero
 .by_cases e:i=j
  .subst e
   rw [qF] at G;cases G;refine ha.mono (λk X c=>?_) (λk X c=>?_) (λk c d=>F ?_)
   .show (if k<X_ (Y_ w) then b' k else i)=i
    have c':X_ (Y_ w)<=k:=c;rw [if_neg o_]
   .show (if k<X_ (Y_ w) then b' k else i)=0
    rw [if_pos (U k c).1];exact (U k c).2
   .have c':(if k<X_ (Y_ w) then b' k else i)=0:=c
    have d':(if k<X_ (Y_ w) then b' k else i)=i:=d;rw [<-d',c']
  .rw [jF D (g,s) e] at G
   exact I.at_ i g2 V G
end
end Dk
end
section
open _root_.Go.Proofs.Tryz Go.RowKit Go.Maps
namespace Dk
open Bs
open fC (dE)
def Vc (o:oI):Prop:=o.name.size<=maxLen/\o.fJ.size<=maxLen/\o.bytes.length<=100000
structure Fits (N:Nat) (s:Ds):Prop where
 len:s.fs.length+s.op.length<=N
 ok: ∀o∈s.op,Vc o
 fb: ∀p∈s.fs,p.2.length<=100000
 fk: ∀p∈s.fs,p.1.length<=maxLen
 gQ:TI s.fs
section
variable {N:Nat} {s:Ds} {o:oI}
def Fits.eN (h:Fits N s) (hN:N<=1000):Good s:=⟨by have:=h.len;omega,by have:=h.len;omega,h.ok,h.fb,h.fk⟩
def Fits.mono (h:Fits N s) (hN:N<=N'):Fits N' s:=⟨Nat.le_trans h.len hN,h.ok,h.fb,h.fk,h.gQ⟩
def Fits.ui (h:Fits N s) (G:Vc o):Fits (N+1) ⟨s.fs,s.op++[o]⟩:=by
 refine ⟨by have:=h.len;simp;omega,λo' F=>?_,h.fb,h.fk,h.gQ⟩;obtain F|F:=Xy.1 F
 .exact h.ok o' F
 .rw [XU] at F;subst F;exact G
end
end Dk
end
section
open _root_.Go.Proofs.Tryz Go.RowKit Go.Maps
namespace Dk
open Bs
open fC (dE)
def Sa {D:BQ} {x:Nat×Ds} (h:D i=Y' x):oH D i x=D:=by
 funext k
 unfold oH;split
 .rename_i e;rw [e,h]
 .rfl
def EN (s:Ds) (o:oI):Ds:=if right o then ⟨s.fs,s.op++[o]⟩ else s
def VQ (o:oI):Int:=if right o then 0 else 1
def qG (W w:WX) (b':Nat->Nat) (D:BQ) (i g:Nat) (s:Ds) (w':WX):Prop:= ∃col',(∀k,k<X_ (Y_ w)->col' k=b' k)/\Fm W w' col' (oH D i (g,s))/\Xk (λk=>b' k=i) w w'
section
variable {W w w':WX} {b':Nat->Nat} {D:BQ} {i j g N:Nat} {s s':Ds}
def qG.same (h:Fm W w b' D) (hD:D i=Y' (g,s)) (hb:Bw w w'):qG W w b' D i g s w':=
 ⟨_,λk hk=>if_pos hk,by rw [Sa hD];exact h.below hb (λ_=>0),.dW hb⟩
def Fm.ui {bs:List dE} {O:Nat->Prop} (h:Fm W w b' D) (F:D i=Y' (g,s)) (hs:Fits N s) (U:N<=1000) (V:gk w O A n c bs) (G:name.size<=maxLen) (I:fJ.size<=maxLen) (hn:n<=100000):
  WZ Xd 132 #[P_ (Y' ⟨g,0,Z_⟩),A_ #[I_ J_ kind,T_ name,T_ fJ,S_ A n c]] w λe w'=>e=R_ (I_ J_ (VQ ⟨kind,name,fJ,bs⟩))/\qG W w b' D i g (EN s ⟨kind,name,fJ,bs⟩) w':=by
 refine (yd (h.at_ i g s F) (hs.eN U) V G I hn).mono ?_;rintro e w' ⟨p1,p2⟩;unfold VQ EN;cases hr:right ⟨kind,name,fJ,bs⟩
 .rw [if_neg d_,if_neg d_]
  exact ⟨(p1 hr).1,qG.same h F (p1 hr).2⟩
 .rw [if_pos rfl,if_pos rfl]
  exact ⟨(p2 hr).1,h.op F (p2 hr).2⟩
def Fm.sync (h:Fm W w b' D) (hD:D i=Y' (g,s)) (hs:Fits N s) (hN:N<=1000):
  WZ Xd 133 #[P_ (Y' ⟨g,0,Z_⟩)] w λe w'=>e=R_ (U_ #[])/\qG W w b' D i g ⟨look s,[]⟩ w':=
 (Sb (h.at_ i g s hD) (hs.eN hN)).mono λ_e _w' p=>⟨p.1,h.op hD p.2⟩
def Fm.Fk {dy:List Int} (h:Fm W w b' D) (hD:D i=Y' (g,s)) (hs:Fits N s) (hN:N<=1000) (hk:Mem.Ints w w.heap.size .i64 KA kn dy) (hkM: ∀ad,KA=Y' ad->0<kn->b' ad.block≠i) (hkz: ∀z∈dy,z<=9223372036854775807) (hkn:kn<=100000):
  WZ Xd 46 #[P_ (Y' ⟨g,0,Z_⟩),S_ KA kn kc] w λe w'=>e=R_ (U_ #[])/\qG W w b' D i g ⟨i' s.fs s.op dy,[]⟩ w':=
 (MY (h.at_ i g s hD) (hs.eN hN) hk hkM hkz hkn).mono λ_e _w' p=>⟨p.1,h.op hD p.2⟩
def Fm.read (h:Fm W w b' D) (hD:D i=Y' (g,s)) (hs:Fits N s) (hN:N<=1000) (hn:name.size<=maxLen):
  WZ Xd 83 #[P_ (Y' ⟨g,0,Z_⟩),T_ name] w (iQ w (jt (look s) (key name))):=rz (h.at_ i g s hD) (hs.eN hN) hn
def Made (W w:WX) (b':Nat->Nat) (D:BQ) (j:Nat) (s:Ds) (e:Ending) (w':WX):Prop:= ∃g' col',e=R_ (P_ (Y' ⟨g',0,Z_⟩))/\(∀k,k<X_ (Y_ w)->col' k=b' k)/\Fm W w' col' (oH D j (g',s))/\Bw w w'
def Fm.news (h:Fm W w b' D) (I:D j=Z_) (F:j≠0):WZ Xd 28 #[] w (Made W w b' D j ⟨[],[]⟩):=by
 refine (sN w).mono ?_;rintro e w' ⟨rfl,U,G⟩;exact ⟨_,_,rfl,λk O=>if_pos O,h.new G U (λk c=>c.elim) I F,G⟩
end
end Dk
end
section
open Go.RowKit Go.Maps
namespace Dk
open Bs
open fC (dE)
abbrev t0:ByteArray:=⟨#[]⟩
def Ko (D:BQ) (i:Nat) (x y:Nat×Ds):oH (oH D i x) i y=oH D i y:=by
 funext k
 unfold oH;split<;>rfl
end Dk
end
section
open _root_.Go.Proofs.Tryz Go.RowKit Go.Maps
namespace Ck
open Dk Bs
open fC (dE)
abbrev tM:ByteArray:=⟨#[109,97,105,110]⟩
abbrev tT:ByteArray:=⟨#[116,101,109,112]⟩
def kM:Key:=[109,97,105,110]
def kT:Key:=[116,101,109,112]
def dV (m t:Option (List dE)):fH:=(match m with|some b=>[(kM,b)]|none=>[])++(match t with|some b=>[(kT,b)]|none=>[])
section
variable (m t:Option (List dE)) (x:List dE)
def vX:jt (dV m t) (key tM)=m:=by cases m<;>cases t<;>kernel_rfl
def EO:jt (dV m t) (key tT)=t:=by cases m<;>cases t<;>kernel_rfl
def uq:gX (dV m t) ⟨1,tT,t0,x⟩=dV m (Y' x):=by cases m<;>cases t<;>kernel_rfl
def Kn:gX (dV m t) ⟨3,tT,t0,[]⟩=dV m Z_:=by cases m<;>cases t<;>kernel_rfl
def wj:gX (dV m (Y' x)) ⟨2,tT,tM,[]⟩=dV (Y' x) Z_:=by cases m<;>kernel_rfl
def Qd:(dV m t).length<=2:=by cases m<;>cases t<;>simp [dV]
def Ks:TI (dV m t):=by
 cases m<;>cases t
 .exact List.Pairwise.nil
 .exact Xr _ _
 .exact Xr _ _
 .refine List.pairwise_cons.2 ⟨λp G=>?_,Xr _ _⟩
  have F:=s_ G;subst F
  show bytesBefore kM kT=Z'
  decide
end
def mq (m:Option (List dE)):Prop:= ∀b,m=Y' b->b.length<=100000
def mq.none:mq Z_:=λ_ h=>by cases h
def mq.some {b:List dE} (h:b.length<=100000):mq (Y' b):=λ_ e=>by cases e;exact h
def jB {m t:Option (List dE)} (I:mq m) (O:mq t):Fits 2 ⟨dV m t,[]⟩:=by
 refine ⟨by have:=Qd m t;simpa using this,λ_ h=>(by cases h),λp F=>?_,λp F=>?_,Ks m t⟩
 .unfold dV at F
  obtain F|F:=Xy.1 F
  .cases m with
   |none=>cases F
   |some b=>have G:=s_ F;subst G;exact I b rfl
  .cases t with
   |none=>cases F
   |some b=>have G:=s_ F;subst G;exact O b rfl
 .unfold dV at F
  obtain F|F:=Xy.1 F
  .cases m with
   |none=>cases F
   |some b=>have G:=s_ F;subst G;exact (show (4:Nat)<=maxLen by decide)
  .cases t with
   |none=>cases F
   |some b=>have G:=s_ F;subst G;exact (show (4:Nat)<=maxLen by decide)
def oW (x:List dE):oI:=⟨1,tT,t0,x⟩
def oR:oI:=⟨2,tT,tM,[]⟩
def ij (fr:List dE) (m:Option (List dE)):Nat->Ds
 |0=>⟨dV m Z_,[]⟩
 |1=>⟨dV m Z_,[oW fr]⟩
 |2=>⟨dV m (Y' fr),[]⟩
 |3=>⟨dV m (Y' fr),[oR]⟩
 |_=>⟨dV (Y' fr) Z_,[]⟩
def TJ (fr:List dE) (m:Option (List dE)):EN (ij fr m 0) ⟨1,tT,t0,fr⟩=ij fr m 1:=by
 unfold EN;rw [if_pos (show right ⟨1,tT,t0,fr⟩=Z' by kernel_rfl)];rfl
def step1 (fr:List dE) (m:Option (List dE)):(⟨Dk.look (ij fr m 1),[]⟩:Ds)=ij fr m 2:=by
 show (⟨gX (dV m Z_) ⟨1,tT,t0,fr⟩,[]⟩:Ds)=_
 rw [uq];rfl
def step2 (fr:List dE) (m:Option (List dE)):EN (ij fr m 2) ⟨2,tT,tM,[]⟩=ij fr m 3:=by
 unfold EN;rw [if_pos (show right ⟨2,tT,tM,[]⟩=Z' by kernel_rfl)];rfl
def TK (fr:List dE) (m:Option (List dE)):(⟨Dk.look (ij fr m 3),[]⟩:Ds)=ij fr m 4:=by
 show (⟨gX (dV m (Y' fr)) ⟨2,tT,tM,[]⟩,[]⟩:Ds)=_
 rw [wj];rfl
def oK {fr:List dE} {m:Option (List dE)} (hm:mq m) (hf:fr.length<=100000): ∀k,Fits 4 (ij fr m k)
 |0=>(jB hm .none).mono o_
 |1=>by
  refine Fits.mono (Fits.ui (o:=oW fr) (jB hm .none) ⟨show (4:Nat)<=maxLen by decide,show (0:Nat)<=maxLen by decide,hf⟩) o_
 |2=>(jB hm (.some hf)).mono o_
 |3=>by
  refine Fits.mono (Fits.ui (o:=oR) (jB hm (.some hf)) ⟨show (4:Nat)<=maxLen by decide,show (4:Nat)<=maxLen by decide,Nat.zero_le _⟩) o_
 |k+4=>(jB (.some hf) .none).mono o_
def kept (dy:List Int):Bool:=match dy with|z::_=>z !=0|[]=>WW
def qL (fr:List dE) (m:Option (List dE)) (k:Nat) (dy:List Int):Option (List dE):=if 4<=k\/(k=3/\kept dy=Z') then Y' fr else m
def qM (l:fH) (dy:List Int):i' l [] dy=l:=by
 show (([]:List oI).zip dy).foldl (λl p=>iS l p.1 p.2) l=l
 rw [XY];rfl
def sL (l:fH) (o:oI): ∀dy:List Int,i' l [o] dy=(match dy with|z::_=>iS l o z|[]=>l)
 |[]=>rfl
 |z::r=>by
  show (([o]:List oI).zip (z::r)).foldl (λl p=>iS l p.1 p.2) l=_
  rw [List.zip_cons_cons,XY];rfl
def Fg {fr:List dE} (m:Option (List dE)) (F:fr.length<=100000) (dy:List Int) (k:Nat): ∃t,i' (ij fr m k).fs (ij fr m k).op dy=dV (qL fr m k dy) t/\mq t:=by
 match k with
 |0=>exact ⟨Z_,qM _ _,.none⟩
 |1=>
  show∃t,i' (dV m Z_) [oW fr] dy=_/\_
  rw [sL]
  match dy with
  |[]=>exact ⟨Z_,rfl,.none⟩
  |z::r=>
   dsimp only
   unfold iS;split
   .exact ⟨Z_,rfl,.none⟩
   .unfold sM
    split
    .exact ⟨_,uq m Z_ _,.some (by show (fr.take _).length<=_;simp;omega)⟩
    .exact ⟨_,uq m Z_ _,.some F⟩
 |2=>exact ⟨Y' fr,qM _ _,.some F⟩
 |3=>
  show∃t,i' (dV m (Y' fr)) [oR] dy=_/\_
  rw [sL]
  match dy with
  |[]=>exact ⟨Y' fr,rfl,.some F⟩
  |z::r=>
   dsimp only
   unfold iS qL kept;by_cases G:z=0
   .subst G
    exact ⟨Y' fr,rfl,.some F⟩
   .rw [if_neg G,if_pos (.inr ⟨rfl,by simpa using G⟩)]
    refine ⟨Z_,?_,.none⟩;unfold sM;rw [if_neg (by rintro ⟨h,_⟩;cases h)];exact wj m fr
 |k+4=>
  refine ⟨Z_,?_,.none⟩;unfold qL;rw [if_pos (.inl o_)];exact qM _ _
end Ck
end
section
open _root_.Go.Proofs.Tryz Go.RowKit Go.Shelf Bs
namespace fC
attribute [local go_sem] Oper.semAt_some
def upto {α:Type} (f:Nat->α) (k:Nat):List α:=(List.range k).map f
def DI {α:Type} (f:Nat->α) (k:Nat):upto f (k+1)=upto f k++[f k]:=by simp [upto,List.range_succ]
def xA {α:Type} (f:Nat->α) (k:Nat):(upto f k).length=k:=by simp [upto]
def back (bs:List dE) (k:Nat):Nat×dE:=(bs.length - 1 - k,bs.getD (bs.length - 1 - k) 0#8)
def lG (n₀ Bx:Nat) (A B:WX):Prop:=Xc n₀ A B/\B.heap[Bx]?=A.heap[Bx]?
def lG.refl (n₀ Bx:Nat) (A:WX):lG n₀ Bx A A:=⟨Xu _ _,rfl⟩
def lG.trans {A B C:WX} (h:lG n₀ Bx A B) (k:lG n₀ Bx B C):lG n₀ Bx A C:=⟨h.1.trans k.1,k.2.trans h.2⟩
def MW (hn:n₀<=X_ (Y_ w)) (hx:Bx<X_ (Y_ w)) (W:WX) (l:Nat) (o o':Obj) (hl:X_ (Y_ w)<=l) (h:W.heap[l]?=Y' o) (h1:o.isCells=WW) (h2:o.isWalk=WW):lG n₀ Bx W (W.putObj l o'):=
 ⟨belowK_b hn W l o o' hl h h1 h2,(grownBy_putObj' W l o').block Bx (by have:=(Array.getElem?_eq_some_iff.1 h).1;omega) (λe=>by cases e;omega)⟩
def IN (F:Fence) (n:Nat) (h8:F.fn 258) (ap:F.round=Z_) (_hn:1<=n) (l X n₀ len aa:Nat) (ad:Xa) (bs:List dE) (I:bs.length=len) (ai:len<=140737488351232) (hb:ad.block<n₀) (J Jx:List (Nat×dE)->WX->Prop)
  (hY: ∀G x W,J G W->G.length<len->YieldAt F (n - 1) Xd l #[I_ J_ (x.1:Int),.int .u8 (n8 x.2)] W λe W'=>
   (e=R_ (B_ Z')/\J (G++[x]) W'/\lG n₀ X W W')\/(e=R_ (B_ WW)/\Jx (G++[x]) W'))
  (W:WX) (ar:W.cell? ⟨X,0,Z_⟩=Y' (S_ (Y' ad) len aa)) (hc:Bs W n₀ (Y' ad) len bs) (h0:J [] W):
  CallsIn F n Xd 258 #[.func (.yield l) #[] #[],P_ (Y' ⟨X,0,Z_⟩)] W λe W'=>(∃v,e=R_ v)/\
   ((∃ys,ys=upto (back bs) len/\J ys W')\/(∃G,(∃k,k<=len/\G=upto (back bs) k)/\Jx G W')):=by
 have af:=Hd I;clear I;refine callsIn_of_wp func258 rfl h8 ?_ ap;simp only [ntmps258,XD,Xo,XN,XS,XG,Xw,Xv,XE,Xz,Xx,XI]
 gi_wp2
 gi_loopw [3] (λi wr=> ∃k:Nat,k<=len/\i=I_ J_ ((len:Int) - 1 - k)/\J (upto (back bs) k) wr/\lG n₀ X W wr)
  (λi _=>(intOf i+1).toNat)
 .exact ⟨0,Nat.zero_le _,by simp,h0,lG.refl _ _ _⟩
 .obtain ⟨k,hk,rfl,ae,U⟩:=hrel
  have hbx:C wr X 0 (S_ (Y' ad) len aa):=(World.cell?_of_block (w:=W) U.2).trans ar;by_cases au:k<len
  .let ⟨m,hm⟩:=nm (len - 1 - k)
   let ⟨ak,b,hl,e1,_,ab,hcb⟩:=(hc.below U.1).at_ (k:=m) o_;obtain rfl:ad=ak:=by simpa using e1
   have V:back bs k=(m,b):=by
    unfold back;rw [af.o,<-hm,<-ab];simp [List.getD_eq_getElem?_getD,hl]
   have HS:Xb (upto (back bs) (k+1)=upto (back bs) k++[(m,b)]):=by show _=_;rw [DI,V]
   have O:(len:Int) - 1 - k=(m:Int):=o_;rw [O];clear ab V e1;have am:=Hd O;have hml:m<len:=o_;have Hm:=Hd hm;clear O hm;let ⟨fn,ax,ag,body,hy,hR⟩:=hY _ (m,b) wr ae (by rw [xA];exact au)
   dsimp only at hy
   gi_wp2
   refine hR.mono ?_;rintro e W3 (⟨rfl,al,ao⟩|⟨rfl,ac⟩)
   .gi_wp2
    go_roundw
    .exact ⟨k+1,o_,by have:=am.o;exact congrArg (XH .i64) o_,by rw [HS.o];exact al,U.trans ao⟩
    .simp [intOf]
   .gi_wp2
    refine bodyPost_ret (results_none rfl _ _ _) rfl ?_;exact ⟨⟨_,rfl⟩,.inr ⟨_,⟨k+1,o_,HS.symm⟩,ac⟩⟩
  .obtain rfl:k=len:=o_
   gi_wp2
   go_end0
   exact ⟨⟨_,rfl⟩,.inl ⟨_,rfl,ae⟩⟩
def MX (F:Fence) (n:Nat) (O:F.fn 207) (I:F.round=Z_) (a:Option Xa) (len G:Nat) (w:WX):
  CallsIn F n Xd 207 #[S_ a len G] w λe w'=>e=R_ (.func (.func 258) #[] #[P_ (Y' ⟨X_ (Y_ w),0,Z_⟩)])/\w'=w.alloc (.cells #[S_ a len G] 65):=by
 refine callsIn_of_wp func207 rfl O ?_ I;simp only [ntmps207,XD,Xo,XN,XS,XG,Xw,Xv,XE,Xz,Xx,XI]
 gi_wp2
 go_ret;exact ⟨rfl,rfl⟩
def ze (F:Fence) (n:Nat) (h8:F.fn 258) (hro:F.round=Z_) (hn:1<=n) (Bx n₀:Nat) (ad:Xa) (cap:Nat) (bs:List dE) (hreach:bs.length<=140737488351232) (w:WX) (hBs:Bx<X_ (Y_ w)) (hn₀:n₀<=X_ (Y_ w))
  (hc:w.cell? ⟨Bx,0,Z_⟩=Y' (S_ (Y' ad) bs.length cap)) (hI:Bs w n₀ (Y' ad) bs.length bs) (had:ad.block<n₀):
  SeqStopsK F n Xd 258 #[P_ (Y' ⟨Bx,0,Z_⟩)] (λx:Nat×dE=> #[XH .i64 (x.1:Int),XH .u8 (n8 x.2)]) (lG n₀ Bx) (λys=>ys=upto (back bs) bs.length)
   (λpre=> ∃k,k<=bs.length/\pre=upto (back bs) k) bs.length w:=λl J Jx W hW _ _ hY h0=>by
 have hc':=(hW.cell (p:=⟨Bx,0,Z_⟩) hBs).trans hc;exact IN F n h8 hro hn l Bx n₀ bs.length cap ad bs rfl hreach had J Jx hY W hc' (hI.below (hW.mono hn₀)) h0
def numOf (l:List (Nat×dE)):Int:=l.foldl (λn x=>n*256+n8 x.2) 0
def rK (l:List (Nat×dE)) (x:Nat×dE):numOf (l++[x])=numOf l*256+n8 x.2:=by unfold numOf;rw [XF];rfl
def xB (l:List (Nat×dE)):0<=numOf l/\numOf l<256^l.length:=by
 obtain h|⟨l',a,h⟩:=List.eq_nil_or_concat l
 .subst h;simp [numOf]
 .subst h
  have ih:=xB l';have hb:=lO a.2;rw [List.concat_eq_append,rK,Xi,List.length_singleton,Int.pow_succ];omega
termination_by l.length
decreasing_by subst h;simp
def xC {l:List (Nat×dE)} (h:l.length<=3):0<=numOf l/\numOf l<16777216:=by
 let ⟨G,F⟩:=xB l;refine ⟨G,Int.lt_of_lt_of_le F ?_⟩;have:l.length=0\/l.length=1\/l.length=2\/l.length=3:=o_;obtain e|e|e|e:=this<;>rw [e]<;>decide
def qj (n c:Int) (hn:0<=n) (hn1:n<16777216) (hc:0<=c) (hc1:c<=255):bits .or .i64 (n*256) c=n*256+c:=by
 obtain ⟨n,rfl⟩:=XJ hn;obtain ⟨c,rfl⟩:=XJ hc;have q:(((2^64:Nat)):Int)=18446744073709551616:=d_;have e:(XM 64 ((n:Int)*256)|||XM 64 (c:Int)).toNat=n*256+c:=by
  rw [BitVec.toNat_or,XV,XV];have G:((n:Int)*256%(((2^64:Nat)):Int)).toNat=2^8*n:=by rw [q];omega
  have F:((c:Int)%(((2^64:Nat)):Int)).toNat=c:=by rw [q];omega
  rw [G,F,<-Nat.two_pow_add_eq_or_of_lt o_];omega
 show IntKind.i64.wrap ((XM 64 ((n:Int)*256)|||XM 64 (c:Int)).toNat:Int)=_
 rw [e];exact Yg _ o_
def jy (bs:List dE):Int:=n8 (bs.getD 0 0#8)+256*n8 (bs.getD 1 0#8)+65536*n8 (bs.getD 2 0#8)+16777216*n8 (bs.getD 3 0#8)
def zf (bs:List dE) (h:bs.length=4):numOf (upto (back bs) 4)=jy bs:=by
 have e:upto (back bs) 4=[back bs 0,back bs 1,back bs 2,back bs 3]:=rfl;rw [e];unfold numOf jy back;rw [h];simp only [XO,List.foldl_nil,XG];omega
def DJ (F:Fence) (n:Nat) (h3:F.fn 145) (h5:F.fn 207) (h7:F.fn 258) (U:F.round=Z_) (hn:3<=n) (ad:Xa) (len G:Nat) (bs:List dE) (w:WX) (h4:4<=len) (hlc:len<=G) (hcm:G<=9223372036854775807) (hI:Bs w w.heap.size (Y' ad) len bs) (ac:ad.block<X_ (Y_ w)):
  CallsIn F n Xd 145 #[S_ (Y' ad) len G] w λe W'=>e=R_ (I_ J_ (jy (bs.take 4)))/\Bw w W':=by
 have h1:1<=n:=o_;have O:(bs.take 4).length=4:=by have:=hI.len;simp;omega
 have ae:Bs w w.heap.size (Y' ad) 4 (bs.take 4):=by
  obtain ⟨m,rfl⟩: ∃m,len=4+m:=⟨len - 4,o_⟩;exact Bs.front hI
 refine callsIn_of_wp_marks func145 rfl h3 ?_ U;simp only [ntmps145,XD,Xo,XN,XS,XG,Xw,Xv,XE,Xz,Xx,XI]
 gi_wp2_with (gi_at_call 207;refine (MX F (n - 1) h5 U _ _ _ _).mono ?_;rintro e w' ⟨rfl,rfl⟩)
 have bS:=Boxed.new w 3 (I_ J_ 0);have bN:=Boxed.new (w.alloc (.cells #[I_ J_ 0] 3)) 65 (S_ (Y' ad) 4 G);rw [XZ] at bN;have aa:Bw w ((w.alloc (.cells #[I_ J_ 0] 3)).alloc (.cells #[S_ (Y' ad) 4 G] 65)):=((Xu _ w).alloc l_ _).alloc y_ _;have V:=ze F (n - 1) h7 U o_ (X_ (Y_ w)+1) w.heap.size ad G (bs.take 4) o_ ((w.alloc (.cells #[I_ J_ 0] 3)).alloc (.cells #[S_ (Y' ad) 4 G] 65)) y_ z_ (by rw [O];exact bN.cell) (by rw [O];exact ae.below aa) ac;rw [O] at V;refine wpIn_rangeFunc_ownG U h1 (gf:=258) (lb:= #[P_ (Y' ⟨X_ (Y_ w)+1,0,Z_⟩)]) rfl h7 (enters_of func258 k_ rfl)
  V lG.trans (MW z_ y_) b_ (λ_=>rfl)
  (λI W=>(C W w.heap.size 0 (I_ J_ (numOf I))/\W.frozen? ⟨X_ (Y_ w),0,Z_⟩=WW)/\Bw w W)
  (λ_ _ _=>False)
  (OwnFrom.and (Own.from (λs A B row hs hg hr=>⟨cell_kept hs.1 hg hr,(frozen_kept hs.1 hg hr).trans hs.2⟩) _) (ownFrom_below l_ z_))
  (λ_ _ _ _ _ hs _ _=>hs)
  ⟨⟨(bS.alloc _).cell,(bS.alloc _).frozen⟩,aa⟩
  (λx=>{tmps:= #[S_ (Y' ad) len G,undef,I_ J_ 0,P_ (Y' ⟨X_ (Y_ w),0,Z_⟩),undef,.int .u8 (n8 x.2),S_ (Y' ad) len G,S_ (Y' ad) 4 G,.func (.func 258) #[] #[P_ (Y' ⟨X_ (Y_ w)+1,0,Z_⟩)],I_ J_ (x.1:Int),.int .u8 (n8 x.2),undef,undef,undef,undef,undef,undef],defers:=[]}) ?assign ?body ?done ?stop
 case assign=>
  intro l x W K hK
  gi_wp2
  exact hK
 case body=>
  rintro l I x W ⟨⟨hc,hf⟩,hB⟩ hlt;let ⟨m0,m1⟩:=xC (l:=I) o_;let ⟨b0,b1⟩:=lO x.2;have ho:=qj (numOf I) (n8 x.2) m0 m1 b0 b1;have hs:=rK I x;have Hs:=Hd hs;clear hs;generalize numOf I=N at*;generalize n8 x.2=X at*
  gi_wp2
  exact ⟨(KeepsOthers.setCell _ _ _).from _,⟨(Xu w.heap.size W).setCell (p:=⟨X_ (Y_ w),0,Z_⟩) l_ _,Below.heap_setCell _ _ _ _ y_⟩,⟨by rw [Hs.o];exact World.cell?_setCell_same' _ _ _ (by rw [hc];rfl),by rw [World.frozen?_setCell];exact hf⟩,hB.setCell (p:=⟨X_ (Y_ w),0,Z_⟩) l_ _⟩
 case done=>
  rintro D ys W hD rfl ⟨⟨hc,_⟩,hB⟩ hK;rw [zf _ O] at hc
  gi_wp2
  refine ⟨by simp,.inl ⟨_,_,rfl,run_takeDeferred hK,?_⟩⟩;exact ⟨_,results_tmp rfl _ _ _,rfl,hB.trans (belowK_b (w:=w) l_ W D _ _ (by simp at hD;omega) hK rfl rfl)⟩
 case stop=>
  rintro D c I W _ _ h _;exact h.elim
def gM (ad:Xa) (len cap:Nat) (bs:List dE) (w:WX) (h4:4<=len) (hlc:len<=cap) (hcm:cap<=9223372036854775807) (hI:Bs w w.heap.size (Y' ad) len bs) (had:ad.block<X_ (Y_ w)):
  WZ Xd 145 #[S_ (Y' ad) len cap] w λe W'=>e=R_ (I_ J_ (jy (bs.take 4)))/\Bw w W':=
 (callsIn_wide (n:=3)).1 (DJ Fence.wide 3 trivial trivial trivial rfl d_ ad len cap bs w h4 hlc hcm hI had)
end fC
end
section
open _root_.Go.Proofs.Tryz Go.RowKit Bs
namespace fC
def mU (z:WY) (F:z.cells= #[z]) (n:Nat):(Xl z.cells n).toList=XB n z:=by
 rw [F];apply List.ext_getElem
 .simp [Xl]
 .intro i h1 h2
  simp [Xl,Nat.mod_one]
def pU (w:WX) (t tx ty e:TypeId) (i:TypeInfo) (z:WY) (ht:P.underlying t=Y' (.slice e)) (aa:P.underlying tx=Y' (.int .i64)) (hi:P.info? e=Y' i) (hz:i.zero=Y' z) (F:z.cells= #[z]) (O:i.size=1) (G:i.bytes=1)
  (n:Nat) (h0:0<n) (hn:n<=140737488355328):
  ∃I w',(Xq #[t,tx] ty #[S_ Z_ 0 0,I_ J_ (n:Int)]).run P w= .ok (S_ (Y' ⟨X_ (Y_ w),0,Z_⟩) n I) w'/\w'.ownsRow w.heap.size e 1 (S_ (Y' ⟨X_ (Y_ w),0,Z_⟩) n I) n (XB n z)/\Bw w w':=by
 have hw:IntKind.i64.wrap (n:Int)=n:=Yg _ o_;have h1: ¬((n:Int)<0):=o_;have h2: ¬(281474976710656<(n:Int)*(i.bytes:Int)):=by rw [G];omega
 have h3: ¬(n<=0):=o_;have h4: ¬(9223372036854775807<(n:Int)):=o_;have h5:XR n 0=n:=nextslicecap_zero h0;have h6: ¬(281474976710656<XR n 0*i.bytes):=by rw [h5,G];omega
 have h7:n*i.size≠0:=by rw [O];omega
 have h8: ¬(n=0):=o_;have h9: ¬((n:Int)<=0):=o_;have U:max (n:Int) 0=n:=o_;refine ⟨grownCap w n 0 e,w.drew.alloc (.cells (Xl z.cells n++Xl z.cells (grownCap w n 0 e - n)) e),?_,?_,b_.drew.alloc l_ _⟩
 .simp [Xq,run_underlying ht,run_underlying aa,sizeOf,typeInfo,zeroValue,hi,hz,hw,h1,h2,h4,h6,h8,O,h9,U,Builtin.firstCells,Question.forced,newRow,grownCap,asInt,asIntOf]
 .have X:=grownCap_ge w n 0 e
  have V:=grownCap_le_maxLen w n 0 e e_;refine ⟨by simp,.inr ⟨X_ (Y_ w),grownCap w n 0 e,_,rfl,XC _,heap_alloc_new _ _,X,V,?_,?_⟩⟩
  .simp [Xl,F];omega
  .rw [Array.toList_append,mU z F,mU z F,Nat.mul_one,List.take_append_of_le_length y_]
   simp
def xQ {o:Oper} {Q:Exit->Act->WX->Prop} {z:WY} (I:o.guard=Z_)
  (ho:o.op= .call {callee:= .builtin .append,args:= #[s,x],argTypes:= #[t,U]}) (hv:a.eval s=S_ Z_ 0 0) (X:a.eval x=I_ J_ (n:Int))
  (G: ∃F w',(Xq #[t,U] o.type #[S_ Z_ 0 0,I_ J_ (n:Int)]).run P w= .ok (S_ (Y' ⟨X_ (Y_ w),0,Z_⟩) n F) w'/\w'.ownsRow w.heap.size e 1 (S_ (Y' ⟨X_ (Y_ w),0,Z_⟩) n F) n (XB n z)/\Bw w w')
  (h: ∀F w',F<=9223372036854775807->w'.ownsRow w.heap.size e 1 (S_ (Y' ⟨X_ (Y_ w),0,Z_⟩) n F) n (XB n z)->Bw w w'->wpList P ops Q rest (a.put o.dst (S_ (Y' ⟨X_ (Y_ w),0,Z_⟩) n F)) w'):wpList P ops Q (o::rest) a w:=by
 obtain ⟨F,w',G,O,V⟩:=G;refine wpList_plain I λ_ hK=>?_
 unfold Yi execOp;simp only [ho,resolve,invoke,builtin,Sem.run_bind,Sem.run_pure,XX,Yb,List.map_cons,List.map_nil,hv,X,G];refine hK _ _ (h F w' ?_ O V)
 show F<=_
 let ⟨A',c',e1,_,_,_,hm⟩:=Mem.nE O;obtain ⟨_,_,rfl⟩:Y' (⟨X_ (Y_ w),0,Z_⟩:Xa)=A'/\n=n/\F=c':=by simpa using e1
 unfold maxLen at hm;omega
def Jj (n:Nat) (W:WX) (e:Ending) (w':WX):Prop:= ∃A' c',e=R_ (S_ A' 0 c')/\Own w' W.heap.size A' 0 c' []/\Bw W w'
def DT {B F:Nat} (h:w.ownsRow B e 1 (S_ (Y' ⟨g,0,Z_⟩) n F) n xs):w.ownsRow B e 1 (S_ (Y' ⟨g,0,Z_⟩) 0 F) 0 []:=by
 let ⟨_,U⟩:=h;obtain ⟨h,_⟩|⟨g',I,G,O,X,V,_,hm,hc,_⟩:=U
 .simp at h
 .simp only [Value.slice.injEq,Option.some.injEq,Addr.mk.injEq,and_true,true_and] at O
  obtain ⟨rfl,rfl⟩:=O;exact ⟨by simp,.inr ⟨g,F,G,rfl,X,V,o_,hm,hc,by simp⟩⟩
def Sp (n:Nat) (w:WX) (hn:n<=140737488355328):WZ Xd 277 #[S_ Z_ 0 0,I_ J_ (n:Int)] w (Jj n w):=by
 by_cases X:n=0
 .subst X
  go_enter func277,ntmps277;go_wp2;go_ret;exact ⟨Z_,0,rfl,Mem.qb,Xu _ _⟩
 .have h1:0<n:=o_
  clear X;let ⟨i,hi,U,O,I⟩:=info_parts (P:=Xd) (e:=5) (z:= .int .u8 0) (size:=1) (bytes:=1) k_;have V:=pU (P:=Xd) w 65 3 65 5 i (.int .u8 0) underlying65 underlying3 hi U rfl O I n h1 hn;have Hr:=Hd V;clear hi U O I V;go_enter func277,ntmps277;go_wp2_with (at_builtin;refine xQ rfl rfl rfl rfl Hr ?_;intro cap w' hle F hb;have G:=Hd F;clear F)
  go_ret;exact ⟨_,_,rfl,DT G,hb⟩
def Ji (A:Option Xa) (n c:Nat) (L:List Row) (w:WX) (hR:Vb w w.heap.size A n L) (hn:n<=1000) (ao:(all L).length<=140737488355328):
  WZ Xd 220 #[S_ A n c] w (vw (all L).length (all L) w):=by
 have U:Xb (L.length=n):=by have:=hR.1.1;show _=_;simpa using this
 go_enter func220,ntmps220;go_wp2
 go_loop [3,11] (λv3 ar=> ∃k:Nat,k<=n/\ar=I_ J_ k/\v3=I_ J_ ((all (L.take k)).length:Int)) (λ_ i=>n - (intOf i).toNat)
 .exact ⟨0,o_,rfl,rfl⟩
 .obtain ⟨k,hk,rfl,rfl⟩:=hrel
  by_cases av:k<n
  .obtain ⟨ad,hl,rfl,ag,hc⟩:=hR.1.at_ av
   have O:k<L.length:=by have:=U.o;omega
   let ⟨F,aa⟩:=hR.2 _ (g_ O);have G:(all (L.take (k+1))).length=(all (L.take k)).length+L[k].2.1:=by
    unfold all;rw [Mem.dQ _ _ O,Xp,Xi,<-F.len];simp
   have I:(all (L.take (k+1))).length<=(all L).length:=by
    have e:all L=all (L.take (k+1))++all (L.drop (k+1)):=by unfold all;rw [<-Xp,Xj]
    rw [e,Xi];omega
   rw [Xt] at hc;have HS:=Hd G;rw [G] at I;clear G;generalize (all (L.take k)).length=p at*;generalize L[k]=x at*;obtain ⟨A',n',c',bs⟩:=x;simp only at hc F aa I HS;go_wp2
   go_round
   .exact ⟨k+1,o_,by go_num,by rw [HS.o];go_num⟩
   .simp [intOf];omega
  .obtain rfl:k=n:=o_
   have e:L.take k=L:=t_ (by have:=U.o;omega);rw [e];clear e;go_wp2_with fail;refine (Sp (all L).length _ ao).mono ?_;rintro e w1 ⟨A1,c1,rfl,O1,ac⟩;have ak:=hR.below ac;go_wp2;go_loopw [6,27] (λv6 au wr=> ∃j:Nat,j<=k/\au=I_ J_ j/\Bw w wr/\ ∃A' c',v6= .slice A' (all (L.take j)).length c'/\Own wr w.heap.size A' (all (L.take j)).length c' (all (L.take j))) (λ_ i _=>k - (intOf i).toNat)
   .exact ⟨0,o_,rfl,ac,A1,c1,rfl,O1⟩
   .clear ac O1 ak
    obtain ⟨j,hj,rfl,V,A2,c2,rfl,O2⟩:=hrel;have ah:=hR.below V;by_cases al:j<k
    .obtain ⟨ad,hl,rfl,ag,hc⟩:=ah.1.at_ al
     have O:j<L.length:=by have:=U.o;omega
     let ⟨F,aa⟩:=ah.2 _ (g_ O);have G:all (L.take (j+1))=all (L.take j)++L[j].2.2.2:=by
      unfold all;rw [Mem.dQ _ _ O,Xp];simp
     have I:(all (L.take (j+1))).length<=(all L).length:=by
      have e:all L=all (L.take (j+1))++all (L.drop (j+1)):=by unfold all;rw [<-Xp,Xj]
      rw [e,Xi];omega
     rw [Xt] at hc;have HS:=Hd G;rw [G] at I;clear G;generalize all (L.take j)=pre at*;generalize L[j]=x at*;obtain ⟨A',n',c',bs⟩:=x;simp only at hc F aa I HS;have ab:bs.length=n':=F.len;rw [Xi,ab] at I;have an:=Hd ab;clear ab;have am:=V.size;go_wp2_with (at_builtin;refine Mem.dS rfl rfl NZ (base:=X_ (Y_ w)) O2 rfl rfl F (Fe _) (N:=pre.length+n') (ys:=(pre++bs).map bv) rfl y_ e_ o_ o_ ?_;intro A3 c3 w3 O3 ap ay)
     have X:Xb ((pre++bs).length=pre.length+n'):=by show _=_;rw [Xi,an.o]
     go_roundw
     .exact ⟨j+1,o_,by go_num,V.grown ap am (λk hk=>(World.ownsRow.lt O2 k hk).1),A3,c3,by rw [HS.o,X.o],by rw [HS.o,X.o];exact O3⟩
     .simp [intOf];omega
    .obtain rfl:j=k:=o_
     have e:L.take j=L:=t_ (by have:=U.o;omega);rw [e] at O2 |-;clear e;go_wp2;go_ret;exact ⟨A2,c2,rfl,O2,V⟩
end fC
end
section
open _root_.Go.Proofs.Tryz Bs
namespace fC
def mQ:List dE:=[66#8,76#8,71#8,49#8]
def qP (n:Int):W:=BitVec.ofNat 32 n.toNat
def inner (v:Int) (body:List dE):List dE:=mQ++(rV (qP v)++(rV (qP body.length)++body))
def frame (v:Int) (body:List dE):List dE:=put (inner v body)
def Ku (l:List dE):(put l).length=l.length+4:=by simp [put,rV]
def sP (l:List dE):(put l).take l.length=l:=by unfold put;exact List.take_left
def mr (v:Int) (body:List dE):(inner v body).length=body.length+12:=by simp [inner,mQ,rV]
def mu (v:Int) (body:List dE):(frame v body).length=body.length+16:=by unfold frame;rw [Ku,mr]
def oO (x:W) (k:Nat):n8 ((x>>>k).setWidth 8)=n32 x/(2^k:Nat)%256:=by
 rw [zP];unfold n8 n32;rw [XP];omega
def zT (x:W):n8 (x.setWidth 8)=n32 x%256:=by
 unfold n8 n32;rw [XP];omega
def sQ (x:W):jy (rV x)=n32 x:=by
 have U:=zT x;have F:=oO x 8;have I:=oO x 16;have X:=oO x 24;have hb:=qJ x;unfold jy rV;simp only [List.getD_cons_zero,List.getD_cons_succ];rw [U,F,I,X];have V:((2^8:Nat):Int)=256:=d_;have G:((2^16:Nat):Int)=65536:=d_;have O:((2^24:Nat):Int)=16777216:=d_;rw [V,G,O];omega
def qk {n:Int} (h0:0<=n) (h1:n<=4294967295):n32 (qP n)=n:=by unfold n32 qP;rw [BitVec.toNat_ofNat,Nat.mod_eq_of_lt o_];omega
def Fs (l:List dE):0<=jy l/\jy l<=4294967295:=by
 have h0:=lO (l.getD 0 0#8);have h1:=lO (l.getD 1 0#8);have h2:=lO (l.getD 2 0#8);have h3:=lO (l.getD 3 0#8);unfold jy;omega
def sR (l:List dE) (h:l.length=4):rV (qP (jy l))=l:=by
 match l,h with
 |[a,b,c,d],_=>
  let ⟨q0,q1⟩:=Fs [a,b,c,d];have e:n32 (qP (jy [a,b,c,d]))=n8 a+256*n8 b+65536*n8 c+16777216*n8 d:=qk q0 q1;have ha:=lO a;have hb:=lO b;have hc:=lO c;have hd:=lO d;generalize qP (jy [a,b,c,d])=x at*;have aa:=zT x;have F:=oO x 8;have I:=oO x 16;have U:=oO x 24;have e1:((2^8:Nat):Int)=256:=d_;have G:((2^16:Nat):Int)=65536:=d_;have O:((2^24:Nat):Int)=16777216:=d_;rw [e1] at F;rw [G] at I;rw [O] at U;rw [e] at aa F I U;have X:x.setWidth 8=a:=qK (by rw [aa];omega);have r1:(x>>>8).setWidth 8=b:=qK (by rw [F];omega);have r2:(x>>>16).setWidth 8=c:=qK (by rw [I];omega);have V:(x>>>24).setWidth 8=d:=qK (by rw [U];omega);unfold rV;rw [X,r1,r2,V]
def fT (b:List dE):List dE:=b.take (b.length - 4)
def jM (b:List dE):Int:=jy (((fT b).drop 4).take 4)
def lenOf (b:List dE):Int:=jy (((fT b).drop 8).take 4)
def eQ (b:List dE):List dE:=(fT b).drop 12
def ji (b:List dE):Bool:=jY b&&decide (16<=b.length)&&decide ((fT b).take 4=mQ)&&decide (lenOf b=(b.length:Int) - 16)&&decide (b.length<=1048592)
def yu (b:List dE) (h:4<=b.length):(fT b).length=b.length - 4:=by unfold fT;simp
def Kv (x:List dE) (h:12<=x.length):x=x.take 4++((x.drop 4).take 4++((x.drop 8).take 4++x.drop 12)):=by
 have G:x.drop 12=(x.drop 8).drop 4:=by rw [List.drop_drop]
 have F:x.drop 8=(x.drop 4).drop 4:=by rw [List.drop_drop]
 rw [G,Xj,F,Xj,Xj]
def lp (v:Int) (body:List dE):fT (frame v body)=inner v body:=by
 unfold fT;rw [mu];have:=sP (inner v body);rw [mr] at this;exact this
def wB (v:Int) (body:List dE):(inner v body).take 4=mQ/\((inner v body).drop 4).take 4=rV (qP v)/\((inner v body).drop 8).take 4=rV (qP body.length)/\(inner v body).drop 12=body:=by
 unfold inner mQ rV;refine ⟨rfl,rfl,rfl,rfl⟩
def Ft (v:Int) (body:List dE) (O:0<=v) (G:v<=4294967295) (hb:body.length<=1048576):
  ji (frame v body)=Z'/\jM (frame v body)=v/\eQ (frame v body)=body:=by
 let ⟨p1,p2,p3,I⟩:=wB v body;have F:=mu v body;refine ⟨?_,?_,?_⟩
 .unfold ji lenOf
  rw [lp,p1,p3,F,sQ,qk o_ o_];have hc:jY (frame v body)=Z':=by
   rw [yv (m:=body.length+12) (by rw [F])];have:=sP (inner v body);rw [mr] at this;unfold frame;rw [this];simp
  rw [hc];simp;omega
 .unfold jM;rw [lp,p2,sQ,qk O G]
 .unfold eQ;rw [lp,I]
def ER {b:List dE} (h:ji b=Z'):16<=b.length/\b.length<=1048592/\(eQ b).length=b.length - 16/\frame (jM b) (eQ b)=b:=by
 unfold ji at h;simp only [Yc,decide_eq_true_eq] at h;let ⟨⟨⟨⟨I,V⟩,h3⟩,X⟩,h5⟩:=h;have F:=yu b o_;have G:(eQ b).length=b.length - 16:=by unfold eQ;simp [F];omega
 refine ⟨V,h5,G,?_⟩;have O:=Kv (fT b) o_;have e1:rV (qP (jM b))=((fT b).drop 4).take 4:=sR _ (by simp [F];omega);have U:rV (qP ((eQ b).length:Nat))=((fT b).drop 8).take 4:=by
  have:((eQ b).length:Int)=lenOf b:=by rw [X,G];omega
  rw [this];exact sR _ (by simp [F];omega)
 unfold frame inner;rw [e1,U,<-h3];have:eQ b=(fT b).drop 12:=rfl;rw [this,<-O];unfold jY at I;simp only [Yc,decide_eq_true_eq] at I;exact I.2
end fC
end
section
open Go.RowKit Bs
namespace fC
def Jf (n:Int) (h0:0<=n) (h1:n<=4294967295):[XH .u8 (IntKind.u8.wrap n),.int .u8 (IntKind.u8.wrap (n/256)),.int .u8 (IntKind.u8.wrap (n/65536)),.int .u8 (IntKind.u8.wrap (n/16777216))]=(rV (qP n)).map bv:=by
 have e:=qk h0 h1;have aa:=b0 (qP n);have F:=bk (qP n) 8;have I:=bk (qP n) 16;have U:=bk (qP n) 24;have e1:((2^8:Nat):Int)=256:=by decide
 have G:((2^16:Nat):Int)=65536:=by decide
 have O:((2^24:Nat):Int)=16777216:=by decide
 rw [e1] at F;rw [G] at I;rw [O] at U;rw [e] at aa F I U;rw [aa,F,I,U];rfl
def Nx (n:Int) (h0:0<=n) (h1:n<=4294967295):[XH .u8 (n%256),.int .u8 (n/256%256),.int .u8 (n/65536%256),.int .u8 (n/16777216%256)]=(rV (qP n)).map bv:=by
 rw [<-Jf n h0 h1];have hw: ∀z:Int,IntKind.u8.wrap z=z%256:=by
  intro z;exact Ff
 simp only [hw]
def Ny (n:Int) (h0:0<=n) (h1:n<=4294967295):[XH .u8 (n%256),.int .u8 (n/256%256),.int .u8 (n/65536%256),.int .u8 (n/16777216)]=(rV (qP n)).map bv:=by
 rw [<-Nx n h0 h1];have:n/16777216%256=n/16777216:=by omega
 rw [this]
def Jg (n:Int) (w:WX) (e:Ending) (w':WX):Prop:=e=R_ (S_ (Y' ⟨X_ (Y_ w),0,Z_⟩) 4 4)/\Bs w' w'.heap.size (Y' ⟨X_ (Y_ w),0,Z_⟩) 4 (rV (qP n))/\Xc w.heap.size w w'
def pq (n:Int) (w:WX) (h0:0<=n) (h1:n<=4294967295):WZ Tryz.prog 221 #[I_ J_ n] w (Jg n w):=by
 have hv:=Lib.hid (Ny n h0 h1);go_enter Tryz.func221,Tryz.ntmps221;go_wp2;go_ret;exact ⟨rfl,RY rfl hv.o,(Xu _ _).alloc (XC _) _⟩
def Jh (v:Int) (body:List dE) (W:WX) (e:Ending) (w':WX):Prop:=
 ∃A' c',e=R_ (U_ #[S_ A' (body.length+16) c',I_ J_ 0])/\Own w' W.heap.size A' (body.length+16) c' (frame v body)/\Xc W.heap.size W w'
set_option maxRecDepth 100000 in
set_option maxHeartbeats 1000000 in
theorem Ru (v:Int) (A:Option Xa) (n c:Nat) (body:List dE) (w:WX) (h0:0<=v) (h1:v<=4294967295) (hn:n<=1048576) (h:Bs w w.heap.size A n body):
  WZ Tryz.prog 162 #[I_ J_ v,S_ A n c] w (Jh v body w):=by
 have hln:=Lib.hid h.len;have kc:=λ(w:WX) (C:Array WY) (n c:Nat)=>Lib.run_convert_bytes_const (P:=Tryz.prog) w 65 5 C n c Tryz.underlying65 Tryz.underlying5
 go_enter Tryz.func162,Tryz.ntmps162;go_wp2_with fail;clear kc;refine (pq v _ h0 h1).mono ?_;rintro e w1 ⟨rfl,B1,hb1⟩;rw [XZ] at B1;have M1:Bs w1 (X_ (Y_ w)+1) (Y' ⟨X_ (Y_ w),0,Z_⟩) 4 mQ:=(RZ (w:=w) (cs:= #[.int .u8 66,.int .u8 76,.int .u8 71,.int .u8 49]) (t:=5) (fz:=(4,5)) (n:=4) (bs:=mQ) rfl rfl rfl).below (by simpa using hb1);have L1:Xc w.heap.size w w1:=((Xu _ _).alloc (XC _) _).trans (hb1.mono y_);have z1:X_ (Y_ w)+1<=X_ (Y_ w1):=by have:=hb1.size;simpa using this
 clear hb1;go_wp2_with fail;refine (pq (n:Int) _ (by omega) (by omega)).mono ?_;rintro e w2 ⟨rfl,B2,hb2⟩;have M2:=M1.on hb2 z1;have K2:=B1.below hb2;have L2:Xc w.heap.size w w2:=L1.trans (hb2.mono (by omega));have z2:=hb2.size;clear hb2 M1 B1 L1;go_wp2_with fail;have e3:all [(Y' ⟨X_ (Y_ w),0,Z_⟩,4,4,mQ),(Y' ⟨X_ (Y_ w)+1,0,Z_⟩,4,4,rV (qP v)),(Y' ⟨X_ (Y_ w1),0,Z_⟩,4,4,rV (qP (n:Int))),(A,n,c,body)]=inner v body:=by
  unfold all inner;simp [hln.o]
 have hil:(inner v body).length=n+12:=by rw [mr,hln.o]
 refine (Ji _ 4 4 [(Y' ⟨X_ (Y_ w),0,Z_⟩,4,4,mQ),(Y' ⟨X_ (Y_ w)+1,0,Z_⟩,4,4,rV (qP v)),(Y' ⟨X_ (Y_ w1),0,Z_⟩,4,4,rV (qP (n:Int))),(A,n,c,body)] _ ?lit1 (by decide) (by rw [e3,hil];omega)).mono ?_
 .refine ⟨(Mem.gV (n:=4) rfl rfl rfl).more y_,λx hx=>?_⟩
  simp only [List.mem_cons,List.not_mem_nil,or_false] at hx;obtain rfl|rfl|rfl|rfl:=hx
  .exact ⟨(M2.alloc (by omega) _).more z_,by simp⟩
  .exact ⟨(K2.alloc (by omega) _).more z_,by simp⟩
  .exact ⟨(B2.alloc (by omega) _).more y_,by simp⟩
  .exact ⟨((h.below L2).alloc L2.size _).more (by have:=L2.size;simp;omega),by show n<=_;omega⟩
 rw [e3,hil];rintro e w3 ⟨A3,c3,rfl,O3,hb3⟩;have L3:Xc w.heap.size w w3:=(L2.alloc L2.size _).trans (hb3.mono (by have:=L2.size;simp;omega));clear hb3 L2 M2 K2 B2 e3;go_wp2_with fail;refine (Ax A3 (n+12) c3 (inner v body) _ O3.bs (by omega)).mono ?_;rintro e w4 ⟨A4,c4,rfl,O4,hb4⟩;have L4:Xc w.heap.size w w4:=L3.trans (hb4.mono L3.size);go_wp2
 go_ret2
 refine ⟨A4,c4,by rw [hln.o];rfl,?_,L4⟩;rw [hln.o];exact lg O4 L3.size
end fC
end
end Go.Proofs.YtkidababfdehlaaGreatDoor
