/- Parts of the walk. -/
import Derived.Test.YtkidababfdehlaaGreatDoorRows
import Derived.Lib.Hide
import Derived.Deep.AppendLies
import Derived.Deep.RegionHeld3
import Derived.Shelf.SlGeneric
import Derived.BigQuiet
import Derived.WalkLawsBesides
import Derived.WalkSpells
import Derived.Deep.RegionLaw
import Derived.Deep.DeepCutAuto
import Derived.StillTailTactics
import Derived.ProofKit
import Derived.OpenShut
import Derived.ShutString
import Derived.Deep.Slices
import Derived.Lib.AppendZerosOnto
import Derived.Lib.Overlaps
set_option linter.all false
set_option maxRecDepth 100000
set_option maxHeartbeats 64000000
theorem Go.RowKit.Hid.o{p:Prop}(h:Go.RowKit.Hid p):p:=h
namespace Go.Proofs.YtkidababfdehlaaGreatDoor
open Value renaming int -> I_,bool -> B_,string -> T_,slice -> S_,pointer -> P_,tuple -> U_,agg -> A_
open IntKind renaming i64 -> J_
open Ending renaming returned -> R_
open Option renaming some -> X_,none -> Y_
open Bool renaming true -> Y',false -> Z_,and_eq_true -> XF
open Go renaming World -> Z',Value -> WW,Addr -> WX
open Go.RowKit renaming Below -> WY
open List renaming toArray -> WZ,take_append_of_le_length -> Xb,eq_nil_of_length_eq_zero -> Xc,length_append -> Xh,drop_of_length_le -> Xi,append_nil -> Xn,length_drop -> Xr,take_take -> Xu,mem_singleton -> Xv,flatten_cons -> Xz,map_toArray -> XD,length_take -> XE,mem_map -> XH,map_cons -> XN,size_toArray -> XW,map_nil -> XX,ext_getElem? -> XY,length_cons -> Ya,nil_append -> Yc
open Go.Builtin renaming append_ -> Xa,zeroCells -> Xf,firstCells -> Xp,copy_ -> XB,lenOf -> XO,clear_ -> Yd
open BitVec renaming getLsbD_shiftLeft -> Xd,getElem_eq_testBit_toNat -> Xk,ofInt -> Xm,getLsbD_ushiftRight -> Xw,getLsbD -> XL
open Nat renaming mul_le_mul_right -> Xe,add_mul -> Xj,eq_zero_or_pos -> Xo,le_refl -> Xy,min_eq_left -> XI,sub_mul -> XK,add_assoc -> XM,lt_of_lt_of_le -> XP,lt_or_ge -> XV
open Go.Region renaming wanted -> Xg,ready -> XU,noSelect -> Yb
open _root_.Array renaming length_toList -> Xl,size_append -> XA
open Option.some renaming injEq -> Xq
open Go.RowKit.Below renaming heap_alloc -> Xs,heap_setCell -> XQ
open Go.DataW renaming TrodAll -> Xt
open Go.Result renaming andThen_ok -> Xx
open Go.Addr.mk renaming injEq -> XC
open Go.Oper renaming wp -> XG
open Go.Value renaming slice -> XJ,okWide -> XR,int -> Ye
open Go.Sem renaming run_pure -> XS,run_bind -> XT
open Go.Addr renaming add -> XZ
variable {a:Act} {ad:WX} {L:Array Bool} {fs:Array Field} {ops:Array Oper} {args cs:Array WW} {b fn:Func} {f:FuncId} {before:List MemPlace} {rest:List Oper} {O l vs xs ys zs:List WW} {bytes c cc g g2 i id j k k2 m n off size:Nat} {fz:Nat×Nat} {s x:Operand} {A A2:Option WX} {P:Program} {q:Prop} {E U dst e src t tb tn ty:TypeId} {u v v' v1 v10 v11 v12 v13 v14 v15 v16 v17 v18 v19 v2 v20 v3 v4 v5 v6 v7 v8 v9:WW}
section
open Go.RowKit
namespace Mem
def ew (a:WX) (n:Nat):(a.add n).block=a.block:=by unfold XZ;split<;>rfl
def add_add (a:WX) (i j:Nat):(a.add i).add j=a.add (i+j):=by
 unfold XZ;by_cases hi:i=0<;>by_cases hj:j=0<;>simp [hi,hj,XM]
def Cells (w:Z') (ad:WX) (xs:List WW):Prop:= ∀(j:Nat) (h:j<xs.length),w.cell? (ad.add j)=X_ xs[j]
def Sl (w:Z') (B size:Nat) (A:Option WX) (n:Nat) (xs:List WW):Prop:=
 xs.length=n*size/\(0<n-> ∃ad,A=X_ ad/\ad.block<B/\Cells w ad xs)
section
variable {w w':Z'} {B B' size n:Nat} {A:Option WX} {ad:WX} {xs ys:List WW}
def Cells.dy (h:Cells w ad xs) (hk: ∀p:WX,p.block=ad.block->w'.cell? p=w.cell? p):Cells w' ad xs:=
 λj hj=>(hk _ (ew ad j)).trans (h j hj)
def iO (b i:Nat):(XZ ⟨b,0,Y_⟩ i)=⟨b,i,Y_⟩:=by
 unfold XZ;split
 .subst_vars;rfl
 .simp
def Cells.of_block (h:w.heap[g]?=X_ (.cells cs t fz)):Cells w ⟨g,0,Y_⟩ cs.toList:=by
 intro j hj;have hj':j<cs.size:=by simpa using hj
 rw [iO];simp [World.cell?,h,Array.getElem?_eq_getElem hj']
def Cells.new (w:Z') (cs:Array WW) (t:TypeId) (fz:Nat×Nat):Cells (w.alloc (.cells cs t fz)) ⟨w.heap.size,0,Y_⟩ cs.toList:=
 Cells.of_block (heap_alloc_new w _)
def Sl.nil:Sl w B size A 0 []:=⟨by simp,λh=>absurd h (by omega)⟩
def Sl.dy (h:Sl w B size A n xs) (hk: ∀p:WX,p.block<B->w'.cell? p=w.cell? p):Sl w' B size A n xs:=
 ⟨h.1,λhn=>by
  let ⟨ad,e,hb,hc⟩:=h.2 hn;exact ⟨ad,e,hb,hc.dy λp hp=>hk p (by omega)⟩⟩
def Sl.more (h:Sl w B size A n xs) (hB:B<=B'):Sl w B' size A n xs:=
 ⟨h.1,λhn=>by
  let ⟨ad,e,hb,hc⟩:=h.2 hn;exact ⟨ad,e,by omega,hc⟩⟩
def Sl.below (h:Sl w B size A n xs) (hb:WY B w w'):Sl w' B size A n xs:=h.dy λ_ hp=>hb.cell hp
def Sl.drew (h:Sl w B size A n xs):Sl w.drew B size A n xs:=h
def Sl.alloc (h:Sl w B size A n xs) (hB:B<=w.heap.size) (o:Obj):Sl (w.alloc o) B size A n xs:=h.dy λp hp=>World.cell?_alloc_lt w o p (by omega)
def Sl.at_ (h:Sl w B 1 A n xs) (hk:k<n): ∃(ad:WX) (hl:k<xs.length),A=X_ ad/\ad.block<B/\w.cell? (ad.add k)=X_ xs[k]:=by
 let ⟨ad,e,hb,hc⟩:=h.2 (by omega);have hl:k<xs.length:=by have:=h.1;omega
 exact ⟨ad,hl,e,hb,hc k hl⟩
end
def Ints (w:Z') (B:Nat) (k:IntKind) (A:Option WX) (n:Nat) (zs:List Int):Prop:=Sl w B 1 A n (zs.map (Ye k))
section
variable {w w':Z'} {B B' n:Nat} {A:Option WX} {kd:IntKind} {zs:List Int}
def Ints.len (h:Ints w B kd A n zs):zs.length=n:=by have:=h.1;simpa using this
def Ints.at_ (h:Ints w B kd A n zs) (hk:k<n): ∃(ad:WX) (z:Int) (hl:k<zs.length),A=X_ ad/\ad.block<B/\zs[k]=z/\w.cell? (ad.add k)=X_ (.int kd z):=by
 let ⟨ad,hl,e,hb,hc⟩:=Sl.at_ h hk;exact ⟨ad,_,by simpa using hl,e,hb,rfl,by simpa using hc⟩
def Ints.below (h:Ints w B kd A n zs) (hb:WY B w w'):Ints w' B kd A n zs:=Sl.below h hb
end
structure El (P:Program) (t e:TypeId) (z:WW) (size bytes:Nat):Prop where
 ty:P.underlying t=X_ (.slice e)
 info:(P.info? e).map (λi=>(i.zero,i.size,i.bytes))=X_ (X_ z,size,bytes)
 zs:z.cells.size=size
 pos:0<size
section
variable {P:Program} {w w':Z'} {B base size bytes n m c:Nat} {t e ty:TypeId} {A:Option WX} {xs news:List WW} {v z:WW}
def nE (h:w.ownsRow base e size v n xs): ∃A' c',v=S_ A' n c'/\Sl w w.heap.size size A' n xs/\(∀a,A'=X_ a->base<=a.block)/\n<=c'/\c'<=maxLen:=by
 obtain ⟨rfl,rfl⟩|⟨g,cap,cur,rfl,hb,hg,hn,hm,_,_⟩:=h.2
 .have hx:xs=[]:=Xc (by simpa using h.1)
  subst hx;exact ⟨Y_,0,rfl,Sl.nil,by simp,by simp,by simp⟩
 .refine ⟨_,_,rfl,⟨h.1,λ_=>⟨_,rfl,(Array.getElem?_eq_some_iff.1 hg).1,λj hj=>h.cells (g:=g) rfl j _ (List.getElem?_eq_getElem hj)⟩⟩,?_,hn,hm⟩
  intro a ha;injection ha with ha;subst ha;exact hb
def Ka (hg:w.heap.size=g) (hb:base<=g) (hm:n<=maxLen) (hs:cs.size=n*size) (hx:cs.toList=xs):
  (w.alloc (.cells cs e)).ownsRow base e size (S_ (X_ ⟨g,0,Y_⟩) n n) n xs:=by
 subst hg;subst hx;exact World.ownsRow_lit w cs n hb hm hs
def qb:w.ownsRow base e size (S_ Y_ 0 0) 0 []:=World.ownsRow_nil w base e size
def Kb (E:El P t e z size bytes) (hown:w.ownsRow base e size v n xs) (hs:Sl w B size A m news) (h1: ∀u∈news,u.oneCell'=Y')
  (h63:n+m<=maxLen) (hbytes:(n+m)*bytes<=140737488355328) (hbase:base<=w.heap.size):
  ∃v' w',(Xa #[t,t] ty #[v,S_ A m c]).run P w= .ok v' w'/\w'.ownsRow base e size v' (n+m) (xs++news)/\w.grownBy w' v.ownBlock/\
   (v'.ownBlock=v.ownBlock\/v'.ownBlock=X_ w.heap.size):=by
 let ⟨i,hi,hz,hz1,hz2⟩:=info_parts E.info;obtain h0|h0:=Xo m
 .subst h0
  have hn:news=[]:=Xc (by simpa using hs.1);subst hn;have hnil: ∀(A:Option WX),(Xa #[t,t] ty #[v,S_ A 0 c]).run P w= .ok v w:=by
   intro A;obtain ⟨rfl,rfl⟩|⟨g,cap,cur,rfl,_,_,hnc,_⟩:=hown.2
   .cases A<;>simp [Xa,run_underlying E.ty,sizeOf,typeInfo,hi,XO,Xp,loadCells,loadCellsFrom]
   .cases A<;>simp [Xa,run_underlying E.ty,sizeOf,typeInfo,hi,XO,Xp,hnc,storeCells,loadCells,loadCellsFrom]
  exact ⟨v,w,hnil A,by simpa using hown,World.grownBy.refl w _,.inl rfl⟩
 .obtain ⟨ad,rfl,_,hc⟩:=hs.2 h0
  let ⟨v',w',hr,h2,h3,_,h5⟩:=run_append_own_at (P:=P) w base t ty e i z size bytes E.ty hi hz hz1 hz2 E.zs E.pos v n xs hown ad m c news hs.1
   (λj u hu=>by let ⟨hj,e⟩:=List.getElem?_eq_some_iff.1 hu;rw [<-e];exact hc j hj) h1 h63 hbytes hbase
  exact ⟨v',w',hr,h2,h3,h5⟩
def gV (hg:w.heap.size=g) (hs:cs.size=n*size) (hx:cs.toList=xs):
  Sl (w.alloc (.cells cs e fz)) (g+1) size (X_ ⟨g,0,Y_⟩) n xs:=by
 subst hg;subst hx;exact ⟨by simpa using hs,λ_=>⟨_,rfl,Nat.lt_succ_self _,Cells.new w cs e fz⟩⟩
def tW {o:Oper} {K:Act->Z'->Prop} {Q:Exit->Act->Z'->Prop} {N:Nat}
  (ho:o.op= .call {callee:= .builtin .append,args:= #[s,x],argTypes:= #[t,t]})
  (E:El P t e z size bytes) (hown:w.ownsRow base e size v n xs) (hv:a.eval s=v) (hx:a.eval x=S_ A m c) (hs:Sl w B size A m news) (h1: ∀u∈news,u.oneCell'=Y')
  (hN:n+m=N) (hys:xs++news=ys) (h63:N<=maxLen) (hbytes:N*bytes<=140737488355328) (hbase:base<=w.heap.size)
  (h: ∀A' c' w',w'.ownsRow base e size (S_ A' N c') N ys->w.grownBy w' v.ownBlock->((XJ A' N c').ownBlock=v.ownBlock\/(XJ A' N c').ownBlock=X_ w.heap.size)->
   K (a.put o.dst (S_ A' N c')) w'):o.wp P a w K Q:=by
 subst hN;subst hys;let ⟨v',w',hr,h2,h3,h4⟩:=Kb (P:=P) (ty:=o.type) (c:=c) E hown hs h1 h63 hbytes hbase;obtain ⟨A',c',rfl,_⟩:=nE h2;unfold XG execOp;simp only [ho,resolve,invoke,builtin,XT,XS,Xx,XD,XN,XX,hv,hx,hr];exact h A' c' w' h2 h3 h4
def dS {o:Oper} {Q:Exit->Act->Z'->Prop} {N:Nat} (hgd:o.guard=Y_)
  (ho:o.op= .call {callee:= .builtin .append,args:= #[s,x],argTypes:= #[t,t]})
  (E:El P t e z size bytes) (hown:w.ownsRow base e size v n xs) (hv:a.eval s=v) (hx:a.eval x=S_ A m c) (hs:Sl w B size A m news) (h1: ∀u∈news,u.oneCell'=Y')
  (hN:n+m=N) (hys:xs++news=ys) (h63:N<=maxLen) (hbytes:N*bytes<=140737488355328) (hbase:base<=w.heap.size)
  (h: ∀A' c' w',w'.ownsRow base e size (S_ A' N c') N ys->w.grownBy w' v.ownBlock->((XJ A' N c').ownBlock=v.ownBlock\/(XJ A' N c').ownBlock=X_ w.heap.size)->
   wpList P ops Q rest (a.put o.dst (S_ A' N c')) w'):wpList P ops Q (o::rest) a w:=
 wpList_plain hgd λ_ hK=>tW ho E hown hv hx hs h1 hN hys h63 hbytes hbase λA' c' w' h2 h3 h4=>hK _ _ (h A' c' w' h2 h3 h4)
end
def below_drewN {B:Nat} {a w:Z'} (h:WY B a w) (n:Nat):WY B a (w.drewN n):=⟨h.os,h.tape,h.output,h.size,h.block⟩
def Tv {W w1:Z'} (hb:WY W.heap.size W w1):(∀b o,b<W.heap.size->w1.cell? ⟨b,o,Y_⟩=W.cell? ⟨b,o,Y_⟩)/\(∀b o,b<W.heap.size->w1.frozen? ⟨b,o,Y_⟩=W.frozen? ⟨b,o,Y_⟩):=
 ⟨λb o h=>hb.cell (p:=⟨b,o,Y_⟩) h,λb o h=>hb.frozen (p:=⟨b,o,Y_⟩) h⟩
def c_ (w:Z') (g:Nat) (t:TypeId) (cs:Array WW):Prop:=w.heap[g]?=X_ (.cells cs t (0,0))
section
variable {w w':Z'} {g B:Nat} {t:TypeId} {cs:Array WW} {o:Obj}
def c_.lt (h:c_ w g t cs):g<w.heap.size:=(Array.getElem?_eq_some_iff.1 h).1
def c_.cell (h:c_ w g t cs) (i:Nat):w.cell? ⟨g,i,Y_⟩=cs[i]?:=cell_of_row w g i cs t (0,0) h
def c_.frozen (h:c_ w g t cs) (i:Nat):w.frozen? ⟨g,i,Y_⟩=Z_:=by
 unfold c_ at h;simp [World.frozen?,h]
def c_.new:c_ (w.alloc (.cells cs t)) w.heap.size t cs:=heap_alloc_new w _
def c_.drew (h:c_ w g t cs):c_ w.drew g t cs:=h
def c_.alloc (h:c_ w g t cs):c_ (w.alloc o) g t cs:=(Xs w o g h.lt).trans h
def c_.eC (h:c_ w g t cs) (i:Nat) (u:WW):c_ (w.setCell ⟨g,i,Y_⟩ u) g t (cs.setIfInBounds i u):=by
 unfold c_ at h |-;simp [World.setCell,Array.getElem?_modify,h]
def c_.fA (h:c_ w g t cs) {p:WX} (hp:g≠p.block):c_ (w.setCell p u) g t cs:=(XQ w p u g hp).trans h
def c_.below (h:c_ w g t cs) (hb:WY B w w') (hg:g<B):c_ w' g t cs:=(hb.block g hg).trans h
def c_.a_ (h:c_ w g t cs) (hb:WY w.heap.size w w'):c_ w' g t cs:=h.below hb h.lt
def c_.grown {row:Option Nat} (h:c_ w g t cs) (hb:w.grownBy w' row) (hg:X_ g≠row):c_ w' g t cs:=(hb.block g h.lt hg).trans h
end
section
variable {w:Z'} {p q:WX} {u v:WW} {o:Obj} {b:Bool}
def iA (h:w.cell? q=X_ v):q.block<w.heap.size:=World.block_lt_of_cell? w q h
def fo (h:w.cell? q=X_ v):(w.alloc o).cell? q=X_ v:=(World.cell?_alloc_lt w o q (iA h)).trans h
def ei (hb:p.block≠q.block) (h:w.cell? q=X_ v):(w.setCell p u).cell? q=X_ v:=(World.cell?_setCell_other w p q u (λe=>hb (by rw [e]))).trans h
def ml (h:w.cell? q=X_ v):w.drew.cell? q=X_ v:=h
end
def dQ {α:Type} (l:List α) (k:Nat) (h:k<l.length):l.take (k+1)=l.take k++[l[k]]:=by
 rw [List.take_succ_eq_append_getElem h]
end Mem
end
section
open Go.RowKit
namespace dm
section
variable {P:Program} {ops:Array Oper} {Q:Exit->Act->Z'->Prop} {S:Z'->Prop}
def Rx (P:Program) (ops:Array Oper) (S:Z'->Prop) (K:Act->Prop):List Nat->Act->Prop
 |[],a=>K a
 |i::rest,a=>match ops[i]? with
  |none=>False
  |some o=>if Xg o (yielded ops a.tmps) then∃v,(∀w,S w->(execOp a.eval o).run P w= .ok (.value v) w)/\Rx P ops S K rest (a.put o.dst v) else Rx P ops S K rest (a.put o.dst undef)
def px (ops:Array Oper):List Nat->Array Bool->Bool
 |[],_=>Y'
 |i::rest,L=>Region.free .any ops L i&&(XU .any ops L).contains i&&px ops rest (L.setIfInBounds i Y')
def eR:List Nat->Array Bool->Array Bool
 |[],L=>L
 |i::rest,L=>eR rest (L.setIfInBounds i Y')
def pg (hs:Yb ops=Y') (hQ: ∀c a d v w,Q (.panic c) (a.put d v) w->Q (.panic c) a w) {w:Z'} (hS:S w):
  ∀(l:List Nat) (L:Array Bool) (a:Act),px ops l L=Y'->Rx P ops S (λa'=>wpAnyH P .any ops Q S n (eR l L) a' w) l a->wpAnyH P .any ops Q S (n+l.length) L a w
 |[],L,a,_,h=>h
 |i::rest,L,a,hB,h=>by
  simp only [px,XF] at hB;let ⟨⟨hf,hr⟩,hB'⟩:=hB;unfold Rx at h;split at h
  .exact h.elim
  .rename_i o ho
   rw [Ya,<-XM];split at h
   .rename_i hw
    let ⟨v,hv,h'⟩:=h;exact wpAnyH_take ho hs hf hr (λc a w h=>hQ c a _ _ w h) (.inl ⟨hw,hv⟩) hS (pg hs hQ hS rest _ _ hB' h')
   .rename_i hw
    exact wpAnyH_take ho hs hf hr (λc a w h=>hQ c a _ _ w h) (.inr ⟨by simpa using hw,rfl⟩) hS (pg hs hQ hS rest _ _ hB' h)
structure JD (P:Program) (ops:Array Oper) (S:Z'->Prop) (K:Act->Prop) (l:List Nat) (a:Act):Prop where
 o:Rx P ops S K l a
def py (hs:Yb ops=Y') (hQ: ∀c a d v w,Q (.panic c) (a.put d v) w->Q (.panic c) a w) {w:Z'} (hS:S w)
  (l:List Nat) (L:Array Bool) (a:Act) (hB:px ops l L=Y') (h:JD P ops S (λa'=>wpAnyH P .any ops Q S n (eR l L) a' w) l a):wpAnyH P .any ops Q S (n+l.length) L a w:=
 pg hs hQ hS l L a hB h.o
def dG {K:Act->Prop} {rest:List Nat} {o:Oper} (ho:ops[i]?=X_ o)
  (h: ∀K':Act->Prop,(∀a,JD P ops S K rest a->K' a)->if Xg o (yielded ops a.tmps) then∃v,(∀w,S w->(execOp a.eval o).run P w= .ok (.value v) w)/\K' (a.put o.dst v) else K' (a.put o.dst undef)):JD P ops S K (i::rest) a:=by
 have:=h (Rx P ops S K rest) (λ_ h=>h.o);refine ⟨?_⟩;unfold Rx;rw [ho];exact this
def ee {K:Act->Prop} (h:K a):JD P ops S K [] a:=⟨h⟩
def one {w:Z'} (hr:XU .any ops L=[i]) (h:wpOp P ops Q i (λa' w'=>S w'/\wpAnyH P .any ops Q S n (L.setIfInBounds i Y') a' w') a w):
  wpAnyH P .any ops Q S (n+1) L a w:=wpAnyH_all hr (by simp) (λj hj=>by rw [Xv] at hj;subst hj;exact h)
def two {w:Z'} (hr:XU .any ops L=[i,j]) (h:wpOp P ops Q i (λa' w'=>S w'/\wpAnyH P .any ops Q S n (L.setIfInBounds i Y') a' w') a w)
  (h2:wpOp P ops Q j (λa' w'=>S w'/\wpAnyH P .any ops Q S n (L.setIfInBounds j Y') a' w') a w):
  wpAnyH P .any ops Q S (n+1) L a w:=wpAnyH_all hr (by simp) (λk hk=>by
   obtain rfl|hk:=List.mem_cons.1 hk
   .exact h
   .rw [Xv] at hk;subst hk;exact h2)
def val {o:Oper} {w w':Z'} {K:Act->Z'->Prop} (ho:ops[i]?=X_ o) (hw:Xg o (yielded ops a.tmps)=Y')
  (hr:(execOp a.eval o).run P w= .ok (.value v) w') (hS:S w') (h:K (a.put o.dst v) w'):wpOp P ops Q i (λa' w'=>S w'/\K a' w') a w:=by
 unfold wpOp;simp only [ho,hw,if_true];refine .inl ?_;unfold XG;rw [hr];exact ⟨hS,h⟩
def skip {o:Oper} {w w':Z'} {K:Act->Z'->Prop} (ho:ops[i]?=X_ o) (hw:Xg o (yielded ops a.tmps)=Y')
  (hr:(execOp a.eval o).run P w= .ok .skip w') (hS:S w') (h:K (a.put o.dst undef) w'):wpOp P ops Q i (λa' w'=>S w'/\K a' w') a w:=by
 unfold wpOp;simp only [ho,hw,if_true];refine .inl ?_;unfold XG;rw [hr];exact ⟨hS,h⟩
def call {o:Oper} {w:Z'} {K:Act->Z'->Prop} (ho:ops[i]?=X_ o) (hw:Xg o (yielded ops a.tmps)=Y')
  (hr:(execOp a.eval o).run P w= .ok (.enter f args) w) (h:Calls P f args w λe w'=> ∃v,e=R_ v/\S w'/\K (a.put o.dst v) w'):wpOp P ops Q i (λa' w'=>S w'/\K a' w') a w:=by
 unfold wpOp;simp only [ho,hw,if_true];refine .inl ?_;unfold XG;rw [hr]
 show Calls P f args w _
 exact h.mono λe w' ⟨v,he,hS,hK⟩=>by subst he;exact ⟨hS,hK⟩
def start {w:Z'} (S:Z'->Prop) (hm:P.follows .mixedOrders=Y')
  (h:wpAnyH P .any ops Q S ops.size (Array.replicate ops.size Z_) a w.drew):(Code.region id ops Y').wp P Q a w:=wp_region_held hm h
end
end dm
end
section
open Go.RowKit
instance:Coe Int WW:=⟨λn=>I_ J_ n⟩
instance:Coe Bool WW:=⟨λn=>B_ n⟩
instance:Coe ByteArray WW:=⟨λn=>T_ n⟩
abbrev Ce (w:Z') (g i:Nat) (v:WW):Prop:=w.cell? ⟨g,i,Y_⟩=X_ v
abbrev C (w:Z') (g i:Nat) (v:WW):Prop:=w.cell? ⟨g,i,Y_⟩=X_ v
def Hd {p:Prop} (h:p):Hid p:=Lib.hid h
def nm {α:Sort _} (a:α): ∃x,x=a:=⟨a,rfl⟩
def dT {p:Prop} [Decidable p] (h:p:=by omega):decide p=true:=decide_eq_true h
def dF {p:Prop} [Decidable p] (h: ¬p:=by omega):decide p=false:=decide_eq_false h
def dL {B:Nat} {w:World} {o:Obj} (h:B<=w.heap.size:=by exact Nat.le_refl _):Below B w (w.alloc o):=(Below.refl _ _).alloc h o
abbrev Bw (w w':Z'):Prop:=WY w.heap.size w w'
def o_ {p:Prop} (h:p:=by omega):p:=h
def k_ {p:Prop} (h:p:=by kernel_rfl):p:=h
def d_ {p:Prop} (h:p:=by decide):p:=h
def l_:n<=n:=Xy n
def b_ {B:Nat} {w:Z'}:WY B w w:=Below.refl B w
def m_ {α:Type _} {a:α} {l:List α}:a∈a::l:=List.mem_cons_self
def n_ {α:Type _} (y:α) {a:α} {l:List α} (h:a∈l):a∈y::l:=List.mem_cons_of_mem y h
def t_ {α:Type _} {l:List α} (h:l.length<=i):l.take i=l:=List.take_of_length_le h
def p_ {α:Type _} {a b:α} {l:List α} (h:a∈b::l):a=b\/a∈l:=List.mem_cons.1 h
def q_ {α:Type _} {a b:α} (h:X_ a=X_ b):a=b:=Option.some.inj h
def g_ {α:Type _} {l:List α} (h:n<l.length):l[n]∈l:=List.getElem_mem h
def s_ {α:Type _} {a b:α} (h:a∈[b]):a=b:=Xv.1 h
section
variable {w:Z'} {g:Nat} {t:TypeId}
def c0 {v0:WW} (h:Mem.c_ w g t (WZ (v0::l))):C w g 0 v0:=h.cell 0
def c1 {v0:WW} (h:Mem.c_ w g t (WZ (v0::v1::l))):C w g 1 v1:=h.cell 1
def c2 {v0:WW} (h:Mem.c_ w g t (WZ (v0::v1::v2::l))):C w g 2 v2:=h.cell 2
def c3 {v0:WW} (h:Mem.c_ w g t (WZ (v0::v1::v2::v3::l))):C w g 3 v3:=h.cell 3
def c4 {v0:WW} (h:Mem.c_ w g t (WZ (v0::v1::v2::v3::v4::l))):C w g 4 v4:=h.cell 4
def c5 {v0:WW} (h:Mem.c_ w g t (WZ (v0::v1::v2::v3::v4::v5::l))):C w g 5 v5:=h.cell 5
def c6 {v0:WW} (h:Mem.c_ w g t (WZ (v0::v1::v2::v3::v4::v5::v6::l))):C w g 6 v6:=h.cell 6
def c7 {v0:WW} (h:Mem.c_ w g t (WZ (v0::v1::v2::v3::v4::v5::v6::v7::l))):C w g 7 v7:=h.cell 7
def c8 {v0:WW} (h:Mem.c_ w g t (WZ (v0::v1::v2::v3::v4::v5::v6::v7::v8::l))):C w g 8 v8:=h.cell 8
def c9 {v0:WW} (h:Mem.c_ w g t (WZ (v0::v1::v2::v3::v4::v5::v6::v7::v8::v9::l))):C w g 9 v9:=h.cell 9
def lM {v0:WW} (h:Mem.c_ w g t (WZ (v0::v1::v2::v3::v4::v5::v6::v7::v8::v9::v10::l))):C w g 10 v10:=h.cell 10
def pv {v0:WW} (h:Mem.c_ w g t (WZ (v0::v1::v2::v3::v4::v5::v6::v7::v8::v9::v10::v11::l))):C w g 11 v11:=h.cell 11
def SL {v0:WW} (h:Mem.c_ w g t (WZ (v0::v1::v2::v3::v4::v5::v6::v7::v8::v9::v10::v11::v12::l))):C w g 12 v12:=h.cell 12
def SM {v0:WW} (h:Mem.c_ w g t (WZ (v0::v1::v2::v3::v4::v5::v6::v7::v8::v9::v10::v11::v12::v13::l))):C w g 13 v13:=h.cell 13
def SN {v0:WW} (h:Mem.c_ w g t (WZ (v0::v1::v2::v3::v4::v5::v6::v7::v8::v9::v10::v11::v12::v13::v14::l))):C w g 14 v14:=h.cell 14
def SO {v0:WW} (h:Mem.c_ w g t (WZ (v0::v1::v2::v3::v4::v5::v6::v7::v8::v9::v10::v11::v12::v13::v14::v15::l))):C w g 15 v15:=h.cell 15
def SP {v0:WW} (h:Mem.c_ w g t (WZ (v0::v1::v2::v3::v4::v5::v6::v7::v8::v9::v10::v11::v12::v13::v14::v15::v16::l))):C w g 16 v16:=h.cell 16
def SQ {v0:WW} (h:Mem.c_ w g t (WZ (v0::v1::v2::v3::v4::v5::v6::v7::v8::v9::v10::v11::v12::v13::v14::v15::v16::v17::l))):C w g 17 v17:=h.cell 17
def PC {v0:WW} (h:Mem.c_ w g t (WZ (v0::v1::v2::v3::v4::v5::v6::v7::v8::v9::v10::v11::v12::v13::v14::v15::v16::v17::v18::l))):C w g 18 v18:=h.cell 18
def Ws {v0:WW} (h:Mem.c_ w g t (WZ (v0::v1::v2::v3::v4::v5::v6::v7::v8::v9::v10::v11::v12::v13::v14::v15::v16::v17::v18::v19::l))):C w g 19 v19:=h.cell 19
def PD {v0:WW} (h:Mem.c_ w g t (WZ (v0::v1::v2::v3::v4::v5::v6::v7::v8::v9::v10::v11::v12::v13::v14::v15::v16::v17::v18::v19::v20::l))):C w g 20 v20:=h.cell 20
end
def kk (w:Z') (g:Nat):List Nat->List WW->Prop
 |i::is,v::l=>C w g i v/\kk w g is l
 |_,_=>True
def Eg (w:Z') (g:Nat): ∀(m:Nat) (vs:List WW),(∀j,(h:j<vs.length)->w.cell? ⟨g,m+j,Y_⟩=X_ vs[j])-> ∀n,kk w g (List.range' m n) vs
 |m,[],_,n=>by cases n<;>simp [kk,List.range']
 |m,v::l,h,0=>by simp [kk]
 |m,v::l,h,n+1=>by
  rw [List.range'_succ];exact ⟨h 0 (by simp),Eg w g (m+1) l (λj hj=>by have:=h (j+1) (by simpa using hj);simpa [XM,Nat.add_comm 1] using this) n⟩
def kA {w:Z'} (h:Mem.c_ w g t (WZ vs)):kk w g [0,1,2,3,4,5,6,7,8,9,10,11,12,13,14,15,16,17,18,19,20,21,22,23,24,25,26,27,28,29,30,31,32,33,34,35,36,37,38,39,40,41,42,43] vs:=Eg w g 0 vs (λj hj=>by rw [Nat.zero_add];exact (h.cell j).trans (by simp [hj])) 44
def Br (h:((P.funcs[i]?.map (·.name)).getD ""== "runtime.NumGoroutine")=Z_:=by kernel_rfl) (h2:P.funcs[i]?=X_ {b with name:=(P.funcs[i]?.map (·.name)).getD ""}:=by kernel_rfl):Bears P i b:=⟨_,h,h2⟩
namespace dm
section
variable {P:Program} {ops:Array Oper} {Q:Exit->Act->Z'->Prop} {S:Z'->Prop}
def tk (n:Nat) {w:World} (hS:S w) (l:List Nat) (h:JD P ops S (λa'=>wpAnyH P .any ops Q S n (eR l L) a' w) l a)
  (hs:Region.noSelect ops=true:=by kernel_rfl) (hQ: ∀c a d v w,Q (.panic c) (a.put d v) w->Q (.panic c) a w:=by intro _ _ d _ _ h;cases d<;>exact h) (hB:px ops l L=true:=by kernel_rfl):wpAnyH P .any ops Q S (n+l.length) L a w:=py hs hQ hS l L a hB h
def cl {o:Oper} {w:World} {K:Act->World->Prop} (h:Calls P f args w λe w'=> ∃v,e=R_ v/\S w'/\K (a.put o.dst v) w')
  (ho:ops[i]?=some o:=by rfl) (hw:Region.wanted o (yielded ops a.tmps)=true:=by rfl) (hr:(execOp a.eval o).run P w= .ok (.enter f args) w:=by go_simp;exact ⟨rfl,rfl⟩):wpOp P ops Q i (λa' w'=>S w'/\K a' w') a w:=call ho hw hr h
def on (i n:Nat) {w:World} (h:wpOp P ops Q i (λa' w'=>S w'/\wpAnyH P .any ops Q S n (L.setIfInBounds i true) a' w') a w) (hr:Region.ready .any ops L=[i]:=by kernel_rfl):wpAnyH P .any ops Q S (n+1) L a w:=one hr h
def dn (i n:Nat) {w:World} (h:wpOp P ops Q i (λa' w'=>S w'/\wpAnyH P .any ops Q S n (L.setIfInBounds i true) a' w') a w) (hr:Region.ready .any ops L=[i]:=by kernel_rfl):JD P ops S (λa'=>wpAnyH P .any ops Q S (n+1) L a' w) [] a:=ee (one hr h)
def fi {w:World} (h:Q .normal a w) (hr:Region.ready .any ops L=[]:=by kernel_rfl):wpAnyH P .any ops Q S m L a w:=wpAnyH_done hr h m
def df {w:World} (h:Q .normal a w) (hr:Region.ready .any ops L=[]:=by kernel_rfl):JD P ops S (λa'=>wpAnyH P .any ops Q S m L a' w) [] a:=ee (wpAnyH_done hr h m)
end
end dm
abbrev _root_.Go.World.z (w:Z'):Nat:=w.heap.size
structure Wq (q:Prop):Prop where
 o:q
namespace dm
section
variable {P:Program} {ops:Array Oper} {Q:Exit->Act->Z'->Prop} {S:Z'->Prop} {w:Z'} {L:Array Bool} {a:Act} {q:Prop}
def tf (n:Nat) (hS:S w) (l:List Nat) {F:World->Prop} (hF:Hid (∀wx,S wx->F wx)) (k:q)
  (h:Hid (∀wx,S wx->F wx)->Wq q->JD P ops S (λa'=>wpAnyH P .any ops Q S n (eR l L) a' w) l a:=by
   intro hF kq
   repeat (refine dm.dG rfl (λK' hK=>?_);go_simp;(first|refine hK _ ?_;clear hK K'|constructor;refine ⟨λwx hx=>?_,hK _ ?_⟩;(first|rfl|(have hh:=Hid.o hF wx hx;go_simp<;>rfl));clear hK K'))
   exact dm.ee kq.o)
  (hs:Region.noSelect ops=true:=by kernel_rfl) (hQ: ∀c a d v w,Q (.panic c) (a.put d v) w->Q (.panic c) a w:=by intro _ _ d _ _ h;cases d<;>exact h) (hB:px ops l L=true:=by kernel_rfl):wpAnyH P .any ops Q S (n+l.length) L a w:=py hs hQ hS l L a hB (h hF ⟨k⟩)
def tg (n:Nat) (hS:S w) (l:List Nat) (k:q)
  (h:Wq q->JD P ops S (λa'=>wpAnyH P .any ops Q S n (eR l L) a' w) l a:=by
   intro kq
   repeat (refine dm.dG rfl (λK' hK=>?_);go_simp;(first|refine hK _ ?_;clear hK K'|constructor;refine ⟨λwx hx=>?_,hK _ ?_⟩;(first|rfl|go_simp<;>rfl);clear hK K'))
   exact dm.ee kq.o)
  (hs:Region.noSelect ops=true:=by kernel_rfl) (hQ: ∀c a d v w,Q (.panic c) (a.put d v) w->Q (.panic c) a w:=by intro _ _ d _ _ h;cases d<;>exact h) (hB:px ops l L=true:=by kernel_rfl):wpAnyH P .any ops Q S (n+l.length) L a w:=py hs hQ hS l L a hB (h ⟨k⟩)
def th (n:Nat) (hS:S w) (l:List Nat) (k:q)
  (h:Wq q->JD P ops S (λa'=>wpAnyH P .any ops Q S n (eR l L) a' w) l a:=by
   intro kq
   repeat (refine dm.dG rfl (λK' hK=>?_);go_simp;(first|refine hK _ ?_;clear hK K'|constructor;refine ⟨λwx hx=>?_,hK _ ?_⟩;(first|rfl|(have fa:=hx;intro fb;go_simp<;>rfl)|(have fa:=hx;intro fb fc;go_simp<;>rfl));clear hK K'))
   exact dm.ee kq.o)
  (hs:Region.noSelect ops=true:=by kernel_rfl) (hQ: ∀c a d v w,Q (.panic c) (a.put d v) w->Q (.panic c) a w:=by intro _ _ d _ _ h;cases d<;>exact h) (hB:px ops l L=true:=by kernel_rfl):wpAnyH P .any ops Q S (n+l.length) L a w:=py hs hQ hS l L a hB (h ⟨k⟩)
def st {F:World->Prop} (hF:Hid (∀wx,S wx->F wx)) (h:wpAnyH P .any ops Q S ops.size (Array.replicate ops.size false) a w.drew) (hm:P.follows .mixedOrders=true:=by kernel_rfl):(Code.region id ops true).wp P Q a w:=start S hm (let _:=hF;h)
def ss {w0:World} (hS:S w0) (h:wpAnyH P .any ops Q S ops.size (Array.replicate ops.size false) a w.drew) (hm:P.follows .mixedOrders=true:=by kernel_rfl):(Code.region id ops true).wp P Q a w:=start S hm (let _:=hS;h)
end
end dm
def W_ {p:Prop} (k:q) (h:Wq q->p:=by
 intro kq;go_wp2_with fail;exact kq.o):p:=h ⟨k⟩
def v_ {p:Prop} (h:p:=by simp [Value.oneCell']):p:=h
def z_ {p:Prop} (h:p:=by simp;omega):p:=h
def y_ {p:Prop} (h:p:=by simp):p:=h
def x_ {p:Prop} (h:p:=by simp [Act.eval,Act.put]):p:=h
def e_ {p:Prop} (h:p:=by unfold maxLen;omega):p:=h
def f_ {p:Prop} (h:p:=by go_simp):p:=h
def w_ {p:Prop} (h:p:=by simp<;>omega):p:=h
def u_:Nat->Nat->List Nat
 |_,0=>[]
 |a,n+1=>a::u_ (a+1) n
end
section
def pN {p:Prop} (k:q) (h:Wq q->p:=by
 intro kq;go_wp2_with (at_builtin;refine Ro.dS rfl _ _ _ _ rfl _ _ rfl rfl hr ?_)
 exact kq.o):p:=h ⟨k⟩
def kO {p:Prop} (h:p:=by
 go_wp2_with fail;go_ret;exact ⟨false,rfl,λh=>(by cases h),L1⟩):p:=h
def Mu {p:Prop} (k:q) (h:Wq q->p:=by
 intro kq
 iterate 16 (refine dm.dG rfl (λK' F=>?_);go_simp;(first|(refine F _ ?_;clear F K')|(apply Exists.intro;refine ⟨λwx aa=>?_,F _ ?_⟩;(first|rfl|(have k0:Ce wx C.gr 0 (P_ (some ⟨C.ga,0,none⟩)):=(Hid.o aa).r 0 d_;have aP:Ce wx C.ga 11 (P_ (some ⟨C.gw,0,none⟩)):=(Hid.o aa).a 11 d_;have aO:Ce wx C.ga 13 x.r:=(Hid.o aa).a 13 d_;go_simp;first|done|rfl));clear F K')))
 exact kq.o):p:=h ⟨k⟩
def Kz {p:Prop} (k:q) (h:Wq q->p:=by
 intro kq;obtain ⟨m,hm⟩: ∃m:Nat,m=(i+j)/2:=⟨_,rfl⟩;have hm1:i<=m:=o_;have hm2:m<j:=o_;have ap:((i:Int)+j)/2=m:=o_;have d0:decide ((i:Int)<j)=true:=dT;have aB: ∀w,(binOp .shr 180 (.int .u64 ((i:Int)+j)) (.int .u64 1)).run prog w= .ok (.int .u64 (m:Int)) w:=by
  intro w;rw [binOp_shr,shift_shr _ _ _ _ d_ d_,show (2:Int)^(Int.toNat 1)=2 from rfl,ap];rfl
 revert m hm hm1 hm2 ap d0 aB
 exact kq.o):p:=h ⟨k⟩
def sh {p:Prop} (k:q) (h:Wq q->p:=by
 intro kq;have LX:Bw w X:=by rw [hX];exact (ae.alloc ae.size _).drew
 have zX:X.heap.size=wr.heap.size+1:=by rw [hX];simp
 revert LX zX
 exact kq.o):p:=h ⟨k⟩
def lI {p:Prop} (k:q) (h:Wq q->p:=by
 intro kq;have hw:=Ta.fh (n:=(k:Int)+1) o_ o_
 revert hw
 exact kq.o):p:=h ⟨k⟩
def lH {p:Prop} (h:p:=by
 go_wp2_with fail;go_ret;exact ⟨rfl,rfl⟩):p:=h
def VG {p:Prop} (k:q) (h:Wq q->p:=by
 intro kq;have cJ:Hid (Mem.c_ w1 w.heap.size 25 p.arr):=by rw [aE];exact Mem.c_.new
 have aW:=Hd (λ(X:World) (hX:Bw w X)=>NK X (hg.below hX));have bD:=Hd (λ(X:World) (hX:Bw w X)=>Rp p dD A n c l X ((hp.below hX).more hX.size) ((h.below hX).more hX.size) (λx hx=>⟨(aF x hx).1,((aF x hx).2.below hX).more hX.size⟩) aO hn);have a9:=Hd (λ(X:World) (hR:gu.fK p dD) (hX:Bw w X)=>Rm p dD X hR ((hp.below hX).more hX.size) (hg.below hX));have cu:Hid (∀(X:World) (e:Ending) (X':World),zq p dD X e X'-> ∃(D:Nf) (x:AV) (rt:Wo.St),e=R_ (P_ (some ⟨D.gn,0,none⟩))/\Bw X D.W/\JT D/\Nk D X' 0 x rt none [] []):=λX e X' ⟨D,sb,ga,x,h1,h2⟩=>⟨D,x,_,h1,h2.1,h2.2.2.2.1,h2.nk⟩
 have H:=Hd h;have HL:=Hd aF;have HN:=Hd aO
 revert cJ aW bD a9 cu H HL HN
 exact kq.o):p:=h ⟨k⟩
def Ky {p:Prop} (k:q) (h:Wq q->p:=by
 intro kq;rintro e w' ⟨rfl,rfl⟩;go_wp2_with fail;exact kq.o):p:=h ⟨k⟩
def VF {p:Prop} (h:p:=by
 refine ⟨cell_of_shapedOpen_int (g:=0) (t:=3) (k:= .i64) (zero:= #[I_ J_ 0]) hs (of_decide_eq_true k_) k_ rfl k_ k_ underlying3,?_⟩;rw [MakeChecks.laidMetH_plain _ _ _ k_] at h;obtain ⟨g,tt,cs,F,p,O,U,V,G⟩:=Lib.laidMet.reads h (n:= "internal/strconv.uint64pow10") (d:=Rows.laid_internal_strconv_uint64pow10) (.tail _ (.tail _ (.head _)));obtain rfl:=q_ ((show prog.globalNamed "internal/strconv.uint64pow10"=some 8 by kernel_rfl).symm.trans O);obtain rfl:=q_ ((show (prog.globals[8]?).map (·.type)=some 482 by kernel_rfl).symm.trans U);have I:(Rows.laid_internal_strconv_uint64pow10:DataW Unit)=Lib.tabData .u64 Lib.pow10Tab:=k_;rw [I] at G;unfold Lib.TabIs;rw [V,<-Lib.cells_of_tab underlying482 underlying378 k_ k_ G]):p:=h
def Lo {p:Prop} (k:q) (h:Wq q->p:=by
 intro kq;obtain ⟨m0,m1,m2,m3,m4,-⟩:=kA HB0.o;have f0:=HB0.o.frozen;obtain ⟨y0,y1,y2,y3,y4,-⟩:=kA J2.o;have f1:=J2.o.frozen
 revert m0 m1 m2 m3 m4 f0 y0 y1 y2 y3 y4 f1
 exact kq.o):p:=h ⟨k⟩
def US {p:Prop} (h:p:=by
 obtain ⟨b',h,t⟩:=h;have F:=h.n.ag.dr.dr.eC i u;rw [O] at F;have e: ∀{P:AV->Prop},P x->P {x' with r:=x.r,o0:=x.o0,o1:=x.o1,o2:=x.o2,c0:=x.c0,c1:=x.c1,c2:=x.c2,fr:=x.fr,eB:=x.eB,dead:=x.dead}:=λG=>by rw [I];exact G
 exact h.Ih t (Ro.dt.setCell w ⟨C.ga,i,none⟩ u) F (e (P:=λx=>eG w b' 3 92 5 x.p.A x.p.n x.p.c (dA.flat x.dD)) h.n.ag.qy) (e (P:=λx=>eG w b' 3 58 12 x.PA x.l.length x.pc (dq.flat x.l)) h.n.ag.gT)
  (e (P:=λx=>eG w b' 3 3 1 x.SA x.p.n x.sc (x.zs.map (.int .i64))) h.n.ag.since) (e (P:=λx=>eG w b' 3 299 4 x.UA x.us.length x.uc (et.flat x.us)) h.n.ag.use)):p:=h
def wV {p:Prop} (k:q) (h:Wq q->p:=by
 intro kq;refine dm.call rfl rfl (by go_simp;exact ⟨rfl,rfl⟩) ?_;exact kq.o):p:=h ⟨k⟩
def yK {p:Prop} (k:q) (h:Wq q->p:=by
 intro kq;refine dm.cl ?_;refine (Fl.QD _ _ _).mono ?_;rintro e w2 ⟨rfl,rfl⟩;refine ⟨_,rfl,b_.drew,?_⟩;exact kq.o):p:=h ⟨k⟩
def VH {p:Prop} (k:q) (h:Wq q->p:=by
 intro kq;have HS6:Hid (∀(j:Nat) (v:Value),l[k].arr.toList[j]?=some v->w6.cell? ((ad.add (k*21)).add j)=some v):=λj v hv=>by
  rw [cg.o.cell (p:=(ad.add (k*21)).add j) (by rw [Mem.ew];exact ap)];exact aV j v hv
 have ac:=Hd (And.intro aJ ap);have cy:Hid (BN D l[k]):=(by
  have hm:=g_ hl;have bo:=aY.o.2 _ hm;exact ⟨(HL.o _ hm).1,((HL.o _ hm).2.below ak.o).more ak.o.size,Nat.le_trans bo.eD d_,Nat.le_trans bo.dy d_⟩)
 have G:Hid (SU (l.take (k+1))=VB (SU (l.take k)) l[k]):=Hd (by unfold SU;rw [Mem.dQ l k hl,List.foldl_append];rfl)
 revert HS6 ac cy G
 exact kq.o):p:=h ⟨k⟩
def Lu {p:Prop} (k:q) (h:Wq q->p:=by
 intro kq;rintro e w2 ⟨rfl,rfl⟩;refine ⟨_,rfl,b_.drew,?_⟩;exact kq.o):p:=h ⟨k⟩
def KB {p:Prop} (h:p:=by
 intro t ht ak;obtain h|rfl:=Nat.lt_or_eq_of_le (Nat.le_of_lt_succ ak)
 .exact du.jb (List.pairwise_iff_getElem.1 aa t m ht hx h) (by rw [<-hc];omega)
 .rw [<-hc];exact G):p:=h
def CX {p:Prop} (h:p:=by
 go_wp2_with fail;go_roundw
 .exact ⟨k+1,n',A',c',o_,o_,by go_num,rfl,ah⟩
 .simp [intOf];omega):p:=h
def PZ {p:Prop} (k:q) (h:Wq q->p:=by
 intro kq;have hg: ¬V=g:=λe=>ai (by rw [e];rfl)
 have aO: ¬((i:Int)=(n:Int)):=o_;have aK:IntKind.i64.wrap ((i:Int)+1)=(i:Int)+1:=i64 o_ o_;have aJ:((i:Int)+1).toNat=i+1:=o_;have aT:(0:Int)<=(i:Int)+1:=o_;have aR: ¬(c=i):=o_
 revert hg aO aK aJ aT aR
 exact kq.o):p:=h ⟨k⟩
def Rz {p:Prop} (k:q) (h:Wq q->p:=by
 intro kq;have ab: ¬(c=n - 1):=o_;have hz2: ¬((i:Int)=(i:Int)+1):=o_;have htn:((i:Int)+1).toNat=i+1:=o_;have hb3:(i:Int)+1<=(n:Int):=o_;have ag:(n:Int) - ((n - 1:Nat):Int)=1:=o_;have f5:(0:Int)<=(i:Int)+1:=o_
 revert ab hz2 htn hb3 ag f5
 exact kq.o):p:=h ⟨k⟩
def Ml {p:Prop} (k:q) (h:Wq q->p:=by
 intro kq;obtain ⟨g3,ac⟩:=nm (w.heap.size);obtain ⟨w0,U⟩:=nm (w.alloc (.cells d.arr 51));have ar:w0.heap.size=g3+1:=by rw [U,ac];simp
 obtain ⟨g4,ai⟩:=nm (g3+1)
 revert g3 ac w0 U ar g4 ai
 exact kq.o):p:=h ⟨k⟩
def xZ {p:Prop} (k:q) (h:Wq q->p:=by
 intro kq;rintro e w2 ⟨rfl,b9⟩;have b8:=Hd (aN.o.trans (b9.mono aN.o.size))
 revert w2 b9 b8
 exact kq.o):p:=h ⟨k⟩
def KD {p:Prop} (h:p:=by
 clear hc ah aa G;generalize du.cmp qi s=y at*;go_wp2_with fail;go_roundw
 .exact ⟨m+1,j,o_,o_,by go_num,rfl,X,ax,Hh⟩
 .simp [intOf];omega):p:=h
def Ff {p:Prop} (h:p:=by
 simp only [IntKind.wrap,IntKind.bits,IntKind.signed];simp only [Bool.false_eq_true,if_false,Bool.false_and];omega):p:=h
def VW {p:Prop} (k:q) (h:Wq q->p:=by
 intro kq;have cL:=Hd (b8.o.trans (bl.mono b8.o.size));have aS:=Hd (cm.o.a_ bl);have aP:=Hd (ba.o.a_ bl)
 revert cL aS aP
 exact kq.o):p:=h ⟨k⟩
def KG {p:Prop} (h:p:=by
 have al:Hid (P=i):=HP.trans O;have ah:Hid (F=false):=HF.trans I;clear O I;go_wp2_with fail
 go_ret2
 exact ⟨by rw [ah.o,al.o];rfl,V⟩):p:=h
def KE {p:Prop} (h:p:=by
 clear hc ah aa G;generalize du.cmp qi s=y at*;go_wp2_with fail;go_roundw
 .exact ⟨i,m,o_,o_,rfl,rfl,X,Hl,ay⟩
 .simp [intOf];omega):p:=h
def VE {p:Prop} (h:p:=by
 refine returnsInHanded_of_calls own aa af U ?_;intro w F i _ ap _ al ah _;obtain ⟨_,_,_,ak,ai,_,_,_,_,ag⟩:=al;have e:ak=fn:=q_ (ai.symm.trans am);subst e;obtain ⟨⟨⟨ds,gs,G,hw,_⟩,hx⟩,_⟩:=ah;refine (O (w.forCall F i) w.heap.size i.args ds gs G ag (DataW.Whole.of_heap (w':=w.forCall F i) (by rfl) hw) (hX _ _ _ (by rfl) hx) ap).mono λe W' ⟨v,he,hp⟩=>?_
 subst he;exact ChangeSpec.post_blind hp):p:=h
def Tu {p:Prop} (h:p:=by
 obtain ⟨rfl,h0⟩|⟨g,off,cur,rfl,_⟩:=h.2.2.2
 .have hn:=h.2.1
  obtain rfl:n=0:=o_;have hx:xs=[]:=List.eq_nil_of_length_eq_zero (by simpa using O);subst hx;exact run_firstCells_none w.drew k 0 0 c
 .exact run_firstCells_some w.drew k n ⟨g,off,none⟩ n c xs O (λj v hj=>by
   obtain ⟨hj,e⟩:=List.getElem?_eq_some_iff.1 hj;rw [<-e,Addr.add_lit];exact h.cell j hj)):p:=h
def SS {p:Prop} (k:q) (h:Wq q->p:=by
 intro kq;obtain ⟨gn,aH⟩:=nm (D.gn);rw [<-aH];have ab:=Hd aH;clear aH;have hpn: ∀X:World,(binOp .eql 29 (P_ (some ⟨gn,0,none⟩)) (P_ none)).run prog X= .ok (B_ false) X:=λX=>k_
 revert gn ab hpn
 exact kq.o):p:=h ⟨k⟩
def sJ {p:Prop} (h:p:=by
 go_wp2_with fail;exact bodyPost_end (results_none rfl _ _ _) rfl ⟨rfl,H3⟩):p:=h
def OY {p:Prop} (k:q) (h:Wq q->p:=by
 intro kq;have n13:w.cell? ⟨C.ga,13,none⟩=some (I_ J_ x.r):=HS0.a 13 d_;have n14:w.cell? ⟨C.ga,14,none⟩=some (S_ x.PA x.l.length x.pc):=HS0.a 14 d_;have n15:w.cell? ⟨C.ga,15,none⟩=some (B_ x.o0):=HS0.a 15 d_;have n16:w.cell? ⟨C.ga,16,none⟩=some (B_ x.o1):=HS0.a 16 d_;have n17:w.cell? ⟨C.ga,17,none⟩=some (B_ x.o2):=HS0.a 17 d_
 revert n13 n14 n15 n16 n17
 exact kq.o):p:=h ⟨k⟩
def OP {p:Prop} (k:q) (h:Wq q->p:=by
 intro kq;have H1:=Hd ((h.ku ah (show Mem.c_ w0 g3 51 d.arr from by rw [U,ac];exact Mem.c_.new) (by rw [ac];exact Nat.le_refl _)).JW ap (show Mem.c_ w1 g4 39 iX from by rw [F,ai,<-ar];exact Mem.c_.new) (by rw [ai,<-ar];exact Nat.le_refl _));have HA:=Hd (H1.o.dr (m_ ..));have aa:=Hd (Jc D.gn d w1);have e6:(d.kd==6)=false:=by simp;omega
 revert H1 HA aa e6
 exact kq.o):p:=h ⟨k⟩
def sy {p:Prop} (k:q) (h:Wq q->p:=by
 intro kq;have d0:decide ((k:Int)<n)=true:=dT
 revert d0
 exact kq.o):p:=h ⟨k⟩
def GN {p:Prop} (h:p:=by
 go_wp2_with fail;go_ret;exact ⟨by first|rfl|(simp;omega),rfl⟩):p:=h
def vJ {p:Prop} (k:q) (h:Wq q->p:=by
 intro kq;have U:dJ (λc=>c=3) C.W w w2 b' (dN w b' λ_=>3):=dJ.below G _
 revert U
 exact kq.o):p:=h ⟨k⟩
def zZ {p:Prop} (h:p:=by
 dsimp only
 generalize du.cmp qi s=y at*;go_wp2_with fail
 go_ret2
 exact ⟨by rw [ah.o,al.o];rfl,X⟩):p:=h
def zt {p:Prop} (k:q) (h:Wq q->p:=by
 intro kq;have d0:decide ((k:Int)<k)=false:=dF
 revert d0
 exact kq.o):p:=h ⟨k⟩
def vI {p:Prop} (h:p:=by
 cases h;constructor<;>refine Eq.trans (G.cell ?_) (by assumption)<;>exact F):p:=h
def EK {p:Prop} (k:q) (h:Wq q->p:=by
 intro kq;have aA: ¬(c=i+1):=o_;have hw2:IntKind.i64.wrap ((n:Int)+1)=(n:Int)+1:=i64 o_ o_;have aL:(i:Int)<=(n:Int)+1:=o_
 revert aA hw2 aL
 exact kq.o):p:=h ⟨k⟩
def AP {p:Prop} (h:p:=by
 go_roundw
 .exact ⟨k+1,n'+1,A3,aw,o_,o_,by go_num,by go_num,ah⟩
 .simp [intOf];omega):p:=h
def TP {p:Prop} (h:p:=by
 by_cases h1:a<b
 .simp [h1]
 .by_cases h2:b<a
  .have F:(a==b)=false:=by
    rw [beq_eq_false_iff_ne];rintro rfl;exact h1 h2
   simp [h1,h2,F]
  .have F:a=b:=by
    rw [UInt8.lt_iff_toNat_lt] at h1 h2;exact UInt8.toNat_inj.1 o_
   subst F;simp [h1]):p:=h
def Oo {p:Prop} (k:q) (h:Wq q->p:=by
 intro kq;refine (af.o _).mono ?_;rintro e w3 ⟨rfl,b9⟩;have aA:=Hd (b8.o.trans (b9.mono b8.o.size))
 revert w3 b9 aA
 exact kq.o):p:=h ⟨k⟩
def qB {p:Prop} (k:q) (h:Wq q->p:=by
 intro kq;rw [show ((3:Nat):Int)=(3:Int) from rfl];exact kq.o):p:=h ⟨k⟩
def Oe {p:Prop} (k:q) (h:Wq q->p:=by
 intro kq;go_wp2_with (at_builtin;first|refine Ro.dS rfl _ _ _ _ rfl _ _ rfl rfl an ?_|refine Ro.dS rfl _ _ _ _ rfl _ _ rfl rfl aN ?_)
 exact kq.o):p:=h ⟨k⟩
def zW {p:Prop} (h:p:=by
 go_wp2_with fail;go_roundw
 .exact ⟨k+1,o_,by go_num,aB⟩
 .simp [intOf];omega):p:=h
def we {p:Prop} (h:p:=by
 rw [F] at G;have:w.heap.size=b:=by simpa [Ro.dr] using G
 omega):p:=h
def sF {p:Prop} (k:q) (h:Wq q->p:=by
 intro kq;have hc:n*k<=c*k:=Nat.mul_le_mul_right _ h2
 revert hc
 exact kq.o):p:=h ⟨k⟩
def Tz {p:Prop} (k:q) (h:Wq q->p:=by
 intro kq;have hw:IntKind.i64.wrap ((i:Int)+1)=(i:Int)+1:=fh o_ o_;go_wp2_with fail
 revert hw
 exact kq.o):p:=h ⟨k⟩
def OJ {p:Prop} (k:q) (h:Wq q->p:=by
 intro kq;have F:rg b=b:=by unfold rg;omega
 have hs:sg b=false:=by unfold sg;exact dF
 have e:FloatKind.f64.decode b= .number false (Mc b) (-1074+(pl b:Nat)):=by
  have:=lX (b:=b) o_ (by rw [F];exact G);rw [F,hs] at this;exact this
 revert F hs e
 exact kq.o):p:=h ⟨k⟩
def zv {p:Prop} (h:p:=by
 rw [World.cell?_setCells_out _ _ _ _ _ (λe _=>absurd e (U t I))];exact h.b t I i):p:=h
def EL {p:Prop} (k:q) (h:Wq q->p:=by
 intro kq;have aA: ¬(c1=i):=o_;have aX: ¬(c1=i+1):=o_;have ay:(n:Int)+1 - (i:Int)=((n+1 - i:Nat):Int):=o_
 revert aA aX ay
 exact kq.o):p:=h ⟨k⟩
def zu {p:Prop} (k:q) (h:Wq q->p:=by
 intro kq;have I:=h.n.ag.dr.dr.a_ G;refine ⟨eU.gP I (by simp [AV.arr]),?_⟩
 revert I
 exact kq.o):p:=h ⟨k⟩
def Ap {p:Prop} (k:q) (h:Wq q->p:=by
 intro kq;have HB:Hid (Gr.kR w w1):=by rw [O];exact ((Gr.kR.refl _).alloc _).alloc _
 revert HB
 exact kq.o):p:=h ⟨k⟩
def zG {p:Prop} (h:p:=by
 obtain c|c:=c
 .exact .inl c
 .exact .inr ⟨c.1,by simpa using c.2⟩):p:=h
def TM {p:Prop} (k:q) (h:Wq q->p:=by
 intro kq;have a3:decide ((0:Int)<=U)=true:=dT;have bg:=xR N j ar;have bb:((2^(56 - 8*j):Nat):Int)=(2:Int)^U.toNat:=by
  rw [show U.toNat=56 - 8*j by omega,Int.natCast_pow];rfl
 rw [bb] at bg;have aV:=BF N j ar
 revert a3 bg bb aV
 exact kq.o):p:=h ⟨k⟩
def sH {p:Prop} (k:q) (h:Wq q->p:=by
 intro kq;rw [show ((0:Nat):Int)=(0:Int) from rfl];exact kq.o):p:=h ⟨k⟩
def AM {p:Prop} (h:p:=by
 exact ⟨0,0,none,0,o_,o_,rfl,rfl,Hd (eF.nil b_)⟩):p:=h
def Tc {p:Prop} (h:p:=by
 go_wp2_with fail;go_roundw
 .exact ⟨k+1,x',rt',o',o_,by go_num,HE.o,bE.o⟩
 .simp [intOf];omega):p:=h
def Iz {p:Prop} (k:q) (h:Wq q->p:=by
 intro kq;have f1:(i:Int)<=(c:Int):=o_;have f2:i<=c:=o_;have f3:i<=n:=o_;have f4:i+1<=n:=o_
 revert f1 f2 f3 f4
 exact kq.o):p:=h ⟨k⟩
def vZ {p:Prop} (h:p:=by
 have:w.heap.size=k:=by simpa [Ro.dr] using e
 omega):p:=h
def OR {p:Prop} (k:q) (h:Wq q->p:=by
 intro kq;have ac:=oa zs (qW x rt xs) ae;have G:PI k (x.r+1) F ((fM (qW x rt xs) zs).1,F,(fM (qW x rt xs) zs).2++e3):=rD (x:=K_ (rX x) SA sc) h3 ho U ac;have hl3:F.length<=64:=G.right.len
 revert ac G hl3
 exact kq.o):p:=h ⟨k⟩
def Ie {p:Prop} (k:q) (h:Wq q->p:=by
 intro kq;rintro e w5 ⟨rfl,rfl⟩;go_wp2_with fail;exact kq.o):p:=h ⟨k⟩
def NO {p:Prop} (h:p:=by
 obtain ⟨U,F⟩:=h;refine ⟨U,?_⟩;obtain F|⟨g,I,G,hv,V,O,r⟩:=F
 .exact .inl F
 .have hlt:=(Array.getElem?_eq_some_iff.1 O).1
  exact .inr ⟨g,I,G,hv,V,(X.block g o_).trans O,r⟩):p:=h
def SZ {p:Prop} (k:q) (h:Wq q->p:=by
 intro kq;have HA5:=Hd (a6.o.yd (show k<=100 by omega) bB.o (λt ht=>by rw [s_ ht];exact (d_:(34:TypeId)≠55)) (λt ht=>by rw [s_ ht];exact (d_:(58:TypeId)≠55)) cy.o);rw [<-ab.o] at HA5
 revert HA5
 exact kq.o):p:=h ⟨k⟩
def Eo {p:Prop} (k:q) (h:Wq q->p:=by
 intro kq;have G:Ro.dt (λk=>k=g) w (w.setCell ⟨g,i,none⟩ u):=Ro.dt.setCell w ⟨g,i,none⟩ u
 revert G
 exact kq.o):p:=h ⟨k⟩
def As {p:Prop} (k:q) (h:Wq q->p:=by
 intro kq;rintro e w2 ⟨rfl,rfl⟩;refine ⟨_,rfl,b_.drew.alloc l_ _,?_⟩;exact kq.o):p:=h ⟨k⟩
def Pm {p:Prop} (h:p:=by
 obtain F|I:=Nat.lt_or_ge i L.size
 .simp [Array.getD_eq_getD_getElem?,Array.getElem?_eq_getElem F] at h G
  rw [h] at G;cases G
 .simp [Array.getD_eq_getD_getElem?,Array.getElem?_eq_none I] at h):p:=h
def NT {p:Prop} (h:p:=by
 have I:=h.2.1;obtain _|a:=A<;>obtain _|a2:=A2<;>simp [Builtin.append_,run_underlying E.ty,sizeOf,typeInfo,hi,Builtin.lenOf,Builtin.firstCells,I,storeCells,loadCells,loadCellsFrom]):p:=h
def SR {p:Prop} (h:p:=by
 clear h1 a9 cu aS;go_wp2_with fail;refine (aW.o w3 ag.o).mono ?_;rintro e w4 ⟨rfl,bl⟩;have cL:=Hd (ag.o.trans (bl.mono ag.o.size));clear bl;go_wp2_with fail;go_ret;exact ⟨rfl,cL.o⟩):p:=h
def vO {p:Prop} (k:q) (h:Wq q->p:=by
 intro kq;rw [show ((1:Nat):Int)=(1:Int) from rfl];exact kq.o):p:=h ⟨k⟩
def vP {p:Prop} (k:q) (h:Wq q->p:=by
 intro kq;rw [show ((2:Nat):Int)=(2:Int) from rfl];exact kq.o):p:=h ⟨k⟩
def GA {p:Prop} (h:p:=by
 go_wp2_with fail;go_roundw
 .exact ⟨k+1,o_,by go_num,H2,ae⟩
 .simp [intOf];omega):p:=h
def Ow {p:Prop} (k:q) (h:Wq q->p:=by
 intro kq;have hz:=h.below.size;have G:Bw w (w.alloc (.cells cs e)):=dL;have I:(n+1)*bytes<=140737488355328:=by
  have:(n+1)*bytes<=100001*1000:=Nat.mul_le_mul o_ F;omega
 revert hz G I
 exact kq.o):p:=h ⟨k⟩
def OO {p:Prop} (k:q) (h:Wq q->p:=by
 intro kq;obtain ⟨w1,F⟩:=nm (w0.alloc (.cells iX 39));have ah:Bw w w0:=by rw [U];exact dL
 have ap:Bw w0 w1:=by rw [F];exact dL
 have bi:Hid (Bw w w1):=ah.trans (ap.mono ah.size)
 revert w1 F ah ap bi
 exact kq.o):p:=h ⟨k⟩
def Pf {p:Prop} (h:p:=by
 have:=h.cut (l:=0) (k:=m) o_ o_;simp only [Nat.sub_zero,List.drop_zero] at this;have e:(A.map λa=>a.add 0)=A:=by cases A<;>simp [Addr.add]
 rw [e] at this;exact this):p:=h
def Fw {p:Prop} (h:p:=by
 go_roundw
 .exact ⟨k+1,A2,bd,o_,by go_num,rfl,bZ⟩
 .simp [intOf];omega):p:=h
def FT {p:Prop} (h:p:=by
 have:=h1 q.dC.id (List.mem_map.2 ⟨q,hq,rfl⟩);rw [c,du.iT] at this;omega):p:=h
def Et {p:Prop} (h:p:=by
 obtain rfl|O:=p_ O
 .exact eG.new U hn (λ_ _=>rfl)
 .exact I.k q O):p:=h
def IA {p:Prop} (h:p:=by
 go_wp2_with fail;go_ret;exact ⟨_,_,rfl,Ro.Row.nil,b_,λb F=>by cases F⟩):p:=h
def Pn {p:Prop} (k:q) (h:Wq q->p:=by
 intro kq;have hL:=Dk.qe (s:=str x.word) (Nat.le_trans (Nat.le_of_eq (show (str x.word).size=x.word.length from List.size_toArray ..)) (Nat.le_trans (M_ x hv) d_))
 revert hL
 exact kq.o):p:=h ⟨k⟩
def SK {p:Prop} (h:p:=by
 intro W base args V gs I G hW hL O;exact Frame.close rfl laidOut k_ (tb:=4) rfl underlying4 (λV h=>JK H V h) G hW (λh U=>Ef W args U h (gl hL O))):p:=h
def zU {p:Prop} (h:p:=by
 exact ⟨0,none,0,o_,rfl,rfl,Hd (eF.nil b_)⟩):p:=h
def Oc {p:Prop} (h:p:=by
 have:k=0\/k=1\/k=2:=o_;have hz:=sizeOf4;obtain rfl|rfl|rfl:=this<;>simp [Instr.index,run_underlying underlying32,asIntOf,go_sem]):p:=h
def EC {p:Prop} (h:p:=by
 simp only [List.drop_zero,Array.toList_append];rw [hl];exact List.take_left):p:=h
def Vd {p:Prop} (k:q) (h:Wq q->p:=by
 intro kq;go_wp2_with (first|(at_lookup;refine ke rfl rfl rfl rfl hr ?_))
 exact kq.o):p:=h ⟨k⟩
def FU {p:Prop} (h:p:=by
 rw [<-List.eraseIdx_eq_take_drop_succ];exact List.eraseIdx_sublist _ _):p:=h
def Es {p:Prop} (h:p:=by
 obtain rfl|O:=p_ O
 .exact fQ.new U hn rfl
 .exact I.b q O):p:=h
def NM {p:Prop} (h:p:=by
 obtain ⟨A',c',e,_,_,F,G⟩:=Mem.nE h;obtain ⟨rfl,_,rfl⟩:A=A'/\n=n/\c=c':=by simpa using e
 exact ⟨F,G⟩):p:=h
def NQ {p:Prop} (h:p:=by
 obtain ⟨O,F⟩:=h;refine ⟨O,?_⟩;obtain F|⟨g,I,G,U,hg,r⟩:=F
 .exact .inl F
 .exact .inr ⟨g,I,G,U,o_,r⟩):p:=h
def UW {p:Prop} (h:p:=by
 have F:(prog).cellsOf 3=1:=k_;have G:(prog).cellsOf 31=1:=k_;simp [Instr.field,run_underlying underlying34,go_sem,F,G,asAgg]):p:=h
def Au {p:Prop} (h:p:=by
 go_wp2_with fail;go_ret;exact ⟨rfl,HZ⟩):p:=h
def IF {p:Prop} (h:p:=by
 go_ret;exact ⟨iz (by unfold num;split<;>omega),rfl⟩):p:=h
def Pj {p:Prop} (h:p:=by
 simp only [Array.getD_eq_getD_getElem?,Array.getElem?_setIfInBounds];by_cases h:i=j
 .subst h;simp [F]
 .simp [h]):p:=h
def Ig {p:Prop} (h:p:=by
 unfold Ck.one Dk.oH at this;rw [if_neg e] at this;cases this):p:=h
def SY {p:Prop} (h:p:=by
 have cd:=Hd (ak.o.trans (n3.base.mono ak.o.size));clear n3;go_wp2_with fail;go_ret;exact ⟨rfl,cd.o⟩):p:=h
def Pk {p:Prop} (h:p:=by
 simp only [Act.put,Array.getElem?_setIfInBounds];by_cases e:d=j
 .subst e;simp [h]
 .simp [e]):p:=h
def Uy {p:Prop} (h:p:=by
 show (if 2<=b' k then 9 else b' k)=0
 rw [if_neg (by rw [h.fm.lL k I];omega)];exact h.fm.lL k I):p:=h
def Pc {p:Prop} (h:p:=by
 obtain e|e:=hA b hb
 .exact (fL (F.row.lt e)).trans (F.b' b e)
 .exact fv e):p:=h
def Oa {p:Prop} (h:p:=by
 go_wp2_with fail;go_ret;exact ⟨_,_,rfl,Ro.Row.nil,Below.refl _ _,λb F=>by cases F⟩):p:=h
end
section
open Go.ChangeShapes Go.WideShapes Go.ChangeAt Go.RowKit
namespace Frame
def Arg (P:Program) (W:Z') (t:TypeId) (v:WW):Prop:=
 ∃(H:Type) (enc:TypeId×WW->H) (base:Nat) (d:DataW H) (p:List MemPlace),XR P W .any base t v/\DataW.Trod enc P W 0 (λ_=>Y') Y' t v d p/\ ∀x∈p,x.block<W.heap.size
def Ee (P:Program) (W:Z'):List TypeId->List WW->Prop
 |[],[]=>True
 |t::ts,v::vs=>Arg P W t v/\Ee P W ts vs
 |_,_=>False
def Qw (P:Program) (t:TypeId):Bool:=P.readableRec t&&decide (t<P.types.size)
section
variable {H:Type} {enc:TypeId×WW->H} {P:Program} {W W':Z'}
def Am {base:Nat}: ∀{ts:List TypeId} {vs:List WW} {ds:List (DataW H)} {p:List MemPlace}
  (_: ∀(j:Nat) t v,ts[j]?=X_ t->vs[j]?=X_ v->XR P W .any base t v) (_:Xt enc P W 0 (λ_=>Y') Y' ts vs ds p)
  (_: ∀x∈p,x.block<W.heap.size),Ee P W ts vs
 |[],[],[],_,_,_,_=>trivial
 |t::ts,v::vs,d::ds,_,hv,⟨p,q,hp,hq,e⟩,hlt=>by
  subst e;exact ⟨⟨H,enc,base,d,p,hv 0 t v rfl rfl,hp,λx hx=>hlt x (by simp [hx])⟩,Am (λj t v h1 h2=>hv (j+1) t v h1 h2) hq (λx hx=>hlt x (by simp [hx]))⟩
def sZ (hl:laidOutB P=Y') (hb:WY W.heap.size W W'): ∀{ts:List TypeId} {vs:List WW} {ds:List (DataW H)} {p:List MemPlace}
  (_:ts.all (Qw P)=Y') (_:Xt enc P W 0 (λ_=>Y') Y' ts vs ds p) (_: ∀x∈p,x.block<W.heap.size),
  Xt enc P W' 0 (λb=>decide (b<W.heap.size)) Y' ts vs ds p
 |[],[],[],_,_,h,_=>h
 |t::ts,v::vs,d::ds,_,ht,⟨p,q,hp,hq,e⟩,hlt=>by
  subst e;simp only [List.all_cons,XF] at ht;let ⟨h1,h2⟩:=ht;simp only [Qw,XF,decide_eq_true_eq] at h1;exact ⟨p,q,Below.trod hl h1.1 h1.2 hp hb (λx hx=>hlt x (by simp [hx])),sZ hl hb h2 hq (λx hx=>hlt x (by simp [hx])),rfl⟩
def Gn: ∀{ts:List TypeId} {vs:List WW} {ds:List (DataW H)} {p:List MemPlace} {sp:Nat->Bool}
  (_:Xt enc P W 0 sp Y' ts vs ds p),∀x∈p,x.block<W.heap.size
 |[],[],[],_,_,h=>by rw [show _=[] from h];simp
 |t::ts,v::vs,d::ds,_,_,⟨p,q,⟨m,hm⟩,hq,e⟩=>by
  subst e;intro x hx;obtain h|h:=List.mem_append.1 hx
  .exact DataW.trod_lt m _ _ _ hm x h
  .exact Gn hq x h
def Ao: ∀{ts:List TypeId} {vs:List WW} {ds:List (DataW H)} {p:List MemPlace} {sp:Nat->Bool}
  (_:Xt enc P W 0 sp Y' ts vs ds p),ds.length=ts.length/\vs.length=ts.length
 |[],[],[],_,_,_=>⟨rfl,rfl⟩
 |t::ts,v::vs,d::ds,_,_,⟨p,q,_,hq,e⟩=>by have:=Ao hq;simp [this]
def close {C:Checked} {s:ChangeSpec} {base:Nat} {ds gs:List (DataW H)}
  (hvars:s.vars=[]) (hl:laidOutB C.prog=Y') (ht:fn.params.toList.all (Qw C.prog)=Y') (hb:fn.resultTypes= #[tb]) (hub:C.prog.underlying tb=X_ .bool)
  (hs: ∀(ds:List (DataW H)),ds.length=fn.params.size->(s.fn H ds).results=[.lit (.bool Y')]/\(s.fn H ds).args=ds/\(s.fn H ds).vars=[])
  (hval: ∀(j:Nat) t v,fn.params[j]?=X_ t->args[j]?=X_ v->XR C.prog W .any base t v)
  (hW:DataW.Whole enc C.prog fn.params.toList s.vars Z_ W args.toList ds gs before)
  (walk:Ee C.prog W fn.params.toList args.toList->args.size=fn.params.size->Calls C.prog f args W λe W'=>e=R_ (B_ Y')/\WY W.heap.size W W'):
  Calls C.prog f args W λe W'=> ∃v,e=R_ v/\s.post enc C.prog fn Z_ Y' Z_ Z_ W args v W':=by
 have hW':=hW;let ⟨p,q,hA,hV,e,hfz,_⟩:=hW;rw [hvars] at hV;obtain ⟨rfl,rfl⟩:=trodVars_none hV;have hlt:=Gn hA;let ⟨hlen,hlen2⟩:=Ao hA;have hds:ds.length=fn.params.size:=by simpa using hlen
 let ⟨hs1,hs2,hs3⟩:=hs ds hds;refine (walk (Am (base:=base) (by simpa using hval) hA hlt) (by simpa using hlen2)).mono λe' W' ⟨he,bel⟩=>?_
 subst he;refine ⟨_,rfl,ds,[],before,[],p,[],hW',?_,?_,?_,bel.frame _,λh=>by cases h⟩
 .rw [Xn,hs1,hb]
  exact trodAll_mk1 (shut_bool hub _)
 .rw [Xn,hs2]
  exact sZ hl bel ht hA hlt
 .rw [Xn,hs3,hvars]
  rfl
end
def il (P:Program) (W:Z') (t:TypeId) (cs:List WW):Prop:=
 ∃(H:Type) (enc:TypeId×WW->H) (n:Nat) (x:DataW H×List MemPlace),DataW.trod enc P W 0 (λ_=>Y') Y' n t cs=X_ x
def ka {α:Type}: ∀(xss:List (List α)) (_: ∀xs∈xss,xs.length=size),xss.flatten.length=xss.length*size
 |[],_=>by simp
 |xs::xss,h=>by
  rw [Xz,Xh,ka xss (λy hy=>h y (by simp [hy])),h xs (by simp),Ya,Xj];omega
def lW {α:Type}: ∀(xss:List (List α)) (_: ∀xs∈xss,xs.length=size) (i j:Nat) (_:j<size) (xs:List α) (_:xss[i]?=X_ xs),xss.flatten[i*size+j]?=xs[j]?
 |[],_,i,j,_,xs,hx=>by simp at hx
 |ys::xss,h,0,j,hj,xs,hx=>by
  simp at hx;subst hx;have hl:ys.length=size:=h ys (by simp);rw [Xz,Nat.zero_mul,Nat.zero_add,List.getElem?_append_left (by omega)]
 |ys::xss,h,i+1,j,hj,xs,hx=>by
  have hl:ys.length=size:=h ys (by simp);rw [Xz,List.getElem?_append_right (by rw [hl,Xj];omega),hl];have e:(i+1)*size+j - size=i*size+j:=by rw [Xj];omega
  rw [e];exact lW xss (λy hy=>h y (by simp [hy])) i j hj xs (by simpa using hx)
section
variable {P:Program} {W:Z'} {t e:TypeId} {cs:List WW} {k:IntKind}
def il.bool (h:il P W t cs) (ht:P.underlying t=X_ .bool): ∃b:Bool,cs=[B_ b]:=by
 let ⟨H,enc,n,x,h⟩:=h;obtain ⟨b,rfl,_⟩:=DataW.trod_bool ht h;exact ⟨b,rfl⟩
def il.int (h:il P W t cs) (ht:P.underlying t=X_ (.int k)): ∃n:Int,cs=[.int k n]/\(Lit.int k n).wf=Y':=by
 let ⟨H,enc,n,x,h⟩:=h;obtain ⟨b,rfl,_,hw⟩:=DataW.trod_int ht h;exact ⟨b,rfl,hw⟩
def il.string (h:il P W t cs) (ht:P.underlying t=X_ .string): ∃s:ByteArray,cs=[T_ s]/\s.size<=maxLen:=by
 let ⟨H,enc,n,x,h⟩:=h;obtain ⟨b,rfl,_,hw⟩:=DataW.trod_string ht h;exact ⟨b,rfl,hw⟩
def il.struct (h:il P W t cs) (ht:P.underlying t=X_ (.struct fs)):
  cs.length=P.cellsOf t/\ ∀(i:Nat) (f:Field),fs[i]?=X_ f->il P W f.type ((cs.drop f.offset).take (P.cellsOf f.type)):=by
 let ⟨H,enc,n,x,h⟩:=h;let ⟨xs,m,_,_,hl,hx,hf⟩:=DataW.trod_struct ht h;refine ⟨hl,λi f hi=>?_⟩;have hlt:i<xs.length:=by rw [hx];exact (Array.getElem?_eq_some_iff.1 hi).1
 exact ⟨H,enc,m,xs[i],(hf i f hi).trans (List.getElem?_eq_getElem hlt)⟩
def il.array (h:il P W t cs) (ht:P.underlying t=X_ (.array m e)):
  cs.length=P.cellsOf t/\ ∀i,i<m->il P W e ((cs.drop (i*P.cellsOf e)).take (P.cellsOf e)):=by
 let ⟨H,enc,n,x,h⟩:=h;let ⟨xs,m',_,_,hl,hx,hf⟩:=DataW.trod_array ht h;refine ⟨hl,λi hi=>?_⟩;exact ⟨H,enc,m',xs[i]'(by omega),(hf i hi).trans (List.getElem?_eq_getElem (by omega))⟩
def il.slice (h:il P W t cs) (ht:P.underlying t=X_ (.slice e)) (hc:P.cellsOf e=size) (hpos:0<size):
  ∃(A:Option WX) (n c:Nat) (xss:List (List WW)),cs=[S_ A n c]/\n<=c/\c<=maxLen/\xss.length=n/\(∀xs∈xss,xs.length=size/\il P W e xs)/\
   Mem.Sl W W.heap.size size A n xss.flatten/\(A=Y_->n=0/\c=0):=by
 let ⟨H,enc,n,x,h⟩:=h;obtain ⟨rfl,_⟩|⟨a,len,cap,m,n',D,Pl,rfl,hb,hl,hm,hmm,_,hx⟩:=Go.Deep.open_slice ht h
 .exact ⟨Y_,0,0,[],rfl,by simp,by simp,rfl,by simp,Mem.Sl.nil,λ_=>⟨rfl,rfl⟩⟩
 .simp only [if_true] at hmm
  subst hmm;let ⟨F,hF⟩:=Go.Deep.choose_lt (α:=List WW) (p:=λi xs=>W.cells? 0 (a.add (i*P.cellsOf e)) (P.cellsOf e)=X_ xs/\DataW.trod enc P W 0 (λ_=>Y') Y' n' e xs=X_ (D i,Pl i)) (n:=m) (λi hi=>hx i hi);have hlen: ∀xs∈(List.range len).map F,xs.length=size:=by
   intro xs hxs;obtain ⟨i,hi,rfl⟩:=XH.1 hxs;have:=(World.cells?_some (hF i (by have:=List.mem_range.1 hi;omega)).1).2.1;omega
  refine ⟨X_ a,len,m,(List.range len).map F,rfl,hl,hm,by simp,λxs hxs=>?_,⟨by rw [ka _ hlen];simp,λhn=>⟨a,rfl,?_,λj hj=>?_⟩⟩,by simp⟩
  .refine ⟨hlen xs hxs,?_⟩
   obtain ⟨i,hi,rfl⟩:=XH.1 hxs;exact ⟨H,enc,n',_,(hF i (by have:=List.mem_range.1 hi;omega)).2⟩
  .let ⟨_,h2,h3⟩:=World.cells?_some (hF 0 (by omega)).1
   have h4:=h3 0 (by omega);rw [List.getElem?_eq_getElem (by omega)] at h4;obtain hb|hb:=XV a.block W.heap.size
   .exact hb
   .have hno:W.heap[((a.add (0*P.cellsOf e)).add 0).block]?=Y_:=by rw [Mem.ew,Mem.ew];exact Array.getElem?_eq_none hb
    unfold World.cell? at h4;rw [hno] at h4;cases h4
  .have hfl:=ka _ hlen
   rw [hfl] at hj;simp only [List.length_map,List.length_range] at hj;have hi:j/size<len:=(Nat.div_lt_iff_lt_mul hpos).2 hj;have hjj:j/size*size+j%size=j:=by rw [Nat.mul_comm];exact Nat.div_add_mod j size
   have hmod:j%size<size:=Nat.mod_lt _ hpos;have hg:=lW _ hlen (j/size) (j%size) hmod (F (j/size)) (by simp [hi]);rw [hjj] at hg;let ⟨_,h2,h3⟩:=World.cells?_some (hF (j/size) (by omega)).1;have h4:=h3 (j%size) (by omega);rw [Mem.add_add,hc,hjj,<-hg] at h4;rw [h4];exact List.getElem?_eq_getElem (by rw [hfl];simpa using hj)
end
def Arg.qa {W:Z'} (h:Arg P W t v):il P W t v.cells.toList:=by
 let ⟨H,enc,base,d,p,hv,⟨n,hd⟩,_⟩:=h;exact ⟨H,enc,n,_,hd⟩
def Arg.agg {W:Z'} (h:Arg P W t v) (ht:P.underlying t=X_ (.struct fs)): ∃cs:Array WW,v=A_ cs:=by
 let ⟨H,enc,base,d,p,hv,hd,_⟩:=h;obtain ⟨cs,rfl,_⟩:=okWide_struct ht hv;exact ⟨cs,rfl⟩
def Arg.one {W:Z'} (h:Arg P W t v) (ht:P.underlying t=X_ (.slice e)): ∃A n c,v=S_ A n c:=by
 let ⟨H,enc,base,d,p,hv,hd,_⟩:=h;exact okWide_slice ht hv
section
variable {P:Program} {W:Z'} {t e:TypeId} {v:WW} {k:IntKind}
def fu {n:Int} (h:(Lit.int .i64 n).wf=Y'): -9223372036854775808<=n/\n<=9223372036854775807:=by
 simpa [Lit.wf,IntKind.min,IntKind.max,IntKind.signed,IntKind.bits] using h
end
end Frame
end
section
open Go.RowKit
namespace Frame
section
variable {P:Program} {W:Z'} {t e:TypeId} {cs:List WW}
def il.lN {α:Type} {f:α->WW} {ok:α->Prop} (h:il P W t cs) (ht:P.underlying t=X_ (.slice e)) (hc:P.cellsOf e=1) (hf: ∀xs,il P W e xs-> ∃a,xs=[f a]/\ok a):
  ∃(A:Option WX) (n c:Nat) (G:List α),cs=[S_ A n c]/\n<=c/\c<=maxLen/\G.length=n/\(∀a∈G,ok a)/\Mem.Sl W W.heap.size 1 A n (G.map f):=by
 let ⟨A,n,c,F,V,h1,h2,h3,h4,h5,_⟩:=h.slice ht hc o_;have key: ∀F:List (List WW),(∀xs∈F,xs.length=1/\il P W e xs)-> ∃G:List α,G.length=F.length/\(∀a∈G,ok a)/\F.flatten=G.map f:=by
  intro F
  induction F with
  |nil=>intro _;exact ⟨[],rfl,by simp,rfl⟩
  |cons xs F ih=>
   intro X;let ⟨G,U,I,O⟩:=ih (λy hy=>X y (by simp [hy]));obtain ⟨a,rfl,ha⟩:=hf _ (X xs y_).2;exact ⟨a::G,by simp [U],by simpa using ⟨ha,I⟩,by simp [O]⟩
 let ⟨G,U,I,O⟩:=key F h4;exact ⟨A,n,c,G,V,h1,h2,o_,I,by rw [<-O];exact h5⟩
def il.Td (h:il P W t cs) (ht:P.underlying t=X_ (.slice e)) (he:P.underlying e=X_ .bool) (hc:P.cellsOf e=1):
  ∃(A:Option WX) (n c:Nat) (ls:List Bool),cs=[S_ A n c]/\n<=c/\c<=maxLen/\ls.length=n/\(∀a∈ls,True)/\Mem.Sl W W.heap.size 1 A n (ls.map Value.bool):=
 h.lN ht hc (λ_ hx=>by obtain ⟨b,rfl⟩:=hx.bool he;exact ⟨b,rfl,trivial⟩)
def il.ints {k:IntKind} (h:il P W t cs) (ht:P.underlying t=X_ (.slice e)) (he:P.underlying e=X_ (.int k)) (hc:P.cellsOf e=1):
  ∃(A:Option WX) (n c:Nat) (ls:List Int),cs=[S_ A n c]/\n<=c/\c<=maxLen/\ls.length=n/\(∀a∈ls,(Lit.int k a).wf=Y')/\Mem.Sl W W.heap.size 1 A n (ls.map (Ye k)):=
 h.lN ht hc (λ_ hx=>by obtain ⟨b,rfl,hb⟩:=hx.int he;exact ⟨b,rfl,hb⟩)
end
end Frame
end
section
namespace fC
abbrev W:=BitVec 32
abbrev dE:=BitVec 8
def EX:W:=0xedb88320#32
def lN:W:=BitVec.allOnes 32
def T (w:W):W:=(w>>>1)^^^(if w.getLsbD 0 then EX else 0#32)
def Tn:Nat->W->W
 |0,w=>w
 |n+1,w=>Tn n (T w)
def TF (a b:W):T (a^^^b)=T a^^^T b:=by
 unfold T;rw [BitVec.getLsbD_xor,BitVec.ushiftRight_xor_distrib];have h:(if (a.getLsbD 0^^b.getLsbD 0)=Y' then EX else 0#32)=(if a.getLsbD 0=Y' then EX else 0#32)^^^(if b.getLsbD 0=Y' then EX else 0#32):=by
  cases a.getLsbD 0<;>cases b.getLsbD 0<;>simp
 rw [h]
 ac_rfl
def Qc (n:Nat) (a b:W):Tn n (a^^^b)=Tn n a^^^Tn n b:=by
 induction n generalizing a b with
 |zero=>rfl
 |succ n ih=>simp only [Tn];rw [TF,ih]
def EY (m n:Nat) (w:W):Tn (m+n) w=Tn n (Tn m w):=by
 induction m generalizing w with
 |zero=>simp [Tn]
 |succ m ih=>rw [Nat.succ_add];simp only [Tn];exact ih _
def zL (x:W) (h:x.getLsbD 31=Z_):T (x<<<1)=x:=by
 unfold T;have G:(x<<<1).getLsbD 0=Z_:=by simp
 rw [G];simp only [Bool.false_eq_true,if_false,BitVec.xor_zero]
 ext i hi
 rw [Xk,<-XL,Xw,Xd];obtain F|F:=XV (1+i) 32
 .have e:1+i - 1=i:=o_
  rw [e,Xk,<-XL];simp [F]
 .have e:i=31:=o_
  subst e;rw [Xk,<-XL,h];simp
def EZ (w:W) (b:dE):W:=Tn 8 (w^^^b.setWidth 32)
def xW (w:W) (l:List dE):W:=l.foldl EZ w
def of (l:List dE):W:=xW lN l^^^lN
def yr (w:W) (l m:List dE):xW w (l++m)=xW (xW w l) m:=by unfold xW;rw [List.foldl_append]
def rV (s:W):List dE:=[s.setWidth 8,(s>>>8).setWidth 8,(s>>>16).setWidth 8,(s>>>24).setWidth 8]
def put (l:List dE):List dE:=l++rV (of l)
def JG (w:W):W:=Tn 4 (w&&&15#32)^^^(w>>>4)
def E_ (w:W):JG w=Tn 4 w:=by
 unfold JG;have e:w=(w&&&15#32)^^^((w>>>4)<<<4):=by
  ext i I
  simp only [BitVec.getElem_xor,BitVec.getElem_and,BitVec.getElem_shiftLeft];have O: ∀i,(h:i<32)->(15#32:W)[i]=decide (i<4):=d_;rw [O i I];obtain h|h:=XV i 4
  .simp [h]
  .have G: ¬i<4:=o_
   simp [G,BitVec.getElem_ushiftRight,h,BitVec.getLsbD_eq_getElem I]
 have s: ∀x:W,x<<<4=(((x<<<1)<<<1)<<<1)<<<1:=by
  intro x;simp only [<-BitVec.shiftLeft_add]
 have F: ∀i,28<=i->(w>>>4).getLsbD i=Z_:=by
  intro i I;rw [Xw];exact BitVec.getLsbD_of_ge _ _ o_
 have G:Tn 4 ((w>>>4)<<<4)=w>>>4:=by
  rw [s];simp only [Tn];rw [zL,zL,zL,zL]
  .exact F _ o_
  .rw [Xd,F _ o_];simp
  .rw [Xd,Xd,F _ o_];simp
  .rw [Xd,Xd,Xd,F _ o_];simp
 have U:Tn 4 w=Tn 4 ((w&&&15#32)^^^((w>>>4)<<<4)):=by rw [<-e]
 rw [U,Qc,G]
def Cd (w:W) (b:dE):EZ w b=JG (JG (w^^^b.setWidth 32)):=by
 rw [E_,E_,EZ,<-EY]
end fC
end
section
open Go.RowKit
namespace Bs
open fC (dE W)
def bv (b:dE):WW:= .int .u8 (b.toNat:Int)
def n8 (b:dE):Int:=b.toNat
def n32 (x:W):Int:=x.toNat
def lO (b:dE):0<=n8 b/\n8 b<=255:=by have:=b.isLt;unfold n8;omega
def qJ (x:W):0<=n32 x/\n32 x<=4294967295:=by have:=x.isLt;unfold n32;omega
def qK {a b:dE} (h:n8 a=n8 b):a=b:=by unfold n8 at h;exact BitVec.eq_of_toNat_eq o_
def Bs (w:Z') (B:Nat) (A:Option WX) (n:Nat) (bs:List dE):Prop:=Mem.Sl w B 1 A n (bs.map bv)
section
variable {w w':Z'} {B B' n:Nat} {A:Option WX} {bs:List dE}
def Bs.len (h:Bs w B A n bs):bs.length=n:=by have:=h.1;simpa using this
def Bs.at_ (h:Bs w B A n bs) (I:k<n): ∃(ad:WX) (b:dE) (F:k<bs.length),A=X_ ad/\ad.block<B/\bs[k]=b/\w.cell? (ad.add k)=X_ (.int .u8 (n8 b)):=by
 let ⟨ad,F,e,G,hc⟩:=Mem.Sl.at_ h I;exact ⟨ad,_,by simpa using F,e,G,rfl,by simpa [bv,n8] using hc⟩
def Bs.more (h:Bs w B A n bs) (hB:B<=B'):Bs w B' A n bs:=Mem.Sl.more h hB
def Bs.below (h:Bs w B A n bs) (hb:WY B w w'):Bs w' B A n bs:=Mem.Sl.below h hb
def Bs.drewN (h:Bs w B A n bs) (k:Nat):Bs (w.drewN k) B A n bs:=h
def Bs.alloc (h:Bs w B A n bs) (hB:B<=w.heap.size) (o:Obj):Bs (w.alloc o) B A n bs:=Mem.Sl.alloc h hB o
def Bs.nil:Bs w B A 0 []:=Mem.Sl.nil
def Bs.on (h:Bs w B A n bs) (hb:Bw w w') (hB:B<=w.heap.size):Bs w' B A n bs:=h.below (hb.mono hB)
def Bs.cut (h:Bs w B A n bs) {l:Nat} (hl:l<=k) (hk:k<=n):Bs w B (A.map λa=>a.add l) (k - l) ((bs.take k).drop l):=by
 have e:=h.len;refine ⟨by simp;omega,λh0=>?_⟩;let ⟨ad,ea,F,hc⟩:=h.2 o_;subst ea;refine ⟨ad.add l,rfl,by rw [Mem.ew];exact F,λj G=>?_⟩;have hj':j<k - l:=by simp at G;omega
 rw [Mem.add_add,hc (l+j) z_];simp [bv]
end
def Fe (bs:List dE): ∀u∈bs.map bv,u.oneCell'=Y':=by
 intro u F;obtain ⟨b,_,rfl⟩:=XH.1 F;rfl
def zN (x y:W):bits .xor .u32 (n32 x) (n32 y)=n32 (x^^^y):=by
 unfold n32;have hx:=(x^^^y).isLt;have e:Xm 32 (x.toNat:Int)=x:=by simp
 have F:Xm 32 (y.toNat:Int)=y:=by simp
 show IntKind.u32.wrap ((Xm 32 (x.toNat:Int)^^^Xm 32 (y.toNat:Int)).toNat:Int)=_
 rw [e,F];exact Ff
def Ob (x y:W):bits .and .u32 (n32 x) (n32 y)=n32 (x&&&y):=by
 unfold n32;have hx:=(x&&&y).isLt;have e:Xm 32 (x.toNat:Int)=x:=by simp
 have F:Xm 32 (y.toNat:Int)=y:=by simp
 show IntKind.u32.wrap ((Xm 32 (x.toNat:Int)&&&Xm 32 (y.toNat:Int)).toNat:Int)=_
 rw [e,F];exact Ff
def zP (x:W) (k:Nat):n32 x/(2^k:Nat)=n32 (x>>>k):=by
 unfold n32;rw [BitVec.toNat_ushiftRight,Nat.shiftRight_eq_div_pow];rfl
def TH (b:dE):n32 (b.setWidth 32)=n8 b:=by
 unfold n32 n8;rw [BitVec.toNat_setWidth,Nat.mod_eq_of_lt (by have:=b.isLt;omega)]
def strOf (bs:List dE):ByteArray:=⟨(bs.map λb=>(UInt8.ofBitVec b)).toArray⟩
def nI {w:Z'} {B:Nat} {bs:List dE} (h:Bs w B A n bs) (hs:P.underlying src=X_ (.slice e)) (I:P.underlying e=X_ (.int .u8)) (O:P.underlying dst=X_ .string):
  (convert src dst (S_ A n c)).run P w= .ok (T_ (strOf bs)) w:=by
 obtain G|G:=Xo n
 .have U:bs=[]:=Xc (by have:=h.len;omega)
  subst U;subst G;rw [run_convert_bytes_string w src dst e A 0 c hs I O];cases A with
  |none=>simp [Conv.bytesToString,strOf];rfl
  |some a=>
   have:=run_bytesToString (P:=P) w a 0 c [] (by simp [loadCells,loadCellsFrom]);rw [this];rfl
 .obtain ⟨ad,rfl,_,hc⟩:=h.2 G
  rw [run_convert_bytes_string w src dst e _ n c hs I O];have hl:(loadCells ad n).run P w= .ok ((bs.map λb=>(b.toNat:Int)).map (Ye .u8)).toArray w:=by
   have:=run_loadCells_list (P:=P) w ad (bs.map bv) (λj v hj=>by
    let ⟨F,e⟩:=List.getElem?_eq_some_iff.1 hj;rw [<-e];exact hc j F)
   have V:(bs.map bv).length=n:=by have:=h.len;simpa using this
   rw [V] at this;rw [this,List.map_map];rfl
  rw [run_bytesToString (P:=P) w ad n c _ hl,foldl_push_bytes];have X:(bs.map λb=>(b.toNat:Int)).map (λn=>UInt8.ofNat n.toNat)=bs.map λb=>UInt8.ofBitVec b:=by
   rw [List.map_map];apply List.map_congr_left;intro b _;simp only [Function.comp,Int.toNat_natCast];apply UInt8.toBitVec_inj.1;simp
  rw [X];simp [strOf]
end Bs
end
section
open Go.RowKit
abbrev Ca (w:Z') (ad:WX) (j:Nat) (v:WW):Prop:=w.cell? {block:=ad.block,off:=ad.off+j}=X_ v
def uM (ad:WX) (j:Nat) (h:j≠0):ad.add j={block:=ad.block,off:=ad.off+j}:=by unfold XZ;rw [if_neg h]
namespace Gv
section
variable {α:Type} (f:α->List WW) {k:Nat}
def len (ps:List α) (h: ∀p,(f p).length=k:=by exact λ_=>rfl):((ps.map f).flatten).length=ps.length*k:=by
 rw [Frame.ka (size:=k) _ (by intro xs hx;obtain ⟨p,_,rfl⟩:=List.mem_map.1 hx;exact h p)];simp
def get (ps:List α) (i j:Nat) (hi:i<ps.length) (hj:j<k) (h: ∀p,(f p).length=k:=by exact λ_=>rfl):((ps.map f).flatten)[i*k+j]?=(f ps[i])[j]?:=
 Frame.lW (size:=k) _ (by intro xs hx;obtain ⟨p,_,rfl⟩:=List.mem_map.1 hx;exact h p) i j hj _ (by simp [hi])
def tk (ps:List α) (i:Nat) (h: ∀p,(f p).length=k:=by exact λ_=>rfl):((ps.map f).flatten).take (i*k)=((ps.take i).map f).flatten:=by
 induction ps generalizing i with
 |nil=>simp
 |cons p ps ih=>
  cases i with
  |zero=>simp
  |succ i=>
   have e:(i+1)*k - (f p).length=i*k:=by rw [h p,Nat.succ_mul];omega
   rw [List.map_cons,List.flatten_cons,List.take_succ_cons,List.map_cons,List.flatten_cons,<-ih i,List.take_append,List.take_of_length_le (by rw [h p,Nat.succ_mul];omega),e]
def dp (ps:List α) (i:Nat) (h: ∀p,(f p).length=k:=by exact λ_=>rfl):((ps.map f).flatten).drop (i*k)=((ps.drop i).map f).flatten:=by
 induction ps generalizing i with
 |nil=>simp
 |cons p ps ih=>
  cases i with
  |zero=>simp
  |succ i=>
   have e:(i+1)*k - (f p).length=i*k:=by rw [h p,Nat.succ_mul];omega
   rw [List.map_cons,List.flatten_cons,List.drop_succ_cons,<-ih i,List.drop_append,List.drop_of_length_le (by rw [h p,Nat.succ_mul];omega),e,List.nil_append]
def one (ps:List α) (h: ∀p,(f p).all Value.oneCell'=true:=by exact λ_=>rfl): ∀u∈(ps.map f).flatten,u.oneCell'=true:=by
 intro u hu;let ⟨l,hl,hul⟩:=List.mem_flatten.1 hu;obtain ⟨p,_,rfl⟩:=List.mem_map.1 hl;exact List.all_eq_true.1 (h p) u hul
def at_ {w:World} {B:Nat} {ps:List α} (h:Mem.Sl w B k A n ((ps.map f).flatten)) (hk:i<n) (hp:0<k:=by decide) (hf: ∀p,(f p).length=k:=by exact λ_=>rfl):
  ∃(ad:Addr) (hl:i<ps.length),A=some ad/\ad.block<B/\(ad.add (i*k)).block<B/\w.cell? (ad.add (i*k))=(f ps[i])[0]?/\ ∀j (_:j≠0:=by decide) (_:j<k:=by decide),w.cell? {block:=(ad.add (i*k)).block,off:=(ad.add (i*k)).off+j}=(f ps[i])[j]?:=by
 let ⟨ad,e,hb,hc⟩:=h.2 (by omega);have hn:ps.length*k=n*k:=by rw [<-len f ps hf];exact h.1
 have hl:i<ps.length:=by rw [Nat.eq_of_mul_eq_mul_right hp hn];exact hk
 have key: ∀(j:Nat) (hj:j<k),w.cell? ((ad.add (i*k)).add j)=(f ps[i])[j]?:=by
  intro j hj;have hlt:i*k+j<((ps.map f).flatten).length:=by
   rw [len f ps hf];have:(i+1)*k<=ps.length*k:=Nat.mul_le_mul_right _ hl;rw [Nat.succ_mul] at this;omega
  rw [Mem.add_add,hc (i*k+j) hlt,<-get f ps i j hl hj hf];exact (List.getElem?_eq_getElem hlt).symm
 refine ⟨ad,hl,e,hb,by rw [Mem.ew];exact hb,?_,λj h0 hj=>by rw [<-uM _ _ h0];exact key j hj⟩;have k0:=key 0 hp;rwa [show (ad.add (i*k)).add 0=ad.add (i*k) from by simp [Addr.add]] at k0
variable {f}
def sd {W:Z'} {T:TypeId} {ok:α->Prop} (hd: ∀cs,Frame.il P W E cs-> ∃p,cs=f p/\ok p) {cs:List WW} (h:Frame.il P W T cs) (ht:P.underlying T=X_ (.slice E)) (hc:P.cellsOf E=k) (hp:0<k):
  ∃(A:Option WX) (n c:Nat) (ps:List α),cs=[S_ A n c]/\n<=c/\c<=maxLen/\ps.length=n/\(∀p∈ps,ok p)/\Mem.Sl W W.heap.size k A n ((ps.map f).flatten):=by
 let ⟨A,n,c,F,hcs,h1,h2,h3,h4,h5,_⟩:=h.slice (size:=k) ht hc hp;have key: ∀F:List (List WW),(∀xs∈F,xs.length=k/\Frame.il P W E xs)-> ∃ps:List α,ps.length=F.length/\(∀p∈ps,ok p)/\F=ps.map f:=by
  intro F
  induction F with
  |nil=>intro _;exact ⟨[],rfl,by simp,rfl⟩
  |cons xs F ih=>
   intro hx;let ⟨ps,hb1,hb2,hb3⟩:=ih (λy hy=>hx y (by simp [hy]));obtain ⟨p,rfl,hp⟩:=hd xs (hx xs y_).2;exact ⟨p::ps,by simp [hb1],by simpa using ⟨hp,hb2⟩,by simp [hb3]⟩
 let ⟨ps,hb1,hb2,hb3⟩:=key F h4;exact ⟨A,n,c,ps,hcs,h1,h2,by omega,hb2,by rw [<-hb3];exact h5⟩
def sv {W:Z'} {T:TypeId} {R:Option WX->Nat->Nat->List α->Prop} (h:Frame.Arg P W T v) (ht:P.underlying T=X_ (.slice E))
  (hs: ∃(A:Option WX) (n c:Nat) (ps:List α),v.cells.toList=[S_ A n c]/\R A n c ps): ∃(A:Option WX) (n c:Nat) (ps:List α),v=S_ A n c/\R A n c ps:=by
 obtain ⟨A,n,c,rfl⟩:=h.one ht;let ⟨A',n',c',ps,hcs,h1⟩:=hs;simp [Value.cells] at hcs;obtain ⟨rfl,rfl,rfl⟩:=hcs;exact ⟨A,n,c,ps,rfl,h1⟩
end
end Gv
end
section
open _root_.Go.Proofs.Tryz Go.RowKit
structure qH where
 kind:Int
 name:ByteArray
 fJ:ByteArray
 bytes:List fC.dE
 uj:Option WX
 uk:Nat
 uo:Nat
namespace qH
def cells (p:qH):List WW:=[I_ J_ p.kind,T_ p.name,T_ p.fJ,S_ p.uj p.uk p.uo]
section
variable {W:Z'}
def flat (ps:List qH):List WW:=(ps.map cells).flatten
end
def eH (ps qs:List qH):flat (ps++qs)=flat ps++flat qs:=by simp [flat]
def dO (ps:List qH):(flat ps).length=ps.length*4:=Gv.len cells ps
structure At (w:Z') (ad:WX) (p:qH):Prop where
 c0:w.cell? ad=X_ (I_ J_ p.kind)
 c1:Ca w ad 1 p.name
 c2:Ca w ad 2 p.fJ
 c3:Ca w ad 3 (S_ p.uj p.uk p.uo)
def at_ {w:Z'} {B:Nat} {ps:List qH} (h:Mem.Sl w B 4 A n (flat ps)) (hk:k<n):
  ∃(ad:WX) (hl:k<ps.length),A=X_ ad/\ad.block<B/\(ad.add (k*4)).block<B/\At w (ad.add (k*4)) ps[k]:=
 let ⟨ad,hl,a,b,c,d,e⟩:=Gv.at_ cells h hk;⟨ad,hl,a,b,c,⟨d,e 1,e 2,e 3⟩⟩
def At.below {w w':Z'} {B:Nat} {p:qH} (h:At w ad p) (G:WY B w w') (F:ad.block<B):At w' ad p:=by
 exact vI
end qH
end
section
open Go.RowKit
namespace Ro
structure dt (S:Nat->Prop) (w w':Z'):Prop where
 os:w'.os=w.os
 tape:w'.tape=w.tape
 output:w'.output=w.output
 size:w.heap.size<=w'.heap.size
 block: ∀k,k<w.heap.size-> ¬S k->w'.heap[k]?=w.heap[k]?
section
variable {S T:Nat->Prop} {w w1 w':Z'}
def dt.refl (S:Nat->Prop) (w:Z'):dt S w w:=⟨rfl,rfl,rfl,Xy _,λ_ _ _=>rfl⟩
def dt.trans (h:dt S w w1) (h2:dt T w1 w') (hT: ∀k,k<w.heap.size->T k->S k):dt S w w':=
 ⟨h2.os.trans h.os,h2.tape.trans h.tape,h2.output.trans h.output,Nat.le_trans h.size h2.size,λk hk hS=>(h2.block k (XP hk h.size) (λc=>hS (hT k hk c))).trans (h.block k hk hS)⟩
def dt.mono (h:dt S w w') (hS: ∀k,k<w.heap.size->S k->T k):dt T w w':=⟨h.os,h.tape,h.output,h.size,λk hk hT=>h.block k hk (λc=>hT (hS k hk c))⟩
def dt.dW (h:Bw w w'):dt S w w':=⟨h.os,h.tape,h.output,h.size,λk hk _=>h.block k hk⟩
def dt.below {B:Nat} (h:dt S w w') (hB:B<=w.heap.size) (hS: ∀k,k<B-> ¬S k):WY B w w':=⟨h.os,h.tape,h.output,h.size,λk hk=>h.block k (XP hk hB) (hS k hk)⟩
def dt.setCell (w:Z') (p:WX) (u:WW):dt (λk=>k=p.block) w (w.setCell p u):=⟨rfl,rfl,rfl,by simp,λk _ hS=>XQ w p u k hS⟩
def dt.qA (h:dt S w.drew w'):dt S w w':=⟨h.os,h.tape,h.output,h.size,h.block⟩
def dt.drew (h:dt S w w'):dt S w w'.drew:=⟨h.os,h.tape,h.output,h.size,h.block⟩
def dt.alloc (h:dt S w w') (o:Obj):dt S w (w'.alloc o):=h.trans (T:=λ_=>False) ⟨rfl,rfl,rfl,by simp,λk hk _=>Xs w' o k hk⟩ (λ_ _ c=>c.elim)
end
def dr (A:Option WX):Option Nat:=A.map (·.block)
def Row (w:Z') (e:TypeId) (k:Nat) (A:Option WX) (n c:Nat) (xs:List WW):Prop:=
 xs.length=n*k/\n<=c/\c<=maxLen/\((A=Y_/\c=0)\/ ∃g off cur,A=X_ ⟨g,off,Y_⟩/\w.heap[g]?=X_ (.cells cur e (0,0))/\off+c*k<=cur.size/\(cur.toList.drop off).take (n*k)=xs)
def over (xs:List WW) (o:Nat) (vs:List WW):List WW:=xs.take o++vs++xs.drop (o+vs.length)
section
variable {w w':Z'} {e:TypeId} {k n c g off:Nat} {A:Option WX} {xs vs:List WW}
def Ez {o:Nat} (h:o+vs.length<=xs.length):(over xs o vs).length=xs.length:=by unfold over;simp;omega
def Row.nil:Row w e k Y_ 0 0 []:=⟨by simp,Xy _,d_,.inl ⟨rfl,rfl⟩⟩
def Row.new (hn:cs.size=n*k) (hm:n<=maxLen):Row (w.alloc (.cells cs e)) e k (X_ ⟨w.heap.size,0,Y_⟩) n n cs.toList:=
 ⟨by simpa using hn,Xy _,hm,.inr ⟨_,0,cs,rfl,heap_alloc_new w _,o_,by rw [List.drop_zero,t_ z_]⟩⟩
def Row.len (h:Row w e k A n c xs):xs.length=n*k:=h.1
def Row.le (h:Row w e k A n c xs):n<=c/\c<=maxLen:=⟨h.2.1,h.2.2.1⟩
def Row.fe (h:Row w e k A n c xs) (hn:0<c): ∃g off,A=X_ ⟨g,off,Y_⟩:=by
 obtain ⟨_,h0⟩|⟨g,off,_,F,_⟩:=h.2.2.2
 .omega
 .exact ⟨g,off,F⟩
def Row.lt (h:Row w e k A n c xs) (F:dr A=X_ g):g<w.heap.size:=by
 obtain ⟨rfl,_⟩|⟨G,off,cur,rfl,I,_⟩:=h.2.2.2
 .cases F
 .obtain rfl:G=g:=by simpa [dr] using F
  exact (Array.getElem?_eq_some_iff.1 I).1
def Row.type (h:Row w e k A n c xs) (F:dr A=X_ g): ∃O,w.heap[g]?=X_ (.cells O e (0,0)):=by
 obtain ⟨rfl,_⟩|⟨G,off,O,rfl,I,_⟩:=h.2.2.2
 .cases F
 .obtain rfl:G=g:=by simpa [dr] using F
  exact ⟨O,I⟩
def Row.dy (h:Row w e k A n c xs) (V: ∀g,dr A=X_ g->w'.heap[g]?=w.heap[g]?):Row w' e k A n c xs:=by
 let ⟨I,X,U,G⟩:=h;refine ⟨I,X,U,?_⟩;obtain G|⟨g,off,F,rfl,O,r⟩:=G
 .exact .inl G
 .exact .inr ⟨g,off,F,rfl,(V g rfl).trans O,r⟩
def Row.only {S:Nat->Prop} (h:Row w e k A n c xs) (ho:dt S w w') (hS: ∀g,dr A=X_ g-> ¬S g):Row w' e k A n c xs:=
 h.dy λg hg=>ho.block g (h.lt hg) (hS g hg)
def Row.apart {n2 c2:Nat} (h:Row w e k A n c xs) (h2:Row w U k2 A2 n2 c2 O) (X:e≠U): ∀g,dr A=X_ g-> ¬dr A2=X_ g:=by
 intro g V G;let ⟨c1,I⟩:=h.type V;let ⟨c2,F⟩:=h2.type G;rw [I] at F;exact X (by simpa using congrArg (λo=>match o with|X_ (Obj.cells _ t _)=>t|_=>0) F)
def Row.dZ (h:Row w e k A n c xs) (F:Mem.c_ w g2 t cs) (O:e≠t): ∀g,dr A=X_ g-> ¬g=g2:=by
 rintro g I rfl;let ⟨c1,G⟩:=h.type I;unfold Mem.c_ at F;rw [G] at F;exact O (by simpa using congrArg (λo=>match o with|X_ (Obj.cells _ t _)=>t|_=>0) F)
def Row.cell (h:Row w e k (X_ ⟨g,off,Y_⟩) n c xs) (j:Nat) (hj:j<xs.length):w.cell? ⟨g,off+j,Y_⟩=X_ xs[j]:=by
 obtain ⟨h1,h2,h3,⟨X,_⟩|⟨g',I,F,O,V,U,G⟩⟩:=h
 .cases X
 .simp only [Xq,XC,and_true] at O
  obtain ⟨rfl,rfl⟩:=O;subst G;refine sF ?_;intro hc;have hs:off+j<F.size:=by simp at hj;omega
  rw [cell_of_row w g (off+j) F e (0,0) V,Array.getElem?_eq_getElem hs];simp
def Row.frozen (h:Row w e k (X_ ⟨g,off,Y_⟩) n c xs) (j:Nat):w.frozen? ⟨g,j,Y_⟩=Z_:=by
 let ⟨cur,hc⟩:=h.type (g:=g) rfl;simp [World.frozen?,hc]
def Row.sl (h:Row w e k A n c xs):Mem.Sl w w.heap.size k A n xs:=by
 refine ⟨h.1,λhn=>?_⟩;obtain ⟨g,off,rfl⟩:=h.fe (by have:=h.2.1;omega);exact ⟨_,rfl,h.lt rfl,λj F=>by rw [Addr.add_lit];exact h.cell j F⟩
def Row.cut (h:Row w e k A n c xs) (i:Nat) (V:i<=n):Row w e k A i c (xs.take (i*k)):=by
 let ⟨h1,h2,O,G⟩:=h;have U:i*k<=n*k:=Xe _ V;refine ⟨by simp;omega,o_,O,?_⟩;obtain G|⟨g,off,F,rfl,I,X,ht⟩:=G
 .exact .inl G
 .refine .inr ⟨g,off,F,rfl,I,X,?_⟩
  rw [<-ht,Xu,XI U]
def Row.from_ (h:Row w e k (X_ ⟨g,off,Y_⟩) n c xs) (i:Nat) (hi:i<=n):Row w e k (if c=i then X_ ⟨g,off,Y_⟩ else X_ ⟨g,off+i*k,Y_⟩) (n - i) (c - i) (xs.drop (i*k)):=by
 obtain ⟨h1,h2,h3,⟨h4,_⟩|⟨g',O,F,V,U,ab,I⟩⟩:=h
 .cases h4
 .simp only [Xq,XC,and_true] at V
  obtain ⟨rfl,rfl⟩:=V;have X:(n - i)*k=n*k - i*k:=XK _ _ _;have e2:(c - i)*k=c*k - i*k:=XK _ _ _;have hm:i*k<=n*k:=Xe _ hi;refine sF ?_;intro hc;refine ⟨by rw [Xr,h1,X],o_,o_,.inr ?_⟩;by_cases G:c=i
  .rw [if_pos G]
   obtain rfl:n=i:=o_;refine ⟨g,off,F,rfl,U,by rw [e2];omega,?_⟩;rw [Nat.sub_self,Nat.zero_mul,List.take_zero,Xi o_]
  .rw [if_neg G]
   refine ⟨g,off+i*k,F,rfl,U,by rw [e2];omega,?_⟩;rw [<-I,List.drop_take,List.drop_drop,X]
def Row.full (h:Row w e k A n c xs): ∃ys,Row w e k A c c ys/\ys.take (n*k)=xs:=by
 let ⟨G,h2,O,U⟩:=h;refine sF ?_;intro hc;obtain ⟨rfl,rfl⟩|⟨g,off,F,rfl,I,X,ht⟩:=U
 .obtain rfl:n=0:=o_
  have V:xs=[]:=Xc (by simpa using G);subst V;exact ⟨[],Row.nil,by simp⟩
 .refine ⟨(F.toList.drop off).take (c*k),⟨by simp;omega,Xy _,O,.inr ⟨g,off,F,rfl,I,X,rfl⟩⟩,?_⟩
  rw [Xu,XI hc,ht]
def Row.put (h:Row w e k (X_ ⟨g,off,Y_⟩) n c xs) (o:Nat) (vs:List WW) (ho:o+vs.length<=n*k) (h1: ∀v∈vs,v.oneCell'=Y'):
  ∃w',(storeCells ⟨g,off+o,Y_⟩ vs 0).run P w= .ok () w'/\Row w' e k (X_ ⟨g,off,Y_⟩) n c (over xs o vs)/\dt (λb=>b=g) w w':=by
 have hxl:=h.1;obtain ⟨hl,h2,h3,⟨h4,_⟩|⟨g',U,F,X,V,aa,I⟩⟩:=h
 .cases h4
 .simp only [Xq,XC,and_true] at X
  obtain ⟨rfl,rfl⟩:=X;refine sF ?_;intro hc;have hr:=run_storeCells_at P g (off+o) e vs 0 F w V o_ h1;simp only [Nat.add_zero] at hr;refine ⟨_,hr,⟨by rw [Ez o_];exact hl,h2,h3,.inr ⟨g,off,_,rfl,setRow_heap w g F _ e _ V,?_,?_⟩⟩,⟨rfl,rfl,rfl,by simp [World.setRow],λb _ hb=>setRow_other w g b _ hb⟩⟩
  .simp;omega
  .subst I
   unfold over;apply XY;intro j;simp only [List.getElem?_take,List.getElem?_drop,List.getElem?_append,Xh,XE,Xr,Xl];have m1:min (off+o) F.size=off+o:=o_;have m2:min o (min (n*k) (F.size - off))=o:=o_;rw [m1,m2];by_cases j1:j<o
   .have a1:j<n*k:=o_
    have a2:off+j<off+o+vs.length:=o_;have O:off+j<off+o:=o_;have a4:j<o+vs.length:=o_;simp [a1,a2,O,a4,j1]
   .by_cases G:j<o+vs.length
    .have a1:j<n*k:=o_
     have a2:off+j<off+o+vs.length:=o_;have O: ¬off+j<off+o:=o_;simp [a1,a2,O,j1,G]
     congr 1
     omega
    .have a2: ¬off+j<off+o+vs.length:=o_
     by_cases j3:j<n*k
     .have b1:o+vs.length+(j - (o+vs.length))<n*k:=o_
      simp [a2,G,j3,b1]
      congr 1
      omega
     .have b1: ¬o+vs.length+(j - (o+vs.length))<n*k:=o_
      simp [G,j3,b1]
def Row.BR (h:Row w e k (X_ ⟨g,off,Y_⟩) n c xs) (j:Nat) (hj:j<xs.length) (u:WW):Row (w.setCell ⟨g,off+j,Y_⟩ u) e k (X_ ⟨g,off,Y_⟩) n c (xs.set j u):=by
 obtain ⟨hl,h2,h3,⟨h4,_⟩|⟨g',X,F,O,hg,I,U⟩⟩:=h
 .cases h4
 .simp only [Xq,XC,and_true] at O
  obtain ⟨rfl,rfl⟩:=O;refine sF ?_;intro hc;refine ⟨by simpa using hl,h2,h3,.inr ⟨g,off,F.setIfInBounds (off+j) u,rfl,?_,by simpa using I,?_⟩⟩
  .rw [setCell_eq_setRow w g (off+j) F e (0,0) u hg]
   exact setRow_heap w g F _ e _ hg
  .subst U
   apply XY;intro t;simp only [Array.toList_setIfInBounds,List.getElem?_take,List.getElem?_drop,List.getElem?_set,XE,Xr,List.length_set,Xl];have G:=hj;simp only [XE,Xr,Xl] at G;by_cases V:t<n*k
   .by_cases aa:j=t
    .subst aa
     have a1:off+j<F.size:=o_;have a2:j<F.size - off:=o_;simp [V,a1,a2];exact G
    .have e2: ¬off+j=off+t:=o_
     simp [V,aa,e2]
   .have aa: ¬j=t:=o_
    simp [V,aa]
def vL {news:List WW} {a b:Nat} (hn:news.length=b) (h:a+b<=ys.length):(over ys a news).take (a+b)=ys.take a++news:=by
 unfold over;rw [Xb z_,t_ z_]
variable {P:Program} {t:TypeId} {z:WW} {bytes B m c2:Nat} {A2:Option WX} {news:List WW} {ty:TypeId}
def vM (E:Mem.El P t e z k bytes) (h:Row w e k A n c xs) (hs:Mem.Sl w B k A2 m news) (X: ∀u∈news,u.oneCell'=Y') (hm:0<m) (F:n+m<=c):
  ∃w',(Xa #[t,t] ty #[S_ A n c,S_ A2 m c2]).run P w= .ok (S_ A (n+m) c) w'/\Row w' e k A (n+m) c (xs++news)/\dt (λb=>dr A=X_ b) w w':=by
 let ⟨i,hi,hz,I,hz2⟩:=info_parts E.info;obtain ⟨ad,rfl,_,hc⟩:=hs.2 hm;obtain ⟨g,off,rfl⟩:=h.fe o_;let ⟨ys,V,ht⟩:=h.full;have hxl:=h.1;have U:(n+m)*k<=c*k:=Xe _ F;rw [Xj] at U;let ⟨w',hr,hR,hO⟩:=V.put (P:=P) (n*k) news (by rw [hs.1];omega) X;have G:Src P i.size t (S_ (X_ ad) m c2) m news w:=by
  rw [I];exact Src.ofSlice w E.ty ad m c2 news hs.1 (λj u hu=>by let ⟨hj,e⟩:=List.getElem?_eq_some_iff.1 hu;rw [<-e];exact hc j hj) X
 refine ⟨w',?_,?_,?_⟩
 .have O:=G.cells
  rw [I] at O;simp [Xa,run_underlying E.ty,sizeOf,typeInfo,hi,G.len,F,O,Addr.add_lit,I,hr]
 .have:=hR.cut (n+m) F
  rw [Xj,vL hs.1 (by rw [V.1];omega),ht] at this;exact this
 .exact hO.mono (λb _ hb=>by subst hb;rfl)
def iZ (z:Array WW) (n:Nat):(Xf z n).size=n*z.size:=by simp [Xf]
def EB (E:Mem.El P t e z k bytes) (h:Row w e k A n c xs) (hs:Mem.Sl w B k A2 m news) (h1: ∀u∈news,u.oneCell'=Y') (hm:0<m) (F:c<n+m) (V:n+m<=maxLen) (aa:(n+m)*bytes<=140737488355328):
  ∃c' w',(Xa #[t,t] ty #[S_ A n c,S_ A2 m c2]).run P w= .ok (S_ (X_ ⟨w.heap.size,0,Y_⟩) (n+m) c') w'/\Row w' e k (X_ ⟨w.heap.size,0,Y_⟩) (n+m) c' (xs++news)/\dt (λ_=>False) w w':=by
 let ⟨i,hi,hz,I,hz2⟩:=info_parts E.info;obtain ⟨ad,rfl,_,hc⟩:=hs.2 hm;have O:=h.1;have ab:(Xp i.size n (S_ A n c)).run P w.drew= .ok xs.toArray w.drew:=by
  rw [I];exact Tu
 have G:Src P i.size t (S_ (X_ ad) m c2) m news w:=by
  rw [I];exact Src.ofSlice w E.ty ad m c2 news hs.1 (λj u hu=>by let ⟨hj,e⟩:=List.getElem?_eq_some_iff.1 hu;rw [<-e];exact hc j hj) h1
 have hr:=run_append_grow_src (P:=P) w t t ty e i z E.ty hi hz A n c xs ab _ m news G F (by unfold maxLen at V;omega) (by rw [hz2];exact growslice_fits F aa);have U:=grownCap_ge w (n+m) c e;refine ⟨_,_,hr,⟨by rw [Xh,O,hs.1,Xj],U,grownCap_le_maxLen w (n+m) c e V,.inr ⟨_,0,_,rfl,heap_alloc_new w.drew _,?_,?_⟩⟩,⟨rfl,rfl,rfl,by simp,λb hb _=>Xs w.drew _ b hb⟩⟩
 .have X:(grownCap w (n+m) c e - (n+m))*k=grownCap w (n+m) c e*k - (n+m)*k:=XK _ _ _
  have af:(n+m)*k<=grownCap w (n+m) c e*k:=Xe _ U;rw [XA,iZ,E.zs,X];simp only [XW,Xh,O,hs.1];rw [Xj] at*;omega
 .have hl:(n+m)*k=(xs++news).length:=by rw [Xh,O,hs.1,Xj]
  exact EC
def app (E:Mem.El P t e z k bytes) (h:Row w e k A n c xs) (hs:Mem.Sl w B k A2 m news) (h1: ∀u∈news,u.oneCell'=Y') (V:n+m<=maxLen) (F:(n+m)*bytes<=140737488355328):
  ∃A' c' w',(Xa #[t,t] ty #[S_ A n c,S_ A2 m c2]).run P w= .ok (S_ A' (n+m) c') w'/\Row w' e k A' (n+m) c' (xs++news)/\dt (λb=>dr A=X_ b) w w'/\(dr A'=dr A\/dr A'=X_ w.heap.size):=by
 obtain rfl|hm:=Xo m
 .let ⟨i,hi,hz,hz1,hz2⟩:=info_parts E.info
  have hn:news=[]:=Xc (by simpa using hs.1);subst hn;refine ⟨A,c,w,?_,by simpa using h,dt.refl _ _,.inl rfl⟩;exact NT
 .by_cases G:n+m<=c
  .let ⟨w',O,X,U⟩:=vM (P:=P) (ty:=ty) (c2:=c2) E h hs h1 hm G
   exact ⟨A,c,w',O,X,U,.inl rfl⟩
  .let ⟨c',w',O,X,U⟩:=EB (P:=P) (ty:=ty) (c2:=c2) E h hs h1 hm o_ V F
   exact ⟨_,c',w',O,X,U.mono (λ_ _ c=>c.elim),.inr rfl⟩
def nD (E:Mem.El P t e z k bytes) (h:Row w e k (X_ ⟨g,off,Y_⟩) n c xs) (o G O m F I:Nat) (cs:List WW) (hm:m=Nat.min F G) (ho:o+m<=n) (hs:Mem.Sl w B k A2 m cs) (hp:0<m) (h1: ∀u∈cs,u.oneCell'=Y'):
  ∃w',(XB #[t,t] ty #[S_ (X_ ⟨g,off+o*k,Y_⟩) G O,S_ A2 F I]).run P w= .ok (goInt m) w'/\Row w' e k (X_ ⟨g,off,Y_⟩) n c (over xs (o*k) cs)/\dt (λb=>b=g) w w':=by
 let ⟨i,hi,hz,V,hz2⟩:=info_parts E.info;obtain ⟨ad,rfl,_,hc⟩:=hs.2 hp;have U:o*k+cs.length<=n*k:=by rw [hs.1,<-Xj];exact Xe _ ho
 let ⟨w',hr,hR,hO⟩:=h.put (P:=P) (o*k) cs U h1;have hl:=run_firstCells_some (P:=P) w k m ad F I cs hs.1 (λj v X=>by let ⟨X,e⟩:=List.getElem?_eq_some_iff.1 X;rw [<-e];exact hc j X);refine ⟨w',?_,hR,hO⟩;simp [XB,run_underlying E.ty,XO,sizeOf,typeInfo,hi,V,<-hm,hl,hr]
end
end Ro
end
section
open Go.RowKit
namespace Ro
def Lp {v:List WW} {a:Nat} (G:a<=xs.length) (O:v.length=k) (hz:zs.length=k):over (over (xs++zs) (a+k) (xs.drop a)) a v=xs.take a++v++xs.drop a:=by
 have F:over (xs++zs) (a+k) (xs.drop a)=(xs++zs).take (a+k)++xs.drop a:=by
  unfold over;rw [Xi (show (xs++zs).length<=a+k+(xs.drop a).length by simp;omega),Xn]
 rw [F];unfold over;have U:((xs++zs).take (a+k)++xs.drop a).take a=xs.take a:=by
  rw [Xb z_,Xu,XI o_,Xb G]
 have I:((xs++zs).take (a+k)++xs.drop a).drop (a+v.length)=xs.drop a:=by
  rw [O,List.drop_append_of_le_length z_,Xi z_,Yc]
 rw [U,I]
def Gu {v:List WW} {a:Nat} (ha:a<=xs.length) (G:v.length=k) (hz:zs.length=k+(xs.length - a)):over (over (xs.take a++zs) a v) (a+k) (xs.drop a)=xs.take a++v++xs.drop a:=by
 have I:(xs.take a).length=a:=by simp;omega
 have F:over (xs.take a++zs) a v=xs.take a++v++zs.drop k:=by
  unfold over;rw [Xb o_,t_ o_,List.drop_append,Xi o_,I,G,Yc,show a+k - a=k by omega]
 rw [F];unfold over;rw [Xb (show a+k<=(xs.take a++v).length by simp;omega),t_ (show (xs.take a++v).length<=a+k by simp;omega),Xi (show (xs.take a++v++zs.drop k).length<=a+k+(xs.drop a).length by simp;omega),Xn]
variable {P:Program} {w:Z'}
def Qy {o:Oper} {K:Act->Z'->Prop} {Q:Exit->Act->Z'->Prop} (d s:Operand) (t F:TypeId)
  (G:o.op= .call {callee:= .builtin .copy,args:= #[d,s],argTypes:= #[t,F]}) (v u:WW) (O:a.eval d=v) (hs:a.eval s=u) {w':Z'}
  (I:(XB #[t,F] o.type #[v,u]).run P w= .ok v' w') (h:K (a.put o.dst v') w'):o.wp P a w K Q:=by
 unfold XG execOp;simp only [G,resolve,invoke,builtin,XT,XS,Xx,XD,XN,XX,O,hs,I];exact h
def jH {o:Oper} {K:Act->Z'->Prop} {Q:Exit->Act->Z'->Prop} {E:Prop}
  (I:o.guard=Y_) (d x:Operand) (dT F:TypeId) (G:o.op=Op.call {callee:=Callee.builtin Builtin.copy,args:= #[d,x],argTypes:= #[dT,F]})
  (v u:WW) (hd:a.eval d=v) (V:a.eval x=u) {w':Z'} (U:(XB #[dT,F] o.type #[v,u]).run P w= .ok v' w') (O:K (a.put o.dst v') w'):
  if Xg o (yielded ops a.tmps)=Y' then XG P o a w K Q else E:=by
 have X:Xg o (yielded ops a.tmps)=Y':=by simp [Xg,I]
 rw [if_pos X];exact Qy d x dT F G v u hd V U O
def tW {o:Oper} {K:Act->Z'->Prop} {Q:Exit->Act->Z'->Prop} (s x:Operand) (t tn:TypeId)
  (G:o.op= .call {callee:= .builtin .append,args:= #[s,x],argTypes:= #[t,tn]}) (vs F:WW) (hs:a.eval s=vs) (O:a.eval x=F)
  {w':Z'} (I:(Xa #[t,tn] o.type #[vs,F]).run P w= .ok v' w') (h:K (a.put o.dst v') w'):o.wp P a w K Q:=by
 unfold XG execOp;simp only [G,resolve,invoke,builtin,XT,XS,Xx,XD,XN,XX,hs,O,I];exact h
def dS {o:Oper} {Q:Exit->Act->Z'->Prop} (hgd:o.guard=Y_) (s x:Operand) (t tn:TypeId)
  (ho:o.op= .call {callee:= .builtin .append,args:= #[s,x],argTypes:= #[t,tn]}) (vs vx:WW) (hs:a.eval s=vs) (hx:a.eval x=vx)
  {w':Z'} (hr:(Xa #[t,tn] o.type #[vs,vx]).run P w= .ok v' w') (h:wpList P ops Q rest (a.put o.dst v') w'):wpList P ops Q (o::rest) a w:=
 wpList_plain hgd λ_ hK=>tW s x t tn ho vs vx hs hx hr (hK _ _ h)
def kQ {o:Oper} {K:Act->Z'->Prop} {Q:Exit->Act->Z'->Prop} {E:Prop}
  (U:o.guard=Y_) (s x:Operand) (t tn:TypeId)
  (G:o.op= .call {callee:= .builtin .append,args:= #[s,x],argTypes:= #[t,tn]}) (vs F:WW) (hs:a.eval s=vs) (O:a.eval x=F)
  {w':Z'} (I:(Xa #[t,tn] o.type #[vs,F]).run P w= .ok v' w') (h:K (a.put o.dst v') w'):
  if Xg o (yielded ops a.tmps)=Y' then XG P o a w K Q else E:=by
 have V:Xg o (yielded ops a.tmps)=Y':=by simp [Xg,U]
 rw [if_pos V];exact tW s x t tn G vs F hs O I h
def wO (h:w.heap[g]?=X_ (.cells cs t fz)):w.shape? g=X_ (t,cs.size):=by
 simp [World.shape?,h]
def CE {z:WW} (E:Mem.El P t e z k bytes) (af:P.underlying tn=X_ (.int .i64)) (h:Row w e k A n c xs) (q:Nat) (ag:0<q) (F:c<n+q) (G:n+q<=maxLen) (I:(n+q)*bytes<=140737488355328):
  ∃c' w' zs,(Xa #[t,tn] ty #[S_ A n c,I_ J_ (q:Int)]).run P w= .ok (S_ (X_ ⟨w.heap.size,0,Y_⟩) (n+q) c') w'/\zs.length=q*k/\Row w' e k (X_ ⟨w.heap.size,0,Y_⟩) (n+q) c' (xs++zs)/\dt (λ_=>False) w w':=by
 let ⟨i,hi,hz,V,X⟩:=info_parts E.info;have O:=h.1;have ab:(Xp i.size n (S_ A n c)).run P w.drew= .ok xs.toArray w.drew:=by
  rw [V];exact Tu
 have hq:q*bytes<=(n+q)*bytes:=Xe _ o_;have hr:=Lib.run_append_grow_zeros (P:=P) w t tn ty e i z .i64 .i64 E.ty af hi hz A n c xs ab q ag (by rw [V];exact E.pos) F (by unfold maxLen at G;omega) (by rw [X];omega) (by rw [X];exact growslice_fits F I);have aa:=grownCap_ge w (n+q) c e;have ac:(grownCap w (n+q) c e - (n+q))*k=grownCap w (n+q) c e*k - (n+q)*k:=XK _ _ _;have ah:(n+q)*k<=grownCap w (n+q) c e*k:=Xe _ aa;have ae:(n+q)*k=n*k+q*k:=Xj _ _ _;have U:(Xf z.cells q).toList.length=q*k:=by rw [Xl,iZ,E.zs]
 refine ⟨_,_,(Xf z.cells q).toList,hr,U,⟨by rw [Xh,O,U,ae],aa,grownCap_le_maxLen w (n+q) c e G,.inr ⟨_,0,_,rfl,heap_alloc_new w.drew _,?_,?_⟩⟩,⟨rfl,rfl,rfl,by simp,λb hb _=>Xs w.drew _ b hb⟩⟩
 .rw [XA,XA,iZ,iZ,E.zs,ac]
  simp only [XW,O];omega
 .have hl:(n+q)*k=(xs++(Xf z.cells q).toList).length:=by rw [Xh,O,U,ae]
  exact EC
def CF {B c2:Nat} {news:List WW} {z:WW} (E:Mem.El P t e z k bytes) (h:Row w e k A n c xs) (hs:Mem.Sl w B k A2 m news) (G: ∀u∈news,u.oneCell'=Y') (F:n+m<=c):
  ∃w',(Xa #[t,t] ty #[S_ A n c,S_ A2 m c2]).run P w= .ok (S_ A (n+m) c) w'/\Row w' e k A (n+m) c (xs++news)/\dt (λb=>dr A=X_ b) w w':=by
 obtain rfl|hm:=Xo m
 .let ⟨i,hi,hz,hz1,hz2⟩:=info_parts E.info
  have hn:news=[]:=Xc (by simpa using hs.1);subst hn;refine ⟨w,?_,by simpa using h,dt.refl _ _⟩;exact NT
 .exact vM E h hs G hm F
def CG {zs:Array WW} (I:0<zs.size) (G:v∈(Xf zs m).toList):v∈zs.toList:=by
 simp only [Xf,Array.toList_map,XH] at G;obtain ⟨i,_,rfl⟩:=G;have F:i%zs.size<zs.size:=Nat.mod_lt _ I;rw [getElem!_pos zs _ F];exact Array.getElem_mem_toList F
def CH {z:WW} (E:Mem.El P t e z k bytes) (I: ∀v∈z.cells.toList,v.oneCell'=Y') (h:Row w e k (X_ ⟨g,off,Y_⟩) n c xs) (hm:0<m) (F:n+m<=c):
  ∃w',(Yd #[t] ty #[S_ (X_ ⟨g,off+n*k,Y_⟩) m cc]).run P w= .ok (U_ #[]) w'/\Row w' e k (X_ ⟨g,off,Y_⟩) n c xs/\dt (λb=>b=g) w w':=by
 let ⟨i,hi,hz,hs1,hs2⟩:=info_parts E.info;let ⟨ys,V,ht⟩:=h.full;have U:(n+m)*k<=c*k:=Xe _ F;rw [Xj] at U;have O:(Xf z.cells m).toList.length=m*k:=by rw [Xl,iZ,E.zs]
 let ⟨w',X,hR,hO⟩:=V.put (P:=P) (n*k) (Xf z.cells m).toList (by rw [O];omega) (λv hv=>I v (CG (by rw [E.zs];exact E.pos) hv));refine ⟨w',?_,?_,hO⟩
 .obtain ⟨m,rfl⟩: ∃q,m=q+1:=⟨m - 1,o_⟩
  simp [Yd,run_underlying E.ty,zeroValue,typeInfo,hi,hz,X]
 .have G:=hR.cut n o_
  unfold over at G;have hyl:=V.1;rw [List.append_assoc,Xb z_,Xu,Nat.min_self,ht] at G;exact G
end Ro
end
end Go.Proofs.YtkidababfdehlaaGreatDoor
