/- Parts of the walk. -/
import Derived.Test.YtkidababfdehlaaGreatDoorQAi
set_option linter.all false
set_option maxRecDepth 100000
set_option maxHeartbeats 64000000
namespace Go.Proofs.YtkidababfdehlaaGreatDoor
open Value renaming int -> I_,bool -> B_,string -> T_,slice -> S_,pointer -> P_,tuple -> U_,agg -> A_
open IntKind renaming i64 -> J_
open Ending renaming returned -> R_
open Option renaming some -> X_,none -> Y_
open Bool renaming true -> Y',false -> Z_
open Go renaming World -> Z',Value -> WW,Calls -> WX,Addr -> WY
open Go.RowKit renaming Hid -> WZ
open _root_.Go.Proofs.Tryz renaming prog -> Xa
open _root_.Array renaming getD_eq_getD_getElem? -> Xb,replicate -> Xs
open Mem renaming c_ -> Xc
open List renaming not_mem_nil -> Xd,mem_append -> Xe,mem_map -> Xf,mem_cons -> Xg,map_cons -> Xl,mem_singleton -> Xo,pairwise_iff_getElem -> Xp,getElem_map -> Xq,length_map -> Xr,mem_range -> Xw,zip_cons_cons -> Xz,mem_filter -> XF
open dA renaming flat -> Xh
open Go.Region renaming ready -> Xi
open Go.Act renaming eval -> Xj
open Ro renaming Row -> Xk,dr -> Xm,dt -> XK
open Map renaming At -> Xn,eX -> Xv
open Tp.Th renaming print -> Xt
open Tp.Cf renaming lines -> Xu
open Go.Value renaming pointer -> Xx
open Mem.c_ renaming new -> Xy
open Tp renaming dR -> XA,nF -> XI,BS -> XJ,ua -> XM,tZ -> XN,tY -> XO,nG -> XP,fS -> XQ
open Nat renaming le_trans -> XB
open Go.MapEntry renaming key -> XC
open Go.Instr renaming lookup -> XD,mapUpdate -> XG
open And renaming intro -> XE
open Go.Ending renaming returned -> XH
open Dk renaming law -> XL
variable {L:Array Bool} {ops:Array Oper} {G cs:Array WW} {d:Bool} {F:List (List UInt8)} {a b:List UInt8} {dD:List dA} {g g2 i j lo m n:Nat} {X:Option Nat} {q:Prop} {I K O:TypeId} {c:UInt8} {v:WW} {w:Z'} {t:dA}
open _root_.Go.Proofs.Tryz Go.RowKit Go.Maps Wo Tx
section
namespace Nu
section
variable {P:Program} {ops:Array Oper} {Q:Exit->Act->Z'->Prop} {md:Region.Mode}
def IQ (I:Array Bool->Act->Z'->Prop) (ae: ∀L a w,I L a w->L.size=ops.size)
  (G: ∀L a w,I L a w->Xi md ops L=[]->Q .normal a w)
  (O: ∀L a w i,I L a w->i∈Xi md ops L->wpOp P ops Q i (I (L.setIfInBounds i Y')) a w):
  ∀(F:Nat) (L:Array Bool) (a:Act) (w:Z'),Map.open_ ops.size L<=F->I L a w->wpAnyH P md ops Q (λ_=>True) F L a w:=by
 intro F;have X: ∀{L:Array Bool} {i:Nat},i∈Xi md ops L->i<ops.size/\L.getD i Y'=Z_:=by
  intro L i U;have:=XF.1 U;simp only [Xw,Bool.and_eq_true,Bool.not_eq_true'] at this;exact ⟨this.1,this.2.1⟩
 induction F with
 |zero=>
  intro L a w hf V;have hr:Xi md ops L=[]:=by
   obtain h|⟨l,i,h⟩:=List.eq_nil_or_concat (Xi md ops L)
   .exact h
   .exfalso
    have U:i∈Xi md ops L:=by rw [h];simp
    let ⟨h1,h2⟩:=X U;have hm:i∈(List.range ops.size).filter λj=> !L.getD j Y':=XF.2 ⟨by simpa using h1,by simp only [h2,Bool.not_false]⟩
    have:=List.length_pos_of_mem hm;unfold Map.open_ at hf;omega
  exact ⟨hr,G L a w V hr⟩
 |succ F ih=>
  intro L a w hf V;refine ⟨λhr=>G L a w V hr,λi U=>?_⟩;let ⟨h1,h2⟩:=X U;refine wpOp_mono (λa' w' aa=>⟨trivial,ih _ _ _ ?_ aa⟩) (O L a w i V U);have:=Map.xF h1 (ae L a w V) h2;omega
end
structure iJ where
 b:Nat
 d:Nat
 word:List UInt8
 mb:List Nat
instance:DecidableEq iJ:=λ⟨a,b,c,d⟩ ⟨e,f,g,h⟩=>if q:a=e/\b=f/\c=g/\d=h then isTrue (by obtain ⟨rfl,rfl,rfl,rfl⟩:=q;rfl) else isFalse (by intro r;cases r;exact q ⟨rfl,rfl,rfl,rfl⟩)
def jC:List iJ:=[⟨13,16,XI,[0,1,2]⟩,⟨27,29,XJ,[3,4,5]⟩,⟨32,33,XO,[7]⟩,⟨37,37,XN,[8]⟩,⟨42,41,XM,[9]⟩,⟨47,45,XP,[10]⟩]
def iJ.cells (x:iJ) (g:Nat):Array WW:=(x.mb.map λo=>Xx (X_ ⟨g,o,Y_⟩)).toArray
def iJ.val (x:iJ) (g:Nat):WW:=S_ (X_ ⟨g,0,Y_⟩) x.mb.length x.mb.length
def JJ:List (Nat×Nat):=[(7,0),(11,1),(15,2),(20,3),(24,4),(28,5),(32,7),(36,8),(40,9),(44,10)]
def By:List Nat:=[1,2,3,4,5,6,7,8,9,10,11,12,15,16,17,18,19,20,21,22,23,24,25,26,29,30,31,34,35,36,39,40,41,44,45,46]
def fU: ∀x∈jC,13<=x.b/\x.b<=47/\16<=x.d/\x.d<=45/\x.d≠46/\x.d<47:=d_
def IS: ∀x∈jC,∀y∈jC,x.b=y.b->x=y:=d_
def rM: ∀x∈jC,∀y∈jC,x.b+1≠y.b:=d_
def IT: ∀x∈jC,∀y∈jC,x.d=y.d->x=y:=d_
def MZ: ∀x∈jC,∀p∈JJ,x.d≠p.1:=d_
def Ph: ∀x∈jC,∀y∈jC,x.word=y.word->x=y:=d_
def IU: ∀p∈JJ,p.1≠3/\p.1≠46/\p.1≠2:=d_
def str_inj (h:str a=str b):a=b:=by
 have:=congrArg (λs:ByteArray=>s.data.toList) h;simpa [str] using this
structure Inv (B:Z') (gc:Nat) (L:Array Bool) (a:Act) (w:Z'):Prop where
 size:L.size=51
 defers:a.defers=[]
 tmps:a.tmps.size=47
 below:Bw B w
 pure: ∀i∈By,L.getD i Y'=Y'
 addr: ∀p∈JJ,a.tmps[p.1]?=X_ (P_ (X_ ⟨gc,p.2,Y_⟩))
 build: ∀x∈jC,L.getD x.b Z_=Y'-> ∃g,a.tmps[x.d]?=X_ (x.val g)/\B.heap.size<=g/\Xc w g 168 (x.cells gc)
 made:L.getD 0 Z_=Y'-> ∃g,a.tmps[3]?=X_ (.map (X_ g))/\B.heap.size<=g/\
  Xn Xa 9 w g (λk v=> ∃x∈jC,L.getD (x.b+1) Z_=Y'/\k=T_ (str x.word)/\a.tmps[x.d]?=X_ v)
 dep:L.getD 0 Y'=Z_->(∀x∈jC,L.getD (x.b+1) Z_=Y'->False)/\(L.getD 49 Z_=Y'->False)/\(L.getD 50 Z_=Y'->False)
 IV: ∀x∈jC,L.getD (x.b+1) Z_=Y'->L.getD x.b Z_=Y'
 move:L.getD 49 Z_=Y'->a.tmps[46]?=a.tmps[3]?
 o:L.getD 50 Z_=Y'->a.tmps[2]?=a.tmps[3]?
def dB (F:i<L.size):(L.setIfInBounds i Y').getD j d=if i=j then Y' else L.getD j d:=by
 exact Pj
def eh (a:Act) (d j:Nat) (v:WW) (h:d<a.tmps.size):(a.put (X_ d) v).tmps[j]?=if d=j then X_ v else a.tmps[j]?:=by
 exact Pk
def kg (h:L.getD i Z_=Y') (G:L.getD i Y'=Z_):False:=by
 exact Pm
section
variable {B:Z'} {gc:Nat} {L:Array Bool} {a:Act} {w:Z'}
def fy (h:Inv B gc L a w) (x:iJ) (O:x∈jC) (hL:L.getD x.b Y'=Z_):Inv B gc (L.setIfInBounds x.b Y') (a.put (X_ x.d) (x.val w.heap.size)) (w.alloc (.cells (x.cells gc) 168)):=by
 let ⟨b1,b2,b3,b4,b5,b6⟩:=fU x O;have hs:=h.size;have ht:=h.tmps;have I:x.b<L.size:=o_;have V:x.d<a.tmps.size:=o_;have hz:=h.below.size;refine ⟨by simpa using hs,h.defers,by simpa [Act.put] using ht,h.below.alloc hz _,?_,?_,?_,?_,?_,?_,?_,?_⟩
 .intro i ae
  rw [dB I];split
  .rfl
  .exact h.pure i ae
 .intro p hp
  rw [eh _ _ _ _ V,if_neg (MZ x O p hp)];exact h.addr p hp
 .intro y G U
  by_cases e:x.b=y.b
  .obtain rfl:=IS x O y G e
   exact ⟨w.heap.size,by rw [eh _ _ _ _ V,if_pos rfl],hz,Xy⟩
  .rw [dB I,if_neg e] at U
   let ⟨g,h1,h2,h3⟩:=h.build y G U;exact ⟨g,by rw [eh _ _ _ _ V,if_neg (λe2=>e (by rw [IT x O y G e2]))];exact h1,h2,h3.alloc⟩
 .intro F
  rw [dB I,if_neg o_] at F;let ⟨g,h1,h2,h3⟩:=h.made F;refine ⟨g,by rw [eh _ _ _ _ V,if_neg o_];exact h1,h2,(h3.of_block (Below.heap_alloc w _ g h3.lt)).iff λk v=>?_⟩;constructor
  .rintro ⟨y,G,U,e1,e2⟩
   have X:x.d≠y.d:=λe=>by
    obtain rfl:=IT x O y G e;exact kg (h.IV x O U) hL
   exact ⟨y,G,by rw [dB I,if_neg (λe=>rM y G x O e.symm)];exact U,e1,by rw [eh _ _ _ _ V,if_neg X];exact e2⟩
  .rintro ⟨y,G,U,e1,e2⟩
   rw [dB I,if_neg (λe=>rM y G x O e.symm)] at U;have X:x.d≠y.d:=λe=>by
    obtain rfl:=IT x O y G e;exact kg (h.IV x O U) hL
   rw [eh _ _ _ _ V,if_neg X] at e2;exact ⟨y,G,U,e1,e2⟩
 .intro F
  rw [dB I,if_neg o_] at F;let ⟨d1,d2,d3⟩:=h.dep F;refine ⟨λy G U=>?_,λU=>?_,λU=>?_⟩
  .rw [dB I,if_neg (λe=>rM y G x O e.symm)] at U
   exact d1 y G U
  .rw [dB I,if_neg o_] at U
   exact d2 U
  .rw [dB I,if_neg o_] at U
   exact d3 U
 .intro y G U
  rw [dB I,if_neg (λe=>rM y G x O e.symm)] at U;rw [dB I];split
  .rfl
  .exact h.IV y G U
 .intro U
  rw [dB I,if_neg o_] at U;rw [eh _ _ _ _ V,eh _ _ _ _ V,if_neg o_,if_neg o_];exact h.move U
 .intro U
  rw [dB I,if_neg o_] at U;rw [eh _ _ _ _ V,eh _ _ _ _ V,if_neg o_,if_neg o_];exact h.o U
def M_: ∀x∈jC,x.word.length<=20:=d_
def eW {Q:Exit->Act->Z'->Prop} {o:Oper} (h:Inv B gc L a w) (x:iJ) (hv:x∈jC)
  (ho:ops[x.b+1]?=X_ o) (hg:o.guard=Y_) (an:o.op= .insert 123 (.tmp 3) (.const (T_ (str x.word))) (.tmp x.d)) (ab:o.dst=Y_)
  (h0:L.getD 0 Z_=Y') (h1:L.getD x.b Z_=Y'):wpOp Xa ops Q (x.b+1) (Inv B gc (L.setIfInBounds (x.b+1) Y')) a w:=by
 let ⟨b1,b2,b3,b4,b5,b6⟩:=fU x hv;have hs:=h.size;have I:x.b+1<L.size:=o_;let ⟨g,aa,ai,ac⟩:=h.made h0;let ⟨gx,V,hk2,hk3⟩:=h.build x hv h1;refine Pn ?_;intro hL;let ⟨w',hr,ag,af⟩:=ac.store XL underlying123 hL (x.val gx);have am:a.eval (.tmp 3)= .map (X_ g):=by simp [Xj,aa,Xb]
 have ar:a.eval (.tmp x.d)=x.val gx:=by simp [Xj,V,Xb]
 have ao:a.eval (.const (T_ (str x.word)))=T_ (str x.word):=rfl;have ae: ∀y∈jC,∀X,Xc w X 168 (y.cells gc)->X≠g:=by
  rintro y _ X hb rfl;obtain ⟨es,cl,hm,_⟩:=ac;unfold Xc at hb;rw [hb] at hm;cases hm
 refine Map.tI ho hg (w':=w') ?_ ?_
 .unfold execOp
  simp only [an,am,ar,ao]
  show Sem.run _ (XG _ _ _ _>>=λ_=>Pure.pure Next.skip) _=_
  rw [Sem.run_bind]
  show ((XG 123 (.map (X_ g)) (T_ (str x.word)) (x.val gx)).run Xa w).andThen _=_
  rw [hr];rfl
 .rw [ab]
  show Inv B gc _ a w'
  refine ⟨by simpa using hs,h.defers,h.tmps,h.below.grown af h.below.size (λk V=>by injection V with V;omega),?_,h.addr,?_,?_,?_,?_,?_,?_⟩
  .intro i ak
   rw [dB I];split
   .rfl
   .exact h.pure i ak
  .intro y G F
   rw [dB I,if_neg (rM x hv y G)] at F;let ⟨X,e1,U,e3⟩:=h.build y G F;exact ⟨X,e1,U,e3.grown af (by intro e;injection e with e;exact ae y G X e3 e)⟩
  .intro _
   refine ⟨g,aa,ai,ag.iff λk v=>?_⟩;constructor
   .rintro (⟨rfl,rfl⟩|⟨hne,y,G,F,rfl,U⟩)
    .exact ⟨x,hv,by rw [dB I,if_pos rfl],rfl,V⟩
    .exact ⟨y,G,by rw [dB I];split;rfl;exact F,rfl,U⟩
   .rintro ⟨y,G,F,rfl,U⟩
    by_cases e:x=y
    .subst e
     rw [V] at U;exact .inl ⟨rfl,(q_ U).symm⟩
    .refine .inr ⟨λhe=>e ?_,y,G,?_,rfl,U⟩
     .injection he with he
      exact (Ph y G x hv (str_inj he)).symm
     .rw [dB I,if_neg (λe3=>e (IS x hv y G o_))] at F
      exact F
  .intro O
   rw [dB I,if_neg o_] at O;exact (kg h0 O).elim
  .intro y G F
   rw [dB I];split
   .rfl
   .by_cases e:x=y
    .subst e;exact h1
    .rw [dB I,if_neg (λe3=>e (IS x hv y G o_))] at F
     exact h.IV y G F
  .intro F
   rw [dB I,if_neg o_] at F;exact h.move F
  .intro F
   rw [dB I,if_neg o_] at F;exact h.o F
def rN (h:Inv B gc L a w) (hL:L.getD 0 Y'=Z_):Inv B gc (L.setIfInBounds 0 Y') (a.put (X_ 3) (.map (X_ w.heap.size))) (w.alloc (.map #[] 0)):=by
 have hs:=h.size;have ht:=h.tmps;have I:0<L.size:=o_;have V:3<a.tmps.size:=o_;have hz:=h.below.size;let ⟨X,d2,d3⟩:=h.dep hL;refine ⟨by simpa using hs,h.defers,by simpa [Act.put] using ht,h.below.alloc hz _,?_,?_,?_,?_,?_,?_,?_,?_⟩
 .intro i ae
  rw [dB I];split
  .rfl
  .exact h.pure i ae
 .intro p hp
  rw [eh _ _ _ _ V,if_neg (λe=>(IU p hp).1 e.symm)];exact h.addr p hp
 .intro y G F
  let ⟨c1,c2,c3,c4,c5,c6⟩:=fU y G;rw [dB I,if_neg o_] at F;let ⟨g,e1,e2,e3⟩:=h.build y G F;exact ⟨g,by rw [eh _ _ _ _ V,if_neg o_];exact e1,e2,e3.alloc⟩
 .intro _
  refine ⟨w.heap.size,by rw [eh _ _ _ _ V,if_pos rfl],hz,(Map.At.made w).iff λk v=>⟨λhf=>hf.elim,?_⟩⟩;rintro ⟨y,G,F,_⟩;rw [dB I,if_neg o_] at F;exact X y G F
 .intro O
  rw [dB I,if_pos rfl] at O;cases O
 .intro y G F
  rw [dB I,if_neg o_] at F;exact (X y G F).elim
 .intro F
  rw [dB I,if_neg o_] at F;exact (d2 F).elim
 .intro F
  rw [dB I,if_neg o_] at F;exact (d3 F).elim
def IW (h:Inv B gc L a w) (i d:Nat) (v:WW) (X:(i=49/\d=46)\/(i=50/\d=2)) (hv:X_ v=a.tmps[3]?) (h0:L.getD 0 Z_=Y'):Inv B gc (L.setIfInBounds i Y') (a.put (X_ d) v) w:=by
 have hs:=h.size;have ht:=h.tmps;have I:i<L.size:=o_;have O:d<a.tmps.size:=o_;refine ⟨by simpa using hs,h.defers,by simpa [Act.put] using ht,h.below,?_,?_,?_,?_,?_,?_,?_,?_⟩
 .intro i2 ae
  rw [dB I];split
  .rfl
  .exact h.pure i2 ae
 .intro p hp
  have:=IU p hp;rw [eh _ _ _ _ O,if_neg o_];exact h.addr p hp
 .intro y G aa
  let ⟨c1,c2,c3,c4,c5,c6⟩:=fU y G;rw [dB I,if_neg o_] at aa;let ⟨g,V,U,e3⟩:=h.build y G aa;exact ⟨g,by rw [eh _ _ _ _ O,if_neg o_];exact V,U,e3⟩
 .intro _
  let ⟨g,h1,h2,h3⟩:=h.made h0;refine ⟨g,by rw [eh _ _ _ _ O,if_neg o_];exact h1,h2,h3.iff λk v=>?_⟩;constructor
  .rintro ⟨y,G,aa,V,U⟩
   let ⟨c1,c2,c3,c4,c5,c6⟩:=fU y G;exact ⟨y,G,by rw [dB I,if_neg o_];exact aa,V,by rw [eh _ _ _ _ O,if_neg o_];exact U⟩
  .rintro ⟨y,G,aa,V,U⟩
   let ⟨c1,c2,c3,c4,c5,c6⟩:=fU y G;rw [dB I,if_neg o_] at aa;rw [eh _ _ _ _ O,if_neg o_] at U;exact ⟨y,G,aa,V,U⟩
 .intro F
  rw [dB I,if_neg o_] at F;exact (kg h0 F).elim
 .intro y G aa
  let ⟨c1,c2,c3,c4,c5,c6⟩:=fU y G;rw [dB I,if_neg o_] at aa;rw [dB I,if_neg o_];exact h.IV y G aa
 .intro aa
  rw [eh _ _ _ _ O,eh _ _ _ _ O];obtain ⟨rfl,rfl⟩|⟨rfl,rfl⟩:=X
  .rw [if_pos rfl,if_neg o_,hv]
  .rw [dB I,if_neg o_] at aa
   rw [if_neg o_,if_neg o_];exact h.move aa
 .intro aa
  rw [eh _ _ _ _ O,eh _ _ _ _ O];obtain ⟨rfl,rfl⟩|⟨rfl,rfl⟩:=X
  .rw [dB I,if_neg o_] at aa
   rw [if_neg o_,if_neg o_];exact h.o aa
  .rw [if_pos rfl,if_neg o_,hv]
end
def IX (gc lo:Nat) (w:Z') (g:Nat):Prop:= ∃gs:iJ->Nat,Xn Xa 9 w g (λk v=> ∃x∈jC,k=T_ (str x.word)/\v=x.val (gs x))/\ ∀x∈jC,lo<=gs x/\Xc w (gs x) 168 (x.cells gc)
def qT (gc:Nat) (w:Z'):WX Xa 49 #[P_ (X_ ⟨gc,0,Y_⟩)] w λe w'=> ∃g,e=R_ (.map (X_ g))/\w.heap.size<=g/\Bw w w'/\IX gc w.heap.size w' g:=by
 go_enter func49,ntmps49;go_upto_region 1 with fail;refine dm.start (S:=λ_=>True) k_ ?_;refine dm.tg 15 trivial [1,2,3,4,5,6,7,8,9,10,11,12,15,16,17,18,19,20,21,22,23,24,25,26,29,30,31,34,35,36,39,40,41,44,45,46] ?_;refine IQ (Inv w gc) (λL a w' h=>h.size.trans rfl) ?_ ?_ _ _ _ _ (of_decide_eq_true k_) ?_
 .intro L a w' h hr
  have hd:=Map.xG k_ (h.size.trans rfl) hr;have hs:=h.size;have aa: ∀i,i<51->L.getD i Z_=Y':=by
   intro i hi;have V:=hd i hi;have ao:i<L.size:=o_;simpa [Xb,Array.getElem?_eq_getElem ao] using V
  let ⟨g,V,h2,h3⟩:=h.made (aa 0 o_);have O:=(h.o (aa 50 o_)).trans V;have ah:=h.defers;have af:IX gc w.heap.size w' g:=by
   have ae: ∀x:iJ,∃gx,x∈jC->a.tmps[x.d]?=X_ (x.val gx)/\w.heap.size<=gx/\Xc w' gx 168 (x.cells gc):=λx=>by
    by_cases U:x∈jC
    .let ⟨c1,c2,c3,c4,c5,c6⟩:=fU x U
     let ⟨gx,e⟩:=h.build x U (aa _ o_);exact ⟨gx,λ_=>e⟩
    .exact ⟨0,λh=>absurd h U⟩
   refine ⟨λx=>(ae x).choose,h3.iff λk v=>?_,λx U=>((ae x).choose_spec U).2⟩;constructor
   .rintro ⟨x,U,_,rfl,e2⟩
    rw [((ae x).choose_spec U).1] at e2;exact ⟨x,U,rfl,(q_ e2).symm⟩
   .rintro ⟨x,U,rfl,rfl⟩
    let ⟨c1,c2,c3,c4,c5,c6⟩:=fU x U;exact ⟨x,U,aa _ o_,rfl,((ae x).choose_spec U).1⟩
  have ai:=h.below;obtain ⟨ts,ds⟩:=a;simp only at O ah;subst ah;have ar:ts.getD 2 undef= .map (X_ g):=by simp [Xb,O]
  have HF:=Hd (XE h2 (XE ai af))
  rename_i Q' K hK
  refine hK _ _ ?_;clear h2 ai af h3 V O hs hd aa hr h;go_wp2;go_ret;refine ⟨g,?_,HF.o⟩;rw [<-ar]
 .intro L a w' i G hi
  let ⟨o,O,I,F⟩:=Map.xH hi;have al:i<51:=(Array.getElem?_eq_some_iff.1 O).1;have hc:i=0\/i=1\/i=2\/i=3\/i=4\/i=5\/i=6\/i=7\/i=8\/i=9\/i=10\/i=11\/i=12\/i=13\/i=14\/i=15\/i=16\/i=17\/i=18\/i=19\/i=20\/i=21\/i=22\/i=23\/i=24\/i=25\/i=26\/i=27\/i=28\/i=29\/i=30\/i=31\/i=32\/i=33\/i=34\/i=35\/i=36\/i=37\/i=38\/i=39\/i=40\/i=41\/i=42\/i=43\/i=44\/i=45\/i=46\/i=47\/i=48\/i=49\/i=50:=o_;clear hi al;obtain rfl|rfl|rfl|rfl|rfl|rfl|rfl|rfl|rfl|rfl|rfl|rfl|rfl|rfl|rfl|rfl|rfl|rfl|rfl|rfl|rfl|rfl|rfl|rfl|rfl|rfl|rfl|rfl|rfl|rfl|rfl|rfl|rfl|rfl|rfl|rfl|rfl|rfl|rfl|rfl|rfl|rfl|rfl|rfl|rfl|rfl|rfl|rfl|rfl|rfl|rfl:=hc
  .obtain rfl:=q_ O
   exact Xv rfl rfl (v:= .map (X_ w'.heap.size)) (w':=w'.alloc (.map #[] 0)) (by unfold execOp;rfl) (rN G I)
  .exact absurd (G.pure 1 d_) (by rw [I];decide)
  .exact absurd (G.pure 2 d_) (by rw [I];decide)
  .exact absurd (G.pure 3 d_) (by rw [I];decide)
  .exact absurd (G.pure 4 d_) (by rw [I];decide)
  .exact absurd (G.pure 5 d_) (by rw [I];decide)
  .exact absurd (G.pure 6 d_) (by rw [I];decide)
  .exact absurd (G.pure 7 d_) (by rw [I];decide)
  .exact absurd (G.pure 8 d_) (by rw [I];decide)
  .exact absurd (G.pure 9 d_) (by rw [I];decide)
  .exact absurd (G.pure 10 d_) (by rw [I];decide)
  .exact absurd (G.pure 11 d_) (by rw [I];decide)
  .exact absurd (G.pure 12 d_) (by rw [I];decide)
  .obtain rfl:=q_ O
   exact Xv rfl rfl (v:=iJ.val ⟨13,16,XI,[0,1,2]⟩ w'.heap.size) (w':=w'.alloc (.cells (iJ.cells ⟨13,16,XI,[0,1,2]⟩ gc) 168)) (by have:=G.addr;simp [JJ] at this;unfold execOp;simp [Xj,Xb,this,iJ.val,iJ.cells,go_sem]) (fy G ⟨13,16,XI,[0,1,2]⟩ d_ I)
  .have V:=F ⟨13,.data⟩ (by obtain rfl:=q_ O;simp) rfl
   have h0:=F ⟨0,.data⟩ (by obtain rfl:=q_ O;simp) rfl;obtain rfl:=q_ O;exact eW G ⟨13,16,XI,[0,1,2]⟩ d_ rfl rfl rfl rfl h0 V
  .exact absurd (G.pure 15 d_) (by rw [I];decide)
  .exact absurd (G.pure 16 d_) (by rw [I];decide)
  .exact absurd (G.pure 17 d_) (by rw [I];decide)
  .exact absurd (G.pure 18 d_) (by rw [I];decide)
  .exact absurd (G.pure 19 d_) (by rw [I];decide)
  .exact absurd (G.pure 20 d_) (by rw [I];decide)
  .exact absurd (G.pure 21 d_) (by rw [I];decide)
  .exact absurd (G.pure 22 d_) (by rw [I];decide)
  .exact absurd (G.pure 23 d_) (by rw [I];decide)
  .exact absurd (G.pure 24 d_) (by rw [I];decide)
  .exact absurd (G.pure 25 d_) (by rw [I];decide)
  .exact absurd (G.pure 26 d_) (by rw [I];decide)
  .obtain rfl:=q_ O
   exact Xv rfl rfl (v:=iJ.val ⟨27,29,XJ,[3,4,5]⟩ w'.heap.size) (w':=w'.alloc (.cells (iJ.cells ⟨27,29,XJ,[3,4,5]⟩ gc) 168)) (by have:=G.addr;simp [JJ] at this;unfold execOp;simp [Xj,Xb,this,iJ.val,iJ.cells,go_sem]) (fy G ⟨27,29,XJ,[3,4,5]⟩ d_ I)
  .have V:=F ⟨27,.data⟩ (by obtain rfl:=q_ O;simp) rfl
   have h0:=F ⟨0,.data⟩ (by obtain rfl:=q_ O;simp) rfl;obtain rfl:=q_ O;exact eW G ⟨27,29,XJ,[3,4,5]⟩ d_ rfl rfl rfl rfl h0 V
  .exact absurd (G.pure 29 d_) (by rw [I];decide)
  .exact absurd (G.pure 30 d_) (by rw [I];decide)
  .exact absurd (G.pure 31 d_) (by rw [I];decide)
  .obtain rfl:=q_ O
   exact Xv rfl rfl (v:=iJ.val ⟨32,33,XO,[7]⟩ w'.heap.size) (w':=w'.alloc (.cells (iJ.cells ⟨32,33,XO,[7]⟩ gc) 168)) (by have:=G.addr;simp [JJ] at this;unfold execOp;simp [Xj,Xb,this,iJ.val,iJ.cells,go_sem]) (fy G ⟨32,33,XO,[7]⟩ d_ I)
  .have V:=F ⟨32,.data⟩ (by obtain rfl:=q_ O;simp) rfl
   have h0:=F ⟨0,.data⟩ (by obtain rfl:=q_ O;simp) rfl;obtain rfl:=q_ O;exact eW G ⟨32,33,XO,[7]⟩ d_ rfl rfl rfl rfl h0 V
  .exact absurd (G.pure 34 d_) (by rw [I];decide)
  .exact absurd (G.pure 35 d_) (by rw [I];decide)
  .exact absurd (G.pure 36 d_) (by rw [I];decide)
  .obtain rfl:=q_ O
   exact Xv rfl rfl (v:=iJ.val ⟨37,37,XN,[8]⟩ w'.heap.size) (w':=w'.alloc (.cells (iJ.cells ⟨37,37,XN,[8]⟩ gc) 168)) (by have:=G.addr;simp [JJ] at this;unfold execOp;simp [Xj,Xb,this,iJ.val,iJ.cells,go_sem]) (fy G ⟨37,37,XN,[8]⟩ d_ I)
  .have V:=F ⟨37,.data⟩ (by obtain rfl:=q_ O;simp) rfl
   have h0:=F ⟨0,.data⟩ (by obtain rfl:=q_ O;simp) rfl;obtain rfl:=q_ O;exact eW G ⟨37,37,XN,[8]⟩ d_ rfl rfl rfl rfl h0 V
  .exact absurd (G.pure 39 d_) (by rw [I];decide)
  .exact absurd (G.pure 40 d_) (by rw [I];decide)
  .exact absurd (G.pure 41 d_) (by rw [I];decide)
  .obtain rfl:=q_ O
   exact Xv rfl rfl (v:=iJ.val ⟨42,41,XM,[9]⟩ w'.heap.size) (w':=w'.alloc (.cells (iJ.cells ⟨42,41,XM,[9]⟩ gc) 168)) (by have:=G.addr;simp [JJ] at this;unfold execOp;simp [Xj,Xb,this,iJ.val,iJ.cells,go_sem]) (fy G ⟨42,41,XM,[9]⟩ d_ I)
  .have V:=F ⟨42,.data⟩ (by obtain rfl:=q_ O;simp) rfl
   have h0:=F ⟨0,.data⟩ (by obtain rfl:=q_ O;simp) rfl;obtain rfl:=q_ O;exact eW G ⟨42,41,XM,[9]⟩ d_ rfl rfl rfl rfl h0 V
  .exact absurd (G.pure 44 d_) (by rw [I];decide)
  .exact absurd (G.pure 45 d_) (by rw [I];decide)
  .exact absurd (G.pure 46 d_) (by rw [I];decide)
  .obtain rfl:=q_ O
   exact Xv rfl rfl (v:=iJ.val ⟨47,45,XP,[10]⟩ w'.heap.size) (w':=w'.alloc (.cells (iJ.cells ⟨47,45,XP,[10]⟩ gc) 168)) (by have:=G.addr;simp [JJ] at this;unfold execOp;simp [Xj,Xb,this,iJ.val,iJ.cells,go_sem]) (fy G ⟨47,45,XP,[10]⟩ d_ I)
  .have V:=F ⟨47,.data⟩ (by obtain rfl:=q_ O;simp) rfl
   have h0:=F ⟨0,.data⟩ (by obtain rfl:=q_ O;simp) rfl;obtain rfl:=q_ O;exact eW G ⟨47,45,XP,[10]⟩ d_ rfl rfl rfl rfl h0 V
  .let ⟨g,X,an,af⟩:=G.made (F ⟨0,.data⟩ (by obtain rfl:=q_ O;simp) rfl)
   have ag:=F ⟨0,.data⟩ (by obtain rfl:=q_ O;simp) rfl;obtain rfl:=q_ O;exact Xv rfl rfl (v:= .map (X_ g)) (w':=w') (by unfold execOp;simp [Xj,X,Xb]) (IW G 49 46 _ (.inl ⟨rfl,rfl⟩) X.symm ag)
  .let ⟨g,X,an,af⟩:=G.made (F ⟨0,.phase⟩ (by obtain rfl:=q_ O;simp) rfl)
   have ap:=(G.move (F ⟨49,.data⟩ (by obtain rfl:=q_ O;simp) rfl)).trans X;have ag:=F ⟨0,.phase⟩ (by obtain rfl:=q_ O;simp) rfl;obtain rfl:=q_ O;exact Xv rfl rfl (v:= .map (X_ g)) (w':=w') (by unfold execOp;simp [Xj,ap,Xb]) (IW G 50 2 _ (.inr ⟨rfl,rfl⟩) X.symm ag)
 .refine ⟨rfl,rfl,rfl,b_.drew,d_,?_,?_,?_,?_,?_,?_,?_⟩
  .intro p hp
   simp only [JJ,Xg,Xd,or_false] at hp;obtain rfl|rfl|rfl|rfl|rfl|rfl|rfl|rfl|rfl|rfl:=hp<;>rfl
  .have key: ∀x∈jC,¬((dm.eR By (Xs 51 Z_)).getD x.b Z_=Y'):=d_
   exact λx U h=>(key x U h).elim
  .intro h
   exact absurd h d_
  .have key: ∀x∈jC,¬((dm.eR By (Xs 51 Z_)).getD (x.b+1) Z_=Y'):=d_
   exact λ_=>⟨λx U h=>key x U h,λh=>absurd h d_,λh=>absurd h d_⟩
  .have key: ∀x∈jC,¬((dm.eR By (Xs 51 Z_)).getD (x.b+1) Z_=Y'):=d_
   exact λx U h=>(key x U h).elim
  .intro h
   exact absurd h d_
  .intro h
   exact absurd h d_
end Nu
end
section
open Go.Shelf gu Tq
namespace Nu
def WR:Mem.El Xa 23 92 (A_ #[I_ J_ 0,I_ J_ 0,I_ J_ 0,B_ Z_,I_ J_ 0]) 5 40:=⟨underlying23,k_,rfl,d_⟩
def sj (l:List dA) (t:dA):Xh (l++[t])=Xh l++t.arr.toList:=by simp [Xh,dA.cells,dA.arr]
def tJ (h:kj w lo X v F) (h0:0<F.length):
  ∃g off c G,v=S_ (X_ ⟨g,off,Y_⟩) F.length c/\F.length<=c/\G.map gL.text=F/\Xk w 122 3 (X_ ⟨g,off,Y_⟩) F.length c (js G)/\lo<=g/\ ∀(k:Nat) (hk:k<F.length),w.cell? ⟨g,off+k*3,Y_⟩=X_ (T_ (str F[k])):=by
 let ⟨A,c,G,e1,V,O,hb⟩:=h.is;obtain ⟨g,off,rfl⟩:=O.fe (by have:=O.le;omega);refine ⟨g,off,c,G,e1,O.le.1,V,O,(hb g rfl).1,λk hk=>?_⟩;have aa:G.length=F.length:=by rw [<-V,Xr]
 have I:k<G.length:=o_;let ⟨ad,U,_,c0,_,_⟩:=xz O.sl I aa;obtain rfl:ad=⟨g,off,Y_⟩:=by simpa using U.symm
 rw [Addr.add_lit] at c0;rw [c0];have:G[k].text=F[k]:=by
  have:=Xq (f:=gL.text) (l:=G) (i:=k) (h:=by simpa using I);rw [<-this];simp [V]
 rw [this]
def Pp {p:Prop} (h:p:=by
 refine dm.on 7 3 ?_;refine dm.val rfl rfl (v:=S_ A5 (n+1) c5) (w':=w5) (Tw.jr _ _ _ _ rfl _ _ rfl rfl HR5.o) (Hd HT5.o) ?_;refine dm.tg 1 (Hd HT5.o) [8,9] ?_;refine dm.on 10 0 ?_;refine dm.skip rfl rfl (w':=w5.setCell ⟨gc,6,none⟩ (S_ A5 (n+1) c5)) f_ (Hd HT6.o) ?_;refine dm.fi ?_;clear y6 yf x6 x6';go_wp2_with fail;go_ret;exact ⟨rfl,HFI.o.2⟩):p:=h
def Pq {p:Prop} (k:q) (h:Wq q->p:=by
 intro kq;refine dm.val rfl rfl (v:=S_ (some ⟨w3.heap.size,0,none⟩) 1 1) (w':=w4) (by rw [HW4.o];go_simp) (Hd HT4.o) ?_;exact kq.o):p:=h ⟨k⟩
def KO (gc gs:Nat) (cs:Array WW) (A:Option WY) (n c:Nat) (dD:List dA) (s p a gr:Nat) (soft:Bool) (v:WW) (lo:Nat) (X:Option Nat) (w:Z') (hg:Gl w) (hR:fR ⟨s,p,a,soft,gr⟩) (ho:a<=XQ)
  (hk:Xc w gc 25 cs) (h6:cs[6]?=X_ (S_ A n c)) (hrow:Xk w 92 5 A n c (Xh dD)) (hn:n<=10000)
  (hl:kj w lo X v [Tp.JF,Xt ⟨s,p,a,soft,gr⟩]):
  WX Xa 48 #[P_ (X_ ⟨gc,0,Y_⟩),.map (X_ gs),v] w λe w'=>e=R_ (I_ J_ 0)/\ ∃A' c',Xc w' gc 25 (cs.setIfInBounds 6 (S_ A' (n+1) c'))/\
   Xk w' 92 5 A' (n+1) c' (Xh (dD++[⟨s,p,a,soft,gr⟩]))/\XK (λb=>b=gc\/Xm A=X_ b) w w'/\ ∀b,Xm A'=X_ b->Xm A=X_ b\/w.heap.size<=b:=by
 obtain ⟨gl,ol,cl,fs,rfl,hcl,e2,hlr,hlo,hcell⟩:=tJ hl y_;have x0:w.cell? ⟨gl,ol,Y_⟩=X_ (T_ ⟨#[116,104,114,101,115,104,111,108,100]⟩):=hcell 0 y_;have x1:w.cell? ⟨gl,ol+1*3,Y_⟩=X_ (T_ (str (Xt ⟨s,p,a,soft,gr⟩))):=hcell 1 y_;have HT:=Hd (λX (hX:Gl X)=>Nl s p a gr soft X hR ho hX);rw [show ol+1*3=ol+3 by omega] at x1;generalize str (Xt ⟨s,p,a,soft,gr⟩)=ST at*;have HK:=Hd hk;have H6:=Hd h6;have HR:=Hd hrow;have HG:=Hd hg;simp only [List.length_cons,List.length_nil,Nat.zero_add,Nat.reduceAdd] at hcl |-;clear hl hcell hlr e2 hk h6 hrow hg hR ho;go_enter func48,ntmps48;go_wp2_with fail;clear x0 x1;refine (HT.o w HG.o).mono ?_;rintro e w2 ⟨rfl,F⟩;unfold dA.arr
 dsimp only
 let ⟨w3,hw3⟩:=nm (w2.alloc (.cells #[I_ J_ s,I_ J_ p,I_ J_ a,B_ soft,I_ J_ gr] 92));have hb3:Bw w w3:=by rw [hw3];exact F.alloc F.size _
 have HK3:=Hd (HK.o.a_ hb3);have HR3:WZ (Xk w3 92 5 A n c (Xh dD)):=HR.o.dy λb hb=>hb3.block b (HR.o.lt hb)
 have HT3:WZ (Xc w3 w2.heap.size 92 #[I_ J_ s,I_ J_ p,I_ J_ a,B_ soft,I_ J_ gr]):=by rw [hw3];exact Xy
 have HB3:=Hd hb3;have HW3:=Hd hw3;have HZ2:=Hd F.size;have HGC:=Hd HK.o.lt;clear F hb3 hw3;have x6:w3.cell? ⟨gc,6,Y_⟩=X_ (S_ A n c):=(HK3.o.cell 6).trans H6.o;let ⟨w4,hw4⟩:=nm (w3.drew.alloc (.cells #[I_ J_ s,I_ J_ p,I_ J_ a,B_ soft,I_ J_ gr] 92));have H0:Bw w3 w4:=by rw [hw4];exact b_.drew.alloc l_ _
 have HR4:Xk w4 92 5 A n c (Xh dD):=HR3.o.dy λb hb=>H0.block b (HR3.o.lt hb)
 have hz2:Mem.Sl w4 w4.heap.size 5 (X_ ⟨w3.heap.size,0,Y_⟩) 1 (#[I_ J_ s,I_ J_ p,I_ J_ a,B_ soft,I_ J_ gr]:Array WW).toList:=by
  rw [hw4];have:=Mem.gV (w:=w3.drew) (size:=5) (n:=1) (cs:= #[I_ J_ s,I_ J_ p,I_ J_ a,B_ soft,I_ J_ gr]) (e:=92) (fz:=(0,0)) rfl rfl rfl;exact this.more y_
 let ⟨A5,c5,w5,hkc,h1,h2,HTH1⟩:=Ro.app (P:=Xa) (ty:=23) (c2:=1) WR HR4 hz2 v_ e_ o_;have t12:=HK3.o.a_ H0;have hA1: ∀b,Xm A=X_ b->b≠gc:=HR3.o.dZ HK3.o d_;have hth2:Xc w5 gc 25 cs:=(h2.block gc t12.lt (λe=>hA1 gc e rfl)).trans t12;have hgc2:=HT3.o.a_ H0;have hb1: ∀b,Xm A=X_ b->b<w.heap.size:=λb hb=>HR.o.lt hb
 have hb2:=HZ2.o;have ht2:Xc w5 w2.heap.size 92 #[I_ J_ s,I_ J_ p,I_ J_ a,B_ soft,I_ J_ gr]:=(h2.block _ hgc2.lt (λe=>by have:=hb1 _ e;omega)).trans hgc2;have HT5:=Hd ht2;have HT4:=Hd hgc2;have HT6:WZ (Xc (w5.setCell ⟨gc,6,Y_⟩ (S_ A5 (n+1) c5)) w2.heap.size 92 #[I_ J_ s,I_ J_ p,I_ J_ a,B_ soft,I_ J_ gr]):=ht2.fA (by have:=HGC.o;simp;omega);have y6:w5.cell? ⟨gc,6,Y_⟩=X_ (S_ A n c):=(hth2.cell 6).trans H6.o;have yf:=hth2.frozen 6;have HR5:=Hd hkc;have HFI:=Hd (show (XH (I_ J_ 0))=R_ (I_ J_ 0)/\ ∃A' c',Xc (w5.setCell ⟨gc,6,Y_⟩ (S_ A5 (n+1) c5)) gc 25 (cs.setIfInBounds 6 (S_ A' (n+1) c'))/\
   Xk (w5.setCell ⟨gc,6,Y_⟩ (S_ A5 (n+1) c5)) 92 5 A' (n+1) c' (Xh (dD++[⟨s,p,a,soft,gr⟩]))/\XK (λb=>b=gc\/Xm A=X_ b) w (w5.setCell ⟨gc,6,Y_⟩ (S_ A5 (n+1) c5))/\ ∀b,Xm A'=X_ b->Xm A=X_ b\/w.heap.size<=b from by
  have hz4:w.heap.size<=w4.heap.size:=XB HB3.o.size H0.size;refine ⟨rfl,A5,c5,hth2.eC 6 _,?_,?_,λb hb=>?_⟩
  .rw [sj]
   refine h1.dy λb hb=>Below.heap_setCell _ _ _ b (λe=>?_)
   rw [e] at hb;obtain e2|e2:=HTH1
   .exact hA1 _ (by rw [<-e2];exact hb) rfl
   .rw [e2] at hb
    have:w4.heap.size=gc:=by simpa using hb
    have:=HGC.o;omega
  .refine ((Ro.dt.dW (HB3.o.trans (H0.mono HB3.o.size))).trans (h2.mono (T:=λb=>b=gc\/Xm A=X_ b) (λb _ h=> .inr h)) (λ_ _ h=>h)).trans ((Ro.dt.setCell w5 ⟨gc,6,Y_⟩ _).mono (T:=λb=>b=gc\/Xm A=X_ b) (λb _ h=> .inl h)) (λ_ _ h=>h)
  .obtain e|e:=HTH1
   .exact .inl (by rw [<-e];exact hb)
   .rw [e] at hb
    have:w4.heap.size=b:=by simpa using hb
    exact .inr o_)
 have x6':w4.cell? ⟨gc,6,Y_⟩=X_ (S_ A n c):=(t12.cell 6).trans H6.o;have HW4:=Hd hw4;have HS3:WZ (Xc w3.drew w2.heap.size 92 #[I_ J_ s,I_ J_ p,I_ J_ a,B_ soft,I_ J_ gr]):=HT3.o;clear hw4 hkc h1 h2 HTH1 t12 hth2 hgc2 ht2 hz2 HR4 hA1 hb1 hb2 H0;go_upto_region 4 with fail;rw [<-HW3.o];have HF1:WZ (∀wx,(WZ (Xc wx w2.heap.size 92 #[I_ J_ s,I_ J_ p,I_ J_ a,B_ soft,I_ J_ gr]))->(wx.cell? ⟨w2.heap.size,0,Y_⟩=X_ (I_ J_ s))/\(wx.cell? ⟨w2.heap.size,1,Y_⟩=X_ (I_ J_ p))/\(wx.cell? ⟨w2.heap.size,2,Y_⟩=X_ (I_ J_ a))/\(wx.cell? ⟨w2.heap.size,3,Y_⟩=X_ (B_ soft))/\(wx.cell? ⟨w2.heap.size,4,Y_⟩=X_ (I_ J_ gr))):=λwx hwx=>⟨hwx.o.cell 0,hwx.o.cell 1,hwx.o.cell 2,hwx.o.cell 3,hwx.o.cell 4⟩
 refine dm.st HF1 ?_;refine dm.tf 6 HS3 [0,1,2,3,5] HF1 ?_;refine dm.two (i:=4) (j:=6) (n:=5) k_ ?_ ?_
 .refine dm.val rfl rfl (v:=S_ A n c) (w':=w3.drew) f_ HS3 ?_
  refine dm.on 6 4 ?_;refine Pq ?_
  all_goals (
    exact Pp
  )
 .refine Pq ?_
  refine dm.on 4 4 ?_;refine dm.val rfl rfl (v:=S_ A n c) (w':=w4) f_ (Hd HT4.o) ?_
  all_goals (
    exact Pp
  )
def Sc {T:TypeId} (h:Xc w g T cs) (hn:cs.size=n):Mem.Sl w w.heap.size 1 (X_ ⟨g,0,Y_⟩) n cs.toList:=by
 refine ⟨by simp [hn],λ_=>⟨_,rfl,h.lt,λj F=>?_⟩⟩;rw [Addr.add_lit,Nat.zero_add,h.cell j,Array.getElem?_eq_getElem (by simpa using F)];simp
def Sd {T:TypeId} (h:Xc w g T cs) (F:Xc w g2 I G) (O:T≠I):g≠g2:=by
 rintro rfl;unfold Xc at h F;rw [h] at F;simp at F;exact O F.2
def zh {R:WW->WW->Prop} (h:Xn Xa K w g R) (F:Xc w g2 O G):g≠g2:=by
 rintro rfl;let ⟨es,c,I,_⟩:=h;unfold Xc at F;rw [I] at F;cases F
def Na: ∀x∈jC,((str x.word).toList==ByteArray.toList ⟨#[116,104,114,101,115,104,111,108,100]⟩)=Z_:=by
 intro x G;refine beq_eq_false_iff_ne.2 λe=>?_
 have F:str x.word=str Tp.JF:=Ta.oX e;have I:=str_inj F;have: ∀x∈jC,x.word≠Tp.JF:=d_;exact this x G I
def zip_fst: ∀(a b:List Nat),a.length=b.length->(a.zip b).map (λy=>Xx (X_ ⟨g,y.1,Y_⟩))=a.map λo=>Xx (X_ ⟨g,o,Y_⟩)
 |[],[],_=>rfl
 |x::a,y::b,h=>by
  rw [Xz,Xl,Xl,zip_fst a b (by simpa using h)]
def Bz: ∀(a b:List Nat),a.length=b.length->(a.zip b).map (λy=>XA y.2)=b.map XA
 |[],[],_=>rfl
 |x::a,y::b,h=>by
  rw [Xz,Xl,Xl,Bz a b (by simpa using h)]
def Nc: ∀x∈jC,∀o∈x.mb,o<11:=d_
def IY: ∀x∈jC,1<=x.mb.length/\x.mb.length<=3:=d_
def KP (gc O:Nat) (cs:Array WW) (x:iJ) (hv:x∈jC) (F:List Nat) (hS:F.length=x.mb.length) (hok: ∀n∈F,n<=XQ) (R:WW->WW->Prop) (v:WW) (lo:Nat) (X:Option Nat) (w:Z')
  (hk:Xc w gc 25 cs) (a5:cs.size=11) (hs:Xn Xa 9 w O R) (av: ∀u,¬R (T_ (str x.word)) u) (hl:kj w lo X v (x.word::F.map XA)):
  WX Xa 48 #[P_ (X_ ⟨gc,0,Y_⟩),.map (X_ O),v] w λe w'=>e=R_ (I_ J_ 0)/\Xc w' gc 25 (eR cs (x.mb.zip F))/\
   Xn Xa 9 w' O (λk u=>(k=T_ (str x.word)/\u=I_ J_ 1)\/(k≠T_ (str x.word)/\R k u))/\XK (λb=>b=gc\/b=O) w w':=by
 let ⟨aX,a6⟩:=IY x hv;obtain ⟨gl,ol,cl,fs,rfl,aP,(aG:WZ _),ah,hlo,aa⟩:=tJ hl y_;have x0:C w gl ol (T_ (str x.word)):=by have:=aa 0 y_;simpa using this
 have aB:(x.word::F.map XA).length=x.mb.length+1:=by simp [hS]
 rw [aB] at aP ah |-;have e1:=Na x hv;have aI:((str x.word).toList==[116,104,114,101,115,104,111,108,100])=Z_:=by
  have aK:=e1;rw [Lib.toList_data (⟨#[116,104,114,101,115,104,111,108,100]⟩:ByteArray)] at aK;exact aK
 refine Pn ?_;intro hL;let ⟨SW,ak⟩:=nm (str x.word);rw [<-ak] at x0 e1 aI hL av |-;have aN:=Hd ak;clear ak;let ⟨m,al⟩:=nm (x.mb.length);rw [<-al] at aP ah aX a6 |-;have an:=Hd al;have aD:=Hd ah;have HK:=Hd hk;have HS:=Hd hs;have aY:=Hd av;have HL:=Hd hL;have Hx:=Hd (XE hS (XE hok a5));have HVV:=Hd hv;clear hl aa ah aB al hk hs av hL hS hok a5 hv;go_enter func48,ntmps48;go_wp2_with fail;clear x0 e1 aI;refine (qT gc w).mono ?_;rintro e w2 ⟨gm,rfl,a3,V,gx,aL,aH⟩;have a4:=Hd V;have a0:(XD 123 (.map (X_ gm)) (T_ SW) Y').run Xa w2= .ok (U_ #[S_ (X_ ⟨gx x,0,Y_⟩) m m,B_ Y']) w2:=by
  obtain ⟨u,⟨y,hy,e1,e2⟩,hr⟩|⟨hn,_⟩:=aL.look XL underlying123 (z:=S_ Y_ 0 0) (λw=>k_) HL Y'
  .have:y=x:=by
    injection e1 with e1
    rw [aN.o] at e1;exact (Ph x HVV y hy (str_inj e1)).symm
   subst this;rw [hr,e2];unfold iJ.val;rw [an.o];rfl
  .exact (hn _ ⟨x,HVV,by rw [aN.o],rfl⟩).elim
 have U:=HK.a_ V;let ⟨aC,ab⟩:=aH x HVV;have ac:Xk w2 122 3 (X_ ⟨gl,ol,Y_⟩) (m+1) cl (js fs):=aD.dy λb hb=>V.block b (aD.lt hb)
 have aE: ¬cl=1:=o_;have G:=ac.from_ 1 o_;rw [if_neg aE] at G;have aZ:=Hd (show WX Xa 76 #[S_ (X_ ⟨gx x,0,Y_⟩) m m,S_ (X_ ⟨gl,ol+1*3,Y_⟩) m (cl - 1)] w2 λe w'=>e=R_ (I_ J_ 0)/\XK (λb=>b=gc) w2 w'/\Xc w' gc 25 (eR cs (x.mb.zip F)) from by
  have aW:fs≠[]:=by intro e;have:=aG.o;rw [e] at this;cases this
  obtain ⟨f0,fr,rfl⟩:=List.exists_cons_of_ne_nil aW;have he:=aG.o;rw [Xl] at he;injection he with he1 he2
  refine RM (X_ ⟨gx x,0,Y_⟩) (X_ ⟨gl,ol+1*3,Y_⟩) m m (cl - 1) (x.mb.zip F) fr gc 25 cs w2 (by rw [List.length_zip,Hx.o.1,an.o];simp) o_ ?_ ?_ ?_ ?_ U ?_ ?_
  .rw [zip_fst x.mb F Hx.o.1.symm]
   have:=Sc (n:=m) ab (by unfold iJ.cells;simp [an.o]);unfold iJ.cells at this;simpa using this
  .have:=G.sl
   rw [show (m+1) - 1=m by omega] at this;have e3:(js (f0::fr)).drop (1*3)=js fr:=by simp [js,gL.cells]
   rw [e3] at this;exact this
  .rw [he2,Bz x.mb F Hx.o.1.symm]
  .rintro ⟨o,u⟩ hy
   have h1:=List.of_mem_zip hy;exact ⟨by rw [Hx.o.2.2];exact Nc x HVV o h1.1,Hx.2.1 u h1.2⟩
  .intro b hb
   have:gx x=b:=by simpa [Xm] using hb
   rw [<-this];exact Sd ab U d_
  .intro b hb
   exact G.dZ U d_ b hb)
 have hsl:(m+1) - 1=m:=o_;clear aH aC ab ac G aL a3;have ae:=Hd U;have aO:Xn Xa 9 w2 O R:=HS.of_block (V.block O HS.lt);have am:=Hd aO;clear U aO V;go_wp2_with fail;clear a0;refine aZ.mono ?_;rintro e w3 ⟨rfl,ax,aM⟩;have ao:=zh am ae;have ap:Xn Xa 9 w3 O R:=am.of_block (ax.block O am.lt ao);let ⟨w4,hup,ar,I⟩:=ap.store XL underlying117 HL (I_ J_ 1);have a7:(XD 117 (.map (X_ O)) (T_ SW) Z_).run Xa w3= .ok (I_ J_ 0) w3:=by
  obtain ⟨u,hu,hr⟩|⟨hn,hr⟩:=ap.look XL underlying117 (z:=I_ J_ 0) (λw=>k_) HL Z_
  .exact (aY u hu).elim
  .exact hr
 have ba:(XD 117 (.map (X_ O)) (T_ SW) Z_).run Xa w4= .ok (I_ J_ 1) w4:=by
  obtain ⟨u,hu,hr⟩|⟨hn,hr⟩:=ar.look XL underlying117 (z:=I_ J_ 0) (λw=>k_) HL Z_
  .obtain ⟨_,rfl⟩|⟨h,_⟩:=hu
   .exact hr
   .exact (h rfl).elim
  .exact (hn _ (.inl ⟨rfl,rfl⟩)).elim
 have az:=Hd (show Xc w4 gc 25 (eR cs (x.mb.zip F))/\Xn Xa 9 w4 O (λk u=>(k=T_ SW/\u=I_ J_ 1)\/(k≠T_ SW/\R k u))/\XK (λb=>b=gc\/b=O) w w4 from by
  refine ⟨aM.grown I (by intro e;injection e with e;exact ao e.symm),ar,?_⟩;have a2:XK (λb=>b=gc\/b=O) w3 w4:=⟨I.os,I.tape,I.output,I.size,λb hb hn=>I.block b hb (by intro e;injection e with e;exact hn (.inr e))⟩;exact ((Ro.dt.dW a4).trans (ax.mono (T:=λb=>b=gc\/b=O) (λb _ h=> .inl h)) (λ_ _ h=>h)).trans a2 (λ_ _ h=>h))
 clear ax aM ap ar I ao;go_wp2;go_ret;exact ⟨rfl,az⟩
def I' (c:UInt8):Bool:=Tp.fW c||Tp.isLet c||c==60||c==58||c==37
def xM (h:I' c=Y'):33<=c.toNat/\c.toNat<=126:=by
 unfold I' Tp.fW Tp.isLet at h;simp only [Bool.or_eq_true,decide_eq_true_eq,beq_iff_eq] at h;rcases h with (((h|h)|h)|h)|h
 .omega
 .omega
 .subst h;decide
 .subst h;decide
 .subst h;decide
def vy (h:Tp.fW c=Y'):I' c=Y':=by unfold I';rw [h];rfl
def Np (h:Tp.isLet c=Y'):I' c=Y':=by unfold I';rw [h];simp
def ns (n:Nat): ∀c∈XA n,I' c=Y':=by
 intro c hc;unfold XA at hc;split at hc
 .rw [Xo] at hc;subst hc;decide
 .obtain h|h:=Xe.1 hc
  .exact vy (Tp.jI _ c h)
  .exact Np (Tp.vQ _ c h)
def Nr (i:Nat): ∀c∈Tp.fD i,I' c=Y':=by
 intro c hc;unfold Tp.fD at hc;split at hc<;>(simp only [Xg,Xd,or_false] at hc;obtain rfl|rfl|rfl|rfl|rfl|rfl:=hc<;>decide)
def DM (t:Tp.Th): ∀c∈t.print,I' c=Y':=by
 intro c hc;unfold Xt at hc;obtain h|h:=Xe.1 hc
 .exact Nr _ c h
 .obtain rfl|h:=p_ h
  .decide
  .obtain h|h:=Xe.1 h
   .unfold Tp.Th.value at h
    split at h
    .obtain h|h:=Xe.1 h
     .exact vy (Tp.jI _ c h)
     .rw [Xo] at h;subst h;decide
    .exact ns _ c h
   .split at h
    .obtain rfl|h:=p_ h
     .decide
     .exact vy (Tp.jI _ c h)
    .cases h
def tK: ∀(ws:List (List UInt8)),(∀w∈ws,∀c∈w,I' c=Y')-> ∀c∈Tp.join ws,eu c
 |[],_,c,hc=>by cases hc
 |[w],h,c,hc=>by
  have:=xM (h w y_ c hc);exact .inr ⟨o_,this.2⟩
 |w::v::ws,h,c,hc=>by
  have hc':c∈w++32::Tp.join (v::ws):=hc;obtain h1|h1:=Xe.1 hc'
  .have:=xM (h w y_ c h1)
   exact .inr ⟨o_,this.2⟩
  .obtain rfl|h1:=p_ h1
   .exact .inr ⟨d_,d_⟩
   .exact tK (v::ws) (λu hu=>h u (by simp at hu |-;exact .inr hu)) c h1
def Co (k:Tp.Cf): ∀c∈k.text,eu c:=by
 intro c hc;unfold Tp.Cf.text Tp.gK at hc;let ⟨l,V,O⟩:=List.mem_flatten.1 hc;obtain ⟨j,U,rfl⟩:=Xf.1 V;obtain ⟨X,F,rfl⟩:=Xf.1 U;obtain h|h:=Xe.1 O
 .refine tK X (λw G=>?_) c h
  unfold Xu at F;have I: ∀l:List Nat,∀w∈l.map XA,∀c∈w,I' c=Y':=by
   intro l w G c hc;obtain ⟨n,_,rfl⟩:=Xf.1 G;exact ns n c hc
  obtain rfl|F:=p_ F
  .obtain rfl|G:=p_ G
   .decide
   .exact I _ w G
  .obtain F|F:=Xe.1 F
   .obtain rfl|F:=p_ F
    .obtain rfl|G:=p_ G
     .decide
     .exact I _ w G
    .obtain ⟨t,_,rfl⟩:=Xf.1 F
     simp only [Xg,Xd,or_false] at G;obtain rfl|rfl:=G
     .decide
     .exact DM t
   .simp only [Xg,Xd,or_false] at F
    obtain rfl|rfl|rfl|rfl:=F<;>(simp only [Xg,Xd,or_false] at G;obtain rfl|rfl:=G;decide;exact ns _)
 .rw [Xo] at h
  exact .inl h
def ea:Nat->iJ
 |0=>⟨13,16,XI,[0,1,2]⟩
 |1=>⟨27,29,XJ,[3,4,5]⟩
 |2=>⟨32,33,XO,[7]⟩
 |3=>⟨37,37,XN,[8]⟩
 |4=>⟨42,41,XM,[9]⟩
 |_=>⟨47,45,XP,[10]⟩
def FF (j:Nat):ea j∈jC:=by
 unfold ea;split<;>decide
def yx: ∀i,i<6-> ∀j,j<6->(ea i).word=(ea j).word->i=j:=d_
def lR (p:ef):Nat->List Nat
 |0=>[p.c0.toNat,p.c1.toNat,p.c2.toNat]
 |1=>[p.a0.toNat,p.a1.toNat,p.a2.toNat]
 |2=>[p.fg.toNat]
 |3=>[p.ret.toNat]
 |4=>[p.fE.toNat]
 |_=>[p.dead.toNat]
def nv (n:Int):WW:=I_ J_ (n.toNat:Nat)
def yw (p:ef) (S:WW):Nat->Array WW
 |0=> #[I_ J_ 0,I_ J_ 0,I_ J_ 0,I_ J_ 0,I_ J_ 0,I_ J_ 0,S,I_ J_ 0,I_ J_ 0,I_ J_ 0,I_ J_ 0]
 |1=> #[nv p.c0,nv p.c1,nv p.c2,I_ J_ 0,I_ J_ 0,I_ J_ 0,S,I_ J_ 0,I_ J_ 0,I_ J_ 0,I_ J_ 0]
 |2=> #[nv p.c0,nv p.c1,nv p.c2,nv p.a0,nv p.a1,nv p.a2,S,I_ J_ 0,I_ J_ 0,I_ J_ 0,I_ J_ 0]
 |3=> #[nv p.c0,nv p.c1,nv p.c2,nv p.a0,nv p.a1,nv p.a2,S,nv p.fg,I_ J_ 0,I_ J_ 0,I_ J_ 0]
 |4=> #[nv p.c0,nv p.c1,nv p.c2,nv p.a0,nv p.a1,nv p.a2,S,nv p.fg,nv p.ret,I_ J_ 0,I_ J_ 0]
 |5=> #[nv p.c0,nv p.c1,nv p.c2,nv p.a0,nv p.a1,nv p.a2,S,nv p.fg,nv p.ret,nv p.fE,I_ J_ 0]
 |_=> #[nv p.c0,nv p.c1,nv p.c2,nv p.a0,nv p.a1,nv p.a2,S,nv p.fg,nv p.ret,nv p.fE,nv p.dead]
def FK (p:ef) (S:WW) (j:Nat) (hj:j<6):eR (yw p S j) ((ea j).mb.zip (lR p j))=yw p S (j+1):=by
 have:j=0\/j=1\/j=2\/j=3\/j=4\/j=5:=o_;obtain rfl|rfl|rfl|rfl|rfl|rfl:=this<;>simp [eR,yw,ea,lR,nv]
def oS (p:ef) (S F:WW) (j:Nat):(yw p S j).setIfInBounds 6 F=yw p F j/\(yw p S j)[6]?=X_ S/\(yw p S j).size=11:=by
 unfold yw;split<;>simp
def FJ (p:ef) (j:Nat):(lR p j).length=(ea j).mb.length:=by
 unfold lR ea;split<;>rfl
def FI {p:ef} (hj:j<6) (h:(j<2/\m=0)\/(2<=j/\m=dD.length)):(jh p dD).lines[j+m]?=X_ ((ea j).word::(lR p j).map XA):=by
 unfold Xu jh
 dsimp only
 obtain ⟨G,rfl⟩|⟨G,rfl⟩:=h
 .have:j=0\/j=1:=o_
  obtain rfl|rfl:=this<;>rfl
 .have F:(((XI::[p.c0.toNat,p.c1.toNat,p.c2.toNat].map XA)::(XJ::[p.a0.toNat,p.a1.toNat,p.a2.toNat].map XA)::(dD.map ED).map λt=>[Tp.JF,t.print])).length=dD.length+2:=by simp
  rw [List.getElem?_append_right (by rw [F];omega),F];obtain ⟨i,rfl⟩: ∃i,j=i+2:=⟨j - 2,o_⟩;rw [show i+2+dD.length - (dD.length+2)=i by omega];have:i=0\/i=1\/i=2\/i=3:=o_;obtain rfl|rfl|rfl|rfl:=this<;>rfl
def FH {p:ef} (F:m<dD.length):(jh p dD).lines[2+m]?=X_ [Tp.JF,(ED dD[m]).print]:=by
 unfold Xu jh
 dsimp only
 rw [List.getElem?_append_left z_,show 2+m=m+1+1 by omega,List.getElem?_cons_succ,List.getElem?_cons_succ,List.getElem?_map,List.getElem?_map,List.getElem?_eq_getElem F];rfl
def Cp {p:ef}:(jh p dD).lines.length=6+dD.length:=by
 unfold Xu jh;simp;omega
def nW (j:Nat) (k u:WW):Prop:=u=I_ J_ 1/\ ∃i,i<j/\k=T_ (str (ea i).word)
def Cq (G:j<6) (k u:WW):((k=T_ (str (ea j).word)/\u=I_ J_ 1)\/(k≠T_ (str (ea j).word)/\nW j k u))↔nW (j+1) k u:=by
 constructor
 .rintro (⟨rfl,rfl⟩|⟨_,F,i,I,e⟩)
  .exact ⟨rfl,j,o_,rfl⟩
  .exact ⟨F,i,o_,e⟩
 .rintro ⟨rfl,i,I,rfl⟩
  by_cases h:i=j
  .subst h;exact .inl ⟨rfl,rfl⟩
  .refine .inr ⟨λe=>h ?_,rfl,i,o_,rfl⟩
   injection e with e
   exact yx i o_ j G (str_inj e)
def KQ (F:j<6) (u:WW): ¬nW j (T_ (str (ea j).word)) u:=by
 rintro ⟨_,i,hi,e⟩;injection e with e
 have:=yx j F i o_ (str_inj e);omega
def Ac {R:WW->WW->Prop} (h:Xn Xa 9 w g R) (F:List WW) (hn:F.Nodup) (hk: ∀k,(∃v,R k v)↔k∈F): ∃G cl,w.heap[g]?=X_ (.map G cl)/\G.size=F.length:=by
 let ⟨G,cl,h1,h2,h3,h4,h5⟩:=h;refine ⟨G,cl,h1,?_⟩;have U:(G.toList.map XC).Nodup:=by
  rw [List.Nodup,Xp];intro i j X V hij e;simp only [Xr] at X V;simp only [Xq] at e;have:=h5 i j _ _ (by rw [<-Array.getElem?_toList];exact List.getElem?_eq_getElem X) (by rw [<-Array.getElem?_toList];exact List.getElem?_eq_getElem V) e;omega
 have I: ∀k,k∈G.toList.map XC↔k∈F:=by
  intro k;rw [<-hk];constructor
  .intro hm
   obtain ⟨e,O,rfl⟩:=Xf.1 hm;exact ⟨e.val,h3 e O⟩
  .rintro ⟨v,hv⟩
   let ⟨e,O,e1,_⟩:=h4 k v hv;exact Xf.2 ⟨e,O,e1⟩
 have hp:(G.toList.map XC).Perm F:=(List.perm_ext_iff_of_nodup U hn).2 I;have:=hp.length_eq;simpa using this
def KJ (h:fR t): ∃s p a g:Nat,t=⟨s,p,a,t.soft,g⟩/\ED t=⟨s,p,a,t.soft,g⟩:=by
 let ⟨F,_,I,_,G,_,O,_,_,_⟩:=h;obtain ⟨s,p,a,soft,g⟩:=t
 dsimp only at F I G O
 refine ⟨s.toNat,p.toNat,a.toNat,g.toNat,?_,rfl⟩;simp only [dA.mk.injEq,true_and];omega
def TQ (a0 a1 a2 a3 a4 a5 a6 a7 a8 a9 a10 b0 b1 b2 b3 b4 b5 b6 b7 b8 b9 b10:WW):eU.lay #[a0,a1,a2,a3,a4,a5,a6,a7,a8,a9,a10] 0 (#[b0,b1,b2,b3,b4,b5,b6,b7,b8,b9,b10]:Array WW).toList= #[b0,b1,b2,b3,b4,b5,b6,b7,b8,b9,b10]:=by simp [eU.lay]
def rW (p:ef) (A:Option WY) (n c:Nat):ef:=⟨p.c0,p.c1,p.c2,p.a0,p.a1,p.a2,A,n,c,p.fg,p.ret,p.fE,p.dead⟩
def FD {p:ef} (h:fK p dD) (A:Option WY) (n c:Nat) (hn:n<=12):fK (rW p A n c) dD:=by
 let ⟨⟨r1,r2,V,r4,r5⟩,h2,h3,h4,h5,h6,h7,X,h9,F,G,U,I,O⟩:=h;exact ⟨⟨r1,r2,V,hn,r5⟩,h2,h3,h4,h5,h6,h7,X,h9,F,G,U,I,O⟩
def KK {p:ef} (h:fK p dD) (A:Option WY) (n c:Nat):yw p (S_ A n c) 6=(rW p A n c).arr:=by
 let ⟨⟨r1,r2,r3,r4,r5⟩,F,I,G,h5,h6,h7,h8,h9,h10,h11,h12,h13,h14⟩:=h;have e: ∀n:Int,0<=n->nv n=I_ J_ n:=λn hn=>by unfold nv;rw [Int.toNat_of_nonneg hn]
 show (#[nv p.c0,nv p.c1,nv p.c2,nv p.a0,nv p.a1,nv p.a2,S_ A n c,nv p.fg,nv p.ret,nv p.fE,nv p.dead]:Array WW)=_
 unfold ef.arr rW
 dsimp only
 rw [e p.c0 o_,e p.c1 o_,e p.c2 o_,e p.a0 F,e p.a1 I,e p.a2 G,e p.fg o_,e p.ret o_,e p.fE o_,e p.dead o_]
def KM {p:ef} {W:Z'} {B:Nat} (F:p.ok W B dD) (j:Nat): ∀n∈lR p j,n<=XQ:=by
 have q1: -9223372036854775808<=p.c0/\p.c0<=9223372036854775807:=F.c0;have q2: -9223372036854775808<=p.c1/\p.c1<=9223372036854775807:=F.c1;have q3: -9223372036854775808<=p.c2/\p.c2<=9223372036854775807:=F.c2;have q4: -9223372036854775808<=p.a0/\p.a0<=9223372036854775807:=F.a0;have q5: -9223372036854775808<=p.a1/\p.a1<=9223372036854775807:=F.a1;have q6: -9223372036854775808<=p.a2/\p.a2<=9223372036854775807:=F.a2;have q7: -9223372036854775808<=p.fg/\p.fg<=9223372036854775807:=F.fg;have q8: -9223372036854775808<=p.ret/\p.ret<=9223372036854775807:=F.ret;have q9: -9223372036854775808<=p.fE/\p.fE<=9223372036854775807:=F.fE;have q10: -9223372036854775808<=p.dead/\p.dead<=9223372036854775807:=F.dead;intro n hn;unfold XQ;unfold lR at hn;split at hn<;>(simp only [Xg,Xd,or_false] at hn)
 .obtain rfl|rfl|rfl:=hn<;>omega
 .obtain rfl|rfl|rfl:=hn<;>omega
 all_goals (subst hn;omega)
def pI (j:Nat):List WW:=(List.range j).map λi=>T_ (str (ea i).word)
def qS: ∀j,j<=6->(pI j).Nodup:=by
 intro j hj;unfold pI;rw [List.Nodup,Xp];intro a b F G hab e;simp only [Xr,List.length_range] at F G;simp only [Xq,List.getElem_range] at e;injection e with e
 have:=yx a o_ b o_ (str_inj e);omega
def Cn (k:WW):(∃v,nW 6 k v)↔k∈pI 6:=by
 unfold pI;simp only [Xf,Xw];constructor
 .rintro ⟨v,_,i,F,rfl⟩;exact ⟨i,F,rfl⟩
 .rintro ⟨i,F,rfl⟩;exact ⟨_,rfl,i,F,rfl⟩
def FE (I:iJ->Nat) (k:WW):(∃v,∃x∈jC,k=T_ (str x.word)/\v=x.val (I x))↔k∈pI 6:=by
 have O: ∀x∈jC,∃i,i<6/\x=ea i:=by
  intro x F;simp only [jC,Xg,Xd,or_false] at F;obtain rfl|rfl|rfl|rfl|rfl|rfl:=F
  .exact ⟨0,d_,rfl⟩
  .exact ⟨1,d_,rfl⟩
  .exact ⟨2,d_,rfl⟩
  .exact ⟨3,d_,rfl⟩
  .exact ⟨4,d_,rfl⟩
  .exact ⟨5,d_,rfl⟩
 unfold pI;simp only [Xf,Xw];constructor
 .rintro ⟨v,x,F,rfl,_⟩
  obtain ⟨i,G,rfl⟩:=O x F;exact ⟨i,G,rfl⟩
 .rintro ⟨i,G,rfl⟩;exact ⟨_,ea i,FF i,rfl,rfl⟩
def uC (p:ef) (dD:List dA) (W0:Z') (B0:Nat) (A:Option WY) (n c:Nat) (w:Z') (hR:fK p dD) (I:p.ok W0 B0 dD) (hg:Gl w)
  (h:Mem.Sl w w.heap.size 1 A n ((jh p dD).text.map uv)) (aB:(jh p dD).text.length=n) (hn:n<=65536):
  WX Xa 26 #[S_ A n c] w λe w'=> ∃(A':Option WY) (c':Nat),e=R_ (U_ #[A_ (rW p A' dD.length c').arr,I_ J_ 0,I_ J_ 0])/\Xk w' 92 5 A' dD.length c' (Xh dD)/\(∀b,Xm A'=X_ b->w.heap.size<=b)/\Bw w w':=by
 have HG:=Hd hg;have H:=Hd h;have bT:=Hd (λX (hgX:Gl X) (hX:Mem.Sl X X.heap.size 1 A n ((jh p dD).text.map uv))=>KN A n c (jh p dD).lines X hgX hX aB hn (Co (jh p dD)) (Tp.vU (jh p dD)));have a9:=Hd hR;have ce:WZ (∀t∈dD,fR t/\t.mN<=9223372036854775807):=λt ht=>⟨hR.rc.each t ht,(I.each t ht).mN.2⟩
 have bE:=Hd (KM I);have hT:dD.length<=12:=by have:=hR.rc.n;have:=I.len;omega
 let ⟨T,aC⟩:=nm (dD.length);rw [<-aC] at hT |-;have HN3:=Hd aC;clear hg h aB hn hR I aC;let ⟨w1,ax⟩:=nm (w.alloc (.cells #[I_ J_ 0,I_ J_ 0,I_ J_ 0,I_ J_ 0,I_ J_ 0,I_ J_ 0,S_ Y_ 0 0,I_ J_ 0,I_ J_ 0,I_ J_ 0,I_ J_ 0] 25));have HB:WZ (Bw w w1):=by rw [ax];exact dL
 have HP:WZ (Xc w1 w.heap.size 25 #[I_ J_ 0,I_ J_ 0,I_ J_ 0,I_ J_ 0,I_ J_ 0,I_ J_ 0,S_ Y_ 0 0,I_ J_ 0,I_ J_ 0,I_ J_ 0,I_ J_ 0]):=by rw [ax];exact Xy
 have bD:=Hd ax;clear ax;have hmm:= @run_makeMap Xa;go_enter func26,ntmps26;go_wp2_with fail;rw [<-bD.o];refine (bT w1 (HG.below HB) ((H.below HB).more HB.size)).mono ?_;rintro e w2 ⟨AL,cL,vs,rfl,au,(bJ:WZ _),bj,an⟩;rw [show (jh p dD).lines.length=6+T from by rw [Cp,HN3.o]] at au |-;have bh:vs.length=6+T:=by have:=au.1;simpa using this
 have bw:=Hd au;have HBc:=Hd (HB.trans (an.mono HB.size));have ak:=Hd (HP.a_ an);have HVN:=Hd bh;have HSZ:=Hd an.size;clear au bj an bh;let ⟨w3,ah⟩:=nm ((w2.alloc (.cells #[I_ J_ 0,I_ J_ 0,I_ J_ 0,I_ J_ 0,I_ J_ 0,I_ J_ 0,S_ Y_ 0 0,I_ J_ 0,I_ J_ 0,I_ J_ 0,I_ J_ 0] 25)).alloc (.map #[] 0));have bQ:WZ (Bw w2 w3):=by rw [ah];exact (dL).alloc y_ _
 have bA:WZ (Xc w3 w2.heap.size 25 (yw p (S_ Y_ 0 0) 0)):=by rw [ah];exact Mem.c_.alloc Xy
 have bC:=Hd (show Xn Xa 9 w3 (w2.heap.size+1) (nW 0) from by
  rw [ah];have:=Map.At.made (P:=Xa) (K:=9) (w2.alloc (.cells #[I_ J_ 0,I_ J_ 0,I_ J_ 0,I_ J_ 0,I_ J_ 0,I_ J_ 0,S_ Y_ 0 0,I_ J_ 0,I_ J_ 0,I_ J_ 0,I_ J_ 0] 25));rw [show (w2.alloc (.cells #[I_ J_ 0,I_ J_ 0,I_ J_ 0,I_ J_ 0,I_ J_ 0,I_ J_ 0,S_ Y_ 0 0,I_ J_ 0,I_ J_ 0,I_ J_ 0,I_ J_ 0] 25)).heap.size=w2.heap.size+1 by simp] at this;exact this.iff λk v=>⟨λh=>h.elim,λ⟨_,i,hi,_⟩=>absurd hi o_⟩)
 have bB:=Hd ah;clear ah;go_wp2_with fail;rw [<-bB.o];go_loopw [24] (λvi wr=> ∃(j m:Nat) (F:Option WY) (ab:Nat),j<=6/\m<=T/\(j<2->m=0)/\(2<j->m=T)/\vi=I_ J_ ((j+m:Nat):Int)/\WZ (Bw w2 wr)/\WZ (Xc wr w2.heap.size 25 (yw p (S_ F m ab) j))/\WZ (Xk wr 92 5 F m ab (Xh (dD.take m)))/\WZ (∀b,Xm F=X_ b->w2.heap.size<=b)/\WZ (Xn Xa 9 wr (w2.heap.size+1) (nW j))) (λi _=>6+T - (intOf i).toNat)
 .exact ⟨0,0,Y_,0,o_,o_,λ_=>rfl,λh=>absurd h o_,rfl,bQ,bA,Hd Ro.Row.nil,Hd (λb h=>by cases h),bC⟩
 .obtain ⟨j,m,F,ab,hj,hm,ca,aE,rfl,ar,HC,G,HA,aw⟩:=hrel
  by_cases ba:j=6
  .subst ba
   obtain rfl:m=T:=aE o_;clear ca aE hj hm;let ⟨es,cl,aQ,aD⟩:=Ac aw (pI 6) (qS 6 o_) Cn;have a3:=run_len_map (P:=Xa) (w:=wr) 117 3 (w2.heap.size+1) es cl underlying117 aQ;rw [show es.size=6 from aD] at a3;have h9:=G.o;rw [t_ (by have:=HN3.o;omega)] at h9;have H9:=Hd h9;have aO:=HC.o;rw [KK a9.o] at aO;have U:=Hd aO;have hw6:((6+m:Nat):Int)=6+(m:Int):=o_;clear aD h9 aO;go_wp2_with fail;clear aQ a3;refine (qT w2.heap.size wr).mono ?_;rintro e w7 ⟨gm,rfl,b6,hb4,gx,bd,bS⟩;let ⟨a7,bW,e0,ae⟩:=Ac bd (pI 6) (qS 6 o_) (FE gx);have aZ:=run_len_map (P:=Xa) (w:=w7) 123 3 gm a7 bW underlying123 e0;rw [show a7.size=6 from ae] at aZ;have az:Xk w7 92 5 F m ab (Xh dD):=H9.dy λb ag=>hb4.block b (H9.lt ag)
   have bc:=Hd az;have HP:=Hd (U.a_ hb4);have a6:=Hd (ar.trans (hb4.mono ar.size));have aP:=Hd (FG (rW p F m ab) dD w7 (FD a9 F m ab (by have:=HN3.o;omega)) az.sl HN3.symm);clear ae b6 bd bS hb4 az;unfold ef.arr rW at aP HP
   dsimp only at aP HP
   obtain ⟨aX,e1,e2,e3,e4,e5,e6,e7,e8,e9,aT,-⟩:=kA HP;go_wp2_with fail;clear e0 aX e1 e2 e3 e4 e5 e6 e7 e8 e9 aT;refine aP.mono ?_;rintro e w8 ⟨rfl,ap⟩;have HS4:=Hd (HP.a_ ap);have O:=Hd (a6.trans (ap.mono a6.size));have aG:WZ (Xk w8 92 5 F m ab (Xh dD)):=bc.dy λb ag=>ap.block b (bc.lt ag)
   have aF:=Hd (ak.a_ O);have HB4:=Hd (HBc.trans (O.mono HBc.size));clear ap;have bV:=Hd (show∀am,XK (λb=>b=w.heap.size) w8 am-> ∃(A':Option WY) (c':Nat),(XH (U_ #[A_ #[I_ J_ p.c0,I_ J_ p.c1,I_ J_ p.c2,I_ J_ p.a0,I_ J_ p.a1,I_ J_ p.a2,S_ F m ab,I_ J_ p.fg,I_ J_ p.ret,I_ J_ p.fE,I_ J_ p.dead],I_ J_ 0,I_ J_ 0]))=R_ (U_ #[A_ (rW p A' m c').arr,I_ J_ 0,I_ J_ 0])/\Xk am 92 5 A' m c' (Xh dD)/\(∀b,Xm A'=X_ b->w.heap.size<=b)/\Bw w am from λam aH=>by
    have bO:=HBc.size;refine ⟨F,ab,rfl,aG.dy λb ag=>aH.block b (aG.lt ag) (λe=>aG.dZ aF d_ b ag e),λb ag=>XB bO (HA b ag),HB4.trans (aH.below HB4.size (λb ag e=>o_))⟩)
   obtain ⟨aX,e1,e2,e3,e4,e5,e6,e7,e8,e9,aT,-⟩:=kA HS4;go_upto_region 17 with fail;go_wp2_with (refine eU.store rfl 25 _ _ rfl w.heap.size 0 #[I_ J_ p.c0,I_ J_ p.c1,I_ J_ p.c2,I_ J_ p.a0,I_ J_ p.a1,I_ J_ p.a2,S_ F m ab,I_ J_ p.fg,I_ J_ p.ret,I_ J_ p.fE,I_ J_ p.dead] rfl rfl aF y_ k_ v_ ?_;intro am b9 o9;rw [show eU.lay #[I_ J_ 0,I_ J_ 0,I_ J_ 0,I_ J_ 0,I_ J_ 0,I_ J_ 0,S_ Y_ 0 0,I_ J_ 0,I_ J_ 0,I_ J_ 0,I_ J_ 0] 0 (#[I_ J_ p.c0,I_ J_ p.c1,I_ J_ p.c2,I_ J_ p.a0,I_ J_ p.a1,I_ J_ p.a2,S_ F m ab,I_ J_ p.fg,I_ J_ p.ret,I_ J_ p.fE,I_ J_ p.dead]:Array WW).toList= #[I_ J_ p.c0,I_ J_ p.c1,I_ J_ p.c2,I_ J_ p.a0,I_ J_ p.a1,I_ J_ p.a2,S_ F m ab,I_ J_ p.fg,I_ J_ p.ret,I_ J_ p.fE,I_ J_ p.dead] from TQ _ _ _ _ _ _ _ _ _ _ _ _ _ _ _ _ _ _ _ _ _ _] at b9;have v0:C am w.heap.size 0 p.c0:=b9.cell 0;have v1:C am w.heap.size 1 p.c1:=b9.cell 1;have v2:C am w.heap.size 2 p.c2:=b9.cell 2;have v3:C am w.heap.size 3 p.a0:=b9.cell 3;have v4:C am w.heap.size 4 p.a1:=b9.cell 4;have v5:C am w.heap.size 5 p.a2:=b9.cell 5;have v6:C am w.heap.size 6 (S_ F m ab):=b9.cell 6;have v7:C am w.heap.size 7 p.fg:=b9.cell 7;have v8:C am w.heap.size 8 p.ret:=b9.cell 8;have v9:C am w.heap.size 9 p.fE:=b9.cell 9;have v10:C am w.heap.size 10 p.dead:=b9.cell 10;have bK:=Hd (bV _ o9);clear b9 o9 aX e1 e2 e3 e4 e5 e6 e7 e8 e9 aT)
   refine bodyPost_ret (v:=U_ #[A_ #[I_ J_ p.c0,I_ J_ p.c1,I_ J_ p.c2,I_ J_ p.a0,I_ J_ p.a1,I_ J_ p.a2,S_ F m ab,I_ J_ p.fg,I_ J_ p.ret,I_ J_ p.fE,I_ J_ p.dead],I_ J_ 0,I_ J_ 0]) (by simp [*,results,results26,go_sem]) rfl bK
  .have ao:j<6:=o_
   let ⟨ad,bz,bP,hlb,bM⟩:=Mem.Sl.at_ (bw.below ar) (show j+m<6+T by omega);subst bP;have ay:=Hd (λ(ws:List (List UInt8)) (h:(jh p dD).lines[j+m]?=X_ ws)=>(show kj wr w1.heap.size (Xm (X_ ad)) vs[j+m] ws from by
    have h2:j+m<(jh p dD).lines.length:=(List.getElem?_eq_some_iff.1 h).1;have h3:=bJ (j+m) bz h2;rw [List.getElem?_eq_getElem h2] at h;rw [q_ h] at h3;exact h3.dy (λb ag _=>ar.block b ag) (λb _ h=>h)))
   generalize vs[j+m]=V at*;have hkl:(((j+m:Nat):Int)<6+(T:Int)):=o_;have hw:=Ta.fh (n:=((j+m:Nat):Int)+1) o_ o_;have cm:j+m<6+T:=o_;have bH:=Hd (HG.below (HBc.trans (ar.mono HBc.size)));by_cases bt:j=2/\m<T
   .obtain ⟨rfl,hmT⟩:=bt
    have aL:m<dD.length:=by have:=HN3.o;omega
    let ⟨aK,aN⟩:=ce dD[m] (g_ aL);let ⟨s,pc,a,g,ht,bb⟩:=KJ aK;have ac:=ay _ (FH (p:=p) aL);rw [bb] at ac;have af:=aK;rw [ht] at af;have aA:a<=XQ:=by rw [ht] at aN;dsimp only at aN;unfold XQ;omega
    have aJ:=Hd (KO w2.heap.size (w2.heap.size+1) (yw p (S_ F m ab) 2) F m ab (dD.take m) s pc a g dD[m].soft V w1.heap.size (Xm (X_ ad)) wr bH af aA HC (oS p _ (S_ Y_ 0 0) 2).2.1 G o_ ac);have b8:WZ (dD.take (m+1)=dD.take m++[⟨s,pc,a,dD[m].soft,g⟩]):=by rw [Mem.dQ dD m aL];congr 2
    clear ac aK af aN aA ht bb ay;go_wp2_with fail;refine aJ.mono ?_;rintro e w5 ⟨rfl,A5,c5,av,be,aa,bm⟩;have aS:=Hd (ar.trans (aa.below ar.size (λb ag e=>by obtain e|e:=e;omega;exact absurd (HA b e) o_)));have aI:WZ (Xc w5 w2.heap.size 25 (yw p (S_ A5 (m+1) c5) 2)):=by rw [(oS p (S_ F m ab) (S_ A5 (m+1) c5) 2).1] at av;exact av
    have aM:WZ (Xk w5 92 5 A5 (m+1) c5 (Xh (dD.take (m+1)))):=by rw [b8.o];exact be
    have bN:=Hd (show∀b,Xm A5=X_ b->w2.heap.size<=b from λb ag=>by
     obtain h|h:=bm b ag
     .exact HA b h
     .exact XB ar.size h)
    have aU:=Hd (show Xn Xa 9 w5 (w2.heap.size+1) (nW 2) from aw.of_block (aa.block _ aw.lt (λe=>by
     obtain e|e:=e
     .omega
     .let ⟨bI,ai⟩:=G.type e
      obtain ⟨es,cl,al,_⟩:=aw;rw [ai] at al;cases al)))
    clear av be aa bm;go_wp2;go_roundw
    .exact ⟨2,m+1,A5,c5,o_,o_,λh=>absurd h o_,λh=>absurd h o_,by go_num,aS,aI,aM,bN,aU⟩
    .simp [intOf];omega
   .have ac:=ay _ (FI (p:=p) (dD:=dD) (m:=m) ao (by have:=HN3.o;omega))
    have a4:=oS p (S_ F m ab) (S_ Y_ 0 0) j;have aJ:=Hd (KP w2.heap.size (w2.heap.size+1) (yw p (S_ F m ab) j) (ea j) (FF j) (lR p j) (FJ p j) (bE j) (nW j) V w1.heap.size (Xm (X_ ad)) wr HC a4.2.2 aw (KQ ao) ac);clear ac a4 ay;go_wp2_with fail;refine aJ.mono ?_;rintro e w5 ⟨rfl,av,bf,aa⟩;have aS:=Hd (ar.trans (aa.below ar.size (λb ag e=>o_)));have aI:WZ (Xc w5 w2.heap.size 25 (yw p (S_ F m ab) (j+1))):=by rw [FK p _ j ao] at av;exact av
    have aM:=Hd (show Xk w5 92 5 F m ab (Xh (dD.take m)) from G.dy λb ag=>aa.block b (G.lt ag) (λe=>by
     obtain e|e:=e
     .exact G.dZ HC d_ b ag e
     .subst e
      let ⟨bI,ai⟩:=G.type ag;obtain ⟨es,cl,al,_⟩:=aw;rw [ai] at al;cases al))
    have aU:WZ (Xn Xa 9 w5 (w2.heap.size+1) (nW (j+1))):=bf.iff (Cq ao);clear av bf aa;go_wp2;go_roundw
    .exact ⟨j+1,m,F,ab,o_,o_,o_,o_,by go_num,aS,aI,aM,HA,aU⟩
    .simp [intOf];omega
end Nu
end
end Go.Proofs.YtkidababfdehlaaGreatDoor
