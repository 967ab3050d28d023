/- Parts of the walk. -/
import Derived.Test.YtkidababfdehlaaGreatDoorQAd
import Derived.Sort.Grow
set_option linter.all false
set_option maxRecDepth 100000
set_option maxHeartbeats 64000000
namespace Go.Proofs.YtkidababfdehlaaGreatDoor
open Value renaming int -> I_,bool -> B_,string -> T_,slice -> S_,pointer -> P_,tuple -> U_,agg -> A_
open IntKind renaming i64 -> J_
open Ending renaming returned -> R_
open Option renaming some -> X_,none -> Y_
open Bool renaming true -> Y',false -> Z_
open Go renaming World -> Z',Value -> WW,Calls -> WX,Addr -> WY
open Go.RowKit renaming Hid -> WZ
open _root_.Go.Proofs.Tryz renaming prog -> Xa
open Frame renaming il -> Xb,fu -> Xt
open du renaming cmp -> Xc
open Mem.c_ renaming new -> Xd,alloc -> Xk
open dm renaming on -> Xe,cl -> Xs
open Mem renaming Sl -> Xf,c_ -> Xj
open List renaming getElem_of_mem -> Xg,take_succ_cons -> Xm,drop_succ_cons -> Xn,length_map -> Xr
open Nat renaming lt_or_eq_of_le -> Xh,le_of_lt_succ -> Xi
open List.cons renaming injEq -> Xl
open Go.Value renaming string -> Xo
open Decidable renaming not_not -> Xp
open Go.World renaming drewN -> Xq
open Go.Sort renaming grow -> Xu
variable {ad:WY} {a b:ByteArray} {cs:List WW} {B' k n:Nat} {A:Option WY} {P:Program} {q:Prop} {t:TypeId} {v:WW} {w w':Z'}
open Go.RowKit
section
open _root_.Go.Proofs.Tryz
namespace Fl
def fx (x y:Int):Int:=if x<y then -1 else if y<x then 1 else 0
def Gy (b:Nat):kd b=1/\rk b=9223372036854775807/\9218868437227405312<rg b\/kd b=2/\rk b= -9218868437227405313\/kd b=3/\rk b< -1/\ -9218868437227405313<rk b/\sr b=rk b+1/\rg b<=9218868437227405312\/kd b=4/\rk b= -1/\rg b<=9218868437227405312\/kd b=5/\rk b=0/\rg b<=9218868437227405312\/kd b=6/\0<rk b/\rk b<9218868437227405312/\sr b=rk b/\rk b=rg b/\rg b<=9218868437227405312\/kd b=7/\rk b=9218868437227405312/\sr b=rk b/\rg b=9218868437227405312:=by
 have e:rk b=(if Gz (sg b) (rg b)=1 then 9223372036854775807 else if sg b then -(rg b:Int) - 1 else rg b):=rfl;rw [e,TY,TZ];have h:=ta (sg b) (rg b);unfold Lw at h |-;clear e;generalize Gz (sg b) (rg b)=k at*;generalize rg b=r at*;generalize sg b=x at*;cases x
 .simp only [Bool.false_eq_true,if_false] at h |-
  generalize hR:(if k=1 then (9223372036854775807:Int) else (r:Int))=R;have F:k=1->R=9223372036854775807:=by intro h;rw [<-hR,if_pos h]
  have G:k≠1->R=r:=by intro h;rw [<-hR,if_neg h]
  clear hR;obtain h|h|h|h|h|h|h:=h
  .left;omega
  .right;left;omega
  .right;right;left;omega
  .exact h.2.2.elim
  .right;right;right;right;left;omega
  .right;right;right;right;right;left;omega
  .right;right;right;right;right;right;omega
 .simp only [if_true] at h |-
  generalize hR:(if k=1 then (9223372036854775807:Int) else -(r:Int) - 1)=R;have F:k=1->R=9223372036854775807:=by intro h;rw [<-hR,if_pos h]
  have G:k≠1->R= -(r:Int) - 1:=by intro h;rw [<-hR,if_neg h]
  clear hR;obtain h|h|h|h|h|h|h:=h
  .left;omega
  .right;left;omega
  .right;right;left;omega
  .right;right;right;left;omega
  .exact absurd h.2.2 d_
  .exfalso;omega
  .exfalso;omega
def QC (x:Int) (w:Z'):WX Xa 263 #[I_ J_ x] w λe w'=>e=R_ (B_ Z_)/\w=w':=by
 go_enter func263,ntmps263;go_wp2;go_ret;exact ⟨by simp,rfl⟩
def QD (x y:Int) (w:Z'):WX Xa 215 #[I_ J_ x,I_ J_ y] w λe w'=>e=R_ (I_ J_ (fx x y))/\w=w':=by
 have hn:WZ (∀x w,WX Xa 263 #[I_ J_ x] w λe w'=>e=R_ (B_ Z_)/\w=w'):=QC;unfold fx;by_cases G:x<y
 .rw [if_pos G]
  have d:decide (x<y)=Y':=decide_eq_true G;go_enter func215,ntmps215;go_wp2_with fail;refine (hn _ _).mono ?_;rintro e w' ⟨rfl,rfl⟩;go_wp2_with fail;refine (hn _ _).mono ?_;rintro e w' ⟨rfl,rfl⟩;go_wp2;go_ret;exact ⟨rfl,rfl⟩
 .rw [if_neg G]
  have d:decide (x<y)=Z_:=decide_eq_false G;by_cases F:y<x
  .rw [if_pos F]
   have I:decide (y<x)=Y':=decide_eq_true F;have O:decide (x>y)=Y':=decide_eq_true F;go_enter func215,ntmps215;go_wp2_with fail;refine (hn _ _).mono ?_;rintro e w' ⟨rfl,rfl⟩;go_wp2_with fail;refine (hn _ _).mono ?_;rintro e w' ⟨rfl,rfl⟩;go_wp2;go_ret;exact ⟨rfl,rfl⟩
  .rw [if_neg F]
   have I:decide (y<x)=Z_:=decide_eq_false F;have O:decide (x>y)=Z_:=decide_eq_false F;go_enter func215,ntmps215;go_wp2_with fail;refine (hn _ _).mono ?_;rintro e w' ⟨rfl,rfl⟩;go_wp2_with fail;refine (hn _ _).mono ?_;rintro e w' ⟨rfl,rfl⟩;go_wp2;go_ret;exact ⟨rfl,rfl⟩
end Fl
end
section
open _root_.Go.Proofs.Tryz
namespace Gr
def kR (w w':Z'):Prop:= ∃(q:Nat) (os:Array Obj),w'=Xu (w.drewN q) os
def kR.refl (w:Z'):kR w w:=⟨0,#[],by simp [Xq,Xu]⟩
def kR.alloc (h:kR w w') (o:Obj):kR w (w'.alloc o):=by
 obtain ⟨q,os,rfl⟩:=h;exact ⟨q,os++ #[o],by rw [Sort.alloc_eq_grow,Sort.grow_grow]⟩
def kR.drew (h:kR w w'):kR w w'.drew:=by
 obtain ⟨q,os,rfl⟩:=h;exact ⟨q+1,os,rfl⟩
def kR.below (h:kR w w'):Bw w w':=by
 obtain ⟨q,os,rfl⟩:=h;exact ⟨rfl,rfl,rfl,by simp [Xu,Xq],λk F=>by rw [Sort.heap_grow_old _ _ (by simpa [Xq] using F)];rfl⟩
structure uR {α:Type} (cf:α->α->Int):Prop where
 neg: ∀x y,cf x y<0↔0<cf y x
 trans: ∀x y z,cf x y<=0->cf y z<=0->cf x z<=0
def uR.swo {α:Type} {F:α->α->Int} (h:uR F):Sort.SWO (λx y=>decide (F x y<0)) where
 irrefl x:=by
  have:=h.neg x x;exact dF
 trans x y z h1 h2:=by
  simp only [decide_eq_true_eq] at h1 h2 |-;have a:=h.neg x z;have b:=h.neg z x;have c:=h.neg y z;have d:=h.neg z y;have e:=h.trans x y z o_ o_;by_cases G:F x z<0
  .exact G
  .have f:=h.trans z x y o_ o_
   omega
 ntrans x y z h1 h2:=by
  simp only [decide_eq_false_iff_not] at h1 h2 |-;have a:=h.neg x y;have a2:=h.neg y x;have b:=h.neg y z;have b2:=h.neg z y;have c:=h.neg x z;have e:=h.trans z y x o_ o_;omega
def uR.or {α:Type} {a b:α->α->Int} (F:uR a) (G:uR b):uR (λx y=>if a x y=0 then b x y else a x y) where
 neg x y:=by
  have h1:=F.neg x y;have h2:=F.neg y x;have h3:=G.neg x y;split<;>split<;>omega
 trans x y z:=by
  have t1:=F.trans x y z;have t2:=F.trans y z x;have t3:=F.trans z x y;have t4:=G.trans x y z;have n1:=F.neg x y;have n2:=F.neg y x;have n3:=F.neg y z;have n4:=F.neg z y;have n5:=F.neg x z;have n6:=F.neg z x;split<;>split<;>split<;>omega
def uR.pull {α β:Type} {cf:α->α->Int} (h:uR cf) (f:β->α):uR (λx y=>cf (f x) (f y)):=⟨λx y=>h.neg _ _,λx y z=>h.trans _ _ _⟩
def uR.flip {α:Type} {cf:α->α->Int} (h:uR cf):uR (λx y=>cf y x):=⟨λx y=>h.neg _ _,λx y z h1 h2=>h.trans _ _ _ h2 h1⟩
def lC:Gr.uR Fl.fx:=by
 refine ⟨λx y=>?_,λx y z=>?_⟩
 .unfold Fl.fx
  repeat' split
  all_goals omega
 .unfold Fl.fx
  repeat' split
  all_goals omega
def oq:uR Xc:=⟨λx y=>by rw [du.qm y x];omega,λx y z h1 h2=>by
 by_cases hz:Xc x y=0
 .obtain rfl:=(du.cmp_eq _ _).1 hz
  exact h2
 .exact Int.le_of_lt (du.jb (b:=y) o_ h2)⟩
end Gr
end
section
open _root_.Go.Proofs.Tryz
namespace Tw
def fP (p v:dz):Bool:=p.fB&& !v.fB&&decide (v.prio<p.prio)
def Ls (p v:dz) (w:Z'):WX Xa 211 #[A_ p.arr,A_ v.arr] w λe w'=>e=R_ (B_ (fP p v))/\Bw w w':=by
 have I:WZ (Bw w ((w.alloc (.cells p.arr 42)).alloc (.cells v.arr 42))):=(dL).alloc y_ _;let ⟨id,X,G,r0,r1,r2,l0,l1,l2,eO,size⟩:=p;let ⟨id',O,F,r0',r1',r2',l0',l1',l2',V,U⟩:=v;unfold dz.arr at I |-;unfold fP
 dsimp only at I |-
 cases G<;>cases F
 all_goals
  go_enter func211,ntmps211;go_wp2;go_ret;exact ⟨by simp,I⟩
def asked (p:dz) (s:Int):Int:=if s=0 then p.r1 else if s=2 then p.r2 else 0
def Gw {p:Prop} (h:p:=by
 go_enter func295,ntmps295;go_wp2_with fail;go_ret;exact ⟨rfl,F⟩):p:=h
def Lr (p:dz) (s:Int) (w:Z'):WX Xa 295 #[A_ p.arr,I_ J_ s] w λe w'=>e=R_ (I_ J_ (asked p s))/\Bw w w':=by
 have F:WZ (Bw w (w.alloc (.cells p.arr 42))):=dL;let ⟨id,U,O,r0,r1,r2,l0,l1,l2,eO,size⟩:=p;unfold dz.arr at F |-;unfold asked
 dsimp only at F |-
 by_cases I:s=0
 .subst I
  rw [if_pos rfl];exact Gw
 .have e0:(s==0)=Z_:=beq_eq_false_iff_ne.2 I
  rw [if_neg I];clear I;by_cases G:s=2
  .subst G
   rw [if_pos rfl];exact Gw
  .have e2:(s==2)=Z_:=beq_eq_false_iff_ne.2 G
   rw [if_neg G];clear G;exact Gw
end Tw
end
section
open _root_.Go.Proofs.Tryz
structure et where
 id:ByteArray
 sA:Int
 sB:Int
 sC:Int
namespace et
def arr (p:et):Array WW:= #[T_ p.id,I_ J_ p.sA,I_ J_ p.sB,I_ J_ p.sC]
def cells (p:et):List WW:=[T_ p.id,I_ J_ p.sA,I_ J_ p.sB,I_ J_ p.sC]
section
variable {W:Z'}
def flat (ps:List et):List WW:=(ps.map cells).flatten
end
def eH (ps qs:List et):flat (ps++qs)=flat ps++flat qs:=by simp [flat]
structure At (w:Z') (ad:WY) (p:et):Prop where
 c0:w.cell? ad=X_ (T_ p.id)
 c1:Ca w ad 1 p.sA
 c2:Ca w ad 2 p.sB
 c3:Ca w ad 3 p.sC
def at_ {B:Nat} {ps:List et} (h:Xf w B 4 A n (flat ps)) (hk:k<n):
  ∃(ad:WY) (hl:k<ps.length),A=X_ ad/\ad.block<B/\(ad.add (k*4)).block<B/\At w (ad.add (k*4)) ps[k]:=
 let ⟨ad,hl,a,b,c,d,e⟩:=Gv.at_ cells h hk;⟨ad,hl,a,b,c,⟨d,e 1,e 2,e 3⟩⟩
end et
end
section
open _root_.Go.Proofs.Tryz Wo
namespace Tw
def jE (e:dq):Bool:= !e.dC.fB&&(decide (e.ph=1)||decide (e.ph=2))
def Av {p:Prop} (h:p:=by
 go_enter func232,ntmps232;go_wp2_with fail;go_ret;exact ⟨rfl,F⟩):p:=h
def QE (x:dq) (w:Z'):WX Xa 232 #[A_ x.arr] w λe w'=>e=R_ (B_ (jE x))/\Bw w w':=by
 have F:WZ (Bw w (w.alloc (.cells x.arr 58))):=dL;let ⟨⟨id,V,I,r0,r1,r2,l0,l1,l2,eO,size⟩,U⟩:=x;unfold dq.arr at F |-;unfold jE
 dsimp only at F |-
 cases I with
 |true=>
  exact Av
 |false=>
  by_cases G:U=1
  .subst G
   exact Av
  .have e1:(U==1)=Z_:=beq_eq_false_iff_ne.2 G
   rw [decide_eq_false G];by_cases O:U=2
   .subst O
    clear G;exact Av
   .have e2:(U==2)=Z_:=beq_eq_false_iff_ne.2 O
    rw [decide_eq_false O];clear G O;exact Av
def CI (x y:et) (w:Z'):WX Xa 190 #[A_ x.arr,A_ y.arr] w λe w'=>e=R_ (I_ J_ (Xc x.id y.id))/\Gr.kR w w':=by
 have F:WZ (Gr.kR w ((w.alloc (.cells x.arr 299)).alloc (.cells y.arr 299))):=((Gr.kR.refl _).alloc _).alloc _;obtain ⟨i1,x1,x2⟩:=x;obtain ⟨i2,y1,y2⟩:=y;unfold et.arr at F |-
 dsimp only at F |-
 go_enter func190,ntmps190;go_wp2_with fail;refine (gD _ _ _).mono ?_;rintro e w2 ⟨rfl,G⟩;obtain rfl:=G.symm;go_wp2;go_ret;exact ⟨rfl,F⟩
def kl (x y:dK):Int:=(([Fl.fx x.last y.last,Fl.fx y.size x.size,Xc x.name y.name]:List Int).find? (· !=0)).getD 0
def LQ (x y:dK) (w:Z'):WX Xa 177 #[A_ x.arr,A_ y.arr] w λe w'=>e=R_ (I_ J_ (kl x y))/\Gr.kR w w':=by
 let ⟨V,x1,I⟩:=x;let ⟨X,y1,y2⟩:=y;let ⟨F,hF⟩:=nm (kl ⟨V,x1,I⟩ ⟨X,y1,y2⟩);rw [<-hF];have ae:=Hd hF;clear hF;unfold kl at ae;unfold dK.arr
 dsimp only at ae |-
 let ⟨w1,O⟩:=nm ((w.alloc (.cells #[T_ V,I_ J_ x1,I_ J_ I] 223)).alloc (.cells #[T_ X,I_ J_ y1,I_ J_ y2] 223));refine Ap ?_;intro HB;have HKb:WZ (Xj w1 w.heap.size 223 #[T_ V,I_ J_ x1,I_ J_ I]):=by rw [O];exact Xk Xd
 have HKa:=Hd (show Xj w1 (w.heap.size+1) 223 #[T_ X,I_ J_ y1,I_ J_ y2] from by
  rw [O];have:=Xd (w:=w.alloc (.cells #[T_ V,I_ J_ x1,I_ J_ I] 223)) (t:=223) (cs:= #[T_ X,I_ J_ y1,I_ J_ y2]);simpa using this)
 have HW:=Hd O;have HF:=Hd (show∀wx,Bw w1 wx->dK.At wx ⟨w.heap.size,0,Y_⟩ ⟨V,x1,I⟩/\dK.At wx ⟨w.heap.size+1,0,Y_⟩ ⟨X,y1,y2⟩ from λwx U=>by
  have al:=HKb.a_ U;have Z2:=HKa.a_ U;exact ⟨⟨al.cell 0,al.cell 1,al.cell 2⟩,⟨Z2.cell 0,Z2.cell 1,Z2.cell 2⟩⟩)
 clear O;go_enter func177,ntmps177;go_upto_region 1 with fail;rw [<-HW.o];refine dm.start (S:=λw'=>Bw w1 w') k_ ?_;refine dm.tk 6 b_.drew [0,1,2,3,5,6,7,8,10,11,12,13] ?_
 iterate 12 (refine dm.dG rfl (λK' G=>?_);go_simp;(first|refine G _ ?_;clear G K'|constructor;refine ⟨λwx U=>?_,G _ ?_⟩;(let ⟨⟨a0,a1,a2⟩,b0,b1,b2⟩:=HF wx U;go_simp<;>rfl);clear G K'))
 refine dm.ee ?_;refine Xe 4 5 ?_;refine yK ?_;refine Xe 9 4 ?_;refine yK ?_;refine Xe 14 3 ?_;refine Xs ?_;refine (gD _ _ _).mono ?_;refine Lu ?_;refine Xe 15 2 ?_;refine dm.val rfl rfl (v:=S_ (X_ ⟨w1.heap.size,0,Y_⟩) 3 3) (w':=w1.drew.alloc (.cells #[I_ J_ (Fl.fx I y2),I_ J_ (Fl.fx y1 x1),I_ J_ (Xc V X)] 3)) f_ (b_.drew.alloc l_ _) ?_;refine Xe 16 1 ?_;refine Xs ?_;refine (jW.Gx _ 3 3 (w1.heap.size+1) [Fl.fx I y2,Fl.fx y1 x1,Xc V X] _ ?lit d_).mono ?_
 .exact Mem.gV (w:=w1.drew) (n:=3) rfl rfl rfl
 rw [<-ae.o];refine As ?_;refine dm.tg 0 (b_.drew.alloc l_ _) [17] ?_;refine dm.fi ?_;have HZ:=Hd (HB.drew.alloc (.cells #[I_ J_ (Fl.fx I y2),I_ J_ (Fl.fx y1 x1),I_ J_ (Xc V X)] 3));exact Au
end Tw
end
section
open _root_.Go.Proofs.Tryz
structure gR where
 a:Int
 b:Int
 c:Int
 id:ByteArray
namespace gR
def arr (p:gR):Array WW:= #[I_ J_ p.a,I_ J_ p.b,I_ J_ p.c,T_ p.id]
def cells (p:gR):List WW:=[I_ J_ p.a,I_ J_ p.b,I_ J_ p.c,T_ p.id]
section
variable {W:Z'}
def flat (ps:List gR):List WW:=(ps.map cells).flatten
end
def eH (ps qs:List gR):flat (ps++qs)=flat ps++flat qs:=by simp [flat]
def dO (ps:List gR):(flat ps).length=ps.length*4:=Gv.len cells ps
structure At (w:Z') (ad:WY) (p:gR):Prop where
 c0:w.cell? ad=X_ (I_ J_ p.a)
 c1:Ca w ad 1 p.b
 c2:Ca w ad 2 p.c
 c3:Ca w ad 3 p.id
def at_ {B:Nat} {ps:List gR} (h:Xf w B 4 A n (flat ps)) (hk:k<n):
  ∃(ad:WY) (hl:k<ps.length),A=X_ ad/\ad.block<B/\(ad.add (k*4)).block<B/\At w (ad.add (k*4)) ps[k]:=
 let ⟨ad,hl,a,b,c,d,e⟩:=Gv.at_ cells h hk;⟨ad,hl,a,b,c,⟨d,e 1,e 2,e 3⟩⟩
end gR
end
section
open _root_.Go.Proofs.Tryz Wo
namespace Tw
def jv (x y:dz):Int:=(([Fl.fx y.prio x.prio,Xc x.id y.id]:List Int).find? (· !=0)).getD 0
def Lt (p q:dz) (w:Z'):WX Xa 213 #[A_ p.arr,A_ q.arr] w λe w'=>e=R_ (I_ J_ (jv p q))/\Gr.kR w w':=by
 let ⟨x0,V,x2,x3,x4,x5,x6,x7,x8,x9,ab⟩:=p;let ⟨X,G,y2,y3,y4,y5,y6,y7,y8,y9,ac⟩:=q;unfold dz.arr jv
 dsimp only
 let ⟨F,hF⟩:=nm (((([Fl.fx G V,Xc x0 X]:List Int).find? (· !=0)).getD 0));rw [<-hF];have I:=Hd hF;clear hF;let ⟨w1,O⟩:=nm ((w.alloc (.cells #[x0,V,x2,x3,x4,x5,x6,x7,x8,x9,ab] 42)).alloc (.cells #[X,G,y2,y3,y4,y5,y6,y7,y8,y9,ac] 42));refine Ap ?_;intro HB;have HKb:WZ (Xj w1 w.heap.size 42 #[x0,V,x2,x3,x4,x5,x6,x7,x8,x9,ab]):=by rw [O];exact Xk Xd
 have HKa:=Hd (show Xj w1 (w.heap.size+1) 42 #[X,G,y2,y3,y4,y5,y6,y7,y8,y9,ac] from by
  rw [O];have:=Xd (w:=w.alloc (.cells #[x0,V,x2,x3,x4,x5,x6,x7,x8,x9,ab] 42)) (t:=42) (cs:= #[X,G,y2,y3,y4,y5,y6,y7,y8,y9,ac]);simpa using this)
 have HW:=Hd O;have HF:=Hd (show∀wx,Bw w1 wx->C wx w.heap.size 0 x0/\C wx w.heap.size 1 V/\C wx (w.heap.size+1) 0 X/\C wx (w.heap.size+1) 1 G from λwx U=>by
  have al:=HKb.a_ U;have Z2:=HKa.a_ U;exact ⟨al.cell 0,al.cell 1,Z2.cell 0,Z2.cell 1⟩)
 clear O;go_enter func213,ntmps213;go_upto_region 1 with fail;rw [<-HW.o];refine dm.st HF ?_;refine dm.tf 5 b_.drew [0,1,2,3,5,6,7,8] HF ?_;refine Xe 4 4 ?_;refine yK ?_;refine Xe 9 3 ?_;refine Xs ?_;refine (gD _ _ _).mono ?_;refine Lu ?_;refine Xe 10 2 ?_;refine dm.val rfl rfl (v:=S_ (X_ ⟨w1.heap.size,0,Y_⟩) 2 2) (w':=w1.drew.alloc (.cells #[I_ J_ (Fl.fx G V),I_ J_ (Xc x0 X)] 3)) f_ (b_.drew.alloc l_ _) ?_;refine Xe 11 1 ?_;refine Xs ?_;refine (jW.Gx _ 2 2 (w1.heap.size+1) [Fl.fx G V,Xc x0 X] _ ?lit d_).mono ?_
 .exact Mem.gV (w:=w1.drew) (n:=2) rfl rfl rfl
 rw [<-I.o];refine As ?_;refine dm.tg 0 (b_.drew.alloc l_ _) [12] ?_;refine dm.fi ?_;have HZ:=Hd (HB.drew.alloc (.cells #[I_ J_ (Fl.fx G V),I_ J_ (Xc x0 X)] 3));exact Au
def od (x y:gR):Int:=(([Fl.fx x.a y.a,Fl.fx x.b y.b,Fl.fx y.c x.c,Xc x.id y.id]:List Int).find? (· !=0)).getD 0
def QB (p q:gR) (w:Z'):WX Xa 181 #[A_ p.arr,A_ q.arr] w λe w'=>e=R_ (I_ J_ (od p q))/\Gr.kR w w':=by
 let ⟨x0,X,G,x3⟩:=p;let ⟨y0,V,y2,y3⟩:=q;unfold gR.arr od
 dsimp only
 let ⟨F,hF⟩:=nm (((([Fl.fx x0 y0,Fl.fx X V,Fl.fx y2 G,Xc x3 y3]:List Int).find? (· !=0)).getD 0));rw [<-hF];have ah:=Hd hF;clear hF;let ⟨w1,O⟩:=nm ((w.alloc (.cells #[x0,X,G,x3] 287)).alloc (.cells #[y0,V,y2,y3] 287));refine Ap ?_;intro HB;have HKb:WZ (Xj w1 w.heap.size 287 #[x0,X,G,x3]):=by rw [O];exact Xk Xd
 have HKa:=Hd (show Xj w1 (w.heap.size+1) 287 #[y0,V,y2,y3] from by
  rw [O];have:=Xd (w:=w.alloc (.cells #[x0,X,G,x3] 287)) (t:=287) (cs:= #[y0,V,y2,y3]);simpa using this)
 have HW:=Hd O;have HF:=Hd (show∀wx,Bw w1 wx->C wx w.heap.size 0 x0/\C wx w.heap.size 1 X/\C wx w.heap.size 2 G/\C wx w.heap.size 3 x3/\C wx (w.heap.size+1) 0 y0/\C wx (w.heap.size+1) 1 V/\C wx (w.heap.size+1) 2 y2/\C wx (w.heap.size+1) 3 y3 from λwx U=>by
  have al:=HKb.a_ U;have Z2:=HKa.a_ U;exact ⟨al.cell 0,al.cell 1,al.cell 2,al.cell 3,Z2.cell 0,Z2.cell 1,Z2.cell 2,Z2.cell 3⟩)
 clear O;go_enter func181,ntmps181;go_upto_region 1 with fail;rw [<-HW.o];refine dm.st HF ?_;refine dm.tf 7 b_.drew (u_ 0 4++u_ 5 4++u_ 10 4++u_ 15 4) HF ?_;refine Xe 4 6 ?_;refine yK ?_;refine Xe 9 5 ?_;refine yK ?_;refine Xe 14 4 ?_;refine yK ?_;refine Xe 19 3 ?_;refine Xs ?_;refine (gD _ _ _).mono ?_;refine Lu ?_;refine Xe 20 2 ?_;refine dm.val rfl rfl (v:=S_ (X_ ⟨w1.heap.size,0,Y_⟩) 4 4) (w':=w1.drew.alloc (.cells #[I_ J_ (Fl.fx x0 y0),I_ J_ (Fl.fx X V),I_ J_ (Fl.fx y2 G),I_ J_ (Xc x3 y3)] 3)) f_ (b_.drew.alloc l_ _) ?_;refine Xe 21 1 ?_;refine Xs ?_;refine (jW.Gx _ 4 4 (w1.heap.size+1) [Fl.fx x0 y0,Fl.fx X V,Fl.fx y2 G,Xc x3 y3] _ ?lit d_).mono ?_
 .exact Mem.gV (w:=w1.drew) (n:=4) rfl rfl rfl
 rw [<-ah.o];refine As ?_;refine dm.tg 0 (b_.drew.alloc l_ _) [22] ?_;refine dm.fi ?_;have HZ:=Hd (HB.drew.alloc (.cells #[I_ J_ (Fl.fx x0 y0),I_ J_ (Fl.fx X V),I_ J_ (Fl.fx y2 G),I_ J_ (Xc x3 y3)] 3));exact Au
def oj (x y:dP):Int:=(([Fl.fx x.last y.last,Xc x.id y.id]:List Int).find? (· !=0)).getD 0
def Lv (p q:dP) (w:Z'):WX Xa 225 #[A_ p.arr,A_ q.arr] w λe w'=>e=R_ (I_ J_ (oj p q))/\Gr.kR w w':=by
 let ⟨X,x1,x2,V⟩:=p;let ⟨G,y1,y2,y3⟩:=q;unfold dP.arr oj
 dsimp only
 let ⟨F,hF⟩:=nm (((([Fl.fx V y3,Xc X G]:List Int).find? (· !=0)).getD 0));rw [<-hF];have I:=Hd hF;clear hF;let ⟨w1,O⟩:=nm ((w.alloc (.cells #[X,x1,x2,V] 273)).alloc (.cells #[G,y1,y2,y3] 273));refine Ap ?_;intro HB;have HKb:WZ (Xj w1 w.heap.size 273 #[X,x1,x2,V]):=by rw [O];exact Xk Xd
 have HKa:=Hd (show Xj w1 (w.heap.size+1) 273 #[G,y1,y2,y3] from by
  rw [O];have:=Xd (w:=w.alloc (.cells #[X,x1,x2,V] 273)) (t:=273) (cs:= #[G,y1,y2,y3]);simpa using this)
 have HW:=Hd O;have HF:=Hd (show∀wx,Bw w1 wx->C wx w.heap.size 0 X/\C wx w.heap.size 3 V/\C wx (w.heap.size+1) 0 G/\C wx (w.heap.size+1) 3 y3 from λwx U=>by
  have al:=HKb.a_ U;have Z2:=HKa.a_ U;exact ⟨al.cell 0,al.cell 3,Z2.cell 0,Z2.cell 3⟩)
 clear O;go_enter func225,ntmps225;go_upto_region 1 with fail;rw [<-HW.o];refine dm.st HF ?_;refine dm.tf 5 b_.drew [0,1,2,3,5,6,7,8] HF ?_;refine Xe 4 4 ?_;refine yK ?_;refine Xe 9 3 ?_;refine Xs ?_;refine (gD _ _ _).mono ?_;refine Lu ?_;refine Xe 10 2 ?_;refine dm.val rfl rfl (v:=S_ (X_ ⟨w1.heap.size,0,Y_⟩) 2 2) (w':=w1.drew.alloc (.cells #[I_ J_ (Fl.fx V y3),I_ J_ (Xc X G)] 3)) f_ (b_.drew.alloc l_ _) ?_;refine Xe 11 1 ?_;refine Xs ?_;refine (jW.Gx _ 2 2 (w1.heap.size+1) [Fl.fx V y3,Xc X G] _ ?lit d_).mono ?_
 .exact Mem.gV (w:=w1.drew) (n:=2) rfl rfl rfl
 rw [<-I.o];refine As ?_;refine dm.tg 0 (b_.drew.alloc l_ _) [12] ?_;refine dm.fi ?_;have HZ:=Hd (HB.drew.alloc (.cells #[I_ J_ (Fl.fx V y3),I_ J_ (Xc X G)] 3));exact Au
end Tw
end
section
def Fl.float {W:Z'} (h:Xb P W t cs) (G:P.underlying t=X_ (.float .f64)): ∃b:Nat,cs=[.float .f64 b]/\b<18446744073709551616:=by
 obtain ⟨H,enc,n,x,h⟩:=h;cases n with
 |zero=>simp [DataW.trod] at h
 |succ m=>
  rw [DataW.trod_step] at h;unfold DataW.trodStep at h;rw [G] at h;split at h
  all_goals first|(simp at h;done)|skip
  all_goals (try (exfalso;simp_all;done))
  rename_i k k' b he
  split at h
  .rename_i hc
   obtain ⟨rfl,F⟩:=hc;cases he;exact ⟨b,rfl,by simpa [Lit.wf] using F⟩
  .cases h
end
section
open _root_.Go.Proofs.Tryz
structure iN where
 id:ByteArray
 sA:Nat
 sB:Nat
 sC:Nat
namespace iN
def cells (p:iN):List WW:=[T_ p.id,.float .f64 p.sA,.float .f64 p.sB,.float .f64 p.sC]
structure ok (p:iN):Prop where
 id:p.id.size<=maxLen
 sA:p.sA<18446744073709551616
 sB:p.sB<18446744073709551616
 sC:p.sC<18446744073709551616
structure gG (w:Z') (B:Nat) (p:iN):Prop where
section
variable {W:Z'}
def kY (h:Xb Xa W 138 cs): ∃p:iN,cs=p.cells/\p.ok/\gG W W.heap.size p:=by
 let ⟨hl,hf⟩:=h.struct underlying138;have cN:(Xa).cellsOf 138=4:=k_;have c_1:(Xa).cellsOf 44=3:=k_;have c_2:(Xa).cellsOf 43=1:=k_;have ae:(Xa).cellsOf 9=1:=k_;rw [cN] at hl
 match cs,hl with
 |[a0,a1,a2,a3],_=>
  have f0:Xb Xa W 9 [a0]:=by simpa [ae] using hf 0 _ rfl
  let ⟨x0,e0,b0⟩:=f0.string underlying9;have f1:Xb Xa W 44 [a1,a2,a3]:=by simpa [c_1] using hf 1 _ rfl
  let ⟨_,g1⟩:=f1.array underlying44;rw [c_2] at g1;let ⟨x1_0,e1_0,b1_0⟩:=Fl.float (g1 0 d_) underlying43;let ⟨V,I,ab⟩:=Fl.float (g1 1 d_) underlying43;let ⟨X,G,O⟩:=Fl.float (g1 2 d_) underlying43;simp only [List.drop_zero,Xn,Xm,List.take_zero,Nat.zero_mul,Nat.one_mul,Nat.mul_one,Nat.reduceMul] at e1_0 I G;simp only [Xl,and_true] at e0 e1_0 I G;subst e0 e1_0 I G;exact ⟨⟨x0,x1_0,V,X⟩,rfl,⟨b0,b1_0,ab,O⟩,⟨⟩⟩
def flat (ps:List iN):List WW:=(ps.map cells).flatten
def iM (h:Xb Xa W 45 cs):
  ∃(A:Option WY) (n c:Nat) (ps:List iN),cs=[S_ A n c]/\n<=c/\c<=maxLen/\ps.length=n/\(∀p∈ps,p.ok/\gG W W.heap.size p)/\Xf W W.heap.size 4 A n (flat ps):=
 Gv.sd (ok:=λp=>p.ok/\gG W W.heap.size p) (λ_=>kY) h (by exact k_) k_ o_
end
structure At (w:Z') (ad:WY) (p:iN):Prop where
 c0:w.cell? ad=X_ (T_ p.id)
 c1:Ca w ad 1 (.float .f64 p.sA)
 c2:Ca w ad 2 (.float .f64 p.sB)
 c3:Ca w ad 3 (.float .f64 p.sC)
def at_ {B:Nat} {ps:List iN} (h:Xf w B 4 A n (flat ps)) (hk:k<n):
  ∃(ad:WY) (hl:k<ps.length),A=X_ ad/\ad.block<B/\(ad.add (k*4)).block<B/\At w (ad.add (k*4)) ps[k]:=
 let ⟨ad,hl,a,b,c,d,e⟩:=Gv.at_ cells h hk;⟨ad,hl,a,b,c,⟨d,e 1,e 2,e 3⟩⟩
end iN
structure gj where
 time:Int
 pX:Nat
 pY:Nat
 pZ:Nat
 use:List iN
 mG:Option WY
 kX:Nat
 mH:Nat
namespace gj
def ia (n:Int):Prop:= -9223372036854775808<=n/\n<=9223372036854775807
def arr (p:gj):Array WW:= #[I_ J_ p.time,.float .f64 p.pX,.float .f64 p.pY,.float .f64 p.pZ,S_ p.mG p.kX p.mH]
def cells (p:gj):List WW:=[I_ J_ p.time,.float .f64 p.pX,.float .f64 p.pY,.float .f64 p.pZ,S_ p.mG p.kX p.mH]
structure ok (p:gj):Prop where
 time:ia p.time
 pX:p.pX<18446744073709551616
 pY:p.pY<18446744073709551616
 pZ:p.pZ<18446744073709551616
 use:p.kX<=p.mH/\p.mH<=maxLen/\p.use.length=p.kX/\ ∀a∈p.use,a.ok
structure gG (w:Z') (B:Nat) (p:gj):Prop where
 use:Xf w B 4 p.mG p.kX (iN.flat p.use)
def gG.below {B:Nat} {p:gj} (h:gG w B p) (hb:Below B w w'):gG w' B p:=⟨h.use.below hb⟩
def gG.more {B:Nat} {p:gj} (h:gG w B p) (hb:B<=B'):gG w B' p:=⟨h.use.more hb⟩
section
variable {W:Z'}
def kY (h:Xb Xa W 47 cs): ∃p:gj,cs=p.cells/\p.ok/\gG W W.heap.size p:=by
 let ⟨hl,hf⟩:=h.struct underlying47;have cN:(Xa).cellsOf 47=5:=k_;have c_0:(Xa).cellsOf 45=1:=k_;have c_1:(Xa).cellsOf 44=3:=k_;have c_2:(Xa).cellsOf 43=1:=k_;have c_3:(Xa).cellsOf 3=1:=k_;rw [cN] at hl
 match cs,hl with
 |[a0,a1,a2,a3,a4],_=>
  have f0:Xb Xa W 3 [a0]:=by simpa [c_3] using hf 0 _ rfl
  let ⟨x0,e0,b0⟩:=f0.int underlying3;have f1:Xb Xa W 44 [a1,a2,a3]:=by simpa [c_1] using hf 1 _ rfl
  let ⟨_,g1⟩:=f1.array underlying44;rw [c_2] at g1;let ⟨x1_0,e1_0,b1_0⟩:=Fl.float (g1 0 d_) underlying43;let ⟨x1_1,e1_1,b1_1⟩:=Fl.float (g1 1 d_) underlying43;let ⟨x1_2,e1_2,b1_2⟩:=Fl.float (g1 2 d_) underlying43;have f2:Xb Xa W 45 [a4]:=by simpa [c_0] using hf 2 _ rfl
  let ⟨A2,n2,c2,x2,e2,b2,b2',b2'',b2''',l2⟩:=iN.iM f2;simp only [List.drop_zero,Xn,Xm,List.take_zero,Nat.zero_mul,Nat.one_mul,Nat.mul_one,Nat.reduceMul] at e1_0 e1_1 e1_2;simp only [Xl,and_true] at e0 e1_0 e1_1 e1_2 e2;subst e0 e1_0 e1_1 e1_2 e2;exact ⟨⟨x0,x1_0,x1_1,x1_2,x2,A2,n2,c2⟩,rfl,⟨Xt b0,b1_0,b1_1,b1_2,⟨b2,b2',b2'',λa ha=>(b2''' a ha).1⟩⟩,⟨l2⟩⟩
end
end gj
structure dI where
 kd:Int
 dC:dz
 id:ByteArray
 raw:gj
 eD:List Bool
 ky:Option WY
 gU:Nat
 kz:Nat
 steps:Int
 dy:List Int
 kB:Option WY
 gN:Nat
 kC:Nat
namespace dI
def ia (n:Int):Prop:= -9223372036854775808<=n/\n<=9223372036854775807
def arr (p:dI):Array WW:= #[I_ J_ p.kd,T_ p.dC.id,I_ J_ p.dC.prio,B_ p.dC.fB,I_ J_ p.dC.r0,I_ J_ p.dC.r1,I_ J_ p.dC.r2,I_ J_ p.dC.l0,I_ J_ p.dC.l1,I_ J_ p.dC.l2,T_ p.dC.eO,I_ J_ p.dC.size,T_ p.id,I_ J_ p.raw.time,.float .f64 p.raw.pX,.float .f64 p.raw.pY,.float .f64 p.raw.pZ,S_ p.raw.mG p.raw.kX p.raw.mH,S_ p.ky p.gU p.kz,I_ J_ p.steps,S_ p.kB p.gN p.kC]
def cells (p:dI):List WW:=[I_ J_ p.kd,T_ p.dC.id,I_ J_ p.dC.prio,B_ p.dC.fB,I_ J_ p.dC.r0,I_ J_ p.dC.r1,I_ J_ p.dC.r2,I_ J_ p.dC.l0,I_ J_ p.dC.l1,I_ J_ p.dC.l2,T_ p.dC.eO,I_ J_ p.dC.size,T_ p.id,I_ J_ p.raw.time,.float .f64 p.raw.pX,.float .f64 p.raw.pY,.float .f64 p.raw.pZ,S_ p.raw.mG p.raw.kX p.raw.mH,S_ p.ky p.gU p.kz,I_ J_ p.steps,S_ p.kB p.gN p.kC]
structure ok (p:dI):Prop where
 kd:ia p.kd
 dC:p.dC.ok
 id:p.id.size<=maxLen
 raw:p.raw.ok
 eD:p.gU<=p.kz/\p.kz<=maxLen/\p.eD.length=p.gU/\ ∀a∈p.eD,True
 steps:ia p.steps
 dy:p.gN<=p.kC/\p.kC<=maxLen/\p.dy.length=p.gN/\ ∀a∈p.dy,ia a
structure gG (w:Z') (B:Nat) (p:dI):Prop where
 raw:gj.gG w B p.raw
 eD:Xf w B 1 p.ky p.gU (p.eD.map Value.bool)
 dy:Xf w B 1 p.kB p.gN (p.dy.map (Value.int .i64))
def gG.below {B:Nat} {p:dI} (h:gG w B p) (hb:Below B w w'):gG w' B p:=⟨h.raw.below hb,h.eD.below hb,h.dy.below hb⟩
def gG.more {B:Nat} {p:dI} (h:gG w B p) (hb:B<=B'):gG w B' p:=⟨h.raw.more hb,h.eD.more hb,h.dy.more hb⟩
section
variable {W:Z'}
def kY (h:Xb Xa W 51 cs): ∃p:dI,cs=p.cells/\p.ok/\gG W W.heap.size p:=by
 let ⟨hl,F⟩:=h.struct underlying51;have cN:(Xa).cellsOf 51=21:=k_;have aA:(Xa).cellsOf 48=1:=k_;have au:(Xa).cellsOf 49=1:=k_;have al:(Xa).cellsOf 3=1:=k_;have av:(Xa).cellsOf 9=1:=k_;have az:(Xa).cellsOf 42=11:=k_;have aB:(Xa).cellsOf 47=5:=k_;rw [cN] at hl
 match cs,hl with
 |[a0,a1,a2,a3,a4,a5,a6,a7,a8,a9,a10,a11,a12,a13,a14,a15,a16,a17,a18,a19,a20],_=>
  have f0:Xb Xa W 3 [a0]:=by simpa [al] using F 0 _ rfl
  let ⟨x0,e0,b0⟩:=f0.int underlying3;have f1:Xb Xa W 42 [a1,a2,a3,a4,a5,a6,a7,a8,a9,a10,a11]:=by simpa [az] using F 1 _ rfl
  let ⟨x1,e1,b1⟩:=dz.kY f1;have f2:Xb Xa W 9 [a12]:=by simpa [av] using F 2 _ rfl
  let ⟨x2,e2,b2⟩:=f2.string underlying9;have f3:Xb Xa W 47 [a13,a14,a15,a16,a17]:=by simpa [aB] using F 3 _ rfl
  let ⟨x3,e3,b3,l3⟩:=gj.kY f3;have f4:Xb Xa W 48 [a18]:=by simpa [aA] using F 4 _ rfl
  let ⟨A4,n4,c4,x4,e4,b4,ay,af,O,l4⟩:=f4.Td underlying48 underlying4 k_;have f5:Xb Xa W 3 [a19]:=by simpa [al] using F 5 _ rfl
  let ⟨x5,e5,b5⟩:=f5.int underlying3;have f6:Xb Xa W 49 [a20]:=by simpa [au] using F 6 _ rfl
  let ⟨A6,n6,c6,x6,e6,b6,aC,X,I,l6⟩:=f6.ints underlying49 underlying3 k_;simp only [dz.cells,gj.cells] at e1 e3;simp only [Xl,and_true] at e0 e1 e2 e3 e4 e5 e6;let ⟨ao,ae,U,ap,am,ag,ai,ac,V,aa,G⟩:=e1;let ⟨ab,ar,ak,ah,an⟩:=e3;subst e0 ao ae U ap am ag ai ac V aa G e2 ab ar ak ah an e4 e5 e6;exact ⟨⟨x0,x1,x2,x3,x4,A4,n4,c4,x5,x6,A6,n6,c6⟩,rfl,⟨Xt b0,b1,b2,b3,⟨b4,ay,af,O⟩,Xt b5,⟨b6,aC,X,λa ha=>Xt (I a ha)⟩⟩,⟨l3,l4,l6⟩⟩
def flat (ps:List dI):List WW:=(ps.map cells).flatten
def iM (h:Xb Xa W 26 cs):
  ∃(A:Option WY) (n c:Nat) (ps:List dI),cs=[S_ A n c]/\n<=c/\c<=maxLen/\ps.length=n/\(∀p∈ps,p.ok/\gG W W.heap.size p)/\Xf W W.heap.size 21 A n (flat ps):=
 Gv.sd (ok:=λp=>p.ok/\gG W W.heap.size p) (λ_=>kY) h (by exact k_) k_ o_
def of_slice (h:Frame.Arg Xa W 26 v):
  ∃(A:Option WY) (n c:Nat) (ps:List dI),v=S_ A n c/\n<=c/\c<=maxLen/\ps.length=n/\(∀p∈ps,p.ok/\gG W W.heap.size p)/\Xf W W.heap.size 21 A n (flat ps):=Gv.sv h underlying26 (iM h.qa)
end
structure At (w:Z') (ad:WY) (p:dI):Prop where
 c0:w.cell? ad=X_ (I_ J_ p.kd)
 c1:Ca w ad 1 p.dC.id
 c2:Ca w ad 2 p.dC.prio
 c3:Ca w ad 3 p.dC.fB
 c4:Ca w ad 4 p.dC.r0
 c5:Ca w ad 5 p.dC.r1
 c6:Ca w ad 6 p.dC.r2
 c7:Ca w ad 7 p.dC.l0
 c8:Ca w ad 8 p.dC.l1
 c9:Ca w ad 9 p.dC.l2
 lM:Ca w ad 10 p.dC.eO
 pv:Ca w ad 11 p.dC.size
 SL:Ca w ad 12 p.id
 SM:Ca w ad 13 p.raw.time
 SN:Ca w ad 14 (.float .f64 p.raw.pX)
 SO:Ca w ad 15 (.float .f64 p.raw.pY)
 SP:Ca w ad 16 (.float .f64 p.raw.pZ)
 SQ:Ca w ad 17 (S_ p.raw.mG p.raw.kX p.raw.mH)
 PC:Ca w ad 18 (S_ p.ky p.gU p.kz)
 Ws:Ca w ad 19 p.steps
 PD:Ca w ad 20 (S_ p.kB p.gN p.kC)
def at_ {B:Nat} {ps:List dI} (h:Xf w B 21 A n (flat ps)) (hk:k<n):
  ∃(ad:WY) (hl:k<ps.length),A=X_ ad/\ad.block<B/\(ad.add (k*21)).block<B/\At w (ad.add (k*21)) ps[k]:=
 let ⟨ad,hl,a,b,c,d,e⟩:=Gv.at_ cells h hk;⟨ad,hl,a,b,c,⟨d,e 1,e 2,e 3,e 4,e 5,e 6,e 7,e 8,e 9,e 10,e 11,e 12,e 13,e 14,e 15,e 16,e 17,e 18,e 19,e 20⟩⟩
def At.below {B:Nat} {p:dI} (h:At w ad p) (G:Below B w w') (F:ad.block<B):At w' ad p:=by
 exact vI
end dI
end
section
open _root_.Go.Proofs.Tryz
namespace Ta
open Wo
def oX (h:a.toList=b.toList):a=b:=Go.WideShapes.bytes_inj (by rw [<-Lib.toList_data,<-Lib.toList_data];exact h)
def VU (l:List dq) (s:ByteArray) (r:Int):Prop:=(∃(i:Nat) (h:i<l.length),r=(i:Int)/\l[i].dC.id=s/\ ∀(j:Nat) (hj:j<i),l[j].dC.id≠s)\/(r= -1/\ ∀e∈l,e.dC.id≠s)
def JQ (r:Int) (A:Option WY) (n c:Nat) (o0 o1 o2:Bool) (l:List dq) (s:ByteArray) (w:Z') (h:Xf w w.heap.size 12 A n (dq.flat l)) (ai:l.length=n) (hn:n<=1000000):
  WX Xa 11 #[A_ (gF r A n c o0 o1 o2),s] w λe w'=>(∃x,e=R_ (I_ J_ x)/\VU l s x)/\Bw w w':=by
 have O:Bw w (w.alloc (.cells (gF r A n c o0 o1 o2) 34)):=dL;have HK:WZ (Xj (w.alloc (.cells (gF r A n c o0 o1 o2) 34)) w.heap.size 34 (gF r A n c o0 o1 o2)):=Xd;have H:=Hd ((h.below O).more O.size);have ab:=Hd O;unfold gF at*;clear h O;have m1:=HK.o.cell 1
 replace m1:(w.alloc (.cells #[r,S_ A n c,o0,o1,o2] 34)).cell? ⟨w.heap.size,1,Y_⟩=X_ (S_ A n c):=m1
 go_enter func11,ntmps11;go_wp2;generalize w.alloc (.cells #[r,S_ A n c,o0,o1,o2] 34)=w1 at*
 go_loop [5] (λvi=> ∃k:Nat,k<=n/\vi=I_ J_ k/\WZ (∀(j:Nat) (G:j<l.length),j<k->l[j].dC.id≠s)) (λi=>n - (intOf i).toNat)
 .exact ⟨0,o_,rfl,Hd λj _ h=>absurd h o_⟩
 .obtain ⟨k,hk,rfl,bc⟩:=hrel
  by_cases aa:k<n
  .obtain ⟨ad,hl,rfl,_,_,I⟩:=dq.at_ H.o aa
   have HE:WZ (∃q,q=l[k]):=⟨_,rfl⟩;let ⟨q,hq⟩:=HE.o;rw [<-hq] at I;have bn:=Hd hq;clear hq HE;let ⟨⟨V,q1,q2,q3,q4,q5,q6,q7,q8,q9,q10⟩,q11⟩:=q;have c0:=I.c0
   dsimp only at c0
   clear I;refine sy ?_;intro d0;by_cases he:V=s
   .have hx:(V.toList==s.toList)=Y':=by rw [he];simp
    have HF:WZ (VU l s k):= .inl ⟨k,hl,rfl,by rw [<-bn.o];exact he,λj G=>bc.o j o_ G⟩;clear he;go_wp2;go_ret;exact ⟨⟨_,rfl,HF.o⟩,ab.o⟩
   .have hx:(V.toList==s.toList)=Z_:=beq_eq_false_iff_ne.2 (λe=>he (oX e))
    have X:WZ (∀(j:Nat) (G:j<l.length),j<k+1->l[j].dC.id≠s):=λj G h=>by
     obtain h|rfl:=Xh (Xi h)
     .exact bc.o j G h
     .rw [<-bn.o];exact he
    have hw:=fh (n:=(k:Int)+1) o_ o_;clear he bc bn;go_wp2
    go_round
    .exact ⟨k+1,o_,by go_num,X⟩
    .simp [intOf];omega
  .obtain rfl:k=n:=o_
   refine zt ?_;intro d0;have HF:WZ (VU l s (-1)):=(.inr ⟨rfl,λe F=>by
    obtain ⟨j,G,rfl⟩:=Xg F;exact bc.o j G o_⟩)
   go_wp2;go_ret;exact ⟨⟨_,rfl,HF.o⟩,ab.o⟩
def Qv:Mem.El Xa 52 9 (T_ ⟨#[]⟩) 1 16:=⟨underlying52,k_,rfl,d_⟩
abbrev mL (w:Z') (A:Option WY) (n c:Nat) (l:List ByteArray):Prop:=Ro.Row w 9 1 A n c (l.map Xo)
def VV (l:List ByteArray) (w:Z') (e:Ending) (w':Z'):Prop:= ∃A' c',e=R_ (S_ A' l.length c')/\mL w' A' l.length c' l/\Bw w w'/\ ∀b,Ro.dr A'=X_ b->w.heap.size<=b
def JP (A:Option WY) (n c:Nat) (l:List dq) (w:Z') (h:Xf w w.heap.size 12 A n (dq.flat l)) (I:l.length=n) (hn:n<=10000):
  WX Xa 10 #[S_ A n c] w (VV (l.map λe=>e.dC.eO) w):=by
 have H:=Hd h;clear h;go_enter func10,ntmps10;go_wp2;go_loopw [3,4] (λvo vi wr=> ∃(k:Nat) (A':Option WY) (c':Nat),k<=n/\vi=I_ J_ k/\vo=S_ A' k c'/\WZ (eF w wr 9 1 A' k c' ((l.take k).map λe=>Xo e.dC.eO))) (λ_ i _=>n - (intOf i).toNat)
 .exact zU
 .obtain ⟨k,A',c',hk,rfl,rfl,G⟩:=hrel
  by_cases b5:k<n
  .obtain ⟨ad,hl,rfl,aa,O,X⟩:=dq.at_ H b5
   have F:=X.below G.below O;have HS:=Hd (Mem.dQ l k hl);have hb:=G.o;generalize l[k]=q at*;let ⟨⟨qi,q1,q2,q3,q4,q5,q6,q7,q8,q9,ab⟩,ao⟩:=q;have c9:=F.c9
   dsimp only at c9
   refine sy ?_;intro d0;have hw:=fh (n:=(k:Int)+1) o_ o_;obtain ⟨A2,bd,w2,hr,V,-⟩:=hb.push Qv #[q9] rfl v_ o_ d_ rfl;have bZ:WZ (eF w w2 9 1 A2 (k+1) bd ((l.take (k+1)).map λe=>Xo e.dC.eO)):=by rw [HS.o,List.map_append];exact V
   clear X F hl aa O hb V HS G;refine pN ?_;exact Fw
  .obtain rfl:k=n:=o_
   refine zt ?_;intro d0;have HR:WZ (mL wr A' (l.map λe=>e.dC.eO).length c' (l.map λe=>e.dC.eO)):=(by
    have:=G.o.row;rw [t_ o_] at this;unfold mL;rw [List.map_map,Xr,I];exact this)
   go_wp2;go_ret;have ac:(l.map λe=>e.dC.eO).length=k:=by rw [Xr];exact I
   exact ⟨A',c',by rw [ac];rfl,HR,G.below,G.fresh⟩
def Lm (P:Prop) (W:Z') (e:Ending) (w':Z'):Prop:= ∃b,e=R_ (B_ b)/\(b=Y'->P)/\Bw W w'
def Cy (r:gj):Prop:=r.use.length<=140/\ ∀u∈r.use,u.id.size<=60
def Ln (r:gj) (w:Z') (h:gj.gG w w.heap.size r) (ho:r.ok):WX Xa 33 #[A_ r.arr] w (Lm (Cy r) w):=by
 have hB:Bw w (w.alloc (.cells r.arr 47)):=dL;have hK:WZ (Xj (w.alloc (.cells r.arr 47)) w.heap.size 47 r.arr):=Xd;have H:=Hd ((h.use.below hB).more hB.size);have L1:=Hd hB;obtain ⟨hnc,ah,ar,-⟩:=ho.use;unfold maxLen at ah;obtain ⟨F,hF⟩: ∃F:Prop,F=Cy r:=⟨_,rfl⟩;rw [<-hF];unfold Cy at hF;have HF:=Hd hF;clear h hB ho hF;let ⟨I,a0,a1,a2,us,A,n,c⟩:=r;unfold gj.arr at*
 dsimp only at*
 have m4:(w.alloc (.cells #[I,.float .f64 a0,.float .f64 a1,.float .f64 a2,S_ A n c] 47)).cell? ⟨w.heap.size,4,Y_⟩=X_ (S_ A n c):=hK.cell 4;go_enter func33,ntmps33;go_wp2;generalize w.alloc (.cells #[I,.float .f64 a0,.float .f64 a1,.float .f64 a2,S_ A n c] 47)=w1 at*
 go_loop [3] (λvi=> ∃k:Nat,k<=n/\k<=200/\vi=I_ J_ k/\WZ (∀(j:Nat) (U:j<us.length),j<k->us[j].id.size<=60)) (λi=>n - (intOf i).toNat)
 .exact ⟨0,o_,o_,rfl,Hd λj _ h=>absurd h o_⟩
 .obtain ⟨k,hk,hk2,rfl,HN⟩:=hrel
  by_cases ab:k<n/\k<200
  .let ⟨ab,ao⟩:=ab
   obtain ⟨ad,hl,rfl,_,_,V⟩:=iN.at_ H ab;have c0:=V.c0;let ⟨qi,O⟩:=nm (us[k].id);rw [<-O] at c0;have HQ:=Hd O;clear V O;refine sy ?_;intro d0;have d1:decide ((k:Int)<200)=Y':=dT;by_cases hs:qi.size<=60
   .have d2:decide ((qi.size:Int)>60)=Z_:=dF
    have ai:WZ (∀(j:Nat) (U:j<us.length),j<k+1->us[j].id.size<=60):=λj U h=>by
     obtain h|rfl:=Xh (Xi h)
     .exact HN j U h
     .rw [<-HQ.o];exact hs
    have hw:=fh (n:=(k:Int)+1) o_ o_;clear hs HN HQ;go_wp2
    go_round
    .exact ⟨k+1,o_,o_,by go_num,ai⟩
    .simp [intOf];omega
   .have d2:decide ((qi.size:Int)>60)=Y':=dT
    clear hs;exact kO
  .have aa:(n<=k)\/(k<n/\200<=k):=o_
   have al:WZ (n<=140->F):=(λh=>by
    rw [HF.o];refine ⟨o_,λu hu=>?_⟩;obtain ⟨j,U,rfl⟩:=Xg hu;exact HN j U o_)
   clear ab HN HF;obtain ak|⟨ab,ak⟩:=aa
   .by_cases X:n<=140
    .go_wp2
     go_ret;exact ⟨_,rfl,λ_=>al X,L1⟩
    .go_wp2
     go_ret;exact ⟨_,rfl,λh=>absurd (of_decide_eq_true h) o_,L1⟩
   .have X: ¬n<=140:=o_
    go_wp2;go_ret;exact ⟨_,rfl,λh=>absurd (of_decide_eq_true h) o_,L1⟩
structure Gp (x:dI):Prop where
 pid:x.dC.id.size<=60
 eO:x.dC.eO.size<=60
 id:x.id.size<=60
 raw:Cy x.raw
 eD:x.gU<=60
 dy:x.gN<=60
def Gq (l:List dI):Prop:=l.length<=60/\ ∀x∈l,Gp x
def Gs {p:Prop} (h:p:=by
 go_wp2_with fail;go_ret;exact ⟨false,rfl,λh=>(by cases h),V⟩):p:=h
def Qx (A:Option WY) (n c:Nat) (l:List dI) (w:Z') (h:Xf w w.heap.size 21 A n (dI.flat l)) (hl: ∀x∈l,x.ok/\dI.gG w w.heap.size x) (aM:l.length=n) (hn:n<=maxLen):
  WX Xa 20 #[S_ A n c] w (Lm (Gq l) w):=by
 have H:=Hd h;have HL:=Hd hl;unfold maxLen at hn;obtain ⟨F,hF⟩: ∃F:Prop,F=Gq l:=⟨_,rfl⟩;rw [<-hF];unfold Gq at hF;have HF:=Hd hF;clear h hl hF;go_enter func20,ntmps20;go_wp2;go_loopw [3] (λvi wr=> ∃k:Nat,k<=n/\k<=100/\vi=I_ J_ k/\WZ (Bw w wr)/\WZ (∀(j:Nat) (U:j<l.length),j<k->Gp l[j])) (λi _=>n - (intOf i).toNat)
 .exact ⟨0,o_,o_,rfl,Hd b_,Hd λj _ h=>absurd h o_⟩
 .obtain ⟨k,hk,hk2,rfl,V,HN⟩:=hrel
  by_cases ab:k<n/\k<100
  .let ⟨ab,aL⟩:=ab
   obtain ⟨ad,az,rfl,hb,hb2,G⟩:=dI.at_ (H.below V) ab;let ⟨ak,aa⟩:=HL _ (g_ az);have HR:=Hd (λX (hX:Bw w X)=>Ln l[k].raw X ((aa.raw.below hX).more hX.size) ak.raw);have c1:=G.c1;have lM:=G.lM;have SL:=G.SL;have SM:=G.SM;have SN:=G.SN;have SO:=G.SO;have SP:=G.SP;have SQ:=G.SQ;have PC:=G.PC;have PD:=G.PD;have ah:WZ (l[k].dC.id.size<=60->l[k].dC.eO.size<=60->l[k].id.size<=60->Cy l[k].raw->l[k].gU<=60->l[k].gN<=60->Gp l[k]):=λa b c d e f=>⟨a,b,c,d,e,f⟩
   obtain ⟨I,hU⟩: ∃I:Prop,I=Cy l[k].raw:=⟨_,rfl⟩;obtain ⟨D,hD⟩: ∃D:Prop,D=Gp l[k]:=⟨_,rfl⟩;have bn:=Hd hD;rw [<-hU,<-hD] at ah;have ao:WZ (∀X,Bw w X->WX Xa 33 #[A_ #[I_ J_ l[k].raw.time,.float .f64 l[k].raw.pX,.float .f64 l[k].raw.pY,.float .f64 l[k].raw.pZ,.slice l[k].raw.mG l[k].raw.kX l[k].raw.mH]] X (Lm I X)):=λX hX=>by rw [hU];exact HR X hX
   clear HR hU hD G ak aa;generalize l[k].dC.id=s1 at*;generalize l[k].dC.eO=s2 at*;generalize l[k].id=s3 at*;generalize l[k].raw.time=r0 at*;generalize l[k].raw.pX=r1 at*;generalize l[k].raw.pY=r2 at*;generalize l[k].raw.pZ=r3 at*;generalize l[k].raw.mG=r4 at*;generalize l[k].raw.kX=r5 at*;generalize l[k].raw.mH=r6 at*;generalize l[k].ky=a1 at*;generalize l[k].gU=n1 at*;generalize l[k].kz=k1 at*;generalize l[k].kB=a2 at*;generalize l[k].gN=n2 at*;generalize l[k].kC=k2 at*;refine sy ?_;intro d0;have d1:decide ((k:Int)<100)=Y':=dT;have ag:(s1.size<=60/\s2.size<=60/\s3.size<=60)\/(¬s1.size<=60)\/(s1.size<=60/\ ¬s2.size<=60)\/(s1.size<=60/\s2.size<=60/\ ¬s3.size<=60):=o_;obtain ⟨he,cj,h3⟩|he|⟨he,cj⟩|⟨he,cj,h3⟩:=ag
   .have e1:decide ((s1.size:Int)>60)=Z_:=dF
    have e2:decide ((s2.size:Int)>60)=Z_:=dF;have e3:decide ((s3.size:Int)>60)=Z_:=dF;have aw:=Hd (ah he cj h3);clear he cj h3 ah;go_wp2_with fail;refine (ao _ V).mono ?_;rintro e w2 ⟨b,rfl,(aC:WZ _),ae⟩;have L1:=Hd (V.trans (ae.mono V.size));have x18:w2.cell? {block:=(ad.add (k*21)).block,off:=(ad.add (k*21)).off+18}=X_ (S_ a1 n1 k1):=(ae.cell (Mem.iA PC)).trans PC;have x20:w2.cell? {block:=(ad.add (k*21)).block,off:=(ad.add (k*21)).off+20}=X_ (S_ a2 n2 k2):=(ae.cell (Mem.iA PD)).trans PD;clear ao V c1 lM SL SM SN SO SP SQ PC PD ae e1 e2 e3;cases b with
    |false=>
     exact kO
    |true=>
     have ay:=Hd (aw (aC rfl));have ag:(n1<=60/\n2<=60)\/(¬n1<=60)\/(n1<=60/\ ¬n2<=60):=o_;obtain ⟨he,cj⟩|he|⟨he,cj⟩:=ag
     .have e1:decide ((n1:Int)>60)=Z_:=dF
      have e2:decide ((n2:Int)>60)=Z_:=dF;have aG:=Hd (ay he cj);have ax:WZ (∀(j:Nat) (U:j<l.length),j<k+1->Gp l[j]):=λj U h=>by
       obtain h|rfl:=Xh (Xi h)
       .exact HN j U h
       .rw [<-bn.o];exact aG
      have hw:=fh (n:=(k:Int)+1) o_ o_;clear he cj HN;go_wp2;go_roundw
      .exact ⟨k+1,o_,o_,by go_num,L1,ax⟩
      .simp [intOf];omega
     .have e1:decide ((n1:Int)>60)=Y':=dT
      clear he;exact kO
     .have e1:decide ((n1:Int)>60)=Z_:=dF
      have e2:decide ((n2:Int)>60)=Y':=dT;clear he cj;exact kO
   .have e1:decide ((s1.size:Int)>60)=Y':=dT
    clear he;exact Gs
   .have e1:decide ((s1.size:Int)>60)=Z_:=dF
    have e2:decide ((s2.size:Int)>60)=Y':=dT;clear he cj;exact Gs
   .have e1:decide ((s1.size:Int)>60)=Z_:=dF
    have e2:decide ((s2.size:Int)>60)=Z_:=dF;have e3:decide ((s3.size:Int)>60)=Y':=dT;clear he cj h3;exact Gs
  .have aa:(n<=k)\/(k<n/\100<=k):=o_
   have aE:WZ (n<=60->F):=(λh=>by
    rw [HF.o];refine ⟨o_,λu hu=>?_⟩;obtain ⟨j,U,rfl⟩:=Xg hu;exact HN j U o_)
   clear ab HN HF;obtain ak|⟨ab,ak⟩:=aa
   .by_cases al:n<=60
    .go_wp2
     go_ret;exact ⟨_,rfl,λ_=>aE al,V⟩
    .go_wp2
     go_ret;exact ⟨_,rfl,λh=>absurd (of_decide_eq_true h) o_,V⟩
   .have al: ¬n<=60:=o_
    go_wp2;go_ret;exact ⟨_,rfl,λh=>absurd (of_decide_eq_true h) o_,V⟩
end Ta
end
section
open _root_.Go.Proofs.Tryz
namespace SI
def cls (p:dz):Int:=
 if p.r0=0/\p.r1=0/\p.r2=0/\p.l0=0/\p.l1=0/\p.l2=0 then 3
 else if p.l0=0\/p.l0≠p.r0\/p.l1=0\/p.l1≠p.r1 then 2 else 1
def tu (p:dz) (W:Z') (e:Ending) (w':Z'):Prop:=e=R_ (I_ J_ (cls p))/\Bw W w'
def QZ {p:Prop} (k:q) (h:Wq q->p:=by
 intro kq;go_wp2_with fail;refine dm.start (S:=(λw'=>Mem.c_ w' w.heap.size 42 #[id,U,I,r0,r1,r2,X,V,l2,ah,size])) k_ ?_;refine dm.tk 0 O.drew (u_ 0 16) ?_
 iterate 16 (refine dm.dG rfl (λK' F=>?_);go_simp;(first|refine F _ ?_;clear F K'|constructor;refine ⟨λwx G=>?_,F _ ?_⟩;(first|rfl|(have cl:C wx w.heap.size 6 X:=G.cell 6;have cr:C wx w.heap.size 3 r0:=G.cell 3;go_simp<;>rfl));clear F K'))
 refine dm.ee ?_;refine dm.fi ?_;go_wp2_with fail;exact kq.o):p:=h ⟨k⟩
def Q_ {p:Prop} (k:q) (h:Wq q->p:=by
 intro kq;go_wp2_with fail;refine dm.start (S:=(λw'=>Mem.c_ w' w.heap.size 42 #[id,U,I,r0,r1,r2,X,V,l2,ah,size])) k_ ?_;refine dm.tk 0 O.drew (u_ 0 16) ?_
 iterate 16 (refine dm.dG rfl (λK' F=>?_);go_simp;(first|refine F _ ?_;clear F K'|constructor;refine ⟨λwx G=>?_,F _ ?_⟩;(first|rfl|(have cl:C wx w.heap.size 7 V:=G.cell 7;have cr:C wx w.heap.size 4 r1:=G.cell 4;go_simp<;>rfl));clear F K'))
 refine dm.ee ?_;refine dm.fi ?_;go_wp2_with fail;exact kq.o):p:=h ⟨k⟩
def LZ (p:dz) (w:Z'):WX Xa 152 #[A_ p.arr] w (tu p w):=by
 obtain ⟨id,U,I,r0,r1,r2,X,V,l2,ah,size⟩:=p;unfold dz.arr
 dsimp only
 have he:=Te;by_cases hz:r0=0/\r1=0/\r2=0/\X=0/\V=0/\l2=0
 .obtain ⟨rfl,rfl,rfl,rfl,rfl,rfl⟩:=hz
  go_enter func152,ntmps152;go_wp2;go_ret;exact ⟨rfl,dL⟩
 have hb:(r0==0&&(r1==0&&r2==0)&&(X==0&&(V==0&&l2==0)))=Z_:=by
  simp only [Bool.and_eq_false_iff,beq_eq_false_iff_ne];simp only [Bool.and_eq_true,not_and] at hz;omega
 have hc:cls ⟨id,U,I,r0,r1,r2,X,V,l2,ah,size⟩=if X=0\/X≠r0\/V=0\/V≠r1 then 2 else 1:=by
  unfold cls;simp only;rw [if_neg hz]
 have Hc:=Hd hc;clear hc;go_enter func152,ntmps152;go_wp2_with fail
 all_goals
  go_loopw [3] (λvi wr=> ∃i:Nat,i<=2/\vi=I_ J_ i/\Bw w wr/\Xj wr w.heap.size 42 #[id,U,I,r0,r1,r2,X,V,l2,ah,size]/\(1<=i->X≠0/\X=r0)/\(2<=i->V≠0/\V=r1)) (λi _=>2 - (intOf i).toNat)
  .exact ⟨0,o_,rfl,dL,Xd,λh=>absurd h o_,λh=>absurd h o_⟩
  .obtain ⟨i,hi,rfl,ai,O,hq,am⟩:=hrel
   have ax:i=0\/i=1\/i=2:=o_;obtain rfl|rfl|rfl:=ax
   .clear hq am
    by_cases aa:X=0
    .have d1:(X==0)=Y':=by simp [aa]
     have Hz:=Hd aa;clear aa;refine QZ ?_;go_ret;exact ⟨by rw [Hc.o];simp [Hz.o],ai.drew⟩
    by_cases ag:X≠r0
    .have d1:(X==0)=Z_:=by simp [aa]
     have d2:(X !=r0)=Y':=by simp [ag]
     have Hz:=Hd aa;have Hr:=Hd ag;clear aa ag;refine QZ ?_;go_ret;exact ⟨by rw [Hc.o];simp [Hz.o,Hr.o],ai.drew⟩
    .have ag:X=r0:=Xp.1 ag
     have d1:(X==0)=Z_:=by simp [aa]
     have d2:(X !=r0)=Z_:=by simp [ag]
     have Hz:=Hd aa;have Hr:=Hd ag;clear aa ag;refine QZ ?_;go_roundw
     .exact ⟨1,o_,rfl,ai.drew,O,λ_=>⟨Hz,Hr⟩,λh=>absurd h o_⟩
     .simp [intOf]
   .have Hq:=Hd (hq o_)
    clear hq am;by_cases ae:V=0
    .have d1:(V==0)=Y':=by simp [ae]
     have Hz:=Hd ae;clear ae;refine Q_ ?_;go_ret;exact ⟨by rw [Hc.o];simp [Hz.o],ai.drew⟩
    by_cases af:V≠r1
    .have d1:(V==0)=Z_:=by simp [ae]
     have d2:(V !=r1)=Y':=by simp [af]
     have Hz:=Hd ae;have Hr:=Hd af;clear ae af;refine Q_ ?_;go_ret;exact ⟨by rw [Hc.o];simp [Hz.o,Hr.o],ai.drew⟩
    .have af:V=r1:=Xp.1 af
     have d1:(V==0)=Z_:=by simp [ae]
     have d2:(V !=r1)=Z_:=by simp [af]
     have Hz:=Hd ae;have Hr:=Hd af;clear ae af;refine Q_ ?_;go_roundw
     .exact ⟨2,o_,rfl,ai.drew,O,λ_=>Hq,λ_=>⟨Hz,Hr⟩⟩
     .simp [intOf]
   .have Hq:=Hd (hq o_)
    have aw:=Hd (am o_);clear hq am;go_wp2;go_ret;exact ⟨by rw [Hc.o,if_neg (by have q:=Hq.o;have q':=aw.o;omega)];rfl,ai⟩
end SI
end
end Go.Proofs.YtkidababfdehlaaGreatDoor
