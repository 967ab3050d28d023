/- Parts of the walk. -/
import Derived.Test.YtkidababfdehlaaGreatDoorQAs
import Derived.Test.YtkidababfdehlaaGreatDoorQAi
set_option linter.all false
set_option maxRecDepth 100000
set_option maxHeartbeats 64000000
namespace Go.Proofs.YtkidababfdehlaaGreatDoor
open Value renaming int -> I_,bool -> B_,string -> T_,slice -> S_,pointer -> P_,tuple -> U_,agg -> A_
open IntKind renaming i64 -> J_
open Ending renaming returned -> R_
open _root_.Array renaming size -> X_
open Go.World renaming heap -> Y_
open Option renaming some -> Y',none -> Z_
open Bool renaming true -> Z',false -> WW,and_eq_true -> Xm,false_eq_true -> XM
open Go renaming World -> WX,Value -> WY,Calls -> WZ,Addr -> Xa
open Go.RowKit renaming Hid -> Xb
open _root_.Go.Proofs.Tryz renaming prog -> Xc
open Mem renaming c_ -> Xd,Sl -> XE,El -> Ye
open List renaming length_append -> Xe,length_cons -> Xj,take_succ_eq_append_getElem -> Xt,drop_eq_getElem_cons -> XB,flatten_cons -> XC,append_assoc -> XD,length_filter_le -> XF,flatten_append -> XK,map_cons -> XL,mem_map -> XP,nil_append -> XS,map_append -> XT
open Tp renaming iG -> Xf,ja -> Xg,eL -> Xo,Qg -> Ya,ll -> Yg
open Int renaming toNat_of_nonneg -> Xh
open Mem.c_ renaming new -> Xi,alloc -> Xn,drew -> XI
open Go.Ending renaming returned -> Xk
open Nat renaming mul_one -> Xl,le_trans -> Xx,mod_eq_of_lt -> XQ
open Go.Builtin renaming append_ -> Xp
open Ro.dt renaming setCell -> Xq
open dq renaming flat -> Xr
open Ta renaming gF -> Xs,fh -> Xz,gC -> XR,fw -> XX
open BitVec renaming ofInt -> Xu,ofInt_natCast -> XJ,toNat_ofNat -> XN
open Ro renaming dt -> Xv,dr -> Xw,dS -> Yb
open Go.Value renaming int -> Xy
open _root_.Array renaming ext_getElem? -> XA
open eU renaming fA -> XG,lay -> Yd
open dm renaming val -> XH,on -> XO,start -> XW,tg -> Yf
open Go.Exit renaming noGoto_ret -> XU
open dz renaming arr -> XV
open Go.IntKind renaming signed -> XY
open Go.BinOp renaming or -> XZ,and -> Yc
variable {cs vs:Array WY} {o0 o1 o2:Bool} {r:Int} {xs:List WY} {l:List dq} {G I c g i j k n off:Nat} {A R:Option Xa} {Q:Program} {q:Prop} {e tx:TypeId} {x:UInt8} {a:WY} {W' w w':WX}
open _root_.Go.Proofs.Tryz Go.RowKit Wo
section
open Tx
namespace Rd
def qj (v c:Nat) (hc:c<256) (h:v*256+c<9223372036854775808):IntKind.i64.wrap ((Xu 64 ((v*256:Nat):Int)|||Xu 64 (c:Int)).toNat:Int)=((v*256+c:Nat):Int):=by
 have F:(Xu 64 ((v*256:Nat):Int)|||Xu 64 (c:Int)).toNat=v*256+c:=by
  rw [XJ,XJ,BitVec.toNat_or,XN,XN,XQ (show c<18446744073709551616 by omega),XQ (show v*256<18446744073709551616 by omega)];have:=Nat.shiftLeft_add_eq_or_of_lt (a:=v) (b:=c) (i:=8) o_;rw [Nat.shiftLeft_eq] at this;exact this.symm
 rw [F];exact Xz o_ o_
def qO:List Nat:=[1,10,3,4,5,6,7,8]
def Qj (id eO:ByteArray):Array WY:= #[T_ id,I_ J_ 0,B_ WW,I_ J_ 0,I_ J_ 0,I_ J_ 0,I_ J_ 0,I_ J_ 0,I_ J_ 0,T_ eO,I_ J_ 0]
def oL (id eO:ByteArray) (N:List Nat) (k:Nat):Array WY:=Tq.eR (Qj id eO) ((qO.zip N).take k)
def uw (h:k<8):k<qO.length:=h
def Of {p:Prop} (h:p:=by
 have:k=0\/k=1\/k=2\/k=3\/k=4\/k=5\/k=6\/k=7:=o_;obtain rfl|rfl|rfl|rfl|rfl|rfl|rfl|rfl:=this<;>simp [oL,qO,Qj,Tq.eR]):p:=h
def Kt (id F:ByteArray) (N:List Nat) (I:N.length=8) (k:Nat) (G:k<8):(oL id F N k)[qO[k]'(uw G)]?=Y' (I_ J_ 0)/\(oL id F N k).size=11/\qO[k]'(uw G)<11:=by
 match N,I with
 |[a,b,c,d,e,f,g,h],_=>
  exact Of
def Ch (id F:ByteArray) (N:List Nat) (I:N.length=8) (k:Nat) (G:k<8):oL id F N (k+1)=(oL id F N k).setIfInBounds (qO[k]'(uw G)) (I_ J_ (N[k]:Nat)):=by
 match N,I with
 |[a,b,c,d,e,f,g,h],_=>
  exact Of
def Qk (g k:Nat) (F:k<8):(oM g)[k]?=Y' (P_ (Y' ⟨g,qO[k]'(uw F),Z_⟩)):=by
 have:k=0\/k=1\/k=2\/k=3\/k=4\/k=5\/k=6\/k=7:=o_;obtain rfl|rfl|rfl|rfl|rfl|rfl|rfl|rfl:=this<;>simp [oM,qO]
def gO (n j:Nat):Nat:=Tp.Vz ((Xg n).take j)
def oN (n j:Nat) (F:j<8):gO n (j+1)=gO n j*256+((Xg n)[j]'(by rw [Xo];exact F)).toNat:=by
 unfold gO Tp.Vz;rw [Xt (by rw [Xo];exact F),List.foldl_append];rfl
def zS (n j:Nat) (hj:j<=8) (h:n<18446744073709551616):gO n j<=n:=by
 have key: ∀k,k<=8->gO n (8 - k)*256^k<=n:=by
  intro k hk
  induction k with
  |zero=>
   have:=Tp.Og h;unfold gO;rw [t_ (by rw [Xo];omega),this,Nat.pow_zero,Xl];exact Nat.le_refl _
  |succ k ih=>
   have F:=ih o_;have e:=oN n (8 - (k+1)) o_;rw [show 8 - (k+1)+1=8 - k by omega] at e;rw [e] at F;refine Xx ?_ F;rw [Nat.pow_succ,Nat.add_mul,Nat.mul_comm (256^k) 256,<-Nat.mul_assoc];omega
 have:=key (8 - j) o_;rw [show 8 - (8 - j)=j by omega] at this;have G:0<256^(8 - j):=Nat.pow_pos d_;generalize 256^(8 - j)=P at*;exact Xx (Nat.le_mul_of_pos_right _ G) this
def Fq (n:Nat) (h:n<18446744073709551616):gO n 8=n:=by
 have:=Tp.Og h;unfold gO;rw [t_ (by rw [Xo];omega)];exact this
def sO: ∀(N:List Nat) (r:List UInt8) (k j:Nat) (hk:k<N.length) (hj:j<8),((N.map Xg).flatten++r)[8*k+j]?=Y' ((Xg N[k])[j]'(by rw [Xo];exact hj))
 |[],_,_,_,hk,_=>absurd hk y_
 |n::N,r,0,j,_,hj=>by
  rw [XL,XC,XD,List.getElem?_append_left (by rw [Xo];omega),List.getElem?_eq_getElem (by rw [Xo];omega)];simp
 |n::N,r,k+1,j,hk,hj=>by
  rw [XL,XC,XD,List.getElem?_append_right (by rw [Xo];omega),Xo,show 8*(k+1)+j - 8=8*k+j by omega];exact sO N r k j (by simpa using hk) hj
def numsOf (p:dz):List Nat:=[(p.prio+1073741824).toNat,p.size.toNat,p.r0.toNat,p.r1.toNat,p.r2.toNat,p.l0.toNat,p.l1.toNat,p.l2.toNat]
def bytesOf (s:ByteArray):List UInt8:=s.data.toList
def eV (p:dz):List UInt8:=Ya (bytesOf p.id)++(Ya (bytesOf p.eO)++(((numsOf p).map Xg).flatten++[if p.fB then 1 else 0]))
def wA (s:ByteArray):str (bytesOf s)=s:=by obtain ⟨a⟩:=s;simp [str,bytesOf]
def iv.tail {a l:List UInt8} (h:iv w (Y' ⟨G,off,Z_⟩) n c (a++l)) (hl:0<l.length):iv w (Y' ⟨G,off+a.length,Z_⟩) (n - a.length) (c - a.length) l:=by
 have hn:a.length+l.length=n:=by have:=h.len;simpa using this
 have F:=h.drop a.length o_;rw [List.drop_left] at F;unfold MJ at F;rw [if_neg (by have:=h.le;omega)] at F;exact F
def iv.byte {l:List UInt8} (h:iv w (Y' ⟨I,off,Z_⟩) n c l) (G:l[j]?=Y' x):w.cell? ⟨I,off+j,Z_⟩=Y' (.int .u8 x.toNat):=by
 have F:=(List.getElem?_eq_some_iff.1 G).1;rw [h.cell j (by simpa using F)];rw [List.getElem?_eq_getElem F] at G;simp only [Option.some.injEq] at G;simp [G,uv]
def iv.tG {l:List UInt8} (h:iv w A n c l) (hb:Bw w w'):iv w' A n c l:=Ro.Row.dy h λb hb2=>hb.block b (Ro.Row.lt h hb2)
def UY:Ye Xc 65 5 (.int .u8 0) 1 1:=⟨underlying65,k_,rfl,d_⟩
def Bp: ∀(vs:List WY) (o:Nat) (cs:Array WY) (k:Nat),o+vs.length<=cs.size->(Yd cs o vs)[k]?=if o<=k/\k<o+vs.length then vs[k - o]? else cs[k]?
 |[],o,cs,k,_=>by rw [Yd,if_neg (by rintro ⟨h1,h2⟩;simp at h2;omega)]
 |v::r,o,cs,k,h=>by
  rw [Xj] at h;rw [Yd,Bp r (o+1) _ k z_];by_cases h1:o+1<=k/\k<o+1+r.length
  .rw [if_pos h1,if_pos (by rw [Xj];omega)]
   obtain ⟨j,rfl⟩: ∃j,k=o+1+j:=⟨k - (o+1),o_⟩;rw [show o+1+j - (o+1)=j by omega,show o+1+j - o=j+1 by omega];rfl
  .rw [if_neg h1]
   by_cases h2:o=k
   .subst h2
    rw [if_pos (by rw [Xj];omega),Nat.sub_self];have hlt:o<cs.size:=o_;simp [hlt]
   .rw [if_neg (by rw [Xj];omega)]
    simp only [Array.getElem?_setIfInBounds,if_neg h2]
def Bo (h:cs.size=vs.size):Yd cs 0 vs.toList=vs:=by
 apply XA;intro k;rw [Bp _ _ _ _ z_];by_cases hk:k<vs.size
 .rw [if_pos z_]
  simp
 .rw [if_neg z_,Array.getElem?_eq_none o_,Array.getElem?_eq_none o_]
def Bq {T:TypeId} (h:Xd w g T cs) (hs:cs.size=vs.size):Xd (w.setCells g 0 vs.toList) g T vs:=by
 have:=eU.gv vs.toList 0 w cs h;rwa [Bo hs] at this
def set_set (cs:Array WY) (i:Nat) (a b:WY):(cs.setIfInBounds i a).setIfInBounds i b=cs.setIfInBounds i b:=by
 apply XA;intro k;simp only [Array.getElem?_setIfInBounds,Array.size_setIfInBounds];by_cases h:i=k
 .simp [h]
 .simp [h]
def RI (h:i<cs.size):(cs.setIfInBounds i a)[i]?=Y' a:=by simp [h]
def IJ (h:cs[i]?=Y' a):cs.setIfInBounds i a=cs:=by
 apply XA;intro k;simp only [Array.getElem?_setIfInBounds];by_cases G:i=k
 .subst G
  have F:=(Array.getElem?_eq_some_iff.1 h).1;rw [if_pos rfl,if_pos F,h]
 .simp [G]
def ft {o:Oper} {a:Act} (ty:TypeId) (x y:Operand) (O:o.op= .store ty x y) (g i:Nat) (vs:Array WY) (V:a.eval x=P_ (Y' ⟨g,i,Z_⟩)) (F:a.eval y=A_ vs)
  (I:w.there g i vs.size) (G:(Q.info? ty).map (·.size)=Y' vs.size) (U:vs.all (·.oneCell')=Z'):(execOp a.eval o).run Q w= .ok .skip (w.setCells g i vs.toList):=by
 unfold execOp;simp only [O,V,F,Sem.run_bind,run_storeAt_mid w g i ty vs I G U,Sem.run_pure,Result.andThen_ok]
structure vq (p:dz):Prop where
 prio: -1073741824<=p.prio/\p.prio<=1073741824
 r0:0<=p.r0
 r1:0<=p.r1
 r2:0<=p.r2
 l0:0<=p.l0
 l1:0<=p.l1
 l2:0<=p.l2
 size:0<=p.size
 id:p.id.size<=24
 eO:p.eO.size<=24
def qg {p:dz} (h:XX p=Z'):vq p:=by
 unfold XX Ta.iW at h;simp only [Xm,decide_eq_true_eq] at h;let ⟨⟨a1,a2,_⟩,⟨b1,b2,_⟩,⟨c1,c2,_⟩,G,O,I,U,F⟩:=h;exact ⟨⟨I,U⟩,a1,b1,c1,a2,b2,c2,F,(Ta.lA G).2,(Ta.lA O).2⟩
def Bt {p:dz} (h:vq p) (F:p.ok): ∀n∈numsOf p,n<9223372036854775808:=by
 intro n hn;let ⟨k1,k2,k3,k4,k5,k6,k7,k8,k9,Kf⟩:=h;have o1: -9223372036854775808<=p.size/\p.size<=9223372036854775807:=F.size;have o2: -9223372036854775808<=p.r0/\p.r0<=9223372036854775807:=F.r0;have o3: -9223372036854775808<=p.r1/\p.r1<=9223372036854775807:=F.r1;have o4: -9223372036854775808<=p.r2/\p.r2<=9223372036854775807:=F.r2;have o5: -9223372036854775808<=p.l0/\p.l0<=9223372036854775807:=F.l0;have o6: -9223372036854775808<=p.l1/\p.l1<=9223372036854775807:=F.l1;have o7: -9223372036854775808<=p.l2/\p.l2<=9223372036854775807:=F.l2;unfold numsOf at hn;simp only [List.mem_cons,List.not_mem_nil,or_false] at hn;obtain rfl|rfl|rfl|rfl|rfl|rfl|rfl|rfl:=hn<;>omega
def IK {p:dz} (h:vq p):oL p.id p.eO (numsOf p) 8= #[T_ p.id,I_ J_ (p.prio+1073741824),B_ WW,I_ J_ p.r0,I_ J_ p.r1,I_ J_ p.r2,I_ J_ p.l0,I_ J_ p.l1,I_ J_ p.l2,T_ p.eO,I_ J_ p.size]:=by
 let ⟨k1,k2,k3,k4,k5,k6,k7,k8,k9,Kf⟩:=h;have F:(((p.prio+1073741824).toNat:Nat):Int)=p.prio+1073741824:=o_;simp [oL,qO,Qj,Tq.eR,numsOf,F];omega
def ms90 {p:Prop} (h:p:=by
 have h1:=aC.drop 64 o_;unfold MJ at h1;rw [if_neg o_] at h1;have h2:=h1.drop 1 o_;have h3:(B3.drop 64).drop 1=r:=by
  rw [List.drop_drop,a0.o];rw [show 64+1=(((numsOf p).map Tp.ja).flatten++[if p.fB then (1:UInt8) else 0]).length by rw [List.length_append,Tp.dO];simp [numsOf]];rw [show ((numsOf p).map Tp.ja).flatten++((if p.fB then (1:UInt8) else 0)::r)=(((numsOf p).map Tp.ja).flatten++[if p.fB then (1:UInt8) else 0])++r by simp];exact List.drop_left
 rw [h3] at h2;exact Ro.Row.sl h2):p:=h
def ms91 {p:Prop} (h:p:=by
 have bm:Below w.heap.size wr F:=by rw [ab];exact (((Below.refl w.heap.size wr).setCell y_ _).setCell y_ _).drew
 exact (bm.cell (p:=⟨gb,o3+64,none⟩) bV).trans ao):p:=h
def II (p:dz) (hp:XX p=Z') (bz:p.ok) (gb off n c:Nat) (r:List UInt8) (w:WX) (hr:iv w (Y' ⟨gb,off,Z_⟩) n c (eV p++r)) (hn:n<=90000):
  WZ Xc 146 #[S_ (Y' ⟨gb,off,Z_⟩) n c] w λe w'=> ∃(A':Option Xa) (c':Nat),e=R_ (U_ #[A_ p.arr,S_ A' r.length c',I_ J_ 0])/\eF w w' 5 1 A' r.length c' (r.map uv):=by
 have hN:=qg hp;have dh:=Hd (Bt hN bz);have cD:=Hd (IK hN);have bE:=Hd (λX=>Ta.nR p X bz);rw [hp] at bE;have HN:=Hd hN;have cW:(bytesOf p.id).length=p.id.size:=by simp [bytesOf]
 have bW:(bytesOf p.eO).length=p.eO.size:=by simp [bytesOf]
 have cK:(bytesOf p.id).length<=24:=by have:=hN.id;omega
 have cV:(bytesOf p.eO).length<=24:=by have:=hN.eO;omega
 let ⟨B3,a9⟩:=nm (((numsOf p).map Xg).flatten++((if p.fB then (1:UInt8) else 0)::r));have dj:B3.length=65+r.length:=by rw [a9,Xe,Tp.dO];simp [numsOf];omega
 have bI:iv w (Y' ⟨gb,off,Z_⟩) n c (Xf (bytesOf p.id).length::(bytesOf p.id++(Xf (bytesOf p.eO).length::(bytesOf p.eO++B3)))):=by
  have e:eV p++r=Xf (bytesOf p.id).length::(bytesOf p.id++(Xf (bytesOf p.eO).length::(bytesOf p.eO++B3))):=by
   rw [a9];simp [eV,Ya]
  rw [<-e];exact hr
 have cf:(bytesOf p.id).length=(Xf (bytesOf p.id).length).toNat:=by rw [Yg];omega
 have cg:(bytesOf p.eO).length=(Xf (bytesOf p.eO).length).toNat:=by rw [Yg];omega
 have aR:=iv.tail (a:=Xf (bytesOf p.id).length::bytesOf p.id) (by simpa using bI) y_;have aJ:=iv.tail (a:=Xf (bytesOf p.eO).length::bytesOf p.eO) (by simpa using aR) o_;rw [Xj] at aR aJ;have hm:n - ((bytesOf p.id).length+1) - ((bytesOf p.eO).length+1)=B3.length:=by have:=aJ.len;simp at this;omega
 rw [hm] at aJ;have H3:=Hd aJ;let ⟨o2,a8⟩:=nm (off+((bytesOf p.id).length+1));let ⟨n2,aD⟩:=nm (n - ((bytesOf p.id).length+1));let ⟨c2,a1⟩:=nm (c - ((bytesOf p.id).length+1));rw [<-a8,<-aD,<-a1] at aR;rw [<-a8,<-a1] at H3;let ⟨o3,bL⟩:=nm (o2+((bytesOf p.eO).length+1));let ⟨c3,ag⟩:=nm (c2 - ((bytesOf p.eO).length+1));rw [<-bL,<-ag] at H3;have HB5:=Hd (λX (h:iv X (Y' ⟨gb,off,Z_⟩) n c (Xf (bytesOf p.id).length::(bytesOf p.id++(Xf (bytesOf p.eO).length::(bytesOf p.eO++B3)))))=>qC gb off n c _ _ _ X h cf y_ o_);have bi:n2<=1000000:=o_;have hb2:=Hd (λX (h:iv X (Y' ⟨gb,o2,Z_⟩) n2 c2 (Xf (bytesOf p.eO).length::(bytesOf p.eO++B3)))=>qC gb o2 n2 c2 _ _ _ X h cg o_ bi);rw [<-a8,<-aD,<-a1] at HB5;rw [<-bL,<-ag,aD,hm] at hb2;rw [<-aD] at hb2;rw [wA] at HB5 hb2;have HR5:=Hd bI;have HR4:=Hd aR;have a0:=Hd a9;let ⟨m,ct⟩:=nm (B3.length);rw [<-ct] at H3 hb2;have dw:65<=m:=o_;have bj:Xb (m=65+r.length):=Hd o_;have hmn:m<=90000:=o_;have bV:=hr.lt rfl;clear hr bI aR aJ cf cg bi hm a8 aD a1 bL ag cW bW cK cV a9 dj hN hp bz ct;let ⟨w1,aU⟩:=nm ((w.alloc (.cells #[T_ ⟨#[]⟩,I_ J_ 0,B_ WW,I_ J_ 0,I_ J_ 0,I_ J_ 0,I_ J_ 0,I_ J_ 0,I_ J_ 0,T_ ⟨#[]⟩,I_ J_ 0] 42)).alloc (.cells #[T_ ⟨#[]⟩,I_ J_ 0,B_ WW,I_ J_ 0,I_ J_ 0,I_ J_ 0,I_ J_ 0,I_ J_ 0,I_ J_ 0,T_ ⟨#[]⟩,I_ J_ 0] 42));have bc:Xb (Bw w w1):=by rw [aU];exact (b_.alloc l_ _).alloc y_ _
 have HT3:Xb (Xd w1 w.heap.size 42 #[T_ ⟨#[]⟩,I_ J_ 0,B_ WW,I_ J_ 0,I_ J_ 0,I_ J_ 0,I_ J_ 0,I_ J_ 0,I_ J_ 0,T_ ⟨#[]⟩,I_ J_ 0]):=by rw [aU];exact Xn Xi
 have HB0:=Hd (show Xd w1 (X_ (Y_ w)+1) 42 #[T_ ⟨#[]⟩,I_ J_ 0,B_ WW,I_ J_ 0,I_ J_ 0,I_ J_ 0,I_ J_ 0,I_ J_ 0,I_ J_ 0,T_ ⟨#[]⟩,I_ J_ 0] from by
  rw [aU];have:=Xi (w:=w.alloc (.cells #[T_ ⟨#[]⟩,I_ J_ 0,B_ WW,I_ J_ 0,I_ J_ 0,I_ J_ 0,I_ J_ 0,I_ J_ 0,I_ J_ 0,T_ ⟨#[]⟩,I_ J_ 0] 42)) (t:=42) (cs:= #[T_ ⟨#[]⟩,I_ J_ 0,B_ WW,I_ J_ 0,I_ J_ 0,I_ J_ 0,I_ J_ 0,I_ J_ 0,I_ J_ 0,T_ ⟨#[]⟩,I_ J_ 0]);simpa using this)
 have H5:=Hd aU;clear aU;go_enter func146,ntmps146;go_upto_region 2 with fail;rw [<-H5.o];go_wp2_with fail;refine (HB5 w1 (HR5.tG bc)).mono ?_;rintro e w2 ⟨rfl,a5⟩;have aB:=Hd (bc.trans (a5.mono bc.size));have J2:=Hd (HT3.a_ a5);have n3:=Hd (HB0.a_ a5);clear a5;go_wp2_with fail;refine (hb2 w2 (HR4.tG aB)).mono ?_;rintro e w3 ⟨rfl,y4⟩;have bC:=Hd (aB.trans (y4.mono aB.size));have aM:=Hd (J2.a_ y4);have ah:=Hd (n3.a_ y4);clear y4 HB5 hb2 HR5 HR4 HT3 HB0 J2 n3 H5;go_wp2_with fail;refine (tF (X_ (Y_ w)+1) w3).mono ?_;rintro e w4 ⟨rfl,aP⟩;have dk:Xb (Bw w w4):=by rw [aP];exact bC.drew.alloc bC.size _
 have b9:Xb (Xd w4 w.heap.size 42 #[T_ ⟨#[]⟩,I_ J_ 0,B_ WW,I_ J_ 0,I_ J_ 0,I_ J_ 0,I_ J_ 0,I_ J_ 0,I_ J_ 0,T_ ⟨#[]⟩,I_ J_ 0]):=by rw [aP];exact Xn aM.drew
 have ay:Xb (Xd w4 (X_ (Y_ w)+1) 42 #[T_ ⟨#[]⟩,I_ J_ 0,B_ WW,I_ J_ 0,I_ J_ 0,I_ J_ 0,I_ J_ 0,I_ J_ 0,I_ J_ 0,T_ ⟨#[]⟩,I_ J_ 0]):=by rw [aP];exact Xn ah.drew
 have cz:Xb (Xd w4 w3.heap.size 168 (oM (X_ (Y_ w)+1))):=by rw [aP];exact Xi (w:=w3.drew)
 have bn:=Hd ah.lt;clear aP;have hle:decide ((m:Int)<=64)=WW:=dF;obtain ⟨y0,-,-,-,-,-,-,-,-,y9,-⟩:=kA ay;have f0:=ay.frozen 0;have f9:=ay.frozen 9;let ⟨w5,aA⟩:=nm ((w4.setCell ⟨X_ (Y_ w)+1,0,Z_⟩ (T_ p.id)).setCell ⟨X_ (Y_ w)+1,9,Z_⟩ (T_ p.eO));have de:Xb (Xd w5 (X_ (Y_ w)+1) 42 (oL p.id p.eO (numsOf p) 0)):=by rw [aA];exact (ay.eC 0 _).eC 9 _
 have cY:Xb (Xd w5 w.heap.size 42 #[T_ ⟨#[]⟩,I_ J_ 0,B_ WW,I_ J_ 0,I_ J_ 0,I_ J_ 0,I_ J_ 0,I_ J_ 0,I_ J_ 0,T_ ⟨#[]⟩,I_ J_ 0]):=by rw [aA];exact (b9.fA y_).fA y_
 have cR:Xb (Xd w5 w3.heap.size 168 (oM (X_ (Y_ w)+1))):=Hd (by rw [aA];exact (cz.fA (by have:=bn.o;simp;omega)).fA (by have:=bn.o;simp;omega));have dl:Xb (Bw w w5):=by rw [aA];exact (dk.setCell y_ _).setCell y_ _
 have cB:=Hd aA;clear aA b9 cz ay bC aM ah aB bc;go_upto_region 8 with fail;rw [<-cB.o];clear y0 y9 f0 f9 cB;go_wp2;go_loopw [51] (λvi wr=> ∃k:Nat,k<=8/\vi=I_ J_ k/\Xb (Bw w wr)/\Xb (Xd wr (X_ (Y_ w)+1) 42 (oL p.id p.eO (numsOf p) k))/\Xb (Xd wr w3.heap.size 168 (oM (X_ (Y_ w)+1)))/\Xb (Xd wr w.heap.size 42 #[T_ ⟨#[]⟩,I_ J_ 0,B_ WW,I_ J_ 0,I_ J_ 0,I_ J_ 0,I_ J_ 0,I_ J_ 0,I_ J_ 0,T_ ⟨#[]⟩,I_ J_ 0])) (λi _=>8 - (intOf i).toNat)
 .exact ⟨0,o_,rfl,dl,de,cR,cY⟩
 .obtain ⟨k,hk,rfl,ar,aw,cu,HZ⟩:=hrel
  by_cases a4:k<8
  .let ⟨wo,di⟩:=nm wr
   subst di;have bO:=a4;let ⟨ha,cC,ho⟩:=Kt p.id p.eO (numsOf p) rfl k a4;have da:=Hd (Ch p.id p.eO (numsOf p) rfl k a4);have cc:=Qk (X_ (Y_ w)+1) k a4;have bp:=Hd (dh (numsOf p)[k] (g_ bO));have bY:=Hd (λj (hj:j<8)=>sO (numsOf p) ((if p.fB then (1:UInt8) else 0)::r) k j bO hj);rw [<-a0.o] at bY;generalize (numsOf p)[k]=N at*;generalize qO[k]=o at*;have pc:=(cu.cell k).trans cc;have cP:=Hd (And.intro cC ho);have db:=Hd (show Xd wo (X_ (Y_ w)+1) 42 ((oL p.id p.eO (numsOf p) k).setIfInBounds o (I_ J_ ((gO N 0:Nat):Int))) from by
    rw [show ((gO N 0:Nat):Int)=0 from rfl,IJ ha];exact aw)
   have hm1:IntKind.i64.wrap (8*(k:Int))=((8*k:Nat):Int):=by rw [Xz o_ o_];omega
   have hm2:IntKind.i64.wrap (((8*k:Nat):Int)+8)=((8*k+8:Nat):Int):=by rw [Xz o_ o_];omega
   have hw:=Xz (n:=(k:Int)+1) o_ o_;have ag:=H3.le.1;clear ha cC ho cc;go_wp2;go_loopw [64] (λvi wr=> ∃j:Nat,j<=8/\vi=I_ J_ j/\Xb (Bw w wr)/\Xb (Xd wr (X_ (Y_ w)+1) 42 ((oL p.id p.eO (numsOf p) k).setIfInBounds o (I_ J_ ((gO N j:Nat):Int))))/\Xb (Xd wr w3.heap.size 168 (oM (X_ (Y_ w)+1)))/\Xb (Xd wr w.heap.size 42 #[T_ ⟨#[]⟩,I_ J_ 0,B_ WW,I_ J_ 0,I_ J_ 0,I_ J_ 0,I_ J_ 0,I_ J_ 0,I_ J_ 0,T_ ⟨#[]⟩,I_ J_ 0])) (λi _=>8 - (intOf i).toNat)
   .exact ⟨0,o_,rfl,ar,db,cu,HZ⟩
   .obtain ⟨j,hj,rfl,bu,bd,ce,cw⟩:=hrel
    by_cases a2:j<8
    .have ao:=(H3.tG bu).byte (bY j a2)
     have b8:=oN N j a2;have b6:=zS N (j+1) o_ (by have:=bp.o;omega);have bw:=UInt8.toNat_lt ((Xg N)[j]'(by rw [Xo];exact a2));generalize ((Xg N)[j]'(by rw [Xo];exact a2)).toNat=cb at*;have bl:=Hd b8;have be:gO N j*256+cb<9223372036854775808:=by have:=bp.o;omega
     have cX:bits XZ IntKind.i64 (((gO N j:Nat):Int)*256) (cb:Int)=((gO N j*256+cb:Nat):Int):=by
      have:=qj (gO N j) cb bw be;rw [show ((gO N j*256:Nat):Int)=((gO N j:Nat):Int)*256 by omega] at this;exact this
     have hsh:IntKind.i64.wrap (((gO N j:Nat):Int)*256)=((gO N j:Nat):Int)*256:=Xz o_ o_;obtain ⟨vv,bq⟩: ∃vv:Int,vv=((gO N j*256+cb:Nat):Int):=⟨_,rfl⟩;rw [<-bq] at cX;have hwc:IntKind.i64.wrap (cb:Int)=(cb:Int):=Xz o_ o_;have q0:C wr (X_ (Y_ w)+1) o (I_ J_ ((gO N j:Nat):Int)):=(bd.cell o).trans (RI (by have:=cP.o;omega));have qf:=bd.frozen o;have cS:=Hd (show Xd (wr.setCell ⟨X_ (Y_ w)+1,o,Z_⟩ (I_ J_ vv)) (X_ (Y_ w)+1) 42 ((oL p.id p.eO (numsOf p) k).setIfInBounds o (I_ J_ ((gO N (j+1):Nat):Int))) from by
      have:=bd.o.eC o (I_ J_ vv);rw [set_set] at this;rw [bl.o,<-bq];exact this)
     have dc:Xb (Xd (wr.setCell ⟨X_ (Y_ w)+1,o,Z_⟩ (I_ J_ vv)) w3.heap.size 168 (oM (X_ (Y_ w)+1))):=ce.fA (by have:=bn.o;simp;omega);have cJ:Xb (Xd (wr.setCell ⟨X_ (Y_ w)+1,o,Z_⟩ (I_ J_ vv)) w.heap.size 42 #[T_ ⟨#[]⟩,I_ J_ 0,B_ WW,I_ J_ 0,I_ J_ 0,I_ J_ 0,I_ J_ 0,I_ J_ 0,I_ J_ 0,T_ ⟨#[]⟩,I_ J_ 0]):=cw.fA y_;have cQ:Xb (Bw w (wr.setCell ⟨X_ (Y_ w)+1,o,Z_⟩ (I_ J_ vv))):=bu.setCell y_ _;have hwj:=Xz (n:=(j:Int)+1) o_ o_;have dv:wr.cell? ⟨gb,o3+8*k+j,Z_⟩=Y' (.int .u8 (cb:Int)):=by rw [Nat.add_assoc];exact ao
     clear b8 b6 ao bq bl be;generalize gO N j=v at*;go_wp2;go_roundw
     .exact ⟨j+1,o_,by go_num,cQ,cS,dc,cJ⟩
     .simp [intOf];omega
    .obtain rfl:j=8:=o_
     have dd:=Hd (show Xd wr (X_ (Y_ w)+1) 42 (oL p.id p.eO (numsOf p) (k+1)) from by
      rw [da.o,<-Fq N (by have:=bp.o;omega)];exact bd)
     go_wp2;go_roundw
     .exact ⟨k+1,o_,by go_num,bu,dd,ce,cw⟩
     .simp [intOf];omega
  .obtain rfl:k=8:=o_
   rw [show ((8:Nat):Int)=(8:Int) from rfl] at*;let ⟨PV,bU⟩:=nm (p.prio+1073741824);have bX:=HN.prio;have cy:decide (PV<0)=WW:=dF;have b5:decide (2147483648<PV)=WW:=dF;have bh:IntKind.i64.wrap (PV - 1073741824)=p.prio:=by rw [Xz o_ o_];omega
   have az:Xb (Xd wr (X_ (Y_ w)+1) 42 #[T_ p.id,I_ J_ PV,B_ WW,I_ J_ p.r0,I_ J_ p.r1,I_ J_ p.r2,I_ J_ p.l0,I_ J_ p.l1,I_ J_ p.l2,T_ p.eO,I_ J_ p.size]):=by rw [bU,<-cD.o];exact aw
   have bf: ¬PV<0:=o_;have bg: ¬2147483648<PV:=o_;let ⟨cr,bG⟩:=nm (p.fB);have bS:=Hd bG;obtain ⟨cb,bD⟩: ∃cb:Int,cb=if cr then 1 else 0:=⟨_,rfl⟩
   have ao:wr.cell? ⟨gb,o3+64,Z_⟩=Y' (.int .u8 cb):=by
    have cL:B3[64]?=Y' (if p.fB then (1:UInt8) else 0):=by
     rw [a0.o,List.getElem?_append_right (by rw [Tp.dO];simp [numsOf]),Tp.dO];simp [numsOf]
    have:=(H3.o.tG ar.o).byte cL;rw [this,bD,bG];cases p.fB<;>rfl
   obtain ⟨-,x1,x2,-⟩:=kA az;have ca:=az.frozen 1;have cp:=az.frozen 2;have ag:=H3.le.1;clear bU bG;cases cr with
   |true=>
    obtain rfl:cb=1:=bD;have aV:Xb (#[T_ p.id,I_ J_ p.prio,B_ Z',I_ J_ p.r0,I_ J_ p.r1,I_ J_ p.r2,I_ J_ p.l0,I_ J_ p.l1,I_ J_ p.l2,T_ p.eO,I_ J_ p.size]=p.arr):=Hd (by unfold XV;rw [<-bS.o]);let ⟨F,ab⟩:=nm (((wr.setCell ⟨X_ (Y_ w)+1,1,Z_⟩ (I_ J_ p.prio)).setCell ⟨X_ (Y_ w)+1,2,Z_⟩ (B_ Z')).drew);have HP:Xb (Xd F (X_ (Y_ w)+1) 42 #[T_ p.id,I_ J_ p.prio,B_ Z',I_ J_ p.r0,I_ J_ p.r1,I_ J_ p.r2,I_ J_ p.l0,I_ J_ p.l1,I_ J_ p.l2,T_ p.eO,I_ J_ p.size]):=by rw [ab];exact XI ((az.eC 1 _).eC 2 _)
    have aE:Xb (Xd F w.heap.size 42 #[T_ ⟨#[]⟩,I_ J_ 0,B_ WW,I_ J_ 0,I_ J_ 0,I_ J_ 0,I_ J_ 0,I_ J_ 0,I_ J_ 0,T_ ⟨#[]⟩,I_ J_ 0]):=by rw [ab];exact XI ((HZ.fA y_).fA y_)
    have HB:Xb (Bw w F):=by rw [ab];exact ((ar.setCell y_ _).setCell y_ _).drew
    have aY:F.cell? ⟨gb,o3+64,Z_⟩=Y' (.int .u8 1):=by
     exact ms91
    have aQ:=Hd ab;clear ab;go_upto_region 19 with fail
    go_region
    rw [<-aQ.o];clear x1 x2 ca cp ao aQ bf bg cy b5 bh bX;obtain ⟨aX,e1,e2,e3,e4,e5,e6,e7,e8,e9,aT,-⟩:=kA HP;go_wp2_with fail;clear aX e1 e2 e3 e4 e5 e6 e7 e8 e9 aT aY;rw [aV.o];refine (bE _).mono ?_;rintro e w7 ⟨rfl,an⟩;have HBc:=Hd (HB.trans (an.mono HB.size));have ak:=Hd (HP.a_ an);have U:=Hd (aE.a_ an);clear an HP aE HB;have aC:=H3.tG HBc;have am:XE w7 w7.heap.size 1 (if c3 - 64=1 then Y' ⟨gb,o3+64,Z_⟩ else Y' ⟨gb,o3+64+1,Z_⟩) (m - 64 - 1) (r.map uv):=by
     exact ms90
    let ⟨A2,ap⟩:=nm ((if c3 - 64=1 then Y' (⟨gb,o3+64,Z_⟩:Xa) else Y' ⟨gb,o3+64+1,Z_⟩));rw [<-ap] at am;have bt:=Hd ap;have al:Ro.Row (w7.drew.alloc (.cells #[] 5)) 5 1 (Y' ⟨X_ (Y_ w7),0,Z_⟩) 0 0 []:=Ro.Row.new (w:=w7.drew) (cs:= #[]) rfl d_;let ⟨A8,c8,w8,av,au,aH,aN⟩:=Ro.app (P:=Xc) (ty:=65) (c2:=c3 - 64 - 1) UY al (am.drew.alloc l_ _) (λu hu=>by obtain ⟨x,_,rfl⟩:=XP.1 hu;rfl) e_ o_;simp only [Nat.zero_add,XS] at av au;have O:=(b_.drew.alloc l_ _).trans (aH.below y_ (λb hb e=>absurd (show w7.heap.size=b by simpa [Xw] using e) (by have hq:w7.drew.heap.size=X_ (Y_ w7):=rfl;omega)));have ac:=Hd (ak.a_ O);have aF:=Hd (U.a_ O);have HB4:=Hd (HBc.trans (O.mono HBc.size));have bJ:=Hd av;have bK:=Hd au;have aL:=Hd (show∀b,Xw A8=Y' b->X_ (Y_ w)<b from λb hb=>by
     have cM:=U.lt;obtain e|e:=aN
     .rw [e] at hb
      have:X_ (Y_ w7)=b:=by simpa [Xw] using hb
      omega
     .rw [e] at hb
      simp at hb;omega)
    let ⟨V,af⟩:=nm (w8.setCells w.heap.size 0 (#[T_ p.id,I_ J_ p.prio,B_ Z',I_ J_ p.r0,I_ J_ p.r1,I_ J_ p.r2,I_ J_ p.l0,I_ J_ p.l1,I_ J_ p.l2,T_ p.eO,I_ J_ p.size]:Array WY).toList);have ae:Xd V w.heap.size 42 #[T_ p.id,I_ J_ p.prio,B_ Z',I_ J_ p.r0,I_ J_ p.r1,I_ J_ p.r2,I_ J_ p.l0,I_ J_ p.l1,I_ J_ p.l2,T_ p.eO,I_ J_ p.size]:=by rw [af];exact Bq aF rfl
    have ai:Xv (λb=>b=X_ (Y_ w)) w8 V:=by rw [af];exact eU.eI _ _ _
    have aW:=Hd (XG ac ai y_);have bo:=Hd af;have bF:=Hd (show∃(A':Option Xa) (c':Nat),(Xk (U_ #[A_ #[T_ p.id,I_ J_ p.prio,B_ Z',I_ J_ p.r0,I_ J_ p.r1,I_ J_ p.r2,I_ J_ p.l0,I_ J_ p.l1,I_ J_ p.l2,T_ p.eO,I_ J_ p.size],S_ A8 (m - 64 - 1) c8,I_ J_ 0]))=R_ (U_ #[A_ p.arr,S_ A' r.length c',I_ J_ 0])/\eF w V 5 1 A' r.length c' (r.map uv) from by
     have aG:m - 64 - 1=r.length:=by have:=bj.o;omega
     refine ⟨A8,c8,by rw [aV.o,aG],HB4.trans (ai.below HB4.size (λb hb e=>o_)),?_,λb hb=>Nat.le_of_lt (aL b hb)⟩;have h1:=bK.o;rw [aG] at h1;exact h1.dy λb hb=>ai.block b (h1.lt hb) (λe=>by have:=aL.o b hb;omega))
    have I:=Hd ae;clear ae ai af av au aH aN O al aC am ap;go_upto_region 22 with fail;refine XW (S:=λwx=>Xb (Xd wx (X_ (Y_ w)+1) 42 #[T_ p.id,I_ J_ p.prio,B_ Z',I_ J_ p.r0,I_ J_ p.r1,I_ J_ p.r2,I_ J_ p.l0,I_ J_ p.l1,I_ J_ p.l2,T_ p.eO,I_ J_ p.size])) k_ ?_;refine dm.tk 5 (Hd ak.drew) [0,2,3] ?_
    iterate 3 (refine dm.dG rfl (λK' aa=>?_);go_simp;(first|(refine aa _ ?_;clear aa K')|(apply Exists.intro;refine ⟨λwx G=>?_,aa _ ?_⟩;(have aX:C wx (X_ (Y_ w)+1) 0 p.id:=G.cell 0;have e1:C wx (X_ (Y_ w)+1) 1 p.prio:=G.cell 1;have e2:C wx (X_ (Y_ w)+1) 2 (B_ Z'):=G.cell 2;have e3:C wx (X_ (Y_ w)+1) 3 p.r0:=G.cell 3;have e4:C wx (X_ (Y_ w)+1) 4 p.r1:=G.cell 4;have e5:C wx (X_ (Y_ w)+1) 5 p.r2:=G.cell 5;have e6:C wx (X_ (Y_ w)+1) 6 p.l0:=G.cell 6;have e7:C wx (X_ (Y_ w)+1) 7 p.l1:=G.cell 7;have e8:C wx (X_ (Y_ w)+1) 8 p.l2:=G.cell 8;have e9:C wx (X_ (Y_ w)+1) 9 p.eO:=G.cell 9;have aT:C wx (X_ (Y_ w)+1) 10 p.size:=G.cell 10;go_simp;first|done|rfl|(rw [if_pos o_]));clear aa K')))
    refine dm.dn 1 4 ?_;refine XH rfl rfl (v:=S_ (Y' ⟨X_ (Y_ w7),0,Z_⟩) 0 0) (w':=w7.drew.alloc (.cells #[] 5)) f_ (Hd (Xn ak.drew)) ?_;refine XO 4 3 ?_;refine XH rfl rfl (v:=S_ A8 (m - 64 - 1) c8) (w':=w8) (Tw.jr _ _ _ _ rfl (S_ (Y' ⟨X_ (Y_ w7),0,Z_⟩) 0 0) (S_ A2 (m - 64 - 1) (c3 - 64 - 1)) rfl (by rw [bt.o];rfl) bJ) (Hd ac) ?_;refine XO 5 2 ?_;refine dm.skip rfl rfl (w':=V) (by rw [bo.o];exact ft 42 _ _ rfl w.heap.size 0 #[T_ p.id,I_ J_ p.prio,B_ Z',I_ J_ p.r0,I_ J_ p.r1,I_ J_ p.r2,I_ J_ p.l0,I_ J_ p.l1,I_ J_ p.l2,T_ p.eO,I_ J_ p.size] rfl rfl (eU.gP aF y_) k_ v_) (Hd aW) ?_;refine Yf 0 (Hd aW) [6,7] ?_;refine dm.fi ?_;obtain ⟨v0,v1,v2,v3,v4,v5,v6,v7,v8,v9,cZ,-⟩:=kA I;go_wp2_with fail
    all_goals refine bodyPost_ret (v:=U_ #[A_ #[T_ p.id,I_ J_ p.prio,B_ Z',I_ J_ p.r0,I_ J_ p.r1,I_ J_ p.r2,I_ J_ p.l0,I_ J_ p.l1,I_ J_ p.l2,T_ p.eO,I_ J_ p.size],S_ A8 (m - 64 - 1) c8,I_ J_ 0]) (by simp [*,results,results146,go_sem]) rfl bF
   |false=>
    obtain rfl:cb=0:=bD;have aV:Xb (#[T_ p.id,I_ J_ p.prio,B_ WW,I_ J_ p.r0,I_ J_ p.r1,I_ J_ p.r2,I_ J_ p.l0,I_ J_ p.l1,I_ J_ p.l2,T_ p.eO,I_ J_ p.size]=p.arr):=Hd (by unfold XV;rw [<-bS.o]);let ⟨F,ab⟩:=nm (((wr.setCell ⟨X_ (Y_ w)+1,1,Z_⟩ (I_ J_ p.prio)).setCell ⟨X_ (Y_ w)+1,2,Z_⟩ (B_ WW)).drew);have HP:Xb (Xd F (X_ (Y_ w)+1) 42 #[T_ p.id,I_ J_ p.prio,B_ WW,I_ J_ p.r0,I_ J_ p.r1,I_ J_ p.r2,I_ J_ p.l0,I_ J_ p.l1,I_ J_ p.l2,T_ p.eO,I_ J_ p.size]):=by rw [ab];exact XI ((az.eC 1 _).eC 2 _)
    have aE:Xb (Xd F w.heap.size 42 #[T_ ⟨#[]⟩,I_ J_ 0,B_ WW,I_ J_ 0,I_ J_ 0,I_ J_ 0,I_ J_ 0,I_ J_ 0,I_ J_ 0,T_ ⟨#[]⟩,I_ J_ 0]):=by rw [ab];exact XI ((HZ.fA y_).fA y_)
    have HB:Xb (Bw w F):=by rw [ab];exact ((ar.setCell y_ _).setCell y_ _).drew
    have aY:F.cell? ⟨gb,o3+64,Z_⟩=Y' (.int .u8 0):=by
     exact ms91
    have aQ:=Hd ab;clear ab;go_upto_region 19 with fail
    go_region
    rw [<-aQ.o];clear x1 x2 ca cp ao aQ bf bg cy b5 bh bX;obtain ⟨aX,e1,e2,e3,e4,e5,e6,e7,e8,e9,aT,-⟩:=kA HP;go_wp2_with fail;clear aX e1 e2 e3 e4 e5 e6 e7 e8 e9 aT aY;rw [aV.o];refine (bE _).mono ?_;rintro e w7 ⟨rfl,an⟩;have HBc:=Hd (HB.trans (an.mono HB.size));have ak:=Hd (HP.a_ an);have U:=Hd (aE.a_ an);clear an HP aE HB;have aC:=H3.tG HBc;have am:XE w7 w7.heap.size 1 (if c3 - 64=1 then Y' ⟨gb,o3+64,Z_⟩ else Y' ⟨gb,o3+64+1,Z_⟩) (m - 64 - 1) (r.map uv):=by
     exact ms90
    let ⟨A2,ap⟩:=nm ((if c3 - 64=1 then Y' (⟨gb,o3+64,Z_⟩:Xa) else Y' ⟨gb,o3+64+1,Z_⟩));rw [<-ap] at am;have bt:=Hd ap;have al:Ro.Row (w7.drew.alloc (.cells #[] 5)) 5 1 (Y' ⟨X_ (Y_ w7),0,Z_⟩) 0 0 []:=Ro.Row.new (w:=w7.drew) (cs:= #[]) rfl d_;let ⟨A8,c8,w8,av,au,aH,aN⟩:=Ro.app (P:=Xc) (ty:=65) (c2:=c3 - 64 - 1) UY al (am.drew.alloc l_ _) (λu hu=>by obtain ⟨x,_,rfl⟩:=XP.1 hu;rfl) e_ o_;simp only [Nat.zero_add,XS] at av au;have O:=(b_.drew.alloc l_ _).trans (aH.below y_ (λb hb e=>absurd (show w7.heap.size=b by simpa [Xw] using e) (by have hq:w7.drew.heap.size=X_ (Y_ w7):=rfl;omega)));have ac:=Hd (ak.a_ O);have aF:=Hd (U.a_ O);have HB4:=Hd (HBc.trans (O.mono HBc.size));have bJ:=Hd av;have bK:=Hd au;have aL:=Hd (show∀b,Xw A8=Y' b->X_ (Y_ w)<b from λb hb=>by
     have cM:=U.lt;obtain e|e:=aN
     .rw [e] at hb
      have:X_ (Y_ w7)=b:=by simpa [Xw] using hb
      omega
     .rw [e] at hb
      simp at hb;omega)
    let ⟨V,af⟩:=nm (w8.setCells w.heap.size 0 (#[T_ p.id,I_ J_ p.prio,B_ WW,I_ J_ p.r0,I_ J_ p.r1,I_ J_ p.r2,I_ J_ p.l0,I_ J_ p.l1,I_ J_ p.l2,T_ p.eO,I_ J_ p.size]:Array WY).toList);have ae:Xd V w.heap.size 42 #[T_ p.id,I_ J_ p.prio,B_ WW,I_ J_ p.r0,I_ J_ p.r1,I_ J_ p.r2,I_ J_ p.l0,I_ J_ p.l1,I_ J_ p.l2,T_ p.eO,I_ J_ p.size]:=by rw [af];exact Bq aF rfl
    have ai:Xv (λb=>b=X_ (Y_ w)) w8 V:=by rw [af];exact eU.eI _ _ _
    have aW:=Hd (XG ac ai y_);have bo:=Hd af;have bF:=Hd (show∃(A':Option Xa) (c':Nat),(Xk (U_ #[A_ #[T_ p.id,I_ J_ p.prio,B_ WW,I_ J_ p.r0,I_ J_ p.r1,I_ J_ p.r2,I_ J_ p.l0,I_ J_ p.l1,I_ J_ p.l2,T_ p.eO,I_ J_ p.size],S_ A8 (m - 64 - 1) c8,I_ J_ 0]))=R_ (U_ #[A_ p.arr,S_ A' r.length c',I_ J_ 0])/\eF w V 5 1 A' r.length c' (r.map uv) from by
     have aG:m - 64 - 1=r.length:=by have:=bj.o;omega
     refine ⟨A8,c8,by rw [aV.o,aG],HB4.trans (ai.below HB4.size (λb hb e=>o_)),?_,λb hb=>Nat.le_of_lt (aL b hb)⟩;have h1:=bK.o;rw [aG] at h1;exact h1.dy λb hb=>ai.block b (h1.lt hb) (λe=>by have:=aL.o b hb;omega))
    have I:=Hd ae;clear ae ai af av au aH aN O al aC am ap;go_upto_region 22 with fail;refine XW (S:=λwx=>Xb (Xd wx (X_ (Y_ w)+1) 42 #[T_ p.id,I_ J_ p.prio,B_ WW,I_ J_ p.r0,I_ J_ p.r1,I_ J_ p.r2,I_ J_ p.l0,I_ J_ p.l1,I_ J_ p.l2,T_ p.eO,I_ J_ p.size])) k_ ?_;refine dm.tk 5 (Hd ak.drew) [0,2,3] ?_
    iterate 3 (refine dm.dG rfl (λK' aa=>?_);go_simp;(first|(refine aa _ ?_;clear aa K')|(apply Exists.intro;refine ⟨λwx G=>?_,aa _ ?_⟩;(have aX:C wx (X_ (Y_ w)+1) 0 p.id:=G.cell 0;have e1:C wx (X_ (Y_ w)+1) 1 p.prio:=G.cell 1;have e2:C wx (X_ (Y_ w)+1) 2 (B_ WW):=G.cell 2;have e3:C wx (X_ (Y_ w)+1) 3 p.r0:=G.cell 3;have e4:C wx (X_ (Y_ w)+1) 4 p.r1:=G.cell 4;have e5:C wx (X_ (Y_ w)+1) 5 p.r2:=G.cell 5;have e6:C wx (X_ (Y_ w)+1) 6 p.l0:=G.cell 6;have e7:C wx (X_ (Y_ w)+1) 7 p.l1:=G.cell 7;have e8:C wx (X_ (Y_ w)+1) 8 p.l2:=G.cell 8;have e9:C wx (X_ (Y_ w)+1) 9 p.eO:=G.cell 9;have aT:C wx (X_ (Y_ w)+1) 10 p.size:=G.cell 10;go_simp;first|done|rfl|(rw [if_pos o_]));clear aa K')))
    refine dm.dn 1 4 ?_;refine XH rfl rfl (v:=S_ (Y' ⟨X_ (Y_ w7),0,Z_⟩) 0 0) (w':=w7.drew.alloc (.cells #[] 5)) f_ (Hd (Xn ak.drew)) ?_;refine XO 4 3 ?_;refine XH rfl rfl (v:=S_ A8 (m - 64 - 1) c8) (w':=w8) (Tw.jr _ _ _ _ rfl (S_ (Y' ⟨X_ (Y_ w7),0,Z_⟩) 0 0) (S_ A2 (m - 64 - 1) (c3 - 64 - 1)) rfl (by rw [bt.o];rfl) bJ) (Hd ac) ?_;refine XO 5 2 ?_;refine dm.skip rfl rfl (w':=V) (by rw [bo.o];exact ft 42 _ _ rfl w.heap.size 0 #[T_ p.id,I_ J_ p.prio,B_ WW,I_ J_ p.r0,I_ J_ p.r1,I_ J_ p.r2,I_ J_ p.l0,I_ J_ p.l1,I_ J_ p.l2,T_ p.eO,I_ J_ p.size] rfl rfl (eU.gP aF y_) k_ v_) (Hd aW) ?_;refine Yf 0 (Hd aW) [6,7] ?_;refine dm.fi ?_;obtain ⟨v0,v1,v2,v3,v4,v5,v6,v7,v8,v9,cZ,-⟩:=kA I;go_wp2_with fail
    all_goals refine bodyPost_ret (v:=U_ #[A_ #[T_ p.id,I_ J_ p.prio,B_ WW,I_ J_ p.r0,I_ J_ p.r1,I_ J_ p.r2,I_ J_ p.l0,I_ J_ p.l1,I_ J_ p.l2,T_ p.eO,I_ J_ p.size],S_ A8 (m - 64 - 1) c8,I_ J_ 0]) (by simp [*,results,results146,go_sem]) rfl bF
def Od:Ye Xc 65 5 (.int .u8 0) 1 1:=⟨underlying65,k_,rfl,d_⟩
section
variable {P:Program} {W w w':WX} {t e:TypeId} {z:WY} {k bytes n c m c2 B:Nat} {A A2:Option Xa} {xs news:List WY}
def TN (E:Ye P t e z k bytes) (h:eF W w e k A n c xs) (hs:XE w B k A2 m news) (O: ∀u∈news,u.oneCell'=Z') (hn:n+m<=100000) (F:bytes<=1000):
  ∃A' c' w',(Xp #[t,t] t #[S_ A n c,S_ A2 m c2]).run P w= .ok (S_ A' (n+m) c') w'/\eF W w' e k A' (n+m) c' (xs++news)/\Xv (λb=>Xw A=Y' b) w w':=by
 have X:=h.below.size;have G:(n+m)*bytes<=140737488355328:=by
  have:(n+m)*bytes<=100000*1000:=Nat.mul_le_mul hn F;omega
 let ⟨A',c',w',hr,V,I,U⟩:=Ro.app (P:=P) (ty:=t) (c2:=c2) E h.row hs O e_ G;refine ⟨A',c',w',hr,⟨h.below.trans (I.below X (λb F e=>by have:=h.fresh b e;omega)),V,λb F=>?_⟩,I⟩;obtain e|e:=U
 .rw [e] at F;exact h.fresh b F
 .rw [e] at F
  have:X_ (Y_ w)=b:=by simpa using F
  omega
def Wm (hk:P.underlying tx=Y' .string) (E:Ye P t e z 1 bytes) (h:eF W w e 1 A n c xs) (s:ByteArray) (hm:0<s.size) (hn:n+s.size<=100000) (U:bytes<=1000):
  ∃A' c' w',(Xp #[t,tx] t #[S_ A n c,T_ s]).run P w= .ok (S_ A' (n+s.size) c') w'/\eF W w' e 1 A' (n+s.size) c' (xs++byteCells s)/\Xv (λb=>Xw A=Y' b) w w':=by
 let ⟨i,hi,hz,V,ai⟩:=info_parts E.info;have ac:=h.below.size;have G:Src P i.size tx (T_ s) s.size (byteCells s) w:=by rw [V];exact Src.ofString w hk s
 have O:=h.row.1;have ak:(n+s.size)*bytes<=140737488355328:=by
  have:(n+s.size)*bytes<=100000*1000:=Nat.mul_le_mul hn U;omega
 have F:=byteCells_length s;by_cases I:n+s.size<=c
 .obtain ⟨g,off,rfl⟩:=h.row.fe o_
  let ⟨ys,hy,ht⟩:=h.row.full;let ⟨w',hr,hR,hO⟩:=hy.put (P:=P) (n*1) (byteCells s) (by rw [F];omega) G.one;have am:(Xp #[t,tx] t #[S_ (Y' ⟨g,off,Z_⟩) n c,T_ s]).run P w= .ok (S_ (Y' ⟨g,off,Z_⟩) (n+s.size) c) w':=by
   have F:=G.cells;rw [V] at F;rw [Xl] at hr;simp [Xp,run_underlying E.ty,run_underlying hk,sizeOf,typeInfo,hi,G.len,I,F,Addr.add_lit,V,hr]
  have X:Xv (λb=>Xw (Y' ⟨g,off,Z_⟩)=Y' b) w w':=hO.mono (λb _ U=>by subst U;rfl);refine ⟨_,c,w',am,⟨h.below.trans (X.below ac (λb U e=>by have:=h.fresh b e;omega)),?_,h.fresh⟩,X⟩;have:=hR.cut (n+s.size) I;rw [Xl,Xl,Ro.vL F (by rw [hy.1];omega)] at this;rw [Xl] at ht;rw [ht] at this;exact this
 .have aa:(Builtin.firstCells i.size n (S_ A n c)).run P w.drew= .ok xs.toArray w.drew:=by
   rw [V];obtain ⟨rfl,h0⟩|⟨g,off,cur,rfl,_⟩:=h.row.2.2.2
   .have hn:=h.row.2.1
    obtain rfl:n=0:=o_;have hx:xs=[]:=List.eq_nil_of_length_eq_zero (by simpa using O);subst hx;exact run_firstCells_none w.drew 1 0 0 c
   .exact run_firstCells_some w.drew 1 n ⟨g,off,Z_⟩ n c xs O (λj v hj=>by
     let ⟨hj,e⟩:=List.getElem?_eq_some_iff.1 hj;rw [<-e,Addr.add_lit];exact h.row.cell j hj)
  have al:n+s.size<=maxLen:=by unfold maxLen;omega
  have hr:=run_append_grow_src (P:=P) w t tx t e i z E.ty hi hz A n c xs aa _ s.size _ G o_ o_ (by rw [ai];exact growslice_fits o_ ak);have ah:=grownCap_ge w (n+s.size) c e;have hO:Xv (λb=>Xw A=Y' b) w (w.drew.alloc (.cells ((xs++byteCells s).toArray++Builtin.zeroCells z.cells (grownCap w (n+s.size) c e - (n+s.size))) e)):=⟨rfl,rfl,rfl,by simp,λb U _=>Below.heap_alloc w.drew _ b U⟩;refine ⟨_,_,_,hr,⟨h.below.trans (hO.below ac (λb U e=>by have:=h.fresh b e;omega)),⟨by rw [Xe,O,F,Xl,Xl],ah,grownCap_le_maxLen w (n+s.size) c e al,.inr ⟨_,0,_,rfl,heap_alloc_new w.drew _,?_,?_⟩⟩,λb U=>?_⟩,hO⟩
  .rw [Array.size_append,Ro.iZ,E.zs]
   simp only [List.size_toArray,Xe,O,F,Xl];omega
  .have hl:(n+s.size)*1=(xs++byteCells s).length:=by rw [Xe,O,F,Xl,Xl]
   exact EC
  .have:X_ (Y_ w)=b:=q_ U
   omega
end
def Jm (s:ByteArray):byteCells s=(bytesOf s).map uv:=rfl
def xR (n:Nat) (j:Nat) (F:j<8):IntKind.u8.wrap ((n:Int)/((2^(56 - 8*j):Nat):Int))=(((Xg n)[j]'(by rw [Xo];exact F)).toNat:Int):=by
 have G: ∀m:Nat,IntKind.u8.wrap (m:Int)=((m%256:Nat):Int):=λm=>by
  unfold IntKind.wrap;simp [IntKind.bits,XY]
 rw [<-Int.natCast_ediv,G];have:j=0\/j=1\/j=2\/j=3\/j=4\/j=5\/j=6\/j=7:=o_;obtain rfl|rfl|rfl|rfl|rfl|rfl|rfl|rfl:=this<;>simp [Xg,Yg]
def DU (p:dz):Array WY:= #[T_ p.id,I_ J_ (p.prio+1073741824).toNat,B_ p.fB,I_ J_ p.r0.toNat,I_ J_ p.r1.toNat,I_ J_ p.r2.toNat,I_ J_ p.l0.toNat,I_ J_ p.l1.toNat,I_ J_ p.l2.toNat,T_ p.eO,I_ J_ p.size.toNat]
def Nz {p:dz} (h:vq p):p.arr.setIfInBounds 1 (I_ J_ ((p.prio+1073741824).toNat:Nat))=DU p:=by
 let ⟨⟨k0,k1⟩,X,F,G,V,O,I,U,_,_⟩:=h;unfold XV DU;rw [Xh X,Xh F,Xh G,Xh V,Xh O,Xh I,Xh U];rfl
def jN (p:dz):(numsOf p).length=8:=rfl
def nN (p:dz) (k:Nat):Nat:=(numsOf p).getD k 0
def Jk (k:Nat):Nat:=qO.getD k 0
def ms529 {p:Prop} (h:p:=by
 have:k=0\/k=1\/k=2\/k=3\/k=4\/k=5\/k=6\/k=7:=o_;obtain rfl|rfl|rfl|rfl|rfl|rfl|rfl|rfl:=this<;>rfl):p:=h
def Vn (g k:Nat) (hk:k<8):(oM g)[k]?=Y' (P_ (Y' ⟨g,Jk k,Z_⟩)):=by
 exact ms529
def NA (p:dz) (k:Nat) (hk:k<8):(DU p)[Jk k]?=Y' (I_ J_ (nN p k:Nat)):=by
 exact ms529
def rO (p:dz) (k:Nat):List UInt8:=(([p.id,p.eO].take k).map λs=>Ya (bytesOf s)).flatten
def DV (p:dz) (k:Nat) (hk:k<2):rO p (k+1)=rO p k++Xf ([p.id,p.eO][k]'hk).size::bytesOf ([p.id,p.eO][k]'hk):=by
 have e: ∀s:ByteArray,(bytesOf s).length=s.size:=λs=>by simp [bytesOf]
 have:k=0\/k=1:=o_;obtain rfl|rfl:=this<;>simp [rO,Ya,e]
def sk (p:dz) (k:Nat):List UInt8:=rO p 2++(((numsOf p).take k).map Xg).flatten
def Jl (p:dz) (k:Nat) (hk:k<=8):(sk p k).length=(rO p 2).length+8*k:=by
 unfold sk;rw [Xe,Tp.dO,List.length_take,jN];omega
def DW (p:dz) (k:Nat) (F:k<8):sk p (k+1)=sk p k++Xg (nN p k):=by
 have e:nN p k=(numsOf p)[k]'(by rw [jN];exact F):=by unfold nN;rw [List.getD_eq_getElem?_getD,List.getElem?_eq_getElem (by rw [jN];exact F)];rfl
 rw [e];unfold sk;rw [Mem.dQ (numsOf p) k (by rw [jN];exact F),XT,XK,XD];simp
def DX (p:dz):eV p=sk p 8++[if p.fB then 1 else 0]:=by
 unfold eV sk rO;rw [show (numsOf p).take 8=numsOf p from t_ (by rw [jN];omega)];simp
def nQ (n:Nat):IntKind.u8.wrap (n:Int)=((Xf n).toNat:Int):=by
 rw [Yg];unfold IntKind.wrap;simp [IntKind.bits,XY]
def BF (n j:Nat) (hj:j<8):(Xg n).take (j+1)=(Xg n).take j++[(Xg n)[j]'(by rw [Xo];exact hj)]:=Xt (by rw [Xo];exact hj)
def TO (l:List UInt8): ∀u∈l.map uv,u.oneCell'=Z':=by
 intro u F;obtain ⟨x,_,rfl⟩:=XP.1 F;rfl
def eF.base {W:WX} (h:eF W w e k A n c xs) (hb:Bw W' W):eF W' w e k A n c xs:=
 ⟨hb.trans (h.below.mono hb.size),h.row,λb e=>Xx hb.size (h.fresh b e)⟩
def zR {W:WX} {T:TypeId} (h:eF W w e k A n c xs) (hk:Xd w g T cs) (he:e≠T) (ho:Xv (λb=>Xw A=Y' b) w w'):Xd w' g T cs:=
 (ho.block g hk.lt (λe=>h.row.dZ hk he g e rfl)).trans hk
def Qi (p:dz) (hp:XX p=Z') (bz:p.ok) (w:WX):
  WZ Xc 161 #[A_ p.arr] w λe w'=> ∃(A':Option Xa) (c':Nat),e=R_ (U_ #[.slice A' (eV p).length c',I_ J_ 0])/\eF w w' 5 1 A' (eV p).length c' ((eV p).map uv):=by
 have hN:=qg hp;have HN:=Hd hN;have HNL:Xb (∀k,k<8->nN p k<9223372036854775808):=λk hk=>Bt hN bz _ (by unfold nN;rw [List.getD_eq_getElem?_getD,List.getElem?_eq_getElem (by rw [jN];exact hk)];exact g_ _)
 have hb:=Hd (λX=>Ta.nR p X bz);rw [hp] at hb;have a6:=Hd (show∀k (hk:k<2),0<([p.id,p.eO][k]'hk).size/\([p.id,p.eO][k]'hk).size<=24 from by
  have h2:=hp;unfold XX at h2;simp only [Xm] at h2;let ⟨_,_,_,h1,h2,_⟩:=h2;have h1:=Ta.lA h1;have h2:=Ta.lA h2;intro k hk;have:k=0\/k=1:=o_;obtain rfl|rfl:=this
  .exact h1
  .exact h2)
 have HPL:=Hd (show∀k,k<=2->(rO p k).length<=100 from by
  intro k hk;have e: ∀s:ByteArray,(bytesOf s).length=s.size:=λs=>by simp [bytesOf]
  have h0:=a6 0 o_;have h1:=a6 1 o_;simp only [List.getElem_cons_zero,List.getElem_cons_succ] at h0 h1;have:k=0\/k=1\/k=2:=o_;obtain rfl|rfl|rfl:=this<;>simp [rO,Ya,e]<;>omega)
 have di:=Hd (show∀X,Xd X w.heap.size 42 p.arr->Xd (X.setCell ⟨X_ (Y_ w),1,Z_⟩ (I_ J_ ((p.prio+1073741824).toNat:Nat))) w.heap.size 42 (DU p) from λX h=>by
  rw [<-Nz HN.o];exact h.eC 1 _)
 have HPA:=Hd (NA p);have hwp:IntKind.i64.wrap (p.prio+1073741824)=((p.prio+1073741824).toNat:Int):=by
  have h1:=hN.prio;rw [Xz o_ o_];omega
 have HPB:=Hd (DX p);have HS:Xb (Xd (w.alloc (.cells p.arr 42)) w.heap.size 42 p.arr):=Xi;have HBc:=Hd ((Below.refl w.heap.size w).alloc l_ (.cells p.arr 42));have cD:=Hd (DV p);have HNN:=Hd (DW p);have HNLn:=Hd (Jl p);have HN0:Xb (sk p 0=rO p 2):=Hd (by unfold sk;simp);have HZ0:Xb (rO p 0=[]):=rfl;have HA2:Xb ((DU p)[2]?=Y' (B_ p.fB)):=rfl;clear hp bz hN;generalize eV p=PB at*;generalize (p.prio+1073741824).toNat=N0 at*;generalize DU p=AN at*;generalize nN p=NU at*;generalize rO p=PS at*;generalize sk p=PN at*;obtain ⟨pid,pprio,pcrit,pr0,pr1,pr2,pl0,pl1,pl2,pimg,psize⟩:=p;unfold XV at*
 dsimp only at*
 go_enter func161,ntmps161;go_wp2_with fail;refine (hb _).mono ?_;rintro e w1 ⟨rfl,O⟩;have HP:=Hd (HS.a_ O);have HB:=Hd (HBc.trans (O.mono HBc.size));clear O;let ⟨w2,hw2⟩:=nm (w1.alloc (.cells #[T_ pid,T_ pimg] 9));have an:Bw w1 w2:=by rw [hw2];exact dL
 have aB:=Hd (HB.trans (an.mono HB.size));have ak:=Hd (HP.a_ an);have aP:Xb (Xd w2 w1.heap.size 9 #[T_ pid,T_ pimg]):=by rw [hw2];exact Xi
 have HC2:=Hd (show∀k (hk:k<2),w2.cell? ⟨X_ (Y_ w1),k,Z_⟩=Y' (T_ ([pid,pimg][k]'hk)) from by
  intro k hk;have:k=0\/k=1:=o_;obtain rfl|rfl:=this
  .exact aP.cell 0
  .exact aP.cell 1)
 have HLT:Xb (X_ (Y_ w1)<X_ (Y_ w2)):=Hd (by rw [hw2];simp);have x0:w1.cell? ⟨X_ (Y_ w),0,Z_⟩=Y' (T_ pid):=HP.cell 0;have x9:w1.cell? ⟨X_ (Y_ w),9,Z_⟩=Y' (T_ pimg):=HP.cell 9;have HW2:=Hd hw2;clear hw2 an;go_wp2_with fail;rw [<-HW2.o];clear x0 x9;go_loopw [4,19] (λv4 vi wr=> ∃(k:Nat) (A:Option Xa) (c:Nat),k<=2/\vi=I_ J_ k/\v4= .slice A (PS k).length c/\Xb (eF w2 wr 5 1 A (PS k).length c ((PS k).map uv))) (λ_ i _=>2 - (intOf i).toNat)
 .exact ⟨0,Z_,0,o_,rfl,(by rw [HZ0.o];rfl),Hd (by rw [HZ0.o];exact eF.nil b_)⟩
 .obtain ⟨k,A,c,hk,rfl,rfl,bw⟩:=hrel
  by_cases hk2:k<2
  .have hs:=a6 k hk2
   have hc:=HC2 k hk2;have hn:=cD k hk2;have hlen:=HPL k o_;generalize [pid,pimg][k]'hk2=S at*;have hc3:wr.cell? ⟨X_ (Y_ w1),k,Z_⟩=Y' (T_ S):=by rw [bw.o.below.cell HLT.o];exact hc
   have hby:=nQ S.size;generalize Xf S.size=Y at*;obtain ⟨A2,c2,w3,an,hb3,-⟩:=bw.push Od #[.int .u8 Y.toNat] rfl v_ o_ d_ rfl;obtain ⟨A4,c4,w4,aN,ah,-⟩:=Wm underlying9 Od hb3 S hs.1 o_ d_;have HB4:Xb (eF w2 w4 5 1 A4 (PS (k+1)).length c4 ((PS (k+1)).map uv)):=(by
    rw [hn];have e1:(PS k++Y::bytesOf S).length=(PS k).length+1+S.size:=by simp [bytesOf];omega
    have e2:(PS k++Y::bytesOf S).map uv=(PS k).map uv++(#[Xy .u8 Y.toNat]:Array WY).toList++byteCells S:=by rw [Jm];simp [uv]
    rw [e1,e2];exact ah)
   have hl5:(PS (k+1)).length=(PS k).length+1+S.size:=by rw [hn];simp [bytesOf];omega
   have hw:=Xz (n:=(k:Int)+1) o_ o_;rw [<-hl5] at aN;clear hb3 ah hn hlen hl5 hc bw;go_wp2_with (at_builtin;first|refine Yb rfl _ _ _ _ rfl _ _ rfl rfl an ?_|refine Yb rfl _ _ _ _ rfl _ _ rfl rfl aN ?_)
   go_roundw
   .exact ⟨k+1,A4,c4,o_,by go_num,rfl,HB4⟩
   .simp [intOf];omega
  .obtain rfl:k=2:=o_
   have a5:=Hd (eF.base bw aB);have a8:=Hd (ak.a_ bw.below);have x1:wr.cell? ⟨X_ (Y_ w),1,Z_⟩=Y' (I_ J_ pprio):=a8.cell 1;have f1:=a8.frozen 1;let ⟨X,cS⟩:=nm (wr.setCell ⟨X_ (Y_ w),1,Z_⟩ (I_ J_ (N0:Nat)));have cC:=di wr a8;rw [<-cS] at cC;have bm:Xv (λb=>b=X_ (Y_ w)) wr X:=by rw [cS];exact Xq wr ⟨X_ (Y_ w),1,Z_⟩ _
   have cE:eF w X 5 1 A (PS 2).length c ((PS 2).map uv):=⟨a5.below.trans (bm.below a5.below.size (λb F e=>o_)),a5.row.only bm (λb F e=>a5.row.dZ a8 d_ b F e),a5.fresh⟩;have HKX:=Hd cC;have HBX:=Hd cE;have HX:=Hd cS;have HNU:=Hd (tF w.heap.size X);clear cS cC bm cE bw a8 a5 di cD HC2 aP a6 hb;go_wp2_with fail;rw [<-HX.o];clear x1 f1;refine HNU.mono ?_;rintro e w5 ⟨rfl,hw5⟩;have hb5:Bw X w5:=by rw [hw5];exact (b_.drew).alloc l_ _
   have HB5:Xb (eF w w5 5 1 A (PN 0).length c ((PN 0).map uv)):=by rw [HN0.o];exact HBX.free hb5
   have HK5:=Hd (HKX.a_ hb5);have HP5:Xb (Xd w5 X.heap.size 168 (oM w.heap.size)):=by rw [hw5];exact Xi (w:=X.drew)
   clear hb5 hw5;go_wp2_with fail;rw [show (PS 2).length=(PN 0).length from by rw [HN0.o]];go_loopw [4,38] (λv4 vi wr=> ∃(k:Nat) (A:Option Xa) (c:Nat),k<=8/\vi=I_ J_ k/\v4= .slice A (PN k).length c/\Xb (eF w wr 5 1 A (PN k).length c ((PN k).map uv))/\Xb (Xd wr w.heap.size 42 AN)/\Xb (Xd wr X.heap.size 168 (oM w.heap.size))) (λ_ i _=>8 - (intOf i).toNat)
   .exact ⟨0,A,c,o_,rfl,rfl,HB5,HK5,HP5⟩
   .obtain ⟨k,A2,c2,hk,rfl,rfl,bw,HKb,HPb⟩:=hrel
    by_cases hk8:k<8
    .have HPLn:Xb ((PN k).length<=164):=Hd (by have:=HNLn.o k hk;have:=HPL.o 2 o_;omega)
     have hpn:=HPA k hk8;have hptr:wr.cell? ⟨X_ (Y_ X),k,Z_⟩=Y' (P_ (Y' ⟨X_ (Y_ w),Jk k,Z_⟩)):=by rw [HPb.o.cell];exact Vn _ k hk8
     have HNX:=Hd (HNN k hk8);have hnb:=HNL k hk8;have HKC:Xb (∀Y,Xd Y w.heap.size 42 AN->Y.cell? ⟨X_ (Y_ w),Jk k,Z_⟩=Y' (I_ J_ (NU k:Nat))):=λY hY=>by rw [hY.cell];exact hpn
     have hwk:=Xz (n:=(k:Int)+1) o_ o_;generalize NU k=N at*;generalize Jk k=q at*;have HB0':Xb (eF w wr 5 1 A2 (PN k).length c2 ((PN k++(Xg N).take 0).map uv)):=by rw [List.take_zero,List.append_nil];exact bw
     clear hpn bw;go_wp2_with fail;rw [show decide ((k:Int)<8)=Z' from dT];let ⟨m0,hm0⟩:=nm ((PN k).length);rw [<-hm0] at HPLn HB0';rw [<-hm0];have HM0:=Hd hm0;clear hm0;go_loopw [4,9] (λv4 vi wr=> ∃(j:Nat) (U:Int) (A:Option Xa) (c m:Nat),j<=8/\Xb (U=56 - 8*(j:Int))/\Xb (m=m0+j)/\vi=I_ J_ U/\v4=S_ A m c/\Xb (eF w wr 5 1 A m c ((PN k++(Xg N).take j).map uv))/\Xb (Xd wr w.heap.size 42 AN)/\Xb (Xd wr X.heap.size 168 (oM w.heap.size))) (λ_ i _=>(intOf i+8).toNat)
     .exact ⟨0,56,A2,c2,m0,o_,Hd rfl,Hd rfl,rfl,rfl,HB0',HKb,HPb⟩
     .obtain ⟨j,U,A3,c3,m,hj,HSH,HM,rfl,rfl,HBj,HKj,HPj⟩:=hrel
      have H3:=HSH.o;by_cases ar:j<8
      .have hcx:=HKC wr HKj
       have a3:decide ((0:Int)<=U)=Z':=dT;have bg:=xR N j ar;have bb:((2^(56 - 8*j):Nat):Int)=(2:Int)^U.toNat:=by
        rw [show U.toNat=56 - 8*j by omega,Int.natCast_pow];rfl
       rw [bb] at bg;have aV:=BF N j ar;generalize (Xg N)[j]'(by rw [Xo];exact ar)=Y at*;let ⟨A4,c4,w4,hr,ah,aA⟩:=HBj.push Od #[.int .u8 Y.toNat] rfl v_ (by have:=HM.o;have:=HPLn.o;omega) d_ rfl;have HB4:Xb (eF w w4 5 1 A4 (m+1) c4 ((PN k++(Xg N).take (j+1)).map uv)):=(by
        rw [aV];have e2:(PN k++((Xg N).take j++[Y])).map uv=(PN k++(Xg N).take j).map uv++(#[Xy .u8 Y.toNat]:Array WY).toList:=by simp [uv]
        rw [e2];exact ah)
       have HM2:Xb (m+1=m0+(j+1)):=Hd (by have:=HM.o;omega);have HK4:=Hd (zR HBj HKj d_ aA);have HP4:=Hd (zR HBj HPj d_ aA);have bj:Xb (U - 8=56 - 8*((j+1:Nat):Int)):=Hd o_;have hws:=Xz (n:=U - 8) o_ o_;clear aV ah aA bb;have aR:0<=U:=o_;have bZ:U<=56:=o_;clear H3;go_wp2_with (at_builtin;refine Yb rfl _ _ _ _ rfl _ _ rfl rfl hr ?_)
       go_roundw
       .exact ⟨j+1,U - 8,A4,c4,m+1,o_,bj,HM2,by go_num,rfl,HB4,HK4,HP4⟩
       .simp [intOf];omega
      .obtain rfl:j=8:=o_
       have a3:decide ((0:Int)<=U)=WW:=dF;have HB6:Xb (eF w wr 5 1 A3 (PN (k+1)).length c3 ((PN (k+1)).map uv)):=(by
        have:=HBj.o;rw [show (Xg N).take 8=Xg N from t_ (by rw [Xo];omega),<-HNX.o] at this;have e:m=(PN (k+1)).length:=by rw [HNX.o,Xe,Xo,<-HM0.o,HM.o]
        rw [e] at this;exact this)
       obtain rfl:m=(PN (k+1)).length:=by rw [HNX.o,Xe,Xo,<-HM0.o,HM.o]
       clear HM;have aR:U<0:=o_;clear H3;go_wp2;go_roundw
       .exact ⟨k+1,A3,c3,o_,by go_num,rfl,HB6,HKj,HPj⟩
       .simp [intOf];omega
    .obtain rfl:k=8:=o_
     have hlx:(PN 8).length<=164:=by have:=HNLn.o 8 o_;have:=HPL.o 2 o_;omega
     have x2:wr.cell? ⟨X_ (Y_ w),2,Z_⟩=Y' (B_ pcrit):=by rw [HKb.o.cell];exact HA2
     obtain ⟨A4,c4,w4,hr,ah,-⟩:=bw.push Od #[.int .u8 (if pcrit then (1:UInt8) else 0).toNat] rfl v_ o_ d_ rfl;have HFIN:Xb (∃(A':Option Xa) (c':Nat),(Xk (U_ #[S_ A4 ((PN 8).length+1) c4,I_ J_ 0]))=R_ (U_ #[S_ A' PB.length c',I_ J_ 0])/\eF w w4 5 1 A' PB.length c' (PB.map uv)):=(by
      have e1:PB.length=(PN 8).length+1:=by rw [HPB.o];simp
      have e2:PB.map uv=(PN 8).map uv++(#[Xy .u8 (if pcrit then (1:UInt8) else 0).toNat]:Array WY).toList:=by rw [HPB.o];simp [uv]
      refine ⟨A4,c4,by rw [e1],?_⟩;rw [e1,e2];exact ah)
     let ⟨m0,hm0⟩:=nm ((PN 8).length);rw [<-hm0] at HFIN hr;rw [<-hm0];clear ah hlx hm0 bw HKb HPb;cases pcrit
     all_goals
      simp only [XM,if_true,if_false] at hr;go_wp2_with (at_builtin;refine Yb rfl _ _ _ _ rfl _ _ rfl rfl hr ?_)
      exact bodyPost_ret (v:=U_ #[S_ A4 (m0+1) c4,I_ J_ 0]) (by simp [results,results161,go_sem]) rfl HFIN
def b1 (b:Bool) (n:Nat):Nat:=if b then n else 0
def Fo (o0 o1 o2:Bool):Nat:=b1 o0 1+b1 o1 2+b1 o2 4
def wu (o0 o1 o2:Bool):Nat->Nat
 |0=>0
 |1=>b1 o0 1
 |2=>b1 o0 1+b1 o1 2
 |_=>Fo o0 o1 o2
def eM (e:dq):List UInt8:=Xf e.ph.toNat::eV e.dC
def wv (r:Int) (o0 o1 o2:Bool) (n:Nat):List UInt8:=Xg r.toNat++[Xf (Fo o0 o1 o2),Xf n]
def eK (r:Int) (o0 o1 o2:Bool) (l:List dq):List UInt8:=wv r o0 o1 o2 l.length++(l.map eM).flatten
def lk {p:dz} (h:XX p=Z'):(eV p).length<=115:=by
 have F:=qg h;have e: ∀s:ByteArray,(bytesOf s).length=s.size:=λs=>by simp [bytesOf]
 have h1:=F.id;have h2:=F.eO;unfold eV;simp only [Xe,Tp.dO,Ya,Xj,e,jN,List.length_nil];omega
def nP: ∀l:List dq,(∀e∈l,XR e=Z')->((l.map eM).flatten).length<=116*l.length
 |[],_=>by simp
 |e::l,h=>by
  have h1:=h e y_;unfold XR at h1;simp only [Xm] at h1;have h2:=lk h1.1;have h3:=nP l λx hx=>h x (by simp [hx])
  rw [XL,XC,Xe,Xj];have e:(eM e).length=(eV e.dC).length+1:=rfl;omega
def Fp (r:Int) (o0 o1 o2:Bool) (n:Nat):(wv r o0 o1 o2 n).length=10:=by simp [wv,Xo]
def jn (h:Ta.eJ r l):10<=(eK r o0 o1 o2 l).length/\(eK r o0 o1 o2 l).length<=7434:=by
 have h1:=nP l h.each;have h2:=h.len;unfold eK;rw [Xe,Fp];omega
def indexB (a b c:Bool) (X:WX) (k:Nat) (hk:k<3):(Instr.index 32 (A_ #[a,b,c]) (I_ J_ k)).run Xc X= .ok (B_ (if k=0 then a else if k=1 then b else c)) X:=by
 exact Oc
def WD (a b c:Int) (h:IntKind.i64.wrap ((Xu 64 a|||Xu 64 b).toNat:Int)=c):bits XZ .i64 a b=c:=h
def WE: ∀(o0 o1 o2:Bool) (k:Nat) (I:k<3),(if (if k=0 then o0 else if k=1 then o1 else o2)=Z' then bits XZ .i64 ((wu o0 o1 o2 k:Nat):Int) (wrap64 (2^k)) else ((wu o0 o1 o2 k:Nat):Int))=((wu o0 o1 o2 (k+1):Nat):Int):=by
 intro o0 o1 o2 k I;have:k=0\/k=1\/k=2:=o_;obtain rfl|rfl|rfl:=this<;>cases o0<;>cases o1<;>cases o2<;>first|rfl|exact WD _ _ _ k_
def yt (F:k<l.length):((l.take (k+1)).map eM).flatten=((l.take k).map eM).flatten++(Xf l[k].ph.toNat::eV l[k].dC):=by
 rw [Mem.dQ l k F,XT,XK];simp [eM]
def Cg (h: ∀e∈l,XR e=Z'):(((l.take k).map eM).flatten).length<=116*l.length:=by
 have h1:=nP (l.take k) λe F=>h e (List.mem_of_mem_take F)
 have h2:(l.take k).length<=l.length:=by simp;omega
 omega
def Qh (r:Int) (A0:Option Xa) (n c0:Nat) (o0 o1 o2:Bool) (l:List dq) (w:WX) (h:XE w w.heap.size 12 A0 n (Xr l)) (F:l.length=n) (hS:Ta.eJ r l) (aw: ∀e∈l,e.ok):
  WZ Xc 101 #[A_ (Xs r A0 n c0 o0 o1 o2)] w λe w'=> ∃(A':Option Xa) (c':Nat),e=R_ (U_ #[.slice A' (eK r o0 o1 o2 l).length c',I_ J_ 0])/\eF w w' 5 1 A' (eK r o0 o1 o2 l).length c' ((eK r o0 o1 o2 l).map uv):=by
 have H:=Hd h;have HBc:Xb (Bw w (w.alloc (.cells (Xs r A0 n c0 o0 o1 o2) 34))):=Hd dL;have HS:Xb (Xd (w.alloc (.cells (Xs r A0 n c0 o0 o1 o2) 34)) w.heap.size 34 (Xs r A0 n c0 o0 o1 o2)):=Xi;have be:=Hd (λX (hX:XE X X.heap.size 12 A0 n (Xr l))=>Ta.wy r A0 n c0 o0 o1 o2 l X hX F hS aw);have bo:=Hd (show∀e∈l,XX e.dC=Z'/\e.dC.ok/\1<=e.ph/\e.ph<=3 from λe he=>by
  have h1:=hS.each e he;unfold XR at h1;simp only [Xm,decide_eq_true_eq] at h1;exact ⟨h1.1,(aw e he).dC,h1.2⟩)
 have bI:=Hd (λk=>Cg (k:=k) hS.each);have aQ:=hS.len;rw [F] at aQ;obtain ⟨N,hN⟩: ∃N:Nat,r=(N:Int):=⟨r.toNat,by have:=hS.r0;omega⟩;have hNb:N<=1099511627776:=by have:=hS.r1;omega
 have az:Xb (eK r o0 o1 o2 l=Xg N++[Xf (wu o0 o1 o2 3),Xf n]++(l.map eM).flatten):=Hd (by unfold eK wv;rw [hN,F];rfl);generalize eK r o0 o1 o2 l=PB at*;subst hN;have al:=Hd F;clear h hS aw F;unfold Xs at*;go_enter func101,ntmps101;have m0:=HS.o.cell 0;have m1:=HS.o.cell 1;go_wp2_with fail;refine (be.o _ ((H.o.below HBc.o).more HBc.o.size)).mono ?_;rintro e w1 ⟨rfl,hb4⟩;have aD:=Hd (HS.o.a_ hb4);have HB4:=Hd (HBc.o.trans (hb4.mono HBc.o.size));clear hb4 m0 m1;go_wp2;go_loopw [4,5] (λv4 vi wr=> ∃(j:Nat) (U:Int) (A:Option Xa) (c m:Nat),j<=8/\Xb (U=56 - 8*(j:Int))/\Xb (m=j)/\vi=I_ J_ U/\v4=S_ A m c/\Xb (eF w wr 5 1 A m c (((Xg N).take j).map uv))/\Xb (Xd wr w.heap.size 34 (Xs N A0 n c0 o0 o1 o2))) (λ_ i _=>(intOf i+8).toNat)
 .exact ⟨0,56,Z_,0,0,o_,Hd rfl,Hd rfl,rfl,rfl,Hd (eF.nil HB4.o),aD⟩
 .obtain ⟨j,U,A,c,m,hj,aC,HM,rfl,rfl,af,G⟩:=hrel
  have H3:=aC.o;by_cases ar:j<8
  .have hcx:C wr w.heap.size 0 (I_ J_ (N:Nat)):=G.o.cell 0
   refine TM ?_;intro a3 bg bb aV;generalize (Xg N)[j]'(by rw [Xo];exact ar)=Y at*;let ⟨A4,c4,w4,hr,ah,aA⟩:=af.o.push Od #[.int .u8 Y.toNat] rfl v_ (by have:=HM.o;omega) d_ rfl;have bL:Xb (eF w w4 5 1 A4 (m+1) c4 (((Xg N).take (j+1)).map uv)):=(by
    rw [aV];have e2:((Xg N).take j++[Y]).map uv=((Xg N).take j).map uv++(#[Xy .u8 Y.toNat]:Array WY).toList:=by simp [uv]
    rw [e2];exact ah)
   have O:Xb (m+1=j+1):=Hd (by have:=HM.o;omega);have bm:=Hd (zR af.o G.o d_ aA);have bj:Xb (U - 8=56 - 8*((j+1:Nat):Int)):=Hd o_;have hws:=Xz (n:=U - 8) o_ o_;clear aV ah aA bb;have aR:0<=U:=o_;have bZ:U<=56:=o_;clear H3;refine pN ?_;go_roundw
   .exact ⟨j+1,U - 8,A4,c4,m+1,o_,bj,O,by go_num,rfl,bL,bm⟩
   .simp [intOf];omega
  .obtain rfl:j=8:=o_
   have a3:decide ((0:Int)<=U)=WW:=dF;obtain rfl:m=8:=HM.o;have ap:Xb (eF w wr 5 1 A 8 c ((Xg N).map uv)):=(by
    have:=af.o;rw [show (Xg N).take 8=Xg N from t_ (by rw [Xo];omega)] at this;exact this)
   have aR:U<0:=o_;clear H3 af HM aC;obtain ⟨-,-,m2,m3,m4,-⟩:=kA G.o;have a0:=Hd (λk hk=>indexB o0 o1 o2 wr k hk);go_wp2_with fail;clear m2 m3 m4
   go_loop [6,30] (λv6 vi=> ∃k:Nat,k<=3/\vi=I_ J_ k/\v6=I_ J_ (wu o0 o1 o2 k:Nat)) (λ_ i=>3 - (intOf i).toNat)
   .exact ⟨0,o_,rfl,rfl⟩
   .obtain ⟨k,hk,rfl,rfl⟩:=hrel
    by_cases aZ:k<3
    .have hi:=a0.o k aZ
     have h3:=WE o0 o1 o2 k aZ;refine lI ?_;intro hw;let ⟨M2,ax⟩:=nm (wu o0 o1 o2 (k+1));rw [<-ax] at h3;have O:=Hd ax;clear ax;generalize (if k=0 then o0 else if k=1 then o1 else o2)=b at*;generalize wu o0 o1 o2 k=M1 at*;cases b
     .simp only [XM,if_false] at h3
      obtain rfl:M1=M2:=o_;go_wp2
      go_round
      .exact ⟨k+1,o_,by go_num,by first|rw [O.o]|rw [<-O.o]⟩
      .simp [intOf];omega
     .simp only [if_true] at h3
      go_wp2
      go_round
      .exact ⟨k+1,o_,by go_num,by first|rw [h3,O.o]|rw [O.o]⟩
      .simp [intOf];omega
    .obtain rfl:k=3:=o_
     have bw:=nQ (wu o0 o1 o2 3);have bJ:=nQ n;have m1:=c1 G.o;let ⟨A2,c2,w2,a2,aM,ag⟩:=TN (c2:=2) Od (ap.o.free (b_.alloc l_ (.cells #[.int .u8 (Xf (wu o0 o1 o2 3)).toNat,.int .u8 (Xf n).toNat] 5))) (Mem.gV (w:=wr) (n:=2) (size:=1) (cs:= #[.int .u8 (Xf (wu o0 o1 o2 3)).toNat,.int .u8 (Xf n).toNat]) (e:=5) rfl y_ rfl) v_ o_ d_;have a6:=Hd (zR (ap.o.free (b_.alloc l_ (.cells #[.int .u8 (Xf (wu o0 o1 o2 3)).toNat,.int .u8 (Xf n).toNat] 5))) G.o.alloc d_ ag);have bQ:=c1 a6.o;have a5:Xb (eF w w2 5 1 A2 10 c2 (((Xg N++[Xf (wu o0 o1 o2 3),Xf n])++((l.take 0).map eM).flatten).map uv)):=(by
      have e:((Xg N++[Xf (wu o0 o1 o2 3),Xf n])++((l.take 0).map eM).flatten).map uv=(Xg N).map uv++(#[Xy .u8 (Xf (wu o0 o1 o2 3)).toNat,Xy .u8 (Xf n).toNat]:Array WY).toList:=by simp [uv]
      rw [e];exact aM)
     let ⟨HD,ay⟩:=nm (Xg N++[Xf (wu o0 o1 o2 3),Xf n]);have aP:HD.length=10:=by rw [ay];simp [Xo]
     rw [<-ay] at a5 az;generalize Xf (wu o0 o1 o2 3)=Y1 at*;generalize Xf n=Y2 at*;generalize wu o0 o1 o2 3=MO at*;have bu:=Hd aP;clear aM ay aP a0 ag a6;go_wp2_with (at_builtin;refine Yb rfl _ _ _ _ rfl _ _ rfl rfl a2 ?_)
     clear a2 m1 bQ bw bJ G ap;go_loopw [4,52] (λv4 vi wr=> ∃(k:Nat) (A:Option Xa) (c m:Nat),k<=n/\Xb (m=10+((l.take k).map eM).flatten.length)/\vi=I_ J_ k/\v4=S_ A m c/\Xb (eF w wr 5 1 A m c ((HD++((l.take k).map eM).flatten).map uv))) (λ_ i _=>n - (intOf i).toNat)
     .exact ⟨0,A2,c2,10,o_,Hd y_,rfl,rfl,a5⟩
     .obtain ⟨k,A3,c3,m,hk,HM,rfl,rfl,aa⟩:=hrel
      by_cases bD:k<n
      .obtain ⟨ad,hl,rfl,hlb,bU,bF⟩:=dq.at_ (H.o.below aa.o.below) bD
       let ⟨hR,hO,bE,bA⟩:=bo.o l[k] (g_ hl);have ab:=Hd (yt hl);have aW:Xb (m<=7500):=Hd (by have:=bI.o k;have:=HM.o;have:=al.o;omega);generalize l[k]=q at*;have ac:=Hd (Qi q.dC hR hO);have a7:=Hd (lk hR);obtain ⟨ph,aG⟩: ∃ph:Nat,q.ph=(ph:Int):=⟨q.ph.toNat,o_⟩;obtain ⟨⟨qi,q1,q2,q3,q4,q5,q6,q7,q8,q9,V⟩,q11⟩:=q;obtain ⟨e0,e1,e2,e3,e4,e5,e6,e7,e8,e9,bH,bM⟩:=bF
       dsimp only at e0 e1 e2 e3 e4 e5 e6 e7 e8 e9 bH bM ab aG bE bA
       subst aG;unfold XV at ac
       dsimp only at ac
       let ⟨I,ak⟩:=nm (eV ⟨qi,q1,q2,q3,q4,q5,q6,q7,q8,q9,V⟩);rw [<-ak] at ac a7 ab;clear ak hR hO;have hby:=nQ ph;rw [show (((ph:Int)).toNat)=ph from rfl] at ab;generalize Xf ph=Y at*;refine lI ?_;intro hw;have aO:Bw wr (wr.alloc (.cells #[qi,q1,q2,q3,q4,q5,q6,q7,q8,q9,V,I_ J_ (ph:Int)] 58)):=dL;have bB:Xb (Xd (wr.alloc (.cells #[qi,q1,q2,q3,q4,q5,q6,q7,q8,q9,V,I_ J_ (ph:Int)] 58)) wr.heap.size 58 #[qi,q1,q2,q3,q4,q5,q6,q7,q8,q9,V,I_ J_ (ph:Int)]):=Xi;have br:=Hd (aa.o.free aO);have aE:(wr.alloc (.cells #[qi,q1,q2,q3,q4,q5,q6,q7,q8,q9,V,I_ J_ (ph:Int)] 58)).heap.size=X_ (Y_ wr)+1:=by simp
       clear aO;go_wp2_with fail;refine (ac.o _).mono ?_;rintro e w4 ⟨A5,c5,rfl,ae⟩;have x11:=pv (bB.o.a_ ae.below);let ⟨A6,c6,w6,an,a4,ao⟩:=(br.o.free ae.below).push Od #[.int .u8 Y.toNat] rfl v_ (by have:=aW.o;omega) d_ rfl;have am:=ae.row.only ao (λg hg e=>by
        have h1:=aa.o.row.lt e;have h2:=ae.fresh g hg;rw [aE] at h2;omega)
       obtain ⟨A7,c7,w7,aN,aT,-⟩:=TN (c2:=c5) Od a4 am.sl (TO _) (by have:=aW.o;have:=a7.o;omega) d_;have bh:Xb (eF w w7 5 1 A7 (m+1+I.length) c7 ((HD++((l.take (k+1)).map eM).flatten).map uv)):=(by
        rw [ab.o];have e2:(HD++(((l.take k).map eM).flatten++Y::I)).map uv=(HD++((l.take k).map eM).flatten).map uv++(#[Xy .u8 Y.toNat]:Array WY).toList++I.map uv:=by simp [uv]
        rw [e2];exact aT)
       have bp:Xb (m+1+I.length=10+((l.take (k+1)).map eM).flatten.length):=Hd (by rw [ab.o,Xe,Xj,HM.o];omega);clear ae a4 ao am aT aE;refine Oe ?_;go_roundw
       .exact ⟨k+1,A7,c7,m+1+I.length,o_,bp,by go_num,rfl,bh⟩
       .simp [intOf];omega
      .obtain rfl:k=n:=o_
       have aB:Xb (∃(A':Option Xa) (c':Nat),(Xk (U_ #[S_ A3 m c3,I_ J_ 0]))=R_ (U_ #[S_ A' PB.length c',I_ J_ 0])/\eF w wr 5 1 A' PB.length c' (PB.map uv)):=(by
        have e0:l.take k=l:=t_ (by have:=al.o;omega);have hb:=aa.o;rw [e0,<-az.o] at hb;have e1:m=PB.length:=by rw [HM.o,az.o,Xe,bu.o,e0]
        subst e1;exact ⟨A3,c3,rfl,hb⟩)
       clear aa HM;go_wp2;exact bodyPost_ret (v:=U_ #[S_ A3 m c3,I_ J_ 0]) (by simp [results,results101,go_sem]) rfl aB.o
def oz (G off c i:Nat): ∃F,MJ G off c i=Y' ⟨G,F,Z_⟩:=by
 unfold MJ;split
 .exact ⟨_,rfl⟩
 .exact ⟨_,rfl⟩
structure MI (w w':WX) (g:Nat) (r:List UInt8) (A:Option Xa) (c:Nat):Prop where
 dr:Xd w' g 179 #[S_ A r.length c,B_ WW]
 row:iv w' A r.length c r
 only:Xv (λb=>b=g) w w'
def MF (x:dq) (hx:XR x=Z') (aM:x.ok) (g X off n c:Nat) (r:List UInt8) (w:WX) (h:Xd w g 179 #[S_ (Y' ⟨X,off,Z_⟩) n c,B_ WW]) (hr:iv w (Y' ⟨X,off,Z_⟩) n c (eM x++r)) (hn:n<=90000):
  WZ Xc 86 #[P_ (Y' ⟨g,0,Z_⟩)] w λe w'=>e=R_ (A_ x.arr)/\ ∃(A':Option Xa) (c':Nat),MI w w' g r A' c':=by
 have hR:XX x.dC=Z':=by unfold XR at hx;simp only [Xm] at hx;exact hx.1
 obtain ⟨a9,a5⟩:1<=x.ph/\x.ph<=3:=by unfold XR at hx;simp only [Xm,decide_eq_true_eq] at hx;exact hx.2
 obtain ⟨ph,aI⟩: ∃ph:Nat,x.ph=(ph:Int):=⟨x.ph.toNat,o_⟩;have hgb:X≠g:=λe=>by
  let ⟨cur,hc⟩:=hr.type rfl;have:=h;unfold Xd at this;rw [e] at hc;rw [hc] at this;injection this with this
  injection this with _ h2 _
  exact absurd h2 d_
 let ⟨w1,ac⟩:=nm (w.alloc (.cells #[T_ ⟨#[]⟩,I_ J_ 0,B_ WW,I_ J_ 0,I_ J_ 0,I_ J_ 0,I_ J_ 0,I_ J_ 0,I_ J_ 0,T_ ⟨#[]⟩,I_ J_ 0,I_ J_ 0] 58));have ag:Bw w w1:=by rw [ac];exact dL
 have aK:Xd w1 w.heap.size 58 #[T_ ⟨#[]⟩,I_ J_ 0,B_ WW,I_ J_ 0,I_ J_ 0,I_ J_ 0,I_ J_ 0,I_ J_ 0,I_ J_ 0,T_ ⟨#[]⟩,I_ J_ 0,I_ J_ 0]:=by rw [ac];exact Xi
 have h1:=h.a_ ag;have aE:iv w1 (Y' ⟨X,off,Z_⟩) n c (eM x++r):=hr.dy λb hb=>ag.block b (hr.lt hb)
 have hz1:X_ (Y_ w1)=X_ (Y_ w)+1:=by rw [ac];simp
 have bg:=h.lt;have ab:(eV x.dC++r).length+1=n:=by have:=hr.len;simp [eM] at this |-;omega
 obtain ⟨n0,rfl⟩: ∃n0,n=n0+1:=⟨(eV x.dC++r).length,ab.symm⟩;have aA:=Hd (ko g X off n0 c (Xf x.ph.toNat) (eV x.dC++r) w1 h1 aE o_);let ⟨F,aC⟩:=oz X off c 1;rw [aC] at aA;have am:x.ph.toNat=ph:=o_;have aL:((Xf x.ph.toNat).toNat:Int)=(ph:Int):=by rw [Yg,am];omega
 rw [aL] at aA;let ⟨w2,ah⟩:=nm (w1.setCell ⟨g,0,Z_⟩ (S_ (Y' ⟨X,F,Z_⟩) n0 (c - 1)));have ho:Xv (λb=>b=g) w1 w2:=by rw [ah];exact Xq w1 ⟨g,0,Z_⟩ _
 have ak:Xd w2 g 179 #[S_ (Y' ⟨X,F,Z_⟩) n0 (c - 1),B_ WW]:=by rw [ah];exact h1.eC 0 _
 have aP:iv w2 (Y' ⟨X,F,Z_⟩) n0 (c - 1) (eV x.dC++r):=by
  have:=aE.drop 1 o_;rw [aC] at this;exact this.only ho (λb hb e=>by have:X=b:=q_ hb;omega)
 have aN:=XG aK ho o_;have au:=Hd (II x.dC hR aM.dC X F n0 (c - 1) r w2 aP o_);have a0:Xb (Xv (λb=>b=g) w w2):=(Ro.dt.dW ag).trans ho (λ_ _ e=>e);have HKb:=Hd ak;have HKa:=Hd aN;have aW:=Hd ac;have ba:=Hd ah;have aZ:g≠X_ (Y_ w):=o_;have x1:C w2 g 1 (B_ WW):=ak.cell 1;have x0:C w2 g 0 (S_ (Y' ⟨X,F,Z_⟩) n0 (c - 1)):=ak.cell 0;clear ac ah ag aK h1 aE ho ak aP aN h hr hx aM hR aC am aL ab a9 a5;obtain ⟨⟨qi,q1,q2,q3,q4,q5,q6,q7,q8,q9,O⟩,q11⟩:=x
 dsimp only at aI
 subst aI;unfold XV at au;unfold dq.arr
 dsimp only at au |-
 go_enter func86,ntmps86;go_wp2_with fail;rw [<-aW.o];refine aA.mono ?_;rintro e bd ⟨rfl,an⟩;obtain rfl:bd=w2:=by rw [an,ba.o]
 clear an;go_wp2_with fail;refine au.mono ?_;rintro e w3 ⟨A',c',rfl,G⟩;let ⟨w4,ai⟩:=nm (w3.alloc (.cells #[T_ qi,I_ J_ q1,B_ q2,I_ J_ q3,I_ J_ q4,I_ J_ q5,I_ J_ q6,I_ J_ q7,I_ J_ q8,T_ q9,I_ J_ O] 42));have ao:Bw w3 w4:=by rw [ai];exact dL
 have U:=G.below.trans (ao.mono G.below.size);have aO:Xd w4 w3.heap.size 42 #[T_ qi,I_ J_ q1,B_ q2,I_ J_ q3,I_ J_ q4,I_ J_ q5,I_ J_ q6,I_ J_ q7,I_ J_ q8,T_ q9,I_ J_ O]:=by rw [ai];exact Xi
 have al:=HKb.a_ U;have Z2:=HKa.a_ U;have bb:=G.below.size;have bc:=HKb.lt;have a1:=HKa.lt;obtain ⟨k0,k1,-⟩:=kA al;have f0:=al.frozen 0;have f1:=al.frozen 1;let ⟨w5,af⟩:=nm ((w4.setCell ⟨g,0,Z_⟩ (S_ A' r.length c')).setCell ⟨g,1,Z_⟩ (B_ WW));have aa:Xv (λb=>b=g) w4 w5:=by rw [af];exact (Xq w4 ⟨g,0,Z_⟩ _).trans (Xq _ ⟨g,1,Z_⟩ _) (λ_ _ e=>e)
 have aS:Xd w5 g 179 #[S_ A' r.length c',B_ WW]:=by rw [af];exact (al.eC 0 _).eC 1 _
 have a8:=Hd (XG aO aa o_);have a2:=Hd (XG Z2 aa o_);have a4:Xb (Xv (λb=>b=g) w w5):=(a0.trans (Ro.dt.dW U) (λ_ _ e=>e)).trans aa (λ_ _ e=>e);have a6:=Hd (show∀I,Xv (λb=>b=X_ (Y_ w)) w5 I-> ∃(A':Option Xa) (c':Nat),MI w I g r A' c' from λI h6=>by
  refine ⟨A',c',XG aS h6 aZ,?_,a4.trans h6 (λb hb e=>o_)⟩;have e1:iv w4 A' r.length c' r:=G.row.dy λb hb=>ao.block b (G.row.lt hb)
  have e2:iv w5 A' r.length c' r:=e1.only aa (λb hb e=>by have:=G.fresh b hb;omega);exact e2.only h6 (λb hb e=>by have:=G.fresh b hb;omega))
 have aY:=Hd ai;have be:=Hd af;clear ai ao U aO al Z2 bb bc a1 af aa aS x0 x1 G;go_upto_region 5 with fail;rw [<-aY.o];go_upto_region 6 with fail;rw [<-be.o];clear k0 k1 f0 f1;obtain ⟨y0,y1,y2,y3,y4,y5,y6,y7,y8,y9,a3,-⟩:=kA a8;go_wp2_with (refine eU.store rfl 58 _ _ rfl w.heap.size 0 #[T_ qi,I_ J_ q1,B_ q2,I_ J_ q3,I_ J_ q4,I_ J_ q5,I_ J_ q6,I_ J_ q7,I_ J_ q8,T_ q9,I_ J_ O,I_ J_ (ph:Int)] rfl rfl a2 y_ k_ v_ ?_;intro I V o6;rw [show Yd #[T_ ⟨#[]⟩,I_ J_ 0,B_ WW,I_ J_ 0,I_ J_ 0,I_ J_ 0,I_ J_ 0,I_ J_ 0,I_ J_ 0,T_ ⟨#[]⟩,I_ J_ 0,I_ J_ 0] 0 (#[T_ qi,I_ J_ q1,B_ q2,I_ J_ q3,I_ J_ q4,I_ J_ q5,I_ J_ q6,I_ J_ q7,I_ J_ q8,T_ q9,I_ J_ O,I_ J_ (ph:Int)]:Array WY).toList= #[T_ qi,I_ J_ q1,B_ q2,I_ J_ q3,I_ J_ q4,I_ J_ q5,I_ J_ q6,I_ J_ q7,I_ J_ q8,T_ q9,I_ J_ O,I_ J_ (ph:Int)] from Bo y_] at V;have v0:C I w.heap.size 0 qi:=V.cell 0;have v1:C I w.heap.size 1 q1:=V.cell 1;have v2:C I w.heap.size 2 q2:=V.cell 2;have v3:C I w.heap.size 3 q3:=V.cell 3;have v4:C I w.heap.size 4 q4:=V.cell 4;have v5:C I w.heap.size 5 q5:=V.cell 5;have v6:C I w.heap.size 6 q6:=V.cell 6;have v7:C I w.heap.size 7 q7:=V.cell 7;have v8:C I w.heap.size 8 q8:=V.cell 8;have v9:C I w.heap.size 9 q9:=V.cell 9;have v10:C I w.heap.size 10 O:=V.cell 10;have v11:C I w.heap.size 11 (I_ J_ (ph:Int)):=V.cell 11;have HG:=Hd (a6 _ o6);clear V o6 y0 y1 y2 y3 y4 y5 y6 y7 y8 y9 a3)
 exact bodyPost_ret (v:=A_ #[T_ qi,I_ J_ q1,B_ q2,I_ J_ q3,I_ J_ q4,I_ J_ q5,I_ J_ q6,I_ J_ q7,I_ J_ q8,T_ q9,I_ J_ O,I_ J_ (ph:Int)]) (by simp [*,results,results86,go_sem]) rfl ⟨rfl,HG⟩
structure km (w wr:WX) (A:Option Xa) (n c:Nat) (rem:List UInt8) (sv:Array WY):Prop where
 z:Xd wr w.heap.size 34 (Xs 0 Z_ 0 0 WW WW WW)
 rd:Xd wr (w.heap.size+1) 179 #[S_ A n c,B_ WW]
 st:Xd wr (w.heap.size+1+1) 34 sv
 row:iv wr A n c rem
 low:Bw w wr
def IH {l:List UInt8} {T:TypeId} (h:iv w A n c l) (hk:Xd w g T cs) (hT:5≠T): ∀b,Xw A=Y' b->b≠g:=λb hb=>h.dZ hk hT b hb
section
variable {w wr wx:WX} {A A':Option Xa} {n n' c c':Nat} {rem rem':List UInt8} {sv:Array WY}
def km.step (h:km w wr A n c rem sv) (v:WY) (O:wx=wr.setCell ⟨X_ (Y_ w)+1,0,Z_⟩ v) (V:v=S_ A' n' c') (I:iv wr A' n' c' rem') (U: ∀b,Xw A'=Y' b->Xw A=Y' b):km w wx A' n' c' rem' sv:=by
 subst O;subst V;have F:Xv (λb=>b=X_ (Y_ w)+1) wr (wr.setCell ⟨X_ (Y_ w)+1,0,Z_⟩ (S_ A' n' c')):=Xq wr ⟨X_ (Y_ w)+1,0,Z_⟩ _;exact ⟨XG h.z F o_,h.rd.eC 0 _,XG h.st F o_,I.only F (λb G e=>IH h.row h.rd d_ b (U b G) e),h.low.trans (F.below h.low.size (λk hk e=>o_))⟩
def km.set (h:km w wr A n c rem sv) (i:Nat) (v:WY) (I:wx=wr.setCell ⟨X_ (Y_ w)+1+1,i,Z_⟩ v):km w wx A n c rem (sv.setIfInBounds i v):=by
 subst I;have F:Xv (λb=>b=X_ (Y_ w)+1+1) wr (wr.setCell ⟨X_ (Y_ w)+1+1,i,Z_⟩ v):=Xq wr ⟨X_ (Y_ w)+1+1,i,Z_⟩ _;exact ⟨XG h.z F o_,XG h.rd F o_,h.st.eC i _,h.row.only F (λb G e=>IH h.row h.st d_ b G e),h.low.trans (F.below h.low.size (λk hk e=>o_))⟩
def km.drew (h:km w wr A n c rem sv):km w wr.drew A n c rem sv:=⟨h.z.drew,h.rd.drew,h.st.drew,h.row.dy λ_ _=>rfl,h.low.drew⟩
def km.entry (h:km w wr A n c rem sv) (hr:MI wr wx (X_ (Y_ w)+1) rem' A' c'):km w wx A' rem'.length c' rem' sv:=
 ⟨XG h.z hr.only o_,hr.dr,XG h.st hr.only o_,hr.row,h.low.trans (hr.only.below h.low.size (λk hk e=>o_))⟩
def km.app (h:km w wr A n c rem sv) (I:Xv (λb=>Xw R=Y' b) wr wx) (O: ∀b,Xw R=Y' b->X_ (Y_ w)<=b/\ ∃G,wr.heap[b]?=Y' (.cells G 58 (0,0))):km w wx A n c rem sv:=by
 have key: ∀(g:Nat) (T:TypeId) (cs:Array WY),Xd wr g T cs->T≠58-> ¬Xw R=Y' g:=λg T cs U hT e=>by
  let ⟨_,G,hc⟩:=O g e;unfold Xd at U;rw [U] at hc;injection hc with hc
  injection hc with _ h2 _
  exact hT h2
 refine ⟨(I.block _ h.z.lt (key _ _ _ h.z d_)).trans h.z,(I.block _ h.rd.lt (key _ _ _ h.rd d_)).trans h.rd,(I.block _ h.st.lt (key _ _ _ h.st d_)).trans h.st,h.row.only I (λb X e=>?_),h.low.trans (I.below h.low.size (λk U e=>by have:=(O k e).1;omega))⟩;let ⟨_,G,hc⟩:=O b e;let ⟨V,F⟩:=h.row.type X;rw [hc] at F;injection F with F
 injection F with _ h2 _
 exact absurd h2 d_
end
def MG (R:Nat) (A:Option Xa) (n c:Nat) (o0 o1 o2:Bool) (k:Nat):Array WY:=Xs R A n c (decide (0<k)&&o0) (decide (1<k)&&o1) (decide (2<k)&&o2)
def MH (R:Nat) (A:Option Xa) (n c:Nat) (o0 o1 o2:Bool) (k:Nat) (hk:k<3):(MG R A n c o0 o1 o2 k).setIfInBounds (2+k) (B_ (if k=0 then o0 else if k=1 then o1 else o2))=MG R A n c o0 o1 o2 (k+1):=by
 have:k=0\/k=1\/k=2:=o_;obtain rfl|rfl|rfl:=this<;>simp [MG,Xs]
def Wf: ∀(o0 o1 o2:Bool) (k:Nat) (I:k<3),(bits Yc .i64 (((Fo o0 o1 o2:Nat):Int)/2^k) 1==1)=(if k=0 then o0 else if k=1 then o1 else o2):=by
 have key: ∀(a:Int) (r:Int) (b:Bool),bits Yc .i64 a 1=r->(r==1)=b->(bits Yc .i64 a 1==1)=b:=λa r b F G=>by rw [F];exact G
 intro o0 o1 o2 k I;have:k=0\/k=1\/k=2:=o_;obtain rfl|rfl|rfl:=this<;>cases o0<;>cases o1<;>cases o2<;>first|exact key _ 0 _ k_ rfl|exact key _ 1 _ k_ rfl
def RG (o0 o1 o2:Bool):Fo o0 o1 o2<8:=by cases o0<;>cases o1<;>cases o2<;>decide
def tE (h:n<256):((Xf n).toNat:Int)=(n:Int):=by rw [Yg];omega
def O_:Ye Xc 31 58 (A_ #[T_ ⟨#[]⟩,I_ J_ 0,B_ WW,I_ J_ 0,I_ J_ 0,I_ J_ 0,I_ J_ 0,I_ J_ 0,I_ J_ 0,T_ ⟨#[]⟩,I_ J_ 0,I_ J_ 0]) 12 112:=⟨underlying31,k_,rfl,d_⟩
def zb (l:List dq) (e:dq):Xr (l++[e])=Xr l++e.arr.toList:=by simp [Xr,dq.cells,dq.arr]
def gE (l:List dq) (k:Nat):List UInt8:=((l.drop k).map eM).flatten
def rI (F:k<l.length):gE l k=eM l[k]++gE l (k+1):=by
 unfold gE;rw [XB F];rfl
def tD (F:l.length<=k):gE l k=[]:=by
 unfold gE;rw [List.drop_eq_nil_of_le F];rfl
def DC (h: ∀e∈l,XR e=Z'):(gE l k).length<=116*l.length:=by
 have h1:=nP (l.drop k) λe F=>h e (List.mem_of_mem_drop F)
 have h2:(l.drop k).length<=l.length:=by simp
 unfold gE;omega
def RF {p:Prop} (h:p:=by
 refine dm.on 5 2 ?_;refine dm.val rfl rfl (v:=S_ A3 (k+1) c3) (w':=w4) (Tw.jr _ _ _ _ rfl _ _ rfl rfl au) trivial ?_;refine dm.tg 1 trivial [6] ?_;refine dm.on 7 0 ?_;refine dm.skip rfl rfl (w':=w4.setCell ⟨w.heap.size+1+1,1,none⟩ (S_ A3 (k+1) c3)) f_ trivial ?_;refine dm.fi ?_;go_wp2_with fail;go_roundw
 .exact ⟨k+1,A3,c3,A',_,c',o_,by go_num,aL,aP,Hd rfl⟩
 .simp [intOf];omega):p:=h
def IG {p:Prop} (k:q) (h:Wq q->p:=by
 intro kq;refine dm.val rfl rfl (v:=S_ (some ⟨w2.heap.size,0,none⟩) 1 1) (w':=w2.alloc (.cells #[qi,q1,q2,q3,q4,q5,q6,q7,q8,q9,ab,ao] 58)) f_ trivial ?_;exact kq.o):p:=h ⟨k⟩
def Pe {p:Prop} (h:p:=by
 refine dm.tg 1 trivial [5,6] ?_;refine dm.on 7 0 ?_;refine dm.skip rfl rfl (w':=w3) (by go_simp;rw [az.o]) trivial ?_;refine dm.fi ?_;go_wp2_with fail;go_roundw
 .exact ⟨k+1,O,n1,c - 1,o_,by go_num,bu,aB⟩
 .simp [intOf];omega):p:=h
def Ri (r:Int) (o0 o1 o2:Bool) (l:List dq) (hS:Ta.eJ r l) (a5: ∀e∈l,e.ok) (A0:Option Xa) (n0 c0:Nat) (w:WX) (hr:iv w A0 n0 c0 (eK r o0 o1 o2 l)):
  WZ Xc 53 #[S_ A0 n0 c0] w λe w'=> ∃(A':Option Xa) (c':Nat),e=R_ (U_ #[A_ (Xs r A' l.length c' o0 o1 o2),I_ J_ 0])/\eF w w' 58 12 A' l.length c' (Xr l):=by
 have hz:n0=(eK r o0 o1 o2 l).length:=by have:=hr.len;simpa using this.symm
 let ⟨cj,ca⟩:=jn (o0:=o0) (o1:=o1) (o2:=o2) hS;obtain ⟨V,off,rfl⟩:=hr.fe (by have:=hr.le;omega);obtain ⟨R,hR⟩: ∃R:Nat,r=(R:Int):=⟨r.toNat,by have:=hS.r0;omega⟩;have hRb:R<=1099511627776:=by have:=hS.r1;omega
 have bC:=hS.len;have a3:=Hd (λ(k:Nat) (hk:k<l.length) (g V off n c:Nat) (w:WX) (h:Xd w g 179 #[S_ (Y' ⟨V,off,Z_⟩) n c,B_ WW]) (hr:iv w (Y' ⟨V,off,Z_⟩) n c (gE l k)) (hn:n<=90000)=>
  MF l[k] (hS.each _ (g_ hk)) (a5 _ (g_ hk)) g V off n c (gE l (k+1)) w h (by rw [<-rI hk];exact hr) hn)
 have bn:=Hd (λX A c (hX:XE X X.heap.size 12 A l.length (Xr l))=>Ta.wy R A l.length c o0 o1 o2 l X hX rfl (by rw [<-hR];exact hS) a5);have bf:=Hd (λk=>DC (k:=k) hS.each);have HPE:=Hd (λk (hk:k<l.length)=>lk (p:=l[k].dC) (by have:=hS.each _ (g_ hk);unfold XR at this;simp only [Xm] at this;exact this.1));have hB:eK r o0 o1 o2 l=Xg R++(Xf (Fo o0 o1 o2)::Xf l.length::gE l 0):=by unfold eK wv gE;rw [hR];simp
 rw [hB] at hr hz;let ⟨ln,aY⟩:=nm (l.length);rw [<-aY] at hr hz bC bn |-;let ⟨TB,aK⟩:=nm (Xf (Fo o0 o1 o2)::Xf ln::gE l 0);rw [<-aK] at hr hz;have bE:n0=8+TB.length:=by rw [hz,Xe,Xo]
 have cp:TB.length<=7500:=by have:=bf.o 0;rw [aK];simp;omega
 subst hR;clear hB hz cj ca hS a5;let ⟨w1,ax⟩:=nm (((w.alloc (.cells #[I_ J_ 0,S_ Z_ 0 0,B_ WW,B_ WW,B_ WW] 34)).alloc (.cells #[S_ (Y' ⟨V,off,Z_⟩) n0 c0,B_ WW] 179)).alloc (.cells #[I_ J_ 0,S_ Z_ 0 0,B_ WW,B_ WW,B_ WW] 34));have hI:km w w1 (Y' ⟨V,off,Z_⟩) n0 c0 ((Xg R).drop 0++TB) (Xs ((gO R 0:Nat):Int) Z_ 0 0 WW WW WW):=by
  have hb:Bw w w1:=by rw [ax];exact ((b_.alloc l_ _).alloc y_ _).alloc z_ _
  refine ⟨?_,?_,?_,hr.dy λb a9=>hb.block b (hr.lt a9),hb⟩
  .rw [ax];exact Xn (Xn Xi)
  .rw [ax]
   have:=Xi (w:=w.alloc (.cells #[I_ J_ 0,S_ Z_ 0 0,B_ WW,B_ WW,B_ WW] 34)) (t:=179) (cs:= #[S_ (Y' ⟨V,off,Z_⟩) n0 c0,B_ WW]);exact Xn (by simpa using this)
  .rw [ax]
   have:=Xi (w:=(w.alloc (.cells #[I_ J_ 0,S_ Z_ 0 0,B_ WW,B_ WW,B_ WW] 34)).alloc (.cells #[S_ (Y' ⟨V,off,Z_⟩) n0 c0,B_ WW] 179)) (t:=34) (cs:= #[I_ J_ 0,S_ Z_ 0 0,B_ WW,B_ WW,B_ WW]);rw [show ((w.alloc (.cells #[I_ J_ 0,S_ Z_ 0 0,B_ WW,B_ WW,B_ WW] 34)).alloc (.cells #[S_ (Y' ⟨V,off,Z_⟩) n0 c0,B_ WW] 179)).heap.size=X_ (Y_ w)+1+1 by simp] at this;exact this
 have b6:=Hd bE;clear bE;have br:=Hd hI;have bp:=Hd ax;have F:=Hd aK;have ap:=Hd aY;clear hI ax hr aK aY;go_enter func53,ntmps53;go_wp2_with fail;rw [<-bp.o];go_loopw [12] (λvi wr=> ∃(k off n c:Nat),k<=8/\vi=I_ J_ k/\Xb (n=8 - k+TB.length)/\Xb (km w wr (Y' ⟨V,off,Z_⟩) n c ((Xg R).drop k++TB) (Xs ((gO R k:Nat):Int) Z_ 0 0 WW WW WW))) (λi _=>8 - (intOf i).toNat)
 .exact ⟨0,off,n0,c0,o_,rfl,Hd (by have:=b6.o;omega),br⟩
 .obtain ⟨k,off,n,c,hk,rfl,HN,HI⟩:=hrel
  clear br bp;by_cases aF:k<8
  .refine lI ?_
   intro hw;have bB:=oN R k aF;have bA:=zS R (k+1) o_ o_;have bF:(Xg R).drop k=(Xg R)[k]'(by rw [Xo];exact aF)::(Xg R).drop (k+1):=XB (by rw [Xo];exact aF);generalize (Xg R)[k]'(by rw [Xo];exact aF)=Y at*;have cc:=Y.toNat_lt;have a7:=HI.o;rw [bF] at a7;have I:=a7.drew;obtain ⟨n1,rfl⟩: ∃n1,n=n1+1:=⟨n - 1,by have:=HN.o;omega⟩;have U:=Hd (ko (X_ (Y_ w)+1) V off n1 c Y ((Xg R).drop (k+1)++TB) wr.drew I.rd I.row (by have:=HN.o;omega));have G:=I.row.drop 1 o_;let ⟨O,aD⟩:=oz V off c 1;rw [aD] at U G;let ⟨w2,al⟩:=nm (wr.drew.setCell ⟨X_ (Y_ w)+1,0,Z_⟩ (S_ (Y' ⟨V,O,Z_⟩) n1 (c - 1)));have aa:=I.step _ al rfl G (λb hb=>hb);obtain ⟨w3,(az:Xb _)⟩:=nm (w2.setCell ⟨X_ (Y_ w)+1+1,0,Z_⟩ (I_ J_ ((gO R (k+1):Nat):Int)));have bO:=aa.set 0 _ az;have aB:=Hd bO;have bu:Xb (n1=8 - (k+1)+TB.length):=Hd (by have:=HN.o;omega);have q0:wr.drew.cell? ⟨X_ (Y_ w)+1+1,0,Z_⟩=Y' (I_ J_ ((gO R k:Nat):Int)):=I.st.cell 0;have p0:C w2 (X_ (Y_ w)+1+1) 0 (I_ J_ ((gO R k:Nat):Int)):=aa.st.cell 0;have f0:=aa.st.frozen 0;have aS:gO R k*256+Y.toNat<9223372036854775808:=o_;have hob:bits XZ IntKind.i64 (((gO R k:Nat):Int)*256) (Y.toNat:Int)=((gO R (k+1):Nat):Int):=by
    have:=qj (gO R k) Y.toNat cc aS;rw [show ((gO R k*256:Nat):Int)=((gO R k:Nat):Int)*256 by omega,<-bB] at this;exact this
   have hsh:IntKind.i64.wrap (((gO R k:Nat):Int)*256)=((gO R k:Nat):Int)*256:=Xz o_ o_;have HX:Xb (∀e w',(e=Xk (I_ J_ Y.toNat)/\w'=wr.drew.setCell ⟨X_ (Y_ w)+1,0,Z_⟩ (S_ (Y' ⟨V,O,Z_⟩) n1 (c - 1)))->e=R_ (I_ J_ Y.toNat)/\w'=w2):=λe w' h=>⟨h.1,by rw [h.2,al]⟩
   have aW:=Hd ((U).mono λe w' h=>HX e w' h);clear bB bA bF I a7 G aD al aa bO aS U HX HI HN;generalize (Y.toNat:Int)=y at*;go_upto_region 5 with fail;refine XW (S:=λ_=>True) k_ ?_;refine Yf 6 trivial [0,3] ?_;refine dm.two (i:=1) (j:=4) (n:=5) k_ ?_ ?_
   .refine XH rfl rfl (v:=I_ J_ ((gO R k:Nat):Int)) (w':=wr.drew) f_ trivial ?_
    refine Yf 4 trivial [2] ?_;refine XO 4 3 ?_;refine dm.cl ?_;refine aW.mono ?_;rintro e bd ⟨rfl,e2⟩;obtain rfl:=e2.symm;refine ⟨_,rfl,trivial,?_⟩;exact Pe
   .skip
    refine dm.cl ?_;refine aW.mono ?_;rintro e bd ⟨rfl,e2⟩;obtain rfl:=e2.symm;refine ⟨_,rfl,trivial,?_⟩;refine XO 1 4 ?_;refine XH rfl rfl (v:=I_ J_ ((gO R k:Nat):Int)) (w':=w2) f_ trivial ?_;refine Yf 3 trivial [2] ?_;exact Pe
  .obtain rfl:k=8:=o_
   have I:=HI.o;rw [show (Xg R).drop 8++TB=Xf (Fo o0 o1 o2)::(Xf ln::gE l 0) from by rw [F.o];rfl,Fq R o_] at I;obtain ⟨n1,rfl⟩: ∃n1,n=n1+1:=⟨n - 1,by have:=HN.o;rw [F.o] at this;simp at this;omega⟩;have aH:Xb (n1=(gE l 0).length+1):=Hd (by have:=HN.o;rw [F.o] at this;simp at this;omega);have bw:Xb ((gE l 0).length<=7424):=Hd (by have:=bf.o 0;have:=ap.o;omega);have U:=Hd (ko (X_ (Y_ w)+1) V off n1 c (Xf (Fo o0 o1 o2)) (Xf ln::gE l 0) wr I.rd I.row (by have:=aH.o;have:=bw.o;omega));have G:=I.row.drop 1 o_;let ⟨O,aD⟩:=oz V off c 1;rw [aD] at U G;obtain ⟨w2,(ba:Xb _)⟩:=nm (wr.setCell ⟨X_ (Y_ w)+1,0,Z_⟩ (S_ (Y' ⟨V,O,Z_⟩) n1 (c - 1)));have aa:=I.step _ ba rfl G (λb hb=>hb);have bP:=Hd aa;have bo:=RG o0 o1 o2;have ay:=tE (n:=Fo o0 o1 o2) o_;rw [ay] at U;have cf:=Hd (Wf o0 o1 o2);clear I G aD aa HN HI ay;have HON:=Hd bo;have cx:((Fo o0 o1 o2:Nat):Int)/8=0:=o_;clear bo;generalize Fo o0 o1 o2=ON at*;go_wp2_with fail;refine U.mono ?_;rintro e bd ⟨rfl,an⟩;obtain rfl:bd=w2:=by rw [an,ba.o]
   clear an U ba;go_wp2;go_loopw [24] (λvi wr=> ∃(k:Nat),k<=3/\vi=I_ J_ k/\Xb (km w wr (Y' ⟨V,O,Z_⟩) n1 (c - 1) (Xf ln::gE l 0) (MG R Z_ 0 0 o0 o1 o2 k))) (λi _=>3 - (intOf i).toNat)
   .exact ⟨0,o_,rfl,bP⟩
   .obtain ⟨k,hk,rfl,aw⟩:=hrel
    clear bP;by_cases bJ:k<3
    .refine lI ?_
     intro hw;have aQ:(MG R Z_ 0 0 o0 o1 o2 k).size=5:=rfl;have hu:wr.cell? ⟨X_ (Y_ w)+1+1,2+k,Z_⟩=Y' ((MG R Z_ 0 0 o0 o1 o2 k)[2+k]'(by rw [aQ];omega)):=by rw [aw.o.st.cell,Array.getElem?_eq_getElem (by rw [aQ];omega)]
     generalize (MG R Z_ 0 0 o0 o1 o2 k)[2+k]'(by rw [aQ];omega)=u at*;have hf:=aw.st.frozen (2+k);have ha:=cf k bJ;have aB:Xb (km w (wr.setCell ⟨X_ (Y_ w)+1+1,2+k,Z_⟩ (B_ (if k=0 then o0 else if k=1 then o1 else o2))) (Y' ⟨V,O,Z_⟩) n1 (c - 1) (Xf ln::gE l 0) (MG R Z_ 0 0 o0 o1 o2 (k+1))):=(by
      have:=aw.o.set (2+k) (B_ (if k=0 then o0 else if k=1 then o1 else o2)) rfl;rw [MH _ _ _ _ _ _ _ k bJ] at this;exact this)
     clear aQ aw;generalize (if k=0 then o0 else if k=1 then o1 else o2)=b at*;exact zW
    .obtain rfl:k=3:=o_
     have I:=aw.o;rw [show MG R Z_ 0 0 o0 o1 o2 3=Xs R Z_ 0 0 o0 o1 o2 from rfl] at I;obtain ⟨m1,rfl⟩: ∃m1,n1=m1+1:=⟨n1 - 1,by have:=aH.o;omega⟩;have a6:Xb (m1=(gE l 0).length):=Hd (by have:=aH.o;omega);have U:=Hd (ko (X_ (Y_ w)+1) V O m1 (c - 1) (Xf ln) (gE l 0) wr I.rd I.row (by have:=a6.o;have:=bw.o;omega));have G:=I.row.drop 1 o_;let ⟨aU,bS⟩:=oz V O (c - 1) 1;rw [bS] at U G;obtain ⟨w3,(az:Xb _)⟩:=nm (wr.setCell ⟨X_ (Y_ w)+1,0,Z_⟩ (S_ (Y' ⟨V,aU,Z_⟩) m1 (c - 1 - 1)));have aB:=Hd (I.step _ az rfl G (λb hb=>hb));have ay:=tE (n:=ln) o_;rw [ay] at U;clear I G bS aw ay aH;have b4:min (ln:Int) 65=(ln:Int):=o_;go_wp2_with fail;refine U.mono ?_;rintro e cg ⟨rfl,aV⟩;obtain rfl:cg=w3:=by rw [aV,az.o]
     clear aV U az;go_wp2_with fail;clear b4;go_loopw [40] (λvi wr=> ∃(k:Nat) (A2:Option Xa) (c2:Nat) (Ar:Option Xa) (nr cr:Nat),k<=ln/\vi=I_ J_ k/\Xb (km w wr Ar nr cr (gE l k) (Xs R A2 k c2 o0 o1 o2))/\Xb (eF w wr 58 12 A2 k c2 (Xr (l.take k)))/\Xb (nr=(gE l k).length)) (λi _=>ln - (intOf i).toNat)
     .exact ⟨0,Z_,0,Y' ⟨V,aU,Z_⟩,m1,c - 1 - 1,o_,rfl,aB,Hd (eF.nil aB.low),a6⟩
     .obtain ⟨k,A2,c2,Ar,nr,cr,hk,rfl,HI,av,aM⟩:=hrel
      clear aB a6;by_cases hkl:k<ln
      .have aC:k<l.length:=by have:=ap.o;omega
       refine lI ?_;intro hw;have I:=HI.o;have bT:=rI aC;obtain ⟨cn,bK,rfl⟩:=I.row.fe (by have h1:=I.row.le;have h2:=aM.o;rw [bT] at h2;simp [eM] at h2;omega);have HE:=a3 k aC (X_ (Y_ w)+1) cn bK nr cr wr.drew I.drew.rd I.drew.row (by have:=aM.o;have:=bf.o k;have:=ap.o;omega);have aN:Xb (Xr (l.take (k+1))=Xr (l.take k)++l[k].arr.toList):=Hd (by rw [Mem.dQ l k aC,zb]);have HTR:Xb ((gE l (k+1)).length=(gE l (k+1)).length):=rfl;generalize l[k]=q at*;obtain ⟨⟨qi,q1,q2,q3,q4,q5,q6,q7,q8,q9,ab⟩,ao⟩:=q;unfold dq.arr at HE aN
       dsimp only at HE aN
       have bL:=Hd (show∀w2 A' c',MI wr.drew w2 (X_ (Y_ w)+1) (gE l (k+1)) A' c'-> ∃(A3:Option Xa) (c3:Nat) (w4:WX),(Xp #[31,31] 31 #[S_ A2 k c2,S_ (Y' ⟨X_ (Y_ w2),0,Z_⟩) 1 1]).run Xc (w2.alloc (.cells #[qi,q1,q2,q3,q4,q5,q6,q7,q8,q9,ab,ao] 58))= .ok (S_ A3 (k+1) c3) w4/\C w2 (X_ (Y_ w)+1+1) 1 (S_ A2 k c2)/\C w4 (X_ (Y_ w)+1+1) 1 (S_ A2 k c2)/\w4.frozen? ⟨X_ (Y_ w)+1+1,1,Z_⟩=WW/\Xb (km w (w4.setCell ⟨X_ (Y_ w)+1+1,1,Z_⟩ (S_ A3 (k+1) c3)) A' (gE l (k+1)).length c' (gE l (k+1)) (Xs R A3 (k+1) c3 o0 o1 o2))/\Xb (eF w (w4.setCell ⟨X_ (Y_ w)+1+1,1,Z_⟩ (S_ A3 (k+1) c3)) 58 12 A3 (k+1) c3 (Xr (l.take (k+1)))) from λw2 A' c' af=>by
        have aa:=HI.drew.entry af;have ag:eF w w2 58 12 A2 k c2 (Xr (l.take k)):=⟨aa.low,(av.drew.row).only af.only (λb hb e=>(av.drew.row).dZ HI.drew.rd d_ b hb e),av.fresh⟩;let ⟨A3,c3,w4,au,aA,bG⟩:=ag.push O_ #[qi,q1,q2,q3,q4,q5,q6,q7,q8,q9,ab,ao] rfl v_ o_ d_ rfl;have aG:=aa.app bG (λb hb=>⟨ag.fresh b hb,ag.row.type hb⟩);refine ⟨A3,c3,w4,au,aa.st.cell 1,aG.st.cell 1,aG.st.frozen 1,Hd (aG.set 1 (S_ A3 (k+1) c3) rfl),Hd ?_⟩;rw [aN.o];have bz:Xv (λb=>b=X_ (Y_ w)+1+1) w4 (w4.setCell ⟨X_ (Y_ w)+1+1,1,Z_⟩ (S_ A3 (k+1) c3)):=Xq w4 ⟨X_ (Y_ w)+1+1,1,Z_⟩ _;exact ⟨aA.below.trans (bz.below aA.below.size (λb hb e=>o_)),aA.row.only bz (λb hb e=>aA.row.dZ aG.st d_ b hb e),aA.fresh⟩)
       have x1:=c1 I.rd;have y1:=c1 I.drew.st;have bD:=Hd HE;clear I bT HE HI av aN a3;go_upto_region 17 with fail;clear x1;refine XW (S:=λ_=>True) k_ ?_;refine Yf 6 trivial [0,2] ?_;refine dm.two (i:=1) (j:=3) (n:=5) k_ ?_ ?_
       .refine XH rfl rfl (v:=S_ A2 k c2) (w':=wr.drew) f_ trivial ?_
        refine XO 3 4 ?_;refine dm.cl ?_;refine bD.mono ?_;rintro e w2 ⟨rfl,A',c',af⟩;let ⟨A3,c3,w4,au,y2,y4,f4,aL,aP⟩:=bL w2 A' c' af;clear af;refine ⟨_,rfl,trivial,?_⟩;refine XO 4 3 ?_;refine IG ?_;exact RF
       .refine dm.cl ?_
        refine bD.mono ?_;rintro e w2 ⟨rfl,A',c',af⟩;let ⟨A3,c3,w4,au,y2,y4,f4,aL,aP⟩:=bL w2 A' c' af;clear af;refine ⟨_,rfl,trivial,?_⟩;refine dm.two (i:=1) (j:=4) (n:=4) k_ ?_ ?_
        .refine XH rfl rfl (v:=S_ A2 k c2) (w':=w2) f_ trivial ?_
         refine XO 4 3 ?_;refine IG ?_;exact RF
        .refine IG ?_
         refine XO 1 3 ?_;have y3:=Mem.fo (o:= .cells #[qi,q1,q2,q3,q4,q5,q6,q7,q8,q9,ab,ao] 58) y2;refine XH rfl rfl (v:=S_ A2 k c2) (w':=w2.alloc (.cells #[qi,q1,q2,q3,q4,q5,q6,q7,q8,q9,ab,ao] 58)) f_ trivial ?_;exact RF
      .obtain rfl:k=ln:=o_
       have I:=HI.o;have ag:=av.o;rw [tD (by have:=ap.o;omega)] at I;rw [t_ (by have:=ap.o;omega)] at ag;obtain rfl:nr=0:=by rw [aM.o,tD (by have:=ap.o;omega)];rfl
       have bI:=Hd (bn wr A2 c2 ag.row.sl);have bR:=Hd I;have bZ:=Hd ag;obtain ⟨x0,x1,-⟩:=kA I.rd;obtain ⟨y0,y1,y2,y3,y4,-⟩:=kA I.st;unfold Xs at bI;clear I ag HI av aM a3;go_wp2_with fail;clear x0 x1 y0 y1 y2 y3 y4;refine bI.mono ?_;rintro e w5 ⟨rfl,aR⟩;have ar:=bR.st.a_ aR;have aO:=bR.z.a_ aR;unfold Xs at aO;have cd:=Hd aO;have bH:=Hd (show∀w6,Xv (λb=>b=X_ (Y_ w)) w5 w6-> ∃(A':Option Xa) (c':Nat),(Xk (U_ #[A_ (Xs (R:Nat) A2 k c2 o0 o1 o2),I_ J_ 0]))=R_ (U_ #[A_ (Xs (R:Nat) A' k c' o0 o1 o2),I_ J_ 0])/\eF w w6 58 12 A' k c' (Xr l) from λw6 h6=>by
        have hb:=bZ.free aR;exact ⟨A2,c2,rfl,hb.below.trans (h6.below hb.below.size (λb hb e=>o_)),hb.row.only h6 (λb a9 e=>hb.row.dZ aO d_ b a9 e),hb.fresh⟩)
       obtain ⟨y0,y1,y2,y3,y4,-⟩:=kA ar;clear ar aO aR;go_upto_region 21 with fail;unfold Xs at bH;go_wp2_with (refine eU.store rfl 34 _ _ rfl w.heap.size 0 #[I_ J_ (R:Nat),S_ A2 k c2,o0,o1,o2] rfl rfl cd y_ k_ v_ ?_;intro w9 b9 o9;have v0:C w9 w.heap.size 0 (I_ J_ (R:Nat)):=b9.cell 0;have v1:C w9 w.heap.size 1 (S_ A2 k c2):=b9.cell 1;have v2:C w9 w.heap.size 2 o0:=b9.cell 2;have v3:C w9 w.heap.size 3 o1:=b9.cell 3;have v4:C w9 w.heap.size 4 o2:=b9.cell 4;have HG:=Hd (bH _ o9);clear b9 o9 y0 y1 y2 y3 y4)
       exact bodyPost_ret (v:=U_ #[A_ #[I_ J_ (R:Nat),S_ A2 k c2,o0,o1,o2],I_ J_ 0]) (by simp [*,results,results53,go_sem]) rfl HG
end Rd
end
section
namespace Tw
def jg (n:Nat) (dy:Int):Nat:=((n:Int) - max dy 0).toNat
def Mv (A A2:Option Xa) (n c m d:Nat) (dy:Int) (bx:List dP) (us:List ByteArray) (w:WX) (h:XE w w.heap.size 4 A n (dP.flat bx)) (I:bx.length=n) (hn:n<=10000) (h2:Ta.mL w A2 m d us) (hm:m<=1000000) (hk:dy<=1000000):
  WZ Xc 111 #[S_ A n c,S_ A2 m d,dy] w λe w'=> ∃(A':Option Xa) (c':Nat) (ys:List dP),e=R_ (S_ A' (jg ys.length dy) c')/\ys.Perm (bx.filter (fF us))/\eF w w' 9 1 A' (jg ys.length dy) c' ((ys.take (jg ys.length dy)).map λb=>Value.string b.id):=by
 have HD:=Hd (QW A A2 n c m d bx us w h I hn h2 hm);have V:(bx.filter (fF us)).length<=10000:=Xx (XF _ _) o_;clear h I h2;go_enter func111,ntmps111;go_wp2_with fail;refine HD.mono ?_;rintro e w2 ⟨A',c',ys,rfl,hp,hs,U⟩;have hyl:ys.length<=10000:=by rw [hp.length_eq];exact V
 have hx:jg ys.length dy<=ys.length:=by unfold jg;omega
 have G:=U.row.cut (jg ys.length dy) hx;rw [Xl,<-List.map_take] at G;have aa:Xb (∃(A'_1:Option Xa) (c'_1:Nat) (ys_1:List dP),(Xk (S_ A' (jg ys.length dy) c'))=R_ (S_ A'_1 (jg ys_1.length dy) c'_1)/\ys_1.Perm (bx.filter (fF us))/\eF w w2 9 1 A'_1 (jg ys_1.length dy) c'_1 ((ys_1.take (jg ys_1.length dy)).map λb=>Value.string b.id)):=⟨A',c',ys,rfl,hp,⟨U.below,G,U.fresh⟩⟩;have O:=U.row.le;have hmx:max (((ys.length:Nat):Int) - max dy 0) 0=((jg ys.length dy:Nat):Int):=by unfold jg;omega
 have hw:=Xz (n:=((ys.length:Nat):Int) - max dy 0) o_ o_;have F:=gy U.row;clear hp hs U G HD V;generalize jg ys.length dy=X at*;generalize ys.length=L at*;have ac:=O.1;have h63:c'<=9223372036854775807:=by have:=O.2;unfold maxLen at this;omega
 have hXc:X<=c':=o_;clear O;cases A' with
 |none=>
  obtain ⟨rfl,rfl⟩:=F rfl;obtain rfl:X=0:=o_;clear F;have hz0:max (-max dy 0) 0=0:=o_;go_wp2;go_ret;exact aa
 |some a=>
  clear F;go_wp2;go_ret;exact aa
def Du (A A2 A3:Option Xa) (n c m d q f:Nat) (U:Int) (im:List dK) (us:List ByteArray) (bs:List Bool) (w:WX) (h:XE w w.heap.size 3 A n (dK.flat im)) (ak:im.length=n) (hn:n<=10000) (h2:Ta.mL w A2 m d us) (hm:m<=1000000) (h3:XE w w.heap.size 1 A3 q (bs.map Value.bool)) (hq:q<=1000000) (aA: ∀x∈im,x.size<=9223372036854775807):
  WZ Xc 117 #[S_ A n c,S_ A2 m d,I_ J_ U,S_ A3 q f] w λe w'=> ∃(A':Option Xa) (n' c':Nat) (free:Int) (j:Nat),e=R_ (U_ #[S_ A' n' c',I_ J_ free,I_ J_ j])/\free<=9223372036854775807/\j<=(im.filter (fG us)).length/\Bw w w':=by
 have HO:=Hd (AJ A A2 n c m d im us w h ak hn h2 hm);have H3:=Hd h3;have aI:(im.filter (fG us)).length<=10000:=Xx (XF _ _) o_;have ar:Xb (∀x∈im.filter (fG us),x.size<=9223372036854775807):=λx O=>aA x ((List.mem_filter.1 O).1)
 have hbl:bs.length=q:=by have:=h3.1;simpa using this
 clear h ak h2 h3 aA;go_enter func117,ntmps117;go_wp2
 go_step3
 go_wp2
 go_step3
 go_wp2_with fail;refine HO.o.mono ?_;rintro e w2 ⟨A',c',ys,rfl,hp,hs,(HB:Xb _)⟩;have HY:Xb (∀x∈ys,x.size<=9223372036854775807):=λx O=>ar.o x (hp.mem_iff.1 O)
 have aK:=Hd hp.length_eq;rw [<-hp.length_eq] at aI;clear hp hs HO ar;go_wp2;go_loopw [11,12,13,20] (λaN aM aF vi wr=> ∃(k:Nat) (AG:Option Xa) (cG m:Nat) (free:Int),k<=ys.length/\m<=k/\free<=9223372036854775807/\vi=I_ J_ k/\aF=I_ J_ k/\aM=I_ J_ free/\aN=S_ AG m cG/\Xb (∃xs,eF w2 wr 9 1 AG m cG xs)) (λ_ _ _ i _=>ys.length - (intOf i).toNat)
 .exact ⟨0,Z_,0,0,0,o_,o_,o_,rfl,rfl,rfl,rfl,Hd ⟨_,eF.nil b_⟩⟩
 ·
  obtain ⟨k,AG,cG,V,free,hk,hmk,hf,rfl,rfl,rfl,rfl,HG⟩:=hrel;have HW:Xb (Bw w wr):=by let ⟨xs,O⟩:=HG.o;exact HB.o.below.trans (O.below.mono HB.o.below.size)
  have ae:Xb (∀X (j:Nat),Bw w X->j<=ys.length-> ∃(A':Option Xa) (n' c':Nat) (free_1:Int) (j_1:Nat),(Xk (U_ #[S_ AG V cG,I_ J_ free,I_ J_ j]))=R_ (U_ #[S_ A' n' c',I_ J_ free_1,I_ J_ j_1])/\free_1<=9223372036854775807/\j_1<=(im.filter (fG us)).length/\Bw w X):=λX j hX hj=>⟨AG,V,cG,free,j,rfl,hf,by rw [<-aK.o];exact hj,hX⟩
  by_cases aQ:k<ys.length
  .obtain ⟨ad,hl,rfl,hlb,aW,aO⟩:=dK.at_ (show XE wr w2.heap.size 3 A' ys.length (dK.flat ys) from by let ⟨xs,O⟩:=HG.o;exact HB.o.row.sl.below O.below) aQ
   have au:=HY.o ys[k] (g_ hl);generalize ys[k]=x at*;obtain ⟨xn,xs,xl⟩:=x;obtain ⟨e0,e1,e2⟩:=aO
   dsimp only at e0 e1 e2 au
   have hw:=Xz (n:=(k:Int)+1) o_ o_;let ⟨w3,F⟩:=nm (wr.alloc (.cells #[T_ xn,I_ J_ xs,I_ J_ xl] 223));have af:Bw wr w3:=by rw [F];exact dL
   have al:X_ (Y_ w3)=X_ (Y_ wr)+1:=by rw [F];simp
   by_cases aJ:U<=free
   .have ag:=Hd (ae.o w3 k (HW.o.trans (af.mono HW.o.size)) hk)
    rw [F] at ag;clear af al F ae HG;go_wp2;rw [XU];exact bodyPost_ret (v:=U_ #[S_ AG V cG,I_ J_ free,I_ J_ (k:Nat)]) (by simp [results,results117,go_sem]) rfl ag.o
   .have aU:decide (U<=free)=WW:=decide_eq_false aJ
    have am:Xb (∃xs,eF w2 w3 9 1 AG V cG xs):=by let ⟨xs,O⟩:=HG.o;exact ⟨xs,O.free af⟩
    have ax:=Hd (λX=>Sat.pH free xs X hf au);have aw:=Vi.uy free xs;have ac:=Hd (show∃(A5:Option Xa) (c5:Nat) (w5:WX),(Xp #[52,52] 52 #[S_ AG V cG,S_ (Y' ⟨X_ (Y_ wr)+1,0,Z_⟩) 1 1]).run Xc ((wr.alloc (.cells #[T_ xn,I_ J_ xs,I_ J_ xl] 223)).alloc (.cells #[T_ xn] 9))= .ok (S_ A5 (V+1) c5) w5/\C w5 wr.heap.size 1 xs/\ ∃zs,eF w2 w5 9 1 A5 (V+1) c5 zs from by
     let ⟨zs,O⟩:=am.o;have an:Xd w3 wr.heap.size 223 #[T_ xn,I_ J_ xs,I_ J_ xl]:=by rw [F];exact Xi
     have hyl:ys.length<=10000:=o_;let ⟨A5,c5,w5,I,G,av⟩:=O.push Ta.Qv #[T_ xn] rfl v_ o_ d_ al;rw [F] at I;exact ⟨A5,c5,w5,I,(show Xd w5 wr.heap.size 223 #[T_ xn,I_ J_ xs,I_ J_ xl] from (av.block _ an.lt (λe=>O.row.dZ an d_ _ e rfl)).trans an).cell 1,_,G⟩)
    rw [F] at am;clear af al F ae HG;generalize Sat.add free xs=free2 at*;by_cases aH:k<q
    .obtain ⟨ad3,hl3,rfl,aT,aP⟩:=gu.oo (H3.o.below HW.o) aH
     generalize bs[k]=b at*;have aB:decide (q<=k)=WW:=dF;have hc4:=Mem.fo (o:= .cells #[T_ xn,I_ J_ xs,I_ J_ xl] 223) aP;cases b
     .go_wp2
      go_roundw
      .exact ⟨k+1,AG,cG,V,free,o_,o_,hf,by go_num,by go_num,rfl,rfl,am⟩
      .simp [intOf];omega
     .let ⟨A5,c5,w5,I,z1,G⟩:=ac.o
      have ap:=Hd G;clear G ac;go_wp2_with (at_builtin;refine Yb rfl _ _ _ _ rfl _ _ rfl rfl I ?_)
      refine (ax.o _).mono ?_;rintro e X ⟨rfl,rfl⟩;go_wp2;go_roundw
      .exact ⟨k+1,A5,c5,V+1,free2,o_,o_,aw,by go_num,by go_num,rfl,rfl,ap⟩
      .simp [intOf];omega
    .have aB:decide (q<=k)=Z':=dT
     obtain ⟨A5,c5,w5,I,z1,(ap:Xb _)⟩:=ac.o;clear ac;go_wp2_with (at_builtin;refine Yb rfl _ _ _ _ rfl _ _ rfl rfl I ?_)
     refine (ax.o _).mono ?_;rintro e X ⟨rfl,rfl⟩;go_wp2;go_roundw
     .exact ⟨k+1,A5,c5,V+1,free2,o_,o_,aw,by go_num,by go_num,rfl,rfl,ap⟩
     .simp [intOf];omega
  .obtain rfl:k=ys.length:=o_
   have ag:=Hd (ae.o wr ys.length HW.o l_);go_wp2;rw [XU];exact bodyPost_ret (v:=U_ #[S_ AG V cG,I_ J_ free,I_ J_ (ys.length:Nat)]) (by simp [results,results117,go_sem]) rfl ag.o
end Tw
end
end Go.Proofs.YtkidababfdehlaaGreatDoor
