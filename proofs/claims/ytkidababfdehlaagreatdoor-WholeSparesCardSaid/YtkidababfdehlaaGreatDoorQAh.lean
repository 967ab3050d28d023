/- Parts of the walk. -/
import Derived.Test.YtkidababfdehlaaGreatDoorQAg
import Derived.Test.YtkidababfdehlaaGreatDoorQAf
import Derived.Test.YtkidababfdehlaaGreatDoorQAe
set_option linter.all false
set_option maxRecDepth 100000
set_option maxHeartbeats 64000000
namespace Go.Proofs.YtkidababfdehlaaGreatDoor
open Value renaming int -> I_,bool -> B_,string -> T_,slice -> S_,pointer -> P_,tuple -> U_,agg -> A_
open IntKind renaming i64 -> J_
open Ending renaming returned -> R_
open _root_.Array renaming size -> X_
open Go.World renaming heap -> Y_
open Option renaming some -> Y',none -> Z_,bind_some -> Yc
open Bool renaming true -> Z',false -> WW,true_and -> Xv,or_eq_false_iff -> XO
open Go renaming World -> WX,Value -> WY,Calls -> WZ,Addr -> Xa
open Go.RowKit renaming Hid -> Xb
open _root_.Go.Proofs.Tryz renaming prog -> Xc
open Nat renaming zero_add -> Xd,add_sub_cancel_left -> Xq,lt_of_lt_of_le -> XB,eq_zero_or_pos -> XC,add_mul -> Yi
open Tp renaming join -> Xe,eP -> Xg,gK -> Xn,dH -> XA,fS -> XM,yj -> XY,dM -> XZ,fW -> Yg,fD -> Yo,r_ -> Ys,ic -> Yu,dR -> Yv
open Go.Sort renaming size_flatK -> Xf,mapBlock -> Xu,putRowK -> Xy,putRow -> XF,ahead -> XJ,putCells -> XR,heap_grow_old -> XV,flatK -> XW
open Go.World renaming rangeAt_setCells_same -> Xh,there -> Xm
open Go.Lib renaming decFrom -> Xi,hasSuffix -> Xl,index -> Xr,trimSuffix -> Xt,digitVal -> Xz,trimLeftS -> XT,decDigits -> XU,trimS -> Ye,cut -> Yn
open Mem renaming c_ -> Xj,Sl -> Xw
open Mem.c_ renaming new -> Xk
open Tp.Th renaming value -> Xo,print -> Yh
open List renaming length_append -> Xp,isSuffixOf_iff_suffix -> XD,flatten_cons -> XG,length_cons -> XH,getElem_map -> XI,map_cons -> XS,mem_map -> Ya,ext_getElem? -> Yb,take_length -> Yd,length_map -> Yl,map -> Yq
open Go.Value renaming oneCell' -> Xs,slice -> XE
open _root_.Array renaming length_toList -> Xx,toList -> XL,getElem_toList -> XP,size -> XX,all -> Yf
open _root_.ByteArray renaming data_extract -> XK,ext -> Yr
open Ro renaming dr -> XN,dt -> Yp
open dz renaming flat -> XQ
open Go.Instr renaming index -> Yj
open UInt8 renaming toNat_inj -> Yk
open Sat renaming mul -> Ym
open dA renaming flat -> Yt
variable {F:Array WY} {s:ByteArray} {ρ:Go.Shelf.Ren} {O:List (List UInt8)} {d l r u:List UInt8} {V b k m n off:Nat} {A:Option Xa} {U X:Option Nat} {P:Program} {q:Prop} {e:TypeId} {c:UInt8} {v:WY} {w w':WX}
open _root_.Go.Proofs.Tryz Go.RowKit
section
open Go.Shelf
namespace Tq
open Tx
def Se (x:ByteArray×Int):List WY:=[T_ x.1,I_ J_ x.2]
def us:List (ByteArray×Int):=[(⟨#[84,105]⟩,1099511627776),(⟨#[84]⟩,1000000000000),(⟨#[71,105]⟩,1073741824),(⟨#[71]⟩,1000000000),(⟨#[77,105]⟩,1048576),(⟨#[77]⟩,1000000),(⟨#[75,105]⟩,1024),(⟨#[107]⟩,1000)]
def uc:Array WY:= #[T_ ⟨#[84,105]⟩,I_ J_ 1099511627776,T_ ⟨#[84]⟩,I_ J_ 1000000000000,T_ ⟨#[71,105]⟩,I_ J_ 1073741824,T_ ⟨#[71]⟩,I_ J_ 1000000000,T_ ⟨#[77,105]⟩,I_ J_ 1048576,T_ ⟨#[77]⟩,I_ J_ 1000000,T_ ⟨#[75,105]⟩,I_ J_ 1024,T_ ⟨#[107]⟩,I_ J_ 1000]
def Ng (w:WX):WZ Xc 253 #[] w λe w'=>e=R_ (S_ (Y' ⟨X_ (Y_ w),0,Z_⟩) 8 8)/\w'=w.alloc (.cells uc 362):=by
 go_enter func253,ntmps253;exact lH
def Sf (s:ByteArray) (B:Nat) (w:WX) (hB:B<X_ (Y_ w)) (hcell:w.cell? ⟨B,0,Z_⟩=Y' (T_ s)):
  PredBelow Xc 255 #[P_ (Y' ⟨B,0,Z_⟩)] (λx=>A_ (Se x).toArray) (λx=>x.1.toList==s.toList) w:=λW x hb=>by
 have hc:W.cell? ⟨B,0,Z_⟩=Y' (T_ s):=(hb.cell (p:=⟨B,0,Z_⟩) hB).trans hcell;have hBW:B<X_ (Y_ W):=XB hB hb.size;have hne:B≠X_ (Y_ W):=o_
 show WZ Xc 255 #[A_ #[T_ x.1,I_ J_ x.2],P_ (Y' ⟨B,0,Z_⟩)] W _
 go_enter func255,ntmps255;go_wp2;go_ret;exact ⟨rfl,hb.alloc hb.size _⟩
instance:Inhabited (ByteArray×Int):=⟨(⟨#[]⟩,0)⟩
def mc (s:ByteArray) (j:Nat) (v:Int) (w:WX) (hne:s.toList.isEmpty=WW) (hj:j<8) (hi:Lib.idxBy (λ_ y=>y.1.toList==s.toList) us default=(j:Int)) (hv:uc[j*2+1]?=Y' (I_ J_ v)):
  WZ Xc 202 #[s] w λe w'=>e=R_ (I_ J_ v)/\Bw w w':=by
 let ⟨w1,I⟩:=nm (w.alloc (.cells #[s] 9));let ⟨w2,G⟩:=nm (w1.alloc (.cells uc 362));have V:Bw w w1:=by rw [I];exact dL
 have aa:X_ (Y_ w1)=X_ (Y_ w)+1:=by rw [I];simp
 have U:Bw w1 w2:=by rw [G];exact dL
 have X:X_ (Y_ w2)=X_ (Y_ w1)+1:=by rw [G];simp
 have c1:C w1 w.heap.size 0 s:=by rw [I];exact Mem.c_.new.cell 0
 have c2:C w2 w.heap.size 0 s:=(U.cell (p:=⟨X_ (Y_ w),0,Z_⟩) (show w.heap.size<_ by omega)).trans c1;have k2:Xj w2 w1.heap.size 362 uc:=by rw [G];exact Xk
 have eg: ∀args w,(callFunc 255 args).run Xc w= .ok (.enter 255 args) w:=enters_of func255 k_ rfl;have F:=AnyQ.slices_IndexFunc Tryz.Ve 2 isAgg362 sizeOf362 Se (λ_=>rfl) (λx=>x.1.toList==s.toList) 255 #[P_ (Y' ⟨X_ (Y_ w),0,Z_⟩)] eg w1.heap.size 0 8 8 us w2
  (Sf s w.heap.size w2 o_ c2) d_ d_ o_ (λk hk i v hi=>by
   have hk8:k<8:=hk;have hi2:i<2:=(Array.getElem?_eq_some_iff.1 (show (Se us[k]!).toArray[i]?=Y' v by simpa using hi)).1;rw [Xd];refine (k2.cell (k*2+i)).trans ?_;obtain rfl|rfl:i=0\/i=1:=o_
   all_goals (have:k=0\/k=1\/k=2\/k=3\/k=4\/k=5\/k=6\/k=7:=o_;obtain rfl|rfl|rfl|rfl|rfl|rfl|rfl|rfl:=this<;>exact hi))
 change WZ Xc 254 _ _ _ at F;rw [show us.take 8=us from rfl,hi] at F;have HC:=Hd F;have HU:=Hd (Ng w1);have ab:=Hd G;have HBc:=Hd (V.trans (U.mono V.size));have x1:w2.cell? ⟨X_ (Y_ w1),j*2+1,Z_⟩=Y' (I_ J_ v):=by
  rw [k2.cell,hv]
 have X1:=Hd x1;have af:=Hd I;have HS1:=Hd aa;have ah:=Hd X;have C2:=Hd c2;clear F hi hv V U k2 c2 c1 G x1 I aa X eg;go_enter func202,ntmps202;go_wp2_with fail;rw [<-af.o];refine HU.mono ?_;rintro e w3 ⟨rfl,rfl⟩;rw [<-ab.o];go_wp2_with fail;refine HC.mono ?_;rintro e w3 ⟨rfl,O⟩;have x3:w3.cell? ⟨X_ (Y_ w1),j*2+1,Z_⟩=Y' (I_ J_ v):=(O.cell (p:=⟨X_ (Y_ w1),j*2+1,Z_⟩) (by have:=HBc.o.size;have:=ah.o;show w1.heap.size<_;omega)).trans X1;have HB:=Hd (HBc.trans (O.mono HBc.size));clear O;go_wp2;go_ret;exact ⟨rfl,HB⟩
def Nh (i:Nat) (w:WX) (hi:i<=8):
  WZ Xc 202 #[T_ (str (XA i))] w λe w'=>e=R_ (I_ J_ (XZ i:Nat))/\Bw w w':=by
 have:i=0\/i=1\/i=2\/i=3\/i=4\/i=5\/i=6\/i=7\/i=8:=o_;obtain rfl|rfl|rfl|rfl|rfl|rfl|rfl|rfl|rfl:=this
 .exact mc _ 0 _ w k_ d_ k_ rfl
 .exact mc _ 1 _ w k_ d_ k_ rfl
 .exact mc _ 2 _ w k_ d_ k_ rfl
 .exact mc _ 3 _ w k_ d_ k_ rfl
 .exact mc _ 4 _ w k_ d_ k_ rfl
 .exact mc _ 5 _ w k_ d_ k_ rfl
 .exact mc _ 6 _ w k_ d_ k_ rfl
 .exact mc _ 7 _ w k_ d_ k_ rfl
 .have F:Bw w (w.alloc (.cells #[T_ (str [])] 9)):=dL
  have he:(str []).toList.isEmpty=Z':=by rw [i_];rfl
  have G:=Hd F
  show WZ Xc 202 #[T_ (str [])] w _
  generalize str []=x at*;go_enter func202,ntmps202;go_wp2;go_ret;exact ⟨rfl,G⟩
def np: ∀(l:List UInt8) (x:Nat),x<=XM->l.foldl XY x<=XM
 |[],_,h=>h
 |_::l,_,_=>np l _ (by unfold XY Tp.vV;exact Nat.min_le_right _ _)
def BB (x y:Nat):Ym x y=(Ys x y:Nat):=by
 unfold Ym Ys Sat.cut XM;rw [Sat.jP _ o_,Sat.jP _ o_];split<;>omega
def Ni (x y:Nat):Sat.add x y=(Tp.vV x y:Nat):=by
 unfold Sat.add Tp.vV Sat.cut XM;rw [Sat.jP _ o_,Sat.jP _ o_];split<;>omega
def Sg (x v:Nat) (h:48<=v):Sat.add (Ym x 10) ((v:Int) - 48)=(Tp.vV (Ys x 10) (v - 48):Nat):=by
 rw [show (10:Int)=((10:Nat):Int) from rfl,BB,show (v:Int) - 48=((v - 48:Nat):Int) by omega,Ni]
def Sh (c:UInt8):([48,49,50,51,52,53,54,55,56,57]:List UInt8).contains c=Yg c:=by
 have h: ∀n,n<256->([48,49,50,51,52,53,54,55,56,57]:List UInt8).contains (UInt8.ofNat n)=Yg (UInt8.ofNat n):=d_;have:=h c.toNat c.toNat_lt;simpa using this
def Si (G: ∀c∈d,Yg c=Z') (F: ∀c∈u.head?,Yg c=WW):XT (str (d++u)).data.toList [48,49,50,51,52,53,54,55,56,57]=u:=by
 unfold XT;rw [mn,show (λx=>([48,49,50,51,52,53,54,55,56,57]:List UInt8).contains x)=Yg from funext Sh];exact (Tp.BV G F).2
def BC (d:List UInt8) (i:Nat) (w:WX) (hi:i<=8) (hd: ∀c∈d,Yg c=Z') (ai:d≠[]) (hl:d.length<=100):
  WZ Xc 141 #[T_ (str (d++XA i))] w λe w'=>e=R_ (U_ #[I_ J_ (Ys (d.foldl XY 0) (XZ i):Nat),I_ J_ 0])/\Bw w w':=by
 have HT:=Hd (Any.strings_TrimLeft_laid Tryz.MK k_ (str (d++XA i)) ⟨#[48,49,50,51,52,53,54,55,56,57]⟩ w d_ (ascii_of_all d_));have hul:(XA i).length<=2:=by unfold XA;split<;>simp
 rw [show (XT (str (d++XA i)).data.toList (⟨#[48,49,50,51,52,53,54,55,56,57]⟩:ByteArray).data.toList)=XA i from Si hd (Tp.BW i)] at HT;have V:(str (d++XA i)).size=d.length+(XA i).length:=by rw [fY,Xp]
 have an:(str (d++XA i)).extract 0 d.length=str d:=by
  apply Yr;rw [XK];apply Array.ext';simp [str]
 have HU:=Hd (λX=>Nh i X hi);have G:(str (XA i)).size=(XA i).length:=fY _;have HD:Xb (∀k (U:k<d.length),48<=d[k].toNat/\d[k].toNat<=57):=λk U=>by simpa [Yg] using hd _ (g_ U)
 have ao:Xb (∀k (U:k<d.length),(d.take k).foldl XY 0<=XM):=λk U=>np _ _ d_
 let ⟨F,hF⟩:=nm (d.foldl XY 0);rw [<-hF];have HF:=Hd hF;clear hF;have az:Xb (d.foldl XY 0<=XM):=np _ _ d_;have aw:Xb (∀k (U:k<d.length),d.take (k+1)=d.take k++[d[k]]):=λk U=>Mem.dQ d k U
 have hd1:1<=d.length:=by cases d with|nil=>exact absurd rfl ai|cons a l=>simp
 have hup:0<XZ i:=Tp.nH i;have hum:XZ i<=1099511627776:=by unfold XZ;split<;>decide
 change Xb (WZ Xc _ #[T_ (str (d++XA i)),_] w λe w'=>e=R_ (T_ (str (XA i)))/\Bw w w') at HT;generalize str (d++XA i)=S at*;generalize XA i=u at*;generalize XZ i=m at*;clear hd ai hi;have aa:wrap64 ((S.size:Int) - (str u).size)=d.length:=by
  rw [V,G,show ((d.length+u.length:Nat):Int) - u.length=d.length by omega];unfold wrap64;omega
 have av:(d.length:Int)<=S.size:=o_;have hde:(str d).toList.isEmpty=WW:=by rw [i_];cases d<;>simp_all
 have hm0:((m:Int)==0)=WW:=by simp;omega
 have HSZ:=Hd V;have HL2:=Hd G;clear V G;go_enter func141,ntmps141;go_wp2_with fail;refine HT.o.mono ?_;rintro e w2 ⟨rfl,(H2:Xb _)⟩;clear HT;go_wp2_with fail;refine (HU.o _).mono ?_;rintro e w3 ⟨rfl,ac⟩;have H3:=Hd (H2.o.trans (ac.mono H2.o.size));clear ac HU H2 aa av an;have hv:=Lib.run_convert_string_bytes (P:=Xc) w3 9 65 5 (str d) underlying9 underlying65 underlying5;have HS:=Hd (vN w3 d);have H4:=Hd (H3.o.trans ((jX w3 (str d)).mono H3.o.size));generalize Lib.bytesWorld w3 5 (str d)=w4 at*;have hdl:(str d).size=d.length:=fY d;go_wp2
 go_loop [7,30] (λva vi=> ∃k:Nat,k<=d.length/\vi=I_ J_ k/\va=I_ J_ ((d.take k).foldl XY 0:Nat)) (λ_ i=>d.length - (intOf i).toNat)
 .exact ⟨0,o_,rfl,rfl⟩
 ·
  obtain ⟨k,U,rfl,rfl⟩:=hrel;by_cases O:k<d.length
  .let ⟨ah,I⟩:=HS.o
   let ⟨ad,hA,ar,I⟩:=I o_;obtain rfl:⟨X_ (Y_ w3),0,Z_⟩=ad:=by simpa using hA
   have hc:=I k (by simpa using O);rw [XI,Mem.iO] at hc;have aB:=HD.o k O;have af:=ao.o k O;have ag:(d.take (k+1)).foldl XY 0=Tp.vV (Ys ((d.take k).foldl XY 0) 10) (d[k].toNat - 48):=by rw [aw.o k O,List.foldl_append];rfl
   have al:=Hd ag;unfold uv at hc;clear I hA ar ah ag;generalize (d.take k).foldl XY 0=x at*;generalize d[k]=ch at*;generalize ch.toNat=v at*;have hb8:IntKind.u8.wrap ((v:Int) - 48)=(v:Int) - 48:=by unfold IntKind.wrap;simp [IntKind.bits,IntKind.signed];omega
   have ap:=Hd (Sg x v aB.1);have ax:(x:Int)<=9223372036854775807:=by unfold XM at af;omega
   have HM:=Hd (λX=>Sat.Bn x 10 X ax o_);have HA:=Hd (λX=>Sat.pH (Ym x 10) ((v:Int) - 48) X (Sat.lQ _ _).2 o_);clear af;go_wp2_with fail;refine (HM.o _).mono ?_;rintro e w5 ⟨rfl,rfl⟩;go_wp2_with fail;refine (HA.o _).mono ?_;rintro e w5 ⟨rfl,rfl⟩;go_wp2
   go_round
   .exact ⟨k+1,o_,by go_num,by rw [al.o,<-ap.o]⟩
   .simp [intOf];omega
  .obtain rfl:k=d.length:=o_
   have ae:=Hd (az.o);rw [Yd,<-HF.o];rw [<-HF.o] at ae;have HM:=Hd (λX=>Sat.Bn F m X (by have:=ae.o;unfold XM at this;omega) o_);go_wp2_with fail;refine (HM.o _).mono ?_;rintro e w5 ⟨rfl,rfl⟩;go_wp2;refine bodyPost_ret (v:=U_ #[I_ J_ (Ym F m),I_ J_ 0]) (by simp [results,results141,go_sem]) rfl ⟨by rw [BB],H4.o⟩
def fX: ∀(k n:Nat),n<10^(k+1)->(Xg n).length<=k+1:=by
 intro k
 induction k with
 |zero=>intro n hn;unfold Xg;rw [if_pos (by simpa using hn)];simp
 |succ k ih=>
  intro n hn;unfold Xg;split
  .simp
  .rw [Xp]
   have:=ih (n/10) (by rw [Nat.pow_succ] at hn;omega);simp;omega
def RO (n:Nat) (w:WX) (hn:n<=XM):WZ Xc 141 #[T_ (str (Yv n))] w λe w'=>e=R_ (U_ #[I_ J_ n,I_ J_ 0])/\Bw w w':=by
 unfold Yv;split
 .rename_i h
  subst h;exact BC [48] 8 w d_ (by simp [Yg]) y_ y_
 .have hu:=Tp.nH (Yu n)
  have G:=Tp.EG n;have hq:n/XZ (Yu n)<=n:=Nat.div_le_self _ _;have:=BC (Xg (n/XZ (Yu n))) (Yu n) w (Tp.zA n) (Tp.jI _) (Tp.tQ _) (Nat.le_trans (fX 19 _ (by unfold XM at hn;omega)) d_);rw [Tp.Kj _ o_] at this;have F:Ys (n/XZ (Yu n)) (XZ (Yu n))=n:=by
   unfold Ys;rw [Nat.div_mul_cancel (Nat.dvd_of_mod_eq_zero G)];exact Nat.min_eq_left hn
  rw [F] at this;exact this
end Tq
end
section
open Go.Shelf
namespace Tq
open Tx
structure Gl (w:WX):Prop where
 mx: ∃m,w.cell? ⟨0,0,Z_⟩=Y' (I_ J_ m)
 tab:Lib.TabIs Xc w "internal/strconv.uint64pow10" .u64 Lib.pow10Tab
def Gl.below (h:Gl w) (X:Bw w w'):Gl w':=by
 let ⟨m,G⟩:=h.mx;refine ⟨⟨m,?_⟩,?_⟩
 .have:0<X_ (Y_ w):=by
   obtain V|V:=XC w.heap.size
   .exfalso
    unfold World.cell? at G;rw [Array.getElem?_eq_none o_] at G;cases G
   .exact V
  rw [X.cell (p:=⟨0,0,Z_⟩) this];exact G
 .have F:=h.tab
  have U:prog.globalNamed "internal/strconv.uint64pow10"=Y' (prog.globalNamed "internal/strconv.uint64pow10"|>.getD 0):=k_;generalize (prog.globalNamed "internal/strconv.uint64pow10"|>.getD 0)=g at U;unfold Lib.TabIs World.var? at F |-;rw [U] at F |-;simp only [Yc] at F |-;have O:g<X_ (Y_ w):=by
   obtain I|I:=Nat.lt_or_ge g w.heap.size
   .exact I
   .rw [Array.getElem?_eq_none I] at F;cases F
  rw [X.block g O];exact F
def Eh: ∀{l:List UInt8} {c:UInt8},(∀x∈l,x≠c)->Xr l [c]= -1
 |[],_,_=>rfl
 |a::l,c,h=>by
  have h1:a≠c:=h a y_;have h2:=Eh (l:=l) (c:=c) λx hx=>h x (by simp [hx])
  unfold Xr;rw [h2];simp [Ne.symm h1]
def tO: ∀{l r:List UInt8} {c:UInt8},(∀x∈l,x≠c)->Xr (l++c::r) [c]=l.length
 |[],r,c,_=>by unfold Xr;simp
 |a::l,r,c,h=>by
  have h1:a≠c:=h a y_;have h2:=tO (l:=l) (r:=r) (c:=c) λx hx=>h x (by simp [hx])
  show Xr (a::(l++c::r)) [c]=_
  unfold Xr;rw [h2];have h3: ¬((l.length:Int)= -1):=o_;simp [Ne.symm h1,h3]
def PE (h: ∀x∈l,x≠c):Yn l [c]=(l,[],WW):=by
 unfold Yn;rw [Eh h];rfl
def pV (h: ∀x∈l,x≠c):Yn (l++c::r) [c]=(l,r,Z'):=by
 unfold Yn;rw [tO h,if_pos o_];simp
def Ei: ∀n,XU n=Xg n:=by
 intro n
 induction n using Nat.strongRecOn with
 |ind n ih=>
  unfold XU Xg Tp.sn;split
  .rfl
  .rw [ih (n/10) o_]
def JL (w:WX):WZ Xc 197 #[] w λe w'=>e=R_ (S_ (Y' ⟨X_ (Y_ w),0,Z_⟩) 3 3)/\w'=w.alloc (.cells #[T_ ⟨#[109,101,109,111,114,121]⟩,T_ ⟨#[100,105,115,107]⟩,T_ ⟨#[112,105,100]⟩] 9):=by
 go_enter func197,ntmps197;exact lH
def Ej (i:Nat) (w:WX) (hi:i<=2):WZ Xc 138 #[T_ (str (Yo i))] w λe w'=>e=R_ (U_ #[I_ J_ i,B_ Z'])/\Bw w w':=by
 let ⟨w1,ab⟩:=nm (w.alloc (.cells #[T_ ⟨#[109,101,109,111,114,121]⟩,T_ ⟨#[100,105,115,107]⟩,T_ ⟨#[112,105,100]⟩] 9));have O:Bw w w1:=by rw [ab];exact dL
 have k1:Xj w1 w.heap.size 9 #[T_ ⟨#[109,101,109,111,114,121]⟩,T_ ⟨#[100,105,115,107]⟩,T_ ⟨#[112,105,100]⟩]:=by rw [ab];exact Xk
 have I:i=0\/i=1\/i=2:=o_;have F:=Any.slices_Index_string Tryz.JM w.heap.size 0 3 3 [⟨#[109,101,109,111,114,121]⟩,⟨#[100,105,115,107]⟩,⟨#[112,105,100]⟩] (str (Yo i)) w1 d_ d_ (λj G=>by
  have hj':j<3:=G;have:j=0\/j=1\/j=2:=o_;rw [Xd];refine (k1.cell j).trans ?_;obtain rfl|rfl|rfl:=this<;>rfl)
 have V:Lib.idxOfS (List.take 3 [⟨#[109,101,109,111,114,121]⟩,⟨#[100,105,115,107]⟩,⟨#[112,105,100]⟩]) (str (Yo i))=(i:Int):=by
  obtain rfl|rfl|rfl:=I<;>rfl
 rw [V] at F;change WZ Xc 196 _ _ _ at F;have HC:=Hd F;have X:=Hd (JL w);have HB:=Hd O;rw [<-ab] at X;have aa:max (i:Int) 0=i:=o_;have U:((i:Int)<0)=False:=by simp
 clear F V O k1 ab I;generalize str (Yo i)=s at*;go_enter func138,ntmps138;go_wp2_with fail;refine X.mono ?_;rintro e w3 ⟨rfl,rfl⟩;go_wp2_with fail;refine HC.mono ?_;rintro e w3 ⟨rfl,rfl⟩;go_wp2;refine bodyPost_ret (v:=U_ #[I_ J_ i,B_ Z']) (by simp [results,results138,go_sem]) rfl ⟨rfl,HB⟩
def vG (w:WX) (k:Nat) (os:Array Obj):Bw w (Sort.grow (w.drewN k) os):=
 ⟨rfl,rfl,rfl,by show w.heap.size<=(w.heap++os).size;rw [Array.size_append];omega,λj hj=>by
  show (w.heap++os)[j]?=w.heap[j]?
  rw [Array.getElem?_append_left hj]⟩
def NL {p:Prop} (h:p:=by
 show (match Lib.digitVal c with|some d=>Lib.decFrom (a*10+d) l|none=>none)=_
 rw [F]):p:=h
def jz (a d:Nat) (c:UInt8) (l:List UInt8) (F:Xz c=Y' d):Xi a (c::l)=Xi (a*10+d) l:=by
 exact NL
def rY (a:Nat) (c:UInt8) (l:List UInt8) (F:Xz c=Z_):Xi a (c::l)=Z_:=by
 exact NL
def pz: ∀(l r:List UInt8) (a b:Nat),Xi a l=Y' b->Xi a (l++r)=Xi b r
 |[],_,a,b,h=>by
  have:a=b:=by simpa [Xi] using h
  subst this;rfl
 |c::l,r,a,b,h=>by
  cases hd:Xz c with
  |none=>rw [rY _ _ _ hd] at h;cases h
  |some d=>
   rw [jz _ _ _ _ hd] at h
   show Xi a (c::(l++r))=_
   rw [jz _ _ _ _ hd];exact pz l r _ _ h
def su (h:k<10):Xz (Tp.sn k)=Y' k:=by
 unfold Xz;rw [Tp.nw h,if_pos o_];simp
def tP: ∀n,Xi 0 (Xg n)=Y' n:=by
 intro n
 induction n using Nat.strongRecOn with
 |ind n ih=>
  unfold Xg;split
  .rename_i h
   rw [jz _ _ _ _ (su h)];simp [Xi]
  .rw [pz _ _ _ _ (ih (n/10) o_)]
   rw [jz _ _ _ _ (su o_)];simp [Xi];omega
def BK (n:Nat):Lib.atoi (Xg n)=Y' (n:Int):=by
 have h:=tP n;have U:=Tp.jI n;have F:=Tp.tQ n;generalize Xg n=l at*;cases l with
 |nil=>exact absurd rfl F
 |cons b r=>
  have G:Yg b=Z':=U b y_;have I:b≠45:=Tp.qx G d_;have O:b≠43:=Tp.qx G d_
  show (if b==45 then _ else if b==43 then _ else (Lib.decNat (b::r)).map λ(m:Nat)=>(m:Int))=_
  rw [if_neg (by simpa using I),if_neg (by simpa using O)];unfold Lib.decNat;simp [h]
def gM (n:Nat) (w:WX) (hn:n<=100000) (U:Gl w):WZ Xc 139 #[T_ (str (Xg n))] w λe w'=>e=R_ (I_ J_ n)/\Bw w w':=by
 have G:(Xg n).length<=6:=Tq.fX 5 n o_;have HA:=Hd (Any.strconv_Atoi Tryz.JN (str (Xg n)) n (by rw [fY];omega) (BK n) w);have HI:=Hd (λX (hX:Gl X)=>Any.strconv_Itoa Tryz.Ek n o_ o_ X hX.tab);have F:(⟨(Lib.itoa (n:Int)).toArray⟩:ByteArray)=str (Xg n):=by
  unfold Lib.itoa;rw [if_neg o_]
  show str (XU n)=_
  rw [Ei]
 rw [F] at HI;have HG:=Hd U;clear G F U;have hss:((str (Xg n)).toList==(str (Xg n)).toList)=Z':=by simp
 generalize str (Xg n)=s at*;go_enter func139,ntmps139;go_wp2_with fail;refine HA.mono ?_;rintro e w2 ⟨rfl,t,rfl⟩;have O:=Hd (HG.below (jX w t));have V:=Hd (jX w t);rw [show Tryz.pA.t 5=5 from rfl];generalize Lib.bytesWorld w 5 t=w2 at*;go_wp2_with fail;refine (HI _ O).mono ?_;rintro e w3 ⟨rfl,q,os,rfl⟩;have I:=Hd (V.trans ((vG w2 q os).mono V.size));generalize Sort.grow (w2.drewN q) os=w3 at*;go_wp2;go_ret;exact ⟨rfl,I⟩
end Tq
end
section
open Go.Shelf gu
namespace Tq
open Tx
def ms80 {p:Prop} (h:p:=by
 cases F with
 |true=>
  have U:=hs rfl;clear hs G;go_enter func80,ntmps80;go_wp2_with fail;go_ret;exact ⟨rfl,V⟩
 |false=>
  have U:=G rfl;subst U;clear hs G;go_enter func80,ntmps80;go_wp2_with fail;go_ret;exact ⟨rfl,V⟩):p:=h
def xL (t:dA) (h:fR t) (w:WX):WZ Xc 80 #[A_ t.arr] w λe w'=>e=R_ (B_ Z')/\Bw w w':=by
 obtain ⟨X,I,aa,F,O⟩:=t;let ⟨s0,s2,p0,p1,a0,one,g0,g1,hs,G⟩:=h
 dsimp only at s0 s2 p0 p1 a0 one g0 g1 hs G
 unfold dA.arr
 dsimp only
 have V:Xb (Bw w (w.alloc (.cells #[I_ J_ X,I_ J_ I,I_ J_ aa,B_ F,I_ J_ O] 92))):=dL;obtain ⟨h1,h2⟩|⟨h1,h2⟩:=one
 .subst h1
  exact ms80
 .subst h2
  have h4:1<=I:=o_;have h5: ¬I=0:=o_;exact ms80
def Vg (s:List UInt8) (c:UInt8) (a b:List UInt8) (f:Bool) (w:WX) (G:Gl w) (hs:s.length<=1000) (h:Yn s [c]=(a,b,f)):
  WZ Xc 137 #[T_ (str s),T_ ⟨#[c]⟩] w λe w'=>e=R_ (U_ #[T_ (str a),T_ (str b),B_ f])/\Bw w w':=by
 let ⟨m,F⟩:=G.mx;have:=Any.strings_Cut Tryz.ML (str s) ⟨#[c]⟩ m w (by rw [fY];omega) F;rw [show (⟨#[c]⟩:ByteArray).data.toList=[c] from rfl,mn,h] at this;refine Calls.mono this ?_;rintro e w' ⟨rfl,n,rfl⟩;exact ⟨rfl,⟨rfl,rfl,rfl,Nat.le_refl _,λ_ _=>rfl⟩⟩
def BD (s:List UInt8) (c:UInt8) (a:List UInt8) (f:Bool) (w:WX) (hs:s.length<=1000) (h:Xt s [c]=a) (F:Xl s [c]=f):
  WZ Xc 140 #[T_ (str s),T_ ⟨#[c]⟩] w λe w'=>e=R_ (U_ #[T_ (str a),B_ f])/\Bw w w':=by
 have:=Any.strings_CutSuffix Tryz.MM (str s) ⟨#[c]⟩ w (by rw [fY];omega);rw [show (⟨#[c]⟩:ByteArray).data.toList=[c] from rfl,mn,h,F] at this;refine Calls.mono this ?_;rintro e w' ⟨rfl,rfl⟩;exact ⟨rfl,Below.refl _ _⟩
def qw (h: ∀x∈l,x≠c):Xt l [c]=l/\Xl l [c]=WW:=by
 have:Xl l [c]=WW:=by
  unfold Xl;rw [Bool.eq_false_iff];intro F;let ⟨r,G⟩:=XD.1 F;exact h c (by rw [<-G];simp) rfl
 exact ⟨by unfold Xt;rw [this];rfl,this⟩
def oB:Xt (l++[c]) [c]=l/\Xl (l++[c]) [c]=Z':=by
 have:Xl (l++[c]) [c]=Z':=by
  unfold Xl;exact XD.2 ⟨l,rfl⟩
 exact ⟨by unfold Xt;rw [this];simp,this⟩
def Nl (s p a g:Nat) (soft:Bool) (w:WX) (hR:fR ⟨s,p,a,soft,g⟩) (ho:a<=XM) (hg:Gl w):
  WZ Xc 75 #[T_ (str (Yh ⟨s,p,a,soft,g⟩))] w λe w'=>e=R_ (U_ #[A_ (dA.arr ⟨s,p,a,soft,g⟩),I_ J_ 0])/\Bw w w':=by
 have hs2:s<=2:=by have:=hR.s2;dsimp only at this;omega
 have hp1:p<=100:=by have:=hR.p1;dsimp only at this;omega
 have hg1:g<=1000:=by have:=hR.g1;dsimp only at this;omega
 have ac:=Hd (λX=>xL _ hR X);have hone:=hR.one;have hsoft:=hR.soft;have hhard:=hR.VI
 dsimp only at hone hsoft hhard
 have HON:=Hd hone;have HSO:=Hd hsoft;have HHA:=Hd hhard;clear hone hsoft hhard;let ⟨w1,hw1⟩:=nm (w.alloc (.cells #[I_ J_ 0,I_ J_ 0,I_ J_ 0,B_ WW,I_ J_ 0] 92));let ⟨w2,hw2⟩:=nm (w1.alloc (.cells #[I_ J_ 0,I_ J_ 0,I_ J_ 0,B_ WW,I_ J_ 0] 92));have hb1:Bw w w1:=by rw [hw1];exact dL
 have hb2:Bw w w2:=by rw [hw2];exact hb1.alloc hb1.size _
 have k1:Xj w2 w.heap.size 92 #[I_ J_ 0,I_ J_ 0,I_ J_ 0,B_ WW,I_ J_ 0]:=by rw [hw2,hw1];exact Mem.c_.alloc Xk
 have hz1:X_ (Y_ w1)=X_ (Y_ w)+1:=by rw [hw1];simp
 have k2:Xj w2 (X_ (Y_ w)+1) 92 #[I_ J_ 0,I_ J_ 0,I_ J_ 0,B_ WW,I_ J_ 0]:=by rw [hw2,<-hz1];exact Xk
 have hg2:=hg.below hb2;have G:=Hd (show w2=(w.alloc (.cells #[I_ J_ 0,I_ J_ 0,I_ J_ 0,B_ WW,I_ J_ 0] 92)).alloc (.cells #[I_ J_ 0,I_ J_ 0,I_ J_ 0,B_ WW,I_ J_ 0] 92) from by rw [hw2,hw1]);have HK1:=Hd k1;have HK2:=Hd k2;have HB:=Hd hb2;have HG:=Hd hg2;have HG0:=Hd hg;clear hw1 hw2 hb1 hb2 k1 k2 hz1 hg2 hg hR;have hlen:(Xo ⟨s,p,a,soft,g⟩).length<=100:=by
  have h1:=Tx.gh (n:=a) ho;have h2:=Tq.fX 2 p o_;unfold Xo;split<;>simp<;>omega
 have hld:=Tq.fX 3 g o_;have hldp:=Tq.fX 2 p o_;have hlw:(Yo s).length<=6:=by unfold Yo;split<;>simp
 have hpr:Yh ⟨s,p,a,soft,g⟩=Yo s++60::(Xo ⟨s,p,a,soft,g⟩++if soft then 58::Xg g else []):=rfl;have hpl:(Yh ⟨s,p,a,soft,g⟩).length<=1000:=by rw [hpr];cases soft<;>simp<;>omega
 have hfree:=Tp.ye ⟨s,p,a,soft,g⟩;have hsw:=Tp.vR s (x:=60) d_;rw [hpr] at hpl;rw [hpr];clear hpr;have hv1:0<p->Xo ⟨s,p,a,soft,g⟩=Xg p++[37]:=λh=>by unfold Xo;rw [if_pos h]
 have hv2:p=0->Xo ⟨s,p,a,soft,g⟩=Yv a:=λh=>by unfold Xo;rw [if_neg (by dsimp only;omega)]
 have HV1:=Hd hv1;have HV2:=Hd hv2;clear hv1 hv2;generalize Xo ⟨s,p,a,soft,g⟩=vl at*;have CS:=Hd (λX=>Ej s X hs2);generalize Yo s=sw at*;have C1:=Hd (λX (hX:Gl X)=>Vg (sw++60::(vl++if soft then 58::Xg g else [])) 60 sw (vl++if soft then 58::Xg g else []) Z' X hX hpl (pV hsw));have HX:=Hd (λX (hX:Gl X)=>Vg (vl++if soft then 58::Xg g else []) 58 vl (if soft then Xg g else []) soft X hX (by cases soft<;>simp<;>omega) (by
  cases soft with
  |true=>exact pV hfree
  |false=>rw [show (if WW=Z' then 58::Xg g else ([]:List UInt8))=[] from rfl,List.append_nil];exact PE hfree))
 generalize sw++60::(vl++if soft then 58::Xg g else [])=pr at*;clear hpl hfree hsw;generalize (vl++if soft then 58::Xg g else [])=rs at*;have HGR:=Hd (show (if soft=Z' then Xg g else [])=(if soft=Z' then Xg g else []) from rfl);generalize hgr:(if soft=Z' then Xg g else [])=gr at HX HGR;have HGR2:=Hd hgr;clear hgr HGR;go_enter func75,ntmps75;go_wp2_with fail;rw [<-G.o];refine (C1.o _ HG.o).mono ?_;rintro e w3 ⟨rfl,hb3⟩;have HB3:=Hd (HB.o.trans (hb3.mono HB.o.size));have HG3:=Hd (HG.o.below hb3);have HK13:=Hd (HK1.o.a_ hb3);have HK23:=Hd (HK2.o.a_ hb3);clear hb3 HB HG HK1 HK2 G C1;go_wp2_with fail;refine (CS.o _).mono ?_;rintro e O ⟨rfl,I⟩;have HB4:=Hd (HB3.o.trans (I.mono HB3.o.size));have U:=Hd (HG3.o.below I);have HK14:=Hd (HK13.o.a_ I);have HK24:=Hd (HK23.o.a_ I);clear I HB3 HG3 HK13 HK23 CS;go_wp2_with fail;refine (HX.o _ U.o).mono ?_;rintro e w5 ⟨rfl,hp⟩;have HB5:=Hd (HB4.o.trans (hp.mono HB4.o.size));have HG5:=Hd (U.o.below hp);have HK15:=Hd (HK14.o.a_ hp);have HT3:=Hd (HK24.o.a_ hp);clear hp HB4 U HK14 HK24 HX;have y0:=HT3.o.cell 0;have y3:=HT3.o.cell 3;have f0:=HT3.o.frozen 0;have f3:=HT3.o.frozen 3;have f3':=(HT3.o.eC 0 (I_ J_ s)).frozen 3;have HK:=Hd ((HT3.o.eC 0 (I_ J_ s)).eC 3 (B_ soft));have HE:=Hd ((HK15.o.fA (p:=⟨X_ (Y_ w)+1,0,Z_⟩) (u:=I_ J_ s) y_).fA (p:=⟨X_ (Y_ w)+1,3,Z_⟩) (u:=B_ soft) y_);have am:Xb (Bw w ((w5.setCell ⟨X_ (Y_ w)+1,0,Z_⟩ (I_ J_ s)).setCell ⟨X_ (Y_ w)+1,3,Z_⟩ (B_ soft))):=Hd ((HB5.o.setCell y_ _).setCell y_ _);have HS3:=Hd (HG0.o.below am.o);cases soft with
 |true=>
  have hgr:Xb (Xg g=gr):=Hd (by simpa using HGR2.o);have HNU:=Hd (λX (hX:Gl X)=>gM g X o_ hX);rw [hgr.o] at HNU;go_wp2_with fail;generalize (w5.setCell ⟨X_ (Y_ w)+1,0,Z_⟩ (I_ J_ s)).setCell ⟨X_ (Y_ w)+1,3,Z_⟩ (B_ Z')=w6 at*;refine (HNU.o _ HS3.o).mono ?_;rintro e w8 ⟨rfl,bu⟩;have ag:=Hd (am.o.trans (bu.mono am.o.size));have HB0:=Hd (HK.o.a_ bu);have J2:=Hd (HE.o.a_ bu);have y:=HB0.o.cell 4;have z:=HB0.o.frozen 4;let ⟨F,hw8⟩:=nm (w8.setCell ⟨X_ (Y_ w)+1,4,Z_⟩ (I_ J_ g));have HE8:=Hd hw8;have HK8:Xb (Xj F (X_ (Y_ w)+1) 92 #[I_ J_ s,I_ J_ 0,I_ J_ 0,B_ Z',I_ J_ g]):=Hd (by rw [hw8];exact HB0.o.eC 4 (I_ J_ g));have bJ:=Hd (show Xj F w.heap.size 92 #[I_ J_ 0,I_ J_ 0,I_ J_ 0,B_ WW,I_ J_ 0] from by rw [hw8];exact J2.o.fA y_);have am:=Hd (show Bw w F from by rw [hw8];exact ag.o.setCell y_ _);clear bu hw8 y0 y3 f0 f3 f3';obtain hp0|hp0:=XC p
  .subst hp0
   have hvl:=HV2.o rfl;have af:=Hd (λX=>BD vl 37 vl WW X o_ (qw (by rw [hvl];exact Tp.gJ a d_ d_)).1 (qw (by rw [hvl];exact Tp.gJ a d_ d_)).2);have HNX:=Hd (λX=>RO a X ho);rw [<-hvl] at HNX;have HVL:=Hd hvl;clear hvl;go_wp2_with fail;rw [<-HE8.o];refine (af.o _).mono ?_;rintro e wz ⟨rfl,aT⟩;have b8:=Hd (am.o.trans (aT.mono am.o.size));have cm:=Hd (HK8.o.a_ aT);have ba:=Hd (bJ.o.a_ aT);clear aT;go_wp2_with fail;refine (HNX.o _).mono ?_;rintro e w10 ⟨rfl,bl⟩;have cL:=Hd (b8.o.trans (bl.mono b8.o.size));have aS:=Hd (cm.o.a_ bl);have aP:=Hd (ba.o.a_ bl);have y:=aS.o.cell 2;have z:=aS.o.frozen 2;let ⟨w11,hw11⟩:=nm (w10.setCell ⟨X_ (Y_ w)+1,2,Z_⟩ (I_ J_ a));have HE11:=Hd hw11;have cr:Xb (Xj w11 (X_ (Y_ w)+1) 92 #[I_ J_ s,I_ J_ 0,I_ J_ a,B_ Z',I_ J_ g]):=Hd (by rw [hw11];exact aS.o.eC 2 (I_ J_ a));have HE:=Hd (show Xj w11 w.heap.size 92 #[I_ J_ 0,I_ J_ 0,I_ J_ 0,B_ WW,I_ J_ 0] from by rw [hw11];exact aP.o.fA y_);have am:=Hd (show Bw w w11 from by rw [hw11];exact cL.o.setCell y_ _);clear bl hw11;go_upto_region 12 with fail;rw [<-HE11.o];clear y z;have v0:=cr.o.cell 0;have v1:=cr.o.cell 1;have v2:=cr.o.cell 2;have v3:=cr.o.cell 3;have v4:=cr.o.cell 4;go_wp2_with fail;refine (ac.o _).mono ?_;rintro e w4 ⟨rfl,b9⟩;have aa:=Hd (am.o.trans (b9.mono am.o.size));have y9:=Hd (cr.o.a_ b9);have bR:=Hd (HE.o.a_ b9);clear v0 v1 v2 v3 v4 b9;have v0:=y9.o.cell 0;have v1:=y9.o.cell 1;have v2:=y9.o.cell 2;have v3:=y9.o.cell 3;have v4:=y9.o.cell 4;have HTH:Xm w4 w.heap.size 0 5:=λj hj=>⟨by
     rw [Xd,bR.o.cell];have:j=0\/j=1\/j=2\/j=3\/j=4:=o_;obtain rfl|rfl|rfl|rfl|rfl:=this<;>rfl,by rw [Xd];exact bR.o.frozen j⟩
   have HA:Yf (#[I_ J_ s,I_ J_ 0,I_ J_ a,B_ Z',I_ J_ g]:Array WY) (·.oneCell')=Z':=by simp [Xs]
   have HI:((Xc).info? 92).map (·.size)=Y' (XX (#[I_ J_ s,I_ J_ 0,I_ J_ a,B_ Z',I_ J_ g]:Array WY)):=k_;let ⟨w13,hw13⟩:=nm (w4.setCells w.heap.size 0 (#[I_ J_ s,I_ J_ 0,I_ J_ a,B_ Z',I_ J_ g]:Array WY).toList);have HE13:=Hd hw13;have HR13:=Hd (Xh w4 w.heap.size 0 _ (show Xm w4 w.heap.size 0 (XL (#[I_ J_ s,I_ J_ 0,I_ J_ a,B_ Z',I_ J_ g]:Array WY)).length from HTH));rw [<-hw13] at HR13;have HB13:Xb (Bw w w13):=Hd (by rw [hw13];exact Ta.fq l_ _ _ _ aa.o);clear hw13;go_wp2_with (refine wpList_store_mid rfl 92 _ _ rfl w.heap.size 0 #[I_ J_ s,I_ J_ 0,I_ J_ a,B_ Z',I_ J_ g] rfl rfl HTH HI HA ?_;rw [<-HE13.o])
   clear HTH HA HI v0 v1 v2 v3 v4;have v0:w13.cell? ⟨X_ (Y_ w),0,Z_⟩=Y' (I_ J_ s):=by have:=HR13.o 0 (I_ J_ s) rfl;rwa [Xd] at this
   have v1:w13.cell? ⟨X_ (Y_ w),1,Z_⟩=Y' (I_ J_ 0):=by have:=HR13.o 1 (I_ J_ 0) rfl;rwa [Xd] at this
   have v2:w13.cell? ⟨X_ (Y_ w),2,Z_⟩=Y' (I_ J_ a):=by have:=HR13.o 2 (I_ J_ a) rfl;rwa [Xd] at this
   have v3:w13.cell? ⟨X_ (Y_ w),3,Z_⟩=Y' (B_ Z'):=by have:=HR13.o 3 (B_ Z') rfl;rwa [Xd] at this
   have v4:w13.cell? ⟨X_ (Y_ w),4,Z_⟩=Y' (I_ J_ g):=by have:=HR13.o 4 (I_ J_ g) rfl;rwa [Xd] at this
   refine bodyPost_ret (v:=U_ #[A_ #[I_ J_ s,I_ J_ 0,I_ J_ a,B_ Z',I_ J_ g],I_ J_ 0]) (by simp [*,results,results75,go_sem]) rfl ⟨rfl,HB13.o⟩
  .have hvl:=HV1.o hp0
   have ha0:a=0:=by obtain h|h:=HON.o<;>omega
   subst ha0;have af:=Hd (λX=>BD vl 37 (Xg p) Z' X o_ (by rw [hvl];exact oB.1) (by rw [hvl];exact oB.2));have HNX:=Hd (λX (hX:Gl X)=>gM p X o_ hX);clear hvl;generalize Xg p=dp at*;go_wp2_with fail;rw [<-HE8.o];refine (af.o _).mono ?_;rintro e wz ⟨rfl,aT⟩;have b8:=Hd (am.o.trans (aT.mono am.o.size));have cm:=Hd (HK8.o.a_ aT);have ba:=Hd (bJ.o.a_ aT);clear aT;go_wp2_with fail;refine (HNX.o _ (HG0.o.below b8.o)).mono ?_;rintro e w10 ⟨rfl,bl⟩;have cL:=Hd (b8.o.trans (bl.mono b8.o.size));have aS:=Hd (cm.o.a_ bl);have aP:=Hd (ba.o.a_ bl);have y:=aS.o.cell 1;have z:=aS.o.frozen 1;let ⟨w11,hw11⟩:=nm (w10.setCell ⟨X_ (Y_ w)+1,1,Z_⟩ (I_ J_ p));have HE11:=Hd hw11;have cr:Xb (Xj w11 (X_ (Y_ w)+1) 92 #[I_ J_ s,I_ J_ p,I_ J_ 0,B_ Z',I_ J_ g]):=Hd (by rw [hw11];exact aS.o.eC 1 (I_ J_ p));have HE:=Hd (show Xj w11 w.heap.size 92 #[I_ J_ 0,I_ J_ 0,I_ J_ 0,B_ WW,I_ J_ 0] from by rw [hw11];exact aP.o.fA y_);have am:=Hd (show Bw w w11 from by rw [hw11];exact cL.o.setCell y_ _);clear bl hw11;go_upto_region 12 with fail;rw [<-HE11.o];clear y z;have v0:=cr.o.cell 0;have v1:=cr.o.cell 1;have v2:=cr.o.cell 2;have v3:=cr.o.cell 3;have v4:=cr.o.cell 4;go_wp2_with fail;refine (ac.o _).mono ?_;rintro e w4 ⟨rfl,b9⟩;have aa:=Hd (am.o.trans (b9.mono am.o.size));have y9:=Hd (cr.o.a_ b9);have bR:=Hd (HE.o.a_ b9);clear v0 v1 v2 v3 v4 b9;have v0:=y9.o.cell 0;have v1:=y9.o.cell 1;have v2:=y9.o.cell 2;have v3:=y9.o.cell 3;have v4:=y9.o.cell 4;have HTH:Xm w4 w.heap.size 0 5:=λj hj=>⟨by
     rw [Xd,bR.o.cell];have:j=0\/j=1\/j=2\/j=3\/j=4:=o_;obtain rfl|rfl|rfl|rfl|rfl:=this<;>rfl,by rw [Xd];exact bR.o.frozen j⟩
   have HA:Yf (#[I_ J_ s,I_ J_ p,I_ J_ 0,B_ Z',I_ J_ g]:Array WY) (·.oneCell')=Z':=by simp [Xs]
   have HI:((Xc).info? 92).map (·.size)=Y' (XX (#[I_ J_ s,I_ J_ p,I_ J_ 0,B_ Z',I_ J_ g]:Array WY)):=k_;let ⟨w13,hw13⟩:=nm (w4.setCells w.heap.size 0 (#[I_ J_ s,I_ J_ p,I_ J_ 0,B_ Z',I_ J_ g]:Array WY).toList);have HE13:=Hd hw13;have HR13:=Hd (Xh w4 w.heap.size 0 _ (show Xm w4 w.heap.size 0 (XL (#[I_ J_ s,I_ J_ p,I_ J_ 0,B_ Z',I_ J_ g]:Array WY)).length from HTH));rw [<-hw13] at HR13;have HB13:Xb (Bw w w13):=Hd (by rw [hw13];exact Ta.fq l_ _ _ _ aa.o);clear hw13;go_wp2_with (refine wpList_store_mid rfl 92 _ _ rfl w.heap.size 0 #[I_ J_ s,I_ J_ p,I_ J_ 0,B_ Z',I_ J_ g] rfl rfl HTH HI HA ?_;rw [<-HE13.o])
   clear HTH HA HI v0 v1 v2 v3 v4;have v0:w13.cell? ⟨X_ (Y_ w),0,Z_⟩=Y' (I_ J_ s):=by have:=HR13.o 0 (I_ J_ s) rfl;rwa [Xd] at this
   have v1:w13.cell? ⟨X_ (Y_ w),1,Z_⟩=Y' (I_ J_ p):=by have:=HR13.o 1 (I_ J_ p) rfl;rwa [Xd] at this
   have v2:w13.cell? ⟨X_ (Y_ w),2,Z_⟩=Y' (I_ J_ 0):=by have:=HR13.o 2 (I_ J_ 0) rfl;rwa [Xd] at this
   have v3:w13.cell? ⟨X_ (Y_ w),3,Z_⟩=Y' (B_ Z'):=by have:=HR13.o 3 (B_ Z') rfl;rwa [Xd] at this
   have v4:w13.cell? ⟨X_ (Y_ w),4,Z_⟩=Y' (I_ J_ g):=by have:=HR13.o 4 (I_ J_ g) rfl;rwa [Xd] at this
   refine bodyPost_ret (v:=U_ #[A_ #[I_ J_ s,I_ J_ p,I_ J_ 0,B_ Z',I_ J_ g],I_ J_ 0]) (by simp [*,results,results75,go_sem]) rfl ⟨rfl,HB13.o⟩
 |false=>
  have hg0:g=0:=by have:=HHA.o rfl;omega
  subst hg0;obtain hp0|hp0:=XC p
  .subst hp0
   have hvl:=HV2.o rfl;have af:=Hd (λX=>BD vl 37 vl WW X o_ (qw (by rw [hvl];exact Tp.gJ a d_ d_)).1 (qw (by rw [hvl];exact Tp.gJ a d_ d_)).2);have HNX:=Hd (λX=>RO a X ho);rw [<-hvl] at HNX;have HVL:=Hd hvl;clear hvl;go_wp2_with fail;generalize (w5.setCell ⟨X_ (Y_ w)+1,0,Z_⟩ (I_ J_ s)).setCell ⟨X_ (Y_ w)+1,3,Z_⟩ (B_ WW)=F at*;refine (af.o _).mono ?_;rintro e wz ⟨rfl,aT⟩;have b8:=Hd (am.o.trans (aT.mono am.o.size));have cm:=Hd (HK.o.a_ aT);have ba:=Hd (HE.o.a_ aT);clear aT;go_wp2_with fail;refine (HNX.o _).mono ?_;rintro e w10 ⟨rfl,bl⟩;have cL:=Hd (b8.o.trans (bl.mono b8.o.size));have aS:=Hd (cm.o.a_ bl);have aP:=Hd (ba.o.a_ bl);have y:=aS.o.cell 2;have z:=aS.o.frozen 2;let ⟨w11,hw11⟩:=nm (w10.setCell ⟨X_ (Y_ w)+1,2,Z_⟩ (I_ J_ a));have HE11:=Hd hw11;have cr:Xb (Xj w11 (X_ (Y_ w)+1) 92 #[I_ J_ s,I_ J_ 0,I_ J_ a,B_ WW,I_ J_ 0]):=Hd (by rw [hw11];exact aS.o.eC 2 (I_ J_ a));have HE:=Hd (show Xj w11 w.heap.size 92 #[I_ J_ 0,I_ J_ 0,I_ J_ 0,B_ WW,I_ J_ 0] from by rw [hw11];exact aP.o.fA y_);have aA:=Hd (show Bw w w11 from by rw [hw11];exact cL.o.setCell y_ _);clear bl hw11;go_upto_region 12 with fail;rw [<-HE11.o];clear y z;have v0:=cr.o.cell 0;have v1:=cr.o.cell 1;have v2:=cr.o.cell 2;have v3:=cr.o.cell 3;have v4:=cr.o.cell 4;go_wp2_with fail;refine (ac.o _).mono ?_;rintro e w4 ⟨rfl,b9⟩;have aa:=Hd (aA.o.trans (b9.mono aA.o.size));have y9:=Hd (cr.o.a_ b9);have bR:=Hd (HE.o.a_ b9);clear v0 v1 v2 v3 v4 b9;have v0:=y9.o.cell 0;have v1:=y9.o.cell 1;have v2:=y9.o.cell 2;have v3:=y9.o.cell 3;have v4:=y9.o.cell 4;have HTH:Xm w4 w.heap.size 0 5:=λj hj=>⟨by
     rw [Xd,bR.o.cell];have:j=0\/j=1\/j=2\/j=3\/j=4:=o_;obtain rfl|rfl|rfl|rfl|rfl:=this<;>rfl,by rw [Xd];exact bR.o.frozen j⟩
   have HA:Yf (#[I_ J_ s,I_ J_ 0,I_ J_ a,B_ WW,I_ J_ 0]:Array WY) (·.oneCell')=Z':=by simp [Xs]
   have HI:((Xc).info? 92).map (·.size)=Y' (XX (#[I_ J_ s,I_ J_ 0,I_ J_ a,B_ WW,I_ J_ 0]:Array WY)):=k_;let ⟨w13,hw13⟩:=nm (w4.setCells w.heap.size 0 (#[I_ J_ s,I_ J_ 0,I_ J_ a,B_ WW,I_ J_ 0]:Array WY).toList);have HE13:=Hd hw13;have HR13:=Hd (Xh w4 w.heap.size 0 _ (show Xm w4 w.heap.size 0 (XL (#[I_ J_ s,I_ J_ 0,I_ J_ a,B_ WW,I_ J_ 0]:Array WY)).length from HTH));rw [<-hw13] at HR13;have HB13:Xb (Bw w w13):=Hd (by rw [hw13];exact Ta.fq l_ _ _ _ aa.o);clear hw13;go_wp2_with (refine wpList_store_mid rfl 92 _ _ rfl w.heap.size 0 #[I_ J_ s,I_ J_ 0,I_ J_ a,B_ WW,I_ J_ 0] rfl rfl HTH HI HA ?_;rw [<-HE13.o])
   clear HTH HA HI v0 v1 v2 v3 v4;have v0:w13.cell? ⟨X_ (Y_ w),0,Z_⟩=Y' (I_ J_ s):=by have:=HR13.o 0 (I_ J_ s) rfl;rwa [Xd] at this
   have v1:w13.cell? ⟨X_ (Y_ w),1,Z_⟩=Y' (I_ J_ 0):=by have:=HR13.o 1 (I_ J_ 0) rfl;rwa [Xd] at this
   have v2:w13.cell? ⟨X_ (Y_ w),2,Z_⟩=Y' (I_ J_ a):=by have:=HR13.o 2 (I_ J_ a) rfl;rwa [Xd] at this
   have v3:w13.cell? ⟨X_ (Y_ w),3,Z_⟩=Y' (B_ WW):=by have:=HR13.o 3 (B_ WW) rfl;rwa [Xd] at this
   have v4:w13.cell? ⟨X_ (Y_ w),4,Z_⟩=Y' (I_ J_ 0):=by have:=HR13.o 4 (I_ J_ 0) rfl;rwa [Xd] at this
   refine bodyPost_ret (v:=U_ #[A_ #[I_ J_ s,I_ J_ 0,I_ J_ a,B_ WW,I_ J_ 0],I_ J_ 0]) (by simp [*,results,results75,go_sem]) rfl ⟨rfl,HB13.o⟩
  .have hvl:=HV1.o hp0
   have ha0:a=0:=by obtain h|h:=HON.o<;>omega
   subst ha0;have af:=Hd (λX=>BD vl 37 (Xg p) Z' X o_ (by rw [hvl];exact oB.1) (by rw [hvl];exact oB.2));have HNX:=Hd (λX (hX:Gl X)=>gM p X o_ hX);clear hvl;generalize Xg p=dp at*;go_wp2_with fail;generalize (w5.setCell ⟨X_ (Y_ w)+1,0,Z_⟩ (I_ J_ s)).setCell ⟨X_ (Y_ w)+1,3,Z_⟩ (B_ WW)=F at*;refine (af.o _).mono ?_;rintro e wz ⟨rfl,aT⟩;have b8:=Hd (am.o.trans (aT.mono am.o.size));have cm:=Hd (HK.o.a_ aT);have ba:=Hd (HE.o.a_ aT);clear aT;go_wp2_with fail;refine (HNX.o _ (HG0.o.below b8.o)).mono ?_;rintro e w10 ⟨rfl,bl⟩;have cL:=Hd (b8.o.trans (bl.mono b8.o.size));have aS:=Hd (cm.o.a_ bl);have aP:=Hd (ba.o.a_ bl);have y:=aS.o.cell 1;have z:=aS.o.frozen 1;let ⟨w11,hw11⟩:=nm (w10.setCell ⟨X_ (Y_ w)+1,1,Z_⟩ (I_ J_ p));have HE11:=Hd hw11;have cr:Xb (Xj w11 (X_ (Y_ w)+1) 92 #[I_ J_ s,I_ J_ p,I_ J_ 0,B_ WW,I_ J_ 0]):=Hd (by rw [hw11];exact aS.o.eC 1 (I_ J_ p));have HE:=Hd (show Xj w11 w.heap.size 92 #[I_ J_ 0,I_ J_ 0,I_ J_ 0,B_ WW,I_ J_ 0] from by rw [hw11];exact aP.o.fA y_);have aA:=Hd (show Bw w w11 from by rw [hw11];exact cL.o.setCell y_ _);clear bl hw11;go_upto_region 12 with fail;rw [<-HE11.o];clear y z;have v0:=cr.o.cell 0;have v1:=cr.o.cell 1;have v2:=cr.o.cell 2;have v3:=cr.o.cell 3;have v4:=cr.o.cell 4;go_wp2_with fail;refine (ac.o _).mono ?_;rintro e w4 ⟨rfl,b9⟩;have aa:=Hd (aA.o.trans (b9.mono aA.o.size));have y9:=Hd (cr.o.a_ b9);have bR:=Hd (HE.o.a_ b9);clear v0 v1 v2 v3 v4 b9;have v0:=y9.o.cell 0;have v1:=y9.o.cell 1;have v2:=y9.o.cell 2;have v3:=y9.o.cell 3;have v4:=y9.o.cell 4;have HTH:Xm w4 w.heap.size 0 5:=λj hj=>⟨by
     rw [Xd,bR.o.cell];have:j=0\/j=1\/j=2\/j=3\/j=4:=o_;obtain rfl|rfl|rfl|rfl|rfl:=this<;>rfl,by rw [Xd];exact bR.o.frozen j⟩
   have HA:Yf (#[I_ J_ s,I_ J_ p,I_ J_ 0,B_ WW,I_ J_ 0]:Array WY) (·.oneCell')=Z':=by simp [Xs]
   have HI:((Xc).info? 92).map (·.size)=Y' (XX (#[I_ J_ s,I_ J_ p,I_ J_ 0,B_ WW,I_ J_ 0]:Array WY)):=k_;let ⟨w13,hw13⟩:=nm (w4.setCells w.heap.size 0 (#[I_ J_ s,I_ J_ p,I_ J_ 0,B_ WW,I_ J_ 0]:Array WY).toList);have HE13:=Hd hw13;have HR13:=Hd (Xh w4 w.heap.size 0 _ (show Xm w4 w.heap.size 0 (XL (#[I_ J_ s,I_ J_ p,I_ J_ 0,B_ WW,I_ J_ 0]:Array WY)).length from HTH));rw [<-hw13] at HR13;have HB13:Xb (Bw w w13):=Hd (by rw [hw13];exact Ta.fq l_ _ _ _ aa.o);clear hw13;go_wp2_with (refine wpList_store_mid rfl 92 _ _ rfl w.heap.size 0 #[I_ J_ s,I_ J_ p,I_ J_ 0,B_ WW,I_ J_ 0] rfl rfl HTH HI HA ?_;rw [<-HE13.o])
   clear HTH HA HI v0 v1 v2 v3 v4;have v0:w13.cell? ⟨X_ (Y_ w),0,Z_⟩=Y' (I_ J_ s):=by have:=HR13.o 0 (I_ J_ s) rfl;rwa [Xd] at this
   have v1:w13.cell? ⟨X_ (Y_ w),1,Z_⟩=Y' (I_ J_ p):=by have:=HR13.o 1 (I_ J_ p) rfl;rwa [Xd] at this
   have v2:w13.cell? ⟨X_ (Y_ w),2,Z_⟩=Y' (I_ J_ 0):=by have:=HR13.o 2 (I_ J_ 0) rfl;rwa [Xd] at this
   have v3:w13.cell? ⟨X_ (Y_ w),3,Z_⟩=Y' (B_ WW):=by have:=HR13.o 3 (B_ WW) rfl;rwa [Xd] at this
   have v4:w13.cell? ⟨X_ (Y_ w),4,Z_⟩=Y' (I_ J_ 0):=by have:=HR13.o 4 (I_ J_ 0) rfl;rwa [Xd] at this
   refine bodyPost_ret (v:=U_ #[A_ #[I_ J_ s,I_ J_ p,I_ J_ 0,B_ WW,I_ J_ 0],I_ J_ 0]) (by simp [*,results,results75,go_sem]) rfl ⟨rfl,HB13.o⟩
end Tq
end
section
open Go.Shelf
namespace Tq
open Tx
def eu (c:UInt8):Prop:=c=10\/(32<=c.toNat/\c.toNat<=126)
def byte_at {B:Nat} (h:Xw w B 1 A n (l.map uv)) (I:l.length=n) (U:k<l.length): ∃ad,A=Y' ad/\ad.block<B/\w.cell? (ad.add k)=Y' (.int .u8 (l[k].toNat:Int)):=by
 let ⟨hl2,F⟩:=h;let ⟨ad,O,G,F⟩:=F o_;have hc:=F k (by simpa using U);rw [XI] at hc;exact ⟨ad,O,G,hc⟩
def Ja {p:Prop} (h:p:=by
 go_wp2_with fail;refine (Tw.qq _ _).mono ?_;rintro e V ⟨rfl,rfl⟩;go_wp2_with fail
 go_round
 .exact ⟨k+1,o_,by go_num⟩
 .simp [intOf];omega):p:=h
def za (A:Option Xa) (n c:Nat) (l:List UInt8) (w:WX) (h:Xw w w.heap.size 1 A n (l.map uv)) (G:l.length=n) (hn:n<=65536) (X: ∀c∈l,eu c):
  WZ Xc 72 #[S_ A n c] w λe w'=>e=R_ (B_ Z')/\w'=w:=by
 have HS:=Hd h;have HF:=Hd (show∀k (U:k<l.length),l[k].toNat=10\/l[k].toNat=32\/(33<=l[k].toNat/\l[k].toNat<=126) from λk U=>by
  obtain h|h:=X _ (g_ U)
  .exact Or.inl (by rw [h];rfl)
  .omega)
 clear h X;go_enter func72,ntmps72;go_wp2
 go_loop [7] (λvi=> ∃k:Nat,k<=n/\vi=I_ J_ k) (λi=>n - (intOf i).toNat)
 .exact ⟨0,o_,rfl⟩
 .obtain ⟨k,U,rfl⟩:=hrel
  by_cases ag:k<n
  .have F:k<l.length:=o_
   obtain ⟨ad,rfl,I,hc⟩:=byte_at HS G F;have O:=HF k F;clear I;generalize l[k]=ch at*;generalize ch.toNat=v at*;obtain rfl|rfl|⟨h1,h2⟩:=O
   .exact Ja
   .exact Ja
   .have e1:((v:Int)==32)=WW:=by simp;omega
    have e2:((v:Int)==9)=WW:=by simp;omega
    have e3:((v:Int)==13)=WW:=by simp;omega
    have e4:((v:Int)==10)=WW:=by simp;omega
    exact Ja
  .obtain rfl:k=n:=o_
   have hd:decide ((k:Int)<=65536)=Z':=dT;go_wp2;go_ret;exact ⟨by rw [<-hd];rfl,rfl⟩
end Tq
end
section
open Go.Shelf
namespace Tq
open Tx
def vz (l:List UInt8) (a b:Nat):(str l).extract a b=str ((l.drop a).take (b - a)):=by
 apply Yr;rw [XK];apply Array.ext';simp [str]
def Wl (l:List UInt8) (c:UInt8):Lib.indexB (str l) ⟨#[c]⟩=Xr l [c]:=rfl
def iF (x:List UInt8) (ls:List (List UInt8)):Xn (x::ls)=x++10::Xn ls:=by simp [Xn]
def rH: ∀(F:List (List UInt8)),(∀x∈F,∀c∈x,c≠10)->Lib.countB (str (Xn F)) ⟨#[10]⟩=F.length/\Lib.splitB ⟨#[10]⟩ 0 F.length (str (Xn F))=F.map str++[str []]
 |[],_=>⟨Lib.countB_miss _ _ (by show Xr _ _=_;simp [Xn,str,Xr]),rfl⟩
 |x::F,h=>by
  have ih:=rH F λy O=>h y (by simp [O])
  have hx:=h x y_;have hi:Lib.indexB (str (Xn (x::F))) ⟨#[10]⟩=(x.length:Int):=by rw [Wl,iF,tO hx]
  have he:(str (Xn (x::F))).extract (x.length+(⟨#[10]⟩:ByteArray).size) (str (Xn (x::F))).size=str (Xn F):=by
   have I:(x++10::Xn F).drop (x.length+1)=Xn F:=by
    rw [show x++10::Xn F=(x++[10])++Xn F from by simp];exact List.drop_left' y_
   rw [vz,fY,iF]
   show str (((x++10::Xn F).drop (x.length+1)).take _)=_
   rw [I,t_]
   show _<=(x++10::Xn F).length - (x.length+1)
   simp;omega
  have G:(str (Xn (x::F))).extract 0 (x.length+0)=str x:=by
   rw [vz,iF];simp
  refine ⟨?_,?_⟩
  .rw [Lib.countB_hit _ _ _ d_ hi,he,ih.1,XH,Nat.add_comm]
  .rw [XH,Lib.splitB_hit _ _ _ _ _ hi,he,G,ih.2]
   rfl
def ig:List (List UInt8)->Nat->Nat
 |_,0=>0
 |[],_+1=>0
 |w::ws,k+1=>w.length+1+ig ws k
def tC: ∀(ws:List (List UInt8)) (k:Nat) (hk:k<ws.length),ig ws (k+1)=ig ws k+ws[k].length+1
 |[],k,hk=>by simp at hk
 |w::ws,0,_=>by cases ws<;>simp [ig]
 |w::ws,k+1,hk=>by
  have:=tC ws k (by simpa using hk)
  show w.length+1+ig ws (k+1)=w.length+1+ig ws k+(ws[k]'(by simpa using hk)).length+1
  omega
def xq: ∀(ws:List (List UInt8)),ws≠[]->ig ws ws.length=(Xe ws).length+1
 |[],h=>absurd rfl h
 |[w],_=>by simp [ig,Xe]
 |w::v::ws,_=>by
  have:=xq (v::ws) y_
  show w.length+1+ig (v::ws) (v::ws).length=(w++32::Xe (v::ws)).length+1
  rw [this];simp;omega
def vp: ∀(ws:List (List UInt8)) (k:Nat) (hk:k<ws.length),∃a b,Xe ws=a++(ws[k]++b)/\a.length=ig ws k/\((b=[]/\k+1=ws.length)\/(∃r,b=32::r/\k+1<ws.length))
 |[],k,hk=>by simp at hk
 |[w],k,hk=>by
  obtain rfl:k=0:=by simpa using hk
  exact ⟨[],[],by simp [Xe],rfl,Or.inl ⟨rfl,rfl⟩⟩
 |w::v::ws,0,_=>⟨[],32::Xe (v::ws),rfl,rfl,Or.inr ⟨_,rfl,by simp⟩⟩
 |w::v::ws,k+1,hk=>by
  let ⟨a,b,h1,h2,h3⟩:=vp (v::ws) k (by simpa using hk);refine ⟨w++32::a,b,?_,?_,?_⟩
  .show w++32::Xe (v::ws)=_
   rw [h1];simp
  .show (w++32::a).length=w.length+1+ig (v::ws) k
   rw [<-h2];simp;omega
  .obtain ⟨h,h'⟩|⟨r,h,h'⟩:=h3
   .exact Or.inl ⟨h,by simpa using h'⟩
   .exact Or.inr ⟨r,h,by simpa using h'⟩
def xo: ∀(ls:List (List UInt8)),ls.length<=(Xn ls).length
 |[]=>by simp
 |x::ls=>by
  have:=xo ls;rw [iF];simp;omega
def xp: ∀(ls:List (List UInt8)) (x:List UInt8),x∈ls->x.length+1<=(Xn ls).length
 |y::ls,x,h=>by
  rw [iF];obtain rfl|h:=p_ h
  .simp
  .have:=xp ls x h
   simp;omega
def Bm: ∀(ws:List (List UInt8)) (k:Nat),k<=ws.length->k<=ig ws k
 |_,0,_=>Nat.zero_le _
 |[],k+1,h=>by simp at h
 |w::ws,k+1,h=>by
  have:=Bm ws k (by simpa using h)
  show k+1<=w.length+1+ig ws k
  omega
def IE (c:UInt8):Prop:=((c.toNat:Int)==32||(c.toNat:Int)==9||(c.toNat:Int)==13)=WW
def Ns (h:Tp.blank c=WW):IE c:=by
 unfold Tp.blank at h;simp only [XO,beq_eq_false_iff_ne] at h;unfold IE;simp only [XO,beq_eq_false_iff_ne];have k: ∀d:UInt8,c≠d->(c.toNat:Int)≠(d.toNat:Int):=λd F e=>F (Yk.1 o_)
 exact ⟨⟨k 32 h.1.1,k 9 h.1.2⟩,k 13 h.2⟩
def zi (l:List UInt8) (i:Nat) (h:i<(str l).size) (c:UInt8) (hc:l[i]?=Y' c):(str l)[i]=c:=by
 have F:i<l.length:=by rw [<-fY];exact h
 rw [List.getElem?_eq_getElem F] at hc;exact (q_ hc)
def MC (F:List (List UInt8)) (X:ByteArray) (hX:str (Xe F)=X) (hw: ∀v∈F,Tp.ki v/\ ∀x∈v,x≠10) (j:Nat) (hj:j<F.length):
  ∃c r,F[j]=c::r/\ig F j+F[j].length<=(Xe F).length/\(∀t (U:t<F[j].length) (G:ig F j+t<X.size),IE X[ig F j+t])/\(∀(G:ig F j<X.size),X[ig F j].toNat≠35)/\(∀(G:ig F j+F[j].length<X.size),X[ig F j+F[j].length].toNat=32)/\X.extract (ig F j) (ig F j+F[j].length)=str F[j]/\((Xe F).length<=ig F j+F[j].length->j+1=F.length):=by
 subst hX;let ⟨a,b,O,h2,h3⟩:=vp F j hj;obtain ⟨I,-⟩:=hw _ (g_ hj);generalize F[j]=v at*;have ab:=I.ne;have hh:=I.head;have hf:=I.free;cases v with
 |nil=>exact absurd rfl ab
 |cons c r=>
  rw [<-h2];have V: ∀t,t<(c::r).length->(Xe F)[a.length+t]?=(c::r)[t]?:=λt U=>by
   rw [O,List.getElem?_append_right o_,Xq,List.getElem?_append_left U]
  refine ⟨c,r,rfl,by rw [O];simp,λt U G=>?_,λG=>?_,λG=>?_,?_,λaa=>?_⟩
  .rw [zi _ _ G ((c::r)[t]) (by rw [V t U,List.getElem?_eq_getElem U])]
   exact Ns (hf _ (g_ U))
  .have:=V 0 y_
   rw [zi _ _ G c (by simpa using this)];intro e;exact hh c y_ (Yk.1 (by rw [e];rfl))
  .obtain ⟨rfl,_⟩|⟨r2,rfl,_⟩:=h3
   .exfalso
    rw [fY,O] at G;simp at G
   .rw [zi _ _ G 32 (by rw [O,List.getElem?_append_right o_,Xq,List.getElem?_append_right l_];simp)]
    rfl
  .rw [vz,O,List.drop_left,Xq,List.take_left]
  .obtain ⟨_,h⟩|⟨r2,rfl,_⟩:=h3
   .exact h
   .exfalso
    rw [O] at aa;simp at aa;omega
end Tq
end
section
open Go.Shelf Wo
namespace Tq
open Tx
section
variable {P:Program} {W w w':WX} {t e:TypeId} {z:WY} {k bytes n c:Nat} {A:Option Xa} {xs:List WY}
def rl (E:Mem.El P t e z k bytes) (h:eF W w e k A n c xs) (cs:Array WY) (hk:cs.size=k) (V: ∀u∈cs.toList,u.oneCell'=Z') (hn:n<=100000) (F:bytes<=1000) {N:Nat} (hN:X_ (Y_ w)=N):
  ∃A' c' w',(Builtin.append_ #[t,t] t #[S_ A n c,S_ (Y' ⟨N,0,Z_⟩) 1 1]).run P (w.alloc (.cells cs e))= .ok (S_ A' (n+1) c') w'/\eF W w' e k A' (n+1) c' (xs++cs.toList)/\Yp (λb=>XN A=Y' b) w w'/\(∀b,XN A'=Y' b->XN A=Y' b\/X_ (Y_ w)<=b):=by
 subst hN;refine Ow ?_;intro hz G I;let ⟨A',c',w',hr,X,U,O⟩:=Ro.app (P:=P) (ty:=t) (c2:=1) E (h.row.dy λb F=>G.block b (h.row.lt F)) (Mem.gV (w:=w) (n:=1) (cs:=cs) (e:=e) rfl o_ rfl) V e_ I;refine ⟨A',c',w',hr,⟨(h.below.trans (G.mono hz)).trans (U.below z_ (λb F e=>by have:=h.fresh b e;omega)),X,λb F=>?_⟩,(Ro.dt.dW G).trans U (λ_ _ e=>e),λb F=>?_⟩
 .obtain e|e:=O
  .rw [e] at F;exact h.fresh b F
  .rw [e] at F
   have:X_ (Y_ w)+1=b:=by simpa using F
   omega
 .obtain e|e:=O
  .rw [e] at F;exact Or.inl F
  .rw [e] at F
   have:X_ (Y_ w)+1=b:=by simpa using F
   exact Or.inr o_
end
structure gL where
 text:List UInt8
 line:Int
 b':Int
def gL.cells (f:gL):List WY:=[T_ (str f.text),I_ J_ f.line,I_ J_ f.b']
def js (l:List gL):List WY:=l.flatMap gL.cells
def yZ (l:List gL) (f:gL):js (l++[f])=js l++f.cells:=by simp [js]
structure kj (w:WX) (lo:Nat) (X:Option Nat) (v:WY) (ws:List (List UInt8)):Prop where
 is: ∃A c fs,v=S_ A ws.length c/\fs.map gL.text=ws/\Ro.Row w 122 3 A ws.length c (js fs)/\ ∀b,XN A=Y' b->lo<=b/\X≠Y' b
def kj.dy (h:kj w V X v O) (hb: ∀b,b<X_ (Y_ w)->X≠Y' b->w'.heap[b]?=w.heap[b]?) (hX: ∀b,b<X_ (Y_ w)->U=Y' b->X=Y' b):kj w' V U v O:=by
 let ⟨A,c,fs,e1,e2,I,F⟩:=h.is;exact ⟨A,c,fs,e1,e2,I.dy λb G=>hb b (I.lt G) (F b G).2,λb G=>⟨(F b G).1,λe=>(F b G).2 (hX b (I.lt G) e)⟩⟩
def WN:Mem.El Xc 118 122 (A_ #[T_ ⟨#[]⟩,I_ J_ 0,I_ J_ 0]) 3 32:=⟨underlying118,k_,rfl,d_⟩
def WO:Mem.El Xc 114 118 (S_ Z_ 0 0) 1 24:=⟨underlying114,k_,rfl,d_⟩
def DB (lss:List (List (List UInt8))) (W:WX) (e:Ending) (w':WX):Prop:=
 ∃A c vs,e=R_ (U_ #[S_ A lss.length c,I_ J_ 0])/\Xw w' w'.heap.size 1 A lss.length vs/\(∀(i:Nat) (h1:i<vs.length) (h2:i<lss.length),kj w' W.heap.size (XN A) vs[i] lss[i])/\(∀b,XN A=Y' b->X_ (Y_ W)<=b)/\Bw W w'
def UU {p:Prop} (k:q) (h:Wq q->p:=by
 intro kq;have H3:=Hd (rl (t:=118) (P:=prog) WN HB2.o #[T_ (X.extract p (p+wl)),I_ J_ ((m:Int)+1),I_ J_ ((p:Int)+1)] rfl v_ o_ d_ rfl);obtain ⟨A3,c3,w6,hr,bj,-,-⟩:=H3.o;have HB3:Hid (eF wo w6 122 3 A3 (j+1) c3 (js (fs++[⟨ws[j],(m:Int)+1,(p:Int)+1⟩]))):=by rw [yZ];unfold gL.cells;dsimp only;rw [<-HQ5.o];exact bj
 have HFS3:Hid ((fs++[(⟨ws[j],(m:Int)+1,(p:Int)+1⟩:gL)]).map gL.text=ws.take (j+1)):=by rw [List.map_append,HFS.o,Mem.dQ ws j hjn];rfl
 clear bj H3
 revert A3 c3 w6 hr HB3 HFS3
 exact kq.o):p:=h ⟨k⟩
def Pd {p:Prop} (h:p:=by
 go_roundw
 .exact ⟨j+1,p+wl+1,A3,c3,_,o_,o_,rfl,by go_num,rfl,Hd (by rw [HPN2.o,<-HPJ.o]),HFS3,HB3⟩
 .simp [intOf];omega):p:=h
def KN (A:Option Xa) (n c:Nat) (lss:List (List (List UInt8))) (w:WX) (hg:Gl w) (h:Xw w w.heap.size 1 A n ((Xn (lss.map Xe)).map uv)) (hlen:(Xn (lss.map Xe)).length=n) (hn:n<=65536) (hf: ∀c∈Xn (lss.map Xe),eu c)
  (hw: ∀l∈lss,l≠[]/\ ∀v∈l,Tp.ki v/\ ∀x∈v,x≠10):
  WZ Xc 47 #[S_ A n c] w (DB lss w):=by
 have hj: ∀x∈lss.map Xe,∀c∈x,c≠10:=λx hx=>by
  obtain ⟨l,hl,rfl⟩:=Ya.1 hx;exact Tp.sI d_ l λv hv=>((hw l hl).2 v hv).2
 have hsp:=rH (lss.map Xe) hj;have HS:=Hd (za A n c _ w h hlen hn hf);have hcv:=nI (c:=c) h;let ⟨mx,hmx⟩:=hg.mx;have hspl:=Any.strings_Split Tryz.MB k_ (str (Xn (lss.map Xe))) ⟨#[10]⟩ mx w (by rw [fY];omega) hmx d_;rw [hsp.1,hsp.2,Yl] at hspl;change WZ Xc 73 _ _ _ at hspl;rw [show Tryz.pL.t 9=9 from rfl] at hspl;let ⟨w1,hw1⟩:=nm (w.alloc (.cells ((Yq str (Yq Xe lss)++[str []]).map Value.string).toArray 9));rw [<-hw1] at hspl;have hb1:Bw w w1:=by rw [hw1];exact dL
 have hz1:X_ (Y_ w1)=X_ (Y_ w)+1:=by rw [hw1];simp
 have hk1:Xj w1 w.heap.size 9 ((Yq str (Yq Xe lss)++[str []]).map Value.string).toArray:=by rw [hw1];exact Xk
 have HP:=Hd (show∀k,(hk:k<lss.length)->w1.cell? ⟨X_ (Y_ w),k,Z_⟩=Y' (T_ (str (Xe lss[k]))) from λk hk=>by
  rw [hk1.cell];simp [List.getElem?_append,hk])
 have HP2:=Hd (show w1.cell? ⟨X_ (Y_ w),lss.length,Z_⟩=Y' (T_ (str [])) from by
  rw [hk1.cell];simp)
 have HSP:=Hd hspl;have HW:=Hd hw;have HB1:=Hd hb1;have HZ1:=Hd hz1;have hlN:lss.length<=65536:=by have:=xo (lss.map Xe);rw [Yl] at this;omega
 have HJL:Xb (∀l∈lss,(Xe l).length+1<=65536):=λl hl=>by have:=xp (lss.map Xe) (Xe l) (Ya.2 ⟨l,hl,rfl⟩);omega
 clear hspl hsp hj hmx hg hf h hw hlen hw1 hk1 hb1 hz1;generalize str (Xn (lss.map Xe))=S at*;go_enter func47,ntmps47;go_wp2
 go_step3
 go_wp2_with fail;refine HS.o.mono ?_;rintro e w2 ⟨rfl,G⟩;obtain rfl:=G.symm;go_wp2
 go_step3
 go_wp2_with fail;refine HSP.o.mono ?_;rintro e w3 ⟨rfl,rfl⟩;clear HS HSP hcv;go_wp2;go_loopw [4,17] (λvo vi wr=> ∃(k m:Nat) (A':Option Xa) (c':Nat) (vs:List WY),k<=lss.length+1/\vi=I_ J_ k/\vo=S_ A' m c'/\m<=lss.length/\Xb (m=min k lss.length)/\Xb (eF w3 wr 118 1 A' m c' vs)/\Xb (∀(i:Nat) (h1:i<vs.length) (h2:i<lss.length),kj wr w.heap.size (XN A') vs[i] lss[i])) (λ_ i _=>lss.length+1 - (intOf i).toNat)
 .exact ⟨0,0,Z_,0,[],o_,rfl,rfl,o_,Hd o_,Hd (eF.nil b_),Hd (λi h1 _=>absurd h1 y_)⟩
 .obtain ⟨k,m,A',c',vs,hk,rfl,rfl,hm,HM,HBl,HL⟩:=hrel
  let ⟨wo,hwo⟩:=nm wr;subst hwo;by_cases hlt:k<lss.length+1
  .by_cases hlt2:k<lss.length
   .have hmk:m=k:=by have:=HM.o;omega
    subst hmk;have hx:wo.cell? ⟨X_ (Y_ w),m,Z_⟩=Y' (T_ (str (Xe lss[m]))):=(HBl.o.below.cell (p:=⟨X_ (Y_ w),m,Z_⟩) (by show w.heap.size<_;have:=HZ1.o;omega)).trans (HP.o m hlt2);have hd2:decide ((m:Int)<(lss.length:Int)+1)=Z':=dT;have hwm:=HW.o lss[m] (g_ hlt2);have HLm:Xb (∃ws,ws=lss[m]):=⟨_,rfl⟩;let ⟨ws,hws⟩:=HLm.o;rw [<-hws] at hwm hx;have HWS:=Hd hws;have hne:=hwm.1;have HWD:=Hd hwm.2;have hnl:1<=ws.length:=by cases ws with|nil=>exact absurd rfl hne|cons a l=>simp
    have hpe:=xq ws hne;have hjl:(Xe ws).length+1<=65536:=HJL.o ws (by rw [hws];exact g_ hlt2);have hwsl:ws.length<=65536:=by have:=Bm ws ws.length l_;omega
    have HJ:=Hd (λk (hk:k<ws.length)=>vp ws k hk);have HPN:=Hd (λk (hk:k<ws.length)=>tC ws k hk);have hXs:(str (Xe ws)).size=(Xe ws).length:=fY _;generalize hX:str (Xe ws)=X at*;have HX:=Hd hX;have HPE:=Hd hpe;clear hX hwm hws HLm hne hpe;generalize hL:(Xe ws).length=L at*;have HAT:=Hd (show∀j (hj:j<ws.length),∃c r,ws[j]=c::r/\ig ws j+ws[j].length<=L/\(∀t (ht:t<ws[j].length) (hb:ig ws j+t<X.size),IE X[ig ws j+t])/\(∀(hb:ig ws j<X.size),X[ig ws j].toNat≠35)/\(∀(hb:ig ws j+ws[j].length<X.size),X[ig ws j+ws[j].length].toNat=32)/\X.extract (ig ws j) (ig ws j+ws[j].length)=str ws[j]/\(L<=ig ws j+ws[j].length->j+1=ws.length) from λj hj=>by
     have:=MC ws X HX.o HWD.o j hj;rwa [hL] at this)
    clear hL;go_wp2;go_loopw [4,7,8] (λvo vl vi wi=> ∃(j p:Nat) (A2:Option Xa) (c2:Nat) (fs:List gL),j<=ws.length/\p<=L+1/\vo=S_ A' m c'/\vi=I_ J_ p/\vl=S_ A2 j c2/\Xb (p=ig ws j)/\Xb (fs.map gL.text=ws.take j)/\Xb (eF wo wi 122 3 A2 j c2 (js fs))) (λ_ _ i _=>L+1 - (intOf i).toNat)
    .exact ⟨0,0,Z_,0,[],o_,o_,rfl,rfl,rfl,Hd (by cases ws<;>rfl),Hd rfl,Hd (eF.nil b_)⟩
    .obtain ⟨j,p,A2,c2,fs,hj,hp,rfl,rfl,rfl,HPJ,HFS,HB2⟩:=hrel
     by_cases hjn:j<ws.length
     .let ⟨c0,r0,q1,q2,q3,q35,q4,q5,q6⟩:=HAT.o j hjn
      have hwp:=HPJ.o;rw [<-hwp] at q2 q3 q35 q4 q5 q6;have hwl:ws[j].length=r0.length+1:=by rw [q1];rfl
      have HWL:=Hd hwl;have HQ3:=Hd q3;have HQ4:=Hd q4;have HQ5:=Hd q5;have HQ6:=Hd q6;have hpl:p<L:=o_;have hpx:p<X.size:=o_;have hfr:=q3 0 o_ hpx;have hb0:((X[p].toNat:Int)==32||(X[p].toNat:Int)==9||(X[p].toNat:Int)==13)=WW:=hfr;have h35:((X[p].toNat:Int)==35)=WW:=by have:=q35 hpx;simp;omega
      clear q1 q3 q35 q4 q5 q6 hwp hwl hfr;have HPN2:=Hd (HPN.o j hjn);generalize ws[j].length=wl at*;go_wp2_with fail;refine (Tw.qq _ _).mono ?_;rintro e w5 ⟨rfl,e5⟩;obtain rfl:=e5.symm;rw [hb0];go_wp2
      go_loop [8] (λvi=> ∃q:Nat,p<=q/\q<=p+wl/\vi=I_ J_ q) (λi=>p+wl - (intOf i).toNat)
      .exact ⟨p,o_,o_,rfl⟩
      .obtain ⟨q,hq1,hq2,rfl⟩:=hrel
       by_cases hqw:q<p+wl
       .have hqL:q<L:=o_
        have hqx:q<X.size:=o_;have hfq:((X[q].toNat:Int)==32||(X[q].toNat:Int)==9||(X[q].toNat:Int)==13)=WW:=by
         have:=HQ3.o (q - p) o_ o_;simpa [IE,show p+(q - p)=q by omega] using this
        go_wp2_with fail;refine (Tw.qq _ _).mono ?_;rintro e w5 ⟨rfl,e5⟩;obtain rfl:=e5.symm;rw [hfq];go_wp2
        go_round
        .exact ⟨q+1,o_,o_,by go_num⟩
        .simp [intOf];omega
       .obtain rfl:q=p+wl:=o_
        by_cases hqL:p+wl<L
        .have hqx:p+wl<X.size:=o_
         have h32:=HQ4.o hqx;go_wp2_with fail;refine (Tw.qq _ _).mono ?_;rintro e w5 ⟨rfl,e5⟩;obtain rfl:=e5.symm;refine UU ?_;intro A3 c3 w6 hr HB3 HFS3;refine pN ?_;exact Pd
        .refine UU ?_
         intro A3 c3 w6 hr HB3 HFS3;refine pN ?_;exact Pd
     .obtain rfl:j=ws.length:=o_
      have hpL:p=L+1:=by rw [HPJ.o,HPE.o]
      subst hpL;have ac: ∀u∈(#[S_ A2 ws.length c2]:Array WY).toList,u.oneCell'=Z':=by simp [Xs]
      have HI:=Hd (rl (t:=114) (P:=Xc) WO (HBl.o.free HB2.o.below) #[S_ A2 ws.length c2] rfl ac o_ d_ rfl);let ⟨A3,c3,w6,hr,HS,af,ae⟩:=HI.o;have HB3:=Hd HS;have HL3:Xb (∀(i:Nat) (h1:i<(vs++[XE A2 ws.length c2]).length) (h2:i<lss.length),kj w6 w.heap.size (XN A3) (vs++[XE A2 ws.length c2])[i] lss[i]):=(by
       intro i h1 h2;have hbel:=HB2.o.below;have hks: ∀b,b<X_ (Y_ wo)->XN A'≠Y' b->w6.heap[b]?=wo.heap[b]?:=λb hb hne=>by
        rw [af.block b (XB hb hbel.size) hne];exact hbel.block b hb
       have hxs: ∀b,b<X_ (Y_ wr)->XN A3=Y' b->XN A'=Y' b:=λb hb e=>by
        obtain h|h:=ae b e
        .exact h
        .omega
       have hvl:vs.length=m:=by have:=HBl.o.row.len;omega
       by_cases him:i<vs.length
       .have h3:=HL.o i him h2
        have h4:(vs++[XE A2 ws.length c2])[i]=vs[i]:=List.getElem_append_left him;rw [h4];exact h3.dy hks λb hb e=>hxs b (XB hb hbel.size) e
       .have him2:i=m:=by rw [Xp] at h1;simp at h1;omega
        subst him2;have h4:(vs++[XE A2 ws.length c2])[i]=XE A2 ws.length c2:=by
         rw [List.getElem_append_right o_];simp [hvl]
        rw [h4,<-HWS.o];refine ⟨A2,c2,fs,rfl,by rw [HFS.o,Yd],HB2.o.row.dy λb hb=>?_,λb hb=>⟨?_,?_⟩⟩
        .have h5:=HB2.o.fresh b hb
         exact af.block b (HB2.o.row.lt hb) (λe=>by have:=HBl.o.row.lt e;omega)
        .have h5:=HB2.o.fresh b hb
         have h6:=HBl.o.below.size;have h7:=HB1.o.size;omega
        .intro e
         have h5:=HB2.o.fresh b hb;have h6:=hxs b (HB2.o.row.lt hb) e;have:=HBl.o.row.lt h6;omega)
      clear HS af ae HI ac;refine pN ?_;go_roundw
      .exact ⟨m+1,m+1,A3,c3,_,o_,by go_num,rfl,o_,Hd o_,HB3,HL3⟩
      .simp [intOf];omega
   .obtain rfl:k=lss.length:=o_
    have hx:wo.cell? ⟨X_ (Y_ w),lss.length,Z_⟩=Y' (T_ (str [])):=(HBl.o.below.cell (p:=⟨X_ (Y_ w),lss.length,Z_⟩) (by show w.heap.size<_;have:=HZ1.o;omega)).trans HP2.o;have hd2:decide ((lss.length:Int)<(lss.length:Int)+1)=Z':=dT;have hs0:(str []).size=0:=rfl;generalize str []=X at*;go_wp2;go_loopw [4,7,8] (λvo vl vi wi=>vo=S_ A' m c'/\vi=I_ J_ 0/\vl=S_ Z_ 0 0/\Xb (wi=wo)) (λ_ _ _ _=>0)
    .exact ⟨rfl,rfl,rfl,Hd rfl⟩
    .obtain ⟨rfl,rfl,rfl,hwe⟩:=hrel
     obtain rfl:=hwe.o.symm;go_wp2;go_roundw
     .exact ⟨lss.length+1,m,A',c',vs,o_,by go_num,rfl,hm,Hd (by have:=HM.o;omega),HBl,HL⟩
     .simp [intOf]
  .obtain rfl:k=lss.length+1:=o_
   obtain rfl:m=lss.length:=by have:=HM.o;omega
   have hd2:decide (((lss.length+1:Nat):Int)<(lss.length:Int)+1)=WW:=dF;go_wp2;rw [Exit.noGoto_ret];have HB9:=Hd (HB1.o.trans (HBl.o.below.mono HB1.o.size));refine bodyPost_ret (v:=U_ #[S_ A' lss.length c',I_ J_ 0]) (by simp [results,results47,go_sem]) rfl ⟨A',c',vs,rfl,HBl.o.row.sl,HL.o,λb hb=>Nat.le_trans HB1.o.size (HBl.o.fresh b hb),HB9.o⟩
end Tq
end
section
open Go.Shelf gu Wo
namespace Tq
open Tx
def IZ (t:dA) (h:fR t) (w:WX):WZ Xc 79 #[A_ t.arr] w λe w'=>e=R_ (B_ WW)/\Bw w w':=by
 have aG:=Hd (λX=>xL t h X);have F:Xb (Bw w (w.alloc (.cells t.arr 92))):=dL;clear h;obtain ⟨sig,jx,mN,I,G⟩:=t;unfold dA.arr at*
 dsimp only at*
 go_enter func79,ntmps79;go_wp2_with fail;refine (aG _).mono ?_;rintro e w2 ⟨rfl,an⟩;have V:=Hd (F.trans (an.mono F.size));clear an F aG;go_wp2;go_ret;exact ⟨rfl,V⟩
def yL (A:Option Xa) (n c:Nat) (dD:List dA) (w:WX) (h:Xw w w.heap.size 5 A n (Yt dD)) (ac:dD.length=n) (hn:n<=1000) (hr: ∀t∈dD,fR t):
  WZ Xc 142 #[S_ A n c,.func (.func 79) #[] #[]] w λe w'=>e=R_ (I_ J_ (-1))/\Bw w w':=by
 have H:=Hd h;have HR:=Hd hr;clear h hr;go_enter func142,ntmps142;go_wp2;go_loopw [8] (λvi wr=> ∃k:Nat,k<=n/\vi=I_ J_ k/\Xb (Bw w wr)) (λi _=>n - (intOf i).toNat)
 .exact ⟨0,o_,rfl,Hd b_⟩
 .obtain ⟨k,hk,rfl,bc⟩:=hrel
  by_cases aa:k<n
  .obtain ⟨ad,hl,rfl,U,G,V⟩:=dA.at_ (H.below bc) aa
   have aG:=Hd (λX=>IZ dD[k] (HR _ (g_ hl)) X);unfold dA.arr at aG;generalize dD[k]=q at*;obtain ⟨q0,q1,q2,q3,q4⟩:=q;obtain ⟨c0,c1,c2,c3,c4⟩:=V
   dsimp only at c0 c1 c2 c3 c4 aG
   clear U G;go_wp2_with fail;refine (aG _).mono ?_;rintro e w2 ⟨rfl,an⟩;have aB:=Hd (bc.trans (an.mono bc.size));clear an c0 c1 c2 c3 c4 aG;exact zW
  .obtain rfl:k=n:=o_
   go_wp2;go_ret;exact ⟨rfl,bc⟩
def yM (A:Option Xa) (n c:Nat) (dD:List dA) (w:WX) (h:Xw w w.heap.size 5 A n (Yt dD)) (ac:dD.length=n) (hn:n<=1000) (hr: ∀t∈dD,fR t):
  WZ Xc 78 #[S_ A n c,.func (.func 79) #[] #[]] w λe w'=>e=R_ (B_ WW)/\Bw w w':=by
 have H:=Hd (yL A n c dD w h ac hn hr);clear h hr;go_enter func78,ntmps78;go_wp2_with fail;refine H.mono ?_;rintro e w2 ⟨rfl,(O:Xb _)⟩;go_wp2;go_ret;exact ⟨rfl,O⟩
def Vh (a b c:Int) (w:WX) (g o:Nat) (O:w.cell? ⟨g,o,Z_⟩=Y' (I_ J_ a)) (F:w.cell? ⟨g,o+1,Z_⟩=Y' (I_ J_ b)) (I:w.cell? ⟨g,o+2,Z_⟩=Y' (I_ J_ c)):
  WZ Xc 77 #[S_ (Y' ⟨g,o,Z_⟩) 3 3] w λe w'=>e=R_ (I_ J_ (min (min a b) c))/\w'=w:=by
 have h:=Any.slices_Min_int Tryz.Nj g o 3 3 [a,b,c] w d_ y_ d_ (λj G=>by
  have hj':j<3:=G;have:j=0\/j=1\/j=2:=o_;obtain rfl|rfl|rfl:=this
  .exact O
  .exact F
  .exact I)
 have e:Lib.minOf (List.take 3 [a,b,c])=min (min a b) c:=by simp [Lib.minOf]
 rw [e] at h;exact h
def FG (p:ef) (dD:List dA) (w:WX) (hR:fK p dD) (h:Xw w w.heap.size 5 p.A p.n (Yt dD)) (O:dD.length=p.n):
  WZ Xc 50 #[A_ p.arr] w λe w'=>e=R_ (B_ Z')/\Bw w w':=by
 have HB:Xb (Bw w (w.alloc (.cells p.arr 25))):=dL;have HP:Xb (Xj (w.alloc (.cells p.arr 25)) w.heap.size 25 p.arr):=Xk;have HC:=Hd (λc X (hX:Xw X X.heap.size 5 p.A p.n (Yt dD))=>yM p.A p.n c dD X hX O (by have:=hR.rc.n;omega) hR.rc.each);have H:=Hd h;obtain ⟨⟨b0,b1,b2,bn,-⟩,f0,f1,f2,f3,f4,p0,p1,g0,g1,r0,r1,d0,d1⟩:=hR;clear h O;obtain ⟨k0,k1,k2,a0,a1,a2,A,n,c,U,V,ab,dead⟩:=p;unfold ef.arr at*
 dsimp only at*
 have m1:(min (min k0 k1) k2<1)=False:=by simp;omega
 have m2:(min (min a0 a1) a2<0)=False:=by simp;omega
 have e1:decide (1<=U/\U<=1000)=Z':=dT;have e2:decide (1<=ab/\ab<=1000)=Z':=dT;have e3:decide (0<=V/\V<=20)=Z':=dT;have e4:decide (0<=dead/\dead<=100)=Z':=dT;have af:=Hd (Vh k0 k1 k2 _ w.heap.size 0 (HP.cell 0) (HP.cell 1) (HP.cell 2));have ae:=Hd (Vh a0 a1 a2 _ w.heap.size 3 (HP.cell 3) (HP.cell 4) (HP.cell 5));generalize min (min k0 k1) k2=M1 at*;generalize min (min a0 a1) a2=M2 at*;go_enter func50,ntmps50;go_wp2_with fail;generalize w.alloc (.cells #[I_ J_ k0,I_ J_ k1,I_ J_ k2,I_ J_ a0,I_ J_ a1,I_ J_ a2,S_ A n c,I_ J_ U,I_ J_ V,I_ J_ ab,I_ J_ dead] 25)=w1 at*;refine af.mono ?_;rintro e w2 ⟨rfl,G⟩;obtain rfl:=G.symm;go_wp2_with fail;refine ae.mono ?_;rintro e w2 ⟨rfl,G⟩;obtain rfl:=G.symm;have x0:=HP.cell 0;have x2:=HP.cell 2;have x4:=HP.cell 4;have x5:=HP.cell 5;have x6:=HP.cell 6;go_wp2_with fail;refine (HC _ _ ((H.below HB).more HB.size)).mono ?_;rintro e w2 ⟨rfl,an⟩;have aB:=Hd (HB.trans (an.mono HB.size));have ak:=Hd (HP.a_ an);clear an x0 x2 x4 x5 x6 af ae HC H HP HB;have x7:=ak.cell 7;have x8:=ak.cell 8;have x9:=ak.cell 9;have x10:=ak.cell 10;go_wp2_with fail;refine (Tw.LF _ _ _ _).mono ?_;rintro e w3 ⟨rfl,G⟩;obtain rfl:=G.symm;rw [e1];go_wp2_with fail;refine (Tw.LF _ _ _ _).mono ?_;rintro e w3 ⟨rfl,G⟩;obtain rfl:=G.symm;rw [e2];go_wp2_with fail;refine (Tw.LF _ _ _ _).mono ?_;rintro e w3 ⟨rfl,G⟩;obtain rfl:=G.symm;rw [e3];go_wp2_with fail;refine (Tw.LF _ _ _ _).mono ?_;rintro e w3 ⟨rfl,G⟩;obtain rfl:=G.symm;rw [e4];go_wp2_with fail;go_ret;exact ⟨rfl,aB⟩
end Tq
end
section
open Go.Shelf gu Wo
namespace Tq
open Tx
def eR (cs:Array WY) (l:List (Nat×Nat)):Array WY:=l.foldl (λcs x=>cs.setIfInBounds x.1 (I_ J_ x.2)) cs
def xx (cs:Array WY) (l:List (Nat×Nat)):(eR cs l).size=cs.size:=by
 unfold eR
 induction l generalizing cs with
 |nil=>rfl
 |cons x l ih=>rw [List.foldl_cons,ih];simp
def xy (cs:Array WY) (l:List (Nat×Nat)) (x:Nat×Nat):eR cs (l++[x])=(eR cs l).setIfInBounds x.1 (I_ J_ x.2):=by simp [eR]
def xz {B:Nat} {G:List gL} (h:Xw w B 3 A n (js G)) (I:k<G.length) (hn:G.length=n):
  ∃ad,A=Y' ad/\ad.block<B/\w.cell? (ad.add (k*3))=Y' (T_ (str G[k].text))/\w.cell? (ad.add (k*3+1))=Y' (I_ J_ G[k].line)/\w.cell? (ad.add (k*3+2))=Y' (I_ J_ G[k].b'):=by
 let ⟨V,h2⟩:=h;let ⟨ad,X,hb,hc⟩:=h2 o_;have hf: ∀(l:List gL) (k:Nat) (I:k<l.length) (j:Nat) (O:j<3),(js l)[k*3+j]?=l[k].cells[j]?:=by
  intro l
  induction l with
  |nil=>intro k I;simp at I
  |cons x l ih=>
   intro k I j O;have e:js (x::l)=x.cells++js l:=rfl;have hx:x.cells.length=3:=rfl;rw [e];cases k with
   |zero=>rw [Nat.zero_mul,Xd,List.getElem?_append_left o_];rfl
   |succ k=>
    rw [List.getElem?_append_right o_,show (k+1)*3+j - x.cells.length=k*3+j by omega];exact ih k (by simpa using I) j O
 have hl:(js G).length=n*3:=V;have F: ∀j,j<3-> ∀v,G[k].cells[j]?=Y' v->w.cell? (ad.add (k*3+j))=Y' v:=λj O v hv=>by
  have h4:=hc (k*3+j) o_;have U:=hf G k I j O;rw [hv] at U;rw [h4,<-List.getElem?_eq_getElem,U]
 exact ⟨ad,X,hb,F 0 d_ _ rfl,F 1 d_ _ rfl,F 2 d_ _ rfl⟩
def IL (ad:Xa) (j i:Nat) (h:i≠0):ad.add (j+i)={block:=(ad.add j).block,off:=(ad.add j).off+i}:=by
 rw [uM ad (j+i) o_];by_cases F:j=0
 .subst F
  simp [Addr.add]
 .rw [uM ad j F]
  simp [Nat.add_assoc]
def dt.cell {S:Nat->Prop} (h:Yp S w w') {p:Xa} (G:p.block<X_ (Y_ w)) (F: ¬S p.block):w'.cell? p=w.cell? p:=by
 unfold World.cell?;rw [h.block _ G F]
def RM (A1 A2:Option Xa) (n c1 c2:Nat) (l:List (Nat×Nat)) (fs:List gL) (g:Nat) (T:TypeId) (cs:Array WY) (w:WX) (hl:l.length=n) (hn:n<=100)
  (h1:Xw w w.heap.size 1 A1 n (l.map λx=>Value.pointer (Y' ⟨g,x.1,Z_⟩))) (h2:Xw w w.heap.size 3 A2 n (js fs)) (hf:fs.map gL.text=l.map λx=>Yv x.2) (hm: ∀x∈l,x.1<cs.size/\x.2<=XM)
  (hg:Xj w g T cs) (n1: ∀b,XN A1=Y' b->b≠g) (n2: ∀b,XN A2=Y' b->b≠g):
  WZ Xc 76 #[S_ A1 n c1,S_ A2 n c2] w λe w'=>e=R_ (I_ J_ 0)/\Yp (λb=>b=g) w w'/\Xj w' g T (eR cs l):=by
 have hfl:fs.length=n:=by have:=congrArg List.length hf;simpa [hl] using this
 have H1:=Hd (show∀W,Yp (λb=>b=g) w W-> ∀k (hk:k<l.length),∃ad,A1=Y' ad/\W.cell? (ad.add k)=Y' (P_ (Y' ⟨g,l[k].1,Z_⟩)) from λW hW k hk=>by
  obtain ⟨ad,rfl,hb,hc⟩:=h1.2 o_;have:=hc k (by simpa using hk);rw [XI] at this;refine ⟨ad,rfl,?_⟩;rw [dt.cell hW (by rw [Mem.ew];exact hb) (by rw [Mem.ew];exact n1 ad.block rfl),this])
 have F:=Hd (show∀W,Yp (λb=>b=g) w W-> ∀k (hk:k<l.length),∃ad a b,A2=Y' ad/\W.cell? (ad.add (k*3))=Y' (T_ (str (Yv l[k].2)))/\W.cell? (ad.add (k*3+1))=Y' (I_ J_ a)/\W.cell? (ad.add (k*3+2))=Y' (I_ J_ b) from λW hW k hk=>by
  have hk2:k<fs.length:=o_;obtain ⟨ad,rfl,hb,c0,c3,c4⟩:=xz h2 hk2 hfl;have ht:fs[k].text=Yv l[k].2:=by
   have:=congrArg (λx=>x[k]?) hf;simpa [hk,hk2] using this
  have hne: ∀j,¬(ad.add j).block=g:=λj=>by rw [Mem.ew];exact n2 ad.block rfl
  have ag: ∀j,(ad.add j).block<X_ (Y_ w):=λj=>by rw [Mem.ew];exact hb
  refine ⟨ad,fs[k].line,fs[k].b',rfl,?_,?_,?_⟩
  .rw [dt.cell hW (ag _) (hne _),c0,ht]
  .rw [dt.cell hW (ag _) (hne _),c3]
  .rw [dt.cell hW (ag _) (hne _),c4])
 have HM:Xb (∀k (hk:k<l.length),l[k].1<cs.size/\l[k].2<=XM):=λk hk=>hm _ (g_ hk)
 have HG:=Hd hg;clear h1 h2 hf hfl hm hg n1 n2;go_enter func76,ntmps76;go_wp2;go_loopw [16] (λvi wr=> ∃k:Nat,k<=n/\vi=I_ J_ k/\Xb (Yp (λb=>b=g) w wr)/\Xb (Xj wr g T (eR cs (l.take k)))) (λi _=>n - (intOf i).toNat)
 .exact ⟨0,o_,rfl,Hd (Ro.dt.refl _ _),HG⟩
 .obtain ⟨k,hk,rfl,I,HD⟩:=hrel
  by_cases ag:k<n
  .have hkl:k<l.length:=o_
   obtain ⟨ad,f1,f2,rfl,q0,q1,q2⟩:=F wr I k hkl;have aG:=Hd (λX=>RO l[k].2 X (HM k hkl).2);have HS:=Hd (HM k hkl).1;have HTK:=Hd (Mem.dQ l k hkl);have HA1:=Hd (λW hW=>H1 W hW k hkl);generalize l[k]=x at*;obtain ⟨o,v⟩:=x
   dsimp only at aG HS HA1 q0
   rw [IL _ _ _ d_] at q1 q2;go_wp2_with fail;refine (aG _).mono ?_;rintro e w2 ⟨rfl,an⟩;have hba:Bw wr w2:=(dL).trans (an.mono y_);have hO2:Yp (λb=>b=g) w w2:=I.trans (Ro.dt.dW (S:=λb=>b=g) hba) (λ_ _ e=>e);have hK2:=HD.a_ hba;obtain ⟨ad1,rfl,hp⟩:=HA1 w2 hO2;have hsz:o<(eR cs (l.take k)).size:=by rw [xx];exact HS
   have y:w2.cell? ⟨g,o,Z_⟩=Y' (eR cs (l.take k))[o]:=by rw [hK2.cell,Array.getElem?_eq_getElem hsz]
   have z:=hK2.frozen o;have H2:Xb (Yp (λb=>b=g) w (w2.setCell ⟨g,o,Z_⟩ (I_ J_ v))):=hO2.trans (Ro.dt.setCell w2 ⟨g,o,Z_⟩ _) (λ_ _ e=>e);have ae:Xb (Xj (w2.setCell ⟨g,o,Z_⟩ (I_ J_ v)) g T (eR cs (l.take (k+1)))):=by rw [HTK.o,xy];exact hK2.eC o _
   generalize (eR cs (l.take k))[o]=lL at*;clear an hba hO2 hK2 q0 q1 q2 hsz;exact GA
  .obtain rfl:k=n:=o_
   have aa:=HD.o;rw [t_ o_] at aa;have HZ:=Hd aa;clear aa;go_wp2;go_ret;exact ⟨rfl,I,HZ⟩
end Tq
end
section
namespace Ta
open Wo
def Aa:List UInt8:=[97,98,99,100,101,102,103,104,105,106,107,108,109,110,111,112,113,114,115,116,117,118,119,120,121,122,48,49,50,51,52,53,54,55,56,57,45]
def jQ (s:ByteArray):Bool:=decide (1<=s.size)&&(decide (s.size<=24)&&(Ye s.data.toList Aa).isEmpty)
def lA (h:jQ s=Z'):1<=s.size/\s.size<=24:=by
 unfold jQ at h;simp only [Bool.and_eq_true,decide_eq_true_eq] at h;exact ⟨h.1,h.2.1⟩
def Oj {p:Prop} (h:p:=by
 go_enter func150,ntmps150;go_wp2_with fail;go_ret;exact ⟨by rw [G.o];rfl,Below.refl _ _⟩):p:=h
def mv (s:ByteArray) (w:WX) (hs:s.size<=maxLen):WZ Xc 150 #[s] w λe w'=>e=R_ (B_ (jQ s))/\Bw w w':=by
 unfold maxLen at hs;let ⟨F,G⟩:=nm (jQ s);rw [<-G];unfold jQ at G;have U:=Hd G;clear G;have V:=Hd (Any.strings_Trim_laid Tryz.KH k_ s ⟨Aa.toArray⟩ w hs d_ (ascii_of_all d_));have O:s.size<1\/(1<=s.size/\ ¬s.size<=24)\/(1<=s.size/\s.size<=24):=o_;obtain h|⟨X,I⟩|⟨X,I⟩:=O
 .have G:Xb (F=WW):=Hd (by rw [U.o,dF];rfl)
  exact Oj
 .have G:Xb (F=WW):=Hd (by rw [U.o,decide_eq_false I,Bool.false_and,Bool.and_false])
  exact Oj
 .have G:Xb (F=(Ye s.data.toList Aa).isEmpty):=Hd (by rw [U.o,decide_eq_true X,decide_eq_true I,Xv,Xv])
  unfold Aa at V;go_enter func150,ntmps150;go_wp2_with fail;refine V.o.mono ?_;rintro e w2 ⟨rfl,hb⟩;have hE:(⟨(Ye s.data.toList [97,98,99,100,101,102,103,104,105,106,107,108,109,110,111,112,113,114,115,116,117,118,119,120,121,122,48,49,50,51,52,53,54,55,56,57,45]).toArray⟩:ByteArray).toList.isEmpty=F:=by
   rw [G.o,Lib.toList_data];rfl
  have HB:=Hd hb;clear V hb;generalize (Ye s.data.toList [97,98,99,100,101,102,103,104,105,106,107,108,109,110,111,112,113,114,115,116,117,118,119,120,121,122,48,49,50,51,52,53,54,55,56,57,45]).toArray=T at*;go_wp2;go_ret;exact ⟨by rw [<-hE];rfl,HB.o⟩
def iW (r l:Int):Bool:=decide (0<=r/\0<=l/\(0<l->r<=l))
def fw (p:dz):Bool:=iW p.r0 p.l0&&(iW p.r1 p.l1&&(iW p.r2 p.l2&&(jQ p.id&&(jQ p.eO&&(decide (-1073741824<=p.prio)&&(decide (p.prio<=1073741824)&&decide (0<=p.size)))))))
def uA {p:Prop} (h:p:=by
 go_wp2_with fail;go_ret;exact ⟨by rw [I.o];rfl,aN.o⟩):p:=h
def Ol {p:Prop} (h:p:=by
 go_wp2_with fail
 go_round
 .exact ⟨1,o_,rfl,λ_=>h1.o,λh=>absurd h o_,λh=>absurd h o_⟩
 .simp [intOf]):p:=h
def Om {p:Prop} (h:p:=by
 go_wp2_with fail
 go_round
 .exact ⟨2,o_,rfl,λ_=>q0 o_,λ_=>h1.o,λh=>absurd h o_⟩
 .simp [intOf]):p:=h
def On {p:Prop} (h:p:=by
 go_wp2_with fail
 go_round
 .exact ⟨3,o_,rfl,λ_=>q0 o_,λ_=>q1 o_,λ_=>h1.o⟩
 .simp [intOf]):p:=h
def nR (p:dz) (w:WX) (hp:p.ok):WZ Xc 93 #[A_ p.arr] w λe w'=>e=R_ (B_ (fw p))/\Bw w w':=by
 let ⟨F,I⟩:=nm (fw p);rw [<-I];unfold fw at I;have HF:=Hd I;have ay:=Hd (λX=>mv p.id X hp.id);have af:=Hd (λX=>mv p.eO X hp.eO);have aN:=Hd (show Bw w (w.alloc (.cells p.arr 42)) from dL);have HK8:=Hd (show Xj (w.alloc (.cells p.arr 42)) w.heap.size 42 p.arr from Xk);clear hp I;let ⟨id,G,au,O,V,U,l0,l1,l2,eO,size⟩:=p;unfold dz.arr at*
 dsimp only at HF ay af aN HK8 |-
 generalize jQ id=N1 at*;generalize jQ eO=N2 at*;have v3:=HK8.o.cell 3;have v4:=HK8.o.cell 4;have m5:=HK8.o.cell 5;go_enter func93,ntmps93;go_wp2_with fail;clear v3 v4 m5;generalize w.alloc (.cells #[id,G,au,O,V,U,l0,l1,l2,eO,size] 42)=w1 at*
 go_loop [7] (λvi=> ∃j:Nat,j<=3/\vi=I_ J_ j/\(1<=j->iW O l0=Z')/\(2<=j->iW V l1=Z')/\(3<=j->iW U l2=Z')) (λi=>3 - (intOf i).toNat)
 .exact ⟨0,o_,rfl,λh=>absurd h o_,λh=>absurd h o_,λh=>absurd h o_⟩
 .obtain ⟨j,hj,rfl,q0,q1,q2⟩:=hrel
  have ap:j=0\/j=1\/j=2\/j=3:=o_;obtain rfl|rfl|rfl|rfl:=ap
  .refine sH ?_
   have i0: ∀X,(Yj 22 (A_ #[O,V,U]) (I_ J_ 0)).run Xc X= .ok (I_ J_ O) X:=λX=>Vi.lq O V U X 0 d_
   have x0:C w1 w.heap.size 6 l0:=HK8.o.cell 6;have ap:O<0\/(0<=O/\l0<0)\/(0<=O/\0<=l0/\0<l0/\l0<O)\/(0<=O/\l0=0)\/(0<=O/\0<l0/\O<=l0):=o_;obtain h|⟨h,h'⟩|⟨h,h',h2,h3⟩|⟨h,h'⟩|⟨h,h',h2⟩:=ap
   .have I:Xb (F=WW):=Hd (by rw [HF.o];simp [iW,show¬0<=O by omega])
    exact uA
   .have I:Xb (F=WW):=Hd (by rw [HF.o];simp [iW,show¬0<=l0 by omega])
    exact uA
   .have I:Xb (F=WW):=Hd (by rw [HF.o];simp [iW,h2,show¬O<=l0 by omega])
    exact uA
   .have h1:Xb (iW O l0=Z'):=Hd (by unfold iW;exact decide_eq_true ⟨h,o_,o_⟩)
    subst h';exact Ol
   .have h1:Xb (iW O l0=Z'):=Hd (by unfold iW;exact decide_eq_true ⟨h,o_,o_⟩)
    exact Ol
  .refine vO ?_
   have i0: ∀X,(Yj 22 (A_ #[O,V,U]) (I_ J_ 1)).run Xc X= .ok (I_ J_ V) X:=λX=>Vi.lq O V U X 1 d_
   have x0:C w1 w.heap.size 7 l1:=HK8.o.cell 7;have ap:V<0\/(0<=V/\l1<0)\/(0<=V/\0<=l1/\0<l1/\l1<V)\/(0<=V/\l1=0)\/(0<=V/\0<l1/\V<=l1):=o_;obtain h|⟨h,h'⟩|⟨h,h',h2,h3⟩|⟨h,h'⟩|⟨h,h',h2⟩:=ap
   .have I:Xb (F=WW):=Hd (by rw [HF.o];simp [iW,show¬0<=V by omega])
    exact uA
   .have I:Xb (F=WW):=Hd (by rw [HF.o];simp [iW,show¬0<=l1 by omega])
    exact uA
   .have I:Xb (F=WW):=Hd (by rw [HF.o];simp [iW,h2,show¬V<=l1 by omega])
    exact uA
   .have h1:Xb (iW V l1=Z'):=Hd (by unfold iW;exact decide_eq_true ⟨h,o_,o_⟩)
    subst h';exact Om
   .have h1:Xb (iW V l1=Z'):=Hd (by unfold iW;exact decide_eq_true ⟨h,o_,o_⟩)
    exact Om
  .refine vP ?_
   have i0: ∀X,(Yj 22 (A_ #[O,V,U]) (I_ J_ 2)).run Xc X= .ok (I_ J_ U) X:=λX=>Vi.lq O V U X 2 d_
   have x0:C w1 w.heap.size 8 l2:=HK8.o.cell 8;have ap:U<0\/(0<=U/\l2<0)\/(0<=U/\0<=l2/\0<l2/\l2<U)\/(0<=U/\l2=0)\/(0<=U/\0<l2/\U<=l2):=o_;obtain h|⟨h,h'⟩|⟨h,h',h2,h3⟩|⟨h,h'⟩|⟨h,h',h2⟩:=ap
   .have I:Xb (F=WW):=Hd (by rw [HF.o];simp [iW,show¬0<=U by omega])
    exact uA
   .have I:Xb (F=WW):=Hd (by rw [HF.o];simp [iW,show¬0<=l2 by omega])
    exact uA
   .have I:Xb (F=WW):=Hd (by rw [HF.o];simp [iW,h2,show¬U<=l2 by omega])
    exact uA
   .have h1:Xb (iW U l2=Z'):=Hd (by unfold iW;exact decide_eq_true ⟨h,o_,o_⟩)
    subst h';exact On
   .have h1:Xb (iW U l2=Z'):=Hd (by unfold iW;exact decide_eq_true ⟨h,o_,o_⟩)
    exact On
  .refine qB ?_
   have ah:Xb (F=(N1&&(N2&&(decide (-1073741824<=G)&&(decide (G<=1073741824)&&decide (0<=size)))))):=Hd (by rw [HF.o,q0 o_,q1 o_,q2 o_,Xv,Xv,Xv]);clear q0 q1 q2;have x0:C w1 w.heap.size 0 id:=HK8.o.cell 0;cases N1 with
   |false=>
    go_wp2_with fail;refine (ay.o _).mono ?_;refine xZ ?_;intro w2 b9 b8;go_wp2;go_ret;exact ⟨by rw [ah.o];rfl,b8.o⟩
   |true=>
    go_wp2_with fail;refine (ay.o _).mono ?_;refine xZ ?_;intro w2 b9 b8;have cm:=Hd (HK8.o.a_ b9);have x9:C w2 w.heap.size 9 eO:=cm.o.cell 9;clear b9 x0;cases N2 with
    |false=>
     go_wp2_with fail;refine Oo ?_;intro w3 b9 aA;go_wp2;go_ret;exact ⟨by rw [ah.o];rfl,aA.o⟩
    |true=>
     go_wp2_with fail;refine Oo ?_;intro w3 b9 aA;have cr:=Hd (cm.o.a_ b9);have x1:C w3 w.heap.size 1 G:=cr.o.cell 1;have x10:C w3 w.heap.size 10 size:=cr.o.cell 10;clear b9 x9;have ap:(G< -1073741824)\/(-1073741824<=G/\1073741824<G)\/(-1073741824<=G/\G<=1073741824):=o_;obtain h|⟨h,h'⟩|⟨h,h'⟩:=ap
     .go_wp2
      go_ret;exact ⟨by rw [ah.o,decide_eq_false (show¬ -1073741824<=G by omega)];rfl,aA.o⟩
     .go_wp2
      go_ret;exact ⟨by rw [ah.o,decide_eq_true h,decide_eq_false (show¬G<=1073741824 by omega)];rfl,aA.o⟩
     .go_wp2
      go_ret;exact ⟨by rw [ah.o,decide_eq_true h,decide_eq_true h'];rfl,aA.o⟩
end Ta
end
section
open Ro
namespace Gr
section
variable {α:Type} {enc:α->List WY} {k:Nat}
def dO (hk: ∀x,(enc x).length=k): ∀l:List α,(l.map enc).flatten.length=l.length*k
 |[]=>by simp
 |x::l=>by
  rw [XS,XG,Xp,dO hk l,hk,XH,Yi];omega
def BE (hk: ∀x,(enc x).length=k): ∀(l:List α) (i r:Nat),r<k->(l.map enc).flatten[i*k+r]?=(l[i]?).bind (λx=>(enc x)[r]?)
 |[],i,r,_=>by simp
 |x::l,0,r,h=>by
  rw [XS,XG,List.getElem?_append_left (by rw [hk];omega)];simp
 |x::l,i+1,r,h=>by
  rw [XS,XG,List.getElem?_append_right (by rw [hk,Yi];omega),hk,show (i+1)*k+r - k=i*k+r by rw [Yi];omega,BE hk l i r h];simp
variable [Inhabited α]
def xP (G: ∀x,(enc x).length=k) (U:0<k) (d:Array α):(XW enc k d).toList=(d.toList.map enc).flatten:=by
 apply Yb;intro j;by_cases F:j<d.size*k
 .have I:j%k<k:=Nat.mod_lt _ U
  have O:j/k<d.size:=Nat.div_lt_of_lt_mul (by rwa [Nat.mul_comm]);have e:j=j/k*k+j%k:=by rw [Nat.mul_comm];exact (Nat.div_add_mod j k).symm
  have g:=Sort.get_flatK enc k d j F;rw [getElem!_pos _ _ (by rw [Xf];exact F)] at g;rw [List.getElem?_eq_getElem (by rw [Xx,Xf];exact F),XP,g]
  conv=>rhs;rw [e]
  rw [BE G _ _ _ I,Array.getElem?_toList,Array.getElem?_eq_getElem O,Yc,getElem!_pos d _ O,getElem!_pos _ _ (by rw [G];exact I),List.getElem?_eq_getElem (by rw [G];exact I)]
 .rw [List.getElem?_eq_none (by rw [Xx,Xf];omega),List.getElem?_eq_none (by rw [dO G];simpa using F)]
def DP (d:Array α) (os:Array Obj) (h:w.heap[b]?=Y' (.cells F e (0,0))):
  (sortWorldK enc k w b off m d os).heap[b]?=Y' (.cells (XR id off (XW enc k d) F) e (0,0)):=by
 have G:b<X_ (Y_ w):=(Array.getElem?_eq_some_iff.1 h).1;unfold sortWorldK;rw [XV _ _ (by simp [Xy,XF,Xu,XJ];exact G)];simp [Xy,XF,Xu,XJ,Array.getElem?_modify,h,Sort.onCells]
def DQ (d:Array α) (os:Array Obj):dt (λg=>g=b) w (sortWorldK enc k w b off m d os):=by
 refine ⟨rfl,rfl,rfl,by simp [sortWorldK,Xy,XF,Xu,XJ],λg G hn=>?_⟩;unfold sortWorldK;rw [XV _ _ (by simp [Xy,XF,Xu,XJ];exact G)];simp [Xy,XF,Xu,XJ,Array.getElem?_modify,Ne.symm hn]
def Jd (V: ∀x,(enc x).length=k) (h0:0<k) {c:Nat} {xs:List α} (ys:List α) (os:Array Obj)
  (h:Row w e k (Y' ⟨b,off,Z_⟩) n c (xs.map enc).flatten) (hn:ys.length=n):Row (sortWorldK enc k w b off m ys.toArray os) e k (Y' ⟨b,off,Z_⟩) n c (ys.map enc).flatten:=by
 obtain ⟨hl,h2,h3,⟨h4,_⟩|⟨g',X,F,O,hg,I,U⟩⟩:=h
 .cases h4
 .simp only [Option.some.injEq,Addr.mk.injEq,and_true] at O
  obtain ⟨rfl,rfl⟩:=O;refine sF ?_;intro hc;refine ⟨by rw [dO V,hn],h2,h3,.inr ⟨b,off,_,rfl,DP _ os hg,by simp [XR];exact I,?_⟩⟩;rw [show (ys.map enc).flatten=(XW enc k ys.toArray).toList by rw [xP V h0]];apply Yb;intro j;by_cases G:j<n*k
  .rw [List.getElem?_take_of_lt G,List.getElem?_drop,Array.getElem?_toList,Array.getElem?_toList,XR,Array.getElem?_mapIdx,Array.getElem?_eq_getElem (show off+j<F.size by omega)]
   rw [Option.map_some,if_pos ⟨o_,by rw [Xf];simp [hn];omega⟩,show off+j - off=j by omega,Array.getElem?_eq_getElem (by rw [Xf];simp [hn];exact G),getElem!_pos _ _ (by rw [Xf];simp [hn];exact G)];rfl
  .rw [List.getElem?_eq_none z_,List.getElem?_eq_none (by rw [Xx,Xf];simp [hn];omega)]
def DR (G: ∀x,(enc x).length=k) (U:0<k) {c:Nat} {xs:List α}
  (h:Row w e k (Y' ⟨b,off,Z_⟩) n c (xs.map enc).flatten):Sort.HoldsK enc k w b off xs.toArray:=by
 intro j F;have I:=xP G U xs.toArray;have O:j<((xs.map enc).flatten).length:=by
  rw [Xf] at F;rw [dO G];simpa using F
 refine ⟨?_,h.frozen _⟩;rw [h.cell j O]
 congr 1
 rw [getElem!_pos (XW enc k xs.toArray) j F,<-XP];simp only [I,id]
def uS (L:Go.Proofs.SlLaysF0.n6 P ρ) (aE: ∀w,(isAgg (ρ.t 24)).run P w= .ok Z' w) (zE: ∀w,(Go.sizeOf (ρ.t 24)).run P w= .ok k w)
  (X: ∀x,(enc x).length=k) (h0:0<k) (h1: ∀x,∀v∈enc x,v.oneCell'=Z') (O:α->α->Int) (hO:uR O) (g:Nat)
  (eg: ∀args w,(callFunc g args).run P w= .ok (.enter g args) w)
  (I: ∀(x y:α) (w:WX),WZ P g #[A_ (enc x).toArray,A_ (enc y).toArray] w λe w'=>e=R_ (I_ J_ (O x y))/\kR w w')
  {c:Nat} {xs:List α} (F:Row w e k A n c (xs.map enc).flatten) (hn:xs.length=n) (hm:n<=1000000):
  WZ P (ρ.f 6) #[S_ A n c,.func (.func g) #[] #[]] w λo w'=>o=R_ (U_ #[])/\ ∃ys:List α,ys.Perm xs/\Sort.SortedIn (ltOf O) 0 n ys.toArray/\Row w' e k A n c (ys.map enc).flatten/\dt (λb=>dr A=Y' b) w w':=by
 by_cases hz:n=0
 .subst hz
  obtain rfl:=List.eq_nil_of_length_eq_zero hn;refine (AnyF.slices_SortFunc_none L A c _ w).mono ?_;rintro o w' ⟨rfl,rfl⟩;exact ⟨rfl,[],List.Perm.refl _,λi j _ _ h=>absurd h o_,F,dt.refl _ _⟩
 .obtain ⟨b,off,rfl⟩:=F.fe (by have:=F.le;omega)
  have hs:xs.toArray.size=n:=by simpa using hn
  have:=AnyQ.slices_SortFunc L k aE zE enc X h1 O hO.swo g #[] b off c xs.toArray w eg
   (λm os dk hd x y=>(I x y _).mono λ_ _ h=>⟨h.1,h.2⟩) (DR X h0 F) (F.lt rfl) (by rw [hs];omega)
  rw [hs] at this;refine this.mono ?_;rintro o w' ⟨rfl,G,m,os,hp,V,rfl⟩;have hd:G.size=n:=hp.1.trans hs;have aa:G.toList.Perm xs:=by
   have h3:=hp.2.2;rw [show G.extract 0 n=G by rw [<-hd];simp,show xs.toArray.extract 0 n=xs.toArray by rw [<-hs];simp] at h3;exact h3
  refine ⟨rfl,G.toList,aa,V,?_,(DQ _ _).mono (λk _ U=>by rw [U];rfl)⟩;have:=Jd (m:=m) X h0 G.toList os F (by simpa using hd);exact this
end
end Gr
end
section
namespace Ta
open Wo
def gC (e:dq):Bool:=fw e.dC&&(decide (1<=e.ph)&&decide (e.ph<=3))
def Fu (x:dq) (w:WX) (hp:x.ok):WZ Xc 147 #[A_ x.arr] w λe w'=>e=R_ (B_ (gC x))/\Bw w w':=by
 let ⟨F,hF⟩:=nm (gC x);rw [<-hF];unfold gC at hF;have O:=Hd hF;have HR:=Hd (λX=>nR x.dC X hp.dC);have I:Xb (Bw w (w.alloc (.cells x.arr 58))):=dL;have HK:Xb (Xj (w.alloc (.cells x.arr 58)) w.heap.size 58 x.arr):=Xk;clear hp hF;obtain ⟨⟨id,ab,U,r0,r1,r2,l0,l1,l2,ah,size⟩,G⟩:=x;unfold dz.arr at HR;unfold dq.arr at I HK |-
 dsimp only at O HR I HK |-
 generalize fw ⟨id,ab,U,r0,r1,r2,l0,l1,l2,ah,size⟩=N1 at*;cases N1 with
 |false=>
  go_enter func147,ntmps147;go_wp2_with fail;refine (HR _).mono ?_;rintro e w2 ⟨rfl,hb⟩;have V:=Hd (I.trans (hb.mono I.size));go_wp2;go_ret;exact ⟨by rw [O.o];rfl,V⟩
 |true=>
  go_enter func147,ntmps147;go_wp2_with fail;refine (HR _).mono ?_;rintro e w2 ⟨rfl,hb⟩;have V:=Hd (I.trans (hb.mono I.size));have K2:=HK.a_ hb;have x11:C w2 w.heap.size 11 G:=K2.cell 11;clear hb K2;have ag:(G<1)\/(1<=G/\3<G)\/(1<=G/\G<=3):=o_;obtain h|⟨h,h'⟩|⟨h,h'⟩:=ag
  .go_wp2
   go_ret;exact ⟨by rw [O.o,decide_eq_false (show¬1<=G by omega)];rfl,V⟩
  .go_wp2
   go_ret;exact ⟨by rw [O.o,decide_eq_true h,decide_eq_false (show¬G<=3 by omega)];rfl,V⟩
  .go_wp2
   go_ret;exact ⟨by rw [O.o,decide_eq_true h,decide_eq_true h'];rfl,V⟩
def Ql:Mem.El Xc 183 42 (A_ #[T_ ⟨#[]⟩,I_ J_ 0,B_ WW,I_ J_ 0,I_ J_ 0,I_ J_ 0,I_ J_ 0,I_ J_ 0,I_ J_ 0,T_ ⟨#[]⟩,I_ J_ 0]) 11 104:=⟨underlying183,k_,rfl,d_⟩
def qQ (l:List dz) (p:dz):XQ (l++[p])=XQ l++p.cells:=by simp [XQ]
def dx (l:List dq):List dz:=l.map λe=>e.dC
def Kw (r:Int) (A:Option Xa) (n c:Nat) (o0 o1 o2:Bool) (l:List dq) (p:ef) (w:WX) (h:Xw w w.heap.size 12 A n (dq.flat l)) (aK:l.length=n) (hn:n<=10000) (ae: ∀e∈l,e.ok):
  WZ Xc 54 #[A_ (gF r A n c o0 o1 o2),A_ p.arr] w λe w'=>e=R_ (B_ (Vi.fI p.a0 p.a1 p.a2 (Vi.eY (dx l))))/\Bw w w':=by
 have I:Xb (Bw w ((w.alloc (.cells (gF r A n c o0 o1 o2) 34)).alloc (.cells p.arr 25))):=(dL).alloc y_ _;have HK:Xb (Xj ((w.alloc (.cells (gF r A n c o0 o1 o2) 34)).alloc (.cells p.arr 25)) w.heap.size 34 (gF r A n c o0 o1 o2)):=Mem.c_.alloc Xk;have HC:=Hd (show Xj ((w.alloc (.cells (gF r A n c o0 o1 o2) 34)).alloc (.cells p.arr 25)) (X_ (Y_ w)+1) 25 p.arr from by
  have:=Xk (w:=w.alloc (.cells (gF r A n c o0 o1 o2) 34)) (t:=25) (cs:=p.arr);simpa using this)
 have H:=Hd h;have HF:=Hd (λX A2 n2 c2 (h2:Xw X X.heap.size 11 A2 n2 (XQ (dx l))) (hn2:n2<=1000000)=>Vi.Fv p.a0 p.a1 p.a2 A2 n2 c2 (dx l) X h2 (by
  intro q hq;obtain ⟨e,he,rfl⟩:=Ya.1 hq;exact (ae e he).dC) hn2)
 clear h ae;generalize Vi.fI p.a0 p.a1 p.a2 (Vi.eY (dx l))=F at*;obtain ⟨k0,k1,k2,a0,a1,a2,cA,cn,cc,ak,al,ar,dead⟩:=p;unfold gF ef.arr at*
 dsimp only at HF I HK HC |-
 have m1:=HK.cell 1;go_enter func54,ntmps54;go_wp2_with fail;clear m1;generalize (w.alloc (.cells #[I_ J_ r,S_ A n c,B_ o0,B_ o1,B_ o2] 34)).alloc (.cells #[I_ J_ k0,I_ J_ k1,I_ J_ k2,I_ J_ a0,I_ J_ a1,I_ J_ a2,S_ cA cn cc,I_ J_ ak,I_ J_ al,I_ J_ ar,I_ J_ dead] 25)=w1 at*;go_loopw [5,11] (λvo vi wr=> ∃(k:Nat) (A':Option Xa) (c':Nat),k<=n/\vi=I_ J_ k/\vo=S_ A' k c'/\Xb (eF w1 wr 42 11 A' k c' (XQ (dx (l.take k))))) (λ_ i _=>n - (intOf i).toNat)
 .exact zU
 .obtain ⟨k,A',c',hk,rfl,rfl,G⟩:=hrel
  by_cases aM:k<n
  .have Hw:=Hd (I.trans (G.below.mono I.size))
   obtain ⟨ad,hl,rfl,aR,ax,af⟩:=dq.at_ (H.below Hw) aM;have I:Xb (dx (l.take (k+1))=dx (l.take k)++[l[k].dC]):=by unfold dx;rw [Mem.dQ l k hl,List.map_append];rfl
   generalize l[k]=q at*;obtain ⟨⟨qi,q1,q2,q3,q4,q5,q6,q7,q8,q9,ab⟩,ao⟩:=q;obtain ⟨c0,c1,c2,c3,c4,c5,c6,c7,c8,c9,lM,pv⟩:=af
   dsimp only at c0 c1 c2 c3 c4 c5 c6 c7 c8 c9 lM pv I
   have hw:=fh (n:=(k:Int)+1) o_ o_;let ⟨w2,O⟩:=nm (wr.alloc (.cells #[T_ qi,I_ J_ q1,B_ q2,I_ J_ q3,I_ J_ q4,I_ J_ q5,I_ J_ q6,I_ J_ q7,I_ J_ q8,T_ q9,I_ J_ ab,I_ J_ ao] 58));have V:eF w1 w2 42 11 A' k c' (XQ (dx (l.take k))):=by rw [O];exact G.free (dL)
   have ag:X_ (Y_ w2)=X_ (Y_ wr)+1:=by rw [O];simp
   obtain ⟨A2,bd,w3,hr,an,-⟩:=V.push Ql #[T_ qi,I_ J_ q1,B_ q2,I_ J_ q3,I_ J_ q4,I_ J_ q5,I_ J_ q6,I_ J_ q7,I_ J_ q8,T_ q9,I_ J_ ab] rfl v_ o_ d_ ag;have bZ:Xb (eF w1 w3 42 11 A2 (k+1) bd (XQ (dx (l.take (k+1))))):=by rw [I.o,qQ];exact an
   rw [O] at hr;clear hl aR ax V an I G O ag;refine pN ?_;exact Fw
  .obtain rfl:k=n:=o_
   have V:=G.o;rw [t_ o_] at V;have HQ:=Hd (HF wr A' k c' V.row.sl o_);have U:=V.below;have Hw:=Hd (I.trans (U.mono I.size));have KC:=HC.a_ U;have x3:C wr (X_ (Y_ w)+1) 3 a0:=KC.cell 3;have x4:C wr (X_ (Y_ w)+1) 4 a1:=KC.cell 4;have x5:C wr (X_ (Y_ w)+1) 5 a2:=KC.cell 5;clear V U HF G KC;go_wp2_with fail;refine HQ.mono ?_;rintro e w2 ⟨rfl,an⟩;have aB:=Hd (Hw.trans (an.mono Hw.size));go_wp2;go_ret;exact ⟨rfl,aB⟩
end Ta
end
end Go.Proofs.YtkidababfdehlaaGreatDoor
