/- Parts of the walk. -/
import Derived.Test.YtkidababfdehlaaGreatDoorQAa
import Derived.Lib.LazyBuf
import Derived.Lib.SlBytesConst
set_option linter.all false
set_option maxRecDepth 100000
set_option maxHeartbeats 64000000
namespace Go.Proofs.YtkidababfdehlaaGreatDoor
open Value renaming int -> I_,bool -> B_,string -> T_,slice -> S_,pointer -> P_,tuple -> U_,agg -> A_
open IntKind renaming i64 -> J_
open Ending renaming returned -> R_
open Option renaming some -> X_,none -> Y_
open Bool renaming true -> Y',false -> Z_
open Go renaming World -> Z',Calls -> WW,Addr -> WX
open _root_.Go.Proofs.Tryz renaming prog -> WY
open Go.World renaming setRow -> WZ
open BitVec renaming ofNat -> Xa,toNat_and -> Xd
open Go.Lib renaming run_eql_slice_nil -> Xb
open Go.RowKit.Below renaming refl -> Xc
open Mem renaming c_ -> Xe
variable {cs:Array Value} {a b:Bool} {xs:List Value} {B' c g k m n size:Nat} {fz:Nat×Nat} {A:Option WX} {e t:TypeId} {v:Value} {w w':Z'}
open _root_.Go.Proofs.Tryz Go.RowKit Bs
section
namespace fC
def tab (j:Nat):W:=Tn 4 (Xa 32 j)
def ek (k:Nat):Array Value:=((List.range 16).map λj=>if j<k then Value.int .u32 (n32 (tab j)) else .int .u32 0).toArray
def vt (k:Nat) (h:k<16):(ek k).setIfInBounds k (.int .u32 (n32 (tab k)))=ek (k+1):=by
 refine Array.ext_getElem? λi=>?_
 by_cases e:k=i
 .subst e
  simp [ek,h]
 .rw [Array.getElem?_setIfInBounds_ne e]
  obtain F|F:=Nat.lt_or_ge i 16
  .simp only [ek,List.getElem?_toArray,List.getElem?_map,List.getElem?_range F,Option.map_some]
   by_cases G:i<k
   .rw [if_pos G,if_pos o_]
   .rw [if_neg G,if_neg o_]
  .simp [ek,F]
def kr (k:Nat):(ek k).size=16:=by simp [ek]
def oA (k:Nat):(ek k).all (·.oneCell')=Y':=by
 simp only [ek,Array.all_eq_true_iff_forall_mem];intro v F;simp only [List.mem_toArray,List.mem_map] at F;obtain ⟨j,_,rfl⟩:=F;split<;>rfl
def vu (i:Nat) (h:i<16):(ek 16)[i]?=X_ (.int .u32 (n32 (tab i))):=by
 simp [ek,h]
def MR (n:Nat) (w:W):Tn (n+1) w=T (Tn n w):=by rw [EY];rfl
def WQ (w:W):(n32 (w&&&1#32)==1)=w.getLsbD 0:=by
 unfold n32;rw [Xd,BitVec.getLsbD];simp only [BitVec.toNat_ofNat,Nat.reducePow,Nat.reduceMod,Nat.and_one_is_mod,Nat.testBit_zero];by_cases h:w.toNat%2=1
 .simp [h]
 .have:w.toNat%2=0:=o_
  simp [this]
def UZ {w:W} (h:w.getLsbD 0=Y'):T w=(w>>>1)^^^3988292384#32:=by unfold T EX;rw [h];rfl
def RU {w:W} (h:w.getLsbD 0=Z_):T w=(w>>>1):=by unfold T;rw [h];simp
def Wg (x:W):bits .and .u32 (n32 x) 1=n32 (x&&&1#32):=Ob x 1#32
def U' (x:W):bits .and .u32 (n32 x) 15=n32 (x&&&15#32):=Ob x 15#32
def Wh (x:W):n32 x/(2:Int)=n32 (x>>>1):=zP x 1
def Wi (x:W):n32 x/(16:Int)=n32 (x>>>4):=zP x 4
def Wj (x:W):bits .xor .u32 (n32 x) 3988292384=n32 (x^^^3988292384#32):=zN x 3988292384#32
def Va (x:W):bits .xor .u32 (n32 x) 4294967295=n32 (x^^^lN):=zN x lN
def Wk {o:Obj}:Xe ((w.alloc o).alloc (.cells cs t)) (w.heap.size+1) t cs:=by
 have:=Mem.c_.new (w:=w.alloc o) (cs:=cs) (t:=t);have e:(w.alloc o).heap.size=w.heap.size+1:=by simp
 rw [e] at this;exact this
def MS (w:Z'):WW WY 372 #[] w λe w'=>e=R_ (A_ (ek 16))/\Bw w w':=by
 go_enter func372,ntmps372;go_wp2;go_loopw [5] (λvi wr=> ∃k:Nat,k<=16/\vi=I_ J_ k/\Bw w wr/\Xe wr w.heap.size 460 (ek 0)/\Xe wr (w.heap.size+1) 460 (ek k)) (λi _=>16 - (intOf i).toNat)
 .exact ⟨0,o_,rfl,(dL).alloc y_ _,Mem.c_.alloc Mem.c_.new,Wk⟩
 .obtain ⟨k,hk,rfl,hb,hR,hB⟩:=hrel
  by_cases hlt:k<16
  .go_wp2
   go_loop [3,10] (λv3 v10=> ∃j:Nat,j<=4/\v10=I_ J_ j/\v3= .int .u32 (n32 (Tn j (Xa 32 k)))) (λ_ i=>4 - (intOf i).toNat)
   .exact ⟨0,o_,rfl,by simp [Tn,n32];omega⟩
   .obtain ⟨j,hj,rfl,rfl⟩:=hrel
    by_cases hjt:j<4
    .have HS:=Hd (MR j (Xa 32 k))
     generalize Tn j (Xa 32 k)=y at*;let ⟨hy1,hy2⟩:=qJ y;let ⟨hs1,hs2⟩:=qJ (y>>>1);have f1:=Wh y;have f2:=Wj (y>>>1);have f3:=Wg y;have hl:=WQ y;generalize n32 y=Y at*;generalize n32 (y&&&1#32)=B at*;obtain ⟨Y1,hY1⟩: ∃Y1,n32 (y>>>1)=Y1:=⟨_,rfl⟩;obtain ⟨Y2,hY2⟩: ∃Y2,n32 ((y>>>1)^^^3988292384#32)=Y2:=⟨_,rfl⟩;rw [hY1] at f1 f2 hs1 hs2;rw [hY2] at f2;have H1:=Hd hY1;have H2:=Hd hY2;clear hY1 hY2;cases hy0:y.getLsbD 0 with
     |true=>
      have HT:=Hd (UZ hy0);rw [hy0] at hl;clear hy0;go_wp2
      go_round
      .exact ⟨j+1,o_,by go_num,by rw [HS.o,HT.o,H2.o]⟩
      .simp [intOf];omega
     |false=>
      have HT:=Hd (RU hy0);rw [hy0] at hl;clear hy0;go_wp2
      go_round
      .exact ⟨j+1,o_,by go_num,by rw [HS.o,HT.o,H1.o]⟩
      .simp [intOf];omega
    .obtain rfl:j=4:=o_
     have c0:wr.cell? ⟨w.heap.size+1,k,Y_⟩=X_ (.int .u32 0):=by rw [hB.cell];simp [ek,hlt]
     have cf:=hB.frozen k;have e4:Tn 4 (Xa 32 k)=tab k:=rfl;rw [e4];clear e4;go_wp2;go_roundw
     .refine ⟨k+1,o_,by go_num,hb.setCell y_ _,hR.fA y_,?_⟩
      have:=hB.eC k (.int .u32 (n32 (tab k)));rw [vt k hlt] at this;exact this
     .simp [intOf];omega
  .obtain rfl:k=16:=o_
   go_wp2_with (first
    |(refine wpList_load_row rfl _ _ rfl (w.heap.size+1) rfl _ (ek 16) _ _ hB underlying460 rfl k_ ?_)
    |(refine wpList_store_row rfl _ _ _ rfl w.heap.size (ek 16) rfl rfl _ _ hR k_ (by rw [kr,kr]) (oA _) ?_))
   have hlt0:=hR.lt;have hg:(wr.setRow w.heap.size (ek 16)).heap[w.heap.size]?=X_ (.cells (ek 16) 460 (0,0)):=by
    unfold Xe at hR;simp [WZ,Array.getElem?_modify,hR]
   refine bodyPost_ret (v:=A_ (ek 16)) (results_cell_row rfl _ _ w.heap.size _ (ek 16) _ _ rfl hg underlying460 rfl k_) rfl ⟨rfl,?_⟩;exact hb.trans ⟨rfl,rfl,rfl,by simp [WZ],λi hi=>by simp only [WZ,Array.getElem?_modify];rw [if_neg o_]⟩
def tH (x:W) (F:Xe w g t (ek 16)):
  ∃I T S:Int,bits .and .u32 (n32 x) 15=I/\0<=I/\I<=15/\w.cell? ⟨g,I.toNat,Y_⟩=X_ (.int .u32 T)/\n32 x/(16:Int)=S/\bits .xor .u32 T S=n32 (JG x):=by
 have h15:(x&&&15#32).toNat<=15:=by rw [Xd];exact Nat.and_le_right
 refine ⟨n32 (x&&&15#32),n32 (tab (x&&&15#32).toNat),n32 (x>>>4),U' x,(qJ _).1,by unfold n32;omega,?_,Wi x,?_⟩
 .rw [F.cell]
  have e:(n32 (x&&&15#32)).toNat=(x&&&15#32).toNat:=by unfold n32;omega
  rw [e];exact vu _ o_
 .rw [zN]
  congr 1
  unfold JG tab;rw [BitVec.ofNat_toNat];simp
abbrev Row:=Option WX×Nat×Nat×List dE
def Vb (w:Z') (B:Nat) (A:Option WX) (n:Nat) (L:List Row):Prop:=
 Mem.Sl w B 1 A n (L.map λx=>S_ x.1 x.2.1 x.2.2.1)/\ ∀x∈L,Bs w B x.1 x.2.1 x.2.2.2/\x.2.1<=9223372036854775807
def all (L:List Row):List dE:=L.flatMap (·.2.2.2)
def Vb.below {B:Nat} {L:List Row} (h:Vb w B A n L) (hb:Below B w w'):Vb w' B A n L:=
 ⟨h.1.below hb,λx hx=>⟨(h.2 x hx).1.below hb,(h.2 x hx).2⟩⟩
def MT (A:Option WX) (n c:Nat) (L:List Row) (w:Z') (aa:Vb w w.heap.size A n L) (hn:n<=9223372036854775807):
  WW WY 322 #[S_ A n c] w λe w'=>e=R_ (.int .u32 (n32 (of (all L))))/\Bw w w':=by
 have hLn:L.length=n:=by have:=aa.1.1;simpa using this
 go_enter func322,ntmps322;go_wp2_with (first
  |(go_at_call 372;refine (MS _).mono ?_;rintro e w1 ⟨rfl,X⟩)
  |(refine wpList_store_row rfl _ _ _ rfl w1.heap.size (ek 16) rfl rfl _ _ (heap_alloc_new _ _) k_ (by rw [kr];rfl) (oA _) ?_))
 have ao:=X.size;have hT:Xe ((w1.alloc (.cells (ek 0) 460)).setRow w1.heap.size (ek 16)) w1.heap.size 460 (ek 16):=setRow_heap _ _ _ _ _ _ (heap_alloc_new _ _);have U:Bw w ((w1.alloc (.cells (ek 0) 460)).setRow w1.heap.size (ek 16)):=
  (X.alloc ao _).trans ⟨rfl,rfl,rfl,by simp [WZ],λi hi=>setRow_other _ _ _ _ o_⟩
 have hR:=aa.below U;rw [show (ek 0)= #[Value.int IntKind.u32 0,.int .u32 0,.int .u32 0,.int .u32 0,.int .u32 0,.int .u32 0,.int .u32 0,.int .u32 0,.int .u32 0,.int .u32 0,.int .u32 0,.int .u32 0,.int .u32 0,.int .u32 0,.int .u32 0,.int .u32 0] from rfl] at hT U hR;generalize WZ _ _ _=wt at*;generalize w1.heap.size=g at*;clear X aa
 go_loop [4,12] (λv4 am=> ∃k:Nat,k<=n/\am=I_ J_ k/\v4= .int .u32 (n32 (xW lN (all (L.take k))))) (λ_ i=>n - (intOf i).toNat)
 .exact ⟨0,o_,rfl,rfl⟩
 .obtain ⟨k,hk,rfl,rfl⟩:=hrel
  by_cases av:k<n
  .obtain ⟨ad,hl,rfl,ag,hc⟩:=hR.1.at_ av
   have O:k<L.length:=o_;let ⟨G,ah⟩:=hR.2 _ (g_ O);have V:Hid (all (L.take (k+1))=all (L.take k)++L[k].2.2.2):=by
    show all _=_
    unfold all;rw [Mem.dQ _ _ O,List.flatMap_append];simp
   rw [List.getElem_map] at hc;generalize all (L.take k)=pre at*;let ⟨ab,F⟩:=nm (all (L.take (k+1)));rw [<-F] at V;have ac:=Hd F;clear F;generalize L[k]=x at*;obtain ⟨A',n',c',bs⟩:=x;simp only at hc G ah V;go_wp2
   go_loop [4,18] (λv4 ai=> ∃j:Nat,j<=n'/\ai=I_ J_ j/\v4= .int .u32 (n32 (xW lN (pre++bs.take j)))) (λ_ i=>n' - (intOf i).toNat)
   .exact ⟨0,o_,rfl,by simp⟩
   .obtain ⟨j,hj,rfl,rfl⟩:=hrel
    by_cases al:j<n'
    .obtain ⟨ad2,b,an,rfl,_,af,hcb⟩:=G.at_ al
     have HS:Hid (xW lN (pre++bs.take (j+1))=JG (JG (xW lN (pre++bs.take j)^^^b.setWidth 32))):=by
      show xW _ _=_
      rw [Mem.dQ _ _ an,af,<-List.append_assoc,yr _ (pre++bs.take j),<-Cd];rfl
     clear af;generalize xW lN (pre++bs.take j)=st at*;let ⟨b0,b1⟩:=lO b;let ⟨s0,s1⟩:=qJ st;have f1:bits .xor .u32 (n32 st) (n8 b)=n32 (st^^^b.setWidth 32):=by rw [<-TH];exact zN _ _
     generalize st^^^b.setWidth 32=x1 at*;let ⟨I,T,S,g1,g2,g3,g4,g5,g6⟩:=tH x1 hT;generalize JG x1=x2 at*;let ⟨I2,T2,S2,k1,k2,k3,k4,k5,k6⟩:=tH x2 hT;generalize JG x2=x3 at*;generalize n32 st=X0 at*;generalize n32 x1=X1 at*;generalize n32 x2=X2 at*;let ⟨X3,ae⟩:=nm (n32 x3);rw [<-ae] at k6;have ap:=Hd ae;clear ae;go_wp2
     go_round
     .exact ⟨j+1,o_,by go_num,by rw [HS.o,ap.o]⟩
     .simp [intOf];omega
    .obtain rfl:j=n':=o_
     have ak:=G.len;have HS:Hid (xW lN (pre++bs.take j)=xW lN ab):=by
      show xW _ _=_
      rw [V.o,t_ o_]
     clear ak;rw [HS.o];go_wp2
     go_round
     .exact ⟨k+1,o_,by go_num,by rw [ac.o]⟩
     .simp [intOf];omega
  .obtain rfl:k=n:=o_
   have f1:=Va (xW lN (all (L.take k)));rw [t_ o_] at*;have f2:Hid (xW lN (all L)^^^lN=of (all L)):=rfl;rw [f2.o] at f1;go_wp2;go_ret;exact ⟨rfl,U⟩
def QA (A:Option WX) (n c:Nat) (bs:List dE) (w:Z') (h:Bs w w.heap.size A n bs) (hn:n<=9223372036854775807):
  WW WY 257 #[S_ A n c] w λe w'=>e=R_ (.int .u32 (n32 (of bs)))/\Bw w w':=by
 have G:all [(A,n,c,bs)]=bs:=by simp [all]
 go_enter func257,ntmps257;go_wp2_with fail;refine (MT _ 1 1 [(A,n,c,bs)] _ ⟨(Mem.gV (n:=1) (xs:=[S_ A n c]) rfl y_ rfl).more y_,λx F=>?_⟩ d_).mono ?_
 .simp at F
  subst F;exact ⟨(h.alloc l_ _).more y_,hn⟩
 .rw [G]
  rintro e w' ⟨rfl,I⟩;go_wp2;go_ret;exact ⟨rfl,(dL).trans (I.mono y_)⟩
def NZ:Mem.El WY 65 5 (.int .u8 0) 1 1:=⟨underlying65,k_,rfl,d_⟩
abbrev Own (w:Z') (B:Nat) (A:Option WX) (n c:Nat) (bs:List dE):Prop:=w.ownsRow B 5 1 (S_ A n c) n (bs.map bv)
def Own.bs {B:Nat} {bs:List dE} (h:Own w B A n c bs):Bs w w.heap.size A n bs:=by
 let ⟨A',c',e,hs,_⟩:=Mem.nE h;obtain ⟨rfl,_,rfl⟩:A=A'/\n=n/\c=c':=by simpa using e
 exact hs
def vw (n:Nat) (bs:List dE) (W:Z') (e:Ending) (w':Z'):Prop:= ∃A' c',e=R_ (S_ A' n c')/\Own w' W.heap.size A' n c' bs/\Bw W w'
def iR (A:Option WX) (n c:Nat) (bs:List dE) (w:Z') (h:Bs w w.heap.size A n bs) (hn:n<=140737488355328):
  WW WY 27 #[S_ A n c] w (vw n bs w):=by
 obtain _|ad:=A
 .have h0:n=0:=by
   obtain h0|h0:=Nat.eq_zero_or_pos n
   .exact h0
   .let ⟨_,e,_⟩:=h.2 h0;cases e
  subst h0;have X:=List.eq_nil_of_length_eq_zero (by have:=h.len;omega);subst X;have U:=Xb (P:=WY) w 65 5 Y_ 0 c 0 0 underlying65;go_enter func27,ntmps27;go_wp2;go_ret;exact ⟨Y_,0,rfl,Mem.qb,Xc _ _⟩
 .have U:=Xb (P:=WY) w 65 5 (X_ ad) n c 0 0 underlying65
  go_enter func27,ntmps27;go_wp2_with (at_builtin;refine Mem.dS rfl rfl NZ (base:=w.heap.size) (Mem.Ka y_ o_ y_ rfl rfl) rfl rfl (Mem.Sl.alloc h l_ _) (Fe _) (N:=n) (ys:=bs.map bv) o_ y_ e_ o_ y_ ?_;intro A2 c2 w2 F I O)
  go_ret;exact ⟨A2,c2,rfl,F,(dL).grown I y_ (by intro k V;simp [Value.ownBlock] at V;omega)⟩
def rJ (h:a=b):Ending.returned (B_ a)=R_ (B_ b):=by rw [h]
def MU (A A2:Option WX) (n c m d B B2:Nat) (xs bs:List dE) (w:Z') (h:Bs w B A n xs) (h2:Bs w B2 A2 m bs) (hn:n<=9223372036854775807) (hm:m<=9223372036854775807):
  WW WY 205 #[S_ A n c,S_ A2 m d] w λe w'=>e=R_ (B_ (decide (xs=bs)))/\Bw w w':=by
 have V:=h.len;have U:=h2.len;by_cases ab:n=m
 .subst ab
  have al:=Hd V;have ai:=Hd U;clear V U;go_enter func205,ntmps205;go_wp2;go_loopw [13] (λvi wr=> ∃k:Nat,k<=n/\vi=I_ J_ k/\Bw w wr/\Bs wr B A n xs/\Bs wr B2 A2 n bs/\xs.take k=bs.take k) (λi _=>n - (intOf i).toNat)
  .exact ⟨0,o_,rfl,Xc _ _,h,h2,rfl⟩
  .obtain ⟨k,hk,rfl,hb,h3,h4,(af:Hid _)⟩:=hrel
   by_cases ag:k<n
   .obtain ⟨ad,a,ah,rfl,_,X,hac⟩:=h3.at_ ag
    obtain ⟨ad2,b,ak,rfl,_,(I:Hid _),hbc⟩:=h4.at_ ag;have ac:=Hd X;clear X;by_cases G:a=b
    .have hx:(n8 a !=n8 b)=Z_:=by simp [G]
     have O:Hid (xs.take (k+1)=bs.take (k+1)):=by
      show _=_
      rw [Mem.dQ _ _ ah,Mem.dQ _ _ ak,af.o,ac.o,I.o,G]
     clear G;go_wp2
     go_quiet (fail)
     go_wp2;go_roundw
     .exact ⟨k+1,o_,by go_num,Mem.below_drewN hb _,h3.drewN _,h4.drewN _,O⟩
     .simp [intOf];omega
    .have hx:(n8 a !=n8 b)=Y':=by simp;exact λe=>G (qK e)
     have F:Hid (decide (xs=bs)=Z_):=by
      show _=_
      simp only [decide_eq_false_iff_not];intro e;subst e;rw [ac.o] at I;exact G I
     clear G;go_wp2
     go_quiet (fail)
     go_wp2;go_ret;exact ⟨rJ F.symm,Mem.below_drewN hb _⟩
   .obtain rfl:k=n:=o_
    have F:Hid (decide (xs=bs)=Y'):=by
     show _=_
     have:=af.o;rw [t_ (by have:=al.o;omega),t_ (by have:=ai.o;omega)] at this;simp [this]
    go_wp2;go_ret;exact ⟨rJ F.symm,hb⟩
 .have hne:((n:Int) !=m)=Y':=by simp;omega
  have F:Hid (decide (xs=bs)=Z_):=by
   show _=_
   simp only [decide_eq_false_iff_not];rintro rfl;omega
  clear ab V U;go_enter func205,ntmps205;go_wp2;go_ret;exact ⟨rJ F.symm,Xc _ _⟩
def ib {B:Nat} (h:w.ownsRow B e size v n xs) (X:Below B' w w') (hB:w.heap.size<=B'):w'.ownsRow B e size v n xs:=by
 exact NO
def lg {B:Nat} (h:w.ownsRow B' e size v n xs) (hb:B<=B'):w.ownsRow B e size v n xs:=by
 exact NQ
def b0 (x:W):IntKind.u8.wrap (n32 x)=n8 (x.setWidth 8):=by
 unfold n32 n8;rw [BitVec.toNat_setWidth];exact Ff
def bk (x:W) (k:Nat):IntKind.u8.wrap (n32 x/(2^k:Nat))=n8 ((x>>>k).setWidth 8):=by rw [zP];exact b0 _
def Ax (A:Option WX) (n c:Nat) (bs:List dE) (w:Z') (h:Bs w w.heap.size A n bs) (hn:n<=140737488355324):
  WW WY 206 #[S_ A n c] w (vw (n+4) (put bs) w):=by
 have hln:=h.len;go_enter func206,ntmps206;go_wp2_with fail;refine (QA A n c bs _ h o_).mono ?_;rintro e w1 ⟨rfl,ab⟩;have h1:=h.below ab;have ac:=ab.size;go_wp2_with fail;refine (iR A n c bs _ (h1.more ac) o_).mono ?_;rintro e w2 ⟨A2,c2,rfl,ag,ae⟩;have hz2:=ae.size;have k0:=b0 (of bs);have F:=bk (of bs) 8;have I:=bk (of bs) 16;have U:=bk (of bs) 24;have V:Hid (bs.map bv++[.int .u8 (n8 ((of bs).setWidth 8)),.int .u8 (n8 ((of bs>>>8).setWidth 8)),.int .u8 (n8 ((of bs>>>16).setWidth 8)),.int .u8 (n8 ((of bs>>>24).setWidth 8))]=(put bs).map bv):=by
  show _=_
  unfold put;rw [List.map_append];rfl
 generalize n8 ((of bs).setWidth 8)=y0 at*;generalize n8 ((of bs>>>8).setWidth 8)=y1 at*;generalize n8 ((of bs>>>16).setWidth 8)=y2 at*;generalize n8 ((of bs>>>24).setWidth 8)=y3 at*;generalize n32 (of bs)=X at*;have e1:((2^8:Nat):Int)=256:=d_;have G:((2^16:Nat):Int)=65536:=d_;have O:((2^24:Nat):Int)=16777216:=d_;rw [e1] at F;rw [G] at I;rw [O] at U;clear e1 G O;go_wp2_with (at_builtin;refine Mem.dS rfl rfl NZ (base:=w1.heap.size) (ag.alloc _) rfl rfl (Mem.gV (n:=4) (xs:=[.int .u8 y0,.int .u8 y1,.int .u8 y2,.int .u8 y3]) rfl rfl rfl) v_ (N:=n+4) (ys:=(put bs).map bv) o_ V e_ o_ z_ ?_;intro A3 c3 w3 ah aa af)
 go_ret;refine ⟨A3,c3,rfl,lg ah ac,?_⟩;exact ((ab.trans (ae.mono ac)).alloc o_ _).grown aa z_ (λk hk=>by have:=(ag.lt k hk).1;omega)
def jY (bs:List dE):Bool:=decide (4<=bs.length)&&decide (put (bs.take (bs.length - 4))=bs)
def MV (n:Nat) (bs:List dE) (W:Z') (e:Ending) (w':Z'):Prop:=
 ∃A' n' c',e=R_ (U_ #[S_ A' n' c',B_ (jY bs)])/\n'=(if jY bs then n - 4 else 0)/\Own w' W.heap.size A' n' c' (if jY bs then bs.take (n - 4) else [])/\Bw W w'
def II (A:Option WX) (n c:Nat) (bs:List dE) (w:Z') (h:Bs w w.heap.size A n bs) (hn:n<=140737488355328) (hnc:n<=c) (hc:c<=maxLen):
  WW WY 144 #[S_ A n c] w (MV n bs w):=by
 unfold maxLen at hc;have ac:=h.len;have ag:=Hd ac;clear ac;by_cases h4:n<4
 .have U:Hid (jY bs=Z_):=by show _=_;unfold jY;rw [ag.o];simp;omega
  go_enter func144,ntmps144;go_wp2
  go_ret2
  exact ⟨Y_,0,0,by rw [U.o];rfl,by rw [U.o];rfl,by rw [U.o];exact Mem.qb,Xc _ _⟩
 .obtain ⟨m,rfl⟩: ∃m,n=m+4:=⟨n - 4,o_⟩
  have ae:Bs w w.heap.size A m (bs.take m):=by
   exact Pf
  have ai:Hid (jY bs=decide (put (bs.take m)=bs)):=by
   show _=_;unfold jY;rw [ag.o];simp
  obtain _|ad:=A
  .let ⟨_,e,_⟩:=h.2 o_;cases e
  .go_enter func144,ntmps144
   go_wp2_with fail;refine (iR (X_ ad) m c (bs.take m) _ ae o_).mono ?_;rintro e w1 ⟨A2,c2,rfl,I,ah⟩;have ak:=ah.size;go_wp2_with fail;refine (Ax A2 m c2 (bs.take m) _ I.bs o_).mono ?_;rintro e w2 ⟨A3,c3,rfl,V,O⟩;have hz2:=O.size;have ab:=ib I O l_;have G:=ah.trans (O.mono ak);go_wp2_with fail;refine (MU A3 (X_ ad) (m+4) c3 (m+4) c _ _ (put (bs.take m)) bs _ V.bs (h.below G) o_ o_).mono ?_;rintro e w3 ⟨rfl,af⟩;have aa:=ib ab af l_;have F:=G.trans (af.mono o_);rw [<-ai.o];cases hcok:jY bs with
   |true=>
    have X:=Hd hcok;clear hcok;go_wp2
    go_ret2
    refine ⟨A2,m,c2,by rw [X.o];rfl,by rw [X.o];rfl,?_,F⟩;rw [X.o];exact aa
   |false=>
    have X:=Hd hcok;clear hcok;go_wp2
    go_ret2
    refine ⟨Y_,0,0,by rw [X.o];rfl,by rw [X.o];rfl,?_,F⟩;rw [X.o];exact Mem.qb
def Bs.front {B:Nat} {bs:List dE} (h:Bs w B A (m+k) bs):Bs w B A m (bs.take m):=by
 exact Pf
def yv {bs:List dE} (h:bs.length=m+4):jY bs=decide (put (bs.take m)=bs):=by unfold jY;rw [h];simp
def pV (A:Option WX) (n c:Nat) (bs:List dE) (w:Z') (h:Bs w w.heap.size A n bs) (hn:n<=140737488355328) (I:n<=c) (hc:c<=maxLen) (G:jY bs=Y'):
  WW WY 144 #[S_ A n c] w λe w'=> ∃A' c',e=R_ (U_ #[S_ A' (n - 4) c',B_ Y'])/\Own w' w.heap.size A' (n - 4) c' (bs.take (n - 4))/\Bw w w':=by
 refine (II A n c bs w h hn I hc).mono ?_;rintro e w' ⟨A',n',c',U,F,O,V⟩;rw [G] at U F O;simp only [if_true] at F O;subst F;exact ⟨A',c',U,O,V⟩
def RY {bs:List dE} (hn:cs.size=n) (h:cs.toList=bs.map bv):Bs (w.alloc (.cells cs t fz)) (w.alloc (.cells cs t fz)).heap.size (X_ ⟨w.heap.size,0,Y_⟩) n bs:=
 (Mem.gV (n:=n) (xs:=bs.map bv) rfl o_ h).more y_
def RZ {bs:List dE} (hg:w.heap.size=g) (hn:cs.size=n) (h:cs.toList=bs.map bv):Bs (w.alloc (.cells cs t fz)) (g+1) (X_ ⟨g,0,Y_⟩) n bs:=
 Mem.gV (n:=n) (xs:=bs.map bv) hg o_ h
def Own.le {B:Nat} {bs:List dE} (h:Own w B A n c bs):n<=c/\c<=maxLen:=by
 exact NM
def Own.at_ {B:Nat} {bs:List dE} (h:Own w B A n c bs) (hk:k<n):
  ∃(g:Nat) (b:dE) (F:k<bs.length),A=X_ ⟨g,0,Y_⟩/\B<=g/\g<w.heap.size/\bs[k]=b/\w.cell? ⟨g,k,Y_⟩=X_ (.int .u8 (n8 b))/\w.frozen? ⟨g,k,Y_⟩=Z_/\
   ∀y:dE,Own (w.setCell ⟨g,k,Y_⟩ (.int .u8 (n8 y))) B A n c (bs.set k y):=by
 have F:k<bs.length:=by have:=h.1;simp at this;omega
 obtain ⟨_,h0⟩|⟨g,cap,cur,G,O,I,_⟩:=h.2
 .omega
 .simp only [Value.slice.injEq,true_and] at G
  obtain ⟨rfl,rfl⟩:=G;refine ⟨g,bs[k],F,rfl,O,(Array.getElem?_eq_some_iff.1 I).1,rfl,?_,World.ownsRow.frozenAt h k,λy=>?_⟩
  .rw [World.ownsRow.cellAt h k o_]
   simp [bv,n8,F]
  .have:=(World.ownsRow.stored h k (.int .u8 (n8 y))).1
   rw [show (bs.map bv).set k (.int .u8 (n8 y))=(bs.set k y).map bv from by rw [List.map_set];rfl] at this;exact this
end fC
end
end Go.Proofs.YtkidababfdehlaaGreatDoor
