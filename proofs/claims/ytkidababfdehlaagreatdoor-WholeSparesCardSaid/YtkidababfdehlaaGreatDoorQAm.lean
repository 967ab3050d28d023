/- Parts of the walk. -/
import Derived.Test.YtkidababfdehlaaGreatDoorQAl
set_option linter.all false
set_option maxRecDepth 100000
set_option maxHeartbeats 64000000
namespace Go.Proofs.YtkidababfdehlaaGreatDoor
open Value renaming int -> I_,bool -> B_,string -> T_,slice -> S_,pointer -> P_,tuple -> U_,agg -> A_
open IntKind renaming i64 -> J_
open Ending renaming returned -> R_
open Option renaming some -> X_,none -> Y_
open Go renaming World -> Y',Value -> Z_,Calls -> Z',Addr -> WW
open Go.RowKit renaming Hid -> WX
open _root_.Go.Proofs.Tryz renaming prog -> WY
open Mem.c_ renaming new -> WZ
open Mem renaming c_ -> Xa
open Go.Ending renaming returned -> Xb
open Dk renaming look -> Xc
open Go.IntKind renaming signed -> Xd
variable {fJ name:ByteArray} {kind v:Int} {F G c g l n:Nat} {I:Option WW} {q:Prop} {w:Y'}
open _root_.Go.Proofs.Tryz Go.RowKit
section
open Bs
namespace fC
def DH:Bs.strOf mQ=⟨#[66,76,71,49]⟩:=rfl
def Own.IM {B:Nat} {bs:List dE} (h:Own w B (X_ ⟨g,0,Y_⟩) n c bs) (F:l<=n):Bs w w.heap.size (X_ ⟨g,l,Y_⟩) (n - l) (bs.drop l):=by
 have:=Bs.cut h.bs F (Nat.le_refl n);rw [t_ (by have:=h.bs.len;omega)] at this;simp only [Option.map_some,Mem.iO] at this;exact this
def RW (n:Nat) (b:List dE) (W:Y') (e:Ending) (w':Y'):Prop:=
 ∃A' c',e=R_ (U_ #[I_ J_ (jM b),S_ A' (n - 16) c',I_ J_ 0])/\Bs w' w'.heap.size A' (n - 16) (eQ b)/\(0<n - 16-> ∃g cc,A'=X_ ⟨g,12,Y_⟩/\Own w' W.heap.size (X_ ⟨g,0,Y_⟩) (n - 4) cc (fT b)/\c'=cc - 12)/\Bw W w'
def Pg {p:Prop} (k:q) (h:Wq q->p:=by
 intro kq;go_upto_region 4 with fail;refine dm.start (S:=(λ_=>True)) k_ ?_;refine dm.tg 4 trivial [0,1,3,4] ?_;refine dm.on 2 3 ?_;refine dm.cl ?_;refine U.mono ?_;rintro e w3 ⟨rfl,I⟩;refine ⟨_,rfl,trivial,?_⟩;refine dm.tg 0 trivial [5,6,7] ?_;refine dm.fi ?_;go_wp2
 revert w3 I
 exact kq.o):p:=h ⟨k⟩
def ES (A:Option WW) (n c:Nat) (b:List dE) (w:Y') (h:Bs w w.heap.size A n b) (hn:n<=140737488355328) (ar:n<=c) (hc:c<=maxLen) (hf:ji b=true):
  Z' WY 84 #[S_ A n c] w (RW n b w):=by
 have X:=h.len;have V:=hf;unfold ji at V;simp only [Bool.and_eq_true,decide_eq_true_eq] at V;obtain ⟨⟨⟨⟨(K1:WX _),k2⟩,(K3:WX _)⟩,k4⟩,k5⟩:=V;rw [X] at k2 k4 k5;obtain ⟨m,rfl⟩: ∃m,n=m+16:=⟨n - 16,o_⟩;have K4:WX (jy (((fT b).drop 8).take 4)=(m:Int)):=by show _=_;have:lenOf b=jy (((fT b).drop 8).take 4):=rfl;rw [<-this,k4];omega
 have ab:WX (b.take (m+12)=fT b):=by show _=_;unfold fT;rw [X];rfl
 clear k4 X hf;go_enter func84,ntmps84;go_wp2_with fail;refine (pV A (m+16) c b _ h hn ar hc K1).mono ?_;rintro e w1 ⟨A1,c1,rfl,ak,ae⟩;have O1:Own w1 w.heap.size A1 (m+12) c1 (fT b):=by have:=ak;rw [show m+16 - 4=m+12 from o_,ab.o] at this;exact this
 have z1:=ae.size;have ac:=O1.le;unfold maxLen at ac;obtain ⟨g,_,_,rfl,hg1,ah,_,_,_,_⟩:=O1.at_ (k:=0) o_;have q1:=nI (P:=WY) (c:=c1) (Bs.front (m:=4) (k:=m+8) (by have:=O1.bs;rw [show 4+(m+8)=m+12 from o_];exact this)) (src:=65) (e:=5) (dst:=9) underlying65 underlying5 underlying9;rw [K3.o,DH] at q1;have ai:m+16 - 4=m+12:=o_;have hca:m+12<=c1:=ac.1;have hcb:c1<=9223372036854775807:=o_;clear ak ac;rw [ai];clear ai;go_wp2_with fail;refine (gM ⟨g,8,Y_⟩ (m+4) (c1 - 8) ((fT b).drop 8) _ o_ o_ o_ ?hs1 ah).mono ?_
 .have:=Own.IM O1 (l:=8) o_
  rw [show m+12 - 8=m+4 from o_] at this;exact this
 rw [K4.o];rintro e w2 ⟨rfl,G⟩;have O2:Own w2 w.heap.size (X_ ⟨g,0,Y_⟩) (m+12) c1 (fT b):=ib O1 G l_;have L2:Bw w w2:=ae.trans (G.mono z1);have ao:g<w2.heap.size:=by have:=G.size;omega
 clear ae G O1 q1 ah z1;have O:Z' WY 145 #[S_ (X_ ⟨g,4,Y_⟩) (m+8) (c1 - 4)] w2.drew λe W'=>e=R_ (I_ J_ (jM b))/\Below w2.drew.heap.size w2.drew W':=gM ⟨g,4,Y_⟩ (m+8) (c1 - 4) ((fT b).drop 4) w2.drew o_ o_ o_ (by have:=Own.IM O2 (l:=4) o_;rw [show m+12 - 4=m+8 from o_] at this;exact this) ao
 have U:=Hd O;clear O;obtain ap|ap:=Nat.lt_or_ge 12 c1
 .have h4:(4:Int)<=(m:Int)+12:=o_
  have h12:(12:Int)<=(m:Int)+12:=o_;have h4c: ¬c1=4:=o_;have au: ¬c1=12:=o_;have hcz:(m:Int)+12<=(c1:Int):=o_;refine Pg ?_;intro w3 I;refine bodyPost_ret (v:=U_ #[I_ J_ (jM b),S_ (X_ ⟨g,12,Y_⟩) m (c1 - 12),I_ J_ 0]) (by simp [results,results84,go_sem]) rfl ?_;have O3:Own w3 w.heap.size (X_ ⟨g,0,Y_⟩) (m+12) c1 (fT b):=ib (World.ownsRow.drew O2) I l_;refine ⟨X_ ⟨g,12,Y_⟩,c1 - 12,rfl,?_,λ_=>⟨g,c1,rfl,O3,rfl⟩,(L2.drew).trans (I.mono L2.size)⟩;have q:=Own.IM O3 (l:=12) o_;rw [show m+12 - 12=m+16 - 16 from o_] at q;exact q
 .obtain rfl:m=0:=o_
  obtain rfl:c1=12:=o_;have ag:eQ b=[]:=by
   unfold eQ;exact List.drop_eq_nil_of_le (by have:=O2.bs.len;omega)
  have am:=Hd ag;clear ag;refine Pg ?_;intro w3 I;refine bodyPost_ret (v:=U_ #[I_ J_ (jM b),S_ (X_ ⟨g,0,Y_⟩) 0 0,I_ J_ 0]) (by simp [results,results84,go_sem]) rfl ?_;refine ⟨X_ ⟨g,0,Y_⟩,0,rfl,by rw [am.o];exact Bs.nil,λh=>absurd h o_,(L2.drew).trans (I.mono L2.size)⟩
end fC
end
section
open Go.Maps
namespace Ck
open Dk Bs
open fC (dE)
def one (g:Nat) (s:Ds):BQ:=oH (λ_=>Y_) 1 (g,s)
def zJ (g:Nat) (s:Ds):one g s 1=X_ (g,s):=qF _ _ _
def TE (g:Nat) (s:Ds):one g s 9=Y_:=rfl
def ET (g:Nat) (s s':Ds):oH (one g s) 1 (g,s')=one g s':=Ko _ _ _ _
structure Rw (w:Y') (b':Nat->Nat) (A:Option WW) (n:Nat) (bs:List dE):Prop where
 bs:Bs w w.heap.size A n bs
 own:0<n-> ∃g off cur,A=X_ ⟨g,off,Y_⟩/\Xa w g 5 cur/\b' g=9
abbrev KL:=List (Nat×TypeId×Array Z_)
abbrev RL:=List (Option WW×Nat×List dE)
structure SG (W w:Y') (b':Nat->Nat) (g:Nat) (s:Ds) (K:KL) (R:RL):Prop where
 fm:Fm W w b' (one g s)
 kb: ∀x∈K,Xa w x.1 x.2.1 x.2.2/\b' x.1=9
 P': ∀x∈R,Rw w b' x.1 x.2.1 x.2.2
def CK (W w:Y') (g:Nat) (s:Ds) (K:KL) (R:RL):Prop:= ∃b',SG W w b' g s K R
section
variable {W w w':Y'} {b' col':Nat->Nat} {g n c b N:Nat} {s s':Ds} {K K':KL} {R R':RL} {A:Option WW} {bs:List dE} {t:TypeId} {cs:Array Z_}
def Rw.dy (h:Rw w b' A n bs) (hz:w.heap.size<=w'.heap.size) (V: ∀k,k<w.heap.size->b' k=9->w'.heap[k]?=w.heap[k]?) (hc: ∀k,k<w.heap.size->b' k=9->col' k=9):Rw w' col' A n bs:=by
 refine ⟨⟨h.bs.1,λhn=>?_⟩,λhn=>?_⟩
 .let ⟨ad,e,hb,U⟩:=h.bs.2 hn
  let ⟨g,off,F,I,G,O⟩:=h.own hn;rw [e] at I;cases I;refine ⟨_,e,o_,U.dy λp X=>?_⟩;have:=V g G.lt O;unfold World.cell?;rw [X,this]
 .let ⟨g,off,F,I,G,O⟩:=h.own hn
  exact ⟨g,off,F,I,(V g G.lt O).trans G,hc g G.lt O⟩
def Rw.yo (h:lh w A n c bs) (hc: ∀k,Ro.dr A=X_ k->b' k=9):Rw w b' A n bs:=by
 refine ⟨h.sl,λhn=>?_⟩;obtain ⟨g,off,rfl⟩:=h.fe (by have:=h.le.1;omega);let ⟨F,G⟩:=h.type (g:=g) rfl;exact ⟨g,off,F,rfl,G,hc g rfl⟩
def SG.below (h:SG W w b' g s K R) (hb:Bw w w'):SG W w' (λk=>if k<w.heap.size then b' k else 9) g s K R:=
 ⟨h.fm.below hb (λ_=>9),λx hx=>⟨(h.kb x hx).1.a_ hb,(if_pos (h.kb x hx).1.lt).trans (h.kb x hx).2⟩,λx hx=>(h.P' x hx).dy hb.size (λk hk _=>hb.block k hk) (λk hk e=>(if_pos hk).trans e)⟩
def CK.below (h:CK W w g s K R) (F:Bw w w'):CK W w' g s K R:=by
 let ⟨b',h⟩:=h;exact ⟨_,h.below F⟩
def CK.yn (h:CK W w g s K R) (O:Bw w w') (I:Xa w' b t cs) (hn:w.heap.size<=b):CK W w' g s ((b,t,cs)::K) R:=by
 let ⟨b',h⟩:=h;have F:=h.below O;refine ⟨_,F.fm,λx G=>?_,F.P'⟩;obtain rfl|G:=p_ G
 .exact ⟨I,if_neg (by show¬b<_;omega)⟩
 .exact F.kb x G
def CK.kt (h:CK W w g s K R) (X:Bw w w') (V:Bs w' w'.heap.size A n bs) (hn:0<n-> ∃g off F,A=X_ ⟨g,off,Y_⟩/\Xa w' g 5 F/\w.heap.size<=g):CK W w' g s K ((A,n,bs)::R):=by
 let ⟨b',h⟩:=h;have G:=h.below X;refine ⟨_,G.fm,G.kb,λx I=>?_⟩;obtain rfl|I:=p_ I
 .refine ⟨V,λU=>?_⟩
  let ⟨q,off,F,e,O,e3⟩:=hn U;exact ⟨q,off,F,e,O,if_neg o_⟩
 .exact G.P' x I
def CK.Qa (h:CK W w g s K R) (hb:Bw w w') (hB:lh w' A n c bs) (hn: ∀k,Ro.dr A=X_ k->w.heap.size<=k):CK W w' g s K ((A,n,bs)::R):=
 h.kt hb hB.sl λh0=>by
  obtain ⟨q,off,rfl⟩:=hB.fe (by have:=hB.le.1;omega);let ⟨cur,hq⟩:=hB.type (g:=q) rfl;exact ⟨q,off,cur,rfl,hq,hn q rfl⟩
def CK.sub (h:CK W w g s K R) (I: ∀x∈K',x∈K) (G: ∀x∈R',x∈R):CK W w g s K' R':=by
 let ⟨b',h⟩:=h;exact ⟨b',h.fm,λx F=>h.kb x (I x F),λx F=>h.P' x (G x F)⟩
def CK.dr (h:CK W w g s K R) (F:(b,t,cs)∈K):Xa w b t cs:=by
 let ⟨b',h⟩:=h;exact (h.kb _ F).1
def CK.row (h:CK W w g s K R) (F:(A,n,bs)∈R):Bs w w.heap.size A n bs:=by
 let ⟨b',h⟩:=h;exact (h.P' _ F).bs
def CK.set (h:CK W w g s K R) (i:Nat) (u:Z_) (hx:(b,t,cs)∈K) (hK: ∀x∈K',x∈K/\x.1≠b) (ht:t≠5):CK W (w.setCell ⟨b,i,Y_⟩ u) g s ((b,t,cs.setIfInBounds i u)::K') R:=by
 let ⟨b',h⟩:=h;have hb:=h.kb _ hx;have U:b' b=9:=hb.2;have ho:=Ro.dt.setCell w ⟨b,i,Y_⟩ u;refine ⟨b',h.fm.put ho (j:=9) (λk hk=>?_) (TE _ _) d_,λx F=>?_,λx F=>?_⟩
 .have ac:k=b:=hk
  rw [ac];exact U
 .obtain rfl|F:=p_ F
  .exact ⟨hb.1.eC i u,U⟩
  .let ⟨G,h2⟩:=hK x F
   exact ⟨(h.kb x G).1.fA h2,(h.kb x G).2⟩
 .have X:=h.P' x F
  refine ⟨⟨X.bs.1,λhn=>?_⟩,λhn=>?_⟩
  .let ⟨ad,e,af,ae⟩:=X.bs.2 hn
   let ⟨q,off,V,e2,I,U⟩:=X.own hn;rw [e] at e2;cases e2;have O:q≠b:=by
    rintro rfl;have G:=hb.1;unfold Xa at G I;rw [G] at I;cases I;exact ht rfl
   refine ⟨_,e,by simpa using af,ae.dy λp hp=>?_⟩;have:=Below.heap_setCell w ⟨b,i,Y_⟩ u q O;unfold World.cell?;rw [hp,this]
  .let ⟨q,off,V,e2,I,U⟩:=X.own hn
   have O:q≠b:=by
    rintro rfl;have G:=hb.1;unfold Xa at G I;rw [G] at I;cases I;exact ht rfl
   exact ⟨q,off,V,e2,I.fA O,U⟩
def SG.after (h:SG W w b' g s K R) (V:qG W w b' (one g s) 1 g s' w'):CK W w' g s' K R:=by
 obtain ⟨col',hc,U,I⟩:=V;rw [ET] at U;have G: ∀k,b' k=9-> ¬(λk=>b' k=1) k:=λk e z=>by
  have z':b' k=1:=z;rw [e] at z';cases z'
 exact ⟨col',U,λx F=>⟨(I.block x.1 (h.kb x F).1.lt (G _ (h.kb x F).2)).trans (h.kb x F).1,(hc _ (h.kb x F).1.lt).trans (h.kb x F).2⟩,
  λx F=>(h.P' x F).dy I.size (λk O e=>I.block k O (G k e)) (λk O e=>(hc k O).trans e)⟩
def CK.ui {bs:List dE} {V:Nat->Prop} (h:CK W w g s K R) (hs:Fits N s) (X:N<=1000) (ho:gk w V I F G bs) (O:name.size<=maxLen) (U:fJ.size<=maxLen) (hn:F<=100000):
  Z' WY 132 #[P_ (X_ ⟨g,0,Y_⟩),A_ #[kind,name,fJ,S_ I F G]] w λe w'=>e=R_ (I_ J_ (VQ ⟨kind,name,fJ,bs⟩))/\CK W w' g (EN s ⟨kind,name,fJ,bs⟩) K R:=by
 let ⟨b',h⟩:=h;refine (h.fm.ui (zJ g s) hs X ho O U hn).mono ?_;rintro e w' ⟨rfl,ha⟩;exact ⟨rfl,h.after ha⟩
def CK.sync (h:CK W w g s K R) (hs:Fits N s) (G:N<=1000):
  Z' WY 133 #[P_ (X_ ⟨g,0,Y_⟩)] w λe w'=>e=R_ (U_ #[])/\CK W w' g ⟨Xc s,[]⟩ K R:=by
 let ⟨b',h⟩:=h;refine (h.fm.sync (zJ g s) hs G).mono ?_;rintro e w' ⟨rfl,ha⟩;exact ⟨rfl,h.after ha⟩
def CK.read (h:CK W w g s K R) (hs:Fits N s) (F:N<=1000) (hn:name.size<=maxLen):
  Z' WY 83 #[P_ (X_ ⟨g,0,Y_⟩),name] w (iQ w (jt (Xc s) (key name))):=by
 let ⟨b',h⟩:=h;exact h.fm.read (zJ g s) hs F hn
end
end Ck
end
section
open Go.Maps
namespace Ck
open Dk Bs
open fC (dE ji jM eQ)
def mJ (g:Nat) (v:Int):Array Z_:= #[P_ (X_ ⟨g,0,Y_⟩),v]
section
variable {W w:Y'} {g sb:Nat} {s:Ds} {K:KL} {R:RL} {m t:Option (List dE)} {b:List dE} {v:Int}
def CK.lt (h:CK W w g s K R): ∀x∈K,x.1<w.heap.size:=by
 let ⟨b',h⟩:=h;exact λx F=>(h.kb x F).1.lt
def uh (m t:Option (List dE)):Xc ⟨dV m t,[]⟩=dV m t:=rfl
def Km (m t:Option (List dE)):EN ⟨dV m t,[]⟩ ⟨3,tT,t0,[]⟩=⟨dV m t,[⟨3,tT,t0,[]⟩]⟩:=by
 unfold EN;rw [if_pos (show right ⟨3,tT,t0,[]⟩=true by kernel_rfl)];rfl
def zH (h:CK W w g ⟨dV m t,[]⟩ K R) (U:mq m) (V:mq t):
  Z' WY 82 #[P_ (X_ ⟨g,0,Y_⟩)] w λe w'=>e=R_ (U_ #[])/\CK W w' g ⟨dV m Y_,[]⟩ K R:=by
 have I:=Hd (h.read (name:=tT) (jB U V) o_ (show (4:Nat)<=maxLen by decide));rw [uh,EO] at I;cases t with
 |none=>
  have H:=Hd h;clear h U V;go_enter func82,ntmps82;go_wp2_with fail;refine I.mono ?_;rintro e w1 ⟨F,rfl⟩;have H1:=Hd (H.below F);clear I H F;go_wp2;exact bodyPost_end (results_none rfl _ _ _) rfl ⟨rfl,H1⟩
 |some x=>
  have H:=Hd h;have HM:=Hd U;have HT:=Hd V;clear h U V;go_enter func82,ntmps82;go_wp2_with fail;refine I.mono ?_;rintro e w1 ⟨F,A3,c3,rfl,-,-⟩;have hF:=jB HM HT;have H1:=Hd (H.below F);have D1:=Hd (H1.ui (kind:=3) (name:=tT) (fJ:=t0) hF o_ (gk.none w1 (λ_=>True)) (show (4:Nat)<=maxLen by decide) (show (0:Nat)<=maxLen by decide) o_);rw [Km] at D1;have ab:=Hd (hF.ui (o:=⟨3,tT,t0,[]⟩) ⟨show (4:Nat)<=maxLen by decide,show (0:Nat)<=maxLen by decide,Nat.zero_le _⟩);clear I H F hF;go_wp2_with fail;refine D1.mono ?_;rintro e w2 ⟨rfl,G⟩;have X:=Hd (G.sync ab o_);rw [show Xc ⟨dV m (X_ x),[⟨3,tT,t0,[]⟩]⟩=dV m Y_ from Kn m (X_ x)] at X;clear D1 G;go_wp2_with fail;refine X.mono ?_;rintro e w3 ⟨rfl,(H3:WX _)⟩;clear X;exact sJ
def Cc (h:CK W w g ⟨dV Y_ t,[]⟩ K R) (X:mq t):
  Z' WY 51 #[P_ (X_ ⟨g,0,Y_⟩)] w λe w'=> ∃sb,e=R_ (U_ #[P_ (X_ ⟨sb,0,Y_⟩),S_ Y_ 0 0,I_ J_ 4])/\CK W w' g ⟨dV Y_ Y_,[]⟩ ((sb,155,mJ g 0)::K) R/\ ∀x∈K,x.1<sb:=by
 have U:=Hd (zH h .none X);clear h X;go_enter func51,ntmps51;go_wp2_with fail;refine U.o.mono ?_;rintro e w1 ⟨rfl,F⟩;have V:=Hd F;have O:=Hd (F.read (name:=tM) (jB .none .none) o_ (show (4:Nat)<=maxLen by decide));rw [uh,vX] at O;clear F U;go_wp2_with fail;refine O.o.mono ?_;rintro e w2 ⟨G,rfl⟩;have I:=Hd (V.o.below G);have HN:WX (∃sb,(Xb (U_ #[P_ (X_ ⟨w2.heap.size,0,Y_⟩),S_ Y_ 0 0,I_ J_ 4]))=R_ (U_ #[P_ (X_ ⟨sb,0,Y_⟩),S_ Y_ 0 0,I_ J_ 4])/\CK W (w2.alloc (.cells (mJ g 0) 155)) g ⟨dV Y_ Y_,[]⟩ ((sb,155,mJ g 0)::K) R/\ ∀x∈K,x.1<sb):=⟨_,rfl,I.o.yn (dL) WZ l_,I.o.lt⟩;clear O V I G;go_wp2;exact bodyPost_ret (v:=U_ #[P_ (X_ ⟨w2.heap.size,0,Y_⟩),S_ Y_ 0 0,I_ J_ 4]) (by simp [results,results51,go_sem]) rfl HN.o
def EP (h:CK W w g ⟨dV (X_ b) t,[]⟩ K R) (ht:mq t) (hb:b.length<=100000) (hf:ji b=true):
  Z' WY 51 #[P_ (X_ ⟨g,0,Y_⟩)] w λe w'=> ∃sb A c,e=R_ (U_ #[P_ (X_ ⟨sb,0,Y_⟩),.slice A (eQ b).length c,I_ J_ 0])/\CK W w' g ⟨dV (X_ b) Y_,[]⟩ ((sb,155,mJ g (jM b))::K) ((A,(eQ b).length,eQ b)::R)/\(∀x∈K,x.1<sb)/\(0<(eQ b).length->Ro.Row w' 5 1 A (eQ b).length c ((eQ b).map Bs.bv)):=by
 have U:=Hd (zH h (.some hb) ht);obtain ⟨-,-,I,-⟩:=fC.ER hf;have HL:=Hd I;clear h ht I;go_enter func51,ntmps51;go_wp2_with fail;refine U.o.mono ?_;rintro e w1 ⟨rfl,F⟩;have H1:=Hd F;have HP:=Hd (F.read (name:=tM) (jB (.some hb) .none) o_ (show (4:Nat)<=maxLen by decide));rw [uh,vX] at HP;clear F U;go_wp2_with fail;refine HP.o.mono ?_;rintro e w2 ⟨X,A2,c2,rfl,G,-⟩;have H2:=Hd (H1.o.below X);have HG:=Hd (fC.ES A2 b.length c2 b w2 G.sl o_ G.le.1 G.le.2 hf);clear HP H1 X G;go_wp2_with fail;refine HG.o.mono ?_;rintro e w3 ⟨A3,c3,rfl,O,ab,aa⟩;rw [<-HL.o] at O ab |-;have H3:=Hd (H2.o.kt aa O (λh0=>by
  obtain ⟨q,cc,e,hO,-⟩:=ab h0;let ⟨A',c',e2,hr,V⟩:=gW hO;cases e2;let ⟨an,hq⟩:=hr.type (g:=q) rfl;exact ⟨q,12,an,e,hq,V q rfl⟩))
 have HN:WX (∃sb A c,(Xb (U_ #[P_ (X_ ⟨w3.heap.size,0,Y_⟩),.slice A3 (eQ b).length c3,I_ J_ 0]))=R_ (U_ #[P_ (X_ ⟨sb,0,Y_⟩),.slice A (eQ b).length c,I_ J_ 0])/\CK W (w3.alloc (.cells (mJ g (jM b)) 155)) g ⟨dV (X_ b) Y_,[]⟩ ((sb,155,mJ g (jM b))::K) ((A,(eQ b).length,eQ b)::R)/\(∀x∈K,x.1<sb)/\(0<(eQ b).length->Ro.Row (w3.alloc (.cells (mJ g (jM b)) 155)) 5 1 A (eQ b).length c ((eQ b).map Bs.bv))):=⟨_,_,_,rfl,H3.o.yn (dL) WZ l_,H3.o.lt,λh0=>by
  have hl:=HL.o;let ⟨q,cc,e,hO,ec⟩:=ab h0;let ⟨A',c',e2,hr,V⟩:=gW hO;obtain ⟨rfl,rfl⟩:X_ ⟨q,0,Y_⟩=A'/\cc=c':=by simpa using e2
  have hle:=hr.le;have hf:=hr.from_ 12 o_;rw [if_neg o_,<-List.map_drop,show b.length - 4 - 12=(eQ b).length by omega] at hf;have ac:Ro.Row w3 5 1 A3 (eQ b).length c3 ((eQ b).map Bs.bv):=by rw [e,ec];exact hf
  exact ac.dy λb hb=>Below.heap_alloc _ _ _ (ac.lt hb)⟩
 clear HG H2 aa O ab HL H3;go_wp2;exact bodyPost_ret (v:=U_ #[P_ (X_ ⟨w3.heap.size,0,Y_⟩),.slice A3 (eQ b).length c3,I_ J_ 0]) (by simp [results,results51,go_sem]) rfl HN.o
end
end Ck
end
section
open Go.Maps
namespace Ck
open Dk Bs
open fC (dE)
section
variable {W w:Y'} {g sb b1 b2 b3 n c:Nat} {s:Ds} {K:KL} {R:RL} {m:Option (List dE)} {v:Int} {A:Option WW} {fr:List dE}
def xk (sb:Nat):Array Z_:= #[P_ (X_ ⟨sb,0,Y_⟩)]
def Dx (A:Option WW) (n c:Nat):Array Z_:= #[S_ A n c]
structure C3 (b1 b2 sb g:Nat) (A:Option WW) (n c:Nat) (w:Y'):Prop where
 x1:w.cell? ⟨b1,0,Y_⟩=X_ (P_ (X_ ⟨sb,0,Y_⟩))
 x2:w.cell? ⟨b2,0,Y_⟩=X_ (S_ A n c)
 x3:w.cell? ⟨sb,0,Y_⟩=X_ (P_ (X_ ⟨g,0,Y_⟩))
def CK.c3 (h:CK W w g s K R) (h1:(b1,95,xk sb)∈K) (h2:(b2,65,Dx A n c)∈K) (h3:(sb,155,mJ g v)∈K):C3 b1 b2 sb g A n c w:=
 ⟨(h.dr h1).cell 0,(h.dr h2).cell 0,(h.dr h3).cell 0⟩
def UN (h:CK W w g s K R) (O:(b1,95,xk sb)∈K) (U:(b2,65,Dx A n c)∈K) (h3:(sb,155,mJ g v)∈K) (hr:(A,n,fr)∈R) (I:n<=c/\c<=maxLen) (h0:0<n) (hn:n<=100000) (hs:Fits 10 s):
  Z' WY 131 #[P_ (X_ ⟨b1,0,Y_⟩),P_ (X_ ⟨b2,0,Y_⟩)] w λe w'=>e=R_ (U_ #[])/\CK W w' g (EN s ⟨1,tT,t0,fr⟩) K R:=by
 have hB:=h.row hr;have ho:gk w (λ_=>True) A n c fr:=⟨hB,I,λe=>(by let ⟨ad,e2,_⟩:=hB.2 h0;rw [e] at e2;cases e2),λ_ _ _=>trivial⟩;have G:Bw w w.drew:=b_.drew;have HY:=Hd (h.c3 O U h3);have HC:=Hd (λ(X:Y') (s':Ds) (hX:CK W X g s' K R)=>hX.c3 O U h3);have HD:=Hd ((h.below G).ui (kind:=1) (name:=tT) (fJ:=t0) hs o_ (ho.below G) (show (4:Nat)<=maxLen by decide) (show (0:Nat)<=maxLen by decide) hn);have y0:C3 b1 b2 sb g A n c w.drew:=⟨HY.x1,HY.x2,HY.x3⟩;clear h O U h3 hr I h0 hn hs hB ho G;go_enter func131,ntmps131;go_wp2;refine dm.start (S:=C3 b1 b2 sb g A n c) k_ ?_;refine dm.tk 1 y0 (u_ 0 6) ?_
 iterate 6 (refine dm.dG rfl (λK' F=>?_);go_simp;(first|refine F _ ?_;clear F K'|constructor;refine ⟨λwx aa=>?_,F _ ?_⟩;(first|rfl|(obtain ⟨x1,x2,x3⟩:=aa;go_simp<;>rfl));clear F K'))
 refine dm.ee ?_;refine dm.on 6 0 ?_;refine dm.cl ?_;refine HD.mono ?_;rintro e w1 ⟨rfl,(H3:WX _)⟩;refine ⟨_,rfl,HC w1 _ H3,?_⟩;refine dm.fi ?_;clear HD;exact sJ
def UO (h:CK W w g s K R) (F:(b1,95,xk sb)∈K) (O:(sb,155,mJ g v)∈K) (hs:Fits 10 s):
  Z' WY 134 #[P_ (X_ ⟨b1,0,Y_⟩)] w λe w'=>e=R_ (U_ #[])/\CK W w' g (EN s ⟨2,tT,tM,[]⟩) K R:=by
 have x1:C w b1 0 (P_ (X_ ⟨sb,0,Y_⟩)):=(h.dr F).cell 0;have x3:C w sb 0 (P_ (X_ ⟨g,0,Y_⟩)):=(h.dr O).cell 0;have HD:=Hd (h.ui (kind:=2) (name:=tT) (fJ:=tM) hs o_ (gk.none w (λ_=>True)) (show (4:Nat)<=maxLen by decide) (show (4:Nat)<=maxLen by decide) o_);clear h F O hs;go_enter func134,ntmps134;go_wp2_with fail;refine HD.mono ?_;rintro e w1 ⟨rfl,(H3:WX _)⟩;clear HD;exact sJ
def UP (h:CK W w g s ((sb,155,mJ g v)::K) R) (G:(b1,95,xk sb)∈K) (hK: ∀x∈K,x.1≠sb) (hs:Fits 10 s) (hv:0<=v/\v<=9000000000):
  Z' WY 135 #[P_ (X_ ⟨b1,0,Y_⟩)] w λe w'=>e=R_ (U_ #[])/\CK W w' g ⟨Xc s,[]⟩ ((sb,155,mJ g (v+1))::K) R:=by
 have x1:C w b1 0 (P_ (X_ ⟨sb,0,Y_⟩)):=(h.dr (n_ _ G)).cell 0;have x3:C w sb 0 (P_ (X_ ⟨g,0,Y_⟩)):=(h.dr (m_ ..)).cell 0;have X:=Hd (h.sync hs o_);have O:=Hd hK;have V:=Hd G;clear h G hs hK;go_enter func135,ntmps135;go_wp2_with fail;refine X.mono ?_;rintro e w1 ⟨rfl,F⟩;have H3:=Hd (F.set 1 (I_ J_ (v+1)) (m_ ..) (K':=K) (λx U=>⟨n_ _ U,O x U⟩) d_);have I:=F.dr (m_ ..);clear x1 x3;have x1:C w1 b1 0 (P_ (X_ ⟨sb,0,Y_⟩)):=(F.dr (n_ _ V)).cell 0;have x4:C w1 sb 1 v:=I.cell 1;have xf:=I.frozen 1;clear F X I O V;have hw:IntKind.i64.wrap (v+1)=v+1:=by unfold IntKind.wrap;simp [IntKind.bits,Xd];omega
 exact sJ
def JH (g b1 b2:Nat):Array Z_:= #[.func (.func 131) #[] #[P_ (X_ ⟨b1,0,Y_⟩),P_ (X_ ⟨b2,0,Y_⟩)],.func (.func 133) #[P_ (X_ ⟨g,0,Y_⟩)] #[],.func (.func 134) #[] #[P_ (X_ ⟨b1,0,Y_⟩)],.func (.func 135) #[] #[P_ (X_ ⟨b1,0,Y_⟩)]]
def Bk (w:Y') (F:Xa w sb 155 (mJ g v)):
  Z' WY 70 #[P_ (X_ ⟨sb,0,Y_⟩),S_ A n c] w λe w'=>e=R_ (S_ (X_ ⟨w.heap.size+2,0,Y_⟩) 4 4)/\w'=((w.alloc (.cells (xk sb) 95)).alloc (.cells (Dx A n c) 65)).alloc (.cells (JH g w.heap.size (w.heap.size+1)) 1):=by
 have hmf: ∀(fn:Fn) (first cap:Array Z_) (w:Y'),(Instr.makeFunc fn first cap).run WY w= .ok (.func fn first cap) w:=λ_ _ _ _=>rfl
 have G:C w sb 0 (P_ (X_ ⟨g,0,Y_⟩)):=F.cell 0;have y3:((w.alloc (.cells #[P_ (X_ ⟨sb,0,Y_⟩)] 95)).alloc (.cells #[S_ A n c] 65)).cell? ⟨sb,0,Y_⟩=X_ (P_ (X_ ⟨g,0,Y_⟩)):=Mem.fo (Mem.fo G);clear F;unfold xk Dx JH;go_enter func70,ntmps70;exact lH
end
end Ck
end
section
open Go.Maps
namespace Ck
open Dk Bs
open fC (dE frame)
def yy (v:Int) (k:Nat):Int:=if 4<=k then v+1 else v
section
variable {W w:Y'} {g sb n c:Nat} {K:KL} {R:RL} {m:Option (List dE)} {v:Int} {A:Option WW} {body:List dE}
def oy (g sb b:Nat) (A:Option WW) (n c:Nat):KL:=[(b,95,xk sb),(b+1,65,Dx A n c),(b+2,1,JH g b (b+1))]
def Mw {s:Ds} (h:CK W w g s ((sb,155,mJ g v)::K) R):
  CK W (((w.alloc (.cells (xk sb) 95)).alloc (.cells (Dx A n c) 65)).alloc (.cells (JH g w.heap.size (w.heap.size+1)) 1)) g s ((sb,155,mJ g v)::(oy g sb w.heap.size A n c++K)) R/\ ∀x∈oy g sb w.heap.size A n c,x.1≠sb:=by
 have G:=h.lt _ (m_ ..);have n1:Xa (w.alloc (.cells (xk sb) 95)) w.heap.size 95 (xk sb):=WZ;have O:=h.yn (dL) n1 l_;have X:(w.alloc (.cells (xk sb) 95)).heap.size=w.heap.size+1:=by simp
 have n2:Xa ((w.alloc (.cells (xk sb) 95)).alloc (.cells (Dx A n c) 65)) (w.heap.size+1) 65 (Dx A n c):=by
  have:=WZ (w:=w.alloc (.cells (xk sb) 95)) (t:=65) (cs:=Dx A n c);rwa [X] at this
 have V:=O.yn (dL) n2 o_;have U:((w.alloc (.cells (xk sb) 95)).alloc (.cells (Dx A n c) 65)).heap.size=w.heap.size+2:=by simp
 have n3:Xa (((w.alloc (.cells (xk sb) 95)).alloc (.cells (Dx A n c) 65)).alloc (.cells (JH g w.heap.size (w.heap.size+1)) 1)) (w.heap.size+2) 1 (JH g w.heap.size (w.heap.size+1)):=by
  have:=WZ (w:=(w.alloc (.cells (xk sb) 95)).alloc (.cells (Dx A n c) 65)) (t:=1) (cs:=JH g w.heap.size (w.heap.size+1));rwa [U] at this
 have h3:=V.yn (dL) n3 o_;refine ⟨h3.sub (λx F=>?_) (λx F=>F),λx F=>?_⟩
 .unfold oy at F
  simp only [List.cons_append,List.nil_append,List.mem_cons] at F |-;obtain F|F|F|F|F:=F<;>simp [F]
 .have I:sb<w.heap.size:=G
  unfold oy at F;simp only [List.mem_cons,List.not_mem_nil,or_false] at F;obtain rfl|rfl|rfl:=F<;>(show _≠_;dsimp only;omega)
def uU (h:CK W w g ⟨dV m Y_,[]⟩ ((sb,155,mJ g v)::K) R) (hK: ∀x∈K,x.1≠sb) (hv:0<=v/\v<4294967295) (hm:mq m) (hB:Bs w w.heap.size A n body) (hn:n<=90000) (q:Int) (r:Nat) (hr:r<=4) (hq:min (max q 0) 4=(r:Int)):
  Z' WY 102 #[P_ (X_ ⟨sb,0,Y_⟩),S_ A n c,q] w λe w'=>e=R_ (I_ J_ 0)/\CK W w' g (ij (frame (v+1) body) m r) ((sb,155,mJ g (yy v r))::K) R:=by
 have hl:=hB.len;have x1:C w sb 1 v:=(h.dr (m_ ..)).cell 1;have hw:IntKind.i64.wrap (v+1)=v+1:=by unfold IntKind.wrap;simp [IntKind.bits,Xd];omega
 have HP:=Hd (fC.Ru (v+1) A n c body w o_ o_ o_ hB);have H:=Hd h;have HK:=Hd hK;have HM:=Hd hm;have HL:WX ((frame (v+1) body).length=n+16):=Hd (by rw [fC.mu,hl]);have ak:max q 0=max q 0:=rfl;clear h hK hm hB ak;go_enter func102,ntmps102;go_wp2_with fail;refine HP.o.mono ?_;rintro e w1 ⟨F,c1,rfl,hO,ag⟩;rw [hl] at hO |-;let ⟨A9,c9,e9,O,ae⟩:=gW hO;cases e9;have H1:=Hd (H.o.Qa ag (show lh w1 F (n+16) c1 (frame (v+1) body) from O) ae);have ar:n+16<=c1/\c1<=maxLen:=O.le;have HS:=Hd (Bk (A:=F) (n:=n+16) (c:=c1) w1 (H1.o.dr (m_ ..)));clear HP H ag hO O ae x1;obtain ⟨fr,U⟩: ∃fr,frame (v+1) body=fr:=⟨_,rfl⟩;rw [U] at H1 HL;have al:=Hd U;clear U;go_wp2_with fail;refine HS.o.mono ?_;rintro e w2 ⟨rfl,af⟩;let ⟨h2,ah⟩:=Mw (A:=F) (n:=n+16) (c:=c1) H1.o;rw [<-af] at h2;have H2:=Hd h2;have ac:=Hd ah;generalize w1.heap.size=b at*;clear af h2 ah HS H1;go_wp2;go_loopw [36] (λvi wr=> ∃k:Nat,k<=r/\vi=I_ J_ k/\WX (CK W wr g (ij fr m k) ((sb,155,mJ g (yy v k))::(oy g sb b F (n+16) c1++K)) ((F,n+16,fr)::R))) (λi _=>r - (intOf i).toNat)
 .exact ⟨0,o_,rfl,H2⟩
 .clear H2
  obtain ⟨k,hk,rfl,V⟩:=hrel;by_cases hlt:k<r
  .have G: ∀i,wr.cell? ⟨b+2,i,Y_⟩=(JH g b (b+1))[i]?:=λi=>(V.o.dr (b:=b+2) (t:=1) (cs:=JH g b (b+1)) (by simp [oy])).cell i
   have hF:=oK HM.o (show fr.length<=100000 by have:=HL.o;omega) k;have X:=Hd (hF.mono (show 4<=10 by omega));clear hF;have ap:k=0\/k=1\/k=2\/k=3:=o_;obtain rfl|rfl|rfl|rfl:=ap
   .refine sH ?_
    replace G:C wr (b+2) 0 (.func (.func 131) #[] #[P_ (X_ ⟨b,0,Y_⟩),P_ (X_ ⟨b+1,0,Y_⟩)]):=G 0
    go_wp2_with fail;refine (UN (A:=F) (b1:=b) (b2:=b+1) (sb:=sb) (v:=yy v 0) (fr:=fr) V.o (by simp [oy]) (by simp [oy]) y_ y_ ar o_ o_ X.o).mono ?_;rintro e w3 ⟨rfl,I⟩;have H3:WX (CK W w3 g (ij fr m 1) ((sb,155,mJ g (yy v 1))::(oy g sb b F (n+16) c1++K)) ((F,n+16,fr)::R)):=Hd (by rw [<-TJ];exact I);clear I V G;go_wp2;go_roundw
    .exact ⟨1,o_,by go_num,H3⟩
    .simp [intOf];omega
   .refine vO ?_
    replace G:C wr (b+2) 1 (.func (.func 133) #[P_ (X_ ⟨g,0,Y_⟩)] #[]):=G 1
    go_wp2_with fail;refine (V.o.sync X.o o_).mono ?_;rintro e w3 ⟨rfl,I⟩;have H3:WX (CK W w3 g (ij fr m 2) ((sb,155,mJ g (yy v 2))::(oy g sb b F (n+16) c1++K)) ((F,n+16,fr)::R)):=Hd (by rw [<-step1];exact I);clear I V G;go_wp2;go_roundw
    .exact ⟨2,o_,by go_num,H3⟩
    .simp [intOf];omega
   .refine vP ?_
    replace G:C wr (b+2) 2 (.func (.func 134) #[] #[P_ (X_ ⟨b,0,Y_⟩)]):=G 2
    go_wp2_with fail;refine (UO (b1:=b) (sb:=sb) (v:=yy v 2) V.o (by simp [oy]) y_ X.o).mono ?_;rintro e w3 ⟨rfl,I⟩;have H3:WX (CK W w3 g (ij fr m 3) ((sb,155,mJ g (yy v 3))::(oy g sb b F (n+16) c1++K)) ((F,n+16,fr)::R)):=Hd (by rw [<-step2];exact I);clear I V G;go_wp2;go_roundw
    .exact ⟨3,o_,by go_num,H3⟩
    .simp [intOf];omega
   .refine qB ?_
    replace G:C wr (b+2) 3 (.func (.func 135) #[] #[P_ (X_ ⟨b,0,Y_⟩)]):=G 3
    go_wp2_with fail;refine (UP (b1:=b) (v:=yy v 3) V.o (by simp [oy]) (λx hx=>(List.mem_append.1 hx).elim (ac.o x) (HK.o x)) X.o (by unfold yy;rw [if_neg o_];omega)).mono ?_;rintro e w3 ⟨rfl,I⟩;have H3:WX (CK W w3 g (ij fr m 4) ((sb,155,mJ g (yy v 4))::(oy g sb b F (n+16) c1++K)) ((F,n+16,fr)::R)):=Hd (by rw [<-TK];exact I);clear I V G;go_wp2;go_roundw
    .exact ⟨4,o_,by go_num,H3⟩
    .simp [intOf];omega
  .obtain rfl:k=r:=o_
   have HE:=Hd (V.o.sub (K':=(sb,155,mJ g (yy v k))::K) (R':=R) (λx hx=>by
    obtain rfl|hx:=p_ hx
    .exact m_ ..
    .exact n_ _ (List.mem_append_right _ hx)) (λx hx=>n_ _ hx))
   clear V HL HM HK ac;go_wp2;go_ret;exact ⟨rfl,by rw [al.o];exact HE.o⟩
def Bl (w:Y'):Z' WY 45 #[] w λe w'=>e=R_ (I_ J_ 4)/\Bw w w':=by
 have V:=Hd ((Fm.start (W:=w) b_).news (j:=1) rfl d_);go_enter func45,ntmps45;go_wp2_with fail;refine V.mono ?_;rintro e w1 ⟨g1,col1,rfl,-,-,F⟩;have O:WX (Bw w (w1.alloc (.cells (mJ g1 0) 155))):=F.alloc F.size _;have U:=Hd (Bk (A:=Y_) (n:=0) (c:=0) (w1.alloc (.cells (mJ g1 0) 155)) (WZ (w:=w1)));have HF:WX (∀X:Y',Bw w X->Bw w (((X.alloc (.cells (xk w1.heap.size) 95)).alloc (.cells (Dx Y_ 0 0) 65)).alloc (.cells (JH g1 X.heap.size (X.heap.size+1)) 1))):=λX I=>((I.alloc I.size _).alloc (by have:=I.size;simp;omega) _).alloc (by have:=I.size;simp;omega) _
 clear V F;unfold mJ at O U;go_wp2_with fail;refine U.mono ?_;rintro e w2 ⟨rfl,G⟩;have HE:WX (Bw w w2):=by rw [G];exact HF _ O
 clear G U HF O;go_wp2;go_ret;exact ⟨rfl,HE⟩
def Rv (h:CK W w g ⟨dV m Y_,[]⟩ ((sb,155,mJ g v)::K) R) (hK: ∀x∈K,x.1≠sb) (hv:0<=v/\v<4294967295) (O:mq m) (V:Bs w w.heap.size A n body) (hn:n<=90000):
  Z' WY 103 #[P_ (X_ ⟨sb,0,Y_⟩),S_ A n c] w λe w'=>e=R_ (I_ J_ 0)/\CK W w' g ⟨dV (X_ (frame (v+1) body)) Y_,[]⟩ ((sb,155,mJ g (v+1))::K) R:=by
 have I:=Hd (λ(X:Y') (hX:Bw w X)=>uU (c:=c) (h.below hX) hK hv O ((V.below hX).more hX.size) hn 4 4 o_ rfl);clear h hK O V;go_enter func103,ntmps103;go_wp2_with fail;refine (Bl _).mono ?_;rintro e w1 ⟨rfl,F⟩;have U:=Hd (I w1 F);clear I F;go_wp2_with fail;refine U.mono ?_;rintro e w2 ⟨rfl,(HS:WX _)⟩;clear U;go_wp2;go_ret;exact ⟨rfl,HS⟩
end
end Ck
end
section
open Go.Maps
namespace Ck
open Dk Bs
open fC (dE frame ji jM eQ)
def lP {body:List dE} (G:0<=v) (F:v<=4294967295) (hb:body.length<=90000):ji (frame v body)=true/\jM (frame v body)=v/\eQ (frame v body)=body/\(frame v body).length<=100000:=by
 let ⟨a,b,c⟩:=fC.Ft v body G F o_;exact ⟨a,b,c,by rw [fC.mu];omega⟩
def yU {W:Y'} {K:KL} {R:RL} {t:Option (List dE)} {body:List dE} (h:CK W w g ⟨dV (X_ (frame v body)) t,[]⟩ K R) (X:mq t) (U:0<=v) (F:v<=4294967295) (hb:body.length<=90000):
  Z' WY 51 #[P_ (X_ ⟨g,0,Y_⟩)] w λe w'=> ∃sb A c,e=R_ (U_ #[P_ (X_ ⟨sb,0,Y_⟩),S_ A body.length c,I_ J_ 0])/\CK W w' g ⟨dV (X_ (frame v body)) Y_,[]⟩ ((sb,155,mJ g v)::K) ((A,body.length,body)::R)/\(∀x∈K,x.1<sb)/\(0<body.length->Ro.Row w' 5 1 A body.length c (body.map Bs.bv)):=by
 let ⟨I,V,O,G⟩:=lP U F hb;have:=EP h X G I;rw [V,O] at this;exact this
end Ck
end
end Go.Proofs.YtkidababfdehlaaGreatDoor
