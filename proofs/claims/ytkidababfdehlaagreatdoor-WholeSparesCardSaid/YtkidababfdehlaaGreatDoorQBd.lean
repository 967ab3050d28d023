/- Parts of the walk. -/
import Derived.Test.YtkidababfdehlaaGreatDoorQBc
set_option linter.all false
set_option maxRecDepth 100000
set_option maxHeartbeats 64000000
namespace Go.Proofs.YtkidababfdehlaaGreatDoor
open Value renaming int -> I_,bool -> B_,string -> T_,slice -> S_,pointer -> P_,tuple -> U_,agg -> A_
open IntKind renaming i64 -> J_
open Ending renaming returned -> R_
open Option renaming some -> X_,none -> Y_
open Bool renaming true -> Y',false -> Z_
open Go renaming World -> Z',Value -> WW,Calls -> WX,Addr -> WY
open Go.RowKit renaming Hid -> WZ,Below -> Xa
open _root_.Go.Proofs.Tryz renaming prog -> Xb
open _root_.Go.RowKit.Hid renaming o -> Xc
open Mem renaming c_ -> Xd,Sl -> XB
open Ck renaming dV -> Xe,mq -> Xz
open Mem.c_ renaming new -> Xf
open Wo renaming St -> Xg
open fC renaming frame -> Xh,dE -> Xo
open Nd.dJ renaming below -> Xi
open Go.World renaming drew -> Xj
open Exists renaming intro -> Xk
open Dk renaming Ds -> Xl
open And renaming intro -> Xm
open Nat renaming le_refl -> Xn,le_trans -> Xy,le_of_not_lt -> XA
open UInt8 renaming toBitVec -> Xp
open List renaming replicate -> Xq,map_replicate -> Xw
open Ro renaming dr -> Xr,Row -> Xu
open dX renaming flat -> Xs
open dI renaming arr -> Xt
open Go.Value renaming int -> Xv
open dm renaming tk -> Xx,start -> XF,dG -> XG,tf -> XH,on -> XL,dn -> XM
open Go.RowKit.Below renaming heap_alloc -> XC
open Int renaming le_refl -> XD
open Go.Instr renaming field -> XE
open Nd.fQ renaming new -> XI
open ef renaming arr -> XJ
open dq renaming flat -> XK
variable {cs:Array WW} {b2 o0 o1 o2:Bool} {e:Ending} {err0 f r v v':Int} {G xs:List WW} {ev ev0:List dX} {l:List dq} {O X c c' ec g gn h i j k k' m n n' pc sc tc tcap:Nat} {t:Nat×TypeId×Array WW} {A A' EA KA PA SA TA:Option WY} {q:Prop} {V:TypeId} {a b:WW} {w w':Z'} {d:dI}
open _root_.Go.Proofs.Tryz Go.RowKit Wo Tx Ta Rd Tq Nu
section
namespace Nd
structure S0 (W w:Z') (b':Nat->Nat) (gd gw:Nat) (s:Xl) (rt:Xg):Prop where
 fm:Dk.Fm W w b' (Ck.one gd s)
 rt:Wo.At w gw rt (λk=>b' k=2)
section
variable {W w w' w2:Z'} {b' col' f:Nat->Nat} {gd gw sb ga:Nat} {s s':Xl} {v v':Int} {rt:Xg} {x:AV}
def Sys.s0 (h:Sys W w b' gd sb gw s v rt):S0 W w b' gd gw s rt:=⟨h.fm,h.rt⟩
def S0.lL (h:S0 W w b' gd gw s rt) (hk:b' k≠0):W.heap.size<=k:=XA λc=>hk (h.fm.lL k c)
def S0.mO (h:S0 W w b' gd gw s rt) (hc: ∀k,k<w.heap.size->col' k=b' k):S0 W w col' gd gw s rt:=⟨Fm.mO h.fm hc,h.rt.mono λk hk z=>(hc k hk).trans z⟩
def S0.below (h:S0 W w b' gd gw s rt) (hb:Bw w w') (f:Nat->Nat):S0 W w' (dN w b' f) gd gw s rt:=
 ⟨h.fm.below hb f,(h.mO (col':=dN w b' f) λk hk=>fL hk).rt.below hb⟩
def S0.ck (h:S0 W w b' gd gw s rt):Ck.CK W w gd s (pD w b' w.heap.size) []:=by
 refine ⟨λk=>if 2<=b' k then 9 else b' k,⟨h.fm.base,λk I=>?_,h.fm.zero,λi g s O=>?_⟩,λx G=>?_,λx G=>by cases G⟩
 .exact Uy
 .have X:i=1:=by
   by_cases e:i=1
   .exact e
   .have:=O
    exact Ig
  subst X;refine (h.fm.at_ 1 g s O).mono (λk I c=>?_) (λk I c=>?_) (λk c d=>?_)
  .have c':=c
   show (if 2<=b' k then 9 else b' k)=1
   rw [if_neg o_];exact c'
  .have c':=c
   show (if 2<=b' k then 9 else b' k)=0
   rw [if_neg o_];exact c'
  .have c':=c
   have F:=d;rw [c'] at F;cases F
 .obtain ⟨U,V,_⟩:=nC G
  exact ⟨U,if_pos V⟩
def S0.Ey {R:Ck.RL} (h:S0 W w b' gd gw s rt) (hc:Ck.CK W w' gd s' ((sb,155,Ck.mJ gd v')::pD w b' w.heap.size) R) (hsb:w.heap.size<=sb):
  ∃col',Sys W w' col' gd sb gw s' v' rt/\dJ (λc=>c<=1) W w w' b' col':=by
 obtain ⟨G,hF,hK,_⟩:=hc;obtain ⟨U,ag,V⟩:=zw w b' G;have aa:=hK _ (m_ ..);have key: ∀k,2<=b' k->plain w k->w'.heap[k]?=w.heap[k]?:=by
  intro k h1 h2;have an:=h2.lt;obtain ⟨t,cs,h3,h4⟩:=kH h2 h1 (show k≠w.heap.size by omega);exact (hK _ (n_ _ h4)).1.trans h3.symm
 have X: ∀k,2<=b' k->plain w k->G k=9:=by
  intro k h1 h2;have an:=h2.lt;obtain ⟨t,cs,h3,h4⟩:=kH h2 h1 (show k≠w.heap.size by omega);exact (hK _ (n_ _ h4)).2
 obtain ⟨O,ah⟩: ∃O:Nat->Nat,O=λk=>if k=sb then 5 else U k:=⟨_,rfl⟩
 have ai:O sb=5:=by rw [ah];exact if_pos rfl
 have ac: ∀k,k≠sb->O k=U k:=λk I=>by rw [ah];exact if_neg I
 have ab: ∀k,k<w.heap.size->O k=U k:=λk I=>ac k o_
 have hT:dJ (λc=>c<=1) W w w' b' O:=by
  have hm: ∀k,k<w.heap.size-> ¬may (λc=>c<=1) W w b' k->k<W.heap.size\/(2<=b' k/\plain w k):=by
   intro k I m;by_cases hW:k<W.heap.size
   .exact .inl hW
   .refine .inr ⟨?_,?_⟩
    .exact XA λc=>m ⟨o_,.inl o_⟩
    .exact Classical.byContradiction λc=>m ⟨o_,.inr c⟩
  refine ⟨λk I m=>?_,λk I m=>?_⟩
  .rcases hm k I m with c|⟨c1,c2⟩
   .exact (hF.base.block k c).trans (h.fm.base.block k c).symm
   .exact key k c1 c2
  .rw [ab k I]
   rcases hm k I m with c|⟨c1,c2⟩
   .have e0:=h.fm.lL k c
    rw [V k (by rw [e0];omega),if_neg (by rw [hF.lL k c];decide),e0]
   .exact ag k ⟨I,c1,c2⟩
 have F:=aa.2;refine ⟨O,⟨⟨hF.base,λk I=>?_,hF.zero,λi g s2 hD=>?_⟩,⟨aa.1,ai⟩,?_⟩,hT⟩
 .have:=h.fm.base.size
  rw [ab k o_,V k (by rw [h.fm.lL k I];omega),if_neg (by rw [hF.lL k I];decide)]
 .have hi:i=1:=by
   by_cases e:i=1
   .exact e
   .have:=hD
    exact Ig
  subst hi;refine (hF.at_ 1 g s2 hD).mono (λk I c=>?_) (λk I c=>?_) (λk c d=>?_)
  .have c':=c
   have hn:k≠sb:=λe=>by rw [e,F] at c';cases c'
   show O k=1
   rw [ac k hn,V k (λz=>by rw [X k z.2.1 z.2.2] at c';cases c'),if_pos c']
  .have c':=c
   have hn:k≠sb:=λe=>by rw [e,F] at c';cases c'
   show O k=0
   rw [ac k hn,V k (λz=>by rw [X k z.2.1 z.2.2] at c';cases c'),if_neg o_]
  .have c':=c
   have d':=d;rw [c'] at d';cases d'
 .refine ((vK h.rt).dy λk I c=>?_).mono λk I c=>?_
  .have c1:=c.1
   exact key k o_ c.2
  .have c1:=c.1
   rw [ab k c.2.lt];exact (ag k ⟨c.2.lt,o_,c.2⟩).trans c1
def Aq.state {C:Cx} {B:BL} {R:List RK} {b0 b1:Bool} (h:Aq C rt x B R w) (G:Bw w w2) (V:jJ w2 A n c l) (X: ∀b,Xr A=X_ b->w.heap.size<=b):
  World.there w2 C.ga 13 5/\Aq C rt {x with r:=r,PA:=A,pc:=c,l:=l,o0:=b0,o1:=b1,o2:=b2} B R (w2.setCells C.ga 13 [I_ J_ r,S_ A l.length c,B_ b0,B_ b1,B_ b2]):=by
 obtain ⟨b',h,t⟩:=h;refine zu ?_;intro I;have F:=eU.gv [I_ J_ r,S_ A l.length c,B_ b0,B_ b1,B_ b2] 13 _ _ I;have e:eU.lay (x.arr C.gw C.sb) 13 [I_ J_ r,S_ A l.length c,B_ b0,B_ b1,B_ b2]=({x with r:=r,PA:=A,pc:=c,l:=l,o0:=b0,o1:=b1,o2:=b2}:AV).arr C.gw C.sb:=by simp [eU.lay,AV.arr]
 rw [e] at F;have hn:=iw V;subst hn;refine vJ ?_;intro U;have O:=h.gA (h.n.below G (λ_=>3)) U d_;exact O.Ih (x':={x with r:=r,PA:=A,pc:=c,l:=l,o0:=b0,o1:=b1,o2:=b2}) (t.trans (SJ U)) (eU.eI _ _ _) F O.n.ag.qy ⟨V,λb hb=>fv (X b hb)⟩ O.n.ag.since O.n.ag.use
end
def se (p:ef) (dD:List dA) (TA:Option WY) (tc:Nat) (SA:Option WY) (sc:Nat):AV:=
 ⟨rW p TA dD.length tc,dD,0,Y_,0,[],Z_,Z_,Z_,SA,sc,Xq dD.length (-1),0,0,0,-1,0,0,0,Y_,0,[],Z_,-1,Z_⟩
def Qf (W:Z') (J:Nat->Prop) (b':Nat->Nat) (w:Z') (gd gw:Nat) (s:Xl) (v:Int) (rt:Xg) (P:AV->Prop) (e:Ending) (w':Z'):Prop:=
 ∃(ga sb:Nat) (col':Nat->Nat) (x:AV),e=R_ (U_ #[P_ (X_ ⟨ga,0,Y_⟩),I_ J_ 0])/\N W w' col' gd sb gw ga s v rt x/\dJ J W w w' b' col'/\P x
section
variable {W w:Z'} {b':Nat->Nat} {gd gw:Nat} {rt:Xg} {p:ef} {dD:List dA} {W0:Z'} {B0:Nat} {tx:Option (List Xo)}
def Uz {p:Prop} (k:q) (h:Wq q->p:=by
 intro kq;refine dm.val rfl rfl (v:=P_ (some ⟨w4.heap.size,0,none⟩)) (w':=w4.alloc (.cells #[I_ J_ p.c0,I_ J_ p.c1,I_ J_ p.c2,I_ J_ p.a0,I_ J_ p.a1,I_ J_ p.a2,S_ TA2 nt tc,I_ J_ p.fg,I_ J_ p.ret,I_ J_ p.fE,I_ J_ p.dead,P_ (some ⟨gw,0,none⟩),P_ (some ⟨sb,0,none⟩),I_ J_ 0,S_ none 0 0,B_ false,B_ false,B_ false,S_ SA nt sc,I_ J_ 0,I_ J_ 0,I_ J_ 0,I_ J_ (-1),I_ J_ 0,I_ J_ 0,I_ J_ 0,S_ none 0 0,B_ false,I_ J_ (-1),B_ false] 100)) f_ (by rw [<-hw5];exact HS5) ?_;rw [<-hw5,<-hga];have HB5:=Hd hb5
 revert HB5
 exact kq.o):p:=h ⟨k⟩
def UB {p:Prop} (k:q) (h:Wq q->p:=by
 intro kq;have HTH1:eG w1 (dN w b' λ_=>3) 3 92 5 TA2 nt tc (dA.flat dD):=eG.new hrow1 hA1 (λ_ _=>rfl);have h2:=h1.below hb2 (λ_=>9);have t12:dJ (λ_=>False) W w1 w2 (dN w b' λ_=>3) (dN w1 (dN w b' λ_=>3) λ_=>9):=dJ.below hb2 _;have hth2:=HTH1.ed t12 (λc=>c);have hgc2:fQ w2 (dN w1 (dN w b' λ_=>3) λ_=>9) 9 gc 25 #[I_ J_ p.c0,I_ J_ p.c1,I_ J_ p.c2,I_ J_ p.a0,I_ J_ p.a1,I_ J_ p.a2,S_ TA2 nt tc,I_ J_ p.fg,I_ J_ p.ret,I_ J_ p.fE,I_ J_ p.dead]:=fQ.new (by rw [hw2,hgc];exact Mem.c_.new) (by rw [hgc];exact Nat.le_refl _) rfl
 revert HTH1 h2 t12 hth2 hgc2
 exact kq.o):p:=h ⟨k⟩
def UC {p:Prop} (k:q) (h:Wq q->p:=by
 intro kq;obtain ⟨ga,hga⟩:=nm (w4.heap.size);obtain ⟨w5,hw5⟩:=nm (w4.alloc (.cells #[I_ J_ p.c0,I_ J_ p.c1,I_ J_ p.c2,I_ J_ p.a0,I_ J_ p.a1,I_ J_ p.a2,S_ TA2 nt tc,I_ J_ p.fg,I_ J_ p.ret,I_ J_ p.fE,I_ J_ p.dead,P_ (some ⟨gw,0,none⟩),P_ (some ⟨sb,0,none⟩),I_ J_ 0,S_ none 0 0,B_ false,B_ false,B_ false,S_ SA nt sc,I_ J_ 0,I_ J_ 0,I_ J_ 0,I_ J_ (-1),I_ J_ 0,I_ J_ 0,I_ J_ 0,S_ none 0 0,B_ false,I_ J_ (-1),B_ false] 100))
 revert ga hga w5 hw5
 exact kq.o):p:=h ⟨k⟩
def OM {p:Prop} (k:q) (h:Wq q->p:=by
 intro kq;have HNT:=Hd hnt;obtain ⟨gc,hgc⟩:=nm (w1.heap.size);obtain ⟨w2,hw2⟩:=nm (w1.alloc (.cells #[I_ J_ p.c0,I_ J_ p.c1,I_ J_ p.c2,I_ J_ p.a0,I_ J_ p.a1,I_ J_ p.a2,S_ TA2 nt tc,I_ J_ p.fg,I_ J_ p.ret,I_ J_ p.fE,I_ J_ p.dead] 25))
 revert HNT gc hgc w2 hw2
 exact kq.o):p:=h ⟨k⟩
def Fh {tmp:Option (List Xo)} (h:S0 W w b' gd gw ⟨Xe Y_ tmp,[]⟩ rt) (ht:Xz tmp) (hR:gu.fK p dD) (hp:p.ok W0 B0 dD) (hg:Gl w) (htx:XB w w.heap.size 1 TA n ((jh p dD).text.map uv)) (htl:(jh p dD).text.length=n) (hn:n<=65536):
  WX Xb 30 #[S_ TA n tcap,P_ (X_ ⟨gd,0,Y_⟩),P_ (X_ ⟨gw,0,Y_⟩)] w (Qf W aj b' w gd gw ⟨Xe Y_ Y_,[]⟩ 0 rt λx=> ∃TA tc SA sc,x=se p dD TA tc SA sc):=by
 have HCR:=Hd (uC p dD W0 B0 TA n tcap w hR hp hg htx htl hn);have HRF:=Hd hR;have H0:=Hd h;have HT:=Hd ht;have hn12:dD.length<=12:=by rw [hp.len];exact hR.rc.n
 clear h hR hp hg htx htl hn ht;go_enter func30,ntmps30;go_wp2_with fail;refine HCR.mono ?_;rintro e w1 ⟨TA2,tc,rfl,hrow1,hA1,hb1⟩;unfold XJ rW
 dsimp only
 obtain ⟨nt,hnt⟩:=nm (dD.length);rw [<-hnt] at hrow1 hn12 |-;refine OM ?_;intro HNT gc hgc w2 hw2;clear hnt HCR;have hb2:Bw w1 w2:=by rw [hw2];exact dL
 have h1:=H0.below hb1 (λ_=>3);refine UB ?_;intro HTH1 h2 t12 hth2 hgc2;have ht2:dJ (λc=>c<=1) W w w2 b' (dN w1 (dN w b' λ_=>3) λ_=>9):=(Xi (J:=λc=>c<=1) hb1 _).trans (t12.mono λ_ c=>c.elim);have hz2:w2.heap.size=gc+1:=by rw [hw2,hgc];simp
 obtain ⟨col2,hcol2⟩:=nm (dN w1 (dN w b' λ_=>3) λ_=>9);rw [<-hcol2] at h2 hth2 hgc2 ht2;have hkc:(gc,25,#[I_ J_ p.c0,I_ J_ p.c1,I_ J_ p.c2,I_ J_ p.a0,I_ J_ p.a1,I_ J_ p.a2,S_ TA2 nt tc,I_ J_ p.fg,I_ J_ p.ret,I_ J_ p.fE,I_ J_ p.dead])∈pD w2 col2 w2.heap.size:=by
  obtain ⟨t,cs,h3,h4⟩:=kH (w:=w2) (b':=col2) (sb:=w2.heap.size) ⟨_,_,hgc2.dr⟩ (by rw [hgc2.b'];decide) (by have:=hgc2.dr.lt;omega);have e:Xd w2 gc t cs:=h3;obtain ⟨e1,e2⟩:=kZ e hgc2.dr;rw [e1,e2] at h4;exact h4
 have HK:=Hd hkc;have H2:=Hd h2;have HTH:=Hd hth2;have HGC:=Hd hgc2;have HT2:=Hd ht2;have HZ2:=Hd hz2;have HOP:=Hd (Ck.Cc h2.ck HT);clear hcol2 hkc h1 h2 HTH1 t12 hth2 hgc2 ht2 hz2 hrow1 hA1 hb1 hb2 H0;go_upto_region 4 with fail;rw [<-hw2,<-hgc];clear hw2 hgc;go_wp2_with fail;refine HOP.mono ?_;rintro e w3 ⟨sb,rfl,hck,hlt⟩;obtain ⟨col3,(H3:WZ _),ht3⟩:=H2.Ey hck (by have e:gc<sb:=hlt _ HK;have:=HZ2.o;show w2.heap.size<=sb;omega);have HTH3:=Hd (HTH.ed ht3 d_);have HGC3:=Hd (HGC.ed ht3 d_);have HT3:=Hd (HT2.trans ht3)
 skip
 clear hck hlt ht3 HOP HK HGC HTH HT2 HZ2 H2;go_upto_region 5 with fail;obtain ⟨wc,I⟩:=nm (Xj w3);have HBc:WZ (Bw w3 wc):=by rw [I];exact b_.drew
 have HS:=Hd (HGC3.dr.a_ HBc);have HB:=Hd (λX=>gu.uQ (rW p TA2 nt tc) X (by show nt<=_;omega));unfold XJ rW at HB
 dsimp only at HB
 have HF1:WZ (∀wx,(WZ (Xd wx gc 25 #[I_ J_ p.c0,I_ J_ p.c1,I_ J_ p.c2,I_ J_ p.a0,I_ J_ p.a1,I_ J_ p.a2,S_ TA2 nt tc,I_ J_ p.fg,I_ J_ p.ret,I_ J_ p.fE,I_ J_ p.dead]))->(C wx gc 0 p.c0)/\(C wx gc 1 p.c1)/\(C wx gc 2 p.c2)/\(C wx gc 3 p.a0)/\(C wx gc 4 p.a1)/\(C wx gc 5 p.a2)/\(C wx gc 6 (S_ TA2 nt tc))/\(C wx gc 7 p.fg)/\(C wx gc 8 p.ret)/\(C wx gc 9 p.fE)/\(C wx gc 10 p.dead)):=λwx hwx=>⟨hwx.cell 0,hwx.cell 1,hwx.cell 2,hwx.cell 3,hwx.cell 4,hwx.cell 5,hwx.cell 6,hwx.cell 7,hwx.cell 8,hwx.cell 9,hwx.cell 10⟩
 refine dm.st HF1 ?_;rw [<-I];clear I;refine XH 4 HS [0,1,2,3,5] HF1 ?_;refine XL 4 3 ?_;refine dm.cl ?_;refine (HB _).mono ?_;rintro e w4 ⟨SA,sc,rfl,hrow4,hb4⟩;obtain ⟨SA9,sc9,e9,hrow4,hA4⟩:=Dk.gW hrow4;cases e9;have HS4:=Hd (HS.a_ hb4);have HB4:=Hd (HBc.trans (hb4.mono HBc.size));have HR4:=Hd (Xm hrow4 (show∀b,Xr SA=X_ b->w3.heap.size<=b from λb hb=>Xy HBc.size (hA4 b hb)));clear hrow4 hb4 hA4 HB HS HBc;refine ⟨_,rfl,HS4,?_⟩;refine XH 2 HS4 [6] HF1 ?_;refine XL 7 1 ?_;refine UC ?_;intro ga hga w5 hw5;have hb5:Bw w3 w5:=by rw [hw5];exact HB4.alloc HB4.size _
 have HK5:WZ (Xd w5 ga 100 #[I_ J_ p.c0,I_ J_ p.c1,I_ J_ p.c2,I_ J_ p.a0,I_ J_ p.a1,I_ J_ p.a2,S_ TA2 nt tc,I_ J_ p.fg,I_ J_ p.ret,I_ J_ p.fE,I_ J_ p.dead,P_ (X_ ⟨gw,0,Y_⟩),P_ (X_ ⟨sb,0,Y_⟩),I_ J_ 0,S_ Y_ 0 0,B_ Z_,B_ Z_,B_ Z_,S_ SA nt sc,I_ J_ 0,I_ J_ 0,I_ J_ 0,I_ J_ (-1),I_ J_ 0,I_ J_ 0,I_ J_ 0,S_ Y_ 0 0,B_ Z_,I_ J_ (-1),B_ Z_]):=by rw [hw5,hga];exact Xf
 have HS5:=Hd (HS4.a_ (show Bw w4 w5 from by rw [hw5];exact dL));have HGA:WZ (w3.heap.size<=ga):=by rw [hga];exact HB4.size
 have HR5:WZ (Xu w5 3 1 SA nt sc ((Xq nt (-1:Int)).map (.int .i64))):=by rw [hw5,Xw];exact HR4.1.dy λb hb=>XC _ _ _ (HR4.1.lt hb)
 refine Uz ?_;intro HB5;clear hw5 hga hb5 HB4 HS4;refine XH 0 HS5 [8] HF1 ?_;refine dm.fi ?_;have hn5:N W w5 (dN w3 col3 λ_=>3) gd sb gw ga ⟨Xe Y_ Y_,[]⟩ 0 rt (se p dD TA2 tc SA sc):=by
  have hnt:=HNT.o;subst hnt;have t35:dJ (λ_=>False) W w3 w5 col3 (dN w3 col3 λ_=>3):=Xi HB5 _;exact ⟨H3.below HB5 _,⟨XI HK5 HGA rfl,HTH3.ed t35 (λc=>c),eG.nil,⟨HR5,λb hb=>fv (HR4.2 b hb)⟩,eG.nil⟩⟩
 have HT5:WZ (dJ (λc=>c<=1) W w w5 b' (dN w3 col3 λ_=>3)):=HT3.trans (Xi HB5 _);have H5:=Hd hn5;clear HB5 HGA HR5 HR4 HT3 H3 HTH3 HGC3 HS5;go_wp2_with fail;exact bodyPost_ret (v:=U_ #[P_ (X_ ⟨ga,0,Y_⟩),I_ J_ 0]) (by simp [results,results30,go_sem]) rfl ⟨ga,sb,_,_,rfl,H5,HT5.mono (λc hc=>⟨o_,o_⟩),TA2,tc,SA,sc,rfl⟩
def UD {p:Prop} (k:q) (h:Wq q->p:=by
 intro kq
 iterate 1 (refine dm.dG rfl (λK' hK'=>?_);go_simp;(first|(refine hK' _ ?_;clear hK' K')|(apply Exists.intro;refine ⟨λwx hwx=>?_,hK' _ ?_⟩;(first|rfl|(have y0:C wx gc 0 p.c0:=(Hid.o hwx).cell 0;have y1:C wx gc 1 p.c1:=(Hid.o hwx).cell 1;have y2:C wx gc 2 p.c2:=(Hid.o hwx).cell 2;have y3:C wx gc 3 p.a0:=(Hid.o hwx).cell 3;have y4:C wx gc 4 p.a1:=(Hid.o hwx).cell 4;have y5:C wx gc 5 p.a2:=(Hid.o hwx).cell 5;have y6:C wx gc 6 (S_ TA2 nt tc):=(Hid.o hwx).cell 6;have y7:C wx gc 7 p.fg:=(Hid.o hwx).cell 7;have y8:C wx gc 8 p.ret:=(Hid.o hwx).cell 8;have y9:C wx gc 9 p.fE:=(Hid.o hwx).cell 9;have y10:C wx gc 10 p.dead:=(Hid.o hwx).cell 10;go_simp;first|done|rfl));clear hK' K')))
 exact kq.o):p:=h ⟨k⟩
def Fi {tmp:Option (List Xo)} (h:S0 W w b' gd gw ⟨Xe (X_ (Xh v ((eK r o0 o1 o2 l).map Xp))) tmp,[]⟩ rt) (ht:Xz tmp) (hR:gu.fK p dD) (hp:p.ok W0 B0 dD) (hg:Gl w) (htx:XB w w.heap.size 1 TA n ((jh p dD).text.map uv)) (htl:(jh p dD).text.length=n) (hn:n<=65536) (hv:0<=v/\v<=4294967295) (hS:eJ r l) (hok: ∀e∈l,e.ok) (hfit:Vi.fI p.a0 p.a1 p.a2 (Vi.eY (dx l))=Y'):
  WX Xb 30 #[S_ TA n tcap,P_ (X_ ⟨gd,0,Y_⟩),P_ (X_ ⟨gw,0,Y_⟩)] w (Qf W aj b' w gd gw ⟨Xe (X_ (Xh v ((eK r o0 o1 o2 l).map Xp))) Y_,[]⟩ v rt λx=> ∃TA tc SA sc PA pc,x={se p dD TA tc SA sc with r:=r,PA:=PA,pc:=pc,l:=l,o0:=o0,o1:=o1,o2:=o2}):=by
 have hbl:=jn (o0:=o0) (o1:=o1) (o2:=o2) hS;have HST:=Hd (Xm hS (Xm hok hfit));have HVV:=Hd hv;obtain ⟨bd,hbd⟩:=nm ((eK r o0 o1 o2 l).map Xp);have HBD:=Hd hbd;have hbdl:bd.length=(eK r o0 o1 o2 l).length:=by rw [hbd];simp
 rw [<-hbd] at h |-;have HBL:=Hd (show 0<bd.length/\bd.length<=90000 from o_);have HBE:=Hd hbdl;clear hv hS hok hfit hbd hbdl hbl;have HCR:=Hd (uC p dD W0 B0 TA n tcap w hR hp hg htx htl hn);have HRF:=Hd hR;have H0:=Hd h;have HT:=Hd ht;have hn12:dD.length<=12:=by rw [hp.len];exact hR.rc.n
 clear h hR hp hg htx htl hn ht;go_enter func30,ntmps30;go_wp2_with fail;refine HCR.o.mono ?_;rintro e w1 ⟨TA2,tc,rfl,hrow1,hA1,hb1⟩;unfold XJ rW
 dsimp only
 obtain ⟨nt,hnt⟩:=nm (dD.length);rw [<-hnt] at hrow1 hn12 |-;refine OM ?_;intro HNT gc hgc w2 hw2;clear hnt HCR;have hb2:Xa w1.heap.size w1 w2:=by rw [hw2];exact b_.alloc l_ _
 have h1:=H0.o.below hb1 (λ_=>3);refine UB ?_;intro HTH1 h2 t12 hth2 hgc2;have ht2:=(Xi (J:=λc=>c<=1) hb1 _).trans (t12.mono λ_ c=>c.elim);have hz2:w2.heap.size=gc+1:=by rw [hw2,hgc];simp
 obtain ⟨col2,hcol2⟩:=nm (dN w1 (dN w b' λ_=>3) λ_=>9);rw [<-hcol2] at h2 hth2 hgc2 ht2;have hkc:(gc,25,#[I_ J_ p.c0,I_ J_ p.c1,I_ J_ p.c2,I_ J_ p.a0,I_ J_ p.a1,I_ J_ p.a2,S_ TA2 nt tc,I_ J_ p.fg,I_ J_ p.ret,I_ J_ p.fE,I_ J_ p.dead])∈pD w2 col2 w2.heap.size:=by
  obtain ⟨t,cs,h3,h4⟩:=kH (w:=w2) (b':=col2) (sb:=w2.heap.size) ⟨_,_,hgc2.dr⟩ (by rw [hgc2.b'];decide) (by have:=hgc2.dr.lt;omega);have e:=h3;obtain ⟨e1,e2⟩:=kZ e hgc2.dr;rw [e1,e2] at h4;exact h4
 have HK:=Hd hkc;have H2:=Hd h2;have HTH:=Hd hth2;have HGC:=Hd hgc2;have HT2:=Hd ht2;have HZ2:=Hd hz2;have HOP:=Hd (Ck.yU h2.ck HT.o HVV.o.1 HVV.o.2 HBL.o.2);clear hcol2 hkc h1 h2 HTH1 t12 hth2 hgc2 ht2 hz2 hrow1 hA1 hb1 hb2 H0;go_upto_region 4 with fail;rw [<-hw2,<-hgc];clear hw2 hgc;go_wp2_with fail;refine HOP.o.mono ?_;rintro e w3 ⟨sb,BA,bc,rfl,hck,hlt,hbr⟩;obtain ⟨col3,hs3,ht3⟩:=H2.o.Ey hck (by have e:gc<sb:=hlt _ HK.o;have:=HZ2.o;show w2.heap.size<=sb;omega);have H3:=Hd hs3;have HTH3:=Hd (HTH.o.ed ht3 d_);have HGC3:=Hd (HGC.o.ed ht3 d_);have HT3:=Hd (HT2.o.trans ht3);have HBR:=Hd (show iv w3 BA (eK r o0 o1 o2 l).length bc (eK r o0 o1 o2 l) from by have:=hbr HBL.o.1;rw [HBE.o] at this;rw [HBD.o,Nd.pF] at this;exact this);clear hbr;rw [HBE.o];clear hck hlt hs3 ht3 HOP HK HGC HTH HT2 HZ2 H2;go_upto_region 5 with fail;obtain ⟨wc,I⟩:=nm (Xj w3);have HBc:=Hd (show Xa w3.heap.size w3 wc from by rw [I];exact b_.drew);have HS:=Hd (HGC3.o.dr.a_ HBc.o);have HB:=Hd (λX=>gu.uQ (rW p TA2 nt tc) X (by show nt<=_;omega));unfold XJ rW at HB
 dsimp only at HB
 refine XF (S:=λwx=>WZ (Xd wx gc 25 #[I_ J_ p.c0,I_ J_ p.c1,I_ J_ p.c2,I_ J_ p.a0,I_ J_ p.a1,I_ J_ p.a2,S_ TA2 nt tc,I_ J_ p.fg,I_ J_ p.ret,I_ J_ p.fE,I_ J_ p.dead])) k_ ?_;rw [<-I];clear I;refine Xx 4 HS [0,1,2,3,5] ?_
 iterate 5 (refine XG rfl (λK' hK'=>?_);go_simp;(first|(refine hK' _ ?_;clear hK' K')|(apply Xk;refine ⟨λwx hwx=>?_,hK' _ ?_⟩;(first|rfl|(have y0:C wx gc 0 p.c0:=(Xc hwx).cell 0;have y1:C wx gc 1 p.c1:=(Xc hwx).cell 1;have y2:C wx gc 2 p.c2:=(Xc hwx).cell 2;have y3:C wx gc 3 p.a0:=(Xc hwx).cell 3;have y4:C wx gc 4 p.a1:=(Xc hwx).cell 4;have y5:C wx gc 5 p.a2:=(Xc hwx).cell 5;have y6:C wx gc 6 (S_ TA2 nt tc):=(Xc hwx).cell 6;have y7:C wx gc 7 p.fg:=(Xc hwx).cell 7;have y8:C wx gc 8 p.ret:=(Xc hwx).cell 8;have y9:C wx gc 9 p.fE:=(Xc hwx).cell 9;have y10:C wx gc 10 p.dead:=(Xc hwx).cell 10;go_simp;first|done|rfl));clear hK' K')))
 refine XM 4 3 ?_;refine wV ?_;refine (HB.o _).mono ?_;rintro e w4 ⟨SA,sc,rfl,hrow4,hb4⟩;obtain ⟨SA9,sc9,e9,hrow4,hA4⟩:=Dk.gW hrow4;cases e9;have HS4:=Hd (HS.o.a_ hb4);have HB4:=Hd (HBc.o.trans (hb4.mono HBc.o.size));have HR4:=Hd (Xm hrow4 (show∀b,Xr SA=X_ b->w3.heap.size<=b from λb hb=>Xy HBc.o.size (hA4 b hb)));clear hrow4 hb4 hA4 HB HS HBc;refine ⟨_,rfl,HS4,?_⟩;refine Xx 2 HS4 [6] ?_;refine UD ?_;refine XM 7 1 ?_;refine UC ?_;intro ga hga w5 hw5;have hb5:Xa w3.heap.size w3 w5:=by rw [hw5];exact HB4.o.alloc HB4.o.size _
 have HK5:=Hd (show Xd w5 ga 100 #[I_ J_ p.c0,I_ J_ p.c1,I_ J_ p.c2,I_ J_ p.a0,I_ J_ p.a1,I_ J_ p.a2,S_ TA2 nt tc,I_ J_ p.fg,I_ J_ p.ret,I_ J_ p.fE,I_ J_ p.dead,P_ (X_ ⟨gw,0,Y_⟩),P_ (X_ ⟨sb,0,Y_⟩),I_ J_ 0,S_ Y_ 0 0,B_ Z_,B_ Z_,B_ Z_,S_ SA nt sc,I_ J_ 0,I_ J_ 0,I_ J_ 0,I_ J_ (-1),I_ J_ 0,I_ J_ 0,I_ J_ 0,S_ Y_ 0 0,B_ Z_,I_ J_ (-1),B_ Z_] from by rw [hw5,hga];exact Xf);have HS5:=Hd (HS4.o.a_ (show Xa w4.heap.size w4 w5 from by rw [hw5];exact b_.alloc l_ _));have HGA:=Hd (show w3.heap.size<=ga from by rw [hga];exact HB4.o.size);have HR5:=Hd (show Xu w5 3 1 SA nt sc ((Xq nt (-1:Int)).map (.int .i64)) from by rw [hw5,Xw];exact HR4.o.1.dy λb hb=>XC _ _ _ (HR4.o.1.lt hb));refine Uz ?_;intro HB5;clear hw5 hga hb5 HB4 HS4;refine Xx 0 HS5 [8] ?_;refine UD ?_;refine dm.df ?_;have hn5:N W w5 (dN w3 col3 λ_=>3) gd sb gw ga ⟨Xe (X_ (Xh v bd)) Y_,[]⟩ v rt (se p dD TA2 tc SA sc):=by
  have hnt:=HNT.o;subst hnt;have t35:dJ (λ_=>False) W w3 w5 col3 (dN w3 col3 λ_=>3):=Xi HB5.o _;exact ⟨H3.o.below HB5.o _,⟨XI HK5.o HGA.o rfl,HTH3.o.ed t35 (λc=>c),eG.nil,⟨HR5.o,λb hb=>fv (HR4.o.2 b hb)⟩,eG.nil⟩⟩
 have HT5:=Hd (show dJ (λc=>c<=1) W w w5 b' (dN w3 col3 λ_=>3) from HT3.o.trans (Xi HB5.o _));have H5:=Hd hn5;have HGT:=Hd (Ri r o0 o1 o2 l HST.o.1 HST.o.2.1 BA (eK r o0 o1 o2 l).length bc w5 (HBR.o.dy λb hb=>HB5.o.block b (HBR.o.lt hb)));have HA5:=Hd (show Aq ({W:=W,w:=w5,b':=dN w3 col3 λ_=>3,gd:=gd,sb:=sb,gw:=gw,ga:=ga,gr:=0,s:=⟨Xe (X_ (Xh v bd)) Y_,[]⟩,v:=v}:Cx) rt (se p dD TA2 tc SA sc) [] [] w5 from AN.start (C:=({W:=W,w:=w5,b':=dN w3 col3 λ_=>3,gd:=gd,sb:=sb,gw:=gw,ga:=ga,gr:=0,s:=⟨Xe (X_ (Xh v bd)) Y_,[]⟩,v:=v}:Cx)) ⟨H5.o,λ_ h=>(by cases h),λ_ h=>(by cases h)⟩);obtain ⟨nb,hnb⟩:=nm ((eK r o0 o1 o2 l).length);rw [<-hnb] at HGT
 try rw [<-hnb]
 clear hnb HB5 HGA HR5 HR4 HT3 H3 HTH3 HGC3 H5;go_wp2_with fail;refine HGT.o.mono ?_;rintro e w6 ⟨PA,pc,he,hB6⟩;unfold gF at he;subst he;have H6:=Hd (HA5.o.below hB6.below);have HS6:=Hd (HS5.o.a_ hB6.below);have HT6:=Hd (HA5.o.state (r:=r) (b0:=o0) (b1:=o1) (b2:=o2) hB6.below hB6.row hB6.fresh).2;have HNE:=Hd (show ga≠gc from λe=>by have h1:=HK5.o;rw [e] at h1;have:=(kZ h1 HS5.o).1;revert this;decide);obtain ⟨u13,n13⟩: ∃v,w6.cell? ⟨ga,13,Y_⟩=X_ v:=⟨_,(H6.o.as []).a 13 d_⟩;have f13:=H6.o.oD 13;obtain ⟨u14,n14⟩: ∃v,w6.cell? ⟨ga,14,Y_⟩=X_ v:=⟨_,(H6.o.as []).a 14 d_⟩;have f14:=H6.o.oD 14;obtain ⟨u15,n15⟩: ∃v,w6.cell? ⟨ga,15,Y_⟩=X_ v:=⟨_,(H6.o.as []).a 15 d_⟩;have f15:=H6.o.oD 15;obtain ⟨u16,n16⟩: ∃v,w6.cell? ⟨ga,16,Y_⟩=X_ v:=⟨_,(H6.o.as []).a 16 d_⟩;have f16:=H6.o.oD 16;obtain ⟨u17,n17⟩: ∃v,w6.cell? ⟨ga,17,Y_⟩=X_ v:=⟨_,(H6.o.as []).a 17 d_⟩;have f17:=H6.o.oD 17;obtain ⟨w7,hw7⟩:=nm (((((w6.setCell ⟨ga,13,Y_⟩ (I_ J_ r)).setCell ⟨ga,14,Y_⟩ (S_ PA l.length pc)).setCell ⟨ga,15,Y_⟩ (B_ o0)).setCell ⟨ga,16,Y_⟩ (B_ o1)).setCell ⟨ga,17,Y_⟩ (B_ o2));have H7:=Hd (show Aq ({W:=W,w:=w5,b':=dN w3 col3 λ_=>3,gd:=gd,sb:=sb,gw:=gw,ga:=ga,gr:=0,s:=⟨Xe (X_ (Xh v bd)) Y_,[]⟩,v:=v}:Cx) rt {se p dD TA2 tc SA sc with r:=r,PA:=PA,pc:=pc,l:=l,o0:=o0,o1:=o1,o2:=o2} [] [] w7 from by rw [hw7];exact HT6.o);have HS7:=Hd (show Xd w7 gc 25 #[I_ J_ p.c0,I_ J_ p.c1,I_ J_ p.c2,I_ J_ p.a0,I_ J_ p.a1,I_ J_ p.a2,S_ TA2 nt tc,I_ J_ p.fg,I_ J_ p.ret,I_ J_ p.fE,I_ J_ p.dead] from by rw [hw7];exact ((((HS6.o.fA (λe=>HNE.o e.symm)).fA (λe=>HNE.o e.symm)).fA (λe=>HNE.o e.symm)).fA (λe=>HNE.o e.symm)).fA (λe=>HNE.o e.symm));clear hB6 HT6 HGT HA5 HS5 HS6;go_upto_region 11 with fail;rw [<-hw7];clear hw7 H6 n13 n14 n15 n16 n17 f13 f14 f15 f16 f17;obtain ⟨wc,I⟩:=nm (Xj w7);have HC:=Hd (show Aq ({W:=W,w:=w5,b':=dN w3 col3 λ_=>3,gd:=gd,sb:=sb,gw:=gw,ga:=ga,gr:=0,s:=⟨Xe (X_ (Xh v bd)) Y_,[]⟩,v:=v}:Cx) rt {se p dD TA2 tc SA sc with r:=r,PA:=PA,pc:=pc,l:=l,o0:=o0,o1:=o1,o2:=o2} [] [] wc from by rw [I];exact H7.o.drew);have HSS:=Hd (Xm (HC.o.as []) (show Xd wc gc 25 #[I_ J_ p.c0,I_ J_ p.c1,I_ J_ p.c2,I_ J_ p.a0,I_ J_ p.a1,I_ J_ p.a2,S_ TA2 nt tc,I_ J_ p.fg,I_ J_ p.ret,I_ J_ p.fE,I_ J_ p.dead] from by rw [I];exact HS7.o));have HW:=Hd (Kw r PA l.length pc o0 o1 o2 l (rW p TA2 nt tc) wc HC.o.gT.sl rfl (by have:=HST.o.1.len;omega) HST.o.2.1);unfold gF XJ rW at HW
 dsimp only at HW
 rw [HST.o.2.2] at HW;clear HS7 H7;refine XF (S:=λwx=>WZ (AS ({W:=W,w:=w5,b':=dN w3 col3 λ_=>3,gd:=gd,sb:=sb,gw:=gw,ga:=ga,gr:=0,s:=⟨Xe (X_ (Xh v bd)) Y_,[]⟩,v:=v}:Cx) (({se p dD TA2 tc SA sc with r:=r,PA:=PA,pc:=pc,l:=l,o0:=o0,o1:=o1,o2:=o2}:AV).arr gw sb) [] [] wx/\Xd wx gc 25 #[I_ J_ p.c0,I_ J_ p.c1,I_ J_ p.c2,I_ J_ p.a0,I_ J_ p.a1,I_ J_ p.a2,S_ TA2 nt tc,I_ J_ p.fg,I_ J_ p.ret,I_ J_ p.fE,I_ J_ p.dead])) k_ ?_;rw [<-I];clear I;refine Xx 3 HSS [0,1,2,3,4,5,6,7] ?_
 iterate 8 (refine XG rfl (λK' hK'=>?_);go_simp;(first|(refine hK' _ ?_;clear hK' K')|(apply Xk;refine ⟨λwx hwx=>?_,hK' _ ?_⟩;(first|rfl|(have UE:C wx ga 13 r:=(Xc hwx).1.a 13 d_;have k14:C wx ga 14 (S_ PA l.length pc):=(Xc hwx).1.a 14 d_;have k15:C wx ga 15 o0:=(Xc hwx).1.a 15 d_;have k16:C wx ga 16 o1:=(Xc hwx).1.a 16 d_;have k17:C wx ga 17 o2:=(Xc hwx).1.a 17 d_;have y0:C wx gc 0 p.c0:=(Xc hwx).2.cell 0;have y1:C wx gc 1 p.c1:=(Xc hwx).2.cell 1;have y2:C wx gc 2 p.c2:=(Xc hwx).2.cell 2;have y3:C wx gc 3 p.a0:=(Xc hwx).2.cell 3;have y4:C wx gc 4 p.a1:=(Xc hwx).2.cell 4;have y5:C wx gc 5 p.a2:=(Xc hwx).2.cell 5;have y6:C wx gc 6 (S_ TA2 nt tc):=(Xc hwx).2.cell 6;have y7:C wx gc 7 p.fg:=(Xc hwx).2.cell 7;have y8:C wx gc 8 p.ret:=(Xc hwx).2.cell 8;have y9:C wx gc 9 p.fE:=(Xc hwx).2.cell 9;have y10:C wx gc 10 p.dead:=(Xc hwx).2.cell 10;go_simp;first|done|rfl));clear hK' K')))
 refine XM 8 2 ?_;refine wV ?_;refine HW.o.mono ?_;rintro e w8 ⟨rfl,hb8⟩;have H8:=Hd (HC.o.below hb8);have HS8:=Hd (Xm (H8.o.as []) (HSS.o.2.a_ hb8));clear hb8 HW HC HSS;refine ⟨_,rfl,HS8,?_⟩;refine Xx 0 HS8 [9,10] ?_
 iterate 2 (refine XG rfl (λK' hK'=>?_);go_simp;(first|(refine hK' _ ?_;clear hK' K')|(apply Xk;refine ⟨λwx hwx=>?_,hK' _ ?_⟩;(first|rfl|(have UE:C wx ga 13 r:=(Xc hwx).1.a 13 d_;have k14:C wx ga 14 (S_ PA l.length pc):=(Xc hwx).1.a 14 d_;have k15:C wx ga 15 o0:=(Xc hwx).1.a 15 d_;have k16:C wx ga 16 o1:=(Xc hwx).1.a 16 d_;have k17:C wx ga 17 o2:=(Xc hwx).1.a 17 d_;have y0:C wx gc 0 p.c0:=(Xc hwx).2.cell 0;have y1:C wx gc 1 p.c1:=(Xc hwx).2.cell 1;have y2:C wx gc 2 p.c2:=(Xc hwx).2.cell 2;have y3:C wx gc 3 p.a0:=(Xc hwx).2.cell 3;have y4:C wx gc 4 p.a1:=(Xc hwx).2.cell 4;have y5:C wx gc 5 p.a2:=(Xc hwx).2.cell 5;have y6:C wx gc 6 (S_ TA2 nt tc):=(Xc hwx).2.cell 6;have y7:C wx gc 7 p.fg:=(Xc hwx).2.cell 7;have y8:C wx gc 8 p.ret:=(Xc hwx).2.cell 8;have y9:C wx gc 9 p.fE:=(Xc hwx).2.cell 9;have y10:C wx gc 10 p.dead:=(Xc hwx).2.cell 10;go_simp;first|done|rfl));clear hK' K')))
 refine dm.df ?_;clear HS8;go_wp2_with fail;obtain ⟨col8,hn8,ht8⟩:=H8.o;exact bodyPost_ret (v:=U_ #[P_ (X_ ⟨ga,0,Y_⟩),I_ J_ 0]) (by simp [results,results30,go_sem]) rfl ⟨ga,sb,col8,_,rfl,hn8.n,(HT5.o.mono λc hc=>⟨o_,o_⟩).trans ht8,TA2,tc,SA,sc,PA,pc,rfl⟩
end
structure No where
 g:Nat
 q:Int
 A:Option WY
 n:Nat
 c:Nat
 dy:List Int
structure Nf where
 W:Z'
 gn:Nat
 gd:Nat
 gw:Nat
 p:ef
 dD:List dA
 TA:Option WY
 tn:Nat
 tc:Nat
def JE (D:Nf) (ga:Nat) (u:WW):Array WW:= #[S_ D.TA D.tn D.tc,P_ (X_ ⟨D.gd,0,Y_⟩),P_ (X_ ⟨D.gw,0,Y_⟩),P_ (X_ ⟨ga,0,Y_⟩),u]
structure Nb (D:Nf) (w:Z') (b':Nat->Nat) (ga:Nat) (u:WW) (o:Option No):Prop where
 dr:fQ w b' 4 D.gn 74 (JE D ga u)
 text:eG w b' 4 5 1 D.TA D.tn D.tc ((jh D.p D.dD).text.map uv)
 note: ∀q,o=X_ q->fQ w b' 4 q.g 77 #[q.q,S_ q.A q.n q.c]/\eG w b' 4 3 1 q.A q.n q.c (q.dy.map (.int .i64))
structure JT (D:Nf):Prop where
 rf:gu.fK D.p D.dD
 ok: ∃W0 B0,D.p.ok W0 B0 D.dD
 gl:Gl D.W
 tl:(jh D.p D.dD).text.length=D.tn
 tm:D.tn<=65536
structure NN (D:Nf) (b':Nat->Nat) (w:Z') (sb ga:Nat) (s:Xl) (v:Int) (rt:Xg) (x:AV) (u:WW) (o:Option No) (L B:BL) (R:List RK):Prop where
 n:N D.W w b' D.gd sb D.gw ga s v rt x
 d:Nb D w b' ga u o
 l: ∀t∈L,fQ w b' 4 t.1 t.2.1 t.2.2
 b: ∀t∈B,fQ w b' 9 t.1 t.2.1 t.2.2
 k: ∀t∈R,eG w b' 9 t.e t.k t.A t.n t.c t.xs
def Nq (D:Nf) (w:Z') (sb ga:Nat) (s:Xl) (v:Int) (rt:Xg) (x:AV) (u:WW) (o:Option No) (L B:BL) (R:List RK):Prop:= ∃b',NN D b' w sb ga s v rt x u o L B R
def JV (D:Nf) (b':Nat->Nat) (w:Z') (sb ga:Nat) (s:Xl) (v:Int):Cx:={W:=D.W,w:=w,b':=b',gd:=D.gd,sb:=sb,gw:=D.gw,ga:=ga,gr:=0,s:=s,v:=v}
section
variable {D:Nf} {w w' w2:Z'} {b' col':Nat->Nat} {sb ga ga' sb':Nat} {s s':Xl} {v v':Int} {rt rt':Xg} {x x':AV} {u u':WW} {o o':Option No} {L L' B B':BL} {R R':List RK} {J:Nat->Prop}
def Nb.ed (h:Nb D w b' ga u o) (t:dJ J D.W w w' b' col') (h4: ¬J 4):Nb D w' col' ga u o:=
 ⟨h.dr.ed t h4,h.text.ed t h4,λq hq=>⟨(h.note q hq).1.ed t h4,(h.note q hq).2.ed t h4⟩⟩
def Nb.Ti (h:Nb D w b' ga u o):Nb D w b' ga u Y_:=⟨h.dr,h.text,λ_ h=>by cases h⟩
def NN.ed (h:NN D b' w sb ga s v rt x u o L B R) (hn:N D.W w' col' D.gd sb' D.gw ga s' v' rt' x') (t:dJ J D.W w w' b' col') (h4: ¬J 4) (h9: ¬J 9):NN D col' w' sb' ga s' v' rt' x' u o L B R:=
 ⟨hn,h.d.ed t h4,λq hq=>(h.l q hq).ed t h4,λq hq=>(h.b q hq).ed t h9,λq hq=>(h.k q hq).ed t h9⟩
def Nq.sub (h:Nq D w sb ga s v rt x u o L B R) (hb: ∀t∈B',t∈B) (hr: ∀t∈R',t∈R):Nq D w sb ga s v rt x u o L B' R':=by obtain ⟨b',h⟩:=h;exact ⟨b',h.n,h.d,h.l,λt ht=>h.b t (hb t ht),λt ht=>h.k t (hr t ht)⟩
def Nq.below (h:Nq D w sb ga s v rt x u o L B R) (F:Bw w w'):Nq D w' sb ga s v rt x u o L B R:=by
 obtain ⟨b',h⟩:=h;have G:dJ (λ_=>False) D.W w w' b' (dN w b' λ_=>9):=Xi F _;exact ⟨_,h.ed (h.n.below F (λ_=>9)) G (λc=>c) (λc=>c)⟩
def Nq.ku {T:TypeId} (h:Nq D w sb ga s v rt x u o L B R) (F:Bw w w') (U:Xd w' g T cs) (hn:w.heap.size<=g):Nq D w' sb ga s v rt x u o L ((g,T,cs)::B) R:=by
 obtain ⟨b',h⟩:=h;have G:dJ (λ_=>False) D.W w w' b' (dN w b' λ_=>9):=Xi F _;have I:=h.ed (h.n.below F (λ_=>9)) G (λc=>c) (λc=>c);refine ⟨_,I.n,I.d,I.l,λq O=>?_,I.k⟩;exact Es
def Nq.kt {e:Nat} (h:Nq D w sb ga s v rt x u o L B R) (F:Bw w w') (U:Xu w' e k A n c xs) (hn: ∀b,Xr A=X_ b->w.heap.size<=b):Nq D w' sb ga s v rt x u o L B (⟨e,k,A,n,c,xs⟩::R):=by
 obtain ⟨b',h⟩:=h;have G:dJ (λ_=>False) D.W w w' b' (dN w b' λ_=>9):=Xi F _;have I:=h.ed (h.n.below F (λ_=>9)) G (λc=>c) (λc=>c);refine ⟨_,I.n,I.d,I.l,I.b,λq O=>?_⟩;exact Et
def Nq.row {e:Nat} (h:Nq D w sb ga s v rt x u o L B R) (F:(⟨e,k,A,n,c,xs⟩:RK)∈R):Xu w e k A n c xs:=by
 obtain ⟨b',h⟩:=h;exact (h.k _ F).row
def Nq.dr {T:TypeId} (h:Nq D w sb ga s v rt x u o L B R) (F:(g,T,cs)∈B):Xd w g T cs:=by
 obtain ⟨b',h⟩:=h;exact (h.b _ F).dr
def Nq.nd (h:Nq D w sb ga s v rt x u o L B R):Xd w D.gn 74 (JE D ga u):=by obtain ⟨b',h⟩:=h;exact h.d.dr.dr
def Nq.base (h:Nq D w sb ga s v rt x u o L B R):Xa D.W.heap.size D.W w:=by obtain ⟨b',h⟩:=h;exact h.n.sys.fm.base
def Nq.VJ {q:No} (h:Nq D w sb ga s v rt x u (X_ q) L B R):Xd w q.g 77 #[q.q,S_ q.A q.n q.c]:=by obtain ⟨b',h⟩:=h;exact (h.d.note q rfl).1.dr
def NN.sD (h:NN D b' w sb ga s v rt x u o L B R):Aq (JV D b' w sb ga s v) rt x [] R w:=AN.start (C:=JV D b' w sb ga s v) ⟨h.n,λ_ h=>(by cases h),h.k⟩
def NN.back (h:NN D b' w sb ga s v rt x u o L B R) (F:Aq {JV D b' w sb ga s v with s:=s',v:=v'} rt' x' [] R' w'):Nq D w' sb ga s' v' rt' x' u o L B R':=by
 obtain ⟨col',I,t⟩:=F;have G:dJ aj D.W w w' b' col':=t;exact ⟨col',I.n,h.d.ed G (λc=>c.a rfl),λq F=>(h.l q F).ed G (λc=>c.a rfl),λq F=>(h.b q F).ed G (λc=>c.b rfl),I.k⟩
def Nb.put (h:Nb D w b' ga u o) (i:Nat) (z:WW) (e:(JE D ga u).setIfInBounds i z=JE D ga' u'):Nb D (w.setCell ⟨D.gn,i,Y_⟩ z) b' ga' u' o:=by
 refine ⟨?_,h.text.set h.dr.dr d_ i z,λq G=>⟨?_,(h.note q G).2.set h.dr.dr d_ i z⟩⟩
 .have:=h.dr.eC i z
  rw [e] at this;exact this
 .obtain ⟨F,hc⟩:=(h.note q G).1
  refine ⟨F.fA λe=>?_,hc⟩;rw [e] at F;have:=(kZ F h.dr.dr).1
  revert this
  decide
def NN.BO (hn:N D.W w b' D.gd sb D.gw ga' s v rt x) (G:Nb D w b' ga u o) (I: ∀t∈L,fQ w b' 4 t.1 t.2.1 t.2.2) (X: ∀t∈L,t.2.1≠74) (U: ∀t∈B,fQ w b' 9 t.1 t.2.1 t.2.2) (V: ∀t∈R,eG w b' 9 t.e t.k t.A t.n t.c t.xs) (i:Nat) (z:WW) (e:(JE D ga u).setIfInBounds i z=JE D ga' u'):NN D b' (w.setCell ⟨D.gn,i,Y_⟩ z) sb ga' s v rt x u' o L B R:=by
 have t:dJ (λc=>c=4) D.W w (w.setCell ⟨D.gn,i,Y_⟩ z) b' b':=dJ.set (J:=λc=>c=4) hn.sys G.dr d_ rfl i z;refine ⟨hn.yb G.dr d_ d_ i z,G.put i z e,λq F=>⟨(I q F).dr.fA λc=>?_,(I q F).b'⟩,λq F=>(U q F).ed t d_,λq F=>(V q F).ed t d_⟩;have O:=(I q F).dr;rw [c] at O;exact X q F (kZ O G.dr.dr).1
def Nq.BO (h:Nq D w sb ga s v rt x u o L B R) (hT: ∀t∈L,t.2.1≠74) (u':WW):Nq D (w.setCell ⟨D.gn,4,Y_⟩ u') sb ga s v rt x u' o L B R:=by obtain ⟨b',h⟩:=h;exact ⟨b',NN.BO h.n h.d h.l hT h.b h.k 4 u' rfl⟩
def Nq.oD (h:Nq D w sb ga s v rt x u o L B R) (i:Nat):w.frozen? ⟨D.gn,i,Y_⟩=Z_:=h.nd.frozen i
def Nq.Tj {T:TypeId} (h:Nq D w sb ga s v rt x u o ((g,T,cs)::L) B R) (hT: ∀t∈L,t.2.1≠T) (I:T≠74) (V:T≠77) (h3:T≠5) (X:T≠3) (i:Nat) (z:WW):Nq D (w.setCell ⟨g,i,Y_⟩ z) sb ga s v rt x u o ((g,T,cs.setIfInBounds i z)::L) B R:=by
 obtain ⟨b',h⟩:=h;have G:=h.l _ (m_ ..);have t:dJ (λc=>c=4) D.W w (w.setCell ⟨g,i,Y_⟩ z) b' b':=dJ.set (J:=λc=>c=4) h.n.sys G d_ rfl i z;have key: ∀{k:Nat} {T':TypeId} {cs':Array WW},fQ w b' 4 k T' cs'->T'≠T->fQ (w.setCell ⟨g,i,Y_⟩ z) b' 4 k T' cs':=λU O=>⟨U.dr.fA λc=>by
  have I:=U.dr;rw [c] at I;exact O (kZ I G.dr).1,U.b'⟩
 refine ⟨b',h.n.yb G d_ d_ i z,⟨key h.d.dr I.symm,h.d.text.set G.dr h3.symm i z,λq F=>⟨key (h.d.note q F).1 V.symm,(h.d.note q F).2.set G.dr X.symm i z⟩⟩,λq F=>?_,λq F=>(h.b q F).ed t d_,λq F=>(h.k q F).ed t d_⟩;rcases p_ F with rfl|F
 .exact G.eC i z
 .exact key (h.l q (n_ _ F)) (hT q F)
def Nq.JW {T:TypeId} (h:Nq D w sb ga s v rt x u o L B R) (I:Bw w w') (U:Xd w' g T cs) (hn:w.heap.size<=g):Nq D w' sb ga s v rt x u o ((g,T,cs)::L) B R:=by
 obtain ⟨b',h⟩:=h;have G:dJ (λ_=>False) D.W w w' b' (dN w b' λ_=>4):=Xi I _;have F:=h.ed (h.n.below I (λ_=>4)) G (λc=>c) (λc=>c);refine ⟨_,F.n,F.d,λq O=>?_,F.b,F.k⟩;rcases p_ O with rfl|O
 .exact XI U hn rfl
 .exact F.l q O
def Nq.BP {T:TypeId} (h:Nq D w sb ga s v rt x u o L B R) (F:(g,T,cs)∈L):Xd w g T cs:=by
 obtain ⟨b',h⟩:=h;exact (h.l _ F).dr
def Nq.tail (h:Nq D w sb ga s v rt x u o (t::L) B R):Nq D w sb ga s v rt x u o L B R:=by
 obtain ⟨b',h⟩:=h;exact ⟨b',h.n,h.d,λq F=>h.l q (n_ _ F),h.b,h.k⟩
structure N0 (D:Nf) (b':Nat->Nat) (w:Z') (ga:Nat) (s:Xl) (rt:Xg) (u:WW) (o:Option No) (L B:BL) (R:List RK):Prop where
 s0:S0 D.W w b' D.gd D.gw s rt
 d:Nb D w b' ga u o
 l: ∀t∈L,fQ w b' 4 t.1 t.2.1 t.2.2
 b: ∀t∈B,fQ w b' 9 t.1 t.2.1 t.2.2
 k: ∀t∈R,eG w b' 9 t.e t.k t.A t.n t.c t.xs
def NN.n0 (h:NN D b' w sb ga s v rt x u o L B R):N0 D b' w ga s rt u o L B R:=⟨h.n.sys.s0,h.d,h.l,h.b,h.k⟩
def N0.ed (h:N0 D b' w ga s rt u o L B R) (hs:S0 D.W w' col' D.gd D.gw s' rt') (t:dJ J D.W w w' b' col') (h4: ¬J 4) (h9: ¬J 9):N0 D col' w' ga s' rt' u o L B R:=
 ⟨hs,h.d.ed t h4,λq hq=>(h.l q hq).ed t h4,λq hq=>(h.b q hq).ed t h9,λq hq=>(h.k q hq).ed t h9⟩
def N0.below (h:N0 D b' w ga s rt u o L B R) (F:Bw w w'):N0 D (dN w b' λ_=>9) w' ga s rt u o L B R:=by
 have G:dJ (λ_=>False) D.W w w' b' (dN w b' λ_=>9):=Xi F _;exact h.ed (h.s0.below F _) G (λc=>c) (λc=>c)
def N0.VK (h:N0 D b' w ga s rt u o L B R) (hT: ∀t∈L,t.2.1≠74) (hn:N D.W w' col' D.gd sb' D.gw ga' s' v' rt' x') (t:dJ aj D.W w w' b' col'):NN D col' (w'.setCell ⟨D.gn,3,Y_⟩ (P_ (X_ ⟨ga',0,Y_⟩))) sb' ga' s' v' rt' x' u o L B R:=
 NN.BO hn (h.d.ed t (λc=>c.a rfl)) (λq hq=>(h.l q hq).ed t (λc=>c.a rfl)) hT (λq hq=>(h.b q hq).ed t (λc=>c.b rfl)) (λq hq=>(h.k q hq).ed t (λc=>c.b rfl)) 3 _ rfl
end
section
variable {D:Nf} {w w' w2:Z'} {b' col':Nat->Nat} {sb ga ga' sb':Nat} {s s':Xl} {v v':Int} {rt rt':Xg} {x x':AV} {u u':WW} {o o':Option No} {L L' B B':BL} {R R':List RK} {J:Nat->Prop}
def kE (h:Nq D w sb ga s v rt x u o L B R) (hl:x.l.length<=1000):
  WX Xb 8 #[P_ (X_ ⟨D.gn,0,Y_⟩)] w (Tf x w):=by
 obtain ⟨w0,hw0⟩:=nm (w.alloc (.cells (gF 0 Y_ 0 0 Z_ Z_ Z_) 34));have HB0:WZ (Bw w w0):=by rw [hw0];exact dL
 have HTH3:WZ (Xd w0 w.heap.size 34 (gF 0 Y_ 0 0 Z_ Z_ Z_)):=by rw [hw0];exact Xf
 have h0:=h.below HB0;have n3:C w0 D.gn 3 (P_ (X_ ⟨ga,0,Y_⟩)):=h0.nd.cell 3;obtain ⟨b',h1⟩:=h0;have HC:=Hd (pW h1.sD hl);have HT3:WZ (WX Xb 21 #[P_ (X_ ⟨ga,0,Y_⟩)] w0 (Tf x w0)):=HC;clear HC h1 h;unfold gF at hw0;go_enter func8,ntmps8;go_upto_region 1 with fail;rw [<-hw0];clear hw0;go_wp2_with fail;refine HT3.mono ?_;rintro e w2 ⟨A',c',he,HR4,hb2,HR5⟩;unfold gF at he;subst he;have Z2:=HTH3.a_ hb2;unfold gF at Z2;have z0:C w2 w.heap.size 0 (I_ J_ 0):=Z2.cell 0;have z1:C w2 w.heap.size 1 (S_ Y_ 0 0):=Z2.cell 1;have z2:C w2 w.heap.size 2 (B_ Z_):=Z2.cell 2;have z3:C w2 w.heap.size 3 (B_ Z_):=Z2.cell 3;have z4:C w2 w.heap.size 4 (B_ Z_):=Z2.cell 4;have zz:=Z2.frozen;have hb:=HB0.trans (hb2.mono HB0.size);have H5:=HTH3.lt;have HQ:=Hd (zQ (w:=w) w.heap.size x.r x.o0 x.o1 x.o2 hb HR4 (λb hk=>by have:=HR5 b hk;omega) l_);have HA:WZ (∀b,Xr A'=X_ b->w.heap.size<=b):=λb hb=>by have:=HR5 b hb;omega
 clear Z2 hb hb2 HR5 HR4 HT3 HB0 HTH3 n3 H5;go_wp2_with fail;refine bodyPost_ret (v:=A_ #[I_ J_ x.r,S_ A' x.l.length c',B_ x.o0,B_ x.o1,B_ x.o2]) (by simp [results,results8,go_sem, *]) rfl ⟨A',c',rfl,?_,?_,HA⟩
 .exact HQ.1
 .exact HQ.2
end
structure SV where
 r:Int
 o0:Bool
 o1:Bool
 o2:Bool
 l:List dq
def SV.body (z:SV):List Xo:=(eK z.r z.o0 z.o1 z.o2 z.l).map Xp
inductive ur (p:ef) (n:Nat):Option (List Xo)->Int->SV->Prop
 |none:ur p n Y_ 0 ⟨0,Z_,Z_,Z_,[]⟩
 |some {z:SV} {v:Int} (h0:0<=v) (hn:v<=n) (hS:eJ z.r z.l) (hok: ∀e∈z.l,e.ok) (hf:Vi.fI p.a0 p.a1 p.a2 (Vi.eY (dx z.l))=Y'):ur p n (X_ (Xh v z.body)) v z
def ur.more {p:ef} {f:Option (List Xo)} {z:SV} (h:ur p n f v z) (hm:n<=m):ur p m f v z:=by
 cases h with
 |none=>exact .none
 |some h0 hn hS hok hf=>exact .some h0 o_ hS hok hf
def ur.v0 {p:ef} {f:Option (List Xo)} {z:SV} (h:ur p n f v z):0<=v/\v<=n:=by
 cases h with
 |none=>exact ⟨XD _,o_⟩
 |some h0 hn hS hok hf=>exact ⟨h0,hn⟩
def ur.lim {p:ef} {f:Option (List Xo)} {z:SV} (h:ur p n f v z) (hn:n<=1000000):Xz f:=by
 cases h with
 |none=>exact Ck.mq.none
 |some h0 hv hS hok hf=>
  have hb:=jn (o0:=z.o0) (o1:=z.o1) (o2:=z.o2) hS;have hbl:z.body.length=(eK z.r z.o0 z.o1 z.o2 z.l).length:=by simp [SV.body]
  exact Ck.mq.some (by have:=(Ck.lP h0 (v:=v) o_ (body:=z.body) o_).2.2.2;exact this)
def uu (p:ef) (dD:List dA) (TA:Option WY) (tc:Nat) (SA:Option WY) (sc:Nat) (PA:Option WY) (pc:Nat) (z:SV):AV:={se p dD TA tc SA sc with r:=z.r,PA:=PA,pc:=pc,l:=z.l,o0:=z.o0,o1:=z.o1,o2:=z.o2}
section
variable {W w w':Z'} {b':Nat->Nat} {gd gw:Nat} {rt:Xg} {p:ef} {dD:List dA} {W0:Z'} {B0:Nat}
def sN {m tmp:Option (List Xo)} {z:SV} (hs:ur p j m v z) (hj:j<=1000000) (h:S0 W w b' gd gw ⟨Xe m tmp,[]⟩ rt) (V:Xz tmp) (I:gu.fK p dD) (U:p.ok W0 B0 dD) (O:Gl w)
  (G:XB w w.heap.size 1 TA n ((jh p dD).text.map uv)) (F:(jh p dD).text.length=n) (hn:n<=65536):
  WX Xb 30 #[S_ TA n tcap,P_ (X_ ⟨gd,0,Y_⟩),P_ (X_ ⟨gw,0,Y_⟩)] w (Qf W aj b' w gd gw ⟨Xe m Y_,[]⟩ v rt λx=> ∃TA tc SA sc PA pc,x=uu p dD TA tc SA sc PA pc z):=by
 cases hs with
 |none=>
  refine (Fh h V I U O G F hn).mono ?_;rintro e w' ⟨ga,sb,col',x,e1,hN,hT,TA,tc,SA,sc,X⟩;exact ⟨ga,sb,col',x,e1,hN,hT,TA,tc,SA,sc,Y_,0,X⟩
 |some h0 hv hS hok hf=>exact Fi h V I U O G F hn ⟨h0,o_⟩ hS hok hf
def Fj {z:SV} (F:gu.fK p dD) (G:p.ok W0 B0 dD) (hl:dD.length<=tc/\tc<=maxLen) (X:eJ z.r z.l) (O: ∀e∈z.l,e.ok):Ok (uu p dD TA tc SA sc PA pc z):=by
 have hr0:=X.r0;have V:(0:Int)<=0/\(0:Int)<=100000:=d_;have U:(0:Int)<=0/\(0:Int)<=9223372036854775807:=d_;refine ⟨⟨⟨F.rc.c0,F.rc.c1,F.rc.c2,by show dD.length<=12;rw [G.len];exact F.rc.n,F.rc.each⟩,F.a0,F.a1,F.a2,F.a3,F.a4,F.p0,F.p1,F.g0,F.g1,F.r0,F.r1,F.d0,?_⟩,λw B h=>⟨G.c0,G.c1,G.c2,G.a0,G.a1,G.a2,G.fg,G.ret,G.fE,G.dead,hl.1,hl.2,rfl,G.each,h⟩,rfl,X,O,by simp [uu,se,rW],λq hq=>?_,V,V,V,⟨XD (-1),by show (-1:Int)<=z.r;omega⟩,U,U,U,List.Pairwise.nil,Nat.zero_le _,λ_ h=>(by cases h)⟩
 .exact F.d1
 .have:q= -1:=by
   have I:q∈Xq dD.length (-1:Int):=hq;exact (List.mem_replicate.1 I).2
  subst this;exact ⟨XD _,by show (-1:Int)<=z.r;omega⟩
end
section
variable {W w w':Z'} {b':Nat->Nat} {gd gw N:Nat} {s:Xl} {rt:Xg}
def S0.Fk {dy:List Int} (h:S0 W w b' gd gw s rt) (hs:Dk.Fits N s) (hN:N<=1000) (F:eG w b' 4 3 1 KA O X (dy.map (.int .i64))) (I: ∀z∈dy,dI.ia z) (U:O<=100000):
  WX Xb 46 #[P_ (X_ ⟨gd,0,Y_⟩),S_ KA O X] w λe w'=>e=R_ (U_ #[])/\ ∃col',S0 W w' col' gd gw ⟨Dk.i' s.fs s.op dy,[]⟩ rt/\dJ (λc=>c<=1) W w w' b' col':=by
 refine (h.fm.Fk (Ck.zJ gd s) hs hN F.row.sl ?_ (λz hz=>(I z hz).2) U).mono ?_
 .intro ad e hn c
  have:=F.b' ad.block (by rw [e];rfl);rw [this] at c;cases c
 .rintro e w' ⟨rfl,col',hc,V,ho⟩
  rw [Ck.ET] at V;refine ⟨rfl,col',⟨V,?_⟩,⟨λk F m=>?_,λk F _=>hc k F⟩⟩
  .refine (h.rt.mono (T:=λk=>col' k=2) λk F c=>(hc k F).trans c).dy λk F c=>ho.block k F λz=>?_
   have z':b' k=1:=z;have c':col' k=2:=c;rw [hc k F,z'] at c';cases c'
  .by_cases G:b' k=1
   .exact absurd ⟨h.lL (by rw [G];decide),.inl (show b' k<=1 by rw [G];decide)⟩ m
   .exact ho.block k F G
end
section
variable {D:Nf} {w w' w2:Z'} {b' col':Nat->Nat} {sb ga ga' sb':Nat} {s s':Xl} {v v':Int} {rt rt':Xg} {x x':AV} {u u':WW} {L B B':BL} {R R':List RK} {J:Nat->Prop} {q:No} {m tmp:Option (List Xo)} {z:SV} {N j:Nat}
def RD (r:Int) (A:Option WY) (n c:Nat) (o0 o1 o2:Bool) (X:Z'):(XE 34 (A_ #[I_ J_ r,S_ A n c,B_ o0,B_ o1,B_ o2]) 0).run Xb X= .ok (I_ J_ r) X:=by
 have F:(Xb).cellsOf 3=1:=k_;simp [XE,run_underlying underlying34,go_sem,F,asAgg]
def RE (r:Int) (A:Option WY) (n c:Nat) (o0 o1 o2:Bool) (X:Z'):(XE 34 (A_ #[I_ J_ r,S_ A n c,B_ o0,B_ o1,B_ o2]) 1).run Xb X= .ok (S_ A n c) X:=by
 exact UW
def Rl (h:Nq D w sb ga s v rt x u (X_ q) L B R) (hT: ∀t∈L,t.2.1≠74/\t.2.1≠55) (hD:JT D) (hs:Dk.Fits N s) (hN:N<=1000) (aF:Dk.i' s.fs s.op q.dy=Xe m tmp) (ht:Xz tmp) (ay:ur D.p j m v' z) (hj:j<=1000000) (aG: ∀z∈q.dy,dI.ia z) (aw:q.n<=100000) (hz:z.l.length<=1000):
  WX Xb 25 #[P_ (X_ ⟨D.gn,0,Y_⟩),S_ q.A q.n q.c] w λe w'=> ∃ga' sb' x',e=R_ (A_ #[I_ J_ 16,T_ ⟨#[]⟩,I_ J_ 0,I_ J_ z.r])/\Nq D w' sb' ga' ⟨Xe m Y_,[]⟩ v' rt x' u (X_ q) L B R/\ ∃TA tc SA sc PA pc,x'=uu D.p D.dD TA tc SA sc PA pc z:=by
 have HT:=Hd hT;have HD:=Hd hD;have HZ:=Hd hz;obtain ⟨g0,ab⟩:=nm (w.heap.size);obtain ⟨w0,ac⟩:=nm (w.alloc (.cells #[I_ J_ 0,T_ ⟨#[]⟩,I_ J_ 0,I_ J_ 0] 55));have au:Bw w w0:=by rw [ac];exact dL
 have h0:Nq D w0 sb ga s v rt x u (X_ q) ((g0,55,#[I_ J_ 0,T_ ⟨#[]⟩,I_ J_ 0,I_ J_ 0])::L) B R:=h.JW au (by rw [ac,ab];exact Xf) (by rw [ab];exact Xn _);have n1:C w0 (D.gn) 1 (P_ (X_ ⟨D.gd,0,Y_⟩)):=h0.nd.cell 1;obtain ⟨b',h1⟩:=h0;have H0:=Hd h1.n0;have ao:=Hd (h1.n.sys.s0.Fk hs hN (h1.d.note q rfl).2 aG aw);rw [aF] at ao;have aC:=Hd (λ(X:Z') (cX:Nat->Nat) (hX:S0 D.W X cX D.gd D.gw ⟨Xe m tmp,[]⟩ rt) (hg:Gl X) (hx:XB X X.heap.size 1 D.TA D.tn ((jh D.p D.dD).text.map uv))=>by
  obtain ⟨W0,B0,aK⟩:=hD.ok;exact sN (tcap:=D.tc) ay hj hX ht hD.rf aK hg hx hD.tl hD.tm)
 clear h1 h hs hN aF ht ay hj aG aw hz hT au hD;go_enter func25,ntmps25;go_upto_region 1 with fail;rw [<-ac,<-ab];clear ac ab;go_wp2_with fail;refine ao.mono ?_;rintro e w1 ⟨rfl,col1,ar,av⟩;have H1:=Hd (H0.ed ar av d_ d_);clear ar av ao H0 n1;go_upto_region 2 with fail;obtain ⟨wc,al⟩:=nm (Xj w1);have HC:=Hd (H1.below (show Bw w1 wc from by rw [al];exact b_.drew));have HS:WZ (∃k,Xd wc D.gn 74 (JE D k u)):=⟨_,HC.d.dr.dr⟩;have aB:=Hd (aC wc _ HC.s0 (HD.gl.below HC.s0.fm.base) HC.d.text.row.sl);clear aC H1;refine XF (S:=λwx=>WZ (∃k,Xd wx D.gn 74 (JE D k u))) k_ ?_;rw [<-al];clear al;refine Xx 7 HS [0,1,2,3,4,5,6,7,8,9,10,11,12] ?_
 iterate 13 (refine XG rfl (λK' F=>?_);go_simp;(first|refine F _ ?_;clear F K'|constructor;refine ⟨λwx I=>?_,F _ ?_⟩;(first|rfl|(have y0:C wx (D.gn) 0 (S_ D.TA D.tn D.tc):=by {obtain ⟨k,hk⟩:=Xc I;exact hk.cell 0};have y1:C wx (D.gn) 1 (P_ (X_ ⟨D.gd,0,Y_⟩)):=by {obtain ⟨k,hk⟩:=Xc I;exact hk.cell 1};have y2:C wx (D.gn) 2 (P_ (X_ ⟨D.gw,0,Y_⟩)):=by {obtain ⟨k,hk⟩:=Xc I;exact hk.cell 2};go_simp<;>rfl));clear F K'))
 refine dm.ee ?_;refine XL 13 6 ?_;refine dm.cl ?_;refine aB.mono ?_;rintro e w2 ⟨G,ae,aQ,O,rfl,ax,ah,(aA:WZ _)⟩;have H3:=Hd (HC.VK (λt ht=>(p_ ht).elim (λe=>by rw [e];exact (d_:(55:TypeId)≠74)) (λht=>(HT t ht).1)) ax ah);have U:=Hd (HC.d.ed ah (λc=>c.a rfl)).dr.dr;have ak:WZ (∃k,Xd w2 D.gn 74 (JE D k u)):=⟨_,U⟩;clear ax ah aB HC HS;refine ⟨_,rfl,ak,?_⟩;refine Xx 1 ak [14,15,16,17,18] ?_
 iterate 5 (refine XG rfl (λK' F=>?_);go_simp;(first|refine F _ ?_;clear F K'|constructor;refine ⟨λwx I=>?_,F _ ?_⟩;(first|rfl|(have y0:C wx (D.gn) 0 (S_ D.TA D.tn D.tc):=by {obtain ⟨k,hk⟩:=Xc I;exact hk.cell 0};have y1:C wx (D.gn) 1 (P_ (X_ ⟨D.gd,0,Y_⟩)):=by {obtain ⟨k,hk⟩:=Xc I;exact hk.cell 1};have y2:C wx (D.gn) 2 (P_ (X_ ⟨D.gw,0,Y_⟩)):=by {obtain ⟨k,hk⟩:=Xc I;exact hk.cell 2};go_simp<;>rfl));clear F K'))
 refine dm.ee ?_;refine XL 19 0 ?_;have n3:C w2 (D.gn) 3 (P_ (X_ ⟨ga,0,Y_⟩)):=U.cell 3;have f3:w2.frozen? ⟨D.gn,3,Y_⟩=Z_:=U.frozen 3;refine dm.skip rfl rfl (w':=w2.setCell ⟨D.gn,3,Y_⟩ (P_ (X_ ⟨G,0,Y_⟩))) (by go_simp) ?_ ?_
 .exact Hd ⟨G,U.eC 3 (P_ (X_ ⟨G,0,Y_⟩))⟩
 clear U ak n3 f3;refine dm.fi ?_;obtain ⟨w3,am⟩:=nm (w2.setCell ⟨D.gn,3,Y_⟩ (P_ (X_ ⟨G,0,Y_⟩)));have H4:WZ (Nq D w3 ae G ⟨Xe m Y_,[]⟩ v' rt O u (X_ q) ((g0,55,#[I_ J_ 0,T_ ⟨#[]⟩,I_ J_ 0,I_ J_ 0])::L) B R):=by rw [am];exact ⟨_,H3⟩
 rw [<-am];clear am H3;have an:O.l=z.l/\O.r=z.r:=by obtain ⟨_,_,_,_,_,_,rfl⟩:=aA;exact ⟨rfl,rfl⟩
 have aE:=Hd (kE H4 (by rw [an.1];exact HZ));have aJ:=Hd an.2;clear an;go_upto_region 3 with fail;go_wp2_with fail;refine aE.mono ?_;rintro e w5 ⟨A5,c5,he,_,az,_⟩;unfold gF at he;subst he;have H5:=Hd (H4.below az);have z0:C w5 g0 0 (I_ J_ 0):=(H5.BP (m_ ..)).cell 0;have z1:C w5 g0 1 (T_ ⟨#[]⟩):=(H5.BP (m_ ..)).cell 1;have z2:C w5 g0 2 (I_ J_ 0):=(H5.BP (m_ ..)).cell 2;have z3:C w5 g0 3 (I_ J_ 0):=(H5.BP (m_ ..)).cell 3;have zz:=(H5.BP (m_ ..)).frozen;have HE:WZ (∀(Y:Z') (cs:Array WW),Nq D Y ae G ⟨Xe m Y_,[]⟩ v' rt O u (X_ q) ((g0,55,cs)::L) B R-> ∀(i:Nat) (y:WW),Nq D (Y.setCell ⟨g0,i,Y_⟩ y) ae G ⟨Xe m Y_,[]⟩ v' rt O u (X_ q) ((g0,55,cs.setIfInBounds i y)::L) B R):=λY cs hY i y=>hY.Tj (λt ht=>(HT t ht).2) d_ d_ d_ d_ i y
 have HQ:=Hd (HE _ _ (HE _ _ (HE _ _ (HE _ _ H5 0 (I_ J_ 16)) 1 (T_ ⟨#[]⟩)) 2 (I_ J_ 0)) 3 (I_ J_ O.r)).tail;clear HE H5 az aE H4;have hf:=λX=>RD O.r A5 O.l.length c5 O.o0 O.o1 O.o2 X
 go_wp2_with fail;refine bodyPost_ret (v:=A_ #[I_ J_ 16,T_ ⟨#[]⟩,I_ J_ 0,I_ J_ O.r]) (by simp [results,results25,go_sem, *]) rfl ⟨G,ae,O,by rw [aJ.o],HQ,aA⟩
end
def Ii (k:Int) (g:Nat):WW:=
 if k=1 then .func (.func 35) #[] #[P_ (X_ ⟨g,0,Y_⟩),P_ (X_ ⟨g+1,0,Y_⟩)]
 else if k=2 then .func (.func 37) #[] #[P_ (X_ ⟨g,0,Y_⟩),P_ (X_ ⟨g+1,0,Y_⟩)]
 else if k=3 then .func (.func 39) #[] #[P_ (X_ ⟨g,0,Y_⟩)]
 else if k=4 then .func (.func 41) #[] #[P_ (X_ ⟨g,0,Y_⟩),P_ (X_ ⟨g+1,0,Y_⟩)]
 else if k=5 then .func (.func 43) #[] #[P_ (X_ ⟨g,0,Y_⟩),P_ (X_ ⟨g+1,0,Y_⟩)]
 else .nilFunc
def xO {p:Prop} (h:p:=by
 go_wp2_with fail;go_ret;exact ⟨rfl,HB,HN,HA⟩):p:=h
def Jc (gn:Nat) (d:dI) (w:Z'):WX Xb 23 #[P_ (X_ ⟨gn,0,Y_⟩),A_ d.arr] w λe w'=>
  e=R_ (Ii d.kd w.heap.size)/\Xa w.heap.size w w'/\Xd w' w.heap.size 29 #[P_ (X_ ⟨gn,0,Y_⟩)]/\Xd w' (w.heap.size+1) 51 d.arr:=by
 unfold Xt;generalize d.kd=kd;obtain ⟨g,hg⟩:=nm (w.heap.size);obtain ⟨w1,hw1⟩:=nm (w.alloc (.cells #[P_ (X_ ⟨gn,0,Y_⟩)] 29));obtain ⟨w2,hw2⟩:=nm (w1.alloc (.cells #[kd,d.dC.id,d.dC.prio,d.dC.fB,d.dC.r0,d.dC.r1,d.dC.r2,d.dC.l0,d.dC.l1,d.dC.l2,d.dC.eO,d.dC.size,d.id,d.raw.time,.float .f64 d.raw.pX,.float .f64 d.raw.pY,.float .f64 d.raw.pZ,S_ d.raw.mG d.raw.kX d.raw.mH,S_ d.ky d.gU d.kz,d.steps,S_ d.kB d.gN d.kC] 51));have hz1:w1.heap.size=g+1:=by rw [hw1,hg];simp
 have HB:WZ (Xa g w w2):=by rw [hw2,hw1,hg];exact (b_.alloc l_ _).alloc y_ _
 have HN:WZ (Xd w2 g 29 #[P_ (X_ ⟨gn,0,Y_⟩)]):=by rw [hw2,hw1,hg];exact Mem.c_.alloc Xf
 have HA:WZ (Xd w2 (g+1) 51 #[kd,d.dC.id,d.dC.prio,d.dC.fB,d.dC.r0,d.dC.r1,d.dC.r2,d.dC.l0,d.dC.l1,d.dC.l2,d.dC.eO,d.dC.size,d.id,d.raw.time,.float .f64 d.raw.pX,.float .f64 d.raw.pY,.float .f64 d.raw.pZ,S_ d.raw.mG d.raw.kX d.raw.mH,S_ d.ky d.gU d.kz,d.steps,S_ d.kB d.gN d.kC]):=by rw [hw2,<-hz1];exact Xf
 have HZ:=Hd hz1;clear hz1;rw [<-hg];have y0:C w2 (g+1) 0 kd:=HA.cell 0;have hmf: ∀(fn:Fn) (first cap:Array WW) (w:Z'),(Instr.makeFunc fn first cap).run Xb w= .ok (.func fn first cap) w:=λ_ _ _ _=>rfl
 go_enter func23,ntmps23;go_upto_region 1 with fail;rw [<-hw1,<-hw2,<-hg];clear hw1 hw2 hg HZ;by_cases h1:kd=1
 .subst h1
  exact xO
 by_cases h2:kd=2
 .subst h2
  exact xO
 by_cases h3:kd=3
 .subst h3
  exact xO
 by_cases h4:kd=4
 .subst h4
  exact xO
 by_cases h5:kd=5
 .subst h5
  exact xO
 have HF:WZ (Ii kd g= .nilFunc):=Hd (by unfold Ii;rw [if_neg h1,if_neg h2,if_neg h3,if_neg h4,if_neg h5]);have e1:(kd==1)=Z_:=by simpa using h1
 have e2:(kd==2)=Z_:=by simpa using h2
 have e3:(kd==3)=Z_:=by simpa using h3
 have e4:(kd==4)=Z_:=by simpa using h4
 have e5:(kd==5)=Z_:=by simpa using h5
 clear h1 h2 h3 h4 h5;go_wp2_with fail;go_ret;exact ⟨by rw [HF.o];rfl,HB,HN,HA⟩
structure Dw (w:Z') (g h gn i k:Nat) (d:dI):Prop where
 a:w.cell? ⟨g,0,Y_⟩=X_ (P_ (X_ ⟨gn,0,Y_⟩))
 b:w.cell? ⟨gn,i,Y_⟩=X_ (P_ (X_ ⟨k,0,Y_⟩))
 c:Xd w h 51 d.arr
def Dw.below (hd:Dw w g h gn i k d) (hb:Bw w w'):Dw w' g h gn i k d:=⟨cell_later hb hd.a,cell_later hb hd.b,hd.c.a_ hb⟩
def Pr {p:Prop} (h:p:=by
 refine dm.st U ?_;rw [<-I];clear I;refine dm.tf 5 HS (u_ 0 6) U ?_;refine dm.on 6 4 ?_;refine dm.cl ?_;refine HC.mono ?_;intro e w2 hq;obtain ⟨(aa:Hid _),a,b,rfl⟩:=HK e w2 hq;have HQ:=Hd hq;clear hq HC HK HS;refine ⟨_,rfl,aa,?_⟩;refine dm.tf 0 aa (u_ 7 4) U ?_;refine dm.fi ?_;go_wp2_with fail;exact HQ):p:=h
def Bd (g h O k:Nat) (d:dI) (w:Z') (Q:Ending->Z'->Prop) (hd:Dw w g h O 3 k d) (hK: ∀e w',Q e w'->Dw w' g h O 3 k d/\ ∃a b,e=R_ (U_ #[a,b])) (hA: ∀X,Bw w X->WX Xb 36 #[P_ (X_ ⟨k,0,Y_⟩),A_ d.dC.arr] X Q):
  WX Xb 35 #[P_ (X_ ⟨g,0,Y_⟩),P_ (X_ ⟨h,0,Y_⟩)] w Q:=by
 have HD:=Hd hd;have HK:=Hd hK;have HA:=Hd hA;clear hd hK hA;unfold dz.arr at HA;go_enter func35,ntmps35;go_upto_region 1 with fail;obtain ⟨wc,I⟩:=nm (Xj w);have HB:WZ (Bw w wc):=by rw [I];exact b_.drew
 have HS:=Hd (HD.below HB);have HC:=Hd (HA wc HB);clear HA HB HD;have U:WZ (∀wx,(WZ (Dw wx g h O 3 k d))->(C wx g 0 (P_ (X_ ⟨O,0,Y_⟩)))/\(C wx O 3 (P_ (X_ ⟨k,0,Y_⟩)))/\(C wx h 1 d.dC.id)/\(C wx h 2 d.dC.prio)/\(C wx h 3 d.dC.fB)/\(C wx h 4 d.dC.r0)/\(C wx h 5 d.dC.r1)/\(C wx h 6 d.dC.r2)/\(C wx h 7 d.dC.l0)/\(C wx h 8 d.dC.l1)/\(C wx h 9 d.dC.l2)/\(C wx h 10 d.dC.eO)/\(C wx h 11 d.dC.size)):=λwx F=>⟨F.a,F.b,F.c.cell 1,F.c.cell 2,F.c.cell 3,F.c.cell 4,F.c.cell 5,F.c.cell 6,F.c.cell 7,F.c.cell 8,F.c.cell 9,F.c.cell 10,F.c.cell 11⟩
 exact Pr
def Be (g h O k:Nat) (d:dI) (w:Z') (Q:Ending->Z'->Prop) (hd:Dw w g h O 3 k d) (hK: ∀e w',Q e w'->Dw w' g h O 3 k d/\ ∃a b,e=R_ (U_ #[a,b])) (hA: ∀X,Bw w X->WX Xb 38 #[P_ (X_ ⟨k,0,Y_⟩),d.id] X Q):
  WX Xb 37 #[P_ (X_ ⟨g,0,Y_⟩),P_ (X_ ⟨h,0,Y_⟩)] w Q:=by
 have HD:=Hd hd;have HK:=Hd hK;have HA:=Hd hA;clear hd hK hA;go_enter func37,ntmps37;go_upto_region 1 with fail;obtain ⟨wc,I⟩:=nm (Xj w);have HB:WZ (Bw w wc):=by rw [I];exact b_.drew
 have HS:=Hd (HD.below HB);have HC:=Hd (HA wc HB);clear HA HB HD;have U:WZ (∀wx,(WZ (Dw wx g h O 3 k d))->(C wx g 0 (P_ (X_ ⟨O,0,Y_⟩)))/\(C wx O 3 (P_ (X_ ⟨k,0,Y_⟩)))/\(C wx h 12 d.id)):=λwx G=>⟨G.a,G.b,G.c.cell 12⟩
 exact Pr
def Bf (g O k:Nat) (w:Z') (Q:Ending->Z'->Prop) (X:w.cell? ⟨g,0,Y_⟩=X_ (P_ (X_ ⟨O,0,Y_⟩))) (hb:w.cell? ⟨O,3,Y_⟩=X_ (P_ (X_ ⟨k,0,Y_⟩))) (U: ∀e w',Q e w'-> ∃a b,e=R_ (U_ #[a,b])) (G:WX Xb 40 #[P_ (X_ ⟨k,0,Y_⟩)] w Q):
  WX Xb 39 #[P_ (X_ ⟨g,0,Y_⟩)] w Q:=by
 have I:=Hd U;have HA:=Hd G;clear U G;go_enter func39,ntmps39;go_wp2_with fail;refine HA.mono ?_;intro e w2 F;obtain ⟨a,b,rfl⟩:=I e w2 F;have V:=Hd F;clear F HA I X hb;go_wp2_with fail;exact V
def Bg (g h O k:Nat) (d:dI) (w:Z') (Q:Ending->Z'->Prop) (hd:Dw w g h O 3 k d) (hK: ∀e w',Q e w'->Dw w' g h O 3 k d/\ ∃a,e=R_ a) (hA: ∀X,Bw w X->WX Xb 42 #[P_ (X_ ⟨k,0,Y_⟩),A_ d.raw.arr] X Q):
  WX Xb 41 #[P_ (X_ ⟨g,0,Y_⟩),P_ (X_ ⟨h,0,Y_⟩)] w (λe w'=> ∃a,Q (R_ a) w'/\e=R_ (U_ #[S_ Y_ 0 0,a])):=by
 have HD:=Hd hd;have HK:=Hd hK;have HA:=Hd hA;clear hd hK hA;unfold gj.arr at HA;go_enter func41,ntmps41;go_upto_region 1 with fail;obtain ⟨wc,I⟩:=nm (Xj w);have HB:WZ (Bw w wc):=by rw [I];exact b_.drew
 have HS:=Hd (HD.below HB);have HC:=Hd (HA wc HB);clear HA HB HD;have U:WZ (∀wx,(WZ (Dw wx g h O 3 k d))->(C wx g 0 (P_ (X_ ⟨O,0,Y_⟩)))/\(C wx O 3 (P_ (X_ ⟨k,0,Y_⟩)))/\(C wx h 13 d.raw.time)/\(C wx h 14 (.float .f64 d.raw.pX))/\(C wx h 15 (.float .f64 d.raw.pY))/\(C wx h 16 (.float .f64 d.raw.pZ))/\(C wx h 17 (S_ d.raw.mG d.raw.kX d.raw.mH))):=λwx F=>⟨F.a,F.b,F.c.cell 13,F.c.cell 14,F.c.cell 15,F.c.cell 16,F.c.cell 17⟩
 refine dm.st U ?_;rw [<-I];clear I;refine XH 3 HS (u_ 0 6) U ?_;refine XL 6 2 ?_;refine dm.cl ?_;refine HC.mono ?_;intro e w2 hq;obtain ⟨(aa:WZ _),a,rfl⟩:=HK e w2 hq;have HQ:=Hd hq;clear hq HC HK HS;refine ⟨_,rfl,aa,?_⟩;refine XH 0 aa [7,8] U ?_;refine dm.fi ?_;go_wp2_with fail;exact ⟨rfl,U_ #[S_ Y_ 0 0,a],by simp [results,results41,go_sem],a,HQ,rfl⟩
def Bh (g h O k:Nat) (d:dI) (w:Z') (Q:Ending->Z'->Prop) (hd:Dw w g h O 2 k d) (hK: ∀e w',Q e w'->Dw w' g h O 2 k d/\ ∃a,e=R_ a) (hA: ∀X,Bw w X->WX Xb 44 #[P_ (X_ ⟨k,0,Y_⟩),S_ d.ky d.gU d.kz] X Q):
  WX Xb 43 #[P_ (X_ ⟨g,0,Y_⟩),P_ (X_ ⟨h,0,Y_⟩)] w (λe w'=> ∃a,Q (R_ a) w'/\e=R_ (U_ #[S_ Y_ 0 0,a])):=by
 have HD:=Hd hd;have HK:=Hd hK;have HA:=Hd hA;clear hd hK hA;go_enter func43,ntmps43;go_upto_region 1 with fail;obtain ⟨wc,I⟩:=nm (Xj w);have HB:WZ (Bw w wc):=by rw [I];exact b_.drew
 have HS:=Hd (HD.below HB);have HC:=Hd (HA wc HB);clear HA HB HD;have U:WZ (∀wx,(WZ (Dw wx g h O 2 k d))->(C wx g 0 (P_ (X_ ⟨O,0,Y_⟩)))/\(C wx O 2 (P_ (X_ ⟨k,0,Y_⟩)))/\(C wx h 18 (S_ d.ky d.gU d.kz))):=λwx G=>⟨G.a,G.b,G.c.cell 18⟩
 refine dm.st U ?_;rw [<-I];clear I;refine XH 3 HS (u_ 0 8) U ?_;refine XL 8 2 ?_;refine dm.cl ?_;refine HC.mono ?_;intro e w2 hq;obtain ⟨(aa:WZ _),a,rfl⟩:=HK e w2 hq;have HQ:=Hd hq;clear hq HC HK HS;refine ⟨_,rfl,aa,?_⟩;refine XH 0 aa [9,10] U ?_;refine dm.fi ?_;go_wp2_with fail;exact ⟨rfl,U_ #[S_ Y_ 0 0,a],by simp [results,results43,go_sem],a,HQ,rfl⟩
def kF (d:dI) (x:AV) (rt:Xg) (err:Int) (ev:List dX) (y:AV) (rt':Xg) (sv:Bool):Prop:=
 (d.kd=1/\rt'=rt/\((err≠0/\pO x d.dC err 0 0 []/\ev=[]/\y=x/\sv=Z_)\/
  (err=0/\ ∃k s:Int,(k=3\/k=4)/\pO x d.dC 0 k s []/\ev=[⟨3,d.dC.id,s,k⟩]/\y=x/\sv=Z_)\/
  (err=0/\ ∃(k s:Int) (outs:List ByteArray),(k=1\/k=2)/\pO x d.dC 0 k s outs/\ev=nY outs++[⟨1,d.dC.id,0,0⟩]/\(∃A c,y={x with PA:=A,pc:=c,l:=ep (jR x.l outs) ⟨d.dC,1⟩})/\sv=Y')))\/
 (d.kd=2/\rt'=rt/\((err=4/\du.has (eo x.l) d.id=Z_/\ev=[]/\y=x/\sv=Z_)\/ ∃q∈x.l,q.dC.id=d.id/\
  ((err=7/\q.ph=3/\ev=[]/\y=x/\sv=Z_)\/(err=0/\q.ph≠3/\ev=[⟨4,d.id,0,0⟩]/\(∃A c,y={x with PA:=A,pc:=c,l:=ep x.l ⟨q.dC,3⟩})/\sv=Y'))))\/
 (d.kd=3/\err=0/\jZ x rt ev rt' y/\sv=Y')\/
 (d.kd=4/\rt'=rt/\ev=[]/\sv=Z_/\((err≠0/\(¬Tw.iq d.raw\/Tw.ir d.raw.time x.t x.r x.p.fE=Y')/\y=x)\/(err=0/\Tw.iq d.raw/\Tw.ir d.raw.time x.t x.r x.p.fE=Z_/\
  ∃(A:Option WY) (c:Nat) (us:List et),us.Perm (d.raw.use.map Tw.j_)/\du.dY (iK us)/\y={x with t:=d.raw.time,a0:=Fl.rdv d.raw.pX,a1:=Fl.rdv d.raw.pY,a2:=Fl.rdv d.raw.pZ,UA:=A,uc:=c,us:=us,fr:=Y'})))\/
 (d.kd=5/\ev=[]/\sv=Z_/\y=x/\((4096<rt.outs.length+d.eD.length/\err=6/\rt'=rt)\/(rt.outs.length+d.eD.length<=4096/\err=0/\rt'={rt with outs:=rt.outs++d.eD})))
def wE (f:Int) (m:Option (List Xo)) (v:Int) (sv:Bool) (err0:Int) (ev0:List dX) (y:AV) (err:Int) (ev:List dX) (x':AV) (s':Xl) (v':Int):Prop:=
 (sv=Z_/\err=err0/\ev=ev0/\x'=y/\s'=⟨Xe m Y_,[]⟩/\v'=v)\/
 (sv=Y'/\f= -1/\err=err0/\ev=ev0/\x'=y/\s'=⟨Xe (X_ (Xh (v+1) (jo y))) Y_,[]⟩/\v'=v+1)\/
 (sv=Y'/\ ∃r:Nat,r<=4/\f=r/\err=7/\ev=[]/\x'={y with dead:=Y'}/\s'=Ck.ij (Xh (v+1) (jo y)) m r/\v'=Ck.yy v r)
def VR (C:Cx) (m:Option (List Xo)) (rt:Xg) (y:AV) (R:List RK) (EA:Option WY) (n ec:Nat) (a b:WW) (w':Z'):Prop:=
 (y.eB= -1/\a=S_ EA n ec/\b=I_ J_ 0/\Aq {C with s:=⟨Xe (X_ (Xh (C.v+1) (jo y))) Y_,[]⟩,v:=C.v+1} rt y [] R w')\/
 (∃r:Nat,r<=4/\y.eB=r/\a=S_ Y_ 0 0/\b=I_ J_ 7/\Aq {C with s:=Ck.ij (Xh (C.v+1) (jo y)) m r,v:=Ck.yy C.v r} rt {y with dead:=Y'} [] R w')
section
variable {C:Cx} {m:Option (List Xo)} {w w':Z'} {f:Int} {rt:Xg} {x:AV} {B:BL} {R:List RK}
def VS (hs:C.s=⟨Xe m Y_,[]⟩) (V:0<=C.v/\C.v<4294967295) (U:Xz m) (X:f= -1\/ ∃r:Nat,r<=4/\f=r):Ad C (VR C m) f:=by
 intro rt x R w EA n ec h I G F;rcases X with rfl|⟨r,O,rfl⟩
 .exact (KR h I G hs V U F EA n ec).mono λe w' p=>⟨_,_,p.1,.inl ⟨F,rfl,rfl,p.2⟩⟩
 .exact (KT h I G hs V U r O F EA n ec).mono λe w' p=>⟨_,_,p.1,.inr ⟨r,O,F,rfl,rfl,p.2⟩⟩
def Aq.yz {e:Nat} (h:Aq C rt x B R w):Aq C rt x B (⟨e,k,Y_,0,0,[]⟩::R) w:=h.kt b_ Ro.Row.nil λ_ h=>(by cases h)
def KU {y:AV} (h:VR C m rt y (⟨55,4,EA,ev0.length,ec,Xs ev0⟩::R) EA ev0.length ec a b w'):
  ∃(err:Int) (ev:List dX) (x':AV) (s':Xl) (v':Int) (A:Option WY) (c:Nat),wE y.eB m C.v Y' 0 ev0 y err ev x' s' v'/\a=S_ A ev.length c/\b=I_ J_ err/\Aq {C with s:=s',v:=v'} rt x' [] (⟨55,4,A,ev.length,c,Xs ev⟩::R) w':=by
 rcases h with ⟨F,G,O,I⟩|⟨r,U,F,G,O,I⟩
 .exact ⟨_,_,_,_,_,_,_,.inr (.inl ⟨rfl,F,rfl,rfl,rfl,rfl,rfl⟩),G,O,I⟩
 .exact ⟨_,_,_,_,_,Y_,0,.inr (.inr ⟨rfl,r,U,F,rfl,rfl,rfl,rfl,rfl⟩),G,O,(I.sub (λ_ h=>h) λt V=>n_ _ V).yz⟩
end
structure Live (D:Nf) (k:Nat) (x:AV) (rt:Xg):Prop where
 ok:Ok x
 ju:eu k rt
 im:jc rt
 dead:x.dead=Z_
section
variable {D:Nf} {w w' w2:Z'} {b' col':Nat->Nat} {sb ga ga' sb':Nat} {s s':Xl} {v v':Int} {rt rt':Xg} {x x':AV} {u u':WW} {o o':Option No} {L L' B B':BL} {R R':List RK} {m:Option (List Xo)} {k g h:Nat} {d:dI}
def sU (D:Nf) (sb ga:Nat) (m:Option (List Xo)) (v:Int) (rt:Xg) (x:AV) (u:WW) (o:Option No) (L B:BL) (R:List RK) (d:dI) (e:Ending) (w':Z'):Prop:=
 ∃(err0:Int) (ev0:List dX) (y:AV) (rt':Xg) (sv:Bool) (err:Int) (ev:List dX) (x':AV) (s':Xl) (v':Int) (A:Option WY) (c:Nat),kF d x rt err0 ev0 y rt' sv/\wE x.eB m v sv err0 ev0 y err ev x' s' v'/\
  e=R_ (U_ #[S_ A ev.length c,err])/\Nq D w' sb ga s' v' rt' x' u o L B (⟨55,4,A,ev.length,c,Xs ev⟩::R)
def NN.no {y:AV} {rt':Xg} {err:Int} (hN:NN D b' w sb ga ⟨Xe m Y_,[]⟩ v rt x u o L B R) (ha:kF d x rt err ev y rt' Z_) (he:e=R_ (U_ #[S_ A ev.length c,err]))
  (h:Aq (JV D b' w sb ga ⟨Xe m Y_,[]⟩ v) rt' y [] (⟨55,4,A,ev.length,c,Xs ev⟩::R) w'):sU D sb ga m v rt x u o L B R d e w':=
 ⟨err,ev,y,rt',Z_,err,ev,y,_,v,A,c,ha,.inl ⟨rfl,rfl,rfl,rfl,rfl,rfl⟩,he,hN.back (s':=⟨Xe m Y_,[]⟩) (v':=v) h⟩
def NN.VT {y:AV} {rt':Xg} (U:NN D b' w sb ga ⟨Xe m Y_,[]⟩ v rt x u o L B R) (X:kF d x rt 0 ev0 y rt' Y') (O:y.eB=x.eB) (G:e=R_ (U_ #[a,b]))
  (h:VR (JV D b' w sb ga ⟨Xe m Y_,[]⟩ v) m rt' y (⟨55,4,EA,ev0.length,ec,Xs ev0⟩::R) EA ev0.length ec a b w'):sU D sb ga m v rt x u o L B R d e w':=by
 obtain ⟨err,ev,x',s',v',A,c,F,I,h3,V⟩:=KU h;rw [O] at F;subst I h3;exact ⟨0,ev0,y,rt',Y',err,ev,x',s',v',A,c,X,F,G,U.back V⟩
def Af (V:d.kd=1) (U:NN D b' w sb ga ⟨Xe m Y_,[]⟩ v rt x u o L B R) (X:Live D k x rt) (hv:0<=v/\v<4294967295) (hm:Xz m) (hf:x.eB= -1\/ ∃r:Nat,r<=4/\x.eB=r) (hd:d.dC.ok):
  WX Xb 36 #[P_ (X_ ⟨ga,0,Y_⟩),A_ d.dC.arr] w (sU D sb ga m v rt x u o L B R d):=by
 refine (KV (VS (C:=JV D b' w sb ga ⟨Xe m Y_,[]⟩ v) rfl hv hm hf) d.dC U.sD X.ok X.dead hd).mono ?_;rintro e w' (⟨q,F,G,O,I⟩|⟨k,s,EA,F,G,O,I⟩|⟨k,s,outs,F,G,A,c,EA,ec,a,b,O,I⟩)
 .exact U.no (.inl ⟨V,rfl,.inl ⟨F,G,rfl,rfl,rfl⟩⟩) O I.yz
 .exact U.no (.inl ⟨V,rfl,.inr (.inl ⟨rfl,k,s,F,G,rfl,rfl,rfl⟩)⟩) O I
 .refine U.VT (ev0:=nY outs++[⟨1,d.dC.id,0,0⟩]) (EA:=EA) (ec:=ec) (.inl ⟨V,rfl,.inr (.inr ⟨rfl,k,s,outs,F,G,rfl,⟨A,c,rfl⟩,rfl⟩)⟩) rfl O ?_
  have e:(nY outs++[(⟨1,d.dC.id,0,0⟩:dX)]).length=outs.length+1:=by simp [nY]
  rw [e];exact I
def wF (V:d.kd=2) (O:NN D b' w sb ga ⟨Xe m Y_,[]⟩ v rt x u o L B R) (hl:Live D k x rt) (hv:0<=v/\v<4294967295) (hm:Xz m) (hf:x.eB= -1\/ ∃r:Nat,r<=4/\x.eB=r):
  WX Xb 38 #[P_ (X_ ⟨ga,0,Y_⟩),d.id] w (sU D sb ga m v rt x u o L B R d):=by
 refine (nZ (VS (C:=JV D b' w sb ga ⟨Xe m Y_,[]⟩ v) rfl hv hm hf) d.id O.sD hl.ok hl.dead).mono ?_;rintro e w' (⟨G,I,F⟩|⟨q,G,I,⟨F,U,X⟩|⟨F,A,c,EA,ec,a,b,U,X⟩⟩)
 .exact O.no (.inr (.inl ⟨V,rfl,.inl ⟨rfl,G,rfl,rfl,rfl⟩⟩)) I F.yz
 .exact O.no (.inr (.inl ⟨V,rfl,.inr ⟨q,G,I,.inl ⟨rfl,F,rfl,rfl,rfl⟩⟩⟩)) U X.yz
 .exact O.VT (ev0:=[⟨4,d.id,0,0⟩]) (EA:=EA) (ec:=ec) (.inr (.inl ⟨V,rfl,.inr ⟨q,G,I,.inr ⟨rfl,F,rfl,⟨A,c,rfl⟩,rfl⟩⟩⟩)) rfl U X
def sT {y:AV} (h:jZ x rt ev rt' y):y.eB=x.eB:=by
 obtain ⟨xs,zs,b,l3,e3,SA,sc,A,c,_,_,_,_,_,_,rfl⟩:=h;rfl
def FM (hk:d.kd=3) (I:NN D b' w sb ga ⟨Xe m Y_,[]⟩ v rt x u o L B R) (F:Live D k x rt) (U:k<=8000) (X:x.r<1099511627776) (hv:0<=v/\v<4294967295) (hm:Xz m) (V:x.eB= -1\/ ∃r:Nat,r<=4/\x.eB=r):
  WX Xb 40 #[P_ (X_ ⟨ga,0,Y_⟩)] w (sU D sb ga m v rt x u o L B R d):=by
 refine (Qp (VS (C:=JV D b' w sb ga ⟨Xe m Y_,[]⟩ v) rfl hv hm V) I.sD F.ok F.ju U F.im F.dead X).mono ?_;rintro e w' ⟨rt',y,ev,EA,ec,a,b,G,O,h3⟩;exact I.VT (.inr (.inr (.inl ⟨hk,rfl,G,rfl⟩))) (sT G) O h3
def wG (X:d.kd=4) (I:NN D b' w sb ga ⟨Xe m Y_,[]⟩ v rt x u o L B R) (V:Live D k x rt) (hr:gj.gG w w.heap.size d.raw) (hd:d.raw.ok):
  WX Xb 42 #[P_ (X_ ⟨ga,0,Y_⟩),A_ d.raw.arr] w λe w'=> ∃a,e=R_ a/\sU D sb ga m v rt x u o L B R d (R_ (U_ #[S_ Y_ 0 0,a])) w':=by
 refine (FN d.raw I.sD V.ok V.dead hr hd).mono ?_;rintro e w' (⟨q,F,G,U,O⟩|⟨F,G,U,A,c,us,O,h5,h6⟩)
 .exact ⟨_,U,I.no (.inr (.inr (.inr (.inl ⟨X,rfl,rfl,rfl,.inl ⟨F,G,rfl⟩⟩)))) rfl O.yz⟩
 .exact ⟨_,U,I.no (.inr (.inr (.inr (.inl ⟨X,rfl,rfl,rfl,.inr ⟨rfl,F,G,A,c,us,O,h5,rfl⟩⟩)))) rfl h6.yz⟩
def FO (V:d.kd=5) (G:NN D b' w sb ga ⟨Xe m Y_,[]⟩ v rt x u o L B R) (hl:Live D k x rt) (hw:XB w w.heap.size 1 d.ky d.gU (d.eD.map Value.bool)) (hn:d.gU<=1000000):
  WX Xb 44 #[P_ (X_ ⟨D.gw,0,Y_⟩),S_ d.ky d.gU d.kz] w λe w'=> ∃a,e=R_ a/\sU D sb ga m v rt x u o L B R d (R_ (U_ #[S_ Y_ 0 0,a])) w':=by
 have F:d.eD.length=d.gU:=by have:=hw.1;simpa using this
 have key: ∀(q:Int) (rt':Xg) (e:Ending) (w':Z'),e=R_ (I_ J_ q)->Wo.en (λk=>b' k=2) w w' D.gw rt'->kF d x rt q [] x rt' Z_-> ∃a,e=R_ a/\sU D sb ga m v rt x u o L B R d (R_ (U_ #[S_ Y_ 0 0,a])) w':=by
  intro q rt' e w' he hp ha;obtain ⟨hn,X⟩:=G.n.asks hp;have hA:Aq (JV D b' w sb ga ⟨Xe m Y_,[]⟩ v) rt' x [] R w':=⟨_,⟨hn,λ_ h=>(by cases h),λq hq=>(G.k q hq).ed X d_⟩,X.mono λc hc=>⟨o_,o_⟩⟩;exact ⟨_,he,G.no ha rfl hA.yz⟩
 refine (PY D.gw rt _ d.ky d.gU d.kz d.eD w G.n.sys.rt hw hn hl.ju.eN.no).mono ?_;rintro e w' ⟨h1,h2⟩;by_cases U:4096<rt.outs.length+d.gU
 .obtain ⟨O,I⟩:=h1 U
  exact key 6 rt e w' O I (.inr (.inr (.inr (.inr ⟨V,rfl,rfl,rfl,.inl ⟨by rw [F];exact U,rfl,rfl⟩⟩))))
 .obtain ⟨O,I⟩:=h2 o_
  exact key 0 _ e w' O I (.inr (.inr (.inr (.inr ⟨V,rfl,rfl,rfl,.inr ⟨by rw [F];omega,rfl,rfl⟩⟩))))
end
def VZ:Mem.El Xb 49 3 (I_ J_ 0) 1 8:=⟨underlying49,k_,rfl,d_⟩
def Mz (l:List Int): ∀u∈l.map (Xv .i64),u.oneCell'=Y':=by intro u hu;obtain ⟨b,_,rfl⟩:=List.mem_map.1 hu;rfl
def ID (A:Option WY) (n c:Nat) (l:List Int) (w:Z') (h:XB w w.heap.size 1 A n (l.map (Xv .i64))) (hn:n<=1000000):
  WX Xb 22 #[S_ A n c] w λe w'=> ∃A' c',e=R_ (S_ A' n c')/\eF w w' 3 1 A' n c' (l.map (Xv .i64)):=by
 cases A with
 |none=>
  have X:n=0:=by
   rcases Nat.eq_zero_or_pos n with h0|h0
   .exact h0
   .obtain ⟨ad,e,_⟩:=h.2 h0
    cases e
  subst X;have F:l=[]:=by
   have:=h.1;simp at this;exact this
  subst F;have O: ∀w,(binOp .eql 49 (S_ Y_ 0 c) (S_ Y_ 0 0)).run Xb w= .ok (B_ Y') w:=λw=>k_
  go_enter func22,ntmps22;go_wp2_with fail;go_ret;exact ⟨_,_,rfl,eF.nil b_⟩
 |some ad=>
  have I:Xu (w.alloc (.cells #[] 3)) 3 1 (X_ ⟨w.heap.size,0,Y_⟩) 0 0 []:=Ro.Row.new (cs:= #[]) rfl d_;obtain ⟨A',c',w',hr,V,hO,F⟩:=Ro.app (P:=Xb) (ty:=49) (c2:=c) VZ I (h.alloc l_ _) (Mz l) e_ o_;simp only [Nat.zero_add,List.nil_append] at hr V;have U:WZ (∃A1 c1,(Ending.returned (S_ A' n c'))=R_ (S_ A1 n c1)/\eF w w' 3 1 A1 n c1 (l.map (Xv .i64))):=by
   refine ⟨A',c',rfl,((Ro.dt.refl (λ_=>False) w).alloc _|>.trans hO (T:=λb=>Xr (X_ ⟨w.heap.size,0,Y_⟩)=X_ b) (λk hk e=>?_)).below l_ (λ_ _ c=>c),V,λb G=>?_⟩
   .exact vZ
   .rcases F with F|F
    .exact we
    .rw [F] at G
     have:(w.alloc (.cells #[] 3)).heap.size=b:=by simpa using G
     simp at this;omega
  clear h I V hO F;have O: ∀w,(binOp .eql 49 (S_ (X_ ad) n c) (S_ Y_ 0 0)).run Xb w= .ok (B_ Z_) w:=λw=>k_
  go_enter func22,ntmps22;refine pN ?_;go_ret;exact U
section
variable {D:Nf} {w w' w2:Z'} {b' col':Nat->Nat} {sb ga:Nat} {s:Xl} {v:Int} {rt:Xg} {x:AV} {u:WW} {o:Option No} {L B:BL} {R:List RK} {A:Option WY} {n c:Nat} {ev:List dX}
def RC {e:TypeId} (h:Xu w e k A n c xs) (h':Xu w V k' A' n' c' G) (a:Xr A=X_ g) (I:Xr A'=X_ g):e=V:=by
 obtain ⟨_,_,_,(⟨rfl,_⟩|⟨g1,off,cur,rfl,O,_⟩)⟩:=h
 .cases a
 obtain ⟨_,_,_,(⟨rfl,_⟩|⟨g2,X,U,rfl,F,_⟩)⟩:=h'
 .cases I
 have e1:g1=g:=by simpa [Xr] using a
 have e2:g2=g:=by simpa [Xr] using I
 rw [e1] at O;rw [e2,O] at F;cases F;rfl
def MA {e T:TypeId} (h:Xu w e k A n c xs) (G:Xd w g T cs) (a:Xr A=X_ g):e=T:=by
 obtain ⟨_,_,_,(⟨rfl,_⟩|⟨g1,off,cur,rfl,O,_⟩)⟩:=h
 .cases a
 have I:g1=g:=by simpa [Xr] using a
 rw [I] at O;have F:w.heap[g]?=X_ (.cells cs T (0,0)):=G;rw [O] at F;cases F;rfl
def Nq.push (h:Nq D w sb ga s v rt x u o L B (⟨55,4,A,n,c,Xs ev⟩::R)) (z:dX) (hn:n<=100000) (hB: ∀t∈B,t.2.1≠55) (hR: ∀t∈R,t.e≠55):
  ∃(A':Option WY) (c':Nat) (w2:Z'),(Builtin.append_ #[37,37] 37 #[S_ A n c,S_ (X_ ⟨w.heap.size,0,Y_⟩) 1 1]).run Xb (w.alloc (.cells z.arr 55))= .ok (S_ A' (n+1) c') w2/\Nq D w2 sb ga s v rt x u o L B (⟨55,4,A',n+1,c',Xs (ev++[z])⟩::R):=by
 obtain ⟨b',h⟩:=h;have F:=h.k _ (m_ ..);obtain ⟨A',c',w2,aa,ab,U,hA⟩:=vm Tw.LA F.row z.arr rfl (by simp [dX.arr,Value.oneCell']) hn d_;have V: ∀k,Xr A=X_ k->k<w.heap.size->b' k=9:=λk G _=>F.b' k G
 have X:dJ (λc=>c=9) D.W w w2 b' (dN w b' λ_=>9):=dJ.only U (λk G hl=>⟨h.n.sys.lL (by rw [V k G hl];decide),V k G hl⟩) _;refine ⟨A',c',w2,aa,_,⟨h.n.sys.put U V d_ _,h.n.ag.ed X d_⟩,h.d.ed X d_,λq I=>(h.l q I).ed X d_,λq I=>?_,λq I=>?_⟩
 .have hb:=h.b q I
  exact ⟨(U.block q.1 hb.dr.lt λe=>hB q I (MA F.row hb.dr e).symm).trans hb.dr,(fL hb.dr.lt).trans hb.b'⟩
 .rcases p_ I with rfl|I
  .refine ⟨by rw [ma];exact ab,λb hb=>?_⟩
   exact Pc
  .have G:=h.k q (n_ _ I)
   exact G.only U (λb hb e=>hR q I (RC F.row G.row e hb).symm) λk G=>fL G
end
section
variable {D:Nf} {w w' w2:Z'} {b' col':Nat->Nat} {sb ga:Nat} {s:Xl} {v:Int} {rt:Xg} {x:AV} {u:WW} {o:Option No} {L B:BL} {R:List RK} {A:Option WY} {n c g:Nat} {ev:List dX} {q:No}
def Nq.note (h:Nq D w sb ga s v rt x u o L B R) (X: ∀t∈L,t.2.1≠74) (G:Bw w w') (U:Xd w' q.g 77 #[I_ J_ q.q,S_ q.A q.n q.c]) (hn:w.heap.size<=q.g) (O:Xu w' 3 1 q.A q.n q.c (q.dy.map (.int .i64))) (I: ∀b,Xr q.A=X_ b->w.heap.size<=b):
  Nq D (w'.setCell ⟨D.gn,4,Y_⟩ (P_ (X_ ⟨q.g,0,Y_⟩))) sb ga s v rt x (P_ (X_ ⟨q.g,0,Y_⟩)) (X_ q) L B R:=by
 obtain ⟨b',h⟩:=h;have V:dJ (λ_=>False) D.W w w' b' (dN w b' λ_=>4):=Xi G _;have F:=h.ed (h.n.below G (λ_=>4)) V (λc=>c) (λc=>c);exact ⟨_,NN.BO F.n ⟨F.d.dr,F.d.text,λq' e=>by cases e;exact ⟨XI U hn rfl,eG.new O I (λ_ _=>rfl)⟩⟩ F.l X F.b F.k 4 _ rfl⟩
def Nq.Ij (h:Nq D w sb ga s v rt x u o L B R):Nq D w sb ga s v rt x u Y_ L B R:=by
 obtain ⟨b',h⟩:=h;exact ⟨b',h.n,h.d.Ti,h.l,h.b,h.k⟩
def kx (q:Int) (EA:Option WY) (n c:Nat) (x:AV) (A:Option WY) (pc:Nat):Array WW:= #[I_ J_ q,S_ EA n c,I_ J_ x.r,S_ A x.l.length pc,B_ x.o0,B_ x.o1,B_ x.o2]
def iX:Array WW:= #[I_ J_ 0,S_ Y_ 0 0,I_ J_ 0,S_ Y_ 0 0,B_ Z_,B_ Z_,B_ Z_]
def Nq.fin (h:Nq D w sb ga s v rt x u o [(g,39,cs)] B R) (v0 U v2 F I G O:WW):
  Nq D (((((((w.setCell ⟨g,0,Y_⟩ v0).setCell ⟨g,1,Y_⟩ U).setCell ⟨g,2,Y_⟩ v2).setCell ⟨g,3,Y_⟩ F).setCell ⟨g,4,Y_⟩ I).setCell ⟨g,5,Y_⟩ G).setCell ⟨g,6,Y_⟩ O) sb ga s v rt x u o [] B R:=by
 have f: ∀{Y:Z'} {cs:Array WW} (i:Nat) (y:WW),Nq D Y sb ga s v rt x u o [(g,39,cs)] B R->Nq D (Y.setCell ⟨g,i,Y_⟩ y) sb ga s v rt x u o [(g,39,cs.setIfInBounds i y)] B R:=λi y V=>V.Tj (λ_ h=>(by cases h)) d_ d_ d_ d_ i y
 exact (f 6 O (f 5 G (f 4 I (f 3 F (f 2 v2 (f 1 U (f 0 v0 h))))))).tail
def Nq.told (h:Nq D w sb ga s v rt x u o [(g,39,iX)] B R) (U:Tf x w e w') (q:Int) (EA:Option WY) (n c:Nat): ∃(A:Option WY) (pc:Nat),e=R_ (A_ #[I_ J_ x.r,S_ A x.l.length pc,B_ x.o0,B_ x.o1,B_ x.o2])/\Xd w' g 39 iX/\
  Nq D (((((((w'.setCell ⟨g,0,Y_⟩ (I_ J_ q)).setCell ⟨g,1,Y_⟩ (S_ EA n c)).setCell ⟨g,2,Y_⟩ (I_ J_ x.r)).setCell ⟨g,3,Y_⟩ (S_ A x.l.length pc)).setCell ⟨g,4,Y_⟩ (B_ x.o0)).setCell ⟨g,5,Y_⟩ (B_ x.o1)).setCell ⟨g,6,Y_⟩ (B_ x.o2)) sb ga s v rt x u o [] B (⟨58,12,A,x.l.length,pc,XK x.l⟩::R):=by
 obtain ⟨A,pc,I,O,V,G⟩:=U;have F:=h.kt V O G;exact ⟨A,pc,I,F.BP (m_ ..),F.fin _ _ _ _ _ _ _⟩
def Ok.eB (h:Ok x):Ok {x with eB:=f}:=⟨h.rf,h.cfg,h.tl,h.st,h.each,h.zl,h.zs,h.c0,h.c1,h.c2,h.t,h.a0,h.a1,h.a2,h.us,h.ul,h.am⟩
def Live.eB (h:Live D k x rt):Live D k {x with eB:=f} rt:=⟨h.ok.eB,h.ju,h.im,h.dead⟩
end
section
variable {D:Nf} {w w' w2:Z'} {sb ga:Nat} {v:Int} {rt:Xg} {x:AV} {u:WW} {o:Option No} {B:BL} {R:List RK} {m:Option (List Xo)} {k:Nat} {d:dI}
def UL (h:Nq D w sb ga ⟨Xe m Y_,[]⟩ v rt x u o [] B R) (hl:x.l.length<=1000) (hk:d.kd=6) (hd:XB w w.heap.size 1 d.kB d.gN (d.dy.map (Xv .i64))) (hn:d.gN<=1000000):
  WX Xb 9 #[P_ (X_ ⟨D.gn,0,Y_⟩),A_ d.arr] w λe w'=> ∃(q:No) (A:Option WY) (pc:Nat),e=R_ (A_ (kx 0 Y_ 0 0 x A pc))/\q.q=d.steps/\q.dy=d.dy/\q.n=d.gN/\Nq D w' sb ga ⟨Xe m Y_,[]⟩ v rt x (P_ (X_ ⟨q.g,0,Y_⟩)) (X_ q) [] B (⟨58,12,A,x.l.length,pc,XK x.l⟩::R):=by
 have HL:=Hd hl;have aL:=Hd hk;have av:=Hd (Xm hd hn);refine Ml ?_;intro g3 ac w0 U ar g4 ai;obtain ⟨w1,X⟩:=nm (w0.alloc (.cells iX 39));have ah:Xa w.heap.size w w0:=by rw [U];exact b_.alloc l_ _
 have ap:Xa w0.heap.size w0 w1:=by rw [X];exact b_.alloc l_ _
 have G:=Hd (show Xa w.heap.size w w1 from ah.trans (ap.mono ah.size));have H1:=Hd ((h.ku ah (show Xd w0 g3 51 d.arr from by rw [U,ac];exact Xf) (by rw [ac];exact Xn _)).JW ap (show Xd w1 g4 39 iX from by rw [X,ai,<-ar];exact Xf) (by rw [ai,<-ar];exact Xn _));have HA:=Hd (H1.o.dr (m_ ..));clear ah ap ar;unfold Xt at U HA;unfold iX at X;clear h hl hd hn;have y0:C w1 g3 0 (I_ J_ 6):=by rw [<-aL.o];exact HA.o.cell 0
 clear hk;unfold Xt;go_enter func9,ntmps9;go_upto_region 1 with fail;rw [<-U,<-X,<-ac,<-ai];clear U X ac ai;go_upto_region 2 with fail;obtain ⟨wc,aF⟩:=nm (Xj w1);have ag:=Hd (show Xa w1.heap.size w1 wc from by rw [aF];exact b_.drew);have HS:=Hd (HA.o.a_ ag.o);have HW:=Hd (ID d.kB d.gN d.kC d.dy wc (((av.o.1).below (G.o.trans (ag.o.mono G.o.size))).more (G.o.trans (ag.o.mono G.o.size)).size) av.o.2);clear HA G av y0;refine XF (S:=λwx=>WZ (Xd wx g3 51 #[I_ J_ d.kd,T_ d.dC.id,I_ J_ d.dC.prio,B_ d.dC.fB,I_ J_ d.dC.r0,I_ J_ d.dC.r1,I_ J_ d.dC.r2,I_ J_ d.dC.l0,I_ J_ d.dC.l1,I_ J_ d.dC.l2,T_ d.dC.eO,I_ J_ d.dC.size,T_ d.id,I_ J_ d.raw.time,.float .f64 d.raw.pX,.float .f64 d.raw.pY,.float .f64 d.raw.pZ,S_ d.raw.mG d.raw.kX d.raw.mH,S_ d.ky d.gU d.kz,I_ J_ d.steps,S_ d.kB d.gN d.kC])) k_ ?_;rw [<-aF];clear aF;refine Xx 6 HS [0,1,2,3,4] ?_
 iterate 5 (refine XG rfl (λK' F=>?_);go_simp;(first|(refine F _ ?_;clear F K')|(apply Xk;refine ⟨λwx I=>?_,F _ ?_⟩;(first|rfl|(have aE:C wx g3 19 d.steps:=(Xc I).cell 19;have aG:C wx g3 20 (S_ d.kB d.gN d.kC):=(Xc I).cell 20;go_simp;first|done|rfl));clear F K')))
 refine XM 5 5 ?_;refine wV ?_;refine HW.o.mono ?_;rintro e w2 ⟨A2,c2,rfl,ao⟩;have O:=Hd ao;have al:=Hd (HS.o.a_ ao.below);clear ao HW HS;refine ⟨_,rfl,al,?_⟩;refine Xx 4 al [6] ?_
 iterate 1 (refine XG rfl (λK' F=>?_);go_simp;(first|(refine F _ ?_;clear F K')|(apply Xk;refine ⟨λwx I=>?_,F _ ?_⟩;(first|rfl|(have aE:C wx g3 19 d.steps:=(Xc I).cell 19;have aG:C wx g3 20 (S_ d.kB d.gN d.kC):=(Xc I).cell 20;go_simp;first|done|rfl));clear F K')))
 refine XM 7 3 ?_;obtain ⟨gq,an⟩:=nm (w2.heap.size);obtain ⟨w3,ae⟩:=nm (w2.alloc (.cells #[I_ J_ d.steps,S_ A2 d.gN c2] 77));have ak:Xa w2.heap.size w2 w3:=by rw [ae];exact b_.alloc l_ _
 have az:=Hd (show Xd w3 gq 77 #[I_ J_ d.steps,S_ A2 d.gN c2] from by rw [ae,an];exact Xf);have aw:=Hd (al.o.a_ ak);have aa:=ag.o.trans ((O.o.below.trans (ak.mono O.o.below.size)).mono ag.o.size);have H3:=Hd (H1.o.below aa);have H4:=Hd (H1.o.note (q:=⟨gq,d.steps,A2,d.gN,c2,d.dy⟩) (λt ht=>by rw [s_ ht];exact (d_:(39:TypeId)≠74)) aa az.o (by have:=O.o.below.size;have:=ag.o.size;show w1.heap.size<=gq;omega) (O.o.row.dy λb hb=>ak.block b (O.o.row.lt hb)) (λb hb=>Xy ag.o.size (O.o.fresh b hb)));refine dm.val rfl rfl (v:=P_ (X_ ⟨w2.heap.size,0,Y_⟩)) (w':=w2.alloc (.cells #[I_ J_ d.steps,S_ A2 d.gN c2] 77)) f_ (by rw [<-ae];exact aw) ?_;rw [<-ae,<-an];clear ae an ak aa ag O al H1;refine Xx 1 aw [8,9] ?_
 iterate 2 (refine XG rfl (λK' F=>?_);go_simp;(first|(refine F _ ?_;clear F K')|(apply Xk;refine ⟨λwx I=>?_,F _ ?_⟩;(first|rfl|(have aE:C wx g3 19 d.steps:=(Xc I).cell 19;have aG:C wx g3 20 (S_ d.kB d.gN d.kC):=(Xc I).cell 20;go_simp;first|done|rfl));clear F K')))
 refine XM 10 0 ?_;have n4:=c4 H3.o.nd;have f4:=H3.o.oD 4;refine dm.skip rfl rfl (w':=w3.setCell ⟨D.gn,4,Y_⟩ (P_ (X_ ⟨gq,0,Y_⟩))) f_ (Hd (H4.o.dr (m_ ..))) ?_;clear n4 f4 aw H3 az;refine dm.fi ?_;obtain ⟨w4,aH⟩:=nm (w3.setCell ⟨D.gn,4,Y_⟩ (P_ (X_ ⟨gq,0,Y_⟩)));rw [<-aH] at H4 |-;clear aH;have I:=Hd (kE H4.o HL.o);go_upto_region 3 with fail;go_wp2_with fail;refine I.o.mono ?_;rintro e w9 hp;obtain ⟨A9,aD,rfl,am,aC⟩:=H4.o.told hp (0) Y_ 0 0;have aJ:=Hd aC;obtain ⟨z0,z1,z2,z3,z4,z5,z6,-⟩:=kA am;have zz:=am.frozen;clear hp am aC H4 I;go_wp2_with fail;refine bodyPost_ret (v:=A_ #[I_ J_ (0),S_ Y_ 0 0,I_ J_ x.r,S_ A9 x.l.length aD,B_ x.o0,B_ x.o1,B_ x.o2]) (by simp [results,results9,go_sem, *]) rfl ?_;exact ⟨⟨gq,d.steps,A2,d.gN,c2,d.dy⟩,A9,aD,rfl,rfl,rfl,rfl,aJ.o.sub (λt ht=>n_ _ ht) (λt ht=>ht)⟩
def UM (h:Nq D w sb ga ⟨Xe m Y_,[]⟩ v rt x u o [] B R) (hl:x.l.length<=1000) (hk:d.kd<1\/6<d.kd):
  WX Xb 9 #[P_ (X_ ⟨D.gn,0,Y_⟩),A_ d.arr] w λe w'=> ∃(A:Option WY) (pc:Nat),e=R_ (A_ (kx 1 Y_ 0 0 x A pc))/\Nq D w' sb ga ⟨Xe m Y_,[]⟩ v rt x u o [] B (⟨58,12,A,x.l.length,pc,XK x.l⟩::R):=by
 have HL:=Hd hl;refine Ml ?_;intro g3 ac w0 U ar g4 ai;obtain ⟨w1,F⟩:=nm (w0.alloc (.cells iX 39));have ah:Xa w.heap.size w w0:=by rw [U];exact b_.alloc l_ _
 have ap:Xa w0.heap.size w0 w1:=by rw [F];exact b_.alloc l_ _
 have G:=Hd (show Xa w.heap.size w w1 from ah.trans (ap.mono ah.size));refine OP ?_;intro H1 HA aa e6;clear ah ap ar;have HF:WZ (Ii d.kd w1.heap.size= .nilFunc):=Hd (by unfold Ii;rw [if_neg o_,if_neg o_,if_neg o_,if_neg o_,if_neg o_]);unfold Xt at U HA aa;unfold iX at F;clear h hl hk;have y0:=c0 HA.o;unfold Xt;go_enter func9,ntmps9;go_upto_region 1 with fail;rw [<-U,<-F,<-ac,<-ai];clear U F ac ai;go_wp2_with (refine wpList_load_row rfl _ _ rfl g3 rfl _ _ (0,0) _ HA.o underlying51 rfl k_ ?_)
 refine aa.o.mono ?_;rintro e w2 ⟨rfl,I,-,-⟩;rw [HF.o];have H2:=Hd (H1.o.below I);clear aa HF I H1 HA G y0;have hnf: ∀w,(binOp .eql 78 .nilFunc .nilFunc).run Xb w= .ok (B_ Y') w:=λw=>k_
 have af:=Hd (kE H2.o HL.o);go_wp2_with fail;refine af.o.mono ?_;rintro e w9 hp;obtain ⟨A9,O,rfl,X,ag⟩:=H2.o.told hp (1) Y_ 0 0;have al:=Hd ag;obtain ⟨z0,z1,z2,z3,z4,z5,z6,-⟩:=kA X;have zz:=X.frozen;clear hp X ag H2 af;go_wp2_with fail;refine bodyPost_ret (v:=A_ #[I_ J_ (1),S_ Y_ 0 0,I_ J_ x.r,S_ A9 x.l.length O,B_ x.o0,B_ x.o1,B_ x.o2]) (by simp [results,results9,go_sem, *]) rfl ?_;exact ⟨A9,O,rfl,al.o.sub (λt ht=>n_ _ ht) (λt ht=>ht)⟩
end
section
variable {D:Nf} {w w' w2:Z'} {sb ga:Nat} {v:Int} {rt:Xg} {x:AV} {u:WW} {o:Option No} {B:BL} {R:List RK} {m:Option (List Xo)} {k gp:Nat} {L:BL} {d:dI}
def Nq.OQ {s:Xl} (h:Nq D w sb ga s v rt x u o L B R) (F:Bw w w') (K:BL) (U: ∀t∈K,Xd w' t.1 t.2.1 t.2.2/\w.heap.size<=t.1):Nq D w' sb ga s v rt x u o L (K++B) R:=by
 obtain ⟨b',h⟩:=h;have G:dJ (λ_=>False) D.W w w' b' (dN w b' λ_=>9):=Xi F _;have I:=h.ed (h.n.below F (λ_=>9)) G (λc=>c) (λc=>c);refine ⟨_,I.n,I.d,I.l,λq O=>?_,I.k⟩;rcases List.mem_append.1 O with O|O
 .exact XI (U q O).1 (U q O).2 rfl
 .exact I.b q O
def lZ (h:sU D sb ga m v rt x u o L ((gp+1,51,d.arr)::(gp,29,#[P_ (X_ ⟨D.gn,0,Y_⟩)])::B) R d e w):Dw w gp (gp+1) D.gn 3 ga d/\ ∃a b,e=R_ (U_ #[a,b]):=by
 obtain ⟨err0,ev0,y,rt',sv,err,ev,x',s',v',A,c,_,_,rfl,F⟩:=h;exact ⟨⟨(F.dr (n_ _ (m_ ..))).cell 0,F.nd.cell 3,F.dr (m_ ..)⟩,_,_,rfl⟩
def Bi (h:sU D sb ga m v rt x u o L ((gp+1,51,d.arr)::(gp,29,#[P_ (X_ ⟨D.gn,0,Y_⟩)])::B) R d e w):Dw w gp (gp+1) D.gn 2 D.gw d/\ ∃a b,e=R_ (U_ #[a,b]):=by
 obtain ⟨err0,ev0,y,rt',sv,err,ev,x',s',v',A,c,_,_,rfl,F⟩:=h;exact ⟨⟨(F.dr (n_ _ (m_ ..))).cell 0,F.nd.cell 2,F.dr (m_ ..)⟩,_,_,rfl⟩
def Vj {sv:Bool} {err:Int} {y x':AV} {s':Xl} (h:wE f m v sv err0 ev0 y err ev x' s' v'):x'.l=y.l:=by
 rcases h with ⟨_,_,_,rfl,_⟩|⟨_,_,_,_,rfl,_⟩|⟨_,r,_,_,_,_,rfl,_⟩<;>rfl
def Vk {p:Prop} (h:p:=by
 go_upto_region 11 with fail;rw [<-ae];clear ae n4 f4 ab;go_wp2_with fail;refine HO.o.mono ?_;rintro e w4 ⟨err0,ev0,y,rt',sv,err,ev,x',s',v',EA,ec,ha,hs,rfl,hq⟩;have H4:=Hd hq;have HX:=Hd (And.intro ha hs);have I:=Hd (kE H4.o (by rw [Vj hs];exact av.o _ _ _ _ _ ha));clear ha hs hq HO H3 V;go_wp2_with fail;refine I.o.mono ?_;rintro e w9 hp;obtain ⟨A9,G,rfl,am,aC⟩:=H4.o.told hp (err) EA ev.length ec;have aJ:=Hd aC;obtain ⟨z0,z1,z2,z3,z4,z5,z6,-⟩:=kA am;have zz:=am.frozen;clear hp am aC H4 I;go_wp2_with fail;refine bodyPost_ret (v:=A_ #[I_ J_ (err),S_ EA ev.length ec,x'.r,S_ A9 x'.l.length G,x'.o0,x'.o1,x'.o2]) (by simp [results,results9,go_sem, *]) rfl ?_;exact ⟨err0,ev0,y,rt',sv,err,ev,x',s',v',EA,ec,A9,G,HX.o.1,HX.o.2,rfl,aJ.o.sub (λt ht=>n_ _ (n_ _ (n_ _ ht))) (λt ht=>ht)⟩):p:=h
def Rt (h:Nq D w sb ga ⟨Xe m Y_,[]⟩ v rt x (P_ Y_) Y_ [] B R) (ak:Live D k x rt) (h8:k<=8000) (hr:x.r<1099511627776) (hv:0<=v/\v<4294967295) (hm:Xz m) (hd:d.ok) (aU:dI.gG D.W D.W.heap.size d) (aW:d.gU<=1000000) (hl:1<=d.kd/\d.kd<=5) (hf:x.eB= -1) (aF: ∀err ev y rt' sv,kF d x rt err ev y rt' sv->y.l.length<=1000):
  WX Xb 9 #[P_ (X_ ⟨D.gn,0,Y_⟩),A_ d.arr] w λe w'=> ∃(err0:Int) (ev0:List dX) (y:AV) (rt':Xg) (sv:Bool) (err:Int) (ev:List dX) (x':AV) (s':Xl) (v':Int) (EA:Option WY) (ec:Nat) (A:Option WY) (pc:Nat),kF d x rt err0 ev0 y rt' sv/\wE x.eB m v sv err0 ev0 y err ev x' s' v'/\
   e=R_ (A_ (kx err EA ev.length ec x' A pc))/\Nq D w' sb ga s' v' rt' x' (P_ Y_) Y_ [] B (⟨58,12,A,x'.l.length,pc,XK x'.l⟩::⟨55,4,EA,ev.length,ec,Xs ev⟩::R):=by
 have aw:=Hd ak;have be:=Hd h8;have bf:=Hd hr;have HV:=Hd hv;have HM:=Hd hm;have HF:WZ (x.eB= -1\/ ∃r:Nat,r<=4/\x.eB=r):= .inl hf;have aQ:=Hd hd;have ag:=Hd (Xm aU aW);have av:=Hd aF;have HL:=Hd hl;refine Ml ?_;intro g3 ac w0 U ar g4 ai;refine OO ?_;intro w1 F ah ap bi;have H1:WZ (Nq D w1 sb ga ⟨Xe m Y_,[]⟩ v rt x (P_ Y_) Y_ [(g4,39,iX)] ((g3,51,d.arr)::B) R):=(h.ku ah (show Xd w0 g3 51 d.arr from by rw [U,ac];exact Xf) (by rw [ac];exact Xn _)).JW ap (show Xd w1 g4 39 iX from by rw [F,ai,<-ar];exact Xf) (by rw [ai,<-ar];exact Xn _);have HA:WZ (Xd w1 g3 51 d.arr):=H1.o.dr (m_ ..);clear ah ap ar;have aa:=Hd (Jc D.gn d w1);have e6:(d.kd==6)=Z_:=by simp;omega
 unfold Xt at U;unfold iX at F;clear h ak hl h8 hr hv hm hd aU aW hf aF;have y0:C w1 g3 0 d.kd:=HA.o.cell 0;have aL:=HA;unfold Xt at aL;have aI:=aa;unfold Xt at aI;unfold Xt;go_enter func9,ntmps9;go_upto_region 1 with fail;rw [<-U,<-F,<-ac,<-ai];clear U F ac ai;go_wp2_with (refine wpList_load_row rfl _ _ rfl g3 rfl _ _ (0,0) _ aL.o underlying51 rfl k_ ?_)
 refine aI.o.mono ?_;rintro e w2 ⟨rfl,aT,aG,aO⟩;obtain ⟨gp,aE⟩:=nm (w1.heap.size);rw [<-aE] at aG aO |-;have H2:WZ (Nq D w2 sb ga ⟨Xe m Y_,[]⟩ v rt x (P_ Y_) Y_ [(g4,39,iX)] ((gp+1,51,d.arr)::(gp,29,#[P_ (X_ ⟨D.gn,0,Y_⟩)])::(g3,51,d.arr)::B) R):=H1.o.OQ aT [(gp+1,51,d.arr),(gp,29,#[P_ (X_ ⟨D.gn,0,Y_⟩)])] (λt ht=>by rcases p_ ht with rfl|ht;exact ⟨aO,by rw [aE];exact Nat.le_succ _⟩;rw [s_ ht];exact ⟨aG,by rw [aE];exact Xn _⟩);clear aa aI aL aT aG aO aE H1 HA bi y0;have n4:C w2 D.gn 4 (P_ Y_):=H2.o.nd.cell 4;have f4:w2.frozen? ⟨D.gn,4,Y_⟩=Z_:=H2.o.oD 4;obtain ⟨w3,ae⟩:=nm (w2.setCell ⟨D.gn,4,Y_⟩ (P_ Y_));have H3:WZ (Nq D w3 sb ga ⟨Xe m Y_,[]⟩ v rt x (P_ Y_) Y_ [(g4,39,iX)] ((gp+1,51,d.arr)::(gp,29,#[P_ (X_ ⟨D.gn,0,Y_⟩)])::(g3,51,d.arr)::B) R):=by rw [ae];exact H2.o.BO (λt ht=>by rw [s_ ht];exact (d_:(39:TypeId)≠74)) _
 clear H2;have hnp: ∀w,(binOp .neq 72 (P_ Y_) (P_ Y_)).run Xb w= .ok (B_ Z_) w:=λw=>k_
 by_cases hl:d.kd=1
 .have V:=Hd hl
  have O:Ii d.kd gp= .func (.func 35) #[] #[P_ (X_ ⟨gp,0,Y_⟩),P_ (X_ ⟨gp+1,0,Y_⟩)]:=by rw [hl];rfl
  rw [O];clear hl O e6;have ab: ∀w,(binOp .eql 78 (.func (.func 35) #[] #[P_ (X_ ⟨gp,0,Y_⟩),P_ (X_ ⟨gp+1,0,Y_⟩)]) .nilFunc).run Xb w= .ok (B_ Z_) w:=λw=>k_
  have HO:=Hd (Bd gp (gp+1) D.gn ga d w3 (sU D sb ga m v rt x (P_ Y_) Y_ [(g4,39,iX)] ((gp+1,51,d.arr)::(gp,29,#[P_ (X_ ⟨D.gn,0,Y_⟩)])::(g3,51,d.arr)::B) R d) ⟨(H3.o.dr (n_ _ (m_ ..))).cell 0,H3.o.nd.cell 3,H3.o.dr (m_ ..)⟩ (λe w' hq=>lZ hq) (λX hX=>by obtain ⟨b',hN⟩:=H3.o.below hX;have af:=(H3.o.below hX).base;exact Af V.o hN aw.o HV.o HM.o HF.o aQ.o.dC));exact Vk
 by_cases hl:d.kd=2
 .have V:=Hd hl
  have O:Ii d.kd gp= .func (.func 37) #[] #[P_ (X_ ⟨gp,0,Y_⟩),P_ (X_ ⟨gp+1,0,Y_⟩)]:=by rw [hl];rfl
  rw [O];clear hl O e6;have ab: ∀w,(binOp .eql 78 (.func (.func 37) #[] #[P_ (X_ ⟨gp,0,Y_⟩),P_ (X_ ⟨gp+1,0,Y_⟩)]) .nilFunc).run Xb w= .ok (B_ Z_) w:=λw=>k_
  have HO:=Hd (Be gp (gp+1) D.gn ga d w3 (sU D sb ga m v rt x (P_ Y_) Y_ [(g4,39,iX)] ((gp+1,51,d.arr)::(gp,29,#[P_ (X_ ⟨D.gn,0,Y_⟩)])::(g3,51,d.arr)::B) R d) ⟨(H3.o.dr (n_ _ (m_ ..))).cell 0,H3.o.nd.cell 3,H3.o.dr (m_ ..)⟩ (λe w' hq=>lZ hq) (λX hX=>by obtain ⟨b',hN⟩:=H3.o.below hX;have af:=(H3.o.below hX).base;exact wF V.o hN aw.o HV.o HM.o HF.o));exact Vk
 by_cases hl:d.kd=3
 .have V:=Hd hl
  have O:Ii d.kd gp= .func (.func 39) #[] #[P_ (X_ ⟨gp,0,Y_⟩)]:=by rw [hl];rfl
  rw [O];clear hl O e6;have ab: ∀w,(binOp .eql 78 (.func (.func 39) #[] #[P_ (X_ ⟨gp,0,Y_⟩)]) .nilFunc).run Xb w= .ok (B_ Z_) w:=λw=>k_
  have HO:=Hd (Bf gp D.gn ga w3 (sU D sb ga m v rt x (P_ Y_) Y_ [(g4,39,iX)] ((gp+1,51,d.arr)::(gp,29,#[P_ (X_ ⟨D.gn,0,Y_⟩)])::(g3,51,d.arr)::B) R d) ((H3.o.dr (n_ _ (m_ ..))).cell 0) (H3.o.nd.cell 3) (λe w' hq=>(lZ hq).2) (by obtain ⟨b',hN⟩:=H3.o;exact FM V.o hN aw.o be.o bf.o HV.o HM.o HF.o));exact Vk
 by_cases hl:d.kd=4
 .have V:=Hd hl
  have O:Ii d.kd gp= .func (.func 41) #[] #[P_ (X_ ⟨gp,0,Y_⟩),P_ (X_ ⟨gp+1,0,Y_⟩)]:=by rw [hl];rfl
  rw [O];clear hl O e6;have ab: ∀w,(binOp .eql 78 (.func (.func 41) #[] #[P_ (X_ ⟨gp,0,Y_⟩),P_ (X_ ⟨gp+1,0,Y_⟩)]) .nilFunc).run Xb w= .ok (B_ Z_) w:=λw=>k_
  have HO:=Hd ((Bg gp (gp+1) D.gn ga d w3 (λe w'=> ∃a,e=R_ a/\sU D sb ga m v rt x (P_ Y_) Y_ [(g4,39,iX)] ((gp+1,51,d.arr)::(gp,29,#[P_ (X_ ⟨D.gn,0,Y_⟩)])::(g3,51,d.arr)::B) R d (R_ (U_ #[S_ Y_ 0 0,a])) w') ⟨(H3.o.dr (n_ _ (m_ ..))).cell 0,H3.o.nd.cell 3,H3.o.dr (m_ ..)⟩ (λe w' hq=>by obtain ⟨a,e1,h1⟩:=hq;exact ⟨(lZ h1).1,a,e1⟩) (λX hX=>by obtain ⟨b',hN⟩:=H3.o.below hX;have af:=(H3.o.below hX).base;exact wG V.o hN aw.o (ag.o.1.raw.below af|>.more af.size) aQ.o.raw)).mono (R':=(sU D sb ga m v rt x (P_ Y_) Y_ [(g4,39,iX)] ((gp+1,51,d.arr)::(gp,29,#[P_ (X_ ⟨D.gn,0,Y_⟩)])::(g3,51,d.arr)::B) R d)) (λe w' hq=>by obtain ⟨a,⟨a2,e1,h1⟩,e2⟩:=hq;cases e1;rw [e2];exact h1));exact Vk
 have hl:d.kd=5:=by have:=HL.o;omega
 have V:=Hd hl;have O:Ii d.kd gp= .func (.func 43) #[] #[P_ (X_ ⟨gp,0,Y_⟩),P_ (X_ ⟨gp+1,0,Y_⟩)]:=by rw [hl];rfl
 rw [O];clear hl O e6;have ab: ∀w,(binOp .eql 78 (.func (.func 43) #[] #[P_ (X_ ⟨gp,0,Y_⟩),P_ (X_ ⟨gp+1,0,Y_⟩)]) .nilFunc).run Xb w= .ok (B_ Z_) w:=λw=>k_
 have HO:=Hd ((Bh gp (gp+1) D.gn D.gw d w3 (λe w'=> ∃a,e=R_ a/\sU D sb ga m v rt x (P_ Y_) Y_ [(g4,39,iX)] ((gp+1,51,d.arr)::(gp,29,#[P_ (X_ ⟨D.gn,0,Y_⟩)])::(g3,51,d.arr)::B) R d (R_ (U_ #[S_ Y_ 0 0,a])) w') ⟨(H3.o.dr (n_ _ (m_ ..))).cell 0,H3.o.nd.cell 2,H3.o.dr (m_ ..)⟩ (λe w' hq=>by obtain ⟨a,e1,h1⟩:=hq;exact ⟨(Bi h1).1,a,e1⟩) (λX hX=>by obtain ⟨b',hN⟩:=H3.o.below hX;have af:=(H3.o.below hX).base;exact FO V.o hN aw.o (ag.o.1.eD.below af|>.more af.size) ag.o.2)).mono (R':=(sU D sb ga m v rt x (P_ Y_) Y_ [(g4,39,iX)] ((gp+1,51,d.arr)::(gp,29,#[P_ (X_ ⟨D.gn,0,Y_⟩)])::(g3,51,d.arr)::B) R d)) (λe w' hq=>by obtain ⟨a,⟨a2,e1,h1⟩,e2⟩:=hq;cases e1;rw [e2];exact h1));exact Vk
end
end Nd
end
end Go.Proofs.YtkidababfdehlaaGreatDoor
