/- Parts of the walk. -/
import Derived.Test.YtkidababfdehlaaGreatDoorQAq
import Derived.Test.YtkidababfdehlaaGreatDoorQAi
set_option linter.all false
set_option maxRecDepth 100000
set_option maxHeartbeats 64000000
namespace Go.Proofs.YtkidababfdehlaaGreatDoor
open Value renaming int -> I_,bool -> B_,string -> T_,slice -> S_,pointer -> P_,tuple -> U_,agg -> A_
open IntKind renaming i64 -> J_
open Ending renaming returned -> R_
open _root_.Array renaming size -> X_
open Go.World renaming heap -> Y_
open Option renaming some -> Y',none -> Z_
open Bool renaming true -> Z',false -> WW,noConfusion -> Xx
open Go renaming World -> WX,Value -> WY,Calls -> WZ,Addr -> Xa
open Go.RowKit renaming Hid -> Xb
open _root_.Go.Proofs.Tryz renaming prog -> Xc
open Fl renaming rdv -> Xd,kd -> Xy
open Mem.c_ renaming new -> Xe,alloc -> Xh
open Mem renaming c_ -> Xf,Sl -> XH
open Nat renaming zero_add -> Xg,lt_of_lt_of_le -> Xu
open eU renaming store -> Xi,ie -> XB
open Go.World renaming rangeAt_setCells_same -> Xj,there -> Xn
open Or renaming inr -> Xk,inl -> Xt
open Ta renaming dx -> Xl,fw -> XD
open And renaming intro -> Xm
open List renaming length_map -> Xo,pairwise_iff_getElem -> Xp,map_append -> Xz
open Go.Sort renaming SortedIn -> Xq
open et renaming flat -> Xr
open Go.Value renaming oneCell' -> Xs
open Ro renaming dt -> Xv
open _root_.Array renaming toList -> Xw,size -> XC,all -> XE
open Go.Exit renaming noGoto_ret -> XA
open dz renaming flat -> XF
open du renaming has -> XG
variable {cs:Array WY} {xs:List WY} {ys:List et} {c g i k n:Nat} {A:Option Xa} {e t:TypeId} {u:WY} {w:WX}
open _root_.Go.Proofs.Tryz Go.RowKit Wo
section
namespace Tw
def mD (l:List iN) (k:Nat):Prop:= ∀(i:Nat) (hi:i<l.length),i<k->Ta.jQ l[i].id=Z'/\ ∀(j:Nat) (hj:j<l.length),j<i->l[i].id≠l[j].id
def Di (l:List iN) (W:WX) (e:Ending) (w':WX):Prop:= ∃b,e=R_ (B_ b)/\(b=Z'↔mD l l.length)/\Bw W w'
def Mj (A:Option Xa) (n c:Nat) (l:List iN) (w:WX) (h:XH w w.heap.size 4 A n (iN.flat l)) (ax:l.length=n) (hn:n<=100000) (hnc:n<=c) (aD: ∀u∈l,u.ok):
  WZ Xc 188 #[S_ A n c] w (Di l w):=by
 have H:=Hd h;have HO:=Hd aD;clear h aD;go_enter func188,ntmps188;go_wp2
 go_step3
 go_wp2
 go_step3
 go_wp2;go_loopw [3,10] (λvo vi wr=> ∃(k:Nat),k<=n/\vi=I_ J_ k/\vo=B_ Z'/\Xb (Bw w wr)/\Xb (mD l k)) (λ_ i _=>n - (intOf i).toNat)
 .exact ⟨0,o_,rfl,rfl,Hd b_,Hd (λi _ h=>absurd h o_)⟩
 ·
  obtain ⟨k,hk,rfl,rfl,Hb,HA⟩:=hrel;let ⟨wo,a6⟩:=nm wr;subst a6;by_cases aQ:k<n
  .obtain ⟨ad,hl,rfl,a5,av,aG⟩:=iN.at_ (H.o.below Hb.o) aQ
   have HN:=Hd (λX=>Ta.mv l[k].id X (HO.o _ (g_ hl)).id);have HQ:=Hd (show∃q,q=l[k] from ⟨_,rfl⟩);let ⟨q,hq⟩:=HQ.o;rw [<-hq] at HN aG;have ak:=Hd hq;clear hq HQ;obtain ⟨F,q1,q2,q3⟩:=q;obtain ⟨x0,x1,x2,x3⟩:=aG
   dsimp only at x0 x1 x2 x3 HN
   clear a5 av;have ai:Xf (wo.alloc (.cells #[T_ ⟨#[]⟩,.float .f64 0,.float .f64 0,.float .f64 0] 138)) wo.heap.size 138 #[T_ ⟨#[]⟩,.float .f64 0,.float .f64 0,.float .f64 0]:=Xe;have an:Xn (wo.alloc (.cells #[T_ ⟨#[]⟩,.float .f64 0,.float .f64 0,.float .f64 0] 138)) wo.heap.size 0 4:=λj hj=>⟨by
    rw [Xg,ai.cell];have:j=0\/j=1\/j=2\/j=3:=o_;obtain rfl|rfl|rfl|rfl:=this<;>rfl,by rw [Xg];exact ai.frozen j⟩
   have aw:XE (#[F,.float .f64 q1,.float .f64 q2,.float .f64 q3]:Array WY) (·.oneCell')=Z':=by simp [Xs]
   have HI:((Xc).info? 138).map (·.size)=Y' (XC (#[F,.float .f64 q1,.float .f64 q2,.float .f64 q3]:Array WY)):=k_;let ⟨w2,af⟩:=nm ((wo.alloc (.cells #[T_ ⟨#[]⟩,.float .f64 0,.float .f64 0,.float .f64 0] 138)).setCells wo.heap.size 0 (#[F,.float .f64 q1,.float .f64 q2,.float .f64 q3]:Array WY).toList);have ag:=Hd af;have y0:C w2 wo.heap.size 0 F:=by
    rw [af];have:=Xj _ wo.heap.size 0 _ (show Xn (wo.alloc (.cells #[T_ ⟨#[]⟩,.float .f64 0,.float .f64 0,.float .f64 0] 138)) wo.heap.size 0 (Xw (#[F,.float .f64 q1,.float .f64 q2,.float .f64 q3]:Array WY)).length from an) 0 (T_ F) rfl;rwa [Xg] at this
   clear af ai;go_wp2_with (refine wpList_store_mid rfl 138 _ _ rfl wo.heap.size 0 #[F,.float .f64 q1,.float .f64 q2,.float .f64 q3] rfl rfl an HI aw ?_;rw [<-ag.o])
   have aI:Xb (Bw w w2):=Hd (by
    rw [ag.o];exact Ta.fq Hb.o.size _ _ _ (Hb.o.alloc Hb.o.size _))
   have ay:Xb (X_ (Y_ wo)<X_ (Y_ w2)):=Hd (by
    have V:=(Ta.fq (B:=X_ (Y_ wo)) (g:=X_ (Y_ wo)) l_ (#[F,.float .f64 q1,.float .f64 q2,.float .f64 q3]:Array WY).toList 0 (wo.alloc (.cells #[T_ ⟨#[]⟩,.float .f64 0,.float .f64 0,.float .f64 0] 138)) b_).size;rw [<-ag.o] at V;simp at V;omega)
   refine (HN.o _).mono ?_;rintro e w3 ⟨rfl,O⟩;have aE:=Hd (aI.o.trans (O.mono aI.o.size));have aT:C w3 wo.heap.size 0 F:=(O.cell (p:=⟨X_ (Y_ wo),0,Z_⟩) (by
    exact ay.o)).trans y0
   have aR:=Hd (Xu ay.o O.size);clear O y0 an aw HI x0 x1 x2 x3;generalize hnm:Ta.jQ F=nm at*;have aA:=Hd hnm;clear hnm;cases nm with
   |false=>
    go_wp2;rw [XA];go_ret;refine ⟨WW,rfl,⟨λe=>Xx e,λhA=>?_⟩,aE.o⟩;have V:=(hA k hl o_).1;rw [<-ak.o] at V;rw [aA.o] at V;exact V
   |true=>
    go_wp2;go_loopw [3,24] (λvo vi wi=> ∃(j:Nat),j<=k/\vi=I_ J_ j/\vo=B_ Z'/\Xb (Bw w wi)/\Xb (X_ (Y_ wo)<X_ (Y_ wi)/\C wi wo.heap.size 0 F)/\Xb (∀(G:Nat) (hj:G<l.length),G<j->F≠l[G].id)) (λ_ i _=>k - (intOf i).toNat)
    .exact ⟨0,o_,rfl,rfl,aE,Hd ⟨aR.o,aT⟩,Hd (λG _ h=>absurd h o_)⟩
    ·
     obtain ⟨j,hj,rfl,rfl,aa,HY,HD⟩:=hrel;by_cases hjk:j<k
     .obtain ⟨aS,a3,aX,-,-,ab⟩:=iN.at_ (H.o.below aa.o) (show j<n by omega)
      obtain rfl:ad=aS:=by simpa using aX
      have aC:=Hd (show∃q,q=l[j] from ⟨_,rfl⟩);let ⟨q4,am⟩:=aC.o;rw [<-am] at ab;have az:=Hd am;clear am aC;obtain ⟨p0,p1,p2,p3⟩:=q4;obtain ⟨z0,z1,z2,z3⟩:=ab
      dsimp only at z0 z1 z2 z3
      have ae:Xf (wr.alloc (.cells #[T_ ⟨#[]⟩,.float .f64 0,.float .f64 0,.float .f64 0] 138)) wr.heap.size 138 #[T_ ⟨#[]⟩,.float .f64 0,.float .f64 0,.float .f64 0]:=Xe;have al:Xn (wr.alloc (.cells #[T_ ⟨#[]⟩,.float .f64 0,.float .f64 0,.float .f64 0] 138)) wr.heap.size 0 4:=λj hj=>⟨by
       rw [Xg,ae.cell];have:j=0\/j=1\/j=2\/j=3:=o_;obtain rfl|rfl|rfl|rfl:=this<;>rfl,by rw [Xg];exact ae.frozen j⟩
      have aH:XE (#[p0,.float .f64 p1,.float .f64 p2,.float .f64 p3]:Array WY) (·.oneCell')=Z':=by simp [Xs]
      have aF:((Xc).info? 138).map (·.size)=Y' (XC (#[p0,.float .f64 p1,.float .f64 p2,.float .f64 p3]:Array WY)):=k_;let ⟨w5,I⟩:=nm ((wr.alloc (.cells #[T_ ⟨#[]⟩,.float .f64 0,.float .f64 0,.float .f64 0] 138)).setCells wr.heap.size 0 (#[p0,.float .f64 p1,.float .f64 p2,.float .f64 p3]:Array WY).toList);have aL:=Hd I;have u0:C w5 wr.heap.size 0 p0:=by
       rw [I];have:=Xj _ wr.heap.size 0 _ (show Xn (wr.alloc (.cells #[T_ ⟨#[]⟩,.float .f64 0,.float .f64 0,.float .f64 0] 138)) wr.heap.size 0 (Xw (#[p0,.float .f64 p1,.float .f64 p2,.float .f64 p3]:Array WY)).length from al) 0 (T_ p0) rfl;rwa [Xg] at this
      have U:Bw wr w5:=by
       rw [I];exact Ta.fq l_ _ _ _ (dL)
      have u1:C w5 wo.heap.size 0 F:=(U.cell (p:=⟨X_ (Y_ wo),0,Z_⟩) HY.o.1).trans HY.o.2;have aK:=Hd (aa.o.trans (U.mono aa.o.size));have aW:=Hd (show wo.heap.size<X_ (Y_ w5)/\C w5 wo.heap.size 0 F from ⟨Xu HY.o.1 U.size,u1⟩);clear I ae U;by_cases he:F=p0
      .have e1:(F.toList==p0.toList)=Z':=by rw [he];simp
       have a2:=Hd he;clear he;go_wp2_with (refine wpList_store_mid rfl 138 _ _ rfl wr.heap.size 0 #[p0,.float .f64 p1,.float .f64 p2,.float .f64 p3] rfl rfl al aF aH ?_;rw [<-aL.o])
       refine bodyPost_ret (v:=B_ WW) (by simp [results,results188,go_sem]) rfl ⟨WW,rfl,⟨λe=>Xx e,λhA=>?_⟩,aK.o⟩;have V:=(hA k hl o_).2 j a3 o_;rw [<-ak.o,<-az.o] at V;exact absurd a2.o V
      .have e1:(F.toList==p0.toList)=WW:=beq_eq_false_iff_ne.2 (λe=>he (by rw [Lib.toList_data,Lib.toList_data] at e;obtain ⟨a⟩:=F;obtain ⟨b⟩:=p0;exact congrArg _ (Array.toList_inj.1 e)))
       have aP:Xb (∀(G:Nat) (hj:G<l.length),G<j+1->F≠l[G].id):=Hd λG ah ac=>by
        by_cases h:G<j
        .exact HD.o G ah h
        .obtain rfl:G=j:=o_
         rw [<-az.o];exact he
       clear he;go_wp2_with (refine wpList_store_mid rfl 138 _ _ rfl wr.heap.size 0 #[p0,.float .f64 p1,.float .f64 p2,.float .f64 p3] rfl rfl al aF aH ?_;rw [<-aL.o])
       go_roundw
       .exact ⟨j+1,o_,by go_num,rfl,aK,aW,aP⟩
       .simp [intOf];omega
     .obtain rfl:j=k:=o_
      have aV:Xb (mD l (j+1)):=Hd λi hi hik=>by
       by_cases h:i<j
       .exact HA.o i hi h
       .obtain rfl:i=j:=o_
        rw [<-ak.o];exact ⟨aA.o,λG ah ac=>HD.o G ah ac⟩
      go_wp2;go_roundw
      .exact ⟨j+1,o_,by go_num,rfl,aa,aV⟩
      .simp [intOf];omega
  .obtain rfl:k=n:=o_
   go_wp2;rw [XA];go_ret;exact ⟨Z',rfl,by rw [ax];exact iff_of_true rfl HA.o,Hb.o⟩
def okW (f0 f1 f2:Nat):Bool:=decide (Xy f0≠1)&&(decide (Xy f1≠1)&&decide (Xy f2≠1))
def Rh (a b c:Nat) (X:WX): ∀i:Nat,i<3->(Instr.index 44 (A_ #[.float .f64 a,.float .f64 b,.float .f64 c]) (I_ J_ i)).run Xc X= .ok (.float .f64 (if i=0 then a else if i=1 then b else c)) X:=by
 intro i hi;have:i=0\/i=1\/i=2:=o_;have hz:=sizeOf43;obtain rfl|rfl|rfl:=this<;>simp [Instr.index,run_underlying underlying44,asIntOf,go_sem]
def Bc (f0 f1 f2:Nat):Nat->Array WY
 |0=> #[I_ J_ 0,I_ J_ 0,I_ J_ 0]
 |1=> #[I_ J_ (Xd f0),I_ J_ 0,I_ J_ 0]
 |2=> #[I_ J_ (Xd f0),I_ J_ (Xd f1),I_ J_ 0]
 |_=> #[I_ J_ (Xd f0),I_ J_ (Xd f1),I_ J_ (Xd f2)]
def WholeSaid (f0 f1 f2:Nat) (W:WX) (e:Ending) (w':WX):Prop:=
 (okW f0 f1 f2=Z'/\e=R_ (U_ #[A_ #[I_ J_ (Xd f0),I_ J_ (Xd f1),I_ J_ (Xd f2)],B_ Z'])/\Bw W w')\/
 (okW f0 f1 f2=WW/\e=R_ (U_ #[A_ #[I_ J_ 0,I_ J_ 0,I_ J_ 0],B_ WW])/\Bw W w')
def Wb {p:Prop} (h:p:=by
 rintro e w2 ⟨rfl,rfl⟩;have ac:World.there wr (w.heap.size+1) 0 3:=λj hj=>⟨by
   rw [Nat.zero_add,aa.o.cell];have:j=0\/j=1\/j=2:=o_;obtain rfl|rfl|rfl:=this<;>rfl,by rw [Nat.zero_add];exact aa.o.frozen j⟩
 have HA:Array.all (#[I_ J_ 0,I_ J_ 0,I_ J_ 0]:Array Value) (·.oneCell')=true:=by simp [Value.oneCell']
 have HI:((prog).info? 22).map (·.size)=some (Array.size (#[I_ J_ 0,I_ J_ 0,I_ J_ 0]:Array Value)):=k_;obtain ⟨w3,U⟩:=nm (wr.setCells (w.heap.size+1) 0 (#[I_ J_ 0,I_ J_ 0,I_ J_ 0]:Array Value).toList);have ah:=Hd U;have I:=Hd (World.rangeAt_setCells_same wr (w.heap.size+1) 0 _ (show World.there wr (w.heap.size+1) 0 (Array.toList (#[I_ J_ 0,I_ J_ 0,I_ J_ 0]:Array Value)).length from ac));rw [<-U] at I;have ab:Hid (Bw w w3):=Hd (by rw [U];exact Ta.fq o_ _ _ _ H2.o);clear U;go_wp2_with (refine wpList_store_mid rfl 22 _ _ rfl (w.heap.size+1) 0 #[I_ J_ 0,I_ J_ 0,I_ J_ 0] rfl rfl ac HI HA ?_;rw [<-ah.o])
 clear ac HA HI;have v0:C w3 (w.heap.size+1) 0 (I_ J_ 0):=by have:=I.o 0 (I_ J_ 0) rfl;rwa [Nat.zero_add] at this
 have v1:C w3 (w.heap.size+1) 1 (I_ J_ 0):=by have:=I.o 1 (I_ J_ 0) rfl;rwa [Nat.zero_add] at this
 have v2:C w3 (w.heap.size+1) 2 (I_ J_ 0):=by have:=I.o 2 (I_ J_ 0) rfl;rwa [Nat.zero_add] at this
 refine bodyPost_ret (v:=U_ #[A_ #[I_ J_ 0,I_ J_ 0,I_ J_ 0],B_ false]) (by simp [*,results,results187,go_sem]) rfl (Or.inr ⟨ag.o,rfl,ab.o⟩)):p:=h
def Bb (V O F:Nat) (w:WX) (h0:V<18446744073709551616) (h1:O<18446744073709551616) (h2:F<18446744073709551616):
  WZ Xc 187 #[A_ #[.float .f64 V,.float .f64 O,.float .f64 F]] w (WholeSaid V O F w):=by
 have Q0:=Hd (λX=>Fl.rz V X h0);have Q1:=Hd (λX=>Fl.rz O X h1);have af:=Hd (λX=>Fl.rz F X h2);have al:=Hd (show okW V O F=(decide (Xy V≠1)&&(decide (Xy O≠1)&&decide (Xy F≠1))) from rfl);have an:=Hd (λX=>Rh V O F X);clear h0 h1 h2;generalize decide (Xy V≠1)=d0 at*;generalize decide (Xy O≠1)=d1 at*;generalize decide (Xy F≠1)=d2 at*;go_enter func187,ntmps187;let ⟨w1,G⟩:=nm (((w.alloc (.cells #[.float .f64 V,.float .f64 O,.float .f64 F] 44)).alloc (.cells #[I_ J_ 0,I_ J_ 0,I_ J_ 0] 22)).alloc (.cells #[I_ J_ 0,I_ J_ 0,I_ J_ 0] 22));have ax:=Hd (show Bw w w1 from by rw [G];exact ((dL).alloc y_ _).alloc z_ _);have HL:=Hd (show Xf w1 (X_ (Y_ w)+1) 22 #[I_ J_ 0,I_ J_ 0,I_ J_ 0] from by
  rw [G];have:=Xe (w:=w.alloc (.cells #[.float .f64 V,.float .f64 O,.float .f64 F] 44)) (t:=22) (cs:= #[I_ J_ 0,I_ J_ 0,I_ J_ 0]);exact Xh (by simpa using this))
 have au:=Hd (show Xf w1 (X_ (Y_ w)+2) 22 #[I_ J_ 0,I_ J_ 0,I_ J_ 0] from by
  rw [G];have:=Xe (w:=(w.alloc (.cells #[.float .f64 V,.float .f64 O,.float .f64 F] 44)).alloc (.cells #[I_ J_ 0,I_ J_ 0,I_ J_ 0] 22)) (t:=22) (cs:= #[I_ J_ 0,I_ J_ 0,I_ J_ 0]);simpa using this)
 have av:=Hd G;clear G;go_wp2_with fail;rw [<-av.o];go_loopw [10] (λvi wr=> ∃k:Nat,k<=3/\vi=I_ J_ k/\Xb (Bw w wr)/\Xb (Xf wr (X_ (Y_ w)+1) 22 #[I_ J_ 0,I_ J_ 0,I_ J_ 0])/\Xb (Xf wr (X_ (Y_ w)+2) 22 (Bc V O F k))/\Xb (1<=k->d0=Z')/\Xb (2<=k->d1=Z')/\Xb (3<=k->d2=Z')) (λi _=>3 - (intOf i).toNat)
 .exact ⟨0,o_,rfl,ax,HL,au,Hd (λh=>absurd h o_),Hd (λh=>absurd h o_),Hd (λh=>absurd h o_)⟩
 .obtain ⟨k,hk,rfl,H2,aa,ae,E0,E1,E2⟩:=hrel
  have ap:k=0\/k=1\/k=2\/k=3:=o_;obtain rfl|rfl|rfl|rfl:=ap
  .have ao:=λX=>an.o X 0 d_
   rw [show ((0:Nat):Int)=(0:Int) from rfl] at*;rw [show w.heap.size+2=X_ (Y_ w)+1+1 from rfl] at ae;have o0:=c0 ae.o;have z0:=ae.o.frozen 0;cases d0 with
   |true=>
    have ai:Xb (Xf (wr.setCell ⟨X_ (Y_ w)+1+1,0,Z_⟩ (I_ J_ (Xd V))) (X_ (Y_ w)+2) 22 (Bc V O F 1)):=Hd (ae.o.eC 0 _);have ak:Xb (Xf (wr.setCell ⟨X_ (Y_ w)+1+1,0,Z_⟩ (I_ J_ (Xd V))) (X_ (Y_ w)+1) 22 #[I_ J_ 0,I_ J_ 0,I_ J_ 0]):=Hd (aa.o.fA y_);have ab:Xb (Bw w (wr.setCell ⟨X_ (Y_ w)+1+1,0,Z_⟩ (I_ J_ (Xd V)))):=Hd (H2.o.setCell z_ _);go_wp2_with fail;refine (Q0.o _).mono ?_;refine Ie ?_;go_roundw
    .exact ⟨1,o_,rfl,ab,ak,ai,Hd (λ_=>trivial),Hd (λh=>absurd h o_),Hd (λh=>absurd h o_)⟩
    .simp [intOf]
   |false=>
    have ag:Xb (okW V O F=WW):=Hd (by rw [al.o];simp);go_wp2_with fail;refine (Q0.o _).mono ?_;exact Wb
  .have ao:=λX=>an.o X 1 d_
   rw [show ((1:Nat):Int)=(1:Int) from rfl] at*;rw [show w.heap.size+2=X_ (Y_ w)+1+1 from rfl] at ae;have o1:=c1 ae.o;have z1:=ae.o.frozen 1;cases d1 with
   |true=>
    have ai:Xb (Xf (wr.setCell ⟨X_ (Y_ w)+1+1,1,Z_⟩ (I_ J_ (Xd O))) (X_ (Y_ w)+2) 22 (Bc V O F 2)):=Hd (ae.o.eC 1 _);have ak:Xb (Xf (wr.setCell ⟨X_ (Y_ w)+1+1,1,Z_⟩ (I_ J_ (Xd O))) (X_ (Y_ w)+1) 22 #[I_ J_ 0,I_ J_ 0,I_ J_ 0]):=Hd (aa.o.fA y_);have ab:Xb (Bw w (wr.setCell ⟨X_ (Y_ w)+1+1,1,Z_⟩ (I_ J_ (Xd O)))):=Hd (H2.o.setCell z_ _);go_wp2_with fail;refine (Q1.o _).mono ?_;refine Ie ?_;go_roundw
    .exact ⟨2,o_,rfl,ab,ak,ai,Hd (λ_=>E0.o o_),Hd (λ_=>trivial),Hd (λh=>absurd h o_)⟩
    .simp [intOf]
   |false=>
    have ag:Xb (okW V O F=WW):=Hd (by rw [al.o];simp);go_wp2_with fail;refine (Q1.o _).mono ?_;exact Wb
  .have ao:=λX=>an.o X 2 d_
   rw [show ((2:Nat):Int)=(2:Int) from rfl] at*;rw [show w.heap.size+2=X_ (Y_ w)+1+1 from rfl] at ae;have o2:=c2 ae.o;have z2:=ae.o.frozen 2;cases d2 with
   |true=>
    have ai:Xb (Xf (wr.setCell ⟨X_ (Y_ w)+1+1,2,Z_⟩ (I_ J_ (Xd F))) (X_ (Y_ w)+2) 22 (Bc V O F 3)):=Hd (ae.o.eC 2 _);have ak:Xb (Xf (wr.setCell ⟨X_ (Y_ w)+1+1,2,Z_⟩ (I_ J_ (Xd F))) (X_ (Y_ w)+1) 22 #[I_ J_ 0,I_ J_ 0,I_ J_ 0]):=Hd (aa.o.fA y_);have ab:Xb (Bw w (wr.setCell ⟨X_ (Y_ w)+1+1,2,Z_⟩ (I_ J_ (Xd F)))):=Hd (H2.o.setCell z_ _);go_wp2_with fail;refine (af.o _).mono ?_;refine Ie ?_;go_roundw
    .exact ⟨3,o_,rfl,ab,ak,ai,Hd (λ_=>E0.o o_),Hd (λ_=>E1.o o_),Hd (λ_=>trivial)⟩
    .simp [intOf]
   |false=>
    have ag:Xb (okW V O F=WW):=Hd (by rw [al.o];simp);go_wp2_with fail;refine (af.o _).mono ?_;exact Wb
  .have ay:Xb (okW V O F=Z'):=Hd (by rw [al.o,E0.o o_,E1.o o_,E2.o o_];rfl)
   rw [show ((3:Nat):Int)=(3:Int) from rfl] at*;rw [show w.heap.size+2=X_ (Y_ w)+1+1 from rfl] at ae;obtain ⟨o0,o1,o2,-⟩:=kA ae.o;have ac:Xn wr (X_ (Y_ w)+1) 0 3:=λj hj=>⟨by
     rw [Xg,aa.o.cell];have:j=0\/j=1\/j=2:=o_;obtain rfl|rfl|rfl:=this<;>rfl,by rw [Xg];exact aa.o.frozen j⟩
   have HA:XE (#[I_ J_ (Xd V),I_ J_ (Xd O),I_ J_ (Xd F)]:Array WY) (·.oneCell')=Z':=by simp [Xs]
   have HI:((Xc).info? 22).map (·.size)=Y' (XC (#[I_ J_ (Xd V),I_ J_ (Xd O),I_ J_ (Xd F)]:Array WY)):=k_;let ⟨w3,U⟩:=nm (wr.setCells (X_ (Y_ w)+1) 0 (#[I_ J_ (Xd V),I_ J_ (Xd O),I_ J_ (Xd F)]:Array WY).toList);have ah:=Hd U;have I:=Hd (Xj wr (X_ (Y_ w)+1) 0 _ (show Xn wr (X_ (Y_ w)+1) 0 (Xw (#[I_ J_ (Xd V),I_ J_ (Xd O),I_ J_ (Xd F)]:Array WY)).length from ac));rw [<-U] at I;have ab:Xb (Bw w w3):=Hd (by rw [U];exact Ta.fq o_ _ _ _ H2.o);clear U;go_wp2_with (refine wpList_store_mid rfl 22 _ _ rfl (X_ (Y_ w)+1) 0 #[I_ J_ (Xd V),I_ J_ (Xd O),I_ J_ (Xd F)] rfl rfl ac HI HA ?_;rw [<-ah.o])
   clear ac HA HI;have v0:C w3 (X_ (Y_ w)+1) 0 (I_ J_ (Xd V)):=by have:=I.o 0 (I_ J_ (Xd V)) rfl;rwa [Xg] at this
   have v1:C w3 (X_ (Y_ w)+1) 1 (I_ J_ (Xd O)):=by have:=I.o 1 (I_ J_ (Xd O)) rfl;rwa [Xg] at this
   have v2:C w3 (X_ (Y_ w)+1) 2 (I_ J_ (Xd F)):=by have:=I.o 2 (I_ J_ (Xd F)) rfl;rwa [Xg] at this
   refine bodyPost_ret (v:=U_ #[A_ #[I_ J_ (Xd V),I_ J_ (Xd O),I_ J_ (Xd F)],B_ Z']) (by simp [*,results,results187,go_sem]) rfl (Xt ⟨ay.o,rfl,ab.o⟩)
instance:Inhabited et:=⟨⟨⟨#[]⟩,0,0,0⟩⟩
def WJ:Mem.El Xc 96 299 (A_ #[T_ ⟨#[]⟩,I_ J_ 0,I_ J_ 0,I_ J_ 0]) 4 40:=⟨underlying96,k_,rfl,d_⟩
def Mf {us:List et} (hR:Ro.Row w 299 4 A n c (Xr us)) (hn:us.length=n) (hm:n<=1000000):
  WZ Xc 189 #[S_ A n c,.func (.func 190) #[] #[]] w λo w'=>o=R_ (U_ #[])/\ ∃ys:List et,ys.Perm us/\Xq (ltOf λx y:et=>du.cmp x.id y.id) 0 n ys.toArray/\Ro.Row w' 299 4 A n c (Xr ys)/\Xv (λb=>Ro.dr A=Y' b) w w':=
 Gr.uS (enc:=et.cells) (k:=4) Tryz.Ux (λw=>isAgg299 w) (λw=>sizeOf299 w) (λ_=>rfl) d_ (λx v hv=>by simp [et.cells] at hv;obtain rfl|rfl|rfl|rfl:=hv<;>rfl)
  (λx y=>du.cmp x.id y.id) (Gr.oq.pull et.id) 190 (enters_of func190 k_ rfl) (λx y w=>CI x y w) hR hn hm
def j_ (u:iN):et:=⟨u.id,Xd u.sA,Xd u.sB,Xd u.sC⟩
structure iq (r:gj):Prop where
 av:okW r.pX r.pY r.pZ=Z'
 len:r.use.length<=128
 alone:mD r.use r.use.length
 use: ∀u∈r.use,okW u.sA u.sB u.sC=Z'
def iQ (r:gj) (W:WX) (e:Ending) (w':WX):Prop:=
 (¬iq r/\e=R_ (U_ #[A_ (xY 0 0 0 0 Z_ 0 0),I_ J_ 1])/\Bw W w')\/
 (iq r/\ ∃(A:Option Xa) (c:Nat) (us:List et),e=R_ (U_ #[A_ (xY r.time (Xd r.pX) (Xd r.pY) (Xd r.pZ) A us.length c),I_ J_ 0])/\us.Perm (r.use.map j_)/\du.dY (iK us)/\
  Ro.Row w' 299 4 A us.length c (Xr us)/\(∀b,Ro.dr A=Y' b->X_ (Y_ W)<=b)/\Bw W w')
def Ic {use:List iN} (ha:mD use use.length) (hp:ys.Perm (use.map j_)) (hs:Xq (ltOf λx y:et=>du.cmp x.id y.id) 0 ys.length ys.toArray):du.dY (iK ys):=by
 have hnd:(iK ys).Nodup:=by
  have h1:(use.map j_).map et.id=use.map iN.id:=by rw [List.map_map];rfl
  have h2:(use.map iN.id).Nodup:=by
   rw [List.Nodup,Xp];intro i j hi hj hij e;simp only [Xo] at hi hj;simp only [List.getElem_map] at e;exact (ha j hj hj).2 i hi hij e.symm
  have h3:(ys.map et.id).Perm (use.map iN.id):=by rw [<-h1];exact hp.map _
  exact h3.nodup_iff.2 h2
 unfold du.dY;rw [Xp];intro i j hi hj hij;have hi':i<ys.length:=by simpa [iK] using hi
 have hj':j<ys.length:=by simpa [iK] using hj
 have h1:=hs i j (Nat.zero_le _) hij hj';unfold ltOf at h1;simp only [decide_eq_false_iff_not] at h1;rw [getElem!_pos _ _ (by simpa using hj'),getElem!_pos _ _ (by simpa using hi')] at h1;simp only [List.getElem_toArray] at h1;have e1:(iK ys)[i]=ys[i].id:=by simp [iK]
 have e2:(iK ys)[j]=ys[j].id:=by simp [iK]
 have h2:ys[i].id≠ys[j].id:=λe=>by
  rw [<-e1,<-e2] at e;have:=(List.getElem_inj hnd).1 e;omega
 rw [e1,e2];have h3:=du.qm ys[i].id ys[j].id;have h4:du.cmp ys[i].id ys[j].id≠0:=λe=>h2 ((du.cmp_eq _ _).1 e)
 omega
def Mg {W:WX} (h:eF W w e k A n c xs) (hb:Xf w g t cs) (he:e≠t) (hg:X_ (Y_ W)<=g):eF W (w.setCell ⟨g,i,Z_⟩ u) e k A n c xs:=
 ⟨h.below.setCell hg _,h.row.dy λb hk=>Below.heap_setCell w _ u b (λe2=>h.row.dZ hb he b hk e2),h.fresh⟩
def Mh {p:Prop} (h:p:=by
 refine bodyPost_ret (v:=U_ #[A_ #[I_ J_ 0,I_ J_ 0,I_ J_ 0,I_ J_ 0,S_ none 0 0],I_ J_ 1]) (by simp [*,results,results130,go_sem]) rfl (Or.inl ⟨am,rfl,al⟩)):p:=h
def Mi (r:gj) (w:WX) (hl:gj.gG w w.heap.size r) (hr:r.ok):WZ Xc 130 #[A_ r.arr] w (iQ r w):=by
 obtain ⟨F,f0,f1,f2,use,A,n,c⟩:=r;have hu:=hl.use;let ⟨be,br,ap,aA⟩:=hr.use;have k0:=hr.pX;have k1:=hr.pY;have k2:=hr.pZ
 dsimp only at be br ap aA k0 k1 k2
 obtain ⟨R,hR⟩: ∃R:gj,R=⟨F,f0,f1,f2,use,A,n,c⟩:=⟨_,rfl⟩;rw [<-hR];rw [show R.arr= #[I_ J_ F,.float .f64 f0,.float .f64 f1,.float .f64 f2,S_ A n c] from by rw [hR];rfl];have HR:=Hd hR;have ba:Xb (okW f0 f1 f2=WW-> ¬iq R):=λh h2=>by have:=h2.av;rw [hR] at this;dsimp only at this;rw [h] at this;cases this
 have bM:Xb (¬n<=128-> ¬iq R):=λh h2=>by have:=h2.len;rw [hR] at this;dsimp only at this;omega
 have bw:Xb (¬mD use use.length-> ¬iq R):=λh h2=>by have:=h2.alone;rw [hR] at this;exact h this
 have cG:Xb (∀u∈use,okW u.sA u.sB u.sC=WW-> ¬iq R):=λu hu h h2=>by have h3:=h2.use u (by rw [hR];exact hu);rw [h] at h3;cases h3
 have bL:=Hd (λX=>Bb f0 f1 f2 X k0 k1 k2);have cp:=Hd (λX (u:iN) (hu:u∈use)=>Bb u.sA u.sB u.sC X (aA u hu).sA (aA u hu).sB (aA u hu).sC);have bV:=Hd (λX (h:XH X X.heap.size 4 A n (iN.flat use)) (hn:n<=100000)=>Mj A n c use X h ap hn be aA);have H:=Hd hu;have HN3:=Hd ap;clear hR hr hl k0 k1 k2 aA hu be br ap;let ⟨w1,aP⟩:=nm ((w.alloc (.cells #[I_ J_ F,.float .f64 f0,.float .f64 f1,.float .f64 f2,S_ A n c] 47)).alloc (.cells #[I_ J_ 0,I_ J_ 0,I_ J_ 0,I_ J_ 0,S_ Z_ 0 0] 98));have HB:Xb (Bw w w1):=by rw [aP];exact (dL).alloc y_ _
 have HP:Xb (Xf w1 w.heap.size 47 #[I_ J_ F,.float .f64 f0,.float .f64 f1,.float .f64 f2,S_ A n c]):=by rw [aP];exact Xh Xe
 have HT3:=Hd (show Xf w1 (X_ (Y_ w)+1) 98 #[I_ J_ 0,I_ J_ 0,I_ J_ 0,I_ J_ 0,S_ Z_ 0 0] from by
  rw [aP];have:=Xe (w:=w.alloc (.cells #[I_ J_ F,.float .f64 f0,.float .f64 f1,.float .f64 f2,S_ A n c] 47)) (t:=98) (cs:= #[I_ J_ 0,I_ J_ 0,I_ J_ 0,I_ J_ 0,S_ Z_ 0 0]);simpa using this)
 have cf:=Hd aP;obtain ⟨-,m1,m2,m3,-⟩:=kA HP;clear aP;go_enter func130,ntmps130;go_upto_region 1 with fail;rw [<-cf.o];go_wp2_with fail;clear m1 m2 m3;refine (bL _).mono ?_;rintro e w2 (⟨ag,rfl,an⟩|⟨ag,rfl,an⟩)
 .have bD:=Hd ag
  have aB:=Hd (HB.trans (an.mono HB.size));have aM:=Hd (HP.a_ an);have aF:=Hd (HT3.a_ an);clear ag an HP HT3 ba;by_cases hn:n<=128
  .have hg: ¬((128:Int)<(n:Int)):=o_
   have cD:=decide_eq_false hg;go_wp2_with (refine XB rfl 22 _ _ rfl #[I_ J_ (Xd f0),I_ J_ (Xd f1),I_ J_ (Xd f2)] rfl rfl rfl k_ v_ ?_;intro w3 b3 ao ai;have m4:C w3 w.heap.size 4 (S_ A n c):=(aM.a_ ao).cell 4;have m0:C w3 w.heap.size 0 F:=(aM.a_ ao).cell 0;have ak:=Hd (aM.a_ ao);have aG:=Hd (aF.a_ ao);have bc:=Hd (aB.trans (ao.mono aB.size));have U:=Hd b3;clear b3 ao ai)
   clear m4 m0;refine (bV _ ((H.below bc).more bc.size) o_).mono ?_;rintro e w4 ⟨b,rfl,(aE:Xb _),y4⟩;have I:=Hd (bc.trans (y4.mono bc.size));have J2:=Hd (aG.a_ y4);have bE:=Hd J2.lt;have ac:=Hd (ak.a_ y4);have ah:=Hd (U.a_ y4);clear y4 U ak aG;cases b with
   |false=>
    have am:=Hd (bw (λh=>by have:=aE.o.2 h;cases this));go_wp2_with (refine Xi rfl 98 _ _ rfl (X_ (Y_ w)+1) 0 #[I_ J_ 0,I_ J_ 0,I_ J_ 0,I_ J_ 0,S_ Z_ 0 0] rfl rfl J2 y_ k_ v_ ?_;intro ae af o9;have v0:C ae (X_ (Y_ w)+1) 0 (I_ J_ 0):=af.cell 0;have v1:C ae (X_ (Y_ w)+1) 1 (I_ J_ 0):=af.cell 1;have v2:C ae (X_ (Y_ w)+1) 2 (I_ J_ 0):=af.cell 2;have v3:C ae (X_ (Y_ w)+1) 3 (I_ J_ 0):=af.cell 3;have v4:C ae (X_ (Y_ w)+1) 4 (S_ Z_ 0 0):=af.cell 4;have al:=Hd (I.trans (o9.below I.size (λk hk e=>o_)));clear af o9)
    exact Mh
   |true=>
    have m0:=c0 ac;obtain ⟨a0,a1,a2,-⟩:=kA ah;go_wp2_with (refine XB rfl 98 _ _ rfl #[I_ J_ F,I_ J_ (Xd f0),I_ J_ (Xd f1),I_ J_ (Xd f2),S_ Z_ 0 0] rfl rfl rfl k_ v_ ?_;intro w5 b5 aY cj;have cI:=Hd b5;have bu:=Hd aY;have m4:C w5 w.heap.size 4 (S_ A n c):=(ac.a_ aY).cell 4;have cy:=Hd (J2.a_ aY);clear b5 aY cj m0 a0 a1 a2)
    clear m4 ah ac J2 bL bV bw bM aM aF;generalize hf0:Xd f0=r0 at*;generalize hf1:Xd f1=r1 at*;generalize hf2:Xd f2=r2 at*;have HF:=Hd (Xm hf0 (Xm hf1 hf2));clear hf0 hf1 hf2;go_loopw [39] (λvi wr=> ∃(k:Nat) (A':Option Xa) (c':Nat),k<=n/\vi=I_ J_ k/\Xb (eF w4 wr 299 4 A' k c' (Xr ((use.take k).map j_)))/\Xb (Xf wr w4.heap.size 98 #[I_ J_ F,I_ J_ r0,I_ J_ r1,I_ J_ r2,S_ A' k c'])/\Xb (Xf wr (X_ (Y_ w)+1) 98 #[I_ J_ 0,I_ J_ 0,I_ J_ 0,I_ J_ 0,S_ Z_ 0 0])/\Xb (∀(i:Nat) (hi:i<use.length),i<k->okW use[i].sA use[i].sB use[i].sC=Z')) (λi _=>n - (intOf i).toNat)
    .exact ⟨0,Z_,0,o_,rfl,Hd (eF.nil bu),cI,cy,Hd (λi _ h=>absurd h o_)⟩
    .obtain ⟨k,A',c',hk,rfl,G,aC,aK,bG⟩:=hrel
     by_cases co:k<n
     .have Hw:=Hd (I.trans (G.below.mono I.size))
      obtain ⟨ad,hl,rfl,cF,bA,cz⟩:=iN.at_ (H.below Hw) co;have bI:=Hd (λX=>cp X use[k] (g_ hl));have aU:=Hd (cG use[k] (g_ hl));have bO:Xb ((use.take (k+1)).map j_=(use.take k).map j_++[j_ use[k]]):=by rw [Mem.dQ use k hl,Xz];rfl
      have au:Xb (okW use[k].sA use[k].sB use[k].sC=Z'-> ∀(i:Nat) (hi:i<use.length),i<k+1->okW use[i].sA use[i].sB use[i].sC=Z'):=λh i hi h2=>by
       by_cases h3:i<k
       .exact bG i hi h3
       .obtain rfl:i=k:=o_
        exact h
      generalize use[k]=q at*;obtain ⟨q0,q1,q2,q3⟩:=q;obtain ⟨x0,x1,x2,x3⟩:=cz
      dsimp only at x0 x1 x2 x3 bI aU au
      have cC:Xb (Xr ((use.take (k+1)).map j_)=Xr ((use.take k).map j_)++(#[T_ q0,I_ J_ (Xd q1),I_ J_ (Xd q2),I_ J_ (Xd q3)]:Array WY).toList):=by rw [bO.o,et.eH];rfl
      refine lI ?_;intro hw;clear cF bA bO;go_wp2_with (refine XB rfl 138 _ _ rfl #[T_ q0,.float .f64 q1,.float .f64 q2,.float .f64 q3] rfl rfl rfl k_ v_ ?_;intro w6 b6 bH cB;have y0:C w6 wr.heap.size 0 q0:=b6.cell 0;have y1:C w6 wr.heap.size 1 (.float .f64 q1):=b6.cell 1;have y2:C w6 wr.heap.size 2 (.float .f64 q2):=b6.cell 2;have y3:C w6 wr.heap.size 3 (.float .f64 q3):=b6.cell 3;have HS:=Hd b6;have HBc:=Hd bH;clear b6 bH cB)
      refine (bI _).mono ?_;clear y0 y1 y2 y3 x0 x1 x2 x3;rintro e w7 (⟨aD,rfl,hb4⟩|⟨aD,rfl,hb4⟩)
      .have ch:=Hd (au aD)
       have cm:=Hd (HS.a_ hb4);have O:=Hd (HBc.trans (hb4.mono HBc.size));clear aD hb4 HS HBc au aU;obtain ⟨w8,cH⟩: ∃w8:WX,Xf w8 w7.heap.size 22 #[I_ J_ (Xd q1),I_ J_ (Xd q2),I_ J_ (Xd q3)]/\Bw w7 w8/\w8=(w7.alloc (.cells #[I_ J_ 0,I_ J_ 0,I_ J_ 0] 22)).setCells w7.heap.size 0 [I_ J_ (Xd q1),I_ J_ (Xd q2),I_ J_ (Xd q3)]:=by
        refine ⟨_,?_,?_,rfl⟩
        .exact eU.gv _ _ _ _ Xe
        .exact (eU.pd (eU.eI _ _ _)).1
       obtain ⟨bo,aI,(cr:Xb _)⟩:=cH;have aH:=Hd (O.trans (aI.mono O.size));have aS:=G.free aH;let ⟨A2,aw,ae,cA,bP,bf⟩:=aS.push WJ #[T_ q0,I_ J_ (Xd q1),I_ J_ (Xd q2),I_ J_ (Xd q3)] rfl v_ o_ d_ rfl;have s8:=aC.a_ aH;have z8:=c4 s8;have y8:=c0 (cm.a_ aI);obtain ⟨d0,d1,d2,-⟩:=kA bo;have s9:Xf ae w4.heap.size 98 #[I_ J_ F,I_ J_ r0,I_ J_ r1,I_ J_ r2,S_ A' k c']:=(bf.block _ s8.lt (λe=>aS.row.dZ s8 d_ _ e rfl)).trans s8;have r8:=aK.a_ aH;have r9:Xf ae (X_ (Y_ w)+1) 98 #[I_ J_ 0,I_ J_ 0,I_ J_ 0,I_ J_ 0,S_ Z_ 0 0]:=(bf.block _ r8.lt (λe=>aS.row.dZ r8 d_ _ e rfl)).trans r8;have z9:C ae w4.heap.size 4 (S_ A' k c'):=s9.cell 4;have f9:=s9.frozen 4;have bW:Xb (eF w4 (ae.setCell ⟨X_ (Y_ w4),4,Z_⟩ (S_ A2 (k+1) aw)) 299 4 A2 (k+1) aw (Xr ((use.take (k+1)).map j_))):=by rw [cC.o];exact Mg bP s9 d_ l_
       have cn:Xb (Xf (ae.setCell ⟨X_ (Y_ w4),4,Z_⟩ (S_ A2 (k+1) aw)) w4.heap.size 98 #[I_ J_ F,I_ J_ r0,I_ J_ r1,I_ J_ r2,S_ A2 (k+1) aw]):=s9.eC 4 _;have aF:Xb (Xf (ae.setCell ⟨X_ (Y_ w4),4,Z_⟩ (S_ A2 (k+1) aw)) (X_ (Y_ w)+1) 98 #[I_ J_ 0,I_ J_ 0,I_ J_ 0,I_ J_ 0,S_ Z_ 0 0]):=r9.fA (by have:=bE.o;simp;omega);clear bo aI aS bP bf s8 s9 r8 r9;go_wp2_with (first|(refine wpList_store_mid rfl 22 _ _ rfl w7.heap.size 0 #[I_ J_ (Xd q1),I_ J_ (Xd q2),I_ J_ (Xd q3)] rfl rfl (eU.gP Xe y_) k_ v_ ?_;rw [show ((#[I_ J_ (Xd q1),I_ J_ (Xd q2),I_ J_ (Xd q3)]:Array WY).toList)=[I_ J_ (Xd q1),I_ J_ (Xd q2),I_ J_ (Xd q3)] from rfl,<-cr.o])|(at_builtin;refine Ro.dS rfl _ _ _ _ rfl _ _ rfl rfl cA ?_))
       go_roundw
       .exact ⟨k+1,A2,aw,o_,by go_num,bW,cn,aF,ch⟩
       .simp [intOf];omega
      .have am:=Hd (aU aD)
       have O:=Hd (HBc.trans (hb4.mono HBc.size));have HS4:=Hd (aK.a_ O);have HB4:=Hd (Hw.trans (O.mono Hw.size));clear aD hb4 HS HBc au aU;go_wp2_with (first|(refine XB rfl 22 _ _ rfl #[I_ J_ 0,I_ J_ 0,I_ J_ 0] rfl rfl rfl k_ v_ ?_;intro w8 b3 ao ai;have cJ:=Hd (HS4.a_ ao);have aH:=Hd (HB4.trans (ao.mono HB4.size));clear b3 ao ai)|(refine Xi rfl 98 _ _ rfl (X_ (Y_ w)+1) 0 #[I_ J_ 0,I_ J_ 0,I_ J_ 0,I_ J_ 0,S_ Z_ 0 0] rfl rfl cJ y_ k_ v_ ?_;intro ae af o9;have v0:C ae (X_ (Y_ w)+1) 0 (I_ J_ 0):=af.cell 0;have v1:C ae (X_ (Y_ w)+1) 1 (I_ J_ 0):=af.cell 1;have v2:C ae (X_ (Y_ w)+1) 2 (I_ J_ 0):=af.cell 2;have v3:C ae (X_ (Y_ w)+1) 3 (I_ J_ 0):=af.cell 3;have v4:C ae (X_ (Y_ w)+1) 4 (S_ Z_ 0 0):=af.cell 4;have al:=Hd (aH.trans (o9.below aH.size (λk hk e=>o_)));clear af o9))
       exact Mh
     .obtain rfl:k=n:=o_
      have aa:=G.o;rw [t_ (by have:=HN3.o;omega)] at aa;have z4:=c4 aC;have cv:=Hd (Mf aa.row (by rw [Xo];exact HN3) o_);have az:=Hd aa;clear aa;go_wp2_with fail;clear z4;refine cv.mono ?_;rintro e aT ⟨rfl,ys,ab,aO,ar,V⟩;have bd:ys.length=k:=by rw [ab.length_eq,Xo];exact HN3
      have bt:=(V.block _ aC.lt (λe=>az.row.dZ aC d_ _ e rfl)).trans aC;have a8:=Hd ((V.block _ aK.lt (λe=>az.row.dZ aK d_ _ e rfl)).trans aK);obtain ⟨p0,p1,p2,p3,p4,-⟩:=kA bt;have a6:=Hd ((I.trans (az.below.mono I.size)).trans (V.below (by have:=az.o.below.size;have:=I.o.size;omega) (λb hb e=>by have:=az.o.fresh b e;have:=I.o.size;omega)));have bp:Xb (∀ax,Xv (λb=>b=X_ (Y_ w)+1) aT ax->iQ R w (R_ (U_ #[A_ #[I_ J_ F,I_ J_ r0,I_ J_ r1,I_ J_ r2,S_ A' k c'],I_ J_ 0])) ax):=λax bJ=>by
       have hR:=HR.o;refine Xk ⟨⟨by rw [hR];exact bD,by rw [hR];have:=HN3.o;dsimp only;omega,by rw [hR];exact aE.1 trivial,λu hu=>?_⟩,A',c',ys,?_,by rw [hR];exact ab,?_,?_,?_,?_⟩
       .rw [hR] at hu
        obtain ⟨i,hi,rfl⟩:=List.getElem_of_mem hu;exact bG i hi (by have:=HN3.o;dsimp only at hi;omega)
       .rw [hR,bd]
        dsimp only
        rw [HF.o.1,HF.o.2.1,HF.o.2.2];rfl
       .exact Ic (aE.1 trivial) ab (by rw [bd];exact aO)
       .rw [bd]
        exact ar.dy λb hb=>bJ.block b (ar.lt hb) (λe=>ar.dZ a8 d_ b hb e)
       .exact λb hb=>by have:=az.o.fresh b hb;have:=I.o.size;omega
       .exact a6.trans (bJ.below a6.size (λb hb e=>o_))
      clear bt ar V ab aO;go_wp2_with (refine Xi rfl 98 _ _ rfl (X_ (Y_ w)+1) 0 #[I_ J_ F,I_ J_ r0,I_ J_ r1,I_ J_ r2,S_ A' k c'] rfl rfl a8 y_ k_ v_ ?_;intro ax ay bT;have v0:C ax (X_ (Y_ w)+1) 0 F:=ay.cell 0;have v1:C ax (X_ (Y_ w)+1) 1 r0:=ay.cell 1;have v2:C ax (X_ (Y_ w)+1) 2 r1:=ay.cell 2;have v3:C ax (X_ (Y_ w)+1) 3 r2:=ay.cell 3;have v4:C ax (X_ (Y_ w)+1) 4 (S_ A' k c'):=ay.cell 4;have HG:=Hd (bp _ bT);clear ay bT p0 p1 p2 p3 p4)
      refine bodyPost_ret (v:=U_ #[A_ #[I_ J_ F,I_ J_ r0,I_ J_ r1,I_ J_ r2,S_ A' k c'],I_ J_ 0]) (by simp [*,results,results130,go_sem]) rfl HG
  .have hg:((128:Int)<(n:Int)):=o_
   have cD:=decide_eq_true hg;have am:=Hd (bM hn);go_wp2_with (first|(refine XB rfl 22 _ _ rfl #[I_ J_ (Xd f0),I_ J_ (Xd f1),I_ J_ (Xd f2)] rfl rfl rfl k_ v_ ?_;intro w3 b3 ao ai;have m4:C w3 w.heap.size 4 (S_ A n c):=(aM.a_ ao).cell 4;have aG:=Hd (aF.a_ ao);have bc:=Hd (aB.trans (ao.mono aB.size));clear b3 ao ai)|(refine Xi rfl 98 _ _ rfl (X_ (Y_ w)+1) 0 #[I_ J_ 0,I_ J_ 0,I_ J_ 0,I_ J_ 0,S_ Z_ 0 0] rfl rfl aG y_ k_ v_ ?_;intro ae af o9;have v0:C ae (X_ (Y_ w)+1) 0 (I_ J_ 0):=af.cell 0;have v1:C ae (X_ (Y_ w)+1) 1 (I_ J_ 0):=af.cell 1;have v2:C ae (X_ (Y_ w)+1) 2 (I_ J_ 0):=af.cell 2;have v3:C ae (X_ (Y_ w)+1) 3 (I_ J_ 0):=af.cell 3;have v4:C ae (X_ (Y_ w)+1) 4 (S_ Z_ 0 0):=af.cell 4;have al:=Hd (bc.trans (o9.below bc.size (λk hk e=>o_)));clear af o9))
   exact Mh
 .have am:=Hd (ba ag)
  have aB:=Hd (HB.trans (an.mono HB.size));have aF:=Hd (HT3.a_ an);clear ag an HP HT3 ba;go_wp2_with (first|(refine XB rfl 22 _ _ rfl #[I_ J_ 0,I_ J_ 0,I_ J_ 0] rfl rfl rfl k_ v_ ?_;intro w3 b3 ao ai;have aG:=Hd (aF.a_ ao);have bc:=Hd (aB.trans (ao.mono aB.size));clear b3 ao ai)|(refine Xi rfl 98 _ _ rfl (X_ (Y_ w)+1) 0 #[I_ J_ 0,I_ J_ 0,I_ J_ 0,I_ J_ 0,S_ Z_ 0 0] rfl rfl aG y_ k_ v_ ?_;intro ae af o9;have v0:C ae (X_ (Y_ w)+1) 0 (I_ J_ 0):=af.cell 0;have v1:C ae (X_ (Y_ w)+1) 1 (I_ J_ 0):=af.cell 1;have v2:C ae (X_ (Y_ w)+1) 2 (I_ J_ 0):=af.cell 2;have v3:C ae (X_ (Y_ w)+1) 3 (I_ J_ 0):=af.cell 3;have v4:C ae (X_ (Y_ w)+1) 4 (S_ Z_ 0 0):=af.cell 4;have al:=Hd (bc.trans (o9.below bc.size (λk hk e=>o_)));clear af o9))
  exact Mh
def ir (time last round fS:Int):Bool:=decide (time<=last)||(decide (round<time)||decide (fS<=round - time))
def ou (r:gj) (last round fS:Int) (W:WX) (e:Ending) (w':WX):Prop:=
 (¬iq r/\e=R_ (U_ #[A_ (xY 0 0 0 0 Z_ 0 0),I_ J_ 1])/\Bw W w')\/
 (iq r/\ir r.time last round fS=Z'/\e=R_ (U_ #[A_ (xY 0 0 0 0 Z_ 0 0),I_ J_ 8])/\Bw W w')\/
 (iq r/\ir r.time last round fS=WW/\ ∃(A:Option Xa) (c:Nat) (us:List et),e=R_ (U_ #[A_ (xY r.time (Xd r.pX) (Xd r.pY) (Xd r.pZ) A us.length c),I_ J_ 0])/\us.Perm (r.use.map j_)/\du.dY (iK us)/\
  Ro.Row w' 299 4 A us.length c (Xr us)/\(∀b,Ro.dr A=Y' b->X_ (Y_ W)<=b)/\Bw W w')
def Wa {p:Prop} (h:p:=by
 go_upto_region 2 with (refine eU.ie rfl 98 _ _ rfl #[I_ J_ time,I_ J_ r0,I_ J_ r1,I_ J_ r2,S_ A2 um c2] rfl rfl rfl k_ v_ ?_;intro w3 b3 F V;have ab:=Hd (y9.o.a_ F);have O:=Hd (ag.o.trans (F.mono ag.o.size));have p0:C w3 w2.heap.size 0 time:=b3.cell 0;clear b3 F V)
 go_upto_region 3 with fail;go_wp2_with (refine eU.store rfl 98 _ _ rfl (w.heap.size+1) 0 #[I_ J_ 0,I_ J_ 0,I_ J_ 0,I_ J_ 0,S_ none 0 0] rfl rfl ab.o y_ k_ v_ ?_;intro I G o9;have v0:C I (w.heap.size+1) 0 (I_ J_ 0):=G.cell 0;have v1:C I (w.heap.size+1) 1 (I_ J_ 0):=G.cell 1;have v2:C I (w.heap.size+1) 2 (I_ J_ 0):=G.cell 2;have v3:C I (w.heap.size+1) 3 (I_ J_ 0):=G.cell 3;have v4:C I (w.heap.size+1) 4 (S_ none 0 0):=G.cell 4;have U:=Hd (HC.o _ (O.o.trans (o9.below O.o.size (λk hk e=>o_))));clear G o9)
 refine bodyPost_ret (v:=U_ #[A_ #[I_ J_ 0,I_ J_ 0,I_ J_ 0,I_ J_ 0,S_ none 0 0],I_ J_ 8]) (by simp [*,results,results69,go_sem]) rfl U.o):p:=h
def Mk (r:gj) (last round fS:Int) (w:WX) (hd:gj.gG w w.heap.size r) (hr:r.ok) (hB: -1<=last) (aW:0<=round/\round<=1099511627776):WZ Xc 69 #[A_ r.arr,I_ J_ last,I_ J_ round,I_ J_ fS] w (ou r last round fS w):=by
 have ar:=Hd (λX (h:gj.gG X X.heap.size r)=>Mi r X h hr);have aQ:=Hd hd;have ao:=Hd (Xm hB aW);obtain ⟨time,f0,f1,f2,use,A,n,c⟩:=r;obtain ⟨R,hR⟩: ∃R:gj,R=⟨time,f0,f1,f2,use,A,n,c⟩:=⟨_,rfl⟩;have ae:R.arr= #[I_ J_ time,.float .f64 f0,.float .f64 f1,.float .f64 f2,S_ A n c]:=by rw [hR];rfl
 have aA:R.time=time:=by rw [hR]
 rw [<-hR] at ar aQ |-;rw [ae];rw [ae] at ar;have HT:=Hd aA;clear hR ae aA hd hr hB aW;let ⟨w1,aP⟩:=nm ((w.alloc (.cells #[I_ J_ time,.float .f64 f0,.float .f64 f1,.float .f64 f2,S_ A n c] 47)).alloc (.cells #[I_ J_ 0,I_ J_ 0,I_ J_ 0,I_ J_ 0,S_ Z_ 0 0] 98));have am:=Hd (show Bw w w1 from by rw [aP];exact (dL).alloc y_ _);have ac:Xf w1 w.heap.size 47 #[I_ J_ time,.float .f64 f0,.float .f64 f1,.float .f64 f2,S_ A n c]:=by rw [aP];exact Xh Xe
 have HK:=Hd (show Xf w1 (X_ (Y_ w)+1) 98 #[I_ J_ 0,I_ J_ 0,I_ J_ 0,I_ J_ 0,S_ Z_ 0 0] from by
  rw [aP];have:=Xe (w:=w.alloc (.cells #[I_ J_ time,.float .f64 f0,.float .f64 f1,.float .f64 f2,S_ A n c] 47)) (t:=98) (cs:= #[I_ J_ 0,I_ J_ 0,I_ J_ 0,I_ J_ 0,S_ Z_ 0 0]);simpa using this)
 have ai:=Hd aP;have aS:Xb (X_ (Y_ w)+2=X_ (Y_ w1)):=Hd (by rw [aP];simp);have m0:C w1 w.heap.size 0 time:=ac.cell 0;have m1:C w1 w.heap.size 1 (.float .f64 f0):=ac.cell 1;have m2:C w1 w.heap.size 2 (.float .f64 f1):=ac.cell 2;have m3:C w1 w.heap.size 3 (.float .f64 f2):=ac.cell 3;have m4:C w1 w.heap.size 4 (S_ A n c):=ac.cell 4;clear aP ac;have aT:Xb (gj.gG w1 w1.heap.size R):=Hd ⟨(aQ.o.use.below am.o).more am.o.size⟩;go_enter func69,ntmps69;go_upto_region 1 with fail;rw [<-ai.o];go_wp2_with fail;clear m0 m1 m2 m3 m4;refine (ar.o _ aT.o).mono ?_;rintro e w2 (⟨hn,rfl,aa⟩|⟨hn,A2,c2,us,rfl,aU,bL,aF,ah,aa⟩)
 .have HN:=Hd hn
  have ag:=Hd (am.o.trans (aa.mono am.o.size));have y9:=Hd (HK.o.a_ aa);clear hn aa;unfold xY;go_upto_region 2 with (refine XB rfl 98 _ _ rfl #[I_ J_ 0,I_ J_ 0,I_ J_ 0,I_ J_ 0,S_ Z_ 0 0] rfl rfl rfl k_ v_ ?_;intro w3 b3 F V;have ab:=Hd (y9.o.a_ F);have O:=Hd (ag.o.trans (F.mono ag.o.size));have p0:C w3 w2.heap.size 0 (I_ J_ 0):=b3.cell 0;have p1:C w3 w2.heap.size 1 (I_ J_ 0):=b3.cell 1;have p2:C w3 w2.heap.size 2 (I_ J_ 0):=b3.cell 2;have p3:C w3 w2.heap.size 3 (I_ J_ 0):=b3.cell 3;have p4:C w3 w2.heap.size 4 (S_ Z_ 0 0):=b3.cell 4;clear b3 F V)
  go_upto_region 4 with fail;go_wp2_with (refine Xi rfl 98 _ _ rfl (X_ (Y_ w)+1) 0 #[I_ J_ 0,I_ J_ 0,I_ J_ 0,I_ J_ 0,S_ Z_ 0 0] rfl rfl ab.o y_ k_ v_ ?_;intro I G o9;have v0:C I (X_ (Y_ w)+1) 0 (I_ J_ 0):=G.cell 0;have v1:C I (X_ (Y_ w)+1) 1 (I_ J_ 0):=G.cell 1;have v2:C I (X_ (Y_ w)+1) 2 (I_ J_ 0):=G.cell 2;have v3:C I (X_ (Y_ w)+1) 3 (I_ J_ 0):=G.cell 3;have v4:C I (X_ (Y_ w)+1) 4 (S_ Z_ 0 0):=G.cell 4;have U:=Hd (O.o.trans (o9.below O.o.size (λk hk e=>o_)));clear G o9)
  refine bodyPost_ret (v:=U_ #[A_ #[I_ J_ 0,I_ J_ 0,I_ J_ 0,I_ J_ 0,S_ Z_ 0 0],I_ J_ 1]) (by simp [*,results,results69,go_sem]) rfl (Xt ⟨HN.o,rfl,U.o⟩)
 .rw [HT.o]
  have HN:=Hd hn;have HP:=Hd (Xm aU bL);have av:=Hd aF;have aE:=Hd ah;have ag:=Hd (am.o.trans (aa.mono am.o.size));have y9:=Hd (HK.o.a_ aa);have HL:=Hd aa;have hB0:=ao.o;clear hn aa aU bL aF ah;generalize hum:us.length=um at*;have af:=Hd hum;clear hum;generalize hg0:Xd R.pX=r0 at*;generalize hg1:Xd R.pY=r1 at*;generalize hg2:Xd R.pZ=r2 at*;have HG:=Hd (Xm hg0 (Xm hg1 hg2));clear hg0 hg1 hg2;unfold xY;have ap:Xb (ir R.time last round fS=Z'-> ∀w3,Bw w w3->ou R last round fS w (R_ (U_ #[A_ #[I_ J_ 0,I_ J_ 0,I_ J_ 0,I_ J_ 0,S_ Z_ 0 0],I_ J_ 8])) w3):=Hd λh w3 h3=>Xk (Xt ⟨HN.o,h,rfl,h3⟩)
  have aN:Xb (ir R.time last round fS=WW-> ∀w4 w3,Bw w2 w3->Xv (λb=>b=X_ (Y_ w)+1) w3 w4->ou R last round fS w (R_ (U_ #[A_ #[I_ J_ time,I_ J_ r0,I_ J_ r1,I_ J_ r2,S_ A2 um c2],I_ J_ 0])) w4):=Hd λh w4 w3 h3 h4=>by
   have hz1:=am.o.size;have aD:=ag.o.size;refine Xk (Xk ⟨HN.o,h,A2,c2,us,?_,HP.o.1,HP.o.2,?_,?_,?_⟩)
   .rw [HG.o.1,HG.o.2.1,HG.o.2.2,HT.o,af.o];rfl
   .rw [af.o]
    refine (av.o.dy λb hb=>h3.block b (av.o.lt hb)).dy λb hb=>h4.block b ((av.o.dy λb hb=>h3.block b (av.o.lt hb)).lt hb) (λe=>?_)
    have:=aE.o b hb;have:=aS.o;omega
   .intro b hb
    have:=aE.o b hb;omega
   .exact (ag.o.trans (h3.mono aD)).trans (h4.below (Nat.le_trans aD h3.size) (λb hb e=>o_))
  by_cases g1:time<=last
  .have HC:=Hd (ap.o (by unfold ir;rw [HT.o,decide_eq_true g1];rfl))
   have e1:decide (time<=last)=Z':=decide_eq_true g1;exact Wa
  .have e1:decide (time<=last)=WW:=decide_eq_false g1
   by_cases g2:round<time
   .have HC:=Hd (ap.o (by unfold ir;rw [HT.o,e1,decide_eq_true g2];rfl))
    have e2:decide (round<time)=Z':=decide_eq_true g2;exact Wa
   .have e2:decide (round<time)=WW:=decide_eq_false g2
    have hwr:=Ta.fh (n:=round - time) o_ o_;by_cases g3:fS<=round - time
    .have HC:=Hd (ap.o (by unfold ir;rw [HT.o,e1,e2,decide_eq_true g3];rfl))
     have e3:decide (fS<=round - time)=Z':=decide_eq_true g3;exact Wa
    .have e3:decide (fS<=round - time)=WW:=decide_eq_false g3
     have HC:=Hd (aN.o (by unfold ir;rw [HT.o,e1,e2,e3];rfl));go_upto_region 2 with (refine XB rfl 98 _ _ rfl #[I_ J_ time,I_ J_ r0,I_ J_ r1,I_ J_ r2,S_ A2 um c2] rfl rfl rfl k_ v_ ?_;intro w3 b3 F V;have ab:=Hd (y9.o.a_ F);have O:=Hd F;have p0:C w3 w2.heap.size 0 time:=b3.cell 0;have p1:C w3 w2.heap.size 1 r0:=b3.cell 1;have p2:C w3 w2.heap.size 2 r1:=b3.cell 2;have p3:C w3 w2.heap.size 3 r2:=b3.cell 3;have p4:C w3 w2.heap.size 4 (S_ A2 um c2):=b3.cell 4;clear b3 F V)
     go_upto_region 4 with fail;go_wp2_with (refine Xi rfl 98 _ _ rfl (X_ (Y_ w)+1) 0 #[I_ J_ time,I_ J_ r0,I_ J_ r1,I_ J_ r2,S_ A2 um c2] rfl rfl ab.o y_ k_ v_ ?_;intro I G o9;have v0:C I (X_ (Y_ w)+1) 0 time:=G.cell 0;have v1:C I (X_ (Y_ w)+1) 1 r0:=G.cell 1;have v2:C I (X_ (Y_ w)+1) 2 r1:=G.cell 2;have v3:C I (X_ (Y_ w)+1) 3 r2:=G.cell 3;have v4:C I (X_ (Y_ w)+1) 4 (S_ A2 um c2):=G.cell 4;have U:=Hd (HC.o _ _ O.o o9);clear G o9)
     refine bodyPost_ret (v:=U_ #[A_ #[I_ J_ time,I_ J_ r0,I_ J_ r1,I_ J_ r2,S_ A2 um c2],I_ J_ 0]) (by simp [*,results,results69,go_sem]) rfl U.o
def rP (k s:Int) (A:Option Xa) (n c:Nat):Array WY:= #[k,s,S_ A n c]
def iy (g0 g1 g2:Int) (l:List dq) (o0 o1 o2:Bool) (p:dz) (W:WX) (e:Ending) (w':WX):Prop:=
 Bw W w'/\
 ((XD p=WW/\e=R_ (U_ #[A_ (rP 0 0 Z_ 0 0),I_ J_ 1]))\/
  (XD p=Z'/\XG (eo l) p.id=Z'/\e=R_ (U_ #[A_ (rP 0 0 Z_ 0 0),I_ J_ 5]))\/
  (XD p=Z'/\XG (eo l) p.id=WW/\64<=l.length/\e=R_ (U_ #[A_ (rP 0 0 Z_ 0 0),I_ J_ 6]))\/
  (XD p=Z'/\XG (eo l) p.id=WW/\l.length<64/\
   ((∃i,oh o0 o1 o2 p=Y' i/\e=R_ (U_ #[A_ (rP 3 i Z_ 0 0),I_ J_ 0]))\/
   (oh o0 o1 o2 p=Z_/\
    ((Vi.fI g0 g1 g2 (Vi.eY (eT p (Xl l)))=WW/\e=R_ (U_ #[A_ (rP 4 0 Z_ 0 0),I_ J_ 0]))\/
     (Vi.fI g0 g1 g2 (Vi.eY (eT p (Xl l)))=Z'/\ ∃(ys:List dz) (outs:List ByteArray),ys.Perm ((Xl l).filter (fP p))/\Xq (ltOf jv) 0 ys.length ys.toArray/\outs.Perm (fp g0 g1 g2 (eT p (Xl l)) ys).2/\
      ((outs=[]/\e=R_ (U_ #[A_ (rP 1 0 Z_ 0 0),I_ J_ 0]))\/
      ∃(A:Option Xa) (c:Nat),outs≠[]/\e=R_ (U_ #[A_ (rP 2 0 A outs.length c),I_ J_ 0])/\Ta.mL w' A outs.length c outs/\ ∀b,Ro.dr A=Y' b->X_ (Y_ W)<=b)))))))
def Hi (q:ef) (A:Option Xa) (n c:Nat) (l:List dq) (o0 o1 o2:Bool) (p:dz) (w:WX) (h:XH w w.heap.size 12 A n (dq.flat l)) (ak:l.length=n) (hn:n<=1000) (bz: ∀e∈l,e.ok) (hp:p.ok):
  WZ Xc 57 #[A_ q.arr,S_ A n c,A_ #[o0,o1,o2],A_ p.arr] w (iy q.a0 q.a1 q.a2 l o0 o1 o2 p w):=by
 have H:=Hd h;have HN3:=Hd ak;have ay:=Hd (λX=>Ta.nR p X hp);have al:=Hd (λX=>Hg o0 o1 o2 p X);have a6:=Hd (λg X (h:XH X X.heap.size 12 A n (dq.flat l)) hg hc=>QY A n c l p.id g X h ak hn hg hc);have bC:Xb (∀v∈Xl l,v.ok):=Hd (λv a7=>by
  obtain ⟨e,he,rfl⟩:=List.mem_map.1 a7;exact (bz e he).dC)
 have bW:Xb ((Xl l).length=n):=Hd (by unfold Xl;rw [Xo];exact ak);have aB:=Hd (λA' c' X (h:XH X X.heap.size 11 A' n (XF (Xl l)))=>Hf q.a0 q.a1 q.a2 A' n c' (Xl l) p X h bW.o o_ bC.o hp);let ⟨O,an⟩:=nm p;rw [show iy q.a0 q.a1 q.a2 l o0 o1 o2 p w=iy q.a0 q.a1 q.a2 l o0 o1 o2 O w by rw [an]];rw [show XD p=XD O by rw [an]] at ay;rw [show jl o0 o1 o2 p=jl o0 o1 o2 O by rw [an]] at al;rw [show iC q.a0 q.a1 q.a2 (Xl l) p=iC q.a0 q.a1 q.a2 (Xl l) O by rw [an]] at aB;have bP:Xb (O.id=p.id):=Hd (by rw [an]);clear h ak bz hp an;obtain ⟨ap,ax,V,aG,ar,aQ,aI,aU,aK,av,au⟩:=p;obtain ⟨k0,k1,k2,g0,g1,g2,cA,cn,cc,aE,aF,aC,dead⟩:=q;unfold dz.arr at ay al aB |-;unfold ef.arr
 dsimp only at ay al aB a6 bP |-
 let ⟨w1,ah⟩:=nm ((((w.alloc (.cells #[k0,k1,k2,g0,g1,g2,S_ cA cn cc,aE,aF,aC,dead] 25)).alloc (.cells #[o0,o1,o2] 32)).alloc (.cells #[ap,ax,V,aG,ar,aQ,aI,aU,aK,av,au] 42)).alloc (.cells #[I_ J_ 0,I_ J_ 0,S_ Z_ 0 0] 140));have aN:=Hd (show Bw w w1 from by rw [ah];exact (((dL).alloc y_ _).alloc z_ _).alloc z_ _);have HK8:=Hd (show Xf w1 w.heap.size 25 #[k0,k1,k2,g0,g1,g2,S_ cA cn cc,aE,aF,aC,dead] from by rw [ah];exact Xh (Xh (Xh Xe)));have bJ:=Hd (show Xf w1 (X_ (Y_ w)+1) 32 #[o0,o1,o2] from by
  rw [ah];have:=Xe (w:=w.alloc (.cells #[k0,k1,k2,g0,g1,g2,S_ cA cn cc,aE,aF,aC,dead] 25)) (t:=32) (cs:= #[o0,o1,o2]);exact Xh (Xh (by simpa using this)))
 have aV:=Hd (show Xf w1 (X_ (Y_ w)+2) 42 #[ap,ax,V,aG,ar,aQ,aI,aU,aK,av,au] from by
  rw [ah];have:=Xe (w:=(w.alloc (.cells #[k0,k1,k2,g0,g1,g2,S_ cA cn cc,aE,aF,aC,dead] 25)).alloc (.cells #[o0,o1,o2] 32)) (t:=42) (cs:= #[ap,ax,V,aG,ar,aQ,aI,aU,aK,av,au]);exact Xh (by simpa using this))
 have HJ:=Hd (show Xf w1 (X_ (Y_ w)+2+1) 140 #[I_ J_ 0,I_ J_ 0,S_ Z_ 0 0] from by
  rw [ah];have:=Xe (w:=((w.alloc (.cells #[k0,k1,k2,g0,g1,g2,S_ cA cn cc,aE,aF,aC,dead] 25)).alloc (.cells #[o0,o1,o2] 32)).alloc (.cells #[ap,ax,V,aG,ar,aQ,aI,aU,aK,av,au] 42)) (t:=140) (cs:= #[I_ J_ 0,I_ J_ 0,S_ Z_ 0 0]);simpa using this)
 have aY:=Hd ah;clear ah;obtain ⟨e0,e1,e2,e3,e4,e5,e6,e7,e8,e9,aT,-⟩:=kA aV.o;go_enter func57,ntmps57;go_upto_region 1 with fail;rw [<-aY.o];go_wp2_with fail;clear e0 e1 e2 e3 e4 e5 e6 e7 e8 e9 aT aY;refine (ay.o _).mono ?_;refine xZ ?_;intro w2 b9 b8;have cm:=Hd (HK8.o.a_ b9);have ba:=Hd (bJ.o.a_ b9);have aP:=Hd (aV.o.a_ b9);have a8:=Hd (HJ.o.a_ b9);clear b9 HK8 bJ aV HJ;let ⟨RP,aZ⟩:=nm (XD O);rw [<-aZ];have aD:=Hd aZ;clear aZ ay;cases RP with
 |false=>
  have HF:Xb (∀F,Xv (λb=>b=(X_ (Y_ w)+2+1)) w2 F->iy g0 g1 g2 l o0 o1 o2 O w (R_ (U_ #[A_ #[I_ J_ 0,I_ J_ 0,S_ Z_ 0 0],I_ J_ 1])) F):=Hd λF h9=>⟨b8.o.trans (h9.below b8.o.size (λb b9 e=>o_)),Xt ⟨aD.o.symm,rfl⟩⟩
  go_upto_region 2 with fail;go_wp2_with (refine Xi rfl 140 _ _ rfl (X_ (Y_ w)+2+1) 0 #[I_ J_ 0,I_ J_ 0,S_ Z_ 0 0] rfl rfl a8.o y_ k_ v_ ?_;intro F ac U;have v0:C F (X_ (Y_ w)+2+1) 0 (I_ J_ 0):=ac.cell 0;have v1:C F (X_ (Y_ w)+2+1) 1 (I_ J_ 0):=ac.cell 1;have v2:C F (X_ (Y_ w)+2+1) 2 (S_ Z_ 0 0):=ac.cell 2;have HG:=Hd (HF.o _ U);clear ac U)
  refine bodyPost_ret (v:=U_ #[A_ #[I_ J_ 0,I_ J_ 0,S_ Z_ 0 0],I_ J_ 1]) (by simp [*,results,results57,go_sem]) rfl HG.o
 |true=>
  have bw:=Hd (a6.o (X_ (Y_ w)+2) w2 ((H.o.below b8.o).more b8.o.size) aP.o.lt (aP.o.cell 0));clear a6;go_wp2_with fail;refine bw.o.mono ?_;rintro e w3 ⟨rfl,b9⟩;have aA:=Hd (b8.o.trans (b9.mono b8.o.size));have HK8:=Hd (cm.o.a_ b9);have bJ:=Hd (ba.o.a_ b9);have HE:=Hd (aP.o.a_ b9);have cJ:=Hd (a8.o.a_ b9);clear b9 cm ba aP a8;let ⟨HA,a3⟩:=nm (XG (eo l) ap);rw [<-a3];have aX:Xb (HA=XG (eo l) O.id):=Hd (by rw [bP.o];exact a3);clear a3 bw;cases HA with
  |true=>
   have HF:Xb (∀F,Xv (λb=>b=(X_ (Y_ w)+2+1)) w3 F->iy g0 g1 g2 l o0 o1 o2 O w (R_ (U_ #[A_ #[I_ J_ 0,I_ J_ 0,S_ Z_ 0 0],I_ J_ 5])) F):=Hd λF h9=>⟨aA.o.trans (h9.below aA.o.size (λb b9 e=>o_)),Xk (Xt ⟨aD.o.symm,aX.o.symm,rfl⟩)⟩
   go_upto_region 4 with fail;go_wp2_with (refine Xi rfl 140 _ _ rfl (X_ (Y_ w)+2+1) 0 #[I_ J_ 0,I_ J_ 0,S_ Z_ 0 0] rfl rfl cJ.o y_ k_ v_ ?_;intro F ac U;have v0:C F (X_ (Y_ w)+2+1) 0 (I_ J_ 0):=ac.cell 0;have v1:C F (X_ (Y_ w)+2+1) 1 (I_ J_ 0):=ac.cell 1;have v2:C F (X_ (Y_ w)+2+1) 2 (S_ Z_ 0 0):=ac.cell 2;have HG:=Hd (HF.o _ U);clear ac U)
   refine bodyPost_ret (v:=U_ #[A_ #[I_ J_ 0,I_ J_ 0,S_ Z_ 0 0],I_ J_ 5]) (by simp [*,results,results57,go_sem]) rfl HG.o
  |false=>
   by_cases h64:64<=n
   .have hd:decide ((64:Int)<=(n:Int))=Z':=dT
    have HF:Xb (∀F,Xv (λb=>b=(X_ (Y_ w)+2+1)) w3 F->iy g0 g1 g2 l o0 o1 o2 O w (R_ (U_ #[A_ #[I_ J_ 0,I_ J_ 0,S_ Z_ 0 0],I_ J_ 6])) F):=Hd λF h9=>⟨aA.o.trans (h9.below aA.o.size (λb b9 e=>o_)),Xk (Xk (Xt ⟨aD.o.symm,aX.o.symm,by have:=HN3.o;omega,rfl⟩))⟩
    go_upto_region 6 with fail;go_wp2_with (refine Xi rfl 140 _ _ rfl (X_ (Y_ w)+2+1) 0 #[I_ J_ 0,I_ J_ 0,S_ Z_ 0 0] rfl rfl cJ.o y_ k_ v_ ?_;intro F ac U;have v0:C F (X_ (Y_ w)+2+1) 0 (I_ J_ 0):=ac.cell 0;have v1:C F (X_ (Y_ w)+2+1) 1 (I_ J_ 0):=ac.cell 1;have v2:C F (X_ (Y_ w)+2+1) 2 (S_ Z_ 0 0):=ac.cell 2;have HG:=Hd (HF.o _ U);clear ac U)
    refine bodyPost_ret (v:=U_ #[A_ #[I_ J_ 0,I_ J_ 0,S_ Z_ 0 0],I_ J_ 6]) (by simp [*,results,results57,go_sem]) rfl HG.o
   .have hd:decide ((64:Int)<=(n:Int))=WW:=dF
    have aO:Xb (∀e w',Bw w w'->((∃i,oh o0 o1 o2 O=Y' i/\e=R_ (U_ #[A_ (rP 3 i Z_ 0 0),I_ J_ 0]))\/
   (oh o0 o1 o2 O=Z_/\
    ((Vi.fI g0 g1 g2 (Vi.eY (eT O (Xl l)))=WW/\e=R_ (U_ #[A_ (rP 4 0 Z_ 0 0),I_ J_ 0]))\/
     (Vi.fI g0 g1 g2 (Vi.eY (eT O (Xl l)))=Z'/\ ∃(ys:List dz) (outs:List ByteArray),ys.Perm ((Xl l).filter (fP O))/\Xq (ltOf jv) 0 ys.length ys.toArray/\outs.Perm (fp g0 g1 g2 (eT O (Xl l)) ys).2/\
      ((outs=[]/\e=R_ (U_ #[A_ (rP 1 0 Z_ 0 0),I_ J_ 0]))\/
      ∃(A:Option Xa) (c:Nat),outs≠[]/\e=R_ (U_ #[A_ (rP 2 0 A outs.length c),I_ J_ 0])/\Ta.mL w' A outs.length c outs/\ ∀b,Ro.dr A=Y' b->X_ (Y_ w)<=b)))))->iy g0 g1 g2 l o0 o1 o2 O w e w'):=Hd λe w' b9 hx=>⟨b9,Xk (Xk (Xk ⟨aD.o.symm,aX.o.symm,by have:=HN3.o;omega,hx⟩))⟩
    obtain ⟨bX,bY,ch,-⟩:=kA bJ.o;obtain ⟨e0,e1,e2,e3,e4,e5,e6,e7,e8,e9,aT,-⟩:=kA HE.o;go_wp2_with fail;clear e0 e1 e2 e3 e4 e5 e6 e7 e8 e9 aT bX bY ch hd;refine (al.o _).mono ?_;rintro e w4 ⟨b9,(⟨ae,rfl⟩|⟨i,ae,rfl⟩)⟩
    .have az:=Hd ae
     clear ae al;have aa:=Hd (aA.o.trans (b9.mono aA.o.size));have y9:=Hd (HK8.o.a_ b9);have bR:=Hd (bJ.o.a_ b9);have HT3:=Hd (HE.o.a_ b9);have HR4:=Hd (cJ.o.a_ b9);clear b9 HK8 bJ HE cJ;go_wp2;go_loopw [12,43] (λvo vi wr=> ∃(k:Nat) (A':Option Xa) (c':Nat),k<=n/\vi=I_ J_ k/\vo=S_ A' k c'/\Xb (eF w4 wr 42 11 A' k c' (XF (Xl (l.take k))))) (λ_ i _=>n - (intOf i).toNat)
     .exact zU
     .obtain ⟨k,A',c',hk,rfl,rfl,G⟩:=hrel
      by_cases b5:k<n
      .have Hw:=Hd (aa.o.trans (G.o.below.mono aa.o.size))
       obtain ⟨ad,hl,rfl,cj,bn,af⟩:=dq.at_ (H.o.below Hw.o) b5;have I:=Hd (show Xl (l.take (k+1))=Xl (l.take k)++[l[k].dC] from by unfold Xl;rw [Mem.dQ l k hl,Xz];rfl);generalize l[k]=q at*;obtain ⟨⟨qi,q1,q2,q3,q4,q5,q6,q7,q8,q9,ab⟩,ao⟩:=q;obtain ⟨c0,c1,c2,c3,c4,c5,c6,c7,c8,c9,lM,pv⟩:=af
       dsimp only at c0 c1 c2 c3 c4 c5 c6 c7 c8 c9 lM pv I
       refine lI ?_;intro hw;let ⟨w5,aJ⟩:=nm (wr.alloc (.cells #[qi,q1,q2,q3,q4,q5,q6,q7,q8,q9,ab,ao] 58));have b9:eF w4 w5 42 11 A' k c' (XF (Xl (l.take k))):=by rw [aJ];exact G.o.free (dL)
       have bS:X_ (Y_ w5)=X_ (Y_ wr)+1:=by rw [aJ];simp
       obtain ⟨A2,bd,w6,hr,bq,-⟩:=b9.push Ta.Ql #[qi,q1,q2,q3,q4,q5,q6,q7,q8,q9,ab] rfl v_ o_ d_ bS;have bZ:Xb (eF w4 w6 42 11 A2 (k+1) bd (XF (Xl (l.take (k+1))))):=Hd (by rw [I.o,Ta.qQ];exact bq);rw [aJ] at hr;clear hl cj bn b9 bq I G aJ bS;refine pN ?_;exact Fw
      .obtain rfl:k=n:=o_
       have b9:=G.o;rw [t_ (by have:=HN3.o;omega)] at b9;have aH:=Hd (aa.o.trans (b9.below.mono aa.o.size));have aL:=y9.o.a_ b9.below;have bI:=HT3.o.a_ b9.below;have bA:=Hd (HR4.o.a_ b9.below);have a9:=Hd (aB.o A' c' wr b9.row.sl);have x0:C wr w.heap.size 3 g0:=aL.cell 3;have x1:C wr w.heap.size 4 g1:=aL.cell 4;have x2:C wr w.heap.size 5 g2:=aL.cell 5;obtain ⟨e0,e1,e2,e3,e4,e5,e6,e7,e8,e9,aT,-⟩:=kA bI;clear aL bI b9 y9 HT3 HR4 bR G aB;go_wp2_with fail;clear x0 x1 x2 e0 e1 e2 e3 e4 e5 e6 e7 e8 e9 aT;refine a9.o.mono ?_;rintro e w6 ⟨b9,(⟨hL,rfl⟩|⟨hL,ys,outs,AO,cO,hS,hok,a5,rfl,hv,aW⟩)⟩
       .have ai:=Hd (aH.o.trans (b9.mono aH.o.size))
        have aw:=Hd (bA.o.a_ b9);have HL:=Hd hL;clear b9 hL a9;have HF:Xb (∀F,Xv (λb=>b=(X_ (Y_ w)+2+1)) w6 F->iy g0 g1 g2 l o0 o1 o2 O w (R_ (U_ #[A_ #[I_ J_ 4,I_ J_ 0,S_ Z_ 0 0],I_ J_ 0])) F):=Hd λF h9=>aO.o _ F (ai.o.trans (h9.below ai.o.size (λb b9 e=>o_))) (Xk ⟨az.o,Xt ⟨HL.o,rfl⟩⟩)
        go_upto_region 18 with fail;go_wp2_with (refine Xi rfl 140 _ _ rfl (X_ (Y_ w)+2+1) 0 #[I_ J_ 4,I_ J_ 0,S_ Z_ 0 0] rfl rfl aw.o y_ k_ v_ ?_;intro F ac U;have v0:C F (X_ (Y_ w)+2+1) 0 (I_ J_ 4):=ac.cell 0;have v1:C F (X_ (Y_ w)+2+1) 1 (I_ J_ 0):=ac.cell 1;have v2:C F (X_ (Y_ w)+2+1) 2 (S_ Z_ 0 0):=ac.cell 2;have HG:=Hd (HF.o _ U);clear ac U)
        refine bodyPost_ret (v:=U_ #[A_ #[I_ J_ 4,I_ J_ 0,S_ Z_ 0 0],I_ J_ 0]) (by simp [*,results,results57,go_sem]) rfl HG.o
       .have ai:=Hd (aH.o.trans (b9.mono aH.o.size))
        have aw:=Hd (bA.o.a_ b9);have HL:=Hd hL;have Hx:=Hd (Xm hS (Xm hok a5));have HVV:=Hd hv;have b7:=Hd aW;let ⟨m,hm⟩:=nm (outs.length);rw [<-hm] at HVV |-;have HM:=Hd hm;have HZZ:=Hd b9.size;clear b9 hL hS hok a5 hv aW a9 hm;by_cases hz:m=0
        .have aR:Xb (outs=[]):=Hd (List.eq_nil_of_length_eq_zero (by have:=HM.o;omega))
         subst hz;have HF:Xb (∀F,Xv (λb=>b=(X_ (Y_ w)+2+1)) w6 F->iy g0 g1 g2 l o0 o1 o2 O w (R_ (U_ #[A_ #[I_ J_ 1,I_ J_ 0,S_ Z_ 0 0],I_ J_ 0])) F):=Hd λF h9=>aO.o _ F (ai.o.trans (h9.below ai.o.size (λb b9 e=>o_))) (Xk ⟨az.o,Xk ⟨HL.o,ys,outs,Hx.o.1,Hx.o.2.1,Hx.o.2.2,Xt ⟨aR.o,rfl⟩⟩⟩)
         go_upto_region 21 with fail;go_wp2_with (refine Xi rfl 140 _ _ rfl (X_ (Y_ w)+2+1) 0 #[I_ J_ 1,I_ J_ 0,S_ Z_ 0 0] rfl rfl aw.o y_ k_ v_ ?_;intro F ac U;have v0:C F (X_ (Y_ w)+2+1) 0 (I_ J_ 1):=ac.cell 0;have v1:C F (X_ (Y_ w)+2+1) 1 (I_ J_ 0):=ac.cell 1;have v2:C F (X_ (Y_ w)+2+1) 2 (S_ Z_ 0 0):=ac.cell 2;have HG:=Hd (HF.o _ U);clear ac U)
         refine bodyPost_ret (v:=U_ #[A_ #[I_ J_ 1,I_ J_ 0,S_ Z_ 0 0],I_ J_ 0]) (by simp [*,results,results57,go_sem]) rfl HG.o
        .have hd:decide ((0:Int)<(m:Int))=Z':=dT
         have aR:Xb (outs≠[]):=Hd (λh=>hz (by rw [HM.o,h];rfl));have HF:Xb (∀F,Xv (λb=>b=(X_ (Y_ w)+2+1)) w6 F->iy g0 g1 g2 l o0 o1 o2 O w (R_ (U_ #[A_ #[I_ J_ 2,I_ J_ 0,S_ AO m cO],I_ J_ 0])) F):=Hd λF h9=>aO.o _ F (ai.o.trans (h9.below ai.o.size (λb b9 e=>o_))) (Xk ⟨az.o,Xk ⟨HL.o,ys,outs,Hx.o.1,Hx.o.2.1,Hx.o.2.2,Xk ⟨AO,cO,aR.o,by rw [HM.o];rfl,by have hr:=HVV.o;rw [HM.o] at hr;exact hr.dy (λb b9=>h9.block b (hr.lt b9) (λe=>hr.dZ aw.o d_ b b9 e)),λb b9=>Nat.le_trans aH.o.size (b7.o b b9)⟩⟩⟩)
         go_upto_region 20 with fail;go_wp2_with (refine Xi rfl 140 _ _ rfl (X_ (Y_ w)+2+1) 0 #[I_ J_ 2,I_ J_ 0,S_ AO m cO] rfl rfl aw.o y_ k_ v_ ?_;intro F ac U;have v0:C F (X_ (Y_ w)+2+1) 0 (I_ J_ 2):=ac.cell 0;have v1:C F (X_ (Y_ w)+2+1) 1 (I_ J_ 0):=ac.cell 1;have v2:C F (X_ (Y_ w)+2+1) 2 (S_ AO m cO):=ac.cell 2;have HG:=Hd (HF.o _ U);clear ac U)
         refine bodyPost_ret (v:=U_ #[A_ #[I_ J_ 2,I_ J_ 0,S_ AO m cO],I_ J_ 0]) (by simp [*,results,results57,go_sem]) rfl HG.o
    .have az:=Hd ae
     have ag:=Hd (aA.o.trans (b9.mono aA.o.size));have HR4:=Hd (cJ.o.a_ b9);clear ae al b9;have HF:Xb (∀F,Xv (λb=>b=(X_ (Y_ w)+2+1)) w4 F->iy g0 g1 g2 l o0 o1 o2 O w (R_ (U_ #[A_ #[I_ J_ 3,I_ J_ i,S_ Z_ 0 0],I_ J_ 0])) F):=Hd λF h9=>aO.o _ F (ag.o.trans (h9.below ag.o.size (λb b9 e=>o_))) (Xt ⟨i,az.o,rfl⟩)
     go_upto_region 9 with fail;go_wp2_with (refine Xi rfl 140 _ _ rfl (X_ (Y_ w)+2+1) 0 #[I_ J_ 3,I_ J_ i,S_ Z_ 0 0] rfl rfl HR4.o y_ k_ v_ ?_;intro F ac U;have v0:C F (X_ (Y_ w)+2+1) 0 (I_ J_ 3):=ac.cell 0;have v1:C F (X_ (Y_ w)+2+1) 1 i:=ac.cell 1;have v2:C F (X_ (Y_ w)+2+1) 2 (S_ Z_ 0 0):=ac.cell 2;have HG:=Hd (HF.o _ U);clear ac U)
     refine bodyPost_ret (v:=U_ #[A_ #[I_ J_ 3,I_ J_ i,S_ Z_ 0 0],I_ J_ 0]) (by simp [*,results,results57,go_sem]) rfl HG.o
end Tw
end
end Go.Proofs.YtkidababfdehlaaGreatDoor
