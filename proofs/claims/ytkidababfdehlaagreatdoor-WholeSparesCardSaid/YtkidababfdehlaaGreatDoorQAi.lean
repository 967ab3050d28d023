/- Parts of the walk. -/
import Derived.Test.YtkidababfdehlaaGreatDoorQAh
set_option linter.all false
set_option maxRecDepth 100000
set_option maxHeartbeats 64000000
namespace Go.Proofs.YtkidababfdehlaaGreatDoor
open Value renaming int -> I_,bool -> B_,string -> T_,slice -> S_,pointer -> P_,tuple -> U_,agg -> A_
open IntKind renaming i64 -> J_
open Ending renaming returned -> R_
open Option renaming some -> X_,none -> Y_
open Bool renaming true -> Y',false -> Z_,false_eq_true -> Xh,not_false -> Xy,not_true -> Xz
open Go renaming World -> Z',Value -> WW,Calls -> WX,Addr -> WY
open Go.RowKit renaming Hid -> WZ
open _root_.Go.Proofs.Tryz renaming prog -> Xa
open Go.Value renaming string -> Xb
open dz renaming flat -> Xc,cells -> Xu,arr -> XT
open Go.Sort renaming SortedIn -> Xd,putRow -> Xi,ahead -> Xn,mapBlock -> Xp,putCells -> XI,heap_grow_old -> XJ
open List renaming eq_nil_of_length_eq_zero -> Xe,append_nil -> Xf,map_congr_left -> Xs,mem_singleton -> Xx,mem_filter -> XB,mem_append -> XC,map_append -> XD,length_map -> XE,mem_map -> XM,map_map -> XN
open Mem.c_ renaming new -> Xg
open du renaming has -> Xj,cmp -> Xv
open Ro renaming Row -> Xk,dr -> Xr,dt -> XR
open Go.Op renaming bytesLess -> Xl
open Exists renaming intro -> Xm
open Go.Lib renaming compareBytes -> Xo,containsS_iff -> XO
open Go.Ending renaming returned -> Xq
open Nat renaming le_trans -> Xt,lt_of_lt_of_le -> XK
open Mem renaming Sl -> Xw,c_ -> XL
open dK renaming flat -> XA
open Go.Instr renaming index -> XF
open dP renaming flat -> XG
open Go.ByteArray renaming toList_eq -> XH
open Fl renaming fx -> XP
open Ta renaming mL -> XQ
open And renaming intro -> XS
open Vi renaming fI -> XU,eY -> XV
variable {a:Act} {g0 g1 g2:Int} {xs ys:List WW} {stay:List dz} {b c k m n off:Nat} {A A2:Option WY} {P:Program} {q:Prop} {e:TypeId} {v':WW} {w w':Z'}
open _root_.Go.Proofs.Tryz Go.RowKit
section
open Wo
namespace Tw
instance:Inhabited dK:=⟨⟨⟨#[]⟩,0,0⟩⟩
instance:Inhabited dP:=⟨⟨⟨#[]⟩,0,0,0⟩⟩
def GU {us:List ByteArray} (s:ByteArray) (w:Z') (h:XQ w A n c us) (hn:n<=1000000):
  WX Xa 175 #[S_ A n c,s] w λe w'=>e=R_ (B_ (Xj us s))/\w'=w:=by
 have F:us.length=n:=by have:=h.len;simpa using this
 by_cases I:n=0
 .subst I
  obtain rfl:=Xe F;refine (Any.slices_Contains_string_empty Tryz.AH A c s w).mono ?_;rintro e w' ⟨rfl,rfl⟩;exact ⟨rfl,rfl⟩
 .obtain ⟨b,off,rfl⟩:=h.fe (by have:=h.le;omega)
  refine (Any.slices_Contains_string Tryz.AH b off n c us s w o_ o_ (λj G=>?_)).mono ?_
  .rw [h.cell j (by simpa using G)]
   simp [List.getElem?_eq_getElem G]
  .rintro e w' ⟨rfl,rfl⟩
   refine ⟨?_,rfl⟩
   congr 2
   rw [t_ o_];cases h1:Lib.containsS us s
   .cases h2:Xj us s
    .rfl
    .have:=(XO us s).2 (du.fO.1 h2);rw [h1] at this;cases this
   .exact (du.fO.2 ((XO us s).1 h1)).symm
def kU {α:Type} (p:α->Bool) (l:List α) (k:Nat) (h:k<l.length):(l.take (k+1)).filter p=(l.take k).filter p++if p l[k] then [l[k]] else []:=by
 rw [Mem.dQ l k h,List.filter_append]
 congr 1
 by_cases F:p l[k]=Y'
 .rw [if_pos F,List.filter_cons_of_pos F];rfl
 .rw [if_neg F,List.filter_cons_of_neg F];rfl
def VZ:Mem.El Xa 109 223 (A_ #[T_ ⟨#[]⟩,I_ J_ 0,I_ J_ 0]) 3 32:=⟨underlying109,k_,rfl,d_⟩
def WH:Mem.El Xa 108 273 (A_ #[T_ ⟨#[]⟩,I_ J_ 0,I_ J_ 0,I_ J_ 0]) 4 40:=⟨underlying108,k_,rfl,d_⟩
def CV:Gr.uR kl:=by
 have h:=(Gr.lC.pull dK.last).or ((Gr.lC.pull dK.size).flip.or (Gr.oq.pull dK.name));have e:kl=λx y=>if XP x.last y.last=0 then (if XP y.size x.size=0 then Xv x.name y.name else XP y.size x.size) else XP x.last y.last:=by
  funext x y
  unfold kl;simp only [List.find?_cons,List.find?_nil]
  repeat' split
  all_goals simp_all
 rw [e];exact h
def GV:Gr.uR oj:=by
 have h:=(Gr.lC.pull dP.last).or (Gr.oq.pull dP.id);have e:oj=λx y=>if XP x.last y.last=0 then Xv x.id y.id else XP x.last y.last:=by
  funext x y
  unfold oj;simp only [List.find?_cons,List.find?_nil]
  repeat' split
  all_goals simp_all
 rw [e];exact h
def CW:Gr.uR jv:=by
 have h:=(Gr.lC.pull dz.prio).flip.or (Gr.oq.pull dz.id);have e:jv=λx y=>if XP y.prio x.prio=0 then Xv x.id y.id else XP y.prio x.prio:=by
  funext x y
  unfold jv;simp only [List.find?_cons,List.find?_nil]
  repeat' split
  all_goals simp_all
 rw [e];exact h
def LP {us:List dK} (hR:Xk w 223 3 A n c (XA us)) (hn:us.length=n) (hm:n<=1000000):
  WX Xa 176 #[S_ A n c,.func (.func 177) #[] #[]] w λo w'=>o=R_ (U_ #[])/\ ∃ys:List dK,ys.Perm us/\Xd (ltOf kl) 0 n ys.toArray/\Xk w' 223 3 A n c (XA ys)/\XR (λb=>Xr A=X_ b) w w':=
 Gr.uS (enc:=dK.cells) (k:=3) Tryz.Uh (λw=>isAgg223 w) (λw=>sizeOf223 w) (λ_=>rfl) d_ (λx v hv=>by simp [dK.cells] at hv;obtain rfl|rfl|rfl:=hv<;>rfl)
  kl CV 177 (enters_of func177 k_ rfl) (λx y w=>LQ x y w) hR hn hm
def LR {us:List dP} (hR:Xk w 273 4 A n c (XG us)) (hn:us.length=n) (hm:n<=1000000):
  WX Xa 224 #[S_ A n c,.func (.func 225) #[] #[]] w λo w'=>o=R_ (U_ #[])/\ ∃ys:List dP,ys.Perm us/\Xd (ltOf oj) 0 n ys.toArray/\Xk w' 273 4 A n c (XG ys)/\XR (λb=>Xr A=X_ b) w w':=
 Gr.uS (enc:=dP.cells) (k:=4) Tryz.Ui (λw=>isAgg273 w) (λw=>sizeOf273 w) (λ_=>rfl) d_ (λx v hv=>by simp [dP.cells] at hv;obtain rfl|rfl|rfl|rfl:=hv<;>rfl)
  oj GV 225 (enters_of func225 k_ rfl) (λx y w=>Lv x y w) hR hn hm
instance:Inhabited dz:=⟨⟨⟨#[]⟩,0,Z_,0,0,0,0,0,0,⟨#[]⟩,0⟩⟩
def LS {us:List dz} (hR:Xk w 42 11 A n c (Xc us)) (hn:us.length=n) (hm:n<=1000000):
  WX Xa 212 #[S_ A n c,.func (.func 213) #[] #[]] w λo w'=>o=R_ (U_ #[])/\ ∃ys:List dz,ys.Perm us/\Xd (ltOf jv) 0 n ys.toArray/\Xk w' 42 11 A n c (Xc ys)/\XR (λb=>Xr A=X_ b) w w':=
 Gr.uS (enc:=Xu) (k:=11) Tryz.Uj (λw=>isAgg42 w) (λw=>sizeOf42 w) (λ_=>rfl) d_ (λx v hv=>by simp [Xu] at hv;obtain rfl|rfl|rfl|rfl|rfl|rfl|rfl|rfl|rfl|rfl|rfl:=hv<;>rfl)
  jv CW 213 (enters_of func213 k_ rfl) (λx y w=>Lt x y w) hR hn hm
def rr {W:Z'} (h:eF W w e k A n c xs) (ho:XR (λb=>Xr A=X_ b) w w') (hr:Xk w' e k A n c ys):eF W w' e k A n c ys:=
 ⟨h.below.trans (ho.below h.below.size (λb hb e=>by have:=h.fresh b e;omega)),hr,h.fresh⟩
def fG (us:List ByteArray) (x:dK):Bool:= !Xj us x.name
def AJ (A A2:Option WY) (n c m d:Nat) (im:List dK) (us:List ByteArray) (w:Z') (h:Xw w w.heap.size 3 A n (XA im)) (aJ:im.length=n) (hn:n<=10000) (h2:XQ w A2 m d us) (hm:m<=1000000):
  WX Xa 120 #[S_ A n c,S_ A2 m d] w λe w'=> ∃(A':Option WY) (c':Nat) (ys:List dK),e=R_ (S_ A' ys.length c')/\ys.Perm (im.filter (fG us))/\Xd (ltOf kl) 0 ys.length ys.toArray/\eF w w' 223 3 A' ys.length c' (XA ys):=by
 have H:=Hd h;have H2:=Hd h2;clear h h2;go_enter func120,ntmps120;go_wp2;go_loopw [5,10] (λvo vi wr=> ∃(k n':Nat) (A':Option WY) (c':Nat),k<=n/\n'<=k/\vi=I_ J_ k/\vo=S_ A' n' c'/\WZ (eF w wr 223 3 A' n' c' (XA ((im.take k).filter (fG us))))) (λ_ i _=>n - (intOf i).toNat)
 .exact AM
 .obtain ⟨k,n',A',c',hk,hn',rfl,rfl,V⟩:=hrel
  by_cases ax:k<n
  .have Hw:=Hd V.below
   obtain ⟨ad,hl,rfl,ab,am,aC⟩:=dK.at_ (H.below Hw) ax;have HS:=Hd (kU (fG us) im k hl);generalize im[k]=q at*;let ⟨q0,q1,q2⟩:=q;let ⟨c0,c1,c2⟩:=aC
   dsimp only at c0 c1 c2
   refine lI ?_;intro hw;let ⟨w2,O⟩:=nm (wr.alloc (.cells #[q0,q1,q2] 223));have ag:Bw wr w2:=by rw [O];exact dL
   have U:=V.free ag;have an:w2.heap.size=wr.heap.size+1:=by rw [O];simp
   have HH:=Hd (GU q0 w2 (H2.dy λb U=>(Hw.trans (ag.mono Hw.size)).block b (H2.lt U)) hm);have ae:=Hd U;obtain ⟨A3,aw,w3,hr,(af:WZ _),-⟩:=U.push VZ #[q0,q1,q2] rfl v_ o_ d_ an;have HI:WZ (fG us ⟨q0,q1,q2⟩= !Xj us q0):=rfl;rw [O] at hr HH;have ac:=Hd O;clear hl ab am U ag O an V;generalize Xj us q0=b at*;go_wp2_with fail;refine HH.mono ?_;rintro e w9 ⟨rfl,rfl⟩;cases b with
   |true=>
    have ah:WZ (eF w (wr.alloc (.cells #[q0,q1,q2] 223)) 223 3 A' n' c' (XA ((im.take (k+1)).filter (fG us)))):=(by
     rw [HS.o,if_neg (by rw [HI.o];decide),Xf,<-ac.o];exact ae)
    clear HS af ae HI ac hr;exact CX
   |false=>
    have ah:WZ (eF w w3 223 3 A3 (n'+1) aw (XA ((im.take (k+1)).filter (fG us)))):=(by
     rw [HS.o,if_pos (by rw [HI.o];decide),dK.eH];exact af)
    clear HS af ae HI ac;refine pN ?_;exact AP
  .obtain rfl:k=n:=o_
   have U:=V.o;rw [t_ o_] at U;have ai:(im.filter (fG us)).length=n':=by have:=U.row.len;rw [dK.dO] at this;omega
   have aA:=Hd (LP U.row ai o_);have aB:=Hd U;have az:=Hd ai;clear U ai;go_wp2_with fail;refine aA.mono ?_;rintro e aD ⟨rfl,ys,F,O,aa,I⟩;have X:ys.length=n':=by rw [F.length_eq];exact az
   have HF:WZ (∃(A1:Option WY) (c1:Nat) (zs:List dK),(Xq (S_ A' n' c'))=R_ (S_ A1 zs.length c1)/\zs.Perm (im.filter (fG us))/\Xd (ltOf kl) 0 zs.length zs.toArray/\eF w aD 223 3 A1 zs.length c1 (XA zs)):=Hd
    ⟨A',c',ys,by rw [X],F,by rw [X];exact O,by rw [X];exact rr aB I aa⟩
   clear F O aa I X;go_wp2;go_ret;exact HF
def gZ (us:List ByteArray) (x:dP):Bool:=decide (x.st=3)&& !Xj us x.id
def GW {p:Prop} (k:q) (h:Wq q->p:=by
 intro kq;obtain ⟨w2,O⟩:=nm (wr.alloc (.cells #[q0,q1,q2,q3] 273));have ag:Bw wr w2:=by rw [O];exact dL
 revert w2 O ag
 exact kq.o):p:=h ⟨k⟩
def QV (A A2:Option WY) (n c m d:Nat) (bx:List dP) (us:List ByteArray) (w:Z') (h:Xw w w.heap.size 4 A n (XG bx)) (aD:bx.length=n) (hn:n<=10000) (h2:XQ w A2 m d us) (hm:m<=1000000):
  WX Xa 129 #[S_ A n c,S_ A2 m d] w λe w'=> ∃(A':Option WY) (n' c':Nat),e=R_ (S_ A' n' c')/\eF w w' 9 1 A' n' c' ((bx.filter (gZ us)).map λb=>Xb b.id):=by
 have H:=Hd h;have H2:=Hd h2;clear h h2;go_enter func129,ntmps129;go_wp2;go_loopw [5,10] (λvo vi wr=> ∃(k n':Nat) (A':Option WY) (c':Nat),k<=n/\n'<=k/\vi=I_ J_ k/\vo=S_ A' n' c'/\WZ (eF w wr 9 1 A' n' c' (((bx.take k).filter (gZ us)).map λb=>Xb b.id))) (λ_ i _=>n - (intOf i).toNat)
 .exact AM
 .obtain ⟨k,n',A',c',hk,hn',rfl,rfl,X⟩:=hrel
  by_cases G:k<n
  .have Hw:=Hd X.below
   obtain ⟨ad,hl,rfl,ar,al,bz⟩:=dP.at_ (H.below Hw) G;have HS:=Hd (kU (gZ us) bx k hl);generalize bx[k]=q at*;let ⟨q0,q1,q2,q3⟩:=q;let ⟨c0,c1,c2,c3⟩:=bz
   dsimp only at c0 c1 c2 c3
   refine lI ?_;intro hw;refine GW ?_;intro w2 O ag;have V:=X.free ag;have an:w2.heap.size=wr.heap.size+1:=by rw [O];simp
   have HH:=Hd (GU q0 w2 (H2.dy λb V=>(Hw.trans (ag.mono Hw.size)).block b (H2.lt V)) hm);have af:=Hd V;obtain ⟨A3,aw,w3,hr,(ai:WZ _),-⟩:=V.push Ta.Qv #[q0] rfl v_ o_ d_ an;have k0:WZ (gZ us ⟨q0,q1,q2,q3⟩=(decide (q1=3)&& !Xj us q0)):=rfl;rw [O] at hr HH;have ae:=Hd O;clear hl ar al V ag O an X;generalize Xj us q0=b at*;have hq:WZ (gZ us ⟨q0,q1,q2,q3⟩=Z_->eF w (wr.alloc (.cells #[q0,q1,q2,q3] 273)) 9 1 A' n' c' (((bx.take (k+1)).filter (gZ us)).map λb=>Xb b.id)):=λh=>by
    rw [HS.o,if_neg (by rw [h];decide),Xf,<-ae.o];exact af
   have aC:WZ (gZ us ⟨q0,q1,q2,q3⟩=Y'->eF w w3 9 1 A3 (n'+1) aw (((bx.take (k+1)).filter (gZ us)).map λb=>Xb b.id)):=λh=>by
    rw [HS.o,if_pos h,XD];exact ai
   clear HS af ai ae;by_cases k1:q1=3
   .subst k1
    go_wp2_with fail;refine HH.mono ?_;rintro e w9 ⟨rfl,rfl⟩;cases b with
    |true=>
     have ah:=Hd (hq (by rw [k0.o];decide));clear hq aC k0 hr;exact CX
    |false=>
     have ah:=Hd (aC (by rw [k0.o];decide));clear hq aC k0;refine pN ?_;exact AP
   .have k1':=beq_eq_false_iff_ne.2 k1
    have ah:=Hd (hq (by rw [k0.o,decide_eq_false k1];rfl));clear k1;clear hq aC k0 hr;exact CX
  .obtain rfl:k=n:=o_
   have V:=X.o;rw [t_ o_] at V;have HF:WZ (∃(A1:Option WY) (n1 c1:Nat),(Xq (S_ A' n' c'))=R_ (S_ A1 n1 c1)/\eF w wr 9 1 A1 n1 c1 ((bx.filter (gZ us)).map λb=>Xb b.id)):=⟨A',n',c',rfl,V⟩;clear V;go_wp2;go_ret;exact HF
def fF (us:List ByteArray) (x:dP):Bool:= !decide (x.st=3)&& !Xj us x.id
def QW (A A2:Option WY) (n c m d:Nat) (bx:List dP) (us:List ByteArray) (w:Z') (h:Xw w w.heap.size 4 A n (XG bx)) (aD:bx.length=n) (hn:n<=10000) (h2:XQ w A2 m d us) (hm:m<=1000000):
  WX Xa 166 #[S_ A n c,S_ A2 m d] w λe w'=> ∃(A':Option WY) (c':Nat) (ys:List dP),e=R_ (S_ A' ys.length c')/\ys.Perm (bx.filter (fF us))/\Xd (ltOf oj) 0 ys.length ys.toArray/\eF w w' 9 1 A' ys.length c' (ys.map λb=>Xb b.id):=by
 have H:=Hd h;have H2:=Hd h2;clear h h2;go_enter func166,ntmps166;go_wp2;go_loopw [5,13] (λvo vi wr=> ∃(k n':Nat) (A':Option WY) (c':Nat),k<=n/\n'<=k/\vi=I_ J_ k/\vo=S_ A' n' c'/\WZ (eF w wr 273 4 A' n' c' (XG ((bx.take k).filter (fF us))))) (λ_ i _=>n - (intOf i).toNat)
 .exact AM
 .obtain ⟨k,n',A',c',hk,hn',rfl,rfl,F⟩:=hrel
  by_cases aM:k<n
  .have Hw:=Hd F.below
   obtain ⟨ad,hb,rfl,HB5,hb2,bz⟩:=dP.at_ (H.below Hw) aM;have H5:=Hd (kU (fF us) bx k hb);generalize bx[k]=q at*;let ⟨q0,q1,q2,q3⟩:=q;let ⟨c0,c1,c2,c3⟩:=bz
   dsimp only at c0 c1 c2 c3
   refine lI ?_;intro hw;refine GW ?_;intro w2 O ag;have U:=F.free ag;have an:w2.heap.size=wr.heap.size+1:=by rw [O];simp
   have HH:=Hd (GU q0 w2 (H2.dy λb U=>(Hw.trans (ag.mono Hw.size)).block b (H2.lt U)) hm);have ae:=Hd U;obtain ⟨A3,aw,w3,hr,(aG:WZ _),-⟩:=U.push WH #[q0,q1,q2,q3] rfl v_ o_ d_ an;have HI:WZ (fF us ⟨q0,q1,q2,q3⟩=(!decide (q1=3)&& !Xj us q0)):=rfl;rw [O] at hr HH;have ab:=Hd O;clear hb HB5 hb2 U ag O an F;generalize Xj us q0=b at*;have G:WZ (fF us ⟨q0,q1,q2,q3⟩=Z_->eF w (wr.alloc (.cells #[q0,q1,q2,q3] 273)) 273 4 A' n' c' (XG ((bx.take (k+1)).filter (fF us)))):=λh=>by
    rw [H5.o,if_neg (by rw [h];decide),Xf,<-ab.o];exact ae
   have V:WZ (fF us ⟨q0,q1,q2,q3⟩=Y'->eF w w3 273 4 A3 (n'+1) aw (XG ((bx.take (k+1)).filter (fF us)))):=λh=>by
    rw [H5.o,if_pos h,dP.eH];exact aG
   clear H5 ae aG ab;by_cases h3:q1=3
   .subst h3
    have ah:=Hd (G (by rw [HI.o];rfl));clear G V HI hr;exact CX
   .have e3:=bne_iff_ne.2 h3
    have ac:=Hd (decide_eq_false h3);clear h3;go_wp2_with fail;refine HH.mono ?_;rintro e w9 ⟨rfl,rfl⟩;cases b with
    |true=>
     have ah:=Hd (G (by rw [HI.o,ac.o];decide));clear G V HI hr;exact CX
    |false=>
     have ah:=Hd (V (by rw [HI.o,ac.o];decide));clear G V HI;refine pN ?_;exact AP
  .obtain rfl:k=n:=o_
   have U:=F.o;rw [t_ o_] at U;have ax:(bx.filter (fF us)).length=n':=by have:=U.row.len;rw [dP.dO] at this;omega
   have aA:=Hd (LR U.row ax o_);have aH:=Hd U;have aE:=Hd ax;clear U ax;go_wp2_with fail;refine aA.mono ?_;rintro e aI ⟨rfl,ys,aU,bL,aa,I⟩;have aF:ys.length=n':=by rw [aU.length_eq];exact aE
   have X:=Hd (rr aH I aa);have ao:=Hd (XS aU bL);have av:=Hd aF;have HM:=Hd hn';clear aU bL aa I aF aA aH aE F;go_wp2;go_loopw [8,37] (λvo vi wr=> ∃(j:Nat) (B':Option WY) (d':Nat),j<=n'/\vi=I_ J_ j/\vo=S_ B' j d'/\WZ (eF aI wr 9 1 B' j d' ((ys.take j).map λb=>Xb b.id))) (λ_ i _=>n' - (intOf i).toNat)
   .exact zU
   .obtain ⟨j,B',d',hj,rfl,rfl,n3⟩:=hrel
    by_cases aN:j<n'
    .obtain ⟨ad,hb,rfl,HB5,hb2,bz⟩:=dP.at_ (X.row.sl.below n3.below) aN
     have H5:WZ ((ys.take (j+1)).map (λb=>Xb b.id)=(ys.take j).map (λb=>Xb b.id)++[Xb ys[j].id]):=by rw [Mem.dQ ys j hb,XD];rfl
     generalize ys[j]=q at*;let ⟨q0,q1,q2,q3⟩:=q;let ⟨c0,c1,c2,c3⟩:=bz
     dsimp only at c0 c1 c2 c3 H5
     have hw:=Ta.fh (n:=(j:Int)+1) (by have:=HM.o;omega) (by have:=HM.o;omega);refine GW ?_;intro w2 O ag;have U:=n3.free ag;have an:w2.heap.size=wr.heap.size+1:=by rw [O];simp
     obtain ⟨A3,aw,w3,hr,HR4,-⟩:=U.push Ta.Qv #[q0] rfl v_ (by have:=HM.o;omega) d_ an;have ah:WZ (eF aI w3 9 1 A3 (j+1) aw ((ys.take (j+1)).map λb=>Xb b.id)):=by rw [H5.o];exact HR4
     rw [O] at hr;clear hb HB5 hb2 U HR4 ag O an n3 H5;refine pN ?_;go_roundw
     .exact ⟨j+1,A3,aw,o_,by go_num,rfl,ah⟩
     .simp [intOf];omega
    .obtain rfl:j=n':=o_
     have U:=n3.o;have aF:=av.o;rw [t_ o_] at U;have HF:WZ (∃(A1:Option WY) (c1:Nat) (zs:List dP),(Xq (S_ B' j d'))=R_ (S_ A1 zs.length c1)/\zs.Perm (bx.filter (fF us))/\Xd (ltOf oj) 0 zs.length zs.toArray/\eF w wr 9 1 A1 zs.length c1 (zs.map λb=>Xb b.id)):=Hd
      ⟨B',d',ys,by rw [aF],ao.1,by rw [aF];exact ao.2,by
       rw [aF];exact ⟨X.below.trans (U.below.mono X.below.size),U.row,λb h=>Xt X.below.size (U.fresh b h)⟩⟩
     clear U aF;go_wp2;go_ret;exact HF
end Tw
end
section
open Wo Ro
namespace Tw
def tN (u:ByteArray):encStr u.data.toList=Xb u:=by
 obtain ⟨a⟩:=u;simp [encStr]
def DY (d:List (List UInt8)) (os:Array Obj) (h:Xk w e 1 (X_ ⟨b,off,Y_⟩) n c xs) (hn:d.length=n):
  Xk (Sort.grow (Xi encStr (Xn w m) b off d.toArray) os) e 1 (X_ ⟨b,off,Y_⟩) n c (d.map encStr)/\XR (λk=>k=b) w (Sort.grow (Xi encStr (Xn w m) b off d.toArray) os):=by
 obtain ⟨h1,h2,h3,⟨h4,_⟩|⟨g',X,F,O,U,V,htk⟩⟩:=h
 .cases h4
 .simp only [Option.some.injEq,Addr.mk.injEq,and_true] at O
  obtain ⟨rfl,rfl⟩:=O;have hb:b<w.heap.size:=(Array.getElem?_eq_some_iff.1 U).1;constructor
  .refine ⟨by simp [hn],h2,h3,.inr ⟨b,off,XI encStr off d.toArray F,rfl,?_,by simp [XI];omega,?_⟩⟩
   .rw [XJ _ _ (by simp [Xi,Xp,Xn];exact hb)]
    simp [Xi,Xp,Xn,Array.getElem?_modify,U,Sort.onCells]
   .apply List.ext_getElem?
    intro j;by_cases hj:j<n
    .rw [List.getElem?_take_of_lt o_,List.getElem?_drop,Array.getElem?_toList,XI,Array.getElem?_mapIdx,Array.getElem?_eq_getElem (show off+j<F.size by omega)]
     rw [Option.map_some,if_pos ⟨o_,by simp [hn];omega⟩,show off+j - off=j by omega,List.getElem?_map,List.getElem?_eq_getElem o_,getElem!_pos _ _ z_];rfl
    .rw [List.getElem?_eq_none z_,List.getElem?_eq_none z_]
  .refine ⟨rfl,rfl,rfl,by simp [Xi,Xp,Xn],λg I G=>?_⟩
   rw [XJ _ _ (by simp [Xi,Xp,Xn];exact I)];simp [Xi,Xp,Xn,Array.getElem?_modify,Ne.symm G]
def LY {us:List ByteArray} (h:XQ w A n c us) (hm:n<=1000000):
  WX Xa 155 #[S_ A n c] w λo w'=>o=R_ (U_ #[])/\ ∃ys:List ByteArray,ys.Perm us/\XQ w' A n c ys/\XR (λb=>Xr A=X_ b) w w':=by
 have F:us.length=n:=by have:=h.len;simpa using this
 by_cases I:n=0
 .subst I
  obtain rfl:=Xe F;refine (Any.slices_Sort_string_none Tryz.Bu A c w).mono ?_;rintro o w' ⟨rfl,rfl⟩;exact ⟨rfl,[],List.Perm.refl _,h,Ro.dt.refl _ _⟩
 .obtain ⟨b,off,rfl⟩:=h.fe (by have:=h.le;omega)
  have V:(us.map λu=>u.data.toList).map encStr=us.map Xb:=by
   rw [XN];exact Xs λu _=>tN u
  have X:Sort.Holds encStr w b off (us.map λu=>u.data.toList).toArray:=by
   intro j U;have O:j<us.length:=by simpa using U
   refine ⟨?_,h.frozen _⟩;rw [h.cell j (by simpa using O),getElem!_pos (us.map λu=>u.data.toList).toArray j U];simp [tN]
  have:=Any.slices_Sort_string Tryz.Bu b off c (us.map λu=>u.data.toList) w X (h.lt rfl) (by rw [XE];omega);rw [XE,F] at this;refine this.mono ?_;rintro o w' ⟨rfl,m,os,rfl⟩;let ⟨r1,r2⟩:=DY (m:=m) ((us.map λu=>u.data.toList).mergeSort λx y=>decide (x<=y)) os h (by rw [List.length_mergeSort,XE];exact F);refine ⟨rfl,((us.map λu=>u.data.toList).mergeSort λx y=>decide (x<=y)).map λl=>⟨l.toArray⟩,?_,?_,r2.mono (λk _ hk=>by rw [hk];rfl)⟩
  .have aa:=(List.mergeSort_perm (us.map λu=>u.data.toList) λx y=>decide (x<=y)).map λl:List UInt8=>(⟨l.toArray⟩:ByteArray)
   rw [XN] at aa;have G:us.map ((λl:List UInt8=>(⟨l.toArray⟩:ByteArray)) ∘ λu:ByteArray=>u.data.toList)=us:=by
    conv=>rhs;rw [<-List.map_id us]
    exact Xs λu _=>by obtain ⟨a⟩:=u;simp
   rw [G] at aa;exact aa
  .have G:(((us.map λu=>u.data.toList).mergeSort λx y=>decide (x<=y)).map λl:List UInt8=>(⟨l.toArray⟩:ByteArray)).map Xb=((us.map λu=>u.data.toList).mergeSort λx y=>decide (x<=y)).map encStr:=by
    rw [XN];exact Xs λl _=>rfl
   show Xk _ _ _ _ _ _ _
   rw [G];exact r1
def xT (ps:List dz): ∀u∈Xc ps,u.oneCell'=Y':=by
 intro u F;unfold Xc at F;simp only [List.mem_flatten,XM,List.mem_flatMap] at F
 first
  |(obtain ⟨_,⟨p,_,rfl⟩,F⟩:=F;simp [Xu] at F;obtain rfl|rfl|rfl|rfl|rfl|rfl|rfl|rfl|rfl|rfl|rfl:=F<;>rfl)
  |(obtain ⟨p,_,F⟩:=F;simp [Xu] at F;obtain rfl|rfl|rfl|rfl|rfl|rfl|rfl|rfl|rfl|rfl|rfl:=F<;>rfl)
abbrev C_ (w:Z') (A:Option WY) (n c:Nat) (l:List dz):Prop:=Xk w 42 11 A n c (Xc l)
def wT (A:Option WY) (n c:Nat) (bx:List dz) (w:Z') (h:Xw w w.heap.size 11 A n (Xc bx)) (hn:n<=1000000) (X:A=Y_->n=0/\c=0):
  WX Xa 154 #[S_ A n c] w λe w'=> ∃A' c',e=R_ (S_ A' n c')/\eF w w' 42 11 A' n c' (Xc bx):=by
 cases A with
 |none=>
  obtain ⟨rfl,rfl⟩:=X rfl;have F:bx=[]:=by
   have:=h.1;rw [dz.dO] at this;exact Xe o_
  subst F;have O: ∀w,(binOp .eql 183 (S_ Y_ 0 0) (S_ Y_ 0 0)).run Xa w= .ok (B_ Y') w:=λw=>k_
  go_enter func154,ntmps154;go_wp2;go_ret;exact ⟨_,_,rfl,eF.nil b_⟩
 |some ad=>
  have I:Xk (w.alloc (.cells #[] 42)) 42 11 (X_ ⟨w.heap.size,0,Y_⟩) 0 0 []:=Ro.Row.new (cs:= #[]) rfl d_;let ⟨A',c',w',hr,V,hO,F⟩:=Ro.app (P:=Xa) (ty:=183) (c2:=c) Ta.Ql I (h.alloc l_ _) (xT bx) e_ o_;simp only [Nat.zero_add,List.nil_append] at hr V;have U:WZ (∃A1 c1,(Xq (S_ A' n c'))=R_ (S_ A1 n c1)/\eF w w' 42 11 A1 n c1 (Xc bx)):=by
   refine ⟨A',c',rfl,((Ro.dt.refl (λ_=>False) w).alloc _|>.trans hO (T:=λb=>Xr (X_ ⟨w.heap.size,0,Y_⟩)=X_ b) (λk hk e=>?_)).below l_ (λ_ _ c=>c),V,λb G=>?_⟩
   .exact vZ
   .obtain F|F:=F
    .exact we
    .rw [F] at G
     have:(w.alloc (.cells #[] 42)).heap.size=b:=by simpa using G
     simp at this;omega
  clear h I V hO F X;have O: ∀w,(binOp .eql 183 (S_ (X_ ad) n c) (S_ Y_ 0 0)).run Xa w= .ok (B_ Z_) w:=λw=>k_
  go_enter func154,ntmps154;refine pN ?_;go_ret;exact U
def kP {W:Z'} (h:eF W w e k A n c xs) (ho:XR (λb=>Xr A2=X_ b) w w') (hb:Bw W w') (ha: ∀b,Xr A=X_ b-> ¬Xr A2=X_ b):eF W w' e k A n c xs:=
 ⟨hb,h.row.dy λb hk=>ho.block b (h.row.lt hk) (ha b hk),h.fresh⟩
end Tw
end
section
open Wo
namespace Tw
def oC (p:dz) (l:List dz) (W:Z') (e:Ending) (w':Z'):Prop:=
 ∃(A1 A2:Option WY) (n1 c1 c2:Nat) (ys:List dz),e=R_ (U_ #[S_ A1 n1 c1,S_ A2 ys.length c2])/\ys.Perm (l.filter (fP p))/\Xd (ltOf jv) 0 ys.length ys.toArray/\
  eF W w' 42 11 A1 n1 c1 (Xc (p::l.filter λv=> !fP p v))/\eF W w' 42 11 A2 ys.length c2 (Xc ys)/\n1<=l.length+1/\ys.length<=l.length
def uU (A:Option WY) (n c:Nat) (l:List dz) (p:dz) (w:Z') (h:Xw w w.heap.size 11 A n (Xc l)) (aU:l.length=n) (hn:n<=10000):
  WX Xa 153 #[S_ A n c,A_ p.arr] w (oC p l w):=by
 have H:=Hd h;have bR:=Hd aU;have a8:=Hd (λv X=>Ls p v X);let ⟨PP,a0⟩:=nm p;rw [show oC p l w=oC PP l w by rw [a0]];have bb:=Hd a0;clear h aU a0;obtain ⟨aA,V,O,aE,ax,ay,am,aI,av,ac,U⟩:=p;unfold XT at a8 |-
 dsimp only at a8 |-
 let ⟨w0,hw0⟩:=nm (w.alloc (.cells #[aA,V,O,aE,ax,ay,am,aI,av,ac,U] 42));have ag:=Hd (show Bw w w0 from by rw [hw0];exact dL);have bD:=Hd (show XL w0 w.heap.size 42 #[aA,V,O,aE,ax,ay,am,aI,av,ac,U] from by rw [hw0];exact Xg);let ⟨w1,aT⟩:=nm (w0.alloc (.cells #[aA,V,O,aE,ax,ay,am,aI,av,ac,U] 42));have bG:WZ (eF w0 w1 42 11 (X_ ⟨w0.heap.size,0,Y_⟩) 1 1 (Xc (PP::(l.take 0).filter λv=> !fP PP v))):=Hd (by
  rw [aT,bb.o];refine ⟨dL,?_,λb hb=>Nat.le_of_eq (by simpa [Xr] using hb)⟩;have:=Ro.Row.new (w:=w0) (e:=42) (k:=11) (n:=1) (cs:= #[aA,V,O,aE,ax,ay,am,aI,av,ac,U]) rfl d_;simpa [Xc,Xu] using this)
 have bI:WZ (eF w0 w1 42 11 Y_ 0 0 (Xc ((l.take 0).filter (fP PP)))):=Hd (eF.nil (by rw [aT];exact dL));have HZ0:WZ (w0.heap.size=w.heap.size+1):=Hd (by rw [hw0];simp);have bw:=Hd hw0;have bm:=Hd aT;clear hw0 aT;go_enter func153,ntmps153;go_wp2_with fail;rw [<-HZ0.o,<-bw.o,<-bm.o];go_loopw [6,7,14] (λvs va vi wr=> ∃(k nS nK:Nat) (AS AK:Option WY) (cS cK:Nat),k<=n/\nS<=k+1/\nK<=k/\vi=I_ J_ k/\vs=S_ AS nS cS/\va=S_ AK nK cK/\WZ (eF w0 wr 42 11 AS nS cS (Xc (PP::(l.take k).filter λv=> !fP PP v)))/\WZ (eF w0 wr 42 11 AK nK cK (Xc ((l.take k).filter (fP PP))))/\WZ (∀b,Xr AS=X_ b-> ¬Xr AK=X_ b)) (λ_ _ i _=>n - (intOf i).toNat)
 .exact ⟨0,1,0,_,Y_,1,0,o_,o_,o_,rfl,rfl,rfl,bG,bI,Hd (λb _ h=>by cases h)⟩
 .obtain ⟨k,nS,nK,AS,AK,cS,cK,hk,hnS,hnK,rfl,rfl,rfl,HX,G,aD⟩:=hrel
  by_cases b5:k<n
  .have Hw:=Hd (ag.o.trans (HX.o.below.mono ag.o.size))
   obtain ⟨ad,hl,rfl,bK,ba,bF⟩:=dz.at_ (H.o.below Hw.o) b5;have a4:=Hd (kU (λv=> !fP PP v) l k hl);have a1:=Hd (kU (fP PP) l k hl);have af:=Hd (λX=>a8.o l[k] X);have C1:WZ (fP PP l[k]=fP ⟨aA,V,O,aE,ax,ay,am,aI,av,ac,U⟩ l[k]):=Hd (by rw [bb.o]);generalize l[k]=q at*;obtain ⟨au,ae,F,aB,an,az,aF,aL,aG,ab,I⟩:=q;obtain ⟨c0,c1,c2,c3,c4,c5,c6,c7,c8,c9,lM⟩:=bF
   dsimp only at c0 c1 c2 c3 c4 c5 c6 c7 c8 c9 lM af a4 a1
   rw [<-C1.o] at af;refine lI ?_;intro hw;let ⟨w2,aO⟩:=nm (wr.alloc (.cells #[au,ae,F,aB,an,az,aF,aL,aG,ab,I] 42));have aS:Bw wr w2:=by rw [aO];exact dL
   have HB:=Hd (HX.o.free aS);have HG:=Hd (G.o.free aS);have HK1:=Hd (show XL w2 wr.heap.size 42 #[au,ae,F,aB,an,az,aF,aL,aG,ab,I] from by rw [aO];exact Xg);have HK2:=Hd ((bD.o.a_ HX.o.below).a_ aS);have bg:=Hd aO;generalize fP PP ⟨au,ae,F,aB,an,az,aF,aL,aG,ab,I⟩=b at*;clear hl bK ba aO aS;obtain ⟨e0,e1,e2,e3,e4,e5,e6,e7,e8,e9,bJ,-⟩:=kA HK2.o;go_upto_region 6 with fail;rw [<-bg.o];have bq:=HK1.o;obtain ⟨f0,f1,f2,f3,f4,f5,f6,f7,f8,f9,bd,-⟩:=kA HK1.o;clear bq;go_wp2_with fail;clear e0 e1 e2 e3 e4 e5 e6 e7 e8 e9 bJ f0 f1 f2 f3 f4 f5 f6 f7 f8 f9 bd c0 c1 c2 c3 c4 c5 c6 c7 c8 c9 lM bg;refine (af.o _).mono ?_;rintro e w3 ⟨rfl,aa⟩;have a7:=Hd (HB.o.free aa);have aZ:=Hd (HG.o.free aa);have bu:=Hd (HK1.o.a_ aa);clear aa HB HG HK1 HK2 af C1;obtain ⟨f0,f1,f2,f3,f4,f5,f6,f7,f8,f9,bd,-⟩:=kA bu.o;cases b with
   |true=>
    let ⟨A3,ar,w5,hr,hq,aC,k0⟩:=Tq.rl Ta.Ql aZ.o #[au,ae,F,aB,an,az,aF,aL,aG,ab,I] rfl v_ o_ d_ rfl;have a3:WZ (eF w0 w5 42 11 A3 (nK+1) ar (Xc ((l.take (k+1)).filter (fP PP)))):=Hd (by
     rw [a1.o];simp only [Xz,Xy,if_true,Xh,if_false];have e:=hq;simpa [Xc,Xu] using e)
    have a2:WZ (eF w0 w5 42 11 AS nS cS (Xc (PP::(l.take (k+1)).filter λv=> !fP PP v))):=Hd (by
     rw [a4.o];simp only [Xz,Xy,if_true,Xh,if_false,Xf];exact kP a7.o aC hq.below aD.o)
    have aK:WZ (∀b,Xr AS=X_ b-> ¬Xr A3=X_ b):=Hd (λb hb ak=>by
     obtain h|h:=k0 b ak
     .exact aD.o b hb h
     .have:=a7.o.row.lt hb;omega)
    clear hq aC k0;refine pN ?_;go_roundw
    .exact ⟨k+1,nS,nK+1,AS,A3,cS,ar,o_,o_,o_,by go_num,rfl,by go_num,a2,a3,aK⟩
    .simp [intOf];omega
   |false=>
    let ⟨A3,ar,w5,hr,hq,aC,k0⟩:=Tq.rl Ta.Ql a7.o #[au,ae,F,aB,an,az,aF,aL,aG,ab,I] rfl v_ o_ d_ rfl;have a3:WZ (eF w0 w5 42 11 A3 (nS+1) ar (Xc (PP::(l.take (k+1)).filter λv=> !fP PP v))):=Hd (by
     rw [a4.o];simp only [Xz,Xy,if_true,Xh,if_false];have e:=hq;simpa [Xc,Xu] using e)
    have a2:WZ (eF w0 w5 42 11 AK nK cK (Xc ((l.take (k+1)).filter (fP PP)))):=Hd (by
     rw [a1.o];simp only [Xz,Xy,if_true,Xh,if_false,Xf];exact kP aZ.o aC hq.below (λb hb ak=>aD.o b ak hb))
    have aK:WZ (∀b,Xr A3=X_ b-> ¬Xr AK=X_ b):=Hd (λb hb ak=>by
     obtain h|h:=k0 b hb
     .exact aD.o b h ak
     .have:=aZ.o.row.lt ak;omega)
    clear hq aC k0;refine pN ?_;go_roundw
    .exact ⟨k+1,nS+1,nK,A3,AK,ar,cK,o_,o_,o_,by go_num,by go_num,rfl,a3,a2,aK⟩
    .simp [intOf];omega
  .obtain rfl:k=n:=o_
   have hx:=G.o;have ao:=HX.o;rw [t_ (by have:=bR.o;omega)] at hx ao;have a6:(l.filter (fP PP)).length=nK:=by have:=hx.row.len;rw [dz.dO] at this;omega
   have bA:=Hd (LS hx.row a6 o_);have bp:=Hd hx;have bo:=Hd ao;have bz:=Hd a6;clear hx ao a6;go_wp2_with fail;refine bA.o.mono ?_;rintro e bB ⟨rfl,ys,ai,aH,aW,al⟩;have aR:ys.length=nK:=by rw [ai.length_eq];exact bz.o
   have HF:WZ (oC PP l w (R_ (U_ #[S_ AS nS cS,S_ AK nK cK])) bB):=Hd (by
    have k2:=rr bp.o al aW;have k1:=kP bo.o al k2.below aD.o;have hz:=ag.o.size;refine ⟨AS,AK,nS,cS,cK,ys,by rw [aR],ai,by rw [aR];exact aH,⟨ag.o.trans (k1.below.mono hz),k1.row,λb h=>Xt hz (k1.fresh b h)⟩,?_,by have:=bR.o;omega,by have:=bR.o;omega⟩;rw [aR];exact ⟨ag.o.trans (k2.below.mono hz),k2.row,λb h=>Xt hz (k2.fresh b h)⟩)
   clear ai aH aW al aR;go_wp2;refine bodyPost_ret (v:=U_ #[S_ AS nS cS,S_ AK nK cK]) (by simp [results,results153,go_sem]) rfl HF.o
def jr {o:Oper} (s x:Operand) (t tn:TypeId)
  (G:o.op= .call {callee:= .builtin .append,args:= #[s,x],argTypes:= #[t,tn]}) (vs F:WW) (hs:a.eval s=vs) (O:a.eval x=F)
  (I:(Builtin.append_ #[t,tn] o.type #[vs,F]).run P w= .ok v' w'):(execOp a.eval o).run P w= .ok (.value v') w':=by
 unfold execOp;simp only [G,resolve,invoke,builtin,Sem.run_bind,Sem.run_pure,Result.andThen_ok,List.map_toArray,List.map_cons,List.map_nil,hs,O,I]
def wR {e:TypeId} (h:Xk w e k A n c xs) (e:A=Y_):n=0/\c=0:=by
 obtain ⟨_,h2,_,⟨_,G⟩|⟨g,off,cur,F,_⟩⟩:=h
 .exact ⟨o_,G⟩
 .rw [e] at F;cases F
def fN (g0 g1 g2:Int) (s:List dz×List ByteArray) (v:dz):List dz×List ByteArray:=if XU g0 g1 g2 (XV (s.1++[v])) then (s.1++[v],s.2) else (s.1,s.2++[v.id])
def fp (g0 g1 g2:Int) (stay ask:List dz):List dz×List ByteArray:=ask.foldl (fN g0 g1 g2) (stay,[])
def CZ (g0 g1 g2:Int) (stay ask:List dz) (k:Nat) (h:k<ask.length):fp g0 g1 g2 stay (ask.take (k+1))=fN g0 g1 g2 (fp g0 g1 g2 stay (ask.take k)) ask[k]:=by
 unfold fp;rw [Mem.dQ ask k h,List.foldl_append];rfl
def wS: ∀(ask:List dz),(∀v∈(fp g0 g1 g2 stay ask).1,v∈stay\/v∈ask)/\(fp g0 g1 g2 stay ask).1.length<=stay.length+ask.length/\(fp g0 g1 g2 stay ask).2.length<=ask.length/\ ∀s∈(fp g0 g1 g2 stay ask).2,∃v∈ask,v.id=s:=by
 intro ask;have key: ∀(ask:List dz) (s:List dz×List ByteArray),(∀v∈(ask.foldl (fN g0 g1 g2) s).1,v∈s.1\/v∈ask)/\(ask.foldl (fN g0 g1 g2) s).1.length<=s.1.length+ask.length/\(ask.foldl (fN g0 g1 g2) s).2.length<=s.2.length+ask.length/\ ∀x∈(ask.foldl (fN g0 g1 g2) s).2,x∈s.2\/ ∃v∈ask,v.id=x:=by
  intro ask
  induction ask with
  |nil=>intro s;exact ⟨λv h=> .inl h,by simp,by simp,λx h=> .inl h⟩
  |cons a l ih=>
   intro s;let ⟨G,U,O,I⟩:=ih (fN g0 g1 g2 s a);have hs:((fN g0 g1 g2 s a).1=s.1++[a]/\(fN g0 g1 g2 s a).2=s.2)\/((fN g0 g1 g2 s a).1=s.1/\(fN g0 g1 g2 s a).2=s.2++[a.id]):=by
    unfold fN;split
    .exact .inl ⟨rfl,rfl⟩
    .exact .inr ⟨rfl,rfl⟩
   rw [List.foldl_cons];obtain ⟨e1,X⟩|⟨e1,X⟩:=hs<;>rw [e1] at G U<;>rw [X] at O I
   .refine ⟨λv F=>?_,by simp at U |-;omega,by simp;omega,λx V=>?_⟩
    .obtain h|h:=G v F
     .obtain h|h:=XC.1 h
      .exact .inl h
      .exact .inr (by rw [Xx] at h;simp [h])
     .exact .inr (n_ _ h)
    .obtain h|⟨v,F,e⟩:=I x V
     .exact .inl h
     .exact .inr ⟨v,n_ _ F,e⟩
   .refine ⟨λv F=>?_,by simp;omega,by simp at O |-;omega,λx V=>?_⟩
    .obtain h|h:=G v F
     .exact .inl h
     .exact .inr (n_ _ h)
    .obtain h|⟨v,F,e⟩:=I x V
     .obtain h|h:=XC.1 h
      .exact .inl h
      .exact .inr ⟨a,by simp,by rw [Xx] at h;exact h.symm⟩
     .exact .inr ⟨v,n_ _ F,e⟩
 let ⟨G,U,O,I⟩:=key ask (stay,[]);refine ⟨G,U,?_,λs hs=>(I s hs).resolve_left y_⟩;simp only [List.length_nil,Nat.zero_add] at O;exact O
def eT (p:dz) (l:List dz):List dz:=p::l.filter λv=> !fP p v
def iC (g0 g1 g2:Int) (l:List dz) (p:dz) (W:Z') (e:Ending) (w':Z'):Prop:=
 Bw W w'/\((XU g0 g1 g2 (XV (eT p l))=Z_/\e=R_ (U_ #[S_ Y_ 0 0,B_ Z_]))\/
  (XU g0 g1 g2 (XV (eT p l))=Y'/\ ∃(ys:List dz) (outs:List ByteArray) (A:Option WY) (c:Nat),ys.Perm (l.filter (fP p))/\Xd (ltOf jv) 0 ys.length ys.toArray/\outs.Perm (fp g0 g1 g2 (eT p l) ys).2/\
   e=R_ (U_ #[S_ A outs.length c,B_ Y'])/\XQ w' A outs.length c outs/\ ∀b,Xr A=X_ b->W.heap.size<=b))
def OE {p:Prop} (h:p:=by
 refine dm.tk 0 ay.o [5] ?_
 iterate 1 (refine dm.dG rfl (λK' U=>?_);go_simp;(first|refine U _ ?_;clear U K'|constructor;refine ⟨λwx aI=>?_,U _ ?_⟩;(first|done|rfl);clear U K'))
 refine dm.ee ?_;refine wpAnyH_done k_ ?_ _;go_wp2_with fail
 go_meet
 exact ⟨A6,c6,rfl,ay,bz⟩):p:=h
def Hf (g0 g1 g2:Int) (A:Option WY) (n c:Nat) (l:List dz) (p:dz) (w:Z') (h:Xw w w.heap.size 11 A n (Xc l)) (aC:l.length=n) (hn:n<=10000) (bt: ∀v∈l,v.ok) (hp:p.ok):
  WX Xa 97 #[A_ #[g0,g1,g2],S_ A n c,A_ p.arr] w (iC g0 g1 g2 l p w):=by
 have H:=Hd h;have HL:=Hd aC;have be:=Hd (λX (h:Xw X X.heap.size 11 A n (Xc l))=>uU A n c l p X h aC hn);let ⟨PP,aB⟩:=nm p;have bV:WZ (∀v∈eT PP l,v.ok):=Hd (by
  rw [aB];intro v hv;obtain rfl|hv:=p_ hv
  .exact hp
  .exact bt v (XB.1 hv).1)
 have b4:=Hd bt;have cc:=Hd (λ(ps:List dz) (hps: ∀v∈ps,v.ok) A' n' c' X (h:Xw X X.heap.size 11 A' n' (Xc ps)) (hn:n'<=1000000)=>Vi.Fv g0 g1 g2 A' n' c' ps X h hps hn);have bP:WZ (PP.arr=p.arr):=Hd (by rw [aB]);rw [show iC g0 g1 g2 l p w=iC g0 g1 g2 l PP w by rw [aB]];rw [<-aB] at be;clear h aC aB bt hp;rw [bP.o] at be;clear bP;obtain ⟨bB,ar,aM,bC,bq,bA,aL,bH,bo,aK,ap⟩:=p;unfold XT at be |-
 dsimp only at be |-
 let ⟨w1,ah⟩:=nm ((w.alloc (.cells #[g0,g1,g2] 22)).alloc (.cells #[bB,ar,aM,bC,bq,bA,aL,bH,bo,aK,ap] 42));have HBc:=Hd (show Bw w w1 from by rw [ah];exact (dL).alloc y_ _);have HS:=Hd (show XL w1 w.heap.size 22 #[g0,g1,g2] from by rw [ah];exact Mem.c_.alloc Xg);have aV:=Hd (show XL w1 (w.heap.size+1) 42 #[bB,ar,aM,bC,bq,bA,aL,bH,bo,aK,ap] from by
  rw [ah];have:=Xg (w:=w.alloc (.cells #[g0,g1,g2] 22)) (t:=42) (cs:= #[bB,ar,aM,bC,bq,bA,aL,bH,bo,aK,ap]);simpa using this)
 have bO:=Hd ah;clear ah;obtain ⟨e0,e1,e2,e3,e4,e5,e6,e7,e8,e9,aT,-⟩:=kA aV.o;go_enter func97,ntmps97;go_upto_region 1 with fail;rw [<-bO.o];go_wp2_with fail;clear e0 e1 e2 e3 e4 e5 e6 e7 e8 e9 aT aV bO;refine (be.o _ ((H.o.below HBc.o).more HBc.o.size)).mono ?_;rintro e w2 ⟨AS,AK,nS,aO,cK,ys,rfl,aU,bL,aF,cr,cV,bU⟩;have ao:=Hd (XS aU bL);have av:=Hd aF;have HG:=Hd cr;have HK1:=Hd (HS.o.a_ aF.below);have aA:=Hd (HBc.o.trans (aF.below.mono HBc.o.size));let ⟨ln,bD⟩:=nm (ys.length);rw [<-bD] at HG bU |-;have HN3:=Hd bD;have hb1:nS<=10001:=by have:=HL.o;omega
 have hb2:ln<=10000:=by have:=HL.o;omega
 have HSL:WZ ((eT PP l).length=nS):=Hd (by have:=aF.row.len;rw [dz.dO] at this;unfold eT;omega);clear aU bL aF cr bD cV bU be HS;have cJ:=Hd (cc.o (eT PP l) bV.o AS nS aO w2 av.o.row.sl o_);let ⟨B0,bj⟩:=nm (XU g0 g1 g2 (XV (eT PP l)));rw [<-bj] at cJ;have bZ:=Hd bj;clear bj;obtain ⟨y0,y1,y2,-⟩:=kA HK1.o;go_wp2_with fail;clear y0 y1 y2;refine cJ.o.mono ?_;rintro e w3 ⟨rfl,aa⟩;have am:=Hd (aA.o.trans (aa.mono aA.o.size));have a7:=Hd (av.o.free aa);have aZ:=Hd (HG.o.free aa);have bw:=Hd (HK1.o.a_ aa);clear aa av HG HK1 cJ;cases B0 with
 |false=>
  have HF:WZ (iC g0 g1 g2 l PP w (R_ (U_ #[S_ Y_ 0 0,B_ Z_])) w3):=Hd ⟨am.o,.inl ⟨bZ.o.symm,rfl⟩⟩;go_wp2;refine bodyPost_ret (v:=U_ #[S_ Y_ 0 0,B_ Z_]) (by simp [results,results97,go_sem]) rfl HF.o
 |true=>
  go_wp2;go_loopw [8,10,26] (λvs vo vi wr=> ∃(k nX nO:Nat) (AX AO:Option WY) (cX cO:Nat),k<=ln/\nX<=nS+k/\nO<=k/\vi=I_ J_ k/\vs=S_ AX nX cX/\vo=S_ AO nO cO/\WZ (Bw w3 wr)/\WZ (C_ wr AX nX cX (fp g0 g1 g2 (eT PP l) (ys.take k)).1)/\WZ (eF w3 wr 9 1 AO nO cO ((fp g0 g1 g2 (eT PP l) (ys.take k)).2.map Xb))) (λ_ _ i _=>ln - (intOf i).toNat)
  .exact ⟨0,nS,0,AS,Y_,aO,0,o_,o_,o_,rfl,rfl,rfl,Hd b_,Hd a7.o.row,Hd (eF.nil b_)⟩
  .obtain ⟨k,nX,nO,AX,AO,cX,cO,hk,hnX,hnO,rfl,rfl,rfl,aG,HX,G⟩:=hrel
   by_cases cD:k<ln
   .let ⟨ad,hl,cF,cR,bT,aP⟩:=dz.at_ (aZ.o.row.sl.below aG.o) cD
    subst cF;have cd:=Hd (CZ g0 g1 g2 (eT PP l) ys k hl);have b6:=Hd (wS (g0:=g0) (g1:=g1) (g2:=g2) (stay:=eT PP l) (ys.take k));have b5:WZ (∀v∈(fp g0 g1 g2 (eT PP l) (ys.take k)).1,v.ok):=Hd λv hv=>by
     obtain h|h:=b6.o.1 v hv
     .exact bV.o v h
     .exact b4.o v (XB.1 (ao.o.1.mem_iff.1 (List.mem_of_mem_take h))).1
    have bR:WZ (ys[k].ok):=Hd (b4.o _ (XB.1 (ao.o.1.mem_iff.1 (g_ hl))).1);generalize fp g0 g1 g2 (eT PP l) (ys.take k)=st at*;generalize ys[k]=q at*;obtain ⟨sx,so⟩:=st;have aY:WZ (∀v∈sx++[q],v.ok):=Hd λv hv=>by
     obtain h|h:=XC.1 hv
     .exact b5.o v h
     .rw [Xx] at h;rw [h];exact bR.o
    have bi:=Hd (cc.o (sx++[q]) aY.o);have an:WZ (fp g0 g1 g2 (eT PP l) (ys.take (k+1))=if XU g0 g1 g2 (XV (sx++[q])) then (sx++[q],so) else (sx,so++[q.id])):=cd;have ax:WZ (Xc (sx++[q])=Xc sx++q.arr.toList):=Hd (by simp [Xc,Xu,XT]);generalize XU g0 g1 g2 (XV (sx++[q]))=b at*;obtain ⟨V,aw,F,af,ab,ae,al,ai,au,O,I⟩:=q;unfold XT at ax;obtain ⟨c0,c1,c2,c3,c4,c5,c6,c7,c8,c9,lM⟩:=aP
    dsimp only at c0 c1 c2 c3 c4 c5 c6 c7 c8 c9 lM bi an HX G ax
    refine lI ?_;intro hw;let ⟨ac,aQ⟩:=nm (wr.alloc (.cells #[V,aw,F,af,ab,ae,al,ai,au,O,I] 42));have aS:Bw wr ac:=by rw [aQ];exact dL
    have HB:=Hd (aG.o.trans (aS.mono aG.o.size));have aD:=Hd (show C_ ac AX nX cX sx from HX.o.dy λb hb=>aS.block b (HX.o.lt hb));have ch:=Hd (G.o.free aS);have br:=Hd (show XL ac wr.heap.size 42 #[V,aw,F,af,ab,ae,al,ai,au,O,I] from by rw [aQ];exact Xg);have bY:=Hd aQ;clear hl cR bT aQ aS aG HX G cd b6 b5 bR aY;go_upto_region 8 with fail;rw [<-bY.o];clear c0 c1 c2 c3 c4 c5 c6 c7 c8 c9 lM bY;go_cut [13] (λcY wx=> ∃(A5:Option WY) (c5:Nat),cY=S_ A5 (nX+1) c5/\WZ (Bw ac wx)/\WZ (Xk wx 42 11 A5 (nX+1) c5 (Xc sx++(#[V,aw,F,af,ab,ae,al,ai,au,O,I]:Array WW).toList)))
    case first=>
     have cp:=Hd (show∀wx,Bw ac wx->C wx wr.heap.size 0 V/\C wx wr.heap.size 1 aw/\C wx wr.heap.size 2 F/\C wx wr.heap.size 3 af/\C wx wr.heap.size 4 ab/\C wx wr.heap.size 5 ae/\C wx wr.heap.size 6 al/\C wx wr.heap.size 7 ai/\C wx wr.heap.size 8 au/\C wx wr.heap.size 9 O/\C wx wr.heap.size 10 I from λwx aI=>by
      have k1:=br.o.a_ aI;exact ⟨k1.cell 0,k1.cell 1,k1.cell 2,k1.cell 3,k1.cell 4,k1.cell 5,k1.cell 6,k1.cell 7,k1.cell 8,k1.cell 9,k1.cell 10⟩)
     refine dm.start (S:=λwx=>Bw ac wx) k_ ?_;refine dm.tk 4 b_.drew [0,2] ?_
     iterate 2 (refine dm.dG rfl (λK' U=>?_);go_simp;(first|refine U _ ?_;clear U K'|constructor;refine ⟨λwx aI=>?_,U _ ?_⟩;(let ⟨a0,a1,a2,a3,a4,a5,a6,aX,a8,a9,a10⟩:=cp.o wx aI;go_simp<;>rfl);clear U K'))
     refine dm.ee ?_;clear cp;refine dm.two (i:=1) (j:=3) (n:=3) k_ ?_ ?_
     .refine dm.cl ?_
      refine (wT AX nX cX sx ac.drew aD.o.sl.drew o_ (wR aD.o)).mono ?_;rintro e w5 ⟨A5,c5,rfl,ak⟩;have S5:Bw ac w5:=b_.drew.trans ak.below;have aN:eF ac w5 42 11 A5 nX c5 (Xc sx):=⟨S5,ak.row,ak.fresh⟩;let ⟨A6,c6,w6,aE,aH,cB⟩:=aN.push Ta.Ql #[V,aw,F,af,ab,ae,al,ai,au,O,I] rfl v_ o_ d_ rfl;refine ⟨_,rfl,S5,?_⟩;refine dm.one (i:=3) (n:=2) k_ ?_;refine dm.val rfl rfl (v:=S_ (X_ ⟨w5.heap.size,0,Y_⟩) 1 1) (w':=w5.alloc (.cells #[V,aw,F,af,ab,ae,al,ai,au,O,I] 42)) f_ (S5.alloc S5.size _) ?_;refine dm.one (i:=4) (n:=1) k_ ?_;refine dm.val rfl rfl (v:=S_ A6 (nX+1) c6) (w':=w6) (jr _ _ _ _ rfl _ _ rfl rfl aE) aH.below ?_;have ay:=Hd aH.below;have bz:=Hd aH.row;clear ak aN aE aH cB S5;exact OE
     .refine dm.val rfl rfl (v:=S_ (X_ ⟨ac.heap.size,0,Y_⟩) 1 1) (w':=ac.drew.alloc (.cells #[V,aw,F,af,ab,ae,al,ai,au,O,I] 42)) f_ (b_.drew.alloc l_ _) ?_
      refine dm.one (i:=1) (n:=2) k_ ?_;refine dm.cl ?_;have bS:C_ (ac.drew.alloc (.cells #[V,aw,F,af,ab,ae,al,ai,au,O,I] 42)) AX nX cX sx:=aD.o.dy λb hb=>Below.heap_alloc ac.drew _ b (aD.o.lt hb)
      refine (wT AX nX cX sx _ bS.sl o_ (wR aD.o)).mono ?_;rintro e w5 ⟨A5,c5,rfl,ak⟩;have S5:Bw ac w5:=(b_.drew.alloc l_ _).trans (ak.below.mono y_);have bW:Xw w5 w5.heap.size 11 (X_ ⟨ac.heap.size,0,Y_⟩) 1 (#[V,aw,F,af,ab,ae,al,ai,au,O,I]:Array WW).toList:=
       ((Mem.gV (w:=ac.drew) (size:=11) (n:=1) (cs:= #[V,aw,F,af,ab,ae,al,ai,au,O,I]) (e:=42) (fz:=(0,0)) rfl rfl rfl).below (ak.below.mono y_)).more (by have:=ak.below.size;simp at this |-;omega)
      let ⟨A6,c6,w6,aE,cm,ce,cT⟩:=Ro.app (P:=Xa) (ty:=183) (c2:=1) Ta.Ql ak.row bW v_ e_ o_;have S6:Bw ac w6:=S5.trans (ce.below S5.size (λb hb e=>by have:=ak.fresh b e;simp at this;omega));refine ⟨_,rfl,S5,?_⟩;refine dm.one (i:=4) (n:=1) k_ ?_;refine dm.val rfl rfl (v:=S_ A6 (nX+1) c6) (w':=w6) (jr _ _ _ _ rfl _ _ rfl rfl aE) S6 ?_;have ay:=Hd S6;have bz:=Hd cm;clear ak aE cm ce cT S5 S6 bW bS;exact OE
    case rest=>
     obtain ⟨A5,c5,rfl,ag,aR⟩:=hcut;have bm:=Hd (HB.o.trans (ag.o.mono HB.o.size));have cS:=Hd (bw.o.a_ bm.o);obtain ⟨y0,y1,y2,-⟩:=kA cS.o;have ca:=Hd (bi.o A5 (nX+1) c5 wc (by rw [ax.o];exact aR.o.sl) o_);go_wp2_with fail;clear y0 y1 y2;refine ca.o.mono ?_;rintro e w4 ⟨rfl,bl⟩;have cL:=Hd (ag.o.trans (bl.mono ag.o.size));have b7:=Hd (HB.o.trans (cL.o.mono HB.o.size));have bh:=Hd (ch.o.free cL.o);have bf:=Hd (show C_ w4 AX nX cX sx from aD.o.dy λb hb=>cL.o.block b (aD.o.lt hb));have cy:=Hd (br.o.a_ cL.o);have aW:=Hd (aR.o.dy (w':=w4) λb hb=>bl.block b (aR.o.lt hb));clear bl bm cS ca ag aR bi aD ch br;cases b with
     |true=>
      have bp:WZ (C_ w4 A5 (nX+1) c5 (fp g0 g1 g2 (eT PP l) (ys.take (k+1))).1):=Hd (by
       rw [an.o,if_pos rfl]
       show Xk _ _ _ _ _ _ _
       rw [ax.o];exact aW.o)
      have bE:WZ (eF w3 w4 9 1 AO nO cO ((fp g0 g1 g2 (eT PP l) (ys.take (k+1))).2.map Xb)):=Hd (by
       rw [an.o,if_pos rfl];exact bh.o)
      clear an ax;go_wp2;go_roundw
      .exact ⟨k+1,nX+1,nO,A5,AO,c5,cO,o_,o_,o_,by go_num,by go_num,rfl,b7,bp,bE⟩
      .simp [intOf];omega
     |false=>
      let ⟨A8,c8,w8,hr,aJ,cj⟩:=bh.o.push Ta.Qv #[V] rfl v_ o_ d_ rfl;have bp:WZ (C_ w8 AX nX cX (fp g0 g1 g2 (eT PP l) (ys.take (k+1))).1):=Hd (by
       rw [an.o,if_neg d_];exact bf.o.dy λb hb=>cj.block b (bf.o.lt hb) (bf.o.apart bh.o.row d_ b hb))
      have bE:WZ (eF w3 w8 9 1 A8 (nO+1) c8 ((fp g0 g1 g2 (eT PP l) (ys.take (k+1))).2.map Xb)):=Hd (by
       rw [an.o,if_neg d_,XD];exact aJ)
      have cW:=Hd aJ.below;have f0:C w4 wr.heap.size 0 V:=cy.o.cell 0;clear aJ cj an ax;refine pN ?_;go_roundw
      .exact ⟨k+1,nX,nO+1,AX,A8,cX,c8,o_,o_,o_,by go_num,rfl,by go_num,cW,bp,bE⟩
      .simp [intOf];omega
   .obtain rfl:k=ln:=o_
    have hx:=G.o;rw [t_ (by have:=HN3.o;omega)] at hx;have co:(fp g0 g1 g2 (eT PP l) ys).2.length=nO:=by have:=hx.row.len;simpa using this
    have b8:=Hd (LY (us:=(fp g0 g1 g2 (eT PP l) ys).2) hx.row o_);have bN:=Hd hx;have cE:=Hd co;clear hx co;go_wp2_with fail;refine b8.o.mono ?_;rintro e cG ⟨rfl,outs,hp,ba,az⟩;have HF:WZ (iC g0 g1 g2 l PP w (R_ (U_ #[S_ AO nO cO,B_ Y'])) cG):=Hd (by
     have bc:outs.length=nO:=by rw [hp.length_eq];exact cE.o
     have bg:=am.o.size;refine ⟨(am.o.trans (aG.o.mono bg)).trans (az.below (Xt bg aG.o.size) (λb hb e=>by have:=bN.o.fresh b e;omega)),.inr ⟨bZ.o.symm,ys,outs,AO,cO,ao.o.1,ao.o.2,hp,by rw [bc],by rw [bc];exact ba,λb hb=>Xt bg (bN.o.fresh b hb)⟩⟩)
    clear hp ba az b8;go_wp2;refine bodyPost_ret (v:=U_ #[S_ AO nO cO,B_ Y']) (by simp [results,results97,go_sem]) rfl HF.o
end Tw
end
section
namespace Ta
open Wo BigFrame
def zV: ∀(a b:List UInt8),Xl a b=decide (Xo a b<0)
 |_,[]=>by rename_i a;cases a<;>simp [Xl,Xo]
 |[],_::_=>by simp [Xl,Xo]
 |a::x,b::y=>by
  unfold Xl Xo;rw [zV x y];exact TP
def FB (a b:ByteArray):Xl a.toList b.toList=decide (Xv a b<0):=by
 rw [zV,XH,XH];rfl
structure eJ (r:Int) (l:List dq):Prop where
 r0:0<=r
 r1:r<=1099511627776
 len:l.length<=64
 each: ∀e∈l,gC e=Y'
 gQ:du.dY (eo l)
def Oh {p:Prop} (k:q) (h:Wq q->p:=by
 intro kq;refine wpQuiet_nil ?_;intro w3 V;have HZ:=Hd (HX.o _ V).2;have aB:Hid (Bw w1 w3):=(by
  have h1:Bw wr (wr.alloc (.cells #[qi,q1,q2,q3,q4,q5,q6,q7,q8,q9,ab,ao] 58)):=dL;exact bc.o.trans ((h1.trans (V.mono o_)).mono bc.o.size))
 revert w3 V HZ aB
 exact kq.o):p:=h ⟨k⟩
def wy (r:Int) (A:Option WY) (n c:Nat) (o0 o1 o2:Bool) (l:List dq) (w:Z') (h:Xw w w.heap.size 12 A n (dq.flat l)) (a1:l.length=n) (hS:eJ r l) (aO: ∀e∈l,e.ok):
  WX Xa 87 #[A_ (gF r A n c o0 o1 o2)] w λe w'=>e=R_ (B_ Y')/\Bw w w':=by
 have HB:WZ (Bw w (w.alloc (.cells (gF r A n c o0 o1 o2) 34))):=dL;have HK:WZ (XL (w.alloc (.cells (gF r A n c o0 o1 o2) 34)) w.heap.size 34 (gF r A n c o0 o1 o2)):=Xg;have H:=Hd h;have hr0:=hS.r0;have hr1:=hS.r1;have a3:=hS.len;have HE:=Hd hS.each;have HR:=Hd hS.gQ;have HO:=Hd aO;clear h hS aO;unfold gF at*;have m0:=HK.o.cell 0;have m1:=HK.o.cell 1;go_enter func87,ntmps87;go_wp2_with fail;clear m0 m1;generalize w.alloc (.cells #[r,S_ A n c,o0,o1,o2] 34)=w1 at*;go_loopw [22] (λvi wr=> ∃(k:Nat),k<=n/\vi=I_ J_ k/\WZ (Bw w1 wr)) (λi _=>n - (intOf i).toNat)
 .exact ⟨0,o_,rfl,Hd b_⟩
 .obtain ⟨k,hk,rfl,bc⟩:=hrel
  by_cases aa:k<n
  .have Hw:=Hd (HB.o.trans (bc.o.mono HB.o.size))
   obtain ⟨ad,hl,rfl,cj,bn,af⟩:=dq.at_ (H.o.below Hw.o) aa;have aw:=g_ hl;have HQ:=Hd (λX=>Fu l[k] X (HO.o _ aw));have he:=HE.o _ aw;rw [he] at HQ;have aP:=Hd af;have az:=Hd (show∀j (ay:j<l.length),k=j+1->Xl (l[j].dC.id).toList (l[k].dC.id).toList=Y' from λj ay hj=>by
    have:=List.pairwise_iff_getElem.1 HR.o j k (by simp [eo];omega) (by simp [eo];omega) o_;exact (by rw [FB];exact decide_eq_true (by simpa [eo] using this)))
   obtain ⟨x0,x1,x2,x3,x4,x5,x6,x7,x8,x9,O,U⟩:=af;have hw:=fh (n:=(k:Int)+1) o_ o_;clear he cj bn;unfold dq.arr at HQ;generalize l[k]=q at*;obtain ⟨⟨qi,q1,q2,q3,q4,q5,q6,q7,q8,q9,ab⟩,ao⟩:=q
   dsimp only at x0 x1 x2 x3 x4 x5 x6 x7 x8 x9 O U HQ az
   have HX:=Hd (show∀wx,Below (wr.heap.size+1) (wr.alloc (.cells #[qi,q1,q2,q3,q4,q5,q6,q7,q8,q9,ab,ao] 58)) wx->dq.At wx ⟨wr.heap.size,0,Y_⟩ ⟨⟨qi,q1,q2,q3,q4,q5,q6,q7,q8,q9,ab⟩,ao⟩/\Bw w wx from λwx F=>by
    have hk:=(Xg (w:=wr) (t:=58) (cs:= #[qi,q1,q2,q3,q4,q5,q6,q7,q8,q9,ab,ao])).a_ (by simpa using F);refine ⟨⟨hk.cell 0,hk.cell 1,hk.cell 2,hk.cell 3,hk.cell 4,hk.cell 5,hk.cell 6,hk.cell 7,hk.cell 8,hk.cell 9,hk.cell 10,hk.cell 11⟩,?_⟩;have h1:Bw wr (wr.alloc (.cells #[qi,q1,q2,q3,q4,q5,q6,q7,q8,q9,ab,ao] 58)):=dL;exact Hw.o.trans ((h1.trans (F.mono o_)).mono Hw.o.size))
   by_cases h0:0<k
   case neg=>
    go_upto_region 6 with fail;clear x0 x1 x2 x3 x4 x5 x6 x7 x8 x9 O U;refine wp_region_quiet (C:=λw'=>Below (wr.heap.size+1) (wr.alloc (.cells #[qi,q1,q2,q3,q4,q5,q6,q7,q8,q9,ab,ao] 58)) w') k_ k_ b_.drew ?_;refine wpQuiet_step (λK hK=>?_);go_simp;apply Xm;refine ⟨λwx F=>?_,hK _ ?_⟩;(obtain ⟨⟨x0,x1,x2,x3,x4,x5,x6,x7,x8,x9,O,U⟩,-⟩:=HX.o wx F;go_simp<;>rfl);clear hK K;refine wpQuiet_step (λK hK=>?_);go_simp;apply Xm;refine ⟨λwx F=>?_,hK _ ?_⟩;(refine (HQ.o wx).mono ?_;rintro e w2 ⟨rfl,aC⟩;exact ⟨rfl,F.trans (aC.mono (by have:=F.size;simpa using this))⟩);clear hK K
    iterate 19 (first|go_big_quiet_skip|(go_big_quiet_want;go_big_quiet_op;first|go_big_quiet_on|(apply Xm;refine ⟨λwx F=>?_,?_⟩;(obtain ⟨⟨x0,x1,x2,x3,x4,x5,x6,x7,x8,x9,O,U⟩,-⟩:=HX.o wx F;go_simp<;>rfl);go_big_quiet_on)))
    refine Oh ?_;intro w3 V HZ aB;clear V HX HQ Hw aP;exact zW
   case pos=>
    obtain ⟨j,hj⟩: ∃j,k=j+1:=⟨k - 1,o_⟩;have ay:j<l.length:=o_;have HP:=Hd (dq.at_ (H.o.below Hw.o) (show j<n by omega));have HL:=az.o j ay hj;have hw2:=fh (n:=(k:Int) - 1) o_ o_;have hj2:(k:Int) - 1=(j:Int):=o_;clear hj;let ⟨aV,hl2,aW,cj,bn,aN⟩:=HP.o;obtain rfl:ad=aV:=by simpa using aW
    have HY:=Hd (show∀wx,Below (wr.heap.size+1) (wr.alloc (.cells #[qi,q1,q2,q3,q4,q5,q6,q7,q8,q9,ab,ao] 58)) wx->(dq.At wx ⟨wr.heap.size,0,Y_⟩ ⟨⟨qi,q1,q2,q3,q4,q5,q6,q7,q8,q9,ab⟩,ao⟩/\Bw w wx)/\C wx w.heap.size 1 (S_ (X_ ad) n c)/\wx.cell? (ad.add (j*12))=X_ (T_ l[j].dC.id) from λwx F=>by
     have h1:=HX.o wx F;have h2:Bw wr (wr.alloc (.cells #[qi,q1,q2,q3,q4,q5,q6,q7,q8,q9,ab,ao] 58)):=dL;have h3:Bw w1 wx:=bc.o.trans ((h2.trans (F.mono o_)).mono bc.o.size);have h4:Bw w wx:=h1.2;exact ⟨h1,(HK.o.a_ h3).cell 1,by
      have:=(aN.below (h2.trans (F.mono o_)) (XK bn Hw.o.size)).c0;exact this⟩)
    generalize l[j].dC.id=pi at*;go_upto_region 6 with fail;clear x0 x1 x2 x3 x4 x5 x6 x7 x8 x9 O U;refine wp_region_quiet (C:=λw'=>Below (wr.heap.size+1) (wr.alloc (.cells #[qi,q1,q2,q3,q4,q5,q6,q7,q8,q9,ab,ao] 58)) w') k_ k_ b_.drew ?_;refine wpQuiet_step (λK hK=>?_);go_simp;apply Xm;refine ⟨λwx F=>?_,hK _ ?_⟩;(obtain ⟨⟨x0,x1,x2,x3,x4,x5,x6,x7,x8,x9,O,U⟩,-⟩:=HX.o wx F;go_simp<;>rfl);clear hK K;refine wpQuiet_step (λK hK=>?_);go_simp;apply Xm;refine ⟨λwx F=>?_,hK _ ?_⟩;(refine (HQ.o wx).mono ?_;rintro e w2 ⟨rfl,aC⟩;exact ⟨rfl,F.trans (aC.mono (by have:=F.size;simpa using this))⟩);clear hK K
    iterate 19 (first|go_big_quiet_skip|(go_big_quiet_want;go_big_quiet_op;first|go_big_quiet_on|(apply Xm;refine ⟨λwx F=>?_,?_⟩;(obtain ⟨⟨⟨x0,x1,x2,x3,x4,x5,x6,x7,x8,x9,O,U⟩,-⟩,y1,y0⟩:=HY.o wx F;go_simp<;>rfl);go_big_quiet_on)))
    refine Oh ?_;intro w3 V HZ aB;clear V HX HQ Hw aP HY HP HL az;exact zW
  .obtain rfl:k=n:=o_
   have Hw:=Hd (HB.o.trans (bc.o.mono HB.o.size));go_wp2;go_ret;exact ⟨rfl,Hw.o⟩
end Ta
end
section
open Wo
namespace Tw
def oh (o0 o1 o2:Bool) (p:dz):Option Int:=if p.fB then Y_ else if o0&&decide (SI.cls p=3) then X_ 0 else if o1 then X_ 1 else if o2 then X_ 2 else Y_
def jl (o0 o1 o2:Bool) (p:dz) (W:Z') (e:Ending) (w':Z'):Prop:=
 Bw W w'/\((oh o0 o1 o2 p=Y_/\e=R_ (U_ #[I_ J_ 0,B_ Z_]))\/ ∃i,oh o0 o1 o2 p=X_ i/\e=R_ (U_ #[I_ J_ i,B_ Y']))
def indexB (a b c:Bool) (X:Z') (k:Nat) (hk:k<3):(XF 32 (A_ #[a,b,c]) (I_ J_ k)).run Xa X= .ok (B_ (if k=0 then a else if k=1 then b else c)) X:=by
 exact Oc
def OF {p:Prop} (h:p:=by
 go_wp2_with fail;refine bodyPost_ret (v:=U_ #[I_ J_ 0,B_ false]) (by simp [results,results96,go_sem]) rfl HF):p:=h
def Hg (o0 o1 o2:Bool) (p:dz) (w:Z'):WX Xa 96 #[A_ #[o0,o1,o2],A_ p.arr] w (jl o0 o1 o2 p w):=by
 have ah:=Hd (λX=>SI.LZ p X);have al:=Hd (λX k hk=>indexB o0 o1 o2 X k hk);let ⟨PP,ar⟩:=nm p;rw [show jl o0 o1 o2 p w=jl o0 o1 o2 PP w by rw [ar]];have ae:WZ (oh o0 o1 o2 PP=if p.fB then Y_ else if o0&&decide (SI.cls p=3) then X_ 0 else if o1 then X_ 1 else if o2 then X_ 2 else Y_):=by rw [ar];rfl
 clear ar;obtain ⟨ag,G,I,aa,ab,af,U,ac,V,O,F⟩:=p;unfold XT at ah |-;unfold SI.tu at ah
 dsimp only at ah ae |-
 generalize SI.cls ⟨ag,G,I,aa,ab,af,U,ac,V,O,F⟩=cl at*;have ak:WZ (Bw w ((w.alloc (.cells #[o0,o1,o2] 32)).alloc (.cells #[ag,G,I,aa,ab,af,U,ac,V,O,F] 42))):=(dL).alloc y_ _;have ao:=Hd (show XL ((w.alloc (.cells #[o0,o1,o2] 32)).alloc (.cells #[ag,G,I,aa,ab,af,U,ac,V,O,F] 42)) (w.heap.size+1) 42 #[ag,G,I,aa,ab,af,U,ac,V,O,F] from by
  have:=Xg (w:=w.alloc (.cells #[o0,o1,o2] 32)) (t:=42) (cs:= #[ag,G,I,aa,ab,af,U,ac,V,O,F]);simpa using this)
 cases I with
 |true=>
  have HF:WZ (jl o0 o1 o2 PP w (R_ (U_ #[I_ J_ 0,B_ Z_])) ((w.alloc (.cells #[o0,o1,o2] 32)).alloc (.cells #[ag,G,B_ Y',aa,ab,af,U,ac,V,O,F] 42))):=⟨ak,.inl ⟨by rw [ae.o];rfl,rfl⟩⟩;clear ae al ah ao ak;go_enter func96,ntmps96;exact OF
 |false=>
  have aF:WZ ((o0&&decide (cl=3))=Z_->o1=Z_->o2=Z_-> ∀w',Bw w w'->jl o0 o1 o2 PP w (R_ (U_ #[I_ J_ 0,B_ Z_])) w'):=λh0 h1 h2 w' hb=>⟨hb,.inl ⟨by rw [ae.o,h0,h1,h2];rfl,rfl⟩⟩
  have aE:WZ ((o0&&decide (cl=3))=Y'-> ∀w',Bw w w'->jl o0 o1 o2 PP w (R_ (U_ #[I_ J_ 0,B_ Y'])) w'):=λh0 w' hb=>⟨hb,.inr ⟨0,by rw [ae.o,h0];rfl,rfl⟩⟩
  have aL:WZ ((o0&&decide (cl=3))=Z_->o1=Y'-> ∀w',Bw w w'->jl o0 o1 o2 PP w (R_ (U_ #[I_ J_ 1,B_ Y'])) w'):=λh0 h1 w' hb=>⟨hb,.inr ⟨1,by rw [ae.o,h0,h1];rfl,rfl⟩⟩
  have aN:WZ ((o0&&decide (cl=3))=Z_->o1=Z_->o2=Y'-> ∀w',Bw w w'->jl o0 o1 o2 PP w (R_ (U_ #[I_ J_ 2,B_ Y'])) w'):=λh0 h1 h2 w' hb=>⟨hb,.inr ⟨2,by rw [ae.o,h0,h1,h2];rfl,rfl⟩⟩
  clear ae;let ⟨w1,ai⟩:=nm ((w.alloc (.cells #[o0,o1,o2] 32)).alloc (.cells #[ag,G,B_ Z_,aa,ab,af,U,ac,V,O,F] 42));rw [<-ai] at ak ao;have aH:=Hd ai;clear ai;go_enter func96,ntmps96;go_wp2_with fail;rw [<-aH.o];go_loopw [11] (λvi wr=> ∃k:Nat,k<=3/\vi=I_ J_ k/\WZ (Bw w wr)/\WZ (XL wr (w.heap.size+1) 42 #[ag,G,B_ Z_,aa,ab,af,U,ac,V,O,F])/\WZ (1<=k->(o0&&decide (cl=3))=Z_)/\WZ (2<=k->o1=Z_)/\WZ (3<=k->o2=Z_)) (λi _=>3 - (intOf i).toNat)
  .exact ⟨0,o_,rfl,ak,ao,Hd (λh=>absurd h o_),Hd (λh=>absurd h o_),Hd (λh=>absurd h o_)⟩
  .obtain ⟨k,hk,rfl,HB,HP,E0,E1,E2⟩:=hrel
   have ap:k=0\/k=1\/k=2\/k=3:=o_;obtain rfl|rfl|rfl|rfl:=ap
   .have aD: ∀X:Z',(XF 32 (A_ #[o0,o1,o2]) (I_ J_ 0)).run Xa X= .ok (B_ o0) X:=λX=>al X 0 d_
    rw [show ((0:Nat):Int)=(0:Int) from rfl] at*;obtain ⟨e0,e1,e2,e3,e4,e5,e6,e7,e8,e9,az,-⟩:=kA HP;cases o0 with
    |false=>
     clear e0 e1 e2 e3 e4 e5 e6 e7 e8 e9 az;go_wp2;go_roundw
     .exact ⟨1,o_,rfl,HB,HP,Hd (by intros;trivial),Hd (λh=>absurd h o_),Hd (λh=>absurd h o_)⟩
     .simp [intOf]
    |true=>
     go_wp2_with fail;clear e0 e1 e2 e3 e4 e5 e6 e7 e8 e9 az;refine (ah _).mono ?_;rintro e w2 ⟨rfl,an⟩;have aB:=Hd (HB.trans (an.mono HB.size));have aM:=Hd (HP.a_ an);clear an;by_cases h3:cl=3
     .have HF:=Hd (aE (by rw [h3];rfl) _ aB)
      subst h3;go_wp2;refine bodyPost_ret (v:=U_ #[I_ J_ 0,B_ Y']) (by simp [results,results96,go_sem]) rfl HF
     .have HE:WZ ((Y'&&decide (cl=3))=Z_):=by rw [decide_eq_false h3];rfl
      have e3:(cl==3)=Z_:=beq_eq_false_iff_ne.2 h3;clear h3;go_wp2;go_roundw
      .exact ⟨1,o_,rfl,aB,aM,Hd (λ_=>HE),Hd (λh=>absurd h o_),Hd (λh=>absurd h o_)⟩
      .simp [intOf]
   .have aD: ∀X:Z',(XF 32 (A_ #[o0,o1,o2]) (I_ J_ 1)).run Xa X= .ok (B_ o1) X:=λX=>al X 1 d_
    rw [show ((1:Nat):Int)=(1:Int) from rfl] at*;cases o1 with
    |false=>
     go_wp2;go_roundw
     .exact ⟨2,o_,rfl,HB,HP,Hd (λ_=>E0 o_),Hd (by intros;trivial),Hd (λh=>absurd h o_)⟩
     .simp [intOf]
    |true=>
     have HF:=Hd (aL (E0 o_) rfl _ HB);go_wp2;refine bodyPost_ret (v:=U_ #[I_ J_ 1,B_ Y']) (by simp [results,results96,go_sem]) rfl HF
   .have aD: ∀X:Z',(XF 32 (A_ #[o0,o1,o2]) (I_ J_ 2)).run Xa X= .ok (B_ o2) X:=λX=>al X 2 d_
    rw [show ((2:Nat):Int)=(2:Int) from rfl] at*;cases o2 with
    |false=>
     go_wp2;go_roundw
     .exact ⟨3,o_,rfl,HB,HP,Hd (λ_=>E0 o_),Hd (λ_=>E1 o_),Hd (by intros;trivial)⟩
     .simp [intOf]
    |true=>
     have HF:=Hd (aN (E0 o_) (E1 o_) rfl _ HB);go_wp2;refine bodyPost_ret (v:=U_ #[I_ J_ 2,B_ Y']) (by simp [results,results96,go_sem]) rfl HF
   .rw [show ((3:Nat):Int)=(3:Int) from rfl] at*
    have HF:=Hd (aF (E0 o_) (E1 o_) (E2 o_) _ HB);exact OF
def Um (x:dq) (s:ByteArray) (g:Nat) (w:Z') (V:g<w.heap.size) (hc:w.cell? ⟨g,0,Y_⟩=X_ (T_ s)):
  WX Xa 95 #[A_ x.arr,P_ (X_ ⟨g,0,Y_⟩)] w λe w'=>e=R_ (B_ (Xv x.dC.id s==0))/\Bw w w':=by
 have I:WZ (Bw w (w.alloc (.cells x.arr 58))):=dL;have c1:(w.alloc (.cells x.arr 58)).cell? ⟨g,0,Y_⟩=X_ (T_ s):=(World.cell?_alloc_lt w _ ⟨g,0,Y_⟩ V).trans hc;clear hc;obtain ⟨⟨id,U,O,r0,r1,r2,l0,l1,l2,eO,size⟩,ph⟩:=x;unfold dq.arr at I c1 |-
 dsimp only at I c1 |-
 by_cases F:id=s
 .have X:(id.toList==s.toList)=Y':=by rw [F];simp
  have G:(Xv id s==0)=Y':=by rw [F,du.iT];rfl
  rw [G];clear F G;go_enter func95,ntmps95;go_wp2;go_ret;exact ⟨rfl,I⟩
 .have X:(id.toList==s.toList)=Z_:=beq_eq_false_iff_ne.2 (λe=>F (Ta.oX e))
  have G:(Xv id s==0)=Z_:=beq_eq_false_iff_ne.2 (λe=>F ((du.cmp_eq _ _).1 e));rw [G];clear F G;go_enter func95,ntmps95;go_wp2;go_ret;exact ⟨rfl,I⟩
def uV (l:List dq) (s:ByteArray) (W:Z') (e:Ending) (w':Z'):Prop:=Bw W w'/\ ∃r:Int,e=R_ (I_ J_ r)/\(decide (0<=r)=Xj (eo l) s)
def QX (A:Option WY) (n c:Nat) (l:List dq) (s:ByteArray) (g:Nat) (w:Z') (h:Xw w w.heap.size 12 A n (dq.flat l)) (F:l.length=n) (hn:n<=1000) (hg:g<w.heap.size) (hc:w.cell? ⟨g,0,Y_⟩=X_ (T_ s)):
  WX Xa 151 #[S_ A n c,.func (.func 95) #[] #[P_ (X_ ⟨g,0,Y_⟩)]] w (uV l s w):=by
 have H:=Hd h;have HL:=Hd F;have HG:=Hd (XS hg hc);clear h F hg hc;go_enter func151,ntmps151;go_wp2;go_loopw [8] (λvi wr=> ∃k:Nat,k<=n/\vi=I_ J_ k/\WZ (Bw w wr)/\WZ (∀(j:Nat) (O:j<l.length),j<k->(Xv l[j].dC.id s==0)=Z_)) (λi _=>n - (intOf i).toNat)
 .exact ⟨0,o_,rfl,Hd b_,Hd (λj _ h=>absurd h o_)⟩
 .obtain ⟨k,hk,rfl,I,HD⟩:=hrel
  by_cases ag:k<n
  .obtain ⟨ad,hl,rfl,ab,U,af⟩:=dq.at_ (H.below I) ag
   have V:=Hd (λX (hX:Bw w X)=>Um l[k] s g X (XK HG.1 hX.size) ((hX.cell (p:=⟨g,0,Y_⟩) HG.1).trans HG.2));have aa:WZ ((Xv l[k].dC.id s==0)=Z_-> ∀(j:Nat) (O:j<l.length),j<k+1->(Xv l[j].dC.id s==0)=Z_):=λh j O h2=>by
    by_cases h3:j<k
    .exact HD j O h3
    .obtain rfl:j=k:=o_
     exact h
   have HY:WZ ((Xv l[k].dC.id s==0)=Y'->Xj (eo l) s=Y'):=λh=>du.fO.2 (XM.2 ⟨l[k],g_ hl,(du.cmp_eq _ _).1 (by simpa using h)⟩)
   generalize (Xv l[k].dC.id s==0)=b at*;unfold dq.arr at V;generalize l[k]=q at*;obtain ⟨⟨id,ao,ai,r0,r1,r2,l0,l1,l2,eO,size⟩,ph⟩:=q;obtain ⟨c0,c1,c2,c3,c4,c5,c6,c7,c8,c9,lM,pv⟩:=af
   dsimp only at c0 c1 c2 c3 c4 c5 c6 c7 c8 c9 lM pv V
   refine lI ?_;intro hw;clear ab U;go_wp2_with fail;refine (V _ ?lit).mono ?_
   .first|exact I|exact I.alloc I.size _
   rintro e w2 ⟨rfl,G⟩;have H2:WZ (Bw w w2):=by first|exact I.trans (G.mono I.size)|exact (I.alloc I.size _).trans (G.mono (by have:=I.o.size;simp;omega))
   clear G c0 c1 c2 c3 c4 c5 c6 c7 c8 c9 lM pv V;cases b with
   |true=>
    have HF:WZ (uV l s w (R_ (I_ J_ k)) w2):=⟨H2,k,rfl,by rw [HY.o rfl];exact dT⟩;go_wp2;go_ret;exact HF
   |false=>
    have ae:=Hd (aa rfl);exact GA
  .obtain rfl:k=n:=o_
   have HF:WZ (uV l s w (R_ (I_ J_ (-1))) wr):=⟨I,-1,rfl,by
    cases hh:Xj (eo l) s
    .rfl
    .let ⟨e,he,hs⟩:=XM.1 (du.fO.1 hh)
     obtain ⟨j,O,rfl⟩:=List.getElem_of_mem he;have h5:=HD j O (by have:=HL.o;omega);rw [hs,du.iT] at h5;cases h5⟩
   go_wp2;go_ret;exact HF
def QY (A:Option WY) (n c:Nat) (l:List dq) (s:ByteArray) (g:Nat) (w:Z') (h:Xw w w.heap.size 12 A n (dq.flat l)) (F:l.length=n) (hn:n<=1000) (hg:g<w.heap.size) (hc:w.cell? ⟨g,0,Y_⟩=X_ (T_ s)):
  WX Xa 94 #[S_ A n c,.func (.func 95) #[] #[P_ (X_ ⟨g,0,Y_⟩)]] w λe w'=>e=R_ (B_ (Xj (eo l) s))/\Bw w w':=by
 have H:=Hd (QX A n c l s g w h F hn hg hc);clear h hg hc;go_enter func94,ntmps94;go_wp2_with fail;refine H.mono ?_;rintro e w2 ⟨(U:WZ _),r,rfl,(V:WZ _)⟩;clear H;go_wp2;go_ret;exact ⟨by rw [<-V.o];rfl,U⟩
end Tw
end
end Go.Proofs.YtkidababfdehlaaGreatDoor
