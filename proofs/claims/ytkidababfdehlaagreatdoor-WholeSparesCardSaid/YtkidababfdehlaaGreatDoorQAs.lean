/- Parts of the walk. -/
import Derived.Test.YtkidababfdehlaaGreatDoorQAc
set_option linter.all false
set_option maxRecDepth 100000
set_option maxHeartbeats 64000000
namespace Go.Proofs.YtkidababfdehlaaGreatDoor
open Value renaming int -> I_,bool -> B_,string -> T_,slice -> S_,pointer -> P_,tuple -> U_,agg -> A_
open IntKind renaming i64 -> J_
open Ending renaming returned -> R_
open Option renaming some -> X_,none -> Y_
open Go renaming World -> Y'
open UInt8 renaming ofNat -> Z_
open List renaming foldl_cons -> Z'
variable {l:List UInt8} {F I c n off:Nat} {w:Y'}
section
namespace Tp
def iG (n:Nat):UInt8:=Z_ (n%256)
def ja (n:Nat):List UInt8:=[iG (n/72057594037927936),iG (n/281474976710656),iG (n/1099511627776),iG (n/4294967296),iG (n/16777216),iG (n/65536),iG (n/256),iG n]
def Vz (l:List UInt8):Nat:=l.foldl (λa c=>a*256+c.toNat) 0
def ll (n:Nat):(iG n).toNat=n%256:=by
 unfold iG;rw [UInt8.toNat_ofNat'];omega
def Og (h:n<18446744073709551616):Vz (ja n)=n:=by
 unfold Vz ja;simp only [Z',List.foldl_nil,ll];omega
def eL (n:Nat):(ja n).length=8:=rfl
def Qg (l:List UInt8):List UInt8:=iG l.length::l
def dO: ∀l:List Nat,((l.map ja).flatten).length=8*l.length
 |[]=>rfl
 |n::l=>by
  show (ja n++(l.map ja).flatten).length=_
  rw [List.length_append,dO l,eL,List.length_cons];omega
end Tp
end
section
open _root_.Go.Proofs.Tryz Go.RowKit Wo Tx
namespace Rd
def MJ (gb off c i:Nat):Option Addr:=if c=i then X_ ⟨gb,off,Y_⟩ else X_ ⟨gb,off+i,Y_⟩
abbrev iv (w:Y') (A:Option Addr) (n c:Nat) (l:List UInt8):Prop:=Ro.Row w 5 1 A n c (l.map uv)
def iv.drop (h:iv w (X_ ⟨F,off,Y_⟩) n c l) (i:Nat) (G:i<=n):iv w (MJ F off c i) (n - i) (c - i) (l.drop i):=by
 have:=Ro.Row.from_ h i G;rw [Nat.mul_one] at this;unfold MJ
 show Ro.Row _ _ _ _ _ _ _
 rw [List.map_drop];exact this
def ko (g I off n c:Nat) (x:UInt8) (l:List UInt8) (w:Y') (h:Mem.c_ w g 179 #[S_ (X_ ⟨I,off,Y_⟩) (n+1) c,B_ false]) (O:iv w (X_ ⟨I,off,Y_⟩) (n+1) c (x::l)) (hn:n<=1000000):
  Calls prog 85 #[P_ (X_ ⟨g,0,Y_⟩)] w λe w'=>e=R_ (I_ J_ x.toNat)/\w'=w.setCell ⟨g,0,Y_⟩ (S_ (MJ I off c 1) n (c - 1)):=by
 obtain ⟨m0,m1,-⟩:=kA h;have f0:=h.frozen 0;have u0:C w I off (.int .u8 x.toNat):=O.cell 0 y_;have G:=O.le;have hc:n+1<=c:=G.1;have hz:((n+1:Nat):Int)=(n:Int)+1:=o_;have hz1:(((n:Int)+1)==0)=false:=beq_eq_false_iff_ne.2 o_;have hb:=x.toNat_lt;have hwx:IntKind.i64.wrap (x.toNat:Int)=(x.toNat:Int):=Ta.fh o_ o_;clear h O G;unfold MJ;by_cases F:c=1
 .obtain rfl:n=0:=o_
  subst F;go_enter func85,ntmps85;exact lH
 .have e1:(c=1)=False:=eq_false F
  rw [if_neg F];go_enter func85,ntmps85;exact lH
def fold_push: ∀(l:List UInt8) (acc:ByteArray),(l.map λx:UInt8=>(x.toNat:Int)).foldl (λr n=>r.push (Z_ n.toNat)) acc=⟨acc.data++l.toArray⟩
 |[],acc=>by simp
 |x::l,acc=>by
  rw [List.map_cons,Z',fold_push l];have:Z_ ((x.toNat:Int)).toNat=x:=by simp
  rw [this];simp [ByteArray.push]
def RH (h:iv w (X_ ⟨I,off,Y_⟩) n c l):(convert 65 9 (S_ (X_ ⟨I,off,Y_⟩) n c)).run prog w= .ok (T_ (str l)) w:=by
 have F:l.length=n:=by have:=h.len;simpa using this
 rw [run_convert_bytes_string w 65 9 5 _ _ _ underlying65 underlying5 underlying9];rw [run_bytesToString w ⟨I,off,Y_⟩ n c (l.map λx:UInt8=>(x.toNat:Int))]
 .rw [fold_push]
  simp [str]
 .have hc:=run_loadCells_list (P:=prog) (w:=w) ⟨I,off,Y_⟩ (l.map uv) (λj v O=>by
   have G:j<(l.map uv).length:=(List.getElem?_eq_some_iff.1 O).1;rw [Addr.add_lit,h.cell j G];rw [List.getElem?_eq_getElem G] at O;exact O)
  rw [List.length_map,F] at hc;rw [hc,List.map_map];rfl
def qC (I off n c:Nat) (x:UInt8) (a l:List UInt8) (w:Y') (O:iv w (X_ ⟨I,off,Y_⟩) n c (x::(a++l))) (hx:a.length=x.toNat) (hl:0<l.length) (hn:n<=1000000):
  Calls prog 208 #[S_ (X_ ⟨I,off,Y_⟩) n c] w λe w'=>e=R_ (U_ #[T_ (str a),S_ (X_ ⟨I,off+(a.length+1),Y_⟩) (n - (a.length+1)) (c - (a.length+1)),B_ true])/\Bw w w':=by
 have af:a.length+l.length+1=n:=by have:=O.len;simp at this;omega
 have u0:C w I off (.int .u8 x.toNat):=O.cell 0 y_;have G:=O.le;have hb:=x.toNat_lt;have V:IntKind.i64.wrap (x.toNat:Int)=(x.toNat:Int):=Ta.fh o_ o_;have ac:IntKind.i64.wrap ((x.toNat:Int)+1)=(x.toNat:Int)+1:=Ta.fh o_ o_;have hge:decide ((n:Int)<=(x.toNat:Int))=false:=dF;have hz1:((n:Int)==0)=false:=beq_eq_false_iff_ne.2 o_;have U: ∀X,Bw w X->(convert 65 9 (S_ (X_ ⟨I,off+1,Y_⟩) x.toNat (c - 1))).run prog X= .ok (T_ (str a)) X:=λX hX=>by
  have aa:=(O.drop 1 o_).cut x.toNat o_;rw [Nat.mul_one] at aa;rw [show ((x::(a++l)).drop 1).map uv=(a++l).map uv from rfl,<-List.map_take,<-hx,List.take_left] at aa;unfold MJ at aa;rw [if_neg o_] at aa;rw [hx] at aa;exact RH (show iv X _ _ _ _ from aa.dy λb hb=>hX.block b (aa.lt hb))
 have ab:=Hd U;have hc1: ¬c=1:=o_;have hc2: ¬c=x.toNat+1:=o_;rw [hx];clear O U;go_enter func208,ntmps208;go_upto_region 4 with fail;refine dm.start (S:=λwx=>Bw w wx) k_ ?_;refine dm.tk 0 b_.drew [0,1,2,3,4,5,6,7,8,9] ?_
 iterate 10 (refine dm.dG rfl (λK' F=>?_);go_simp;(first|(refine F _ ?_;clear F K')|(apply Exists.intro;refine ⟨λwx V=>?_,F _ ?_⟩;(have hcv:=ab wx V;go_simp;first|done|rfl|(rw [if_pos o_,if_pos o_])|(rw [if_pos o_]));clear F K')))
 refine dm.ee ?_;refine dm.fi ?_;have HB:=Hd (Below.refl w.heap.size w).drew;go_wp2;refine bodyPost_ret (v:=U_ #[T_ (str a),S_ (X_ ⟨I,off+(x.toNat+1),Y_⟩) (n - (x.toNat+1)) (c - (x.toNat+1)),B_ true]) (by simp [results,results208,go_sem]) rfl ⟨rfl,HB⟩
def oM (g:Nat):Array Value:= #[P_ (X_ ⟨g,1,Y_⟩),P_ (X_ ⟨g,10,Y_⟩),P_ (X_ ⟨g,3,Y_⟩),P_ (X_ ⟨g,4,Y_⟩),P_ (X_ ⟨g,5,Y_⟩),P_ (X_ ⟨g,6,Y_⟩),P_ (X_ ⟨g,7,Y_⟩),P_ (X_ ⟨g,8,Y_⟩)]
def tF (g:Nat) (w:Y'):Calls prog 209 #[P_ (X_ ⟨g,0,Y_⟩)] w λe w'=>e=R_ (S_ (X_ ⟨w.heap.size,0,Y_⟩) 8 8)/\w'=w.drew.alloc (.cells (oM g) 168):=by
 unfold oM;go_enter func209,ntmps209;go_upto_region 1 with fail;refine dm.start (S:=λ_=>True) k_ ?_;refine dm.tg 2 trivial (u_ 0 30) ?_;refine dm.on 30 1 ?_;refine dm.val rfl rfl (v:=S_ (X_ ⟨w.heap.size,0,Y_⟩) 8 8) (w':=w.drew.alloc (.cells #[P_ (X_ ⟨g,1,Y_⟩),P_ (X_ ⟨g,10,Y_⟩),P_ (X_ ⟨g,3,Y_⟩),P_ (X_ ⟨g,4,Y_⟩),P_ (X_ ⟨g,5,Y_⟩),P_ (X_ ⟨g,6,Y_⟩),P_ (X_ ⟨g,7,Y_⟩),P_ (X_ ⟨g,8,Y_⟩)] 168)) f_ trivial ?_;refine dm.tg 0 trivial [31] ?_;refine dm.fi ?_;exact lH
end Rd
end
end Go.Proofs.YtkidababfdehlaaGreatDoor
