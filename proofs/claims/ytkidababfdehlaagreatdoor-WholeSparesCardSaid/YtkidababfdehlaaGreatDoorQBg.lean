/- bilgetop.WholeSpares: for every input the call returns true, and what came in reads as it did; the package variables that the row lists start as the program's text lays them. -/
import Derived.Test.YtkidababfdehlaaGreatDoorQBf
import Derived.Test.YtkidababfdehlaaGreatDoorQAv
import Derived.Test.YtkidababfdehlaaGreatDoorQAy
import Derived.Test.YtkidababfdehlaaGreatDoorTie
import Derived.Test.YtkidababfdehlaaGreatDoorCards
import Derived.LaidMore
import Derived.Lay
import Derived.HandedShaped
import Derived.Lib.LaidU8
import Derived.SevenTiedAt
set_option linter.all false
set_option maxRecDepth 100000
set_option maxHeartbeats 1000000
namespace Go.Proofs.YtkidababfdehlaaGreatDoor.fV
open Value renaming int -> I_,bool -> B_,string -> T_,slice -> S_,pointer -> P_,tuple -> U_,agg -> A_
open IntKind renaming i64 -> J_
open Ending renaming returned -> R_
open _root_.Go.Proofs.Tryz
open Go.ChangeShapes Go.WideShapes Go.ChangeAt Go.RowKit
theorem own:ownKnob prog.godebug=none:=k_
theorem laidOut:laidOutB prog=true:=k_
theorem handed {H:Type} {enc:TypeId×Value->H} {a:Assume} {C:Checked} {os:Os} {f:FuncId} {fn:Func} {s:ChangeSpec} {ac:List PathCond} {apart ab I V:Bool} {X:World->Array Value->Prop}
  (hX: ∀(w w':World) (args:Array Value),w.heap=w'.heap->X w args->X w' args)
  (own:ownKnob C.prog.godebug=none) (aa:os.Started) (af:C.prog.inits.idxOf? f=none) (am:C.prog.funcs[f]?=some fn)
  (U: ∃(w:World) (F:Tape) (i:Input),w.os=os/\(w.forCall F i).Shaped C.prog/\i.vars=[]/\Input.okWide C.prog (w.forCall F i) .any w.heap.size f i/\
   ((s.pre enc C.prog fn ac apart (w.forCall F i).memory i.args/\X (w.forCall F i).memory i.args)/\sizedMet enc C.prog fn (OpenSpec.ofChange s) apart (w.forCall F i).memory i.args)/\a.holds C.prog (lone (Frame.enter C.prog f i.args .normal) [] (w.forCall F i)))
  (O: ∀(W:World) (base:Nat) (args:Array Value) (ds gs:List (DataW H)) (G:List MemPlace),
   (∀(j:Nat) t v,fn.params[j]?=some t->args[j]?=some v->Value.okWide C.prog W .any base t v)->
   DataW.Whole enc C.prog fn.params.toList s.vars apart W args.toList ds gs G->X W args->W.ShapedOpen C.prog->
   Calls C.prog f args W λe W'=> ∃v,e= .returned v/\s.post enc C.prog fn apart ab I V W args v W'):
  ReturnsInHanded a C os f .any (λw args=>(s.pre enc C.prog fn ac apart w args/\X w args)/\sizedMet enc C.prog fn (OpenSpec.ofChange s) apart w args) (s.post enc C.prog fn apart ab I V):=by
 exact VE
theorem gl {W:World} (h:laidMetH prog Rows.wholeSparesRow.laid W) (hs:W.ShapedOpen prog):Tq.Gl W:=by
 exact VF
theorem JK (H:Type) (F:List (DataW H)) (h:F.length=2):(Rows.wholeSparesSpec.fn H F).results=[.lit (.bool true)]/\(Rows.wholeSparesSpec.fn H F).args=F/\(Rows.wholeSparesSpec.fn H F).vars=[]:=by
 match F,h with
 |[d1,d2],_=>exact ⟨rfl,rfl,rfl⟩
theorem walk (O v2:Value) (W:World) (U:Frame.Arg prog W 25 O) (V:Frame.Arg prog W 26 v2) (X:Tq.Gl W):
  Calls prog 3 #[O,v2] W λe W'=>e= .returned (.bool true)/\Bw W W':=by
 obtain ⟨p,dD,rfl,hp⟩:=ef.Pz U;obtain ⟨A,n,c,l,rfl,F,I,G,hl,hs⟩:=dI.of_slice V;exact Nd.Ed p dD A n c l W hp hs hl G (Nat.le_trans F I) X
theorem BJ (W:World) (vs:List Value) (hn:vs.length=2) (h:Frame.Ee prog W f3.params.toList vs) (F:Tq.Gl W):
  Calls prog 3 vs.toArray W λe w'=>e= .returned (.bool true)/\Bw W w':=by
 rw [params3] at h
 match vs,hn,h with
 |[v1,v2],_,⟨h1,h2,_⟩=>exact walk v1 v2 W h1 h2 F
theorem Ef (W:World) (args:Array Value) (hn:args.size=2) (h:Frame.Ee prog W f3.params.toList args.toList) (F:Tq.Gl W):
  Calls prog 3 args W λe w'=>e= .returned (.bool true)/\Bw W w':=by
 obtain ⟨l⟩:=args;exact BJ W l hn h F
theorem lifted (os:Os) (F:os.Started) (H:Type) (enc:TypeId×Value->H):
  ReturnsInHanded {} Tryz.checked os 3 .any (λw args=>(Rows.wholeSparesSpec.pre enc prog f3 [] false w args/\laidMetH prog Rows.wholeSparesRow.laid w)/\sizedMet enc prog f3 (OpenSpec.ofChange Rows.wholeSparesSpec) false w args)
   (Rows.wholeSparesSpec.post enc prog f3 false true false false):=by
 refine handed (C:=Tryz.checked) (X:=λw _=>laidMetH prog Rows.wholeSparesRow.laid w) (λ_ _ _ hh h=>h.of_heap hh) own F k_ func3
  (ChangeSpec.witness_shaped (enc:=enc) (C:=Tryz.checked) (os:=os) (X:=λw _=>laidMetH prog Rows.wholeSparesRow.laid w) false (World.laidAll prog os Rows.wholeSparesRow.laid) #[.agg #[.int .i64 0,.int .i64 0,.int .i64 0,.int .i64 0,.int .i64 0,.int .i64 0,.slice none 0 0,.int .i64 0,.int .i64 0,.int .i64 0,.int .i64 0],.slice none 0 0] 8 (World.laidAll_os _ _ _)
   (World.shaped_of_ZipB k_ k_) k_ k_ k_
   (by rw [MakeChecks.laidMetH_plain _ _ _ k_];exact laidMet_laidAll _ k_ k_)) ?_
 exact SK
theorem over:Rows.wholeSparesRow.holds Tryz.pinned (OpenSpec.ofChange Rows.wholeSparesSpec):=
 OpenClaim.holds_of_wide 3 f3 rfl rfl rfl rfl rfl rfl rfl ⟨rfl,rfl,rfl,rfl,rfl⟩ rfl rfl rfl rfl rfl k_ func3 facts
  (of_decide_eq_true k_) (by unfold Func.isWrapper;first|(rw [if_pos (by decide+kernel)];kernel_rfl)|(rw [if_neg (by decide+kernel)];exact ⟨rfl,rfl⟩))
  (λos started H enc _=>lifted os started H enc)
theorem proved:Rows.WholeSparesCardSaid:=
 Claim7.holds_tied_plain_at .later [] [.data,.data,.data,.data,.sentinel,.sentinel,.pinned] true (true,"5f94af990df03fb4a58139e1586ff3b1a5204447e7cec62d2c15cd250999b105") true over (λ_ h=>by cases h) k_ (λ_ h=>by cases h) wholeSpares_row_tie rfl ⟨rfl,rfl⟩ k_ rfl
  (λf fn hf hfn=>by
   obtain rfl:f=3:=q_ ((show prog.funcNamed "bilge/bilgetop.WholeSpares"=some 3 by kernel_rfl).symm.trans hf)|>.symm
   obtain rfl:fn=f3:=(q_ (func3.symm.trans hfn)).symm;exact ⟨k_,λj t ht=>by
    rw [params3] at ht;have hm:t∈[25,26]:=by simpa using Array.mem_of_getElem? ht
    have hall:([25,26].all λu=> !prog.wantsStandIn u)=true:=k_;exact (show prog.wantsStandIn t=false by simpa using List.all_eq_true.1 hall t hm)⟩)
  goes
end Go.Proofs.YtkidababfdehlaaGreatDoor.fV
