/-
  For every input 'dovetaillaw06.CodecShipped' returns true, and what came in reads as it did; the listed tables are tied to the program's text.
-/
import Derived.Test.YtcogcbplmkcojaaGreatDoorKTB
import Derived.Test.YtcogcbplmkcojaaGreatDoorCards
import Derived.Test.YtcogcbplmkcojaaGreatDoorTie
import Derived.ProofKit
import Derived.OpenShut
import Derived.LaidMore
import Derived.Lay
import Derived.SevenTiedAt
import Derived.Stop.Joined
namespace Go.Proofs.YtcogcbplmkcojaaGreatDoor.codecShipped
open Go.ChangeShapes Go.WideShapes Go.ChangeAt Go.RowKit
set_option linter.unusedVariables false
set_option maxRecDepth 100000
theorem own:ownKnob Tryz.prog.godebug=none:=by kernel_rfl
theorem laidB:laidOutB Tryz.prog=true:=by kernel_rfl
theorem plain:qV Tryz.prog [3,40,5]=true:=by kernel_rfl
def laid:List (String×DataW Unit):=Rows.codecShippedRow.laid
theorem lifted(os:Os)(started:os.Started)(H:Type)(enc:TypeId×Value→H):
 ReturnsInHanded {} Tryz.checked os 7 .any (fun w args=>(Rows.codecShippedSpec.pre enc Tryz.prog Tryz.f7 [] false w args∧laidMetH Tryz.prog laid w)∧sizedMet enc Tryz.prog Tryz.f7 (OpenSpec.ofChange Rows.codecShippedSpec) false w args)
  (Rows.codecShippedSpec.post enc Tryz.prog Tryz.f7 false true false false):=by
 refine returnsInHanded_of_change_and (C:=Tryz.checked) (X:=fun w _=>laidMetH Tryz.prog laid w) (fun _ _ _ hh h=>h.of_heap hh) own started (by kernel_rfl) Tryz.func7
  (ChangeSpec.witness_shaped (enc:=enc) (C:=Tryz.checked) (os:=os) (X:=fun w _=>laidMetH Tryz.prog laid w) false (World.laidAll Tryz.prog os laid) #[.int .i64 0,.slice none 0 0] 8 (World.laidAll_os _ _ _)
   (World.shaped_of_ZipB (by kernel_rfl) (by kernel_rfl)) (by kernel_rfl) (by kernel_rfl) (by kernel_rfl)
   (by rw[MakeChecks.laidMetH_plain _ _ _ (by kernel_rfl)];exact laidMet_laidAll _ (by kernel_rfl) (by kernel_rfl))) ?_
 intro W base args ds gs before O8 hW hc V5 hL _
 have fE:∀(j:Nat) t v,Tryz.f7.params[j]?=some t→args[j]?=some v→Value.okWide Tryz.prog W .any base t v:=O8
 have uU:=hW
 obtain⟨p,q,LA,hV,rfl,ZF,vM⟩:=hW
 have hA:DataW.TrodAll enc Tryz.prog W 0 (fun _=>true) true Tryz.f7.params.toList args.toList ds p:=LA
 rw[Tryz.params7]at hA fE
 obtain⟨v0,UU,d0,ZS,p0,q0,gS,rfl,rfl,h0,r0⟩:=trodAll_cons hA
 obtain⟨v1,Zk,d1,ZR,p1,q1,rfl,rfl,rfl,h1,r1⟩:=trodAll_cons r0
 obtain⟨rfl,rfl,rfl⟩:=trodAll_nil r1
 obtain rfl:args= #[v0,v1]:=by cases args;simp_all
 obtain⟨rfl,rfl⟩:=trodVars_none hV
 have np:∀n∈DataW.weightsEach Tryz.prog [3,40] [d0,d1],n≤reachBytes:=fun n hn=>by
  have:=List.all_eq_true.1 V5 n hn
  simpa using this
 obtain⟨l0,np⟩:=yP np
 obtain⟨c0,t0,x0⟩:=Di plain (t:= 3) (by decide) (fE 0 3 v0 rfl rfl) h0 l0
 obtain⟨l1,np⟩:=yP np
 obtain⟨c1,t1,x1⟩:=Di plain (t:= 40) (by decide) (fE 1 40 v1 rfl rfl) h1 l1
 clear LA O8
 refine(φ.calls (OB c0 t0 c1 t1) ⟨_,Tryz.func7,rfl,rfl⟩ (w:=W) (vs:= #[v0,v1]) rfl fun i t v hi hv=> ?_).mono fun e W' ⟨he,Mh⟩=> ?_
 ·match i with
  |0=>cases hi;cases hv;exact x0
  |1=>cases hi;cases hv;exact x1
  |i+2=>simp at hi
 subst he
 exact⟨_,rfl,_,_,_,[],_,[],uU,trodAll_mk1 (shut_bool Tryz.underlying4 _),(trodAll_cons_mk (Below.trod laidB (by kernel_rfl) (of_decide_eq_true (by kernel_rfl)) h0 Mh (CE h0)) (trodAll_cons_mk (Below.trod laidB (by kernel_rfl) (of_decide_eq_true (by kernel_rfl)) h1 Mh (CE h1)) trodAll_mk0)),rfl,Mh.frame _,fun h=>by cases h⟩
theorem over:Rows.codecShippedRow.holds Tryz.pinned (OpenSpec.ofChange Rows.codecShippedSpec):=
 OpenClaim.holds_of_wide 7 Tryz.f7 rfl rfl rfl rfl rfl rfl rfl ⟨rfl,rfl,rfl,rfl,rfl⟩ rfl rfl rfl rfl rfl (by kernel_rfl) Tryz.func7 (by kernel_rfl)
  (of_decide_eq_true (by kernel_rfl)) (by unfold Func.isWrapper;first|(rw[if_pos (by decide+kernel)];kernel_rfl)|(rw[if_neg (by decide+kernel)];exact⟨rfl,rfl⟩))
  (fun os started H enc _=>lifted os started H enc)
theorem proved:Rows.CodecShippedCardSaid:=
 Claim7.holds_tied_plain_at .later [] [.data,.pinned] true (true, "20233e931761ae318cc329d5b6025c11ae89f3db9a16458e0776081893da373e") false
  over (fun _ h=>by cases h) (by kernel_rfl) (fun _ h=>by cases h) codecShipped_row_tie rfl ⟨rfl,rfl⟩ (by kernel_rfl) rfl
  (fun f fn hf Vn=>by
   obtain rfl:f= 7 :=Option.some.inj ((show Tryz.prog.funcNamed "dovetail/dovetaillaw06.CodecShipped" =some 7 by kernel_rfl).symm.trans hf) |>.symm
   obtain rfl:fn=Tryz.f7 :=(Option.some.inj (Tryz.func7.symm.trans Vn)).symm
   exact⟨by kernel_rfl,fun j t ht=>by
    rw[Tryz.params7]at ht
    match j,ht with
    |0,ht=>
     obtain rfl:=Option.some.inj (show some (3)=some t from ht)
     show Tryz.prog.wantsStandIn 3 =false
     kernel_rfl
    |1,ht=>
     obtain rfl:=Option.some.inj (show some (40)=some t from ht)
     show Tryz.prog.wantsStandIn 40 =false
     kernel_rfl
    |i+2,ht=>simp at ht⟩)
  (by kernel_rfl)
end Go.Proofs.YtcogcbplmkcojaaGreatDoor.codecShipped
