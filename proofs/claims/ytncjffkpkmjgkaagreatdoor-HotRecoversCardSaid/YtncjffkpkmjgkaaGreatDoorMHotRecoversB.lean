/- Facts of the row of the statement HotRecovers of chapter 10 holds for every input: the call returns true and leaves its arguments as they were. -/
import Derived.Test.YtncjffkpkmjgkaaGreatDoorCards
import Derived.Test.YtncjffkpkmjgkaaGreatDoorTie
import Derived.ProofKit
import Derived.OpenShut
import Derived.LaidMore
import Derived.Deep.DeepWitnessRowRef

/-! HotRecoversFacts -/
namespace Go.Proofs.YtncjffkpkmjgkaaGreatDoor.hotRecovers
open Go.ChangeShapes Go.WideShapes Go.ChangeAt Go.RowKit
set_option linter.unusedVariables false
theorem own : ownKnob Tryz.prog.godebug = none := by kernel_rfl
theorem laidOut : laidOutB Tryz.prog = true := by kernel_rfl

theorem door_met (os : Os) (args : Array Value) : laidMetH Tryz.prog Rows.hotRecoversRow.laid ((World.doorLaid Tryz.prog 400 os).forCall (fun _ _ => 0) ⟨#[], args, []⟩).memory :=
  laidMetH_of_parts3 (fuel := 8) (laidMet_of_run' 8 (by kernel_rfl) (by kernel_rfl)) (by kernel_rfl) (by kernel_rfl)

theorem reads (os : Os) {H : Type} (enc : TypeId × Value → H) : ∃ places, DataW.whole enc Tryz.prog ((World.doorLaid Tryz.prog 400 os).forCall (fun _ _ => 0) ⟨#[], #[.slice none 0 0, .int .i64 0, .int .i64 0, .int .i64 0, .slice none 0 0], []⟩).memory Tryz.f5.params.toList Rows.hotRecoversSpec.vars false (#[.slice none 0 0, .int .i64 0, .int .i64 0, .int .i64 0, .slice none 0 0] : Array Value).toList 8 = some ([.nil, .lit (.int .i64 0), .lit (.int .i64 0), .lit (.int .i64 0), .nil], [], places) :=
  ⟨[], by kernel_rfl⟩

theorem hunf : Tryz.prog.unfollowed 5 = true := by kernel_rfl
theorem hinp : Tryz.prog.inPlace 5 = Rows.hotRecoversRow.inPlace := by kernel_rfl
theorem hnam : Tryz.prog.varsNamed 5 = Rows.hotRecoversRow.named := by kernel_rfl
theorem hrec : Tryz.prog.recurses 5 = true := by unfold Program.recurses; rw [hunf]; rfl
theorem closed : joinedFacts Tryz.prog 5 Tryz.f5 (OpenSpec.ofChange Rows.hotRecoversSpec).bare Rows.hotRecoversRow = true := by unfold joinedFacts; rw [hinp, hunf, hrec, hnam]; kernel_rfl

theorem plain (f : FuncId) (fn : Func) (hf : Tryz.pinned.checked.prog.funcNamed "cordwood/cordwoodlaw10.HotRecovers" = some f) (hfn : Tryz.pinned.checked.prog.funcs[f]? = some fn) :
    true = Tryz.pinned.checked.prog.looks [] ∧ ∀ (j : Nat) t, fn.params[j]? = some t → Tryz.pinned.checked.prog.wantsStandIn t = false := by
  obtain rfl : f = 5 := Option.some.inj ((show Tryz.prog.funcNamed "cordwood/cordwoodlaw10.HotRecovers" = some 5 by kernel_rfl).symm.trans hf) |>.symm
  obtain rfl : fn = Tryz.f5 := (Option.some.inj (Tryz.func5.symm.trans hfn)).symm
  refine ⟨by kernel_rfl, fun j t ht => ?_⟩
  rw [Tryz.params5] at ht
  have hm := Array.mem_of_getElem? ht
  have hm := Array.mem_of_getElem? ht
  have ht2 : t = 50 ∨ t = 3 := by
    simp at hm
    rcases hm with h | h | h <;> simp [h]
  rcases ht2 with rfl | rfl
  · exact (show Tryz.prog.wantsStandIn 50 = false by kernel_rfl)
  · exact (show Tryz.prog.wantsStandIn 3 = false by kernel_rfl)

end Go.Proofs.YtncjffkpkmjgkaaGreatDoor.hotRecovers
