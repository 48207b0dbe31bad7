/- Facts of the row of the statement HotDrops of chapter 10 holds for every input: the call returns true and leaves its arguments as they were. -/
import Derived.Test.YthocnhdefnbchaaGreatDoorCards
import Derived.Test.YthocnhdefnbchaaGreatDoorTie
import Derived.ProofKit
import Derived.OpenShut
import Derived.LaidMore
import Derived.Deep.DeepWitnessRowRef

/-! HotDropsFacts -/
namespace Go.Proofs.YthocnhdefnbchaaGreatDoor.hotDrops
open Go.ChangeShapes Go.WideShapes Go.ChangeAt Go.RowKit
set_option linter.unusedVariables false
theorem own : ownKnob Tryz.prog.godebug = none := by kernel_rfl
theorem laidOut : laidOutB Tryz.prog = true := by kernel_rfl

theorem door_met (os : Os) (args : Array Value) : laidMetH Tryz.prog Rows.hotDropsRow.laid ((World.doorLaid Tryz.prog 400 os).forCall (fun _ _ => 0) ⟨#[], args, []⟩).memory :=
  laidMetH_of_parts3 (fuel := 8) (laidMet_of_run' 8 (by kernel_rfl) (by kernel_rfl)) (by kernel_rfl) (by kernel_rfl)

theorem reads (os : Os) {H : Type} (enc : TypeId × Value → H) : ∃ places, DataW.whole enc Tryz.prog ((World.doorLaid Tryz.prog 400 os).forCall (fun _ _ => 0) ⟨#[], #[.slice none 0 0, .int .i64 0, .int .i64 0, .slice none 0 0], []⟩).memory Tryz.f6.params.toList Rows.hotDropsSpec.vars false (#[.slice none 0 0, .int .i64 0, .int .i64 0, .slice none 0 0] : Array Value).toList 8 = some ([.nil, .lit (.int .i64 0), .lit (.int .i64 0), .nil], [], places) :=
  ⟨[], by kernel_rfl⟩

theorem hunf : Tryz.prog.unfollowed 6 = true := by kernel_rfl
theorem hinp : Tryz.prog.inPlace 6 = Rows.hotDropsRow.inPlace := by kernel_rfl
theorem hnam : Tryz.prog.varsNamed 6 = Rows.hotDropsRow.named := by kernel_rfl
theorem hrec : Tryz.prog.recurses 6 = true := by unfold Program.recurses; rw [hunf]; rfl
theorem closed : joinedFacts Tryz.prog 6 Tryz.f6 (OpenSpec.ofChange Rows.hotDropsSpec).bare Rows.hotDropsRow = true := by unfold joinedFacts; rw [hinp, hunf, hrec, hnam]; kernel_rfl

theorem plain (f : FuncId) (fn : Func) (hf : Tryz.pinned.checked.prog.funcNamed "cordwood/cordwoodlaw10.HotDrops" = some f) (hfn : Tryz.pinned.checked.prog.funcs[f]? = some fn) :
    true = Tryz.pinned.checked.prog.looks [] ∧ ∀ (j : Nat) t, fn.params[j]? = some t → Tryz.pinned.checked.prog.wantsStandIn t = false := by
  obtain rfl : f = 6 := Option.some.inj ((show Tryz.prog.funcNamed "cordwood/cordwoodlaw10.HotDrops" = some 6 by kernel_rfl).symm.trans hf) |>.symm
  obtain rfl : fn = Tryz.f6 := (Option.some.inj (Tryz.func6.symm.trans hfn)).symm
  refine ⟨by kernel_rfl, fun j t ht => ?_⟩
  rw [Tryz.params6] at ht
  have hm := Array.mem_of_getElem? ht
  have hm := Array.mem_of_getElem? ht
  have ht2 : t = 50 ∨ t = 3 := by
    simp at hm
    rcases hm with h | h | h <;> simp [h]
  rcases ht2 with rfl | rfl
  · exact (show Tryz.prog.wantsStandIn 50 = false by kernel_rfl)
  · exact (show Tryz.prog.wantsStandIn 3 = false by kernel_rfl)

end Go.Proofs.YthocnhdefnbchaaGreatDoor.hotDrops
