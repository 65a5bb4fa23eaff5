/- PROVED HERE: what a secret signs is verified by its public key, and another response to the same challenge that is verified, too, leads to another commitment with this challenge: the law 'SignRight' returns true for every input. No condition. -/
import Derived.Test.YtmafojaagmneoaaDoorCards
import Derived.Test.YtmafojaagmneoaaDoorTie
import Derived.OpenShut
import Derived.Deep.DeepHandedRow
import Derived.Test.YtmafojaagmneoaaDoorMSRight4
set_option linter.unusedVariables false
set_option linter.unusedSimpArgs false
set_option linter.constructorNameAsVariable false
namespace Go.Proofs.YtmafojaagmneoaaDoor
open Go.SE Go.ChangeShapes Go.RowKit

theorem the_call : ∀ (xs : List D), FitL [.arr 32 (.int .u8), .arr 32 (.int .u8), .int .u64] xs → True → SCall Tryd.prog 4 (zipA [.arr 32 (.int .u8), .arr 32 (.int .u8), .int .u64] xs) (fun rs => rs = [.d .bool (.b true)])
  | [], h, _ => by simp [FitL] at h
  | [_], h, _ => by simp [FitL] at h
  | [_, _], h, _ => by simp [FitL] at h
  | _ :: _ :: _ :: _ :: _, h, _ => by simp [FitL] at h
  | [x, y, z], h, _ => by
    obtain ⟨hx, hy, hz, _⟩ := h
    obtain ⟨d, rfl, hD, hd⟩ := BY.of_arr hx
    obtain ⟨m, rfl, hM, hm⟩ := BY.of_arr hy
    obtain ⟨t, rfl, ht⟩ := hz.u64
    exact signRight d m t _ hD hd hM hm ht rfl

def layT (zs : List Int) : Obj → Obj
  | .cells _ t frozen => .cells (zs.map fun z => Value.int .u32 z).toArray t frozen
  | o => o
/-- A world for the witness: the tables laid. -/
noncomputable def laidWorld (os : Os) : World :=
  { World.holding Tryd.prog os ⟨#[], #[], []⟩ with heap := ((World.holding Tryd.prog os ⟨#[], #[], []⟩).heap.modify 0 (layT inits)).modify 1 (layT kons) }
def wit : Array Value := #[.agg (Array.replicate 32 (.int .u8 0)), .agg (Array.replicate 32 (.int .u8 0)), .int .u64 0]
theorem laid_met (os : Os) : laidMet Tryd.prog Rows.signRightRow.laid ((laidWorld os).forCall (fun _ _ => 0) ⟨#[], wit, []⟩).memory :=
  laidMet_of_run' 8 (by kernel_rfl) (by kernel_rfl)
theorem reads (os : Os) {H : Type} (enc : TypeId × Value → H) : ∃ places, DataW.whole enc Tryd.prog ((laidWorld os).forCall (fun _ _ => 0) ⟨#[], wit, []⟩).memory Tryd.f4.params.toList Rows.signRightSpec.vars false wit.toList 8 = some ([.agg (List.replicate 32 (.lit (.int .u8 0))), .agg (List.replicate 32 (.lit (.int .u8 0))), .lit (.int .u64 0)], [], places) :=
  ⟨[], by kernel_rfl⟩

set_option maxRecDepth 100000 in
theorem lifted (os : Os) (started : os.Started) (H : Type) (enc : TypeId × Value → H) (F : Stop.Interp) :
    ReturnsInHanded {} Tryd.checked os 4 .any ((OpenSpec.ofChange Rows.signRightSpec).preRow enc Tryd.prog Tryd.f4 Rows.signRightRow.domain false Rows.signRightRow.laid) (((OpenSpec.ofChange Rows.signRightSpec).at F).post enc Tryd.prog Tryd.f4 false true false false) := by
  obtain ⟨places, hx⟩ := reads os enc
  refine returnsInHanded_of_row (C := Tryd.checked) (s := OpenSpec.ofChange Rows.signRightSpec) Tryd.own started (by kernel_rfl) Tryd.func4
    (witness_row_at (enc := enc) (C := Tryd.checked) false (laidWorld os) wit rfl (by kernel_rfl) (by kernel_rfl) (by kernel_rfl)
      (OpenSpec.preRow_of_cond 8 hx (by kernel_rfl) (fun k hk => by cases hk) (by kernel_rfl) (laid_met os))) ?_
  intro W base args ds gs before hval hW _ _ _ hL _ _
  refine law_postQ (Q := fun _ => True) Tryd.hT Tryd.laidOut (tb := 4) (tys := [.arr 32 (.int .u8), .arr 32 (.int .u8), .int .u64]) rfl rfl (by kernel_rfl) rfl rfl rfl (gok hL) ?_ ⟨_, Tryd.func4, rfl, rfl⟩ the_call hval hW (fun _ _ _ _ _ => trivial)
  intro ds hds
  match ds, hds with
  | [a, b, c], _ => exact ⟨rfl, rfl, rfl⟩

theorem said : Rows.SignRightSaid :=
  OpenClaim.holds_of_cond 4 Tryd.f4 rfl rfl rfl rfl rfl rfl rfl ⟨rfl, rfl, rfl, rfl, rfl⟩ rfl rfl rfl rfl rfl (by kernel_rfl) Tryd.func4 (by kernel_rfl)
    (of_decide_eq_true (by kernel_rfl)) (by unfold Func.isWrapper; first | (rw [if_pos (by decide +kernel)]; kernel_rfl) | (rw [if_neg (by decide +kernel)]; exact ⟨rfl, rfl⟩))
    (fun os started H enc _ G => by rw [OpenClaim.pre_eq_preRow]; exact lifted os started H enc G)

theorem plain (f : FuncId) (fn : Func) (hf : Tryd.pinned.checked.prog.funcNamed "lightclient/lightclientlaw06.SignRight" = some f) (hfn : Tryd.pinned.checked.prog.funcs[f]? = some fn) :
    false = Tryd.pinned.checked.prog.looks [] ∧ ∀ (j : Nat) t, fn.params[j]? = some t → Tryd.pinned.checked.prog.wantsStandIn t = false := by
  obtain rfl : f = 4 := Option.some.inj ((show Tryd.prog.funcNamed "lightclient/lightclientlaw06.SignRight" = some 4 by kernel_rfl).symm.trans hf) |>.symm
  obtain rfl : fn = Tryd.f4 := (Option.some.inj (Tryd.func4.symm.trans hfn)).symm
  refine ⟨by kernel_rfl, fun j t ht => ?_⟩
  have hm := Array.mem_of_getElem? ht
  have hp : Tryd.f4.params = #[33, 33, 43] := rfl
  rw [hp] at hm
  simp only [List.mem_toArray, List.mem_cons, List.not_mem_nil, or_false] at hm
  rcases hm with rfl | rfl | rfl
  · exact (show Tryd.prog.wantsStandIn 33 = false by kernel_rfl)
  · exact (show Tryd.prog.wantsStandIn 33 = false by kernel_rfl)
  · exact (show Tryd.prog.wantsStandIn 43 = false by kernel_rfl)

theorem card : Rows.SignRightCardSaid :=
  Claim7.holds_tied_plain_at .later [] _ _ _ _ said (fun _ h => by cases h) (by kernel_rfl) (fun _ h => by cases h) signRight_row_tie rfl ⟨rfl, rfl⟩ (by kernel_rfl) rfl plain (by kernel_rfl)
end Go.Proofs.YtmafojaagmneoaaDoor
