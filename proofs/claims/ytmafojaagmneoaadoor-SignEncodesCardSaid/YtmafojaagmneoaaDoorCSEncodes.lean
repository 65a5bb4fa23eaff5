/- PROVED HERE: the bytes of signatures and the signatures of bytes, or the error, are those of the reference, and a signature comes back from its bytes: the law 'SignEncodes' returns true for every input. No condition. -/
import Derived.Test.YtmafojaagmneoaaDoorCards
import Derived.Test.YtmafojaagmneoaaDoorTie
import Derived.OpenShut
import Derived.Deep.DeepHandedRow
import Derived.Test.YtmafojaagmneoaaDoorMSg5
set_option linter.unusedVariables false
set_option linter.unusedSimpArgs false
set_option linter.constructorNameAsVariable false
namespace Go.Proofs.YtmafojaagmneoaaDoor
open Go.SE Go.ChangeShapes Go.RowKit

theorem the_law : ∀ (x y : D), Fit (.cons (.arr 4 (.int .u64)) (.cons (.arr 4 (.int .u64)) .nil)) x → Fit (.sl (.int .u8)) y → TopL (.cons (.arr 4 (.int .u64)) (.cons (.arr 4 (.int .u64)) .nil)) x → TopL (.sl (.int .u8)) y → SCall Tryd.prog 5 [(.cons (.arr 4 (.int .u64)) (.cons (.arr 4 (.int .u64)) .nil), x), (.sl (.int .u8), y)] (fun rs => rs = [.d .bool (.b true)]) := by
  intro x y hx hy _ _
  obtain ⟨a, l, rfl, ha, b, l2, e, hb, he⟩ := hx
  cases e
  cases he
  obtain ⟨c, hc, rfl⟩ := u256_fit ha
  obtain ⟨z, hz, rfl⟩ := u256_fit hb
  obtain ⟨b, rfl, hB, hb⟩ := BY.of_fit hy
  exact signEncodes c z _ b hc hz hB hb rfl

theorem the_call : ∀ (xs : List D), FitL [.cons (.arr 4 (.int .u64)) (.cons (.arr 4 (.int .u64)) .nil), .sl (.int .u8)] xs → TopLs [.cons (.arr 4 (.int .u64)) (.cons (.arr 4 (.int .u64)) .nil), .sl (.int .u8)] xs → SCall Tryd.prog 5 (zipA [.cons (.arr 4 (.int .u64)) (.cons (.arr 4 (.int .u64)) .nil), .sl (.int .u8)] xs) (fun rs => rs = [.d .bool (.b true)])
  | [], h, _ => by simp [FitL] at h
  | [_], h, _ => by simp [FitL] at h
  | _ :: _ :: _ :: _, h, _ => by simp [FitL] at h
  | [x0, x1], h, t => by
    obtain ⟨h0, h1, _⟩ := h
    obtain ⟨t0, t1, _⟩ := t
    exact the_law x0 x1 h0 h1 t0 t1

def layT (zs : List Int) : Obj → Obj
  | .cells _ t frozen => .cells (zs.map fun z => Value.int .u32 z).toArray t frozen
  | o => o
/-- A world for the witness: the tables laid. -/
noncomputable def laidWorld (os : Os) : World :=
  { World.holding Tryd.prog os ⟨#[], #[], []⟩ with heap := (((World.holding Tryd.prog os ⟨#[], #[], []⟩).heap).modify 0 (layT inits)).modify 1 (layT kons) }
def wit : Array Value := #[.agg (Array.replicate 8 (.int .u64 0)), .slice none 0 0]
theorem laid_met (os : Os) : laidMet Tryd.prog Rows.signEncodesRow.laid ((laidWorld os).forCall (fun _ _ => 0) ⟨#[], wit, []⟩).memory :=
  laidMet_of_run' 8 (by kernel_rfl) (by kernel_rfl)
theorem reads (os : Os) {H : Type} (enc : TypeId × Value → H) : ∃ places, DataW.whole enc Tryd.prog ((laidWorld os).forCall (fun _ _ => 0) ⟨#[], wit, []⟩).memory Tryd.f5.params.toList Rows.signEncodesSpec.vars false wit.toList 8 = some ([.agg [.agg (List.replicate 4 (.lit (.int .u64 0))), .agg (List.replicate 4 (.lit (.int .u64 0)))], .nil], [], places) :=
  ⟨[], by kernel_rfl⟩

set_option maxRecDepth 100000 in
theorem lifted (os : Os) (started : os.Started) (H : Type) (enc : TypeId × Value → H) (F : Stop.Interp) :
    ReturnsInHanded {} Tryd.checked os 5 .any ((OpenSpec.ofChange Rows.signEncodesSpec).preRow enc Tryd.prog Tryd.f5 Rows.signEncodesRow.domain false Rows.signEncodesRow.laid) (((OpenSpec.ofChange Rows.signEncodesSpec).at F).post enc Tryd.prog Tryd.f5 false true false false) := by
  obtain ⟨places, hx⟩ := reads os enc
  refine returnsInHanded_of_row (C := Tryd.checked) (s := OpenSpec.ofChange Rows.signEncodesSpec) Tryd.own started (by kernel_rfl) Tryd.func5
    (witness_row_at (enc := enc) (C := Tryd.checked) false (laidWorld os) wit rfl (by kernel_rfl) (by kernel_rfl) (by kernel_rfl)
      (OpenSpec.preRow_of_cond 8 hx (by kernel_rfl) (fun k hk => by cases hk) (by kernel_rfl) (laid_met os))) ?_
  intro W base args ds gs before hval hW _ _ hz hL _ _
  refine law_postQ (Q := TopLs [.cons (.arr 4 (.int .u64)) (.cons (.arr 4 (.int .u64)) .nil), .sl (.int .u8)]) Tryd.hT Tryd.laidOut (tb := 4) (tys := [.cons (.arr 4 (.int .u64)) (.cons (.arr 4 (.int .u64)) .nil), .sl (.int .u8)]) rfl rfl (by kernel_rfl) rfl rfl rfl (gok hL) ?_ ⟨_, Tryd.func5, rfl, rfl⟩ the_call hval hW ?_
  · intro ds hds
    match ds, hds with
    | [a, b], _ => exact ⟨rfl, rfl, rfl⟩
  · intro xs p hA hf ha
    exact topl Tryd.hT (us := Tryd.f5.params.toList) rfl (by kernel_rfl) hA (weights_left _ _ _ gs (by rw [← List.append_nil Tryd.f5.params.toList]; exact hz)) ha hf

theorem said : Rows.SignEncodesSaid :=
  OpenClaim.holds_of_cond 5 Tryd.f5 rfl rfl rfl rfl rfl rfl rfl ⟨rfl, rfl, rfl, rfl, rfl⟩ rfl rfl rfl rfl rfl (by kernel_rfl) Tryd.func5 (by kernel_rfl)
    (of_decide_eq_true (by kernel_rfl)) (by unfold Func.isWrapper; first | (rw [if_pos (by decide +kernel)]; kernel_rfl) | (rw [if_neg (by decide +kernel)]; exact ⟨rfl, rfl⟩))
    (fun os started H enc _ G => by rw [OpenClaim.pre_eq_preRow]; exact lifted os started H enc G)

theorem plain (f : FuncId) (fn : Func) (hf : Tryd.pinned.checked.prog.funcNamed "lightclient/lightclientlaw06.SignEncodes" = some f) (hfn : Tryd.pinned.checked.prog.funcs[f]? = some fn) :
    false = Tryd.pinned.checked.prog.looks [] ∧ ∀ (j : Nat) t, fn.params[j]? = some t → Tryd.pinned.checked.prog.wantsStandIn t = false := by
  obtain rfl : f = 5 := Option.some.inj ((show Tryd.prog.funcNamed "lightclient/lightclientlaw06.SignEncodes" = some 5 by kernel_rfl).symm.trans hf) |>.symm
  obtain rfl : fn = Tryd.f5 := (Option.some.inj (Tryd.func5.symm.trans hfn)).symm
  refine ⟨by kernel_rfl, fun j t ht => ?_⟩
  have hm := Array.mem_of_getElem? ht
  have hp : Tryd.f5.params = #[50, 27] := rfl
  rw [hp] at hm
  simp only [List.mem_toArray, List.mem_cons, List.not_mem_nil, or_false] at hm
  rcases hm with rfl | rfl
  · exact (show Tryd.prog.wantsStandIn 50 = false by kernel_rfl)
  · exact (show Tryd.prog.wantsStandIn 27 = false by kernel_rfl)

theorem card : Rows.SignEncodesCardSaid :=
  Claim7.holds_tied_plain_at .later [] _ _ _ _ said (fun _ h => by cases h) (by kernel_rfl) (fun _ h => by cases h) signEncodes_row_tie rfl ⟨rfl, rfl⟩ (by kernel_rfl) rfl plain (by kernel_rfl)

end Go.Proofs.YtmafojaagmneoaaDoor
