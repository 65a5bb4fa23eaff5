/- PROVED HERE: tweaked keys and secrets, or the error, are those of the reference, and both go together: the law 'SignTweaks' returns true for every input. No condition. -/
import Derived.Test.YtmafojaagmneoaaDoorCards
import Derived.Test.YtmafojaagmneoaaDoorTie
import Derived.OpenShut
import Derived.Deep.DeepHandedRow
import Derived.Test.YtmafojaagmneoaaDoorMSg5
set_option linter.unusedVariables false
set_option linter.unusedSimpArgs false
set_option linter.constructorNameAsVariable false
namespace Go.Proofs.YtmafojaagmneoaaDoor
open Go.SE Go.ChangeShapes Go.RowKit

theorem the_law : ∀ (x y z : D), Fit (.arr 4 (.int .u64)) x → Fit (.arr 4 (.int .u64)) y → Fit (.arr 32 (.int .u8)) z → TopL (.arr 4 (.int .u64)) x → TopL (.arr 4 (.int .u64)) y → TopL (.arr 32 (.int .u8)) z → SCall Tryd.prog 6 [(.arr 4 (.int .u64), x), (.arr 4 (.int .u64), y), (.arr 32 (.int .u8), z)] (fun rs => rs = [.d .bool (.b true)]) := by
  intro x y z hx hy hz _ _ _
  obtain ⟨a, ha, rfl⟩ := u256_fit hx
  obtain ⟨b, hb, rfl⟩ := u256_fit hy
  obtain ⟨t, rfl, hT, ht⟩ := BY.of_arr hz
  exact signTweaks a b _ t ha hb hT ht rfl

theorem the_call : ∀ (xs : List D), FitL [.arr 4 (.int .u64), .arr 4 (.int .u64), .arr 32 (.int .u8)] xs → TopLs [.arr 4 (.int .u64), .arr 4 (.int .u64), .arr 32 (.int .u8)] xs → SCall Tryd.prog 6 (zipA [.arr 4 (.int .u64), .arr 4 (.int .u64), .arr 32 (.int .u8)] xs) (fun rs => rs = [.d .bool (.b true)])
  | [], h, _ => by simp [FitL] at h
  | [_], h, _ => by simp [FitL] at h
  | [_, _], h, _ => by simp [FitL] at h
  | _ :: _ :: _ :: _ :: _, h, _ => by simp [FitL] at h
  | [x0, x1, x2], h, t => by
    obtain ⟨h0, h1, h2, _⟩ := h
    obtain ⟨t0, t1, t2, _⟩ := t
    exact the_law x0 x1 x2 h0 h1 h2 t0 t1 t2

def layT (zs : List Int) : Obj → Obj
  | .cells _ t frozen => .cells (zs.map fun z => Value.int .u32 z).toArray t frozen
  | o => o
/-- A world for the witness: the tables laid. -/
noncomputable def laidWorld (os : Os) : World :=
  { World.holding Tryd.prog os ⟨#[], #[], []⟩ with heap := (((World.holding Tryd.prog os ⟨#[], #[], []⟩).heap).modify 0 (layT inits)).modify 1 (layT kons) }
def wit : Array Value := #[.agg #[.int .u64 0, .int .u64 0, .int .u64 0, .int .u64 0], .agg #[.int .u64 0, .int .u64 0, .int .u64 0, .int .u64 0], .agg (Array.replicate 32 (.int .u8 0))]
theorem laid_met (os : Os) : laidMet Tryd.prog Rows.signTweaksRow.laid ((laidWorld os).forCall (fun _ _ => 0) ⟨#[], wit, []⟩).memory :=
  laidMet_of_run' 8 (by kernel_rfl) (by kernel_rfl)
theorem reads (os : Os) {H : Type} (enc : TypeId × Value → H) : ∃ places, DataW.whole enc Tryd.prog ((laidWorld os).forCall (fun _ _ => 0) ⟨#[], wit, []⟩).memory Tryd.f6.params.toList Rows.signTweaksSpec.vars false wit.toList 8 = some ([.agg (List.replicate 4 (.lit (.int .u64 0))), .agg (List.replicate 4 (.lit (.int .u64 0))), .agg (List.replicate 32 (.lit (.int .u8 0)))], [], places) :=
  ⟨[], by kernel_rfl⟩

set_option maxRecDepth 100000 in
theorem lifted (os : Os) (started : os.Started) (H : Type) (enc : TypeId × Value → H) (F : Stop.Interp) :
    ReturnsInHanded {} Tryd.checked os 6 .any ((OpenSpec.ofChange Rows.signTweaksSpec).preRow enc Tryd.prog Tryd.f6 Rows.signTweaksRow.domain false Rows.signTweaksRow.laid) (((OpenSpec.ofChange Rows.signTweaksSpec).at F).post enc Tryd.prog Tryd.f6 false true false false) := by
  obtain ⟨places, hx⟩ := reads os enc
  refine returnsInHanded_of_row (C := Tryd.checked) (s := OpenSpec.ofChange Rows.signTweaksSpec) Tryd.own started (by kernel_rfl) Tryd.func6
    (witness_row_at (enc := enc) (C := Tryd.checked) false (laidWorld os) wit rfl (by kernel_rfl) (by kernel_rfl) (by kernel_rfl)
      (OpenSpec.preRow_of_cond 8 hx (by kernel_rfl) (fun k hk => by cases hk) (by kernel_rfl) (laid_met os))) ?_
  intro W base args ds gs before hval hW _ _ hz hL _ _
  refine law_postQ (Q := TopLs [.arr 4 (.int .u64), .arr 4 (.int .u64), .arr 32 (.int .u8)]) Tryd.hT Tryd.laidOut (tb := 4) (tys := [.arr 4 (.int .u64), .arr 4 (.int .u64), .arr 32 (.int .u8)]) rfl rfl (by kernel_rfl) rfl rfl rfl (gok hL) ?_ ⟨_, Tryd.func6, rfl, rfl⟩ the_call hval hW ?_
  · intro ds hds
    match ds, hds with
    | [a, b, c], _ => exact ⟨rfl, rfl, rfl⟩
  · intro xs p hA hf ha
    exact topl Tryd.hT (us := Tryd.f6.params.toList) rfl (by kernel_rfl) hA (weights_left _ _ _ gs (by rw [← List.append_nil Tryd.f6.params.toList]; exact hz)) ha hf

theorem said : Rows.SignTweaksSaid :=
  OpenClaim.holds_of_cond 6 Tryd.f6 rfl rfl rfl rfl rfl rfl rfl ⟨rfl, rfl, rfl, rfl, rfl⟩ rfl rfl rfl rfl rfl (by kernel_rfl) Tryd.func6 (by kernel_rfl)
    (of_decide_eq_true (by kernel_rfl)) (by unfold Func.isWrapper; first | (rw [if_pos (by decide +kernel)]; kernel_rfl) | (rw [if_neg (by decide +kernel)]; exact ⟨rfl, rfl⟩))
    (fun os started H enc _ G => by rw [OpenClaim.pre_eq_preRow]; exact lifted os started H enc G)

theorem plain (f : FuncId) (fn : Func) (hf : Tryd.pinned.checked.prog.funcNamed "lightclient/lightclientlaw06.SignTweaks" = some f) (hfn : Tryd.pinned.checked.prog.funcs[f]? = some fn) :
    false = Tryd.pinned.checked.prog.looks [] ∧ ∀ (j : Nat) t, fn.params[j]? = some t → Tryd.pinned.checked.prog.wantsStandIn t = false := by
  obtain rfl : f = 6 := Option.some.inj ((show Tryd.prog.funcNamed "lightclient/lightclientlaw06.SignTweaks" = some 6 by kernel_rfl).symm.trans hf) |>.symm
  obtain rfl : fn = Tryd.f6 := (Option.some.inj (Tryd.func6.symm.trans hfn)).symm
  refine ⟨by kernel_rfl, fun j t ht => ?_⟩
  have hm := Array.mem_of_getElem? ht
  have hp : Tryd.f6.params = #[45, 45, 33] := rfl
  rw [hp] at hm
  simp only [List.mem_toArray, List.mem_cons, List.not_mem_nil, or_false] at hm
  rcases hm with rfl | rfl | rfl
  · exact (show Tryd.prog.wantsStandIn 45 = false by kernel_rfl)
  · exact (show Tryd.prog.wantsStandIn 45 = false by kernel_rfl)
  · exact (show Tryd.prog.wantsStandIn 33 = false by kernel_rfl)

theorem card : Rows.SignTweaksCardSaid :=
  Claim7.holds_tied_plain_at .later [] _ _ _ _ said (fun _ h => by cases h) (by kernel_rfl) (fun _ h => by cases h) signTweaks_row_tie rfl ⟨rfl, rfl⟩ (by kernel_rfl) rfl plain (by kernel_rfl)

end Go.Proofs.YtmafojaagmneoaaDoor
