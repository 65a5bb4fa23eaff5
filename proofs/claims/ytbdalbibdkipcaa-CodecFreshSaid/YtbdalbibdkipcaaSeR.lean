/- Regions that draw their order: walked once, in one order that is checked. -/
import Derived.Test.YtbdalbibdkipcaaSeQ
import Derived.KernelRfl
set_option linter.unusedVariables false
set_option linter.unusedSimpArgs false
set_option linter.constructorNameAsVariable false
namespace Go.SE
open Go.RowKit (Below)

/-! which operations only read -/

def pureO (T : Tab) (o : Oper) : Bool :=
  match o.op with
  | .move _ | .assign _ | .binOp .. | .unOp .. | .pick .. | .load .. | .nilCheck _ | .sliceToArrayPointer .. | .slice _ _ _ _ none | .fieldAddr .. | .field .. | .indexAddr .. | .index .. | .extract .. | .build .. => true
  | .convert _ d _ => match Go.SE.look T d with | some (.sl _) => false | _ => true
  | .call { callee := .builtin .len, .. } | .call { callee := .builtin .min, .. } | .call { callee := .builtin .max, .. } => true
  | _ => false
/-- Operations that change nothing of what was there. -/
def growO (o : Oper) : Bool :=
  match o.op with
  | .call { callee := .value (.func _), .. } | .buildSlice .. | .makeSlice .. | .alloc _ | .box .. => true
  | _ => false

/-- Operations that do not look at the memory. -/
def freeO (o : Oper) : Bool :=
  match o.op with
  | .move _ | .assign _ | .extract .. => true
  | _ => false

section
variable {P : Program} {w0 : Base} {σ : St} {a : Act} {w : World}

theorem freeO_run {o : Oper} {v : Value} (hf : freeO o = true) (h : (execOp a.eval o).run P w = .ok (.value v) w) (w' : World) : (execOp a.eval o).run P w' = .ok (.value v) w' := by
  unfold freeO at hf
  split at hf
  · rename_i x ho; simp [execOp, ho] at h ⊢; exact h
  · rename_i x ho; simp [execOp, ho] at h ⊢; exact h
  · rename_i x i ho
    simp only [execOp, ho] at h ⊢
    cases hx : a.eval x with
    | tuple vs =>
      simp only [hx, Instr.extract] at h ⊢
      cases hi : vs[i]? with
      | none => simp [hi] at h
      | some u => simp [hi] at h ⊢; exact h
    | _ => simp [hx, Instr.extract] at h
  · cases hf

theorem sOp_pure {T : Tab} (hT : T.Ok P) {o : Oper} {K : St → Prop} (h : R w0 σ a w) (hp : pureO T o = true) (hs : sOp P T o σ K) : VStep P w0 o a w K := by
  obtain ⟨om, h⟩ := h
  obtain ⟨hd, hs⟩ := hs
  split at hs
  · rename_i x ho
    split at hs
    · rename_i v hv; exact wp_move (.inl ho) h hd hv hs
    · exact hs.elim
  · rename_i x ho
    split at hs
    · rename_i v hv; exact wp_move (.inr ho) h hd hv hs
    · exact hs.elim
  · rename_i op xT x y yT ho
    split at hs
    · rename_i t dx t' dy hx hy
      refine sBin_sound ho h hd hx hy (fun ht => ?_) hs.2
      have h1 := hs.1
      cases t <;> simp [Ty.agg] at ht <;> exact (hT _ _ h1).1
    · exact hs.elim
  · rename_i op xT x ho
    split at hs
    · rename_i t dx hx; exact sUn_sound ho h hd hx hs
    · exact hs.elim
  · rename_i u d x ho
    split at hs
    · rename_i s hx
      refine sConv_pure hT ho h hd hx hs ?_
      intro e he
      simp [pureO, ho, he] at hp
    · exact hs.elim
  · rename_i c x y ho
    split at hs
    · rename_i b hc; exact sPick_sound ho h hd hc hs
    · exact hs.elim
  · rename_i u ho; simp [pureO, ho] at hp
  · rename_i u x ho; simp [pureO, ho] at hp
  · rename_i t parts ho; exact sBuild_pure hT ho h hd hs
  · rename_i t n parts ho; simp [pureO, ho] at hp
  · rename_i u x ho
    split at hs
    · rename_i s hx; exact sLoad_sound hT ho h hd hx hs
    · exact hs.elim
  · rename_i u x y ho; simp [pureO, ho] at hp
  · rename_i x ho
    split at hs
    · rename_i b p hx; exact sNil_sound (s := .ptr b p) ho h hd hx hs
    · rename_i t y hx; exact sNil_sound (s := .vp t y) ho h hd hx hs
    · exact hs.elim
  · rename_i d x ho
    split at hs
    · rename_i s hx; exact sArr_sound hT ho h hd hx hs
    · exact hs.elim
  · rename_i t x y ho; simp [pureO, ho] at hp
  · rename_i u x lo hi ho
    split at hs
    · rename_i s l r hx hlo hhi; exact sSlice_sound hT ho h hd hx hlo hhi hs
    · exact hs.elim
  · rename_i u x i ho
    split at hs
    · rename_i s hx; exact sFieldAddr_sound hT ho h hd hx hs
    · exact hs.elim
  · rename_i u x i ho
    split at hs
    · rename_i s hx; exact sField_sound hT ho h hd hx hs
    · exact hs.elim
  · rename_i u x y ho
    split at hs
    · rename_i s k i hx hy; exact sIndexAddr_sound hT ho h hd hx hy hs
    · exact hs.elim
  · rename_i u x y ho
    split at hs
    · rename_i s k i hx hy; exact sIndex_sound hT ho h hd hx hy hs
    · exact hs.elim
  · rename_i x i ho; exact sExtract_sound ho h hd hs
  · rename_i x u ho
    split at hs
    · rename_i s hx; exact sLen_sound hT ho h hd hx hs
    · exact hs.elim
  · rename_i x y t u ho; simp [pureO, ho] at hp
  · rename_i x y t u ho; simp [pureO, ho] at hp
  · rename_i x y ts ho
    split at hs
    · rename_i k l k' c hx hy; exact sMin_sound ho h hd hx hy hs
    · exact hs.elim
  · rename_i x y ts ho
    split at hs
    · rename_i k l k' c hx hy; exact sMax_sound ho h hd hx hy hs
    · exact hs.elim
  · rename_i f xs us ho; simp [pureO, ho] at hp
  · exact hs.elim

theorem sOp_grow {T : Tab} (hT : T.Ok P) {o : Oper} {Q : Exit → Act → World → Prop} {K : St → Prop} (h : R w0 σ a w) (hg : growO o = true) (hs : sOp P T o σ K) :
    o.wp P a w (fun a' w' => Below w.heap.size w w' ∧ After w0 K a' w') Q := by
  obtain ⟨om, h⟩ := h
  obtain ⟨hd, hs⟩ := hs
  have hcase : (∃ f xs us, o.op = .call { callee := .value (.func f), args := xs, argTypes := us }) ∨ (∃ t n parts, o.op = .buildSlice t n parts) ∨ (∃ t x y, o.op = .makeSlice t x y) ∨ (∃ u, o.op = .alloc u) ∨ (∃ u x, o.op = .box u x) := by
    unfold growO at hg
    split at hg
    · rename_i f _ _ ho; exact .inl ⟨f, _, _, ho⟩
    · rename_i ho; exact .inr (.inl ⟨_, _, _, ho⟩)
    · rename_i ho; exact .inr (.inr (.inl ⟨_, _, _, ho⟩))
    · rename_i ho; exact .inr (.inr (.inr (.inl ⟨_, ho⟩)))
    · rename_i ho; exact .inr (.inr (.inr (.inr ⟨_, _, ho⟩)))
    · cases hg
  rcases hcase with ⟨f, xs, us, ho⟩ | ⟨t, n, parts, ho⟩ | ⟨t, x, y, ho⟩ | ⟨u, ho⟩ | ⟨u, x, ho⟩
  · rw [ho] at hs
    simp only at hs
    split at hs
    · rename_i l ha
      exact sCall_grow ho h hd ha hs
    · exact hs.elim
  · rw [ho] at hs
    exact sBuildS_grow hT ho h hd hs
  · rw [ho] at hs
    simp only at hs
    split at hs
    · rename_i k l k' c hx hy; exact sMake_grow hT ho h hd hx hy hs
    · exact hs.elim
  · rw [ho] at hs
    exact sAlloc_grow hT ho h hd hs
  · rw [ho] at hs
    simp only at hs
    split at hs
    · rename_i s hx; exact sBox_grow ho h hd hx hs
    · exact hs.elim

end

/-! what may come up -/

section
variable {P : Program} {ops : Array Oper} {Q : Exit → Act → World → Prop} {md : Region.Mode} {ds : List Nat}

def YG (P : Program) (fr : Bool) (ops : Array Oper) (w : World) (o : Oper) (v : Value) (a : Act) : Prop :=
  (Region.wanted o (yielded ops a.tmps) = true ∧ ∀ w', (fr = true ∨ Below w.heap.size w w') → (execOp a.eval o).run P w' = .ok (.value v) w') ∨
  (Region.wanted o (yielded ops a.tmps) = false ∧ v = undef)

theorem YG.grow {fr : Bool} {w w' : World} {o : Oper} {v : Value} {a : Act} (hw : fr = true ∨ Below w.heap.size w w') (h : YG P fr ops w o v a) : YG P fr ops w' o v a :=
  h.imp (fun ⟨h1, h2⟩ => ⟨h1, fun w2 hw2 => h2 w2 (by
    rcases hw with hw | hw
    · exact .inl hw
    · rcases hw2 with hw2 | hw2
      · exact .inl hw2
      · exact .inr (hw.trans (hw2.mono hw.size)))⟩) id

theorem YG.wpOp {fr : Bool} {i : Nat} {o : Oper} {v : Value} {a : Act} (hi : ops[i]? = some o) {w : World} (hy : YG P fr ops w o v a)
    {K : Act → World → Prop} (h : K (a.put o.dst v) w) : wpOp P ops Q i K a w := by
  unfold Go.wpOp
  simp only [hi]
  rcases hy with ⟨hw, hv⟩ | ⟨hw, rfl⟩
  · simp only [hw, if_true, Oper.wp, hv w (.inr (Below.refl _ _)), Oper.upon]; exact .inl h
  · simp only [hw, Bool.false_eq_true, if_false]; exact h

theorem YG.of_same {fr : Bool} {w : World} {o : Oper} {v : Value} {a a' : Act} (hy : YG P fr ops w o v a) (he : execOp a'.eval o = execOp a.eval o)
    (hw : Region.wanted o (yielded ops a'.tmps) = Region.wanted o (yielded ops a.tmps)) : YG P fr ops w o v a' := by
  unfold YG at *
  rw [he, hw]
  exact hy

theorem wpOp_putG {fr : Bool} {j : Nat} {oi oj : Oper} {v : Value} (hj : ops[j]? = some oj) (hap : oi.apart ops oj = true)
    (hsi : ∀ cs b, oi.op ≠ .select cs b) (hsj : ∀ cs b, oj.op ≠ .select cs b)
    (hQ : ∀ c a w, Q (.panic c) (a.put oi.dst v) w → Q (.panic c) a w) {K : Act → World → Prop} {a : Act} {w : World}
    (hy : YG P fr ops w oi v a) (h : wpOp P ops Q j K (a.put oi.dst v) w) :
    wpOp P ops Q j (fun a' w' => YG P fr ops w oi v a' ∧ K (a'.put oi.dst v) w') a w := by
  obtain ⟨h1, h2, h3⟩ := Oper.apart_spec hap
  have keep : ∀ (a : Act), YG P fr ops w oi v a → ∀ u, YG P fr ops w oi v (a.put oj.dst u) := fun a hy u =>
    hy.of_same (execOp_put oi hsi a oj.dst u h3) (wanted_put oi a oj.dst u h3)
  have keepD : ∀ d, YG P fr ops w oi v { a with defers := d :: a.defers } := fun d => hy.of_same rfl rfl
  unfold wpOp at *
  simp only [hj] at *
  rw [wanted_put oj a oi.dst v h1] at h
  split
  · rename_i hw
    simp only [hw, if_true] at h
    rcases h with h | ⟨hasks, hlets⟩
    case inr => exact .inr ⟨by unfold Oper.asks at *; rw [execOp_put oj hsj a oi.dst v h1] at hasks; exact hasks, hlets⟩
    refine .inl ?_
    unfold Oper.wp at *
    rw [execOp_put oj hsj a oi.dst v h1] at h
    generalize (execOp a.eval oj).run P w = r at *
    cases r with
    | ok n w' =>
      cases n <;> simp only [Oper.upon] at h ⊢
      case value u => exact ⟨keep a hy u, by rw [← Act.put_comm a v u h2]; exact h⟩
      case skip => exact ⟨keep a hy _, by rw [← Act.put_comm a v undef h2]; exact h⟩
      case defer d =>
        refine ⟨keep _ (keepD d) _, ?_⟩
        rw [← Act.put_comm _ v undef h2, ← Act.put_defers]
        exact h
      case enter f args =>
        refine Calls.mono h fun e w'' he => ?_
        cases e with
        | returned u => exact ⟨keep a hy u, by rw [← Act.put_comm a v u h2]; exact he⟩
        | panicked c => exact hQ _ _ _ he
        | outgrown => exact he
      case row row args => exact Rows.mono h fun u w'' he => ⟨keep a hy u, by rw [← Act.put_comm a v u h2]; exact he⟩
    | halt x w' =>
      cases x <;> simp only [Oper.upon] at h ⊢
      case panic u => exact hQ _ _ _ h
  · rename_i hw
    simp only [hw] at h
    exact ⟨keep a hy _, by rw [← Act.put_comm a v undef h2]; exact h⟩

/-- Whatever order is picked; what is not of ds changes nothing of what was there. -/
def wpAnyG (P : Program) (md : Region.Mode) (ops : Array Oper) (Q : Exit → Act → World → Prop) (ds : List Nat) : Nat → Array Bool → Act → World → Prop
  | 0, listed, a, w => Region.ready md ops listed = [] ∧ Q .normal a w
  | fuel + 1, listed, a, w =>
    (Region.ready md ops listed = [] → Q .normal a w) ∧
    ∀ i ∈ Region.ready md ops listed, wpOp P ops Q i (fun a' w' => (i ∉ ds → Below w.heap.size w w') ∧ wpAnyG P md ops Q ds fuel (listed.setIfInBounds i true) a' w') a w

theorem wpAny_of_G : ∀ (fuel : Nat) (listed : Array Bool) (a : Act) (w : World), wpAnyG P md ops Q ds fuel listed a w → wpAny P md ops Q fuel listed a w
  | 0, _, _, _, h => h
  | fuel + 1, _, _, _, h => ⟨h.1, fun i hi => wpOp_mono (fun a' w' h' => wpAny_of_G fuel _ a' w' h'.2) (h.2 i hi)⟩

def reachO (md : Region.Mode) (ops : Array Oper) (i : Nat) : Nat → Nat → Bool
  | 0, _ => false
  | f + 1, d => match ops[d]? with
    | some o => o.after.any fun e => Region.binds md e && (e.on == i || reachO md ops i f e.on)
    | none => false

def ClosedL (md : Region.Mode) (ops : Array Oper) (listed : Array Bool) : Prop :=
  ∀ j o, ops[j]? = some o → listed.getD j false = true → ∀ e ∈ o.after, Region.binds md e = true → listed.getD e.on false = true

theorem reach_not {listed : Array Bool} (hc : ClosedL md ops listed) {i : Nat} (hi : listed.getD i false = false) : ∀ (f d : Nat), reachO md ops i f d = true → listed.getD d false = false
  | 0, _, h => by simp [reachO] at h
  | f + 1, d, h => by
    cases hl : listed.getD d false with
    | false => rfl
    | true =>
      exfalso
      simp only [reachO] at h
      split at h
      · rename_i o ho
        obtain ⟨e, he, hb⟩ := Array.any_eq_true'.1 h
        simp only [Bool.and_eq_true, Bool.or_eq_true, beq_iff_eq] at hb
        have h1 := hc d o ho hl e he hb.1
        rcases hb.2 with h2 | h2
        · rw [h2, hi] at h1; cases h1
        · rw [reach_not hc hi f _ h2] at h1; cases h1
      · cases h

theorem reach_unready {listed : Array Bool} (hc : ClosedL md ops listed) {i : Nat} (hi : listed.getD i false = false) {f d : Nat} (h : reachO md ops i f d = true) : d ∉ Region.ready md ops listed := by
  intro hr
  obtain ⟨_, o, ho, hall⟩ := mem_ready.1 hr
  cases f with
  | zero => simp [reachO] at h
  | succ f =>
    simp only [reachO, ho] at h
    obtain ⟨e, he, hb⟩ := Array.any_eq_true'.1 h
    simp only [Bool.and_eq_true, Bool.or_eq_true, beq_iff_eq] at hb
    have h1 := hall e he hb.1
    rcases hb.2 with h2 | h2
    · rw [h2, hi] at h1; cases h1
    · rw [reach_not hc hi f _ h2] at h1; cases h1

theorem ClosedL.set {listed : Array Bool} (hc : ClosedL md ops listed) {j : Nat} (hj : j ∈ Region.ready md ops listed) : ClosedL md ops (listed.setIfInBounds j true) := by
  intro k o ho hk e he hb
  by_cases hkj : j = k
  · subst hkj
    obtain ⟨_, o', ho', hall⟩ := mem_ready.1 hj
    rw [ho] at ho'
    simp only [Option.some.injEq] at ho'
    subst ho'
    exact getD_set_true (hall e he hb)
  · rw [getD_set_ne false hkj] at hk
    exact getD_set_true (hc k o ho hk e he hb)

theorem getD_unlisted {listed : Array Bool} {i : Nat} (h : listed.getD i true = false) : listed.getD i false = false := by
  rcases Nat.lt_or_ge i listed.size with h' | h'
  · simpa [h'] using h
  · simp [Array.getElem?_eq_none h'] at h

theorem wpAnyG_first {fr : Bool} {i : Nat} {oi : Oper} {v : Value} (hi : ops[i]? = some oi) (hsel : ∀ (j : Nat) (o : Oper) cs b, ops[j]? = some o → o.op ≠ .select cs b)
    (hQ : ∀ c a w, Q (.panic c) (a.put oi.dst v) w → Q (.panic c) a w) :
    ∀ (fuel : Nat) (listed : Array Bool) (a : Act) (w : World), (fr = true ∨ ∀ d ∈ ds, listed.getD d true = true ∨ reachO md ops i ops.size d = true) → ClosedL md ops listed →
      (∀ j oj, ops[j]? = some oj → j ≠ i → listed.getD j true = false → (∀ e ∈ oj.after, Region.binds md e = true → e.on ≠ i) → oi.apart ops oj = true) →
      i ∈ Region.ready md ops listed → YG P fr ops w oi v a →
      wpAnyG P md ops Q ds fuel (listed.setIfInBounds i true) (a.put oi.dst v) w → wpAnyG P md ops Q ds (fuel + 1) listed a w := by
  intro fuel
  induction fuel with
  | zero =>
    intro listed a w hds hc _ hr hy H
    refine ⟨fun h => (by rw [h] at hr; cases hr), fun j hj => ?_⟩
    by_cases hji : j = i
    · subst hji; exact hy.wpOp hi ⟨fun _ => Below.refl _ _, H⟩
    · have := ready_mono hj hji
      rw [H.1] at this
      cases this
  | succ fuel ih =>
    intro listed a w hds hc hfree hr hy H
    refine ⟨fun h => (by rw [h] at hr; cases hr), fun j hj => ?_⟩
    by_cases hji : j = i
    · subst hji; exact hy.wpOp hi ⟨fun _ => Below.refl _ _, H⟩
    · have h1 := H.2 j (ready_mono hj hji)
      obtain ⟨hjun, oj, hoj, hall⟩ := mem_ready.1 hj
      have hiu : listed.getD i false = false := getD_unlisted (mem_ready.1 hr).1
      have hjds : fr = true ∨ j ∉ ds := hds.imp id fun hds => fun hd => (hds j hd).elim (fun e => by rw [hjun] at e; cases e) (fun e => reach_unready hc hiu e hj)
      have hds' : fr = true ∨ ∀ d ∈ ds, (listed.setIfInBounds j true).getD d true = true ∨ reachO md ops i ops.size d = true := hds.imp id fun hds => fun d hd => (hds d hd).imp (fun e => by
        by_cases hjd : j = d
        · subst hjd; rw [hjun] at e; cases e
        · rw [getD_set_ne true hjd]; exact e) id
      have hnot : ∀ e ∈ oj.after, Region.binds md e = true → e.on ≠ i := fun e he hb heq => by
        have h1 := hall e he hb
        rw [heq, hiu] at h1
        cases h1
      have h2 := wpOp_putG hoj (hfree j oj hoj hji hjun hnot) (fun cs b => hsel i oi cs b hi) (fun cs b => hsel j oj cs b hoj) hQ hy h1
      have hfree' : ∀ k ok, ops[k]? = some ok → k ≠ i → (listed.setIfInBounds j true).getD k true = false →
          (∀ e ∈ ok.after, Region.binds md e = true → e.on ≠ i) → oi.apart ops ok = true := fun k ok hk hki hun hno => by
        refine hfree k ok hk hki ?_ hno
        by_cases hjk : j = k
        · subst hjk; exact hjun
        · rw [getD_set_ne true hjk] at hun; exact hun
      refine wpOp_mono (fun a' w' h3 => ⟨h3.2.1, ih (listed.setIfInBounds j true) a' w' hds' (hc.set hj) hfree' (ready_mono hr (Ne.symm hji)) (h3.1.grow (hjds.imp id h3.2.1)) ?_⟩) h2
      rw [Array.setIfInBounds_comm _ _ hji]
      exact h3.2.2

end

/-! the check, and the walk -/

def ordB (T : Tab) (ops : Array Oper) (ds : List Nat) : List Nat → Array Bool → Bool
  | [], listed => (Region.ready .any ops listed).isEmpty
  | i :: l, listed =>
    (match ops[i]? with
     | some o => bif pureO T o then (Region.ready .any ops listed).contains i && Region.free .any ops listed i && (freeO o || ds.all (fun d => listed.getD d true || reachO .any ops i ops.size d))
        else Region.ready .any ops listed == [i] && (ds.contains i || growO o)
     | none => false) && ordB T ops ds l (listed.setIfInBounds i true)

def pickO (ops : Array Oper) : List Nat → List Oper
  | [] => []
  | i :: l => match ops[i]? with | some o => o :: pickO ops l | none => pickO ops l

def QN (w0 : Base) (K : St → Prop) : Exit → Act → World → Prop
  | .normal => After w0 K
  | _ => fun _ _ => False

section
variable {P : Program} {w0 : Base} {σ : St} {a : Act} {w : World}

theorem sOps_cons {T : Tab} {ops : Array Oper} {o : Oper} {l : List Oper} {K : St → Prop} (h : R w0 σ a w) (hs : sOps P T ops (o :: l) σ K) :
    (Region.wanted o (yielded ops a.tmps) = true ∧ ∃ σ', R w0 σ' a w ∧ sOp P T o σ' (fun σ => sOps P T ops l σ K)) ∨
    (Region.wanted o (yielded ops a.tmps) = false ∧ ∃ σ', R w0 σ' a w ∧ sSkip o σ' (fun σ => sOps P T ops l σ K)) := by
  simp only [sOps] at hs
  split at hs
  · rename_i hg
    exact .inl ⟨by simp [Region.wanted, hg], σ, h, hs⟩
  · rename_i j want hg
    split at hs
    · rename_i t ht
      have hy : ∀ b, a.tmps.getD t undef = .bool b → yielded ops a.tmps j = some b := by
        intro b hb
        have := getD_some hb (by simp [undef])
        unfold gdst at ht
        simp [yielded, ht, this]
      split at hs
      · rename_i x hl
        obtain ⟨b, rfl, hb⟩ := h.boolAt hl
        have hyb := hy b hb
        simp only [Region.wanted, hg, hyb]
        cases b with
        | true =>
          have h1 := hs.1 rfl
          cases want with
          | true => simp only [if_true] at h1; exact .inl ⟨rfl, _, h.setB hl, h1⟩
          | false => simp only [Bool.false_eq_true, if_false] at h1; exact .inr ⟨rfl, _, h.setB hl, h1⟩
        | false =>
          have h1 := hs.2 rfl
          cases want with
          | true => simp only [if_true] at h1; exact .inr ⟨rfl, _, h.setB hl, h1⟩
          | false => simp only [Bool.false_eq_true, if_false] at h1; exact .inl ⟨rfl, _, h.setB hl, h1⟩
      · rename_i hl
        have hu : a.tmps.getD t undef = undef := by
          obtain ⟨om, h⟩ := h
          exact h.tm t _ hl
        have hy0 : yielded ops a.tmps j = none := by
          unfold gdst at ht
          simp only [yielded, ht, Option.bind_some]
          rw [Array.getD_eq_getD_getElem?] at hu
          cases hq : a.tmps[t]? with
          | none => rfl
          | some u => simp [hq] at hu; subst hu; rfl
        exact .inr ⟨by simp [Region.wanted, hg, hy0], σ, h, hs⟩
      · exact hs.elim
    · exact hs.elim

theorem ord_sim {T : Tab} (hT : T.Ok P) {ops : Array Oper} {ds : List Nat} (hsel : Region.noSelect ops = true) {K : St → Prop} : ∀ (l : List Nat) (listed : Array Bool) {σ : St} {a : Act} {w : World},
    ordB T ops ds l listed = true → ClosedL .any ops listed → R w0 σ a w → sOps P T ops (pickO ops l) σ K → wpAnyG P .any ops (QN w0 K) ds l.length listed a w
  | [], listed, σ, a, w, hB, hc, h, hs => by
    simp only [ordB, List.isEmpty_iff] at hB
    exact ⟨hB, σ, h, hs⟩
  | i :: l, listed, σ, a, w, hB, hc, h, hs => by
    simp only [ordB, Bool.and_eq_true] at hB
    obtain ⟨h1, h2⟩ := hB
    split at h1
    · rename_i o ho
      simp only [pickO, ho] at hs
      have hcons := sOps_cons h hs
      cases hp : pureO T o with
      | true =>
        simp only [hp, cond_true, Bool.and_eq_true, List.all_eq_true, Bool.or_eq_true] at h1
        have hready : i ∈ Region.ready .any ops listed := by simpa using h1.1.1
        have key : ∃ v, YG P (freeO o) ops w o v a ∧ After w0 (fun σ => sOps P T ops (pickO ops l) σ K) (a.put o.dst v) w := by
          rcases hcons with ⟨hw, σ', hr, hop⟩ | ⟨hw, σ', hr, hsk⟩
          · obtain ⟨v, hrun, hK⟩ := sOp_pure hT hr hp hop
            refine ⟨v, .inl ⟨hw, fun w' hw' => ?_⟩, hK⟩
            rcases hw' with hw' | hw'
            · exact freeO_run hw' (hrun w (Below.refl _ _)) w'
            · exact hrun w' hw'
          · exact ⟨undef, .inr ⟨hw, rfl⟩, _, hr.put0 hsk.1, hsk.2⟩
        obtain ⟨v, hy, σ2, hr2, hs2⟩ := key
        exact wpAnyG_first ho (Region.noSelect_spec hsel) (fun _ _ _ h => h) l.length listed a w h1.2 hc (Region.free_spec ho h1.1.2) hready hy
          (ord_sim hT hsel l _ h2 (hc.set hready) hr2 hs2)
      | false =>
        simp only [hp, cond_false, Bool.and_eq_true, beq_iff_eq] at h1
        have hready : i ∈ Region.ready .any ops listed := by rw [h1.1]; simp
        have hcl := hc.set hready
        show wpAnyG P .any ops (QN w0 K) ds (l.length + 1) listed a w
        refine ⟨fun e => (by rw [e] at hready; cases hready), fun j hj => ?_⟩
        rw [h1.1] at hj
        simp only [List.mem_singleton] at hj
        subst hj
        unfold wpOp
        simp only [ho]
        rcases hcons with ⟨hw, σ', hr, hop⟩ | ⟨hw, σ', hr, hsk⟩
        · rw [hw, if_pos rfl]
          refine .inl ?_
          by_cases hds : ds.contains j = true
          · refine Oper.wp_mono ?_ (sOp_sound hT hr hop)
            rintro a' w' ⟨σ2, hr2, hs2⟩
            exact ⟨fun hn => absurd (by simpa using hds) hn, ord_sim hT hsel l _ h2 hcl hr2 hs2⟩
          · have hg : growO o = true := by
              have := h1.2
              simp only [Bool.or_eq_true] at this
              exact this.resolve_left hds
            refine Oper.wp_mono ?_ (sOp_grow hT hr hg hop)
            rintro a' w' ⟨hb, σ2, hr2, hs2⟩
            exact ⟨fun _ => hb, ord_sim hT hsel l _ h2 hcl hr2 hs2⟩
        · rw [hw, if_neg (by simp)]
          exact ⟨fun _ => Below.refl _ _, ord_sim hT hsel l _ h2 hcl (hr.put0 hsk.1) hsk.2⟩
    · cases h1

theorem closed_begin {ops : Array Oper} {n : Nat} : ClosedL .any ops (Array.replicate n false) := by
  intro j o _ hj
  rw [Array.getD_eq_getD_getElem?, Array.getElem?_replicate] at hj
  split at hj <;> simp at hj

/-- A region that draws its order: walked in the order l. -/
theorem sdraw {T : Tab} (hT : T.Ok P) (hm : P.follows .mixedOrders = true) {id : Nat} {ops : Array Oper} (ds l : List Nat) (hsel : Region.noSelect ops = true) (hlen : ops.size = l.length)
    (hB : ordB T ops ds l (Array.replicate ops.size false) = true) {Q : Exit → St → Prop} {σ : St} (h : sOps P T ops (pickO ops l) σ (fun σ => Q .normal σ)) : SDraw P w0 id ops Q σ := by
  intro a w hr
  have hr' : R w0 σ a { w with drawn := w.drawn + 1 } := by
    obtain ⟨om, hr⟩ := hr
    exact ⟨om, hr.world rfl rfl rfl rfl⟩
  have h1 := ord_sim (K := fun σ => Q .normal σ) hT hsel l _ hB closed_begin hr' h
  rw [← hlen] at h1
  have h2 := wp_region_any (id := id) hm (wpAny_of_G _ _ _ _ h1)
  refine wp_mono h2 ?_
  intro e a w hq
  cases e with
  | normal => exact hq
  | _ => exact hq.elim

/-! every order, one by one -/
end

/-- Orders as a tree: first 'i', then 't'; or what 'r' tells. -/
inductive OT where
  | nil
  | alt (i : Nat) (t r : OT)

def OT.heads : OT → List Nat
  | .nil => []
  | .alt i _ r => i :: r.heads

/-- The tree meets every choice. -/
def OT.ok (ops : Array Oper) : OT → Bool → Nat → Array Bool → Bool
  | .nil, first, _, listed => !first || (Region.ready .any ops listed).isEmpty
  | .alt i t r, first, fuel, listed =>
    (match fuel with
     | 0 => false
     | f + 1 => (!first || (OT.alt i t r).heads == Region.ready .any ops listed) && (ops[i]?).isSome && t.ok ops true f (listed.setIfInBounds i true)) && r.ok ops false fuel listed

def sTree (P : Program) (T : Tab) (ops : Array Oper) : OT → Bool → St → (St → Prop) → Prop
  | .nil, first, σ, K => if first then K σ else True
  | .alt i t r, _, σ, K => sOps P T ops (pickO ops [i]) σ (fun σ => sTree P T ops t true σ K) ∧ sTree P T ops r false σ K

section
variable {P : Program} {w0 : Base}

theorem sOps_one {T : Tab} (hT : T.Ok P) {ops : Array Oper} {i : Nat} {o : Oper} (ho : ops[i]? = some o) {K' K : St → Prop} {σ : St} {a : Act} {w : World} {X : Act → World → Prop} (hX : ∀ a w, After w0 K' a w → X a w) (h : R w0 σ a w) (hs : sOps P T ops [o] σ K') :
    wpOp P ops (QN w0 K) i X a w := by
  unfold wpOp
  simp only [ho]
  rcases sOps_cons h hs with ⟨hw, σ', hr, hop⟩ | ⟨hw, σ', hr, hsk⟩
  · rw [hw, if_pos rfl]
    exact .inl (Oper.wp_mono hX (sOp_sound hT hr hop))
  · rw [hw, if_neg (by simp)]
    exact hX _ _ ⟨_, hr.put0 hsk.1, hsk.2⟩

theorem tree_sim {T : Tab} (hT : T.Ok P) {ops : Array Oper} {K : St → Prop} : ∀ (t : OT) (fuel : Nat) (listed : Array Bool) {σ : St} {a : Act} {w : World}, R w0 σ a w →
    (t.ok ops true fuel listed = true → sTree P T ops t true σ K → wpAny P .any ops (QN w0 K) fuel listed a w) ∧
    (t.ok ops false fuel listed = true → sTree P T ops t false σ K → ∀ i ∈ t.heads, ∃ f, fuel = f + 1 ∧ wpOp P ops (QN w0 K) i (wpAny P .any ops (QN w0 K) f (listed.setIfInBounds i true)) a w)
  | .nil, fuel, listed, σ, a, w, h => by
    refine ⟨fun hb hs => ?_, fun _ _ i hi => by simp [OT.heads] at hi⟩
    simp only [OT.ok, Bool.not_true, Bool.false_or, List.isEmpty_iff] at hb
    simp only [sTree, if_true] at hs
    cases fuel with
    | zero => exact ⟨hb, σ, h, hs⟩
    | succ f => exact ⟨fun _ => ⟨σ, h, hs⟩, fun i hi => by rw [hb] at hi; cases hi⟩
  | .alt i t r, fuel, listed, σ, a, w, h => by
    have key : ∀ first, (OT.alt i t r).ok ops first fuel listed = true → sTree P T ops (.alt i t r) first σ K → ∀ j ∈ (OT.alt i t r).heads, ∃ f, fuel = f + 1 ∧ wpOp P ops (QN w0 K) j (wpAny P .any ops (QN w0 K) f (listed.setIfInBounds j true)) a w := by
      intro first hb hs j hj
      simp only [OT.ok, Bool.and_eq_true] at hb
      simp only [sTree] at hs
      rcases List.mem_cons.1 hj with rfl | hj
      · have hb1 := hb.1
        split at hb1
        · cases hb1
        · rename_i f
          simp only [Bool.and_eq_true] at hb1
          obtain ⟨o, ho⟩ := Option.isSome_iff_exists.1 hb1.1.2
          simp only [pickO, ho] at hs
          exact ⟨f, rfl, sOps_one hT ho (fun a w ⟨σ2, hr2, hs2⟩ => (tree_sim hT t f _ hr2).1 hb1.2 hs2) h hs.1⟩
      · exact (tree_sim hT r fuel listed h).2 hb.2 hs.2 j hj
    refine ⟨fun hb hs => ?_, fun hb hs => key false hb hs⟩
    have k := key true hb hs
    obtain ⟨f, rfl, _⟩ := k i (by simp [OT.heads])
    simp only [OT.ok, Bool.and_eq_true, Bool.not_true, Bool.false_or, beq_iff_eq] at hb
    refine ⟨fun e => ?_, fun j hj => ?_⟩
    · have := hb.1.1.1; rw [e] at this; simp [OT.heads] at this
    · rw [← hb.1.1.1] at hj
      obtain ⟨f', e, hw⟩ := k j hj
      obtain rfl : f = f' := by omega
      exact hw

/-- A region that draws its order: walked in every order. -/
theorem sdrawT {T : Tab} (hT : T.Ok P) (hm : P.follows .mixedOrders = true) {id : Nat} {ops : Array Oper} (t : OT) (hB : t.ok ops true ops.size (Array.replicate ops.size false) = true) {Q : Exit → St → Prop} {σ : St}
    (h : sTree P T ops t true σ (fun σ => Q .normal σ)) : SDraw P w0 id ops Q σ := by
  intro a w hr
  have hr' : R w0 σ a { w with drawn := w.drawn + 1 } := by
    obtain ⟨om, hr⟩ := hr
    exact ⟨om, hr.world rfl rfl rfl rfl⟩
  have h2 := wp_region_any (id := id) hm ((tree_sim hT t ops.size _ hr').1 hB h)
  refine wp_mono h2 ?_
  intro e a w hq
  cases e with
  | normal => exact hq
  | _ => exact hq.elim
def OT.isNil : OT → Bool
  | .nil => true
  | _ => false

/-- The tree meets every choice, but for what may be taken first. -/
def OT.okG (T : Tab) (ops : Array Oper) (ds : List Nat) : OT → Bool → Nat → Array Bool → Bool
  | .nil, first, _, listed => !first || (Region.ready .any ops listed).isEmpty
  | .alt i t r, first, fuel, listed =>
    (match fuel with
     | 0 => false
     | f + 1 => (match ops[i]? with
       | none => false
       | some o => bif first && pureO T o && r.isNil then (Region.ready .any ops listed).contains i && Region.free .any ops listed i && (freeO o || ds.all (fun d => listed.getD d true || reachO .any ops i ops.size d))
          else (!first || (OT.alt i t r).heads == Region.ready .any ops listed) && (ds.contains i || growO o || pureO T o)) && t.okG T ops ds true f (listed.setIfInBounds i true)) && r.okG T ops ds false fuel listed

theorem sOps_oneG {T : Tab} (hT : T.Ok P) {ops : Array Oper} {ds : List Nat} {i : Nat} {o : Oper} (ho : ops[i]? = some o) (hg : (ds.contains i || growO o || pureO T o) = true) {K' K : St → Prop} {σ : St} {a : Act} {w : World} {X : Act → World → Prop} (hX : ∀ a w, After w0 K' a w → X a w) (h : R w0 σ a w) (hs : sOps P T ops [o] σ K') :
    wpOp P ops (QN w0 K) i (fun a' w' => (i ∉ ds → Below w.heap.size w w') ∧ X a' w') a w := by
  unfold wpOp
  simp only [ho]
  rcases sOps_cons h hs with ⟨hw, σ', hr, hop⟩ | ⟨hw, σ', hr, hsk⟩
  · rw [hw, if_pos rfl]
    refine .inl ?_
    cases hd : ds.contains i with
    | true => exact Oper.wp_mono (fun a' w' h => ⟨fun hn => absurd (by simpa using hd) hn, hX _ _ h⟩) (sOp_sound hT hr hop)
    | false =>
      cases hgr : growO o with
      | true => exact Oper.wp_mono (fun a' w' h => ⟨fun _ => h.1, hX _ _ h.2⟩) (sOp_grow hT hr hgr hop)
      | false =>
        have hp : pureO T o = true := by simp only [hd, hgr, Bool.false_or] at hg; exact hg
        obtain ⟨v, hrun, hK⟩ := sOp_pure hT hr hp hop
        unfold Oper.wp
        rw [hrun w (Below.refl _ _), Oper.upon_value]
        exact ⟨fun _ => Below.refl _ _, hX _ _ hK⟩
  · rw [hw, if_neg (by simp)]
    exact ⟨fun _ => Below.refl _ _, hX _ _ ⟨_, hr.put0 hsk.1, hsk.2⟩⟩

theorem treeG_sim {T : Tab} (hT : T.Ok P) {ops : Array Oper} {ds : List Nat} (hsel : Region.noSelect ops = true) {K : St → Prop} : ∀ (t : OT) (fuel : Nat) (listed : Array Bool) {σ : St} {a : Act} {w : World}, ClosedL .any ops listed → R w0 σ a w →
    (t.okG T ops ds true fuel listed = true → sTree P T ops t true σ K → wpAnyG P .any ops (QN w0 K) ds fuel listed a w) ∧
    (t.okG T ops ds false fuel listed = true → sTree P T ops t false σ K → (∀ i ∈ t.heads, i ∈ Region.ready .any ops listed) → ∀ i ∈ t.heads, ∃ f, fuel = f + 1 ∧ wpOp P ops (QN w0 K) i (fun a' w' => (i ∉ ds → Below w.heap.size w w') ∧ wpAnyG P .any ops (QN w0 K) ds f (listed.setIfInBounds i true) a' w') a w)
  | .nil, fuel, listed, σ, a, w, hc, h => by
    refine ⟨fun hb hs => ?_, fun _ _ _ i hi => by simp [OT.heads] at hi⟩
    simp only [OT.okG, Bool.not_true, Bool.false_or, List.isEmpty_iff] at hb
    simp only [sTree, if_true] at hs
    cases fuel with
    | zero => exact ⟨hb, σ, h, hs⟩
    | succ f => exact ⟨fun _ => ⟨σ, h, hs⟩, fun i hi => by rw [hb] at hi; cases hi⟩
  | .alt i t r, fuel, listed, σ, a, w, hc, h => by
    have key : ∀ first, (∀ j ∈ (OT.alt i t r).heads, j ∈ Region.ready .any ops listed) → (first && (match ops[i]? with | some o => pureO T o | none => false) && r.isNil) = false → (OT.alt i t r).okG T ops ds first fuel listed = true → sTree P T ops (.alt i t r) first σ K → ∀ j ∈ (OT.alt i t r).heads, ∃ f, fuel = f + 1 ∧ wpOp P ops (QN w0 K) j (fun a' w' => (j ∉ ds → Below w.heap.size w w') ∧ wpAnyG P .any ops (QN w0 K) ds f (listed.setIfInBounds j true) a' w') a w := by
      intro first hrd hnp hb hs j hj
      simp only [OT.okG, Bool.and_eq_true] at hb
      simp only [sTree] at hs
      rcases List.mem_cons.1 hj with rfl | hj
      · have hb1 := hb.1
        split at hb1
        · cases hb1
        · rename_i f
          split at hb1
          · simp at hb1
          · rename_i o ho
            simp only [ho] at hnp
            simp only [hnp, cond_false, Bool.and_eq_true] at hb1
            simp only [pickO, ho] at hs
            exact ⟨f, rfl, sOps_oneG hT ho hb1.1.2 (fun a w ⟨σ2, hr2, hs2⟩ => (treeG_sim hT hsel t f _ (hc.set (hrd j (by simp [OT.heads]))) hr2).1 hb1.2 hs2) h hs.1⟩
      · exact (treeG_sim hT hsel r fuel listed hc h).2 hb.2 hs.2 (fun k hk => hrd k (List.mem_cons_of_mem _ hk)) j hj
    refine ⟨fun hb hs => ?_, fun hb hs hrd => key false hrd (by simp) hb hs⟩
    cases hnp : (true && (match ops[i]? with | some o => pureO T o | none => false) && r.isNil) with
    | false =>
      have hrd : (OT.alt i t r).heads = Region.ready .any ops listed := by
        have hb1 := hb
        simp only [OT.okG, Bool.and_eq_true] at hb1
        have hb2 := hb1.1
        split at hb2
        · cases hb2
        · split at hb2
          · simp at hb2
          · rename_i o ho
            simp only [ho] at hnp
            simp only [hnp, cond_false, Bool.and_eq_true, Bool.not_true, Bool.false_or, beq_iff_eq] at hb2
            exact hb2.1.1
      have k := key true (fun j hj => by rw [hrd] at hj; exact hj) hnp hb hs
      obtain ⟨f, rfl, _⟩ := k i (by simp [OT.heads])
      refine ⟨fun e => ?_, fun j hj => ?_⟩
      · rw [e] at hrd; simp [OT.heads] at hrd
      · rw [← hrd] at hj
        obtain ⟨f', e, hw⟩ := k j hj
        obtain rfl : f = f' := by omega
        exact hw
    | true =>
      simp only [OT.okG, Bool.and_eq_true] at hb
      have hb1 := hb.1
      split at hb1
      · cases hb1
      · rename_i f
        split at hb1
        · simp at hb1
        · rename_i o ho
          simp only [ho] at hnp
          simp only [hnp, cond_true, Bool.and_eq_true, Bool.or_eq_true, List.all_eq_true] at hb1
          have hp : pureO T o = true := by simp at hnp; exact hnp.1
          have hready : i ∈ Region.ready .any ops listed := by simpa using hb1.1.1.1
          simp only [sTree, pickO, ho] at hs
          have key : ∃ v, YG P (freeO o) ops w o v a ∧ After w0 (fun σ => sTree P T ops t true σ K) (a.put o.dst v) w := by
            rcases sOps_cons h hs.1 with ⟨hw, σ', hr, hop⟩ | ⟨hw, σ', hr, hsk⟩
            · obtain ⟨v, hrun, hK⟩ := sOp_pure hT hr hp hop
              refine ⟨v, .inl ⟨hw, fun w' hw' => ?_⟩, hK⟩
              rcases hw' with hw' | hw'
              · exact freeO_run hw' (hrun w (Below.refl _ _)) w'
              · exact hrun w' hw'
            · exact ⟨undef, .inr ⟨hw, rfl⟩, _, hr.put0 hsk.1, hsk.2⟩
          obtain ⟨v, hy, σ2, hr2, hs2⟩ := key
          exact wpAnyG_first ho (Region.noSelect_spec hsel) (fun _ _ _ h => h) f listed a w (by simpa using hb1.1.2) hc (Region.free_spec ho hb1.1.1.2) hready hy
            ((treeG_sim hT hsel t f _ (hc.set hready) hr2).1 hb1.2 hs2)

/-- A region that draws its order: walked in every order of what isn't free to be taken first; behind it, one state for all. -/
theorem sdrawM {T : Tab} (hT : T.Ok P) (hm : P.follows .mixedOrders = true) {id : Nat} {ops : Array Oper} (ds : List Nat) (t : OT) (σ' : St) (hsel : Region.noSelect ops = true) (hB : t.okG T ops ds true ops.size (Array.replicate ops.size false) = true) {Q : Exit → St → Prop} {σ : St}
    (h : sTree P T ops t true σ (fun σ => Sub w0 σ σ')) (hk : Q .normal σ') : SDraw P w0 id ops Q σ := by
  intro a w hr
  have hr' : R w0 σ a { w with drawn := w.drawn + 1 } := by
    obtain ⟨om, hr⟩ := hr
    exact ⟨om, hr.world rfl rfl rfl rfl⟩
  have h2 := wp_region_any (id := id) hm (wpAny_of_G _ _ _ _ ((treeG_sim hT hsel t ops.size _ closed_begin hr').1 hB h))
  refine wp_mono h2 ?_
  intro e a w hq
  cases e with
  | normal => obtain ⟨σ2, hr2, hs⟩ := hq; exact ⟨σ', hs a w hr2, hk⟩
  | _ => exact hq.elim
theorem tr_nil {T : Tab} {ops : Array Oper} {σ : St} {K : St → Prop} : sTree P T ops .nil true σ K = K σ := rfl
theorem tr_nil' {T : Tab} {ops : Array Oper} {σ : St} {K : St → Prop} : sTree P T ops .nil false σ K = True := rfl
theorem tr_alt {T : Tab} {ops : Array Oper} {i : Nat} {t r : OT} {b : Bool} {σ : St} {K : St → Prop} : sTree P T ops (.alt i t r) b σ K = (sOps P T ops (pickO ops [i]) σ (fun σ => sTree P T ops t true σ K) ∧ sTree P T ops r false σ K) := rfl
end
end Go.SE
