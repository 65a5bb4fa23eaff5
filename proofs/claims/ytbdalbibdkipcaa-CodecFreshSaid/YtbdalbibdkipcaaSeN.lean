/- Code: rows of operations, branches, blocks; a function's contract by its text. -/
import Derived.Test.YtbdalbibdkipcaaSeM
import Derived.Orders
import Derived.Scope
set_option linter.unusedVariables false
set_option linter.unusedSimpArgs false
set_option linter.constructorNameAsVariable false
namespace Go.SE
open Go.RowKit (Below)

def gdst (ops : Array Oper) (j : Nat) : Option Nat := (ops[j]?).bind (·.dst)
def St.setB (σ : St) (t : Nat) (b : Bool) : St := { σ with tm := (t, .v (.d .bool (.b b))) :: σ.tm }

def sSkip (o : Oper) (σ : St) (K : St → Prop) : Prop := dstOk o.dst σ.nt ∧ K (σ.put o.dst .u)
@[congr] theorem sSkip_congr {o : Oper} {σ σ' : St} {K : St → Prop} (h : σ = σ') : sSkip o σ K = sSkip o σ' K := by rw [h]

def sOps (P : Program) (T : Tab) (ops : Array Oper) : List Oper → St → (St → Prop) → Prop
  | [], σ, K => K σ
  | o :: l, σ, K =>
    match o.guard with
    | none => sOp P T o σ (fun σ => sOps P T ops l σ K)
    | some (j, want) =>
      match gdst ops j with
      | some t => match look σ.tm t with
        | some (.v (.d .bool x)) => sIf x.bool
          (if want then sOp P T o (σ.setB t true) (fun σ => sOps P T ops l σ K) else sSkip o (σ.setB t true) (fun σ => sOps P T ops l σ K))
          (if want then sSkip o (σ.setB t false) (fun σ => sOps P T ops l σ K) else sOp P T o (σ.setB t false) (fun σ => sOps P T ops l σ K))
        | some .u => sSkip o σ (fun σ => sOps P T ops l σ K)
        | _ => False
      | none => False
@[congr] theorem sOps_congr {P : Program} {T : Tab} {ops : Array Oper} {l : List Oper} {σ σ' : St} {K : St → Prop} (h : σ = σ') : sOps P T ops l σ K = sOps P T ops l σ' K := by rw [h]

def conc (w0 : Base) (Q : Exit → St → Prop) : Exit → Act → World → Prop := fun e a w => ∃ σ, R w0 σ a w ∧ Q e σ

/-- Within a loop, at a round's beginning. -/
def LoopAt (P : Program) (c : Code) (Q : Exit → Act → World → Prop) (a : Act) (w : World) : Prop :=
  ∀ (b : Frame) (k : List Item) (cs : List Frame), ∃ e a' w', Q e a' w' ∧ Arrives P (lone (b.at a (.code c :: .inLoop c :: k)) cs w) b k cs e a' w'

theorem loopAt_step {P : Program} {c : Code} {Q : Exit → Act → World → Prop} {a : Act} {w : World} (h : c.wp P (Exit.then (fun a w => LoopAt P c Q a w) Q) a w) : LoopAt P c Q a w := by
  intro b k cs
  obtain ⟨e, a₁, w₁, hq, harr⟩ := h b (.inLoop c :: k) cs
  cases e with
  | normal =>
    obtain ⟨e₂, a₂, w₂, hq₂, harr₂⟩ := hq b k cs
    exact ⟨e₂, a₂, w₂, hq₂, .of_steps (Steps.trans harr (.one step_inLoop)) harr₂⟩
  | exit id => exact ⟨_, a₁, w₁, hq, .pass (x := .inLoop c) rfl (fun _ _ => .inl (by simp)) harr⟩
  | goto l => exact ⟨_, a₁, w₁, hq, .pass (x := .inLoop c) rfl (fun _ _ => .inl (by simp)) harr⟩
  | ret => exact ⟨_, a₁, w₁, hq, .pass (x := .inLoop c) rfl (fun _ _ => .inl (by simp)) harr⟩
  | panic ch => exact ⟨_, a₁, w₁, hq, .pass (x := .inLoop c) rfl (fun _ _ => .inl (by simp)) harr⟩
  | outgrown => exact ⟨_, a₁, w₁, hq, .pass (x := .inLoop c) rfl (fun _ _ => .inl (by simp)) harr⟩

def SLoop (P : Program) (w0 : Base) (c : Code) (Q : Exit → St → Prop) (σ : St) : Prop := ∀ a w, R w0 σ a w → LoopAt P c (conc w0 Q) a w
@[congr] theorem SLoop_congr {P : Program} {w0 : Base} {c : Code} {Q : Exit → St → Prop} {σ σ' : St} (h : σ = σ') : SLoop P w0 c Q σ = SLoop P w0 c Q σ' := by rw [h]

def SDraw (P : Program) (w0 : Base) (id : Nat) (ops : Array Oper) (Q : Exit → St → Prop) (σ : St) : Prop := ∀ a w, R w0 σ a w → (Code.region id ops true).wp P (conc w0 Q) a w
@[congr] theorem SDraw_congr {P : Program} {w0 : Base} {id : Nat} {ops : Array Oper} {Q : Exit → St → Prop} {σ σ' : St} (h : σ = σ') : SDraw P w0 id ops Q σ = SDraw P w0 id ops Q σ' := by rw [h]

def sThen (K : St → Prop) (Q : Exit → St → Prop) : Exit → St → Prop
  | .normal, σ => K σ
  | e, σ => Q e σ
@[congr] theorem sThen_congr {K : St → Prop} {Q : Exit → St → Prop} {e e' : Exit} {σ σ' : St} (he : e = e') (h : σ = σ') : sThen K Q e σ = sThen K Q e' σ' := by rw [he, h]
theorem sThen_normal {K : St → Prop} {Q : Exit → St → Prop} {σ : St} : sThen K Q .normal σ = K σ := rfl
theorem sThen_ret {K : St → Prop} {Q : Exit → St → Prop} {σ : St} : sThen K Q .ret σ = Q .ret σ := rfl
theorem sThen_exit {K : St → Prop} {Q : Exit → St → Prop} {i : Nat} {σ : St} : sThen K Q (.exit i) σ = Q (.exit i) σ := rfl

def sBlock (id : Nat) (Q : Exit → St → Prop) : Exit → St → Prop
  | .exit i, σ => if i = id then Q .normal σ else Q (.exit i) σ
  | e, σ => Q e σ
@[congr] theorem sBlock_congr {id : Nat} {Q : Exit → St → Prop} {e e' : Exit} {σ σ' : St} (he : e = e') (h : σ = σ') : sBlock id Q e σ = sBlock id Q e' σ' := by rw [he, h]
theorem sBlock_normal {id : Nat} {Q : Exit → St → Prop} {σ : St} : sBlock id Q .normal σ = Q .normal σ := rfl
theorem sBlock_ret {id : Nat} {Q : Exit → St → Prop} {σ : St} : sBlock id Q .ret σ = Q .ret σ := rfl
theorem sBlock_exit {id i : Nat} {Q : Exit → St → Prop} {σ : St} : sBlock id Q (.exit i) σ = if i = id then Q .normal σ else Q (.exit i) σ := rfl

/-- Within the reach of labels that no jump goes to. -/
def sScope (Q : Exit → St → Prop) : Exit → St → Prop
  | .goto _, _ => False
  | e, σ => Q e σ
@[congr] theorem sScope_congr {Q : Exit → St → Prop} {e e' : Exit} {σ σ' : St} (he : e = e') (h : σ = σ') : sScope Q e σ = sScope Q e' σ' := by rw [he, h]
theorem sScope_normal {Q : Exit → St → Prop} {σ : St} : sScope Q .normal σ = Q .normal σ := rfl
theorem sScope_ret {Q : Exit → St → Prop} {σ : St} : sScope Q .ret σ = Q .ret σ := rfl
theorem sScope_exit {Q : Exit → St → Prop} {i : Nat} {σ : St} : sScope Q (.exit i) σ = Q (.exit i) σ := rfl

def swp (P : Program) (T : Tab) (w0 : Base) : Code → (Exit → St → Prop) → St → Prop
  | .skip, Q, σ => Q .normal σ
  | .label _, Q, σ => Q .normal σ
  | .region id ops draw, Q, σ => if draw then SDraw P w0 id ops Q σ else sOps P T ops ops.toList σ (fun σ => Q .normal σ)
  | .seq x y, Q, σ => swp P T w0 x (sThen (fun σ => swp P T w0 y Q σ) Q) σ
  | .cond (.tmp t) x y, Q, σ => match look σ.tm t with
    | some (.v (.d .bool b)) => sIf b.bool (swp P T w0 x Q (σ.setB t true)) (swp P T w0 y Q (σ.setB t false))
    | _ => False
  | .cond (.const (.bool b)) x y, Q, σ => if b then swp P T w0 x Q σ else swp P T w0 y Q σ
  | .block id c, Q, σ => swp P T w0 c (sBlock id Q) σ
  | .loop c, Q, σ => SLoop P w0 c Q σ
  | .scope c, Q, σ => swp P T w0 c (sScope Q) σ
  | .exit id, Q, σ => Q (.exit id) σ
  | .ret, Q, σ => Q .ret σ
  | _, _, _ => False
@[congr] theorem swp_congr {P : Program} {T : Tab} {w0 : Base} {c : Code} {Q : Exit → St → Prop} {σ σ' : St} (h : σ = σ') : swp P T w0 c Q σ = swp P T w0 c Q σ' := by rw [h]

section
variable {P : Program} {w0 : Base} {σ : St} {a : Act} {w : World}

theorem R.setB (h : R w0 σ a w) {t : Nat} {b : Bool} (hl : look σ.tm t = some (.v (.d .bool (.b b)))) : R w0 (σ.setB t b) a w := by
  obtain ⟨om, h⟩ := h
  refine ⟨om, h.below, h.hF, h.defers, h.nt, ?_, h.ob, h.apart, h.fresh⟩
  intro u y hy
  simp only [St.setB, look] at hy
  by_cases e : t = u
  · subst e
    simp only [if_true, Option.some.injEq] at hy
    subst hy
    exact h.tm t _ hl
  · simp only [e, if_false] at hy
    exact h.tm u y hy

theorem R.boolAt (h : R w0 σ a w) {t : Nat} {x : D} (hl : look σ.tm t = some (.v (.d .bool x))) : ∃ b, x = .b b ∧ a.tmps.getD t undef = .bool b := by
  obtain ⟨om, h⟩ := h
  obtain ⟨b, e, hx⟩ := (h.tm t _ hl : Val1 _ _ _ _ _).data.bool
  exact ⟨b, hx, e⟩

theorem R.put0 {dst : Option Nat} (h : R w0 σ a w) (hd : dstOk dst σ.nt) : R w0 (σ.put dst .u) (a.put dst undef) w := by
  obtain ⟨om, h⟩ := h
  exact ⟨om, h.put0 hd⟩

theorem getD_some {tm : Array Value} {t : Nat} {v : Value} (h : tm.getD t undef = v) (hv : v ≠ undef) : tm[t]? = some v := by
  rw [Array.getD_eq_getD_getElem?] at h
  cases hq : tm[t]? with
  | none => simp [hq] at h; exact absurd h.symm hv
  | some u => simp [hq] at h; rw [h]

theorem sOps_sound {T : Tab} (hT : T.Ok P) {ops : Array Oper} {Q : Exit → Act → World → Prop} {K : St → Prop} (hQ : ∀ a w, After w0 K a w → Q .normal a w) :
    ∀ {l : List Oper} {k : Nat} {σ : St} {a : Act} {w : World}, ops.toList.drop k = l → R w0 σ a w → sOps P T ops l σ K → wpOps P ops Q (List.range' k l.length) a w
  | [], k, σ, a, w, _, h, hs => by
    simp only [List.length_nil, List.range'_zero, wpOps]
    exact hQ a w ⟨σ, h, hs⟩
  | o :: l, k, σ, a, w, hk, h, hs => by
    have ho : ops[k]? = some o := by
      rw [← Array.getElem?_toList]
      have := congrArg (·[0]?) hk
      simpa using this
    have hk' : ops.toList.drop (k + 1) = l := by
      have := congrArg (List.drop 1) hk
      simpa [List.drop_drop] using this
    simp only [List.length_cons, List.range'_succ, wpOps, ho]
    have run : ∀ {σ : St}, R w0 σ a w → sOp P T o σ (fun σ => sOps P T ops l σ K) → o.wp P a w (wpOps P ops Q (List.range' (k + 1) l.length)) Q := by
      intro σ h hs
      have := sOp_sound (Q := Q) hT h hs
      exact Oper.wp_mono (fun a w ⟨σ, h, hs⟩ => sOps_sound hT hQ hk' h hs) this
    have skp : ∀ {σ : St}, R w0 σ a w → sSkip o σ (fun σ => sOps P T ops l σ K) → wpOps P ops Q (List.range' (k + 1) l.length) (a.put o.dst undef) w := by
      intro σ h hs
      exact sOps_sound hT hQ hk' (h.put0 hs.1) hs.2
    simp only [sOps] at hs
    split at hs
    · rename_i hg
      simp only [Region.wanted, hg, if_true]
      exact .inl (run h hs)
    · rename_i j want hg
      split at hs
      · rename_i t ht
        have hy : ∀ b, a.tmps.getD t undef = .bool b → yielded ops a.tmps j = some b := by
          intro b hb
          have := getD_some hb (by simp [undef])
          unfold gdst at ht
          simp [yielded, ht, this]
        split at hs
        · rename_i x hl
          obtain ⟨b, rfl, hb⟩ := h.boolAt hl
          have hyb := hy b hb
          simp only [Region.wanted, hg, hyb]
          cases b with
          | true =>
            have h1 := hs.1 rfl
            cases want with
            | true => simp only [if_true] at h1; simp only [BEq.rfl, if_true]; exact .inl (run (h.setB hl) h1)
            | false => simp only [Bool.false_eq_true, if_false] at h1; simp only [show ((some true : Option Bool) == some false) = false from rfl, Bool.false_eq_true, if_false]; exact skp (h.setB hl) h1
          | false =>
            have h1 := hs.2 rfl
            cases want with
            | true => simp only [if_true] at h1; simp only [show ((some false : Option Bool) == some true) = false from rfl, Bool.false_eq_true, if_false]; exact skp (h.setB hl) h1
            | false => simp only [Bool.false_eq_true, if_false] at h1; simp only [BEq.rfl, if_true]; exact .inl (run (h.setB hl) h1)
        · rename_i hl
          have hu : a.tmps.getD t undef = undef := by
            obtain ⟨om, h⟩ := h
            exact h.tm t _ hl
          have : (yielded ops a.tmps j == some want) = false := by
            have hy0 : yielded ops a.tmps j = none := by
              unfold gdst at ht
              simp only [yielded, ht, Option.bind_some]
              rw [Array.getD_eq_getD_getElem?] at hu
              cases hq : a.tmps[t]? with
              | none => rfl
              | some u => simp [hq] at hu; subst hu; rfl
            rw [hy0]; rfl
          simp only [Region.wanted, hg, this, Bool.false_eq_true, if_false]
          exact skp h hs
        · exact hs.elim
      · exact hs.elim

theorem conc_mono {Q Q' : Exit → St → Prop} (h : ∀ e σ, Q e σ → Q' e σ) : ∀ e a w, conc w0 Q e a w → conc w0 Q' e a w := fun e _ _ ⟨σ, hr, hq⟩ => ⟨σ, hr, h e σ hq⟩

theorem swp_sound {T : Tab} (hT : T.Ok P) : ∀ {c : Code} {Q : Exit → St → Prop} {σ : St} {a : Act} {w : World}, R w0 σ a w → swp P T w0 c Q σ → c.wp P (conc w0 Q) a w
  | .skip, Q, σ, a, w, h, hs => wp_skip ⟨σ, h, hs⟩
  | .label _, Q, σ, a, w, h, hs => wp_label ⟨σ, h, hs⟩
  | .exit _, Q, σ, a, w, h, hs => wp_exit ⟨σ, h, hs⟩
  | .ret, Q, σ, a, w, h, hs => wp_ret ⟨σ, h, hs⟩
  | .region id ops true, Q, σ, a, w, h, hs => by
    simp only [swp, if_true] at hs
    exact hs a w h
  | .region id ops false, Q, σ, a, w, h, hs => by
    simp only [swp, Bool.false_eq_true, if_false] at hs
    refine wp_region ?_
    have := sOps_sound hT (Q := conc w0 Q) (K := fun σ => Q .normal σ) (fun a w h => h) (l := ops.toList) (k := 0) (by simp) h hs
    rw [List.range_eq_range']
    simpa using this
  | .seq x y, Q, σ, a, w, h, hs => by
    refine wp_seq ?_
    refine wp_mono (swp_sound hT h hs) ?_
    rintro e a w ⟨σ, hr, hq⟩
    cases e with
    | normal => exact swp_sound hT hr hq
    | _ => exact ⟨σ, hr, hq⟩
  | .cond (.tmp t) x y, Q, σ, a, w, h, hs => by
    simp only [swp] at hs
    split at hs
    · rename_i x' hl
      obtain ⟨b, rfl, hb⟩ := h.boolAt hl
      cases b with
      | true => exact wp_cond_true hb (swp_sound hT (h.setB hl) (hs.1 rfl))
      | false => exact wp_cond_false hb (swp_sound hT (h.setB hl) (hs.2 rfl))
    · exact hs.elim
  | .cond (.const (.bool true)) x y, Q, σ, a, w, h, hs => by
    simp only [swp, if_true] at hs
    exact wp_cond_true rfl (swp_sound hT h hs)
  | .cond (.const (.bool false)) x y, Q, σ, a, w, h, hs => by
    simp only [swp, Bool.false_eq_true, if_false] at hs
    exact wp_cond_false rfl (swp_sound hT h hs)
  | .block id c, Q, σ, a, w, h, hs => by
    refine wp_block ?_
    refine wp_mono (swp_sound hT h hs) ?_
    rintro e a w ⟨σ, hr, hq⟩
    cases e with
    | exit i =>
      simp only [sBlock] at hq
      simp only [Exit.inBlock]
      split at hq
      · rename_i e; rw [if_pos e]; exact ⟨σ, hr, hq⟩
      · rename_i e; rw [if_neg e]; exact ⟨σ, hr, hq⟩
    | _ => exact ⟨σ, hr, hq⟩
  | .loop c, Q, σ, a, w, h, hs => fun b k cs => by
    obtain ⟨e, a', w', hq, harr⟩ := hs a w h b k cs
    exact ⟨e, a', w', hq, .of_steps (.one step_loop) harr⟩
  | .rangeFunc .., _, _, _, _, _, hs => hs.elim
  | .scope c, Q, σ, a, w, h, hs => by
    refine wp_scope_straight ?_
    refine wp_mono (swp_sound hT h hs) ?_
    rintro e a w ⟨σ, hr, hq⟩
    cases e with
    | goto l => exact hq.elim
    | _ => exact ⟨σ, hr, hq⟩
  | .goto _, _, _, _, _, _, hs => hs.elim
  | .refuse _, _, _, _, _, _, hs => hs.elim
  | .cond (.global _) _ _, _, _, _, _, _, hs => hs.elim
  | .cond (.func _) _ _, _, _, _, _, _, hs => hs.elim
  | .cond (.const v) x y, Q, σ, a, w, h, hs => by
    cases v with
    | bool b =>
      cases b with
      | true => simp only [swp, if_true] at hs; exact wp_cond_true rfl (swp_sound hT h hs)
      | false => simp only [swp, Bool.false_eq_true, if_false] at hs; exact wp_cond_false rfl (swp_sound hT h hs)
    | _ => exact hs.elim

end
end Go.SE
