/- Merged: SeN SeO SeP SeQ SeR Tb SeS WiA WiB WiC WiD. -/
import Derived.Orders
import Derived.Scope
import Derived.IntWalk
import Derived.KernelRfl
import Derived.Test.YtmafojaagmneoaaDoorProg
import Derived.ProofKit
import Derived.SizedLaws
import Derived.Laws.Externs
import Derived.Shelf.Spec.BitsCarry
import Derived.Laws.BitsAllLaws
import Derived.Test.YtmafojaagmneoaaDoorMSRight0
set_option linter.unusedVariables false
set_option linter.unusedSimpArgs false
set_option linter.constructorNameAsVariable false
/- Code: rows of operations, branches, blocks; a function's contract by its text. -/
namespace Go.SE
open Go.RowKit (Below)

def gdst (ops : Array Oper) (j : Nat) : Option Nat := (ops[j]?).bind (·.dst)
def St.setB (σ : St) (t : Nat) (b : Bool) : St := { σ with tm := (t, .v (.d .bool (.b b))) :: σ.tm }

def sSkip (o : Oper) (σ : St) (K : St → Prop) : Prop := dstOk o.dst σ.nt ∧ K (σ.put o.dst .u)
@[congr] theorem sSkip_congr {o : Oper} {σ σ' : St} {K : St → Prop} (h : σ = σ') : sSkip o σ K = sSkip o σ' K := by rw [h]

def sOps (P : Program) (T : Tab) (ops : Array Oper) : List Oper → St → (St → Prop) → Prop
  | [], σ, K => K σ
  | o :: l, σ, K =>
    match o.guard with
    | none => sOp P T o σ (fun σ => sOps P T ops l σ K)
    | some (j, want) =>
      match gdst ops j with
      | some t => match look σ.tm t with
        | some (.v (.d .bool x)) => sIf x.bool
          (if want then sOp P T o (σ.setB t true) (fun σ => sOps P T ops l σ K) else sSkip o (σ.setB t true) (fun σ => sOps P T ops l σ K))
          (if want then sSkip o (σ.setB t false) (fun σ => sOps P T ops l σ K) else sOp P T o (σ.setB t false) (fun σ => sOps P T ops l σ K))
        | some .u => sSkip o σ (fun σ => sOps P T ops l σ K)
        | _ => False
      | none => False
@[congr] theorem sOps_congr {P : Program} {T : Tab} {ops : Array Oper} {l : List Oper} {σ σ' : St} {K : St → Prop} (h : σ = σ') : sOps P T ops l σ K = sOps P T ops l σ' K := by rw [h]

def conc (w0 : Base) (Q : Exit → St → Prop) : Exit → Act → World → Prop := fun e a w => ∃ σ, R w0 σ a w ∧ Q e σ

/-- Within a loop, at a round's beginning. -/
def LoopAt (P : Program) (c : Code) (Q : Exit → Act → World → Prop) (a : Act) (w : World) : Prop :=
  ∀ (b : Frame) (k : List Item) (cs : List Frame), ∃ e a' w', Q e a' w' ∧ Arrives P (lone (b.at a (.code c :: .inLoop c :: k)) cs w) b k cs e a' w'

theorem loopAt_step {P : Program} {c : Code} {Q : Exit → Act → World → Prop} {a : Act} {w : World} (h : c.wp P (Exit.then (fun a w => LoopAt P c Q a w) Q) a w) : LoopAt P c Q a w := by
  intro b k cs
  obtain ⟨e, a₁, w₁, hq, harr⟩ := h b (.inLoop c :: k) cs
  cases e with
  | normal =>
    obtain ⟨e₂, a₂, w₂, hq₂, harr₂⟩ := hq b k cs
    exact ⟨e₂, a₂, w₂, hq₂, .of_steps (Steps.trans harr (.one step_inLoop)) harr₂⟩
  | exit id => exact ⟨_, a₁, w₁, hq, .pass (x := .inLoop c) rfl (fun _ _ => .inl (by simp)) harr⟩
  | goto l => exact ⟨_, a₁, w₁, hq, .pass (x := .inLoop c) rfl (fun _ _ => .inl (by simp)) harr⟩
  | ret => exact ⟨_, a₁, w₁, hq, .pass (x := .inLoop c) rfl (fun _ _ => .inl (by simp)) harr⟩
  | panic ch => exact ⟨_, a₁, w₁, hq, .pass (x := .inLoop c) rfl (fun _ _ => .inl (by simp)) harr⟩
  | outgrown => exact ⟨_, a₁, w₁, hq, .pass (x := .inLoop c) rfl (fun _ _ => .inl (by simp)) harr⟩

def SLoop (P : Program) (w0 : Base) (c : Code) (Q : Exit → St → Prop) (σ : St) : Prop := ∀ a w, R w0 σ a w → LoopAt P c (conc w0 Q) a w
@[congr] theorem SLoop_congr {P : Program} {w0 : Base} {c : Code} {Q : Exit → St → Prop} {σ σ' : St} (h : σ = σ') : SLoop P w0 c Q σ = SLoop P w0 c Q σ' := by rw [h]

def SDraw (P : Program) (w0 : Base) (id : Nat) (ops : Array Oper) (Q : Exit → St → Prop) (σ : St) : Prop := ∀ a w, R w0 σ a w → (Code.region id ops true).wp P (conc w0 Q) a w
@[congr] theorem SDraw_congr {P : Program} {w0 : Base} {id : Nat} {ops : Array Oper} {Q : Exit → St → Prop} {σ σ' : St} (h : σ = σ') : SDraw P w0 id ops Q σ = SDraw P w0 id ops Q σ' := by rw [h]

def sThen (K : St → Prop) (Q : Exit → St → Prop) : Exit → St → Prop
  | .normal, σ => K σ
  | e, σ => Q e σ
@[congr] theorem sThen_congr {K : St → Prop} {Q : Exit → St → Prop} {e e' : Exit} {σ σ' : St} (he : e = e') (h : σ = σ') : sThen K Q e σ = sThen K Q e' σ' := by rw [he, h]
theorem sThen_normal {K : St → Prop} {Q : Exit → St → Prop} {σ : St} : sThen K Q .normal σ = K σ := rfl
theorem sThen_ret {K : St → Prop} {Q : Exit → St → Prop} {σ : St} : sThen K Q .ret σ = Q .ret σ := rfl
theorem sThen_exit {K : St → Prop} {Q : Exit → St → Prop} {i : Nat} {σ : St} : sThen K Q (.exit i) σ = Q (.exit i) σ := rfl

def sBlock (id : Nat) (Q : Exit → St → Prop) : Exit → St → Prop
  | .exit i, σ => if i = id then Q .normal σ else Q (.exit i) σ
  | e, σ => Q e σ
@[congr] theorem sBlock_congr {id : Nat} {Q : Exit → St → Prop} {e e' : Exit} {σ σ' : St} (he : e = e') (h : σ = σ') : sBlock id Q e σ = sBlock id Q e' σ' := by rw [he, h]
theorem sBlock_normal {id : Nat} {Q : Exit → St → Prop} {σ : St} : sBlock id Q .normal σ = Q .normal σ := rfl
theorem sBlock_ret {id : Nat} {Q : Exit → St → Prop} {σ : St} : sBlock id Q .ret σ = Q .ret σ := rfl
theorem sBlock_exit {id i : Nat} {Q : Exit → St → Prop} {σ : St} : sBlock id Q (.exit i) σ = if i = id then Q .normal σ else Q (.exit i) σ := rfl

/-- Within the reach of labels that no jump goes to. -/
def sScope (Q : Exit → St → Prop) : Exit → St → Prop
  | .goto _, _ => False
  | e, σ => Q e σ
@[congr] theorem sScope_congr {Q : Exit → St → Prop} {e e' : Exit} {σ σ' : St} (he : e = e') (h : σ = σ') : sScope Q e σ = sScope Q e' σ' := by rw [he, h]
theorem sScope_normal {Q : Exit → St → Prop} {σ : St} : sScope Q .normal σ = Q .normal σ := rfl
theorem sScope_ret {Q : Exit → St → Prop} {σ : St} : sScope Q .ret σ = Q .ret σ := rfl
theorem sScope_exit {Q : Exit → St → Prop} {i : Nat} {σ : St} : sScope Q (.exit i) σ = Q (.exit i) σ := rfl

def swp (P : Program) (T : Tab) (w0 : Base) : Code → (Exit → St → Prop) → St → Prop
  | .skip, Q, σ => Q .normal σ
  | .label _, Q, σ => Q .normal σ
  | .region id ops draw, Q, σ => if draw then SDraw P w0 id ops Q σ else sOps P T ops ops.toList σ (fun σ => Q .normal σ)
  | .seq x y, Q, σ => swp P T w0 x (sThen (fun σ => swp P T w0 y Q σ) Q) σ
  | .cond (.tmp t) x y, Q, σ => match look σ.tm t with
    | some (.v (.d .bool b)) => sIf b.bool (swp P T w0 x Q (σ.setB t true)) (swp P T w0 y Q (σ.setB t false))
    | _ => False
  | .cond (.const (.bool b)) x y, Q, σ => if b then swp P T w0 x Q σ else swp P T w0 y Q σ
  | .block id c, Q, σ => swp P T w0 c (sBlock id Q) σ
  | .loop c, Q, σ => SLoop P w0 c Q σ
  | .scope c, Q, σ => swp P T w0 c (sScope Q) σ
  | .exit id, Q, σ => Q (.exit id) σ
  | .ret, Q, σ => Q .ret σ
  | _, _, _ => False
@[congr] theorem swp_congr {P : Program} {T : Tab} {w0 : Base} {c : Code} {Q : Exit → St → Prop} {σ σ' : St} (h : σ = σ') : swp P T w0 c Q σ = swp P T w0 c Q σ' := by rw [h]

section
variable {P : Program} {w0 : Base} {σ : St} {a : Act} {w : World}

theorem R.setB (h : R w0 σ a w) {t : Nat} {b : Bool} (hl : look σ.tm t = some (.v (.d .bool (.b b)))) : R w0 (σ.setB t b) a w := by
  obtain ⟨om, h⟩ := h
  refine ⟨om, h.below, h.hF, h.defers, h.nt, ?_, h.ob, h.apart, h.fresh⟩
  intro u y hy
  simp only [St.setB, look] at hy
  by_cases e : t = u
  · subst e
    simp only [if_true, Option.some.injEq] at hy
    subst hy
    exact h.tm t _ hl
  · simp only [e, if_false] at hy
    exact h.tm u y hy

theorem R.boolAt (h : R w0 σ a w) {t : Nat} {x : D} (hl : look σ.tm t = some (.v (.d .bool x))) : ∃ b, x = .b b ∧ a.tmps.getD t undef = .bool b := by
  obtain ⟨om, h⟩ := h
  obtain ⟨b, e, hx⟩ := (h.tm t _ hl : Val1 _ _ _ _ _).data.bool
  exact ⟨b, hx, e⟩

theorem R.put0 {dst : Option Nat} (h : R w0 σ a w) (hd : dstOk dst σ.nt) : R w0 (σ.put dst .u) (a.put dst undef) w := by
  obtain ⟨om, h⟩ := h
  exact ⟨om, h.put0 hd⟩

theorem getD_some {tm : Array Value} {t : Nat} {v : Value} (h : tm.getD t undef = v) (hv : v ≠ undef) : tm[t]? = some v := by
  rw [Array.getD_eq_getD_getElem?] at h
  cases hq : tm[t]? with
  | none => simp [hq] at h; exact absurd h.symm hv
  | some u => simp [hq] at h; rw [h]

theorem sOps_sound {T : Tab} (hT : T.Ok P) {ops : Array Oper} {Q : Exit → Act → World → Prop} {K : St → Prop} (hQ : ∀ a w, After w0 K a w → Q .normal a w) :
    ∀ {l : List Oper} {k : Nat} {σ : St} {a : Act} {w : World}, ops.toList.drop k = l → R w0 σ a w → sOps P T ops l σ K → wpOps P ops Q (List.range' k l.length) a w
  | [], k, σ, a, w, _, h, hs => by
    simp only [List.length_nil, List.range'_zero, wpOps]
    exact hQ a w ⟨σ, h, hs⟩
  | o :: l, k, σ, a, w, hk, h, hs => by
    have ho : ops[k]? = some o := by
      rw [← Array.getElem?_toList]
      have := congrArg (·[0]?) hk
      simpa using this
    have hk' : ops.toList.drop (k + 1) = l := by
      have := congrArg (List.drop 1) hk
      simpa [List.drop_drop] using this
    simp only [List.length_cons, List.range'_succ, wpOps, ho]
    have run : ∀ {σ : St}, R w0 σ a w → sOp P T o σ (fun σ => sOps P T ops l σ K) → o.wp P a w (wpOps P ops Q (List.range' (k + 1) l.length)) Q := by
      intro σ h hs
      have := sOp_sound (Q := Q) hT h hs
      exact Oper.wp_mono (fun a w ⟨σ, h, hs⟩ => sOps_sound hT hQ hk' h hs) this
    have skp : ∀ {σ : St}, R w0 σ a w → sSkip o σ (fun σ => sOps P T ops l σ K) → wpOps P ops Q (List.range' (k + 1) l.length) (a.put o.dst undef) w := by
      intro σ h hs
      exact sOps_sound hT hQ hk' (h.put0 hs.1) hs.2
    simp only [sOps] at hs
    split at hs
    · rename_i hg
      simp only [Region.wanted, hg, if_true]
      exact .inl (run h hs)
    · rename_i j want hg
      split at hs
      · rename_i t ht
        have hy : ∀ b, a.tmps.getD t undef = .bool b → yielded ops a.tmps j = some b := by
          intro b hb
          have := getD_some hb (by simp [undef])
          unfold gdst at ht
          simp [yielded, ht, this]
        split at hs
        · rename_i x hl
          obtain ⟨b, rfl, hb⟩ := h.boolAt hl
          have hyb := hy b hb
          simp only [Region.wanted, hg, hyb]
          cases b with
          | true =>
            have h1 := hs.1 rfl
            cases want with
            | true => simp only [if_true] at h1; simp only [BEq.rfl, if_true]; exact .inl (run (h.setB hl) h1)
            | false => simp only [Bool.false_eq_true, if_false] at h1; simp only [show ((some true : Option Bool) == some false) = false from rfl, Bool.false_eq_true, if_false]; exact skp (h.setB hl) h1
          | false =>
            have h1 := hs.2 rfl
            cases want with
            | true => simp only [if_true] at h1; simp only [show ((some false : Option Bool) == some true) = false from rfl, Bool.false_eq_true, if_false]; exact skp (h.setB hl) h1
            | false => simp only [Bool.false_eq_true, if_false] at h1; simp only [BEq.rfl, if_true]; exact .inl (run (h.setB hl) h1)
        · rename_i hl
          have hu : a.tmps.getD t undef = undef := by
            obtain ⟨om, h⟩ := h
            exact h.tm t _ hl
          have : (yielded ops a.tmps j == some want) = false := by
            have hy0 : yielded ops a.tmps j = none := by
              unfold gdst at ht
              simp only [yielded, ht, Option.bind_some]
              rw [Array.getD_eq_getD_getElem?] at hu
              cases hq : a.tmps[t]? with
              | none => rfl
              | some u => simp [hq] at hu; subst hu; rfl
            rw [hy0]; rfl
          simp only [Region.wanted, hg, this, Bool.false_eq_true, if_false]
          exact skp h hs
        · exact hs.elim
      · exact hs.elim

theorem conc_mono {Q Q' : Exit → St → Prop} (h : ∀ e σ, Q e σ → Q' e σ) : ∀ e a w, conc w0 Q e a w → conc w0 Q' e a w := fun e _ _ ⟨σ, hr, hq⟩ => ⟨σ, hr, h e σ hq⟩

theorem swp_sound {T : Tab} (hT : T.Ok P) : ∀ {c : Code} {Q : Exit → St → Prop} {σ : St} {a : Act} {w : World}, R w0 σ a w → swp P T w0 c Q σ → c.wp P (conc w0 Q) a w
  | .skip, Q, σ, a, w, h, hs => wp_skip ⟨σ, h, hs⟩
  | .label _, Q, σ, a, w, h, hs => wp_label ⟨σ, h, hs⟩
  | .exit _, Q, σ, a, w, h, hs => wp_exit ⟨σ, h, hs⟩
  | .ret, Q, σ, a, w, h, hs => wp_ret ⟨σ, h, hs⟩
  | .region id ops true, Q, σ, a, w, h, hs => by
    simp only [swp, if_true] at hs
    exact hs a w h
  | .region id ops false, Q, σ, a, w, h, hs => by
    simp only [swp, Bool.false_eq_true, if_false] at hs
    refine wp_region ?_
    have := sOps_sound hT (Q := conc w0 Q) (K := fun σ => Q .normal σ) (fun a w h => h) (l := ops.toList) (k := 0) (by simp) h hs
    rw [List.range_eq_range']
    simpa using this
  | .seq x y, Q, σ, a, w, h, hs => by
    refine wp_seq ?_
    refine wp_mono (swp_sound hT h hs) ?_
    rintro e a w ⟨σ, hr, hq⟩
    cases e with
    | normal => exact swp_sound hT hr hq
    | _ => exact ⟨σ, hr, hq⟩
  | .cond (.tmp t) x y, Q, σ, a, w, h, hs => by
    simp only [swp] at hs
    split at hs
    · rename_i x' hl
      obtain ⟨b, rfl, hb⟩ := h.boolAt hl
      cases b with
      | true => exact wp_cond_true hb (swp_sound hT (h.setB hl) (hs.1 rfl))
      | false => exact wp_cond_false hb (swp_sound hT (h.setB hl) (hs.2 rfl))
    · exact hs.elim
  | .cond (.const (.bool true)) x y, Q, σ, a, w, h, hs => by
    simp only [swp, if_true] at hs
    exact wp_cond_true rfl (swp_sound hT h hs)
  | .cond (.const (.bool false)) x y, Q, σ, a, w, h, hs => by
    simp only [swp, Bool.false_eq_true, if_false] at hs
    exact wp_cond_false rfl (swp_sound hT h hs)
  | .block id c, Q, σ, a, w, h, hs => by
    refine wp_block ?_
    refine wp_mono (swp_sound hT h hs) ?_
    rintro e a w ⟨σ, hr, hq⟩
    cases e with
    | exit i =>
      simp only [sBlock] at hq
      simp only [Exit.inBlock]
      split at hq
      · rename_i e; rw [if_pos e]; exact ⟨σ, hr, hq⟩
      · rename_i e; rw [if_neg e]; exact ⟨σ, hr, hq⟩
    | _ => exact ⟨σ, hr, hq⟩
  | .loop c, Q, σ, a, w, h, hs => fun b k cs => by
    obtain ⟨e, a', w', hq, harr⟩ := hs a w h b k cs
    exact ⟨e, a', w', hq, .of_steps (.one step_loop) harr⟩
  | .rangeFunc .., _, _, _, _, _, hs => hs.elim
  | .scope c, Q, σ, a, w, h, hs => by
    refine wp_scope_straight ?_
    refine wp_mono (swp_sound hT h hs) ?_
    rintro e a w ⟨σ, hr, hq⟩
    cases e with
    | goto l => exact hq.elim
    | _ => exact ⟨σ, hr, hq⟩
  | .goto _, _, _, _, _, _, hs => hs.elim
  | .refuse _, _, _, _, _, _, hs => hs.elim
  | .cond (.global _) _ _, _, _, _, _, _, hs => hs.elim
  | .cond (.func _) _ _, _, _, _, _, _, hs => hs.elim
  | .cond (.const v) x y, Q, σ, a, w, h, hs => by
    cases v with
    | bool b =>
      cases b with
      | true => simp only [swp, if_true] at hs; exact wp_cond_true rfl (swp_sound hT h hs)
      | false => simp only [swp, Bool.false_eq_true, if_false] at hs; exact wp_cond_false rfl (swp_sound hT h hs)
    | _ => exact hs.elim

end
end Go.SE
/- A function's contract by its text: the beginning, the end, loops. -/
namespace Go.SE
open Go.RowKit (Below)

def memB (x : Nat) : List Nat → Bool
  | [] => false
  | y :: l => if x = y then true else memB x l
def nodupB : List Nat → Bool
  | [] => true
  | x :: l => if memB x l then false else nodupB l
theorem memB_iff {x : Nat} {l : List Nat} : memB x l = true ↔ x ∈ l := by
  induction l with
  | nil => simp [memB]
  | cons y l ih => simp only [memB]; split <;> simp_all
theorem nodupB_ok {l : List Nat} (h : nodupB l = true) : l.Nodup := by
  induction l with
  | nil => simp
  | cons x l ih =>
    simp only [nodupB] at h
    split at h
    · cases h
    · rename_i hm
      rw [memB_iff] at hm
      exact List.nodup_cons.2 ⟨hm, ih h⟩

def rv1 (T : Tab) (σ : St) (u : TypeId) (s : SV) : Option RV :=
  match look T u with
  | some (.sl e) => match s with
    | .ref o [] off len => match look σ.ob o with
      | some ob => match ob.c with
        | .d (.arr _ e') x => if e' = e then some (.own e ((x.list.drop off).take len)) else none
        | _ => none
      | none => none
    | .nil => some (.own e [])
    | s => (den σ (.sl e) s).map (RV.d (.sl e))
  | some t => (den σ t s).map (RV.d t)
  | none => none

def resSV (T : Tab) (σ : St) : ResultVar → Option SV
  | .tmp t => match look σ.tm t with | some (.v s) => some s | _ => none
  | .cell t u => match look σ.tm t with
    | some (.v (.ptr o p)) => match look σ.ob o, look T u with
      | some ob, some τ => if ob.t.sub p = some τ then ob.c.get p else none
      | _, _ => none
    | _ => none

def rvs (T : Tab) (σ : St) : List ResultVar → List TypeId → Option (List RV × List Nat)
  | [], _ => some ([], [])
  | r :: l, u :: us => match resSV T σ r with
    | some s => match rv1 T σ u s, rvs T σ l us with
      | some x, some (xs, ns) => some (x :: xs, app (refs s) ns)
      | _, _ => none
    | none => none
  | _ :: _, [] => none

def sRet (T : Tab) (rl : List ResultVar) (us : List TypeId) (σ : St) (K : List RV → Prop) : Prop :=
  match rvs T σ rl us with
  | some (rs, ns) => nodupB ns = true ∧ K rs
  | none => False

def sExit (T : Tab) (rl : List ResultVar) (us : List TypeId) (K : List RV → Prop) : Exit → St → Prop
  | .normal, σ | .ret, σ => sRet T rl us σ K
  | _, _ => False
@[congr] theorem sExit_congr {T : Tab} {rl : List ResultVar} {us : List TypeId} {K : List RV → Prop} {e e' : Exit} {σ σ' : St} (he : e = e') (h : σ = σ') : sExit T rl us K e σ = sExit T rl us K e' σ' := by rw [he, h]
theorem sExit_ret {T : Tab} {rl : List ResultVar} {us : List TypeId} {K : List RV → Prop} {σ : St} : sExit T rl us K .ret σ = sRet T rl us σ K := rfl
theorem sExit_normal {T : Tab} {rl : List ResultVar} {us : List TypeId} {K : List RV → Prop} {σ : St} : sExit T rl us K .normal σ = sRet T rl us σ K := rfl

def resRun (a : Act) : ResultVar → Sem Value
  | .tmp t => pure (a.tmps.getD t undef)
  | .cell t u => do loadVar u (← asAddr (a.tmps.getD t undef))

def pTm : Nat → List (Ty × D) → List (Nat × TV)
  | _, [] => []
  | n, (t, d) :: l => (n, .v (.d t d)) :: pTm (n + 1) l

section
variable {P : Program} {w0 : Base} {om : Om} {σ : St} {a : Act} {w : World}

theorem rv_one (h : R0 w0 om σ a w) {T : Tab} {u : TypeId} {s : SV} {v : Value} {r : RV} (hv : Val1 w om (Mb σ.ob om) s v) (hr : rv1 T σ u s = some r) :
    ∃ b : Option Pl, (∀ o ∈ refs s, ∃ ob, look σ.ob o = some ob) ∧ (∀ q, b = some q → ∃ o t q0 ob, o ∈ refs s ∧ look σ.ob o = some ob ∧ om o = some (t, some q0) ∧ q.b = q0.b) ∧
      ∀ N : Nat → Prop, (∀ g, N g → Mb σ.ob om g) → ((∃ t x, r = .d t x) → ∀ o ∈ refs s, ∀ t q, om o = some (t, some q) → ¬ N q.b) → RVok w0.heap.size w N r v b := by
  have data : ∀ {t : Ty}, (den σ t s).map (RV.d t) = some r → ∃ b : Option Pl, (∀ o ∈ refs s, ∃ ob, look σ.ob o = some ob) ∧ (∀ q, b = some q → ∃ o t q0 ob, o ∈ refs s ∧ look σ.ob o = some ob ∧ om o = some (t, some q0) ∧ q.b = q0.b) ∧
      ∀ N : Nat → Prop, (∀ g, N g → Mb σ.ob om g) → ((∃ t x, r = .d t x) → ∀ o ∈ refs s, ∀ t q, om o = some (t, some q) → ¬ N q.b) → RVok w0.heap.size w N r v b := by
    intro t hd
    rw [Option.map_eq_some_iff] at hd
    obtain ⟨d, hd, rfl⟩ := hd
    refine ⟨none, den_refs hd, by simp, ?_⟩
    intro N hN hR
    obtain ⟨t', hcv, ha⟩ := hv
    refine ⟨den_ok h (fun b hb hc => hb (hN b hc)) hcv hd (hR ⟨t, d, rfl⟩), ?_⟩
    rw [ha]
    cases s with
    | d u y => simp only [den] at hd; split at hd
               · rename_i e; subst e; obtain ⟨rfl, _⟩ := hcv; rfl
               · cases hd
    | nil => obtain ⟨⟨e, rfl⟩, _⟩ := hcv; cases t <;> simp [den] at hd; rfl
    | ref _ _ _ _ => obtain ⟨_, _, rfl, _⟩ := hcv; cases t <;> simp [den] at hd; rfl
    | ptr _ _ => cases t <;> simp [den] at hd
    | vp _ _ => cases t <;> simp [den] at hd
    | anil => obtain ⟨rfl, _⟩ := hcv; cases t <;> simp [den] at hd; rfl
    | acons _ _ => obtain ⟨_, _, rfl, _⟩ := hcv; cases t <;> simp [den] at hd; rfl
  unfold rv1 at hr
  split at hr
  · rename_i e ht
    split at hr
    · rename_i o off len
      split at hr
      · rename_i ob hl
        split at hr
        · rename_i n' e' x hc0
          split at hr
          · rename_i he
            subst he
            simp only [Option.some.injEq] at hr
            subst hr
            obtain ⟨e0, n, cap, hsub, hok, hle, hcap, hpl⟩ := ref_place h hv hl
            simp only [Ty.sub, Option.some.injEq] at hsub
            rcases hpl with ⟨rfl, b', rfl⟩ | ⟨q, cc, el, fr, ho', rfl, hcap2, hh, hun, hroom, hcv⟩
            · have : len = 0 := by omega
              subst this
              exact ⟨none, by intro k hk; simp only [refs, List.mem_singleton] at hk; subst hk; exact ⟨ob, hl⟩, by simp, fun N _ _ => ⟨by simp, b', rfl⟩⟩
            · simp only [if_true] at hcap2
              rw [hc0] at hcv
              obtain ⟨hty, hrd⟩ := hcv
              rw [hsub] at hty hrd hroom
              simp only [Ty.arr.injEq] at hty
              obtain ⟨rfl, rfl⟩ := hty
              obtain ⟨cl, rfl, hcl, hrl⟩ := hrd
              simp only [Ty.size] at hrl
              have hr1 := hroom.1
              have hr2 := (hroom.2 _ _ rfl).2
              have hC := (hroom.2 _ _ rfl).1
              simp only [Ty.size] at hr1
              have hlen2 : ((cl.drop off).take len).length = len := by simp; omega
              refine ⟨some ⟨q.b, q.base + off * e'.size, q.C - off⟩, by intro k hk; simp only [refs, List.mem_singleton] at hk; subst hk; exact ⟨ob, hl⟩, ?_, ?_⟩
              · intro q' hq'
                simp only [Option.some.injEq] at hq'
                subst hq'
                exact ⟨o, ob.t, q, ob, by simp [refs], hl, ho', rfl⟩
              · intro N hN _
                have hB := (Mo.lt h.ob ⟨o, ob, ob.t, q, hl, ho', rfl⟩).1
                have hmC : off * e'.size + (q.C - off) * e'.size = q.C * e'.size := by rw [← Nat.add_mul]; congr 1; omega
                have hmN : (off + len) * e'.size ≤ n' * e'.size := Nat.mul_le_mul_right _ hle
                rw [Nat.add_mul] at hmN
                refine ⟨hB, by simp only [D.list, hlen2]; omega, ⟨cap, ?_, by simp only [D.list, hlen2]; omega, by simp only; omega⟩, cc, el, fr, hh, hun, by simp only; omega, ?_⟩
                · simp only [D.list, hlen2, Ty.offs, hsub, Nat.add_zero]
                · simp only [D.list, hlen2]
                  have h5 := ReadL.take len (ReadL.drop off hrl)
                  rw [take_drop_take_drop _ (by omega)] at h5
                  exact ReadL.mono (fun _ _ k => Rd.mono (fun b o hb ho => ⟨fun hc => hb (hN b hc), ho⟩) k) h5
          · cases hr
        · cases hr
      · cases hr
    · simp only [Option.some.injEq] at hr
      subst hr
      obtain ⟨b, cap, rfl⟩ := slen_ok hv (n := 0) rfl
      have hcap : cap = 0 := by
        obtain ⟨t', ⟨_, b', hc⟩, _⟩ := hv
        simp [Value.cells] at hc; exact hc.2
      subst hcap
      exact ⟨none, by intro k hk; simp [refs] at hk, by simp, fun N _ _ => ⟨rfl, b, rfl⟩⟩
    · exact data hr
  · exact data hr
  · cases hr

theorem rvs_ok (h : R0 w0 om σ a w) {T : Tab} (hT : T.Ok P) : ∀ {rl : List ResultVar} {us : List TypeId} {rs : List RV} {ns : List Nat}, rvs T σ rl us = some (rs, ns) →
    ∃ (ss : List SV) (vals : List Value) (bs : List (Option Pl)),
      (rl.mapM (resRun a)).run P w = .ok vals w ∧
      ns = ss.flatMap refs ∧ ss.length = rs.length ∧ vals.length = rs.length ∧ bs.length = rs.length ∧
      ∀ (i : Nat) (s : SV) (r : RV) (v : Value) (b : Option Pl), ss[i]? = some s → rs[i]? = some r → vals[i]? = some v → bs[i]? = some b →
        (∀ o ∈ refs s, ∃ ob, look σ.ob o = some ob) ∧ (∀ q, b = some q → ∃ o t q0 ob, o ∈ refs s ∧ look σ.ob o = some ob ∧ om o = some (t, some q0) ∧ q.b = q0.b) ∧
        ∀ N : Nat → Prop, (∀ g, N g → Mb σ.ob om g) → ((∃ t x, r = .d t x) → ∀ o ∈ refs s, ∀ t q, om o = some (t, some q) → ¬ N q.b) → RVok w0.heap.size w N r v b
  | [], us, rs, ns, hr => by
    simp only [rvs, Option.some.injEq, Prod.mk.injEq] at hr
    obtain ⟨rfl, rfl⟩ := hr
    exact ⟨[], [], [], by simp, rfl, rfl, rfl, rfl, fun i s r v b hs => by simp at hs⟩
  | r :: l, u :: us, rs, ns, hr => by
    simp only [rvs] at hr
    split at hr
    · rename_i s hs
      split at hr
      · rename_i x xs ns' hx hxs
        simp only [Option.some.injEq, Prod.mk.injEq] at hr
        obtain ⟨rfl, rfl⟩ := hr
        obtain ⟨ss, vals, bs, h1, h2, h3, h4, h5, h6⟩ := rvs_ok h hT hxs
        have hv : ∃ v, (resRun a r).run P w = .ok v w ∧ Val1 w om (Mb σ.ob om) s v := by
          cases r with
          | tmp t =>
            simp only [resSV] at hs
            split at hs
            · rename_i s' hl
              simp only [Option.some.injEq] at hs
              subst hs
              exact ⟨_, rfl, h.tm t _ hl⟩
            · cases hs
          | cell t u' =>
            simp only [resSV] at hs
            split at hs
            · rename_i o p hl
              split at hs
              · rename_i ob τ hlo hlt
                split at hs
                · rename_i hsub
                  obtain ⟨q, u2, c, el, fr, ev, ho', hsub', hok, hh, hu, hroom, hcv⟩ := ptr_place h (h.tm t _ hl : Val1 _ _ _ _ _) hlo
                  obtain ⟨A, hA, hcA, hle⟩ := CV.get hcv hok hs
                  rw [hsub] at hA
                  simp only [Option.some.injEq] at hA
                  subst hA
                  have hr1 := hroom.1
                  have hce : (((c.toList.drop q.base).take ob.t.size).drop (ob.t.offs p)).take τ.size = (c.toList.drop (q.base + ob.t.offs p)).take τ.size := take_drop_take_drop _ hle
                  rw [hce] at hcA
                  obtain ⟨v, hrun, hvc, hva⟩ := run_loadVar (P := P) hh (hT u' τ hlt).1 (o := q.base + ob.t.offs p) (by omega) (fun v hv => hcA.one v hv)
                  refine ⟨v, ?_, τ, by rw [hvc]; exact hcA, hva⟩
                  simp [resRun, ev, asAddr, hrun]
                · cases hs
              · cases hs
            · cases hs
        obtain ⟨v, hrun, hval⟩ := hv
        obtain ⟨b, hb0, hb1, hb2⟩ := rv_one h hval hx
        refine ⟨s :: ss, v :: vals, b :: bs, ?_, ?_, by simp [h3], by simp [h4], by simp [h5], ?_⟩
        · rw [List.mapM_cons]
          simp only [Sem.run_bind, hrun, Result.andThen_ok, h1, Sem.run_pure]
        · rw [app_eq, h2]; rfl
        · intro i s' r' v' b' g1 g2 g3 g4
          cases i with
          | zero =>
            simp only [List.getElem?_cons_zero, Option.some.injEq] at g1 g2 g3 g4
            subst g1; subst g2; subst g3; subst g4
            exact ⟨hb0, hb1, hb2⟩
          | succ i => exact h6 i s' r' v' b' (by simpa using g1) (by simpa using g2) (by simpa using g3) (by simpa using g4)
      · cases hr
    · cases hr
  | _ :: _, [], _, _, hr => by simp [rvs] at hr

theorem flatMap_disjoint {ss : List SV} (hn : (ss.flatMap refs).Nodup) : ∀ {i j : Nat} {s s' : SV} {o : Nat}, ss[i]? = some s → ss[j]? = some s' → o ∈ refs s → o ∈ refs s' → i = j := by
  induction ss with
  | nil => intro i j s s' o h; simp at h
  | cons x ss ih =>
    simp only [List.flatMap_cons] at hn
    rw [List.nodup_append] at hn
    obtain ⟨_, h2, h3⟩ := hn
    intro i j s s' o hi hj ho ho'
    cases i with
    | zero =>
      cases j with
      | zero => rfl
      | succ j =>
        simp only [List.getElem?_cons_zero, List.getElem?_cons_succ, Option.some.injEq] at hi hj
        subst hi
        exact absurd rfl (h3 o ho o (List.mem_flatMap.2 ⟨s', List.mem_of_getElem? hj, ho'⟩))
    | succ i =>
      cases j with
      | zero =>
        simp only [List.getElem?_cons_zero, List.getElem?_cons_succ, Option.some.injEq] at hi hj
        subst hj
        exact absurd rfl (h3 o ho' o (List.mem_flatMap.2 ⟨s, List.mem_of_getElem? hi, ho⟩))
      | succ j =>
        simp only [List.getElem?_cons_succ] at hi hj
        rw [ih h2 hi hj ho ho']

theorem results_eq (fn : Func) (a : Act) : results fn a.tmps = (do let vs ← fn.results.mapM (resRun a); pure (if h : vs.size = 1 then vs[0] else .tuple vs)) := by
  unfold results
  congr 1

theorem sRet_sound {T : Tab} (hT : T.Ok P) {fn : Func} {rl : List ResultVar} {us : List TypeId} {K : List RV → Prop} (hrl : fn.results.toList = rl) (h : R0 w0 om σ a w) (hs : sRet T rl us σ K) :
    ∃ v rs, (results fn a.tmps).run P w = .ok v w ∧ RetOk w0.heap.size w w0.F v rs ∧ K rs := by
  unfold sRet at hs
  split at hs
  · rename_i rs ns hr
    obtain ⟨hnd, hK⟩ := hs
    obtain ⟨ss, vals, bs, h1, rfl, h3, h4, h5, h6⟩ := rvs_ok h hT hr
    have hnd := nodupB_ok hnd
    have hs : ∀ {i : Nat}, i < rs.length → ∃ s r v b, ss[i]? = some s ∧ rs[i]? = some r ∧ vals[i]? = some v ∧ bs[i]? = some b := by
      intro i hi
      exact ⟨ss[i]'(by omega), rs[i]'(by omega), vals[i]'(by omega), bs[i]'(by omega), by simp, by simp, by simp, by simp⟩
    have hown : ∀ {g : Nat}, OwnB bs g → ∃ (i : Nat) (s : SV) (o : Nat) (t : Ty) (q0 : Pl) (ob : Ob), ss[i]? = some s ∧ o ∈ refs s ∧ look σ.ob o = some ob ∧ om o = some (t, some q0) ∧ g = q0.b ∧ (∃ e ds, rs[i]? = some (.own e ds)) := by
      rintro g ⟨q, hq, rfl⟩
      obtain ⟨i, hi, hiq⟩ := List.getElem_of_mem hq
      have hil : i < rs.length := by omega
      obtain ⟨s, r, v, b, g1, g2, g3, g4⟩ := hs hil
      have hbq : b = some q := by rw [List.getElem?_eq_getElem hi, hiq] at g4; exact (Option.some.inj g4).symm
      subst hbq
      obtain ⟨_, k1, k2⟩ := h6 i s r v _ g1 g2 g3 g4
      obtain ⟨o, t, q0, ob, m1, m2, m3, m4⟩ := k1 q rfl
      refine ⟨i, s, o, t, q0, ob, g1, m1, m2, m3, m4, ?_⟩
      have := k2 (fun _ => False) (by simp) (by simp)
      cases r with
      | d t x => exact this.elim
      | own e ds => exact ⟨e, ds, g2⟩
    have hN : ∀ g, (w0.F g ∨ OwnB bs g) → Mb σ.ob om g := by
      rintro g (k | k)
      · exact .inl (by rw [h.hF]; exact k)
      · obtain ⟨i, s, o, t, q0, ob, _, _, m2, m3, rfl, _⟩ := hown k
        exact .inr ⟨o, ob, t, q0, m2, m3, rfl⟩
    refine ⟨tupV vals, rs, ?_, ⟨vals, bs, rfl, h4, h5, ?_, ?_⟩, hK⟩
    · rw [results_eq, Array.mapM_eq_mapM_toList, hrl]
      simp only [Sem.run_bind, Sem.run_map, h1, Result.andThen_ok, Sem.run_pure, List.size_toArray]
      match vals with
      | [] => rfl
      | [v] => rfl
      | v :: u :: l => simp [tupV]
    · intro i r v b g2 g3 g4
      obtain ⟨s, r', v', b', g1, g2', g3', g4'⟩ := hs (List.getElem?_eq_some_iff.1 g2).1
      rw [g2] at g2'; rw [g3] at g3'; rw [g4] at g4'
      cases g2'; cases g3'; cases g4'
      obtain ⟨hlk, _, hfin⟩ := h6 i s r v b g1 g2 g3 g4
      refine hfin _ hN ?_
      rintro ⟨t, x, rfl⟩ o ho t' q hq hc
      rcases hc with hc | hc
      · obtain ⟨ob, hob⟩ := hlk o ho
        have := w0.low _ hc
        have := (Mo.lt h.ob ⟨o, ob, t', q, hob, hq, rfl⟩).1
        omega
      · obtain ⟨ob, hob⟩ := hlk o ho
        obtain ⟨j, s', o', t2, q0, ob', g1', m1, m2, m3, m4, e, ds, hj⟩ := hown hc
        have := h.apart _ _ _ _ _ _ _ _ hob m2 hq m3 m4
        subst this
        have := flatMap_disjoint hnd g1 g1' ho m1
        subst this
        rw [g2] at hj; cases hj
    · intro i j q q' hi hj hb
      have li : i < rs.length := by have := (List.getElem?_eq_some_iff.1 hi).1; omega
      have lj : j < rs.length := by have := (List.getElem?_eq_some_iff.1 hj).1; omega
      obtain ⟨s, r, v, b, g1, g2, g3, g4⟩ := hs li
      obtain ⟨s', r', v', b', g1', g2', g3', g4'⟩ := hs lj
      obtain ⟨o, t, q0, ob, m1, m2, m3, m4⟩ := (h6 i s r v _ g1 g2 g3 hi).2.1 q rfl
      obtain ⟨o', t', q0', ob', m1', m2', m3', m4'⟩ := (h6 j s' r' v' _ g1' g2' g3' hj).2.1 q' rfl
      have := h.apart _ _ _ _ _ _ _ _ m2 m2' m3 m3' (by rw [← m4, ← m4', hb])
      subst this
      exact flatMap_disjoint hnd g1 g1' m1 m1'
  · exact hs.elim

end
end Go.SE
/- A function's contract by its text: the beginning, loops, one state as another. -/
namespace Go.SE
open Go.RowKit (Below)

section
variable {P : Program}

theorem argsOk_get {w : World} {S : Nat → Prop} : ∀ {l : List (Ty × D)} {vs : List Value}, ArgsOk w S l vs → l.length = vs.length ∧ ∀ (n : Nat) t x, look (pTm n l) t = some x → ∃ i τ d v, t = n + i ∧ x = .v (.d τ d) ∧ vs[i]? = some v ∧ RdV w S τ v d
  | [], [], _ => ⟨rfl, fun n t x h => by simp [pTm, look] at h⟩
  | (τ, d) :: l, v :: vs, h => by
    obtain ⟨h1, h2⟩ := h
    obtain ⟨k1, k2⟩ := argsOk_get h2
    refine ⟨by simp [k1], ?_⟩
    intro n t x hx
    simp only [pTm, look] at hx
    split at hx
    · rename_i e
      simp only [Option.some.injEq] at hx
      exact ⟨0, τ, d, v, e.symm, hx.symm, rfl, h1⟩
    · obtain ⟨i, τ', d', v', e, ex, hv, hr⟩ := k2 (n + 1) t x hx
      exact ⟨i + 1, τ', d', v', by omega, ex, by simpa using hv, hr⟩
  | [], _ :: _, h => h.elim
  | _ :: _, [], h => h.elim

/-- A contract, by the function's text. -/
theorem scall_intro {T : Tab} (hT : T.Ok P) {f : FuncId} {fn : Func} {c : Code} {rl : List ResultVar} {us : List TypeId} {n : Nat} (hf : P.funcs[f]? = some fn) (hb : fn.body = some c) (hn : (fn.name == "runtime.NumGoroutine") = false)
    (hrl : fn.results.toList = rl) (_ : fn.resultTypes.toList = us) (hnt : fn.ntmps = n) {args : List (Ty × D)} (hlen : args.length ≤ n) {K : List RV → Prop}
    (h : ∀ w0 : Base, swp P T w0 c (sExit T rl us K) ⟨n, pTm 0 args, [], 0⟩) : SCall P f args K := by
  refine .inl ⟨⟨fn, hf, hn, by rw [hb]; rfl⟩, ?_⟩
  intro w F vs hF hG ha
  obtain ⟨hl, hg⟩ := argsOk_get ha
  let w0 : Base := { w with F := F, low := hF, glob := hG }
  refine calls_of_wp hf hb ?_
  have hR : R w0 ⟨n, pTm 0 args, [], 0⟩ { tmps := vs.toArray ++ Array.replicate (fn.ntmps - vs.toArray.size) undef, defers := [] } w := by
    refine ⟨⟨fun _ => none, F⟩, Below.refl _ _, rfl, rfl, ?_, ?_, ?_, ?_, fun _ _ => rfl⟩
    · simp; omega
    · intro t v hv
      obtain ⟨i, τ, d, x, rfl, rfl, hx, hr⟩ := hg 0 t v hv
      have hi : i < vs.length := (List.getElem?_eq_some_iff.1 hx).1
      have : (vs.toArray ++ Array.replicate (fn.ntmps - vs.toArray.size) undef).getD (0 + i) undef = x := by
        rw [Array.getD_eq_getD_getElem?, Nat.zero_add, Array.getElem?_append_left (by simpa using hi)]
        simp [hx]
      rw [this]
      refine Val1.of (RdV.mono ?_ hr)
      intro b o hb ho
      refine ⟨?_, ho⟩
      rintro (hc | ⟨o, y, t, q, k1, _⟩)
      · exact hb hc
      · simp [look] at k1
    · intro o x hx; simp [look] at hx
    · intro o o' x x' t t' q q' hx; simp [look] at hx
  refine wp_mono (swp_sound hT hR (h w0)) ?_
  rintro e a' w' ⟨σ, ⟨om, hr⟩, hq⟩
  have fin : sRet T rl us σ K → bodyPost P fn (fun e w' => ∃ v rs, e = .returned v ∧ Below w.heap.size w w' ∧ RetOk w.heap.size w' F v rs ∧ K rs) .ret a' w' := by
    intro hs
    obtain ⟨v, rs, h1, h2, h3⟩ := sRet_sound (fn := fn) hT hrl hr hs
    exact ⟨hr.defers, v, h1, v, rs, rfl, hr.below, h2, h3⟩
  cases e with
  | normal => exact fin hq
  | ret => exact fin hq
  | _ => exact hq.elim

/-! one state as another -/

def Sub (w0 : Base) (σ σ' : St) : Prop := ∀ a w, R w0 σ a w → R w0 σ' a w

theorem Sub.refl (w0 : Base) (σ : St) : Sub w0 σ σ := fun _ _ h => h
theorem Sub.trans {w0 : Base} {σ σ' σ'' : St} (h : Sub w0 σ σ') (k : Sub w0 σ' σ'') : Sub w0 σ σ'' := fun a w hr => k a w (h a w hr)

/-- A loop: an invariant over states that are told by a value 'x', and a number that each round lowers. -/
theorem sloop {T : Tab} (hT : T.Ok P) {w0 : Base} {c : Code} {Q : Exit → St → Prop} {σ : St} {α : Type} (I : α → St) (J : α → Prop) (μ : α → Nat) (x0 : α) (h0 : Sub w0 σ (I x0)) (j0 : J x0)
    (round : ∀ x, J x → swp P T w0 c (sThen (fun σ => ∃ y, J y ∧ μ y < μ x ∧ Sub w0 σ (I y)) Q) (I x)) : SLoop P w0 c Q σ := by
  have key : ∀ n x, μ x = n → J x → SLoop P w0 c Q (I x) := by
    intro n
    induction n using Nat.strongRecOn with
    | _ n ih =>
      intro x hn hj a w hr
      refine loopAt_step (wp_mono (swp_sound hT hr (round x hj)) ?_)
      rintro e a' w' ⟨σ', hr', hq⟩
      cases e with
      | normal =>
        obtain ⟨y, hy, hlt, hsub⟩ := hq
        exact ih (μ y) (by omega) y rfl hy a' w' (hsub a' w' hr')
      | _ => exact ⟨σ', hr', hq⟩
  exact fun a w hr => key _ x0 rfl j0 a w (h0 a w hr)

/-- One round, and the loop again. -/
theorem sround {T : Tab} (hT : T.Ok P) {w0 : Base} {c : Code} {Q : Exit → St → Prop} {σ : St} (h : swp P T w0 c (sThen (fun σ => SLoop P w0 c Q σ) Q) σ) : SLoop P w0 c Q σ := by
  intro a w hr
  refine loopAt_step (wp_mono (swp_sound hT hr h) ?_)
  rintro e a' w' ⟨σ', hr', hq⟩
  cases e with
  | normal => exact hq a' w' hr'
  | _ => exact ⟨σ', hr', hq⟩

/-- Behind a state that says less. -/
theorem swp_sub {T : Tab} (hT : T.Ok P) {w0 : Base} {c : Code} {Q : Exit → St → Prop} {σ σ' : St} (h : Sub w0 σ σ') (k : SLoop P w0 c Q σ') : SLoop P w0 c Q σ := fun a w hr => k a w (h a w hr)

/-- A nil slice is a row without elements. -/
theorem sub_nilRow (w0 : Base) {σ : St} (t : Nat) (e : Ty) (hl : look σ.tm t = some (.v .nil)) :
    Sub w0 σ ⟨σ.nt, (t, .v (.ref σ.nx [] 0 0)) :: σ.tm, (σ.nx, ⟨.arr 0 e, .d (.arr 0 e) (.l [])⟩) :: σ.ob, σ.nx + 1⟩ := by
  rintro a w ⟨om, h⟩
  obtain ⟨om', hR, hself, _⟩ := h.nilRow e
  refine ⟨om', hR.below, hR.hF, hR.defers, hR.nt, ?_, hR.ob, hR.apart, hR.fresh⟩
  intro u y hy
  simp only [look] at hy
  split at hy
  · rename_i ee
    subst ee
    simp only [Option.some.injEq] at hy
    subst hy
    have hv : Val1 _ _ _ SV.nil _ := h.tm t _ hl
    obtain ⟨b, cap, ev⟩ := slen_ok hv (n := 0) rfl
    have hcap : cap = 0 := by
      obtain ⟨t', ⟨_, b', hc⟩, _⟩ := hv
      rw [ev] at hc; simp [Value.cells] at hc; exact hc.2
    subst hcap
    rw [ev]
    exact ⟨.sl e, ⟨e, _, rfl, rfl, _, _, 0, 0, hself, rfl, trivial, by omega, by omega, .inl ⟨rfl, b, rfl⟩⟩, rfl⟩
  · exact hR.tm u y hy

/-! the same under other names, with some of it forgotten -/

def renSV (r : List (Nat × Nat)) : SV → SV → Prop
  | .d t x, .d t' x' => t = t' ∧ x = x'
  | .nil, .nil => True
  | .ref o p off len, .ref o' p' off' len' => look r o' = some o ∧ p = p' ∧ off = off' ∧ len = len'
  | .ptr o p, .ptr o' p' => look r o' = some o ∧ p = p'
  | .vp t x, .vp t' x' => t = t' ∧ x = x'
  | .anil, .anil => True
  | .acons a b, .acons a' b' => renSV r a a' ∧ renSV r b b'
  | _, _ => False

def renTV (r : List (Nat × Nat)) : TV → TV → Prop
  | .v x, .v y => renSV r x y
  | .u, .u => True
  | _, _ => False

def renTm (r : List (Nat × Nat)) (tm : List (Nat × TV)) : List (Nat × TV) → Prop
  | [] => True
  | (t, v) :: l => (match look tm t with | some u => renTV r u v | none => False) ∧ renTm r tm l

def renOb (r : List (Nat × Nat)) (ob : List (Nat × Ob)) : List (Nat × Ob) → Prop
  | [] => True
  | (o, x) :: l => (match look r o with
    | some k => (match look ob k with | some y => y.t = x.t ∧ renSV r y.c x.c | none => False)
    | none => False) ∧ renOb r ob l

def keysLt (n : Nat) : List (Nat × Nat) → Prop
  | [] => True
  | (o, _) :: l => o < n ∧ keysLt n l

def valsB : List (Nat × Nat) → List Nat
  | [] => []
  | (_, k) :: l => k :: valsB l

theorem renSV_ok {r : List (Nat × Nat)} {w : World} {om om' : Om} {M M' : Nat → Prop} (hM : ∀ b o, ¬ M b → w.heap[b]? = some o → ¬ M' b ∧ w.heap[b]? = some o) (hom : ∀ o o', look r o' = some o → om' o' = om o) :
    ∀ {x y : SV} {t : Ty} {cs : List Value}, renSV r x y → CV w om M t x cs → CV w om' M' t y cs
  | .d _ _, .d _ _, t, cs, ⟨h1, h2⟩, ⟨h3, h4⟩ => by subst h1; subst h2; exact ⟨h3, h4.mono hM⟩
  | .nil, .nil, _, _, _, h => h
  | .ref o p off len, .ref o' p' off' len', t, cs, ⟨h1, h2, h3, h4⟩, ⟨e, v, k1, k2, t', pl, n, cap, k3, k4⟩ => by
    subst h2; subst h3; subst h4
    exact ⟨e, v, k1, k2, t', pl, n, cap, by rw [hom _ _ h1]; exact k3, k4⟩
  | .ptr o p, .ptr o' p', t, cs, ⟨h1, h2⟩, ⟨v, k1, k2, t', q, u, k3, k4⟩ => by
    subst h2
    exact ⟨v, k1, k2, t', q, u, by rw [hom _ _ h1]; exact k3, k4⟩
  | .vp _ _, .vp _ _, t, cs, ⟨h1, h2⟩, ⟨h3, g, o, c, el, fr, k1, k2, k3, k4, k5⟩ => by
    subst h1; subst h2
    exact ⟨h3, g, o, c, el, fr, k1, (hM g _ k2 k3).1, k3, k4, k5.mono hM⟩
  | .anil, .anil, _, _, _, h => h
  | .acons a b, .acons a' b', t, cs, ⟨h1, h2⟩, ⟨ta, tb, k1, k2, k3⟩ => ⟨ta, tb, k1, renSV_ok hM hom h1 k2, renSV_ok hM hom h2 k3⟩
  | .d _ _, .nil, _, _, h, _ | .d _ _, .ref _ _ _ _, _, _, h, _ | .d _ _, .ptr _ _, _, _, h, _ | .d _ _, .vp _ _, _, _, h, _ | .d _ _, .anil, _, _, h, _ | .d _ _, .acons _ _, _, _, h, _ => h.elim
  | .nil, .d _ _, _, _, h, _ | .nil, .ref _ _ _ _, _, _, h, _ | .nil, .ptr _ _, _, _, h, _ | .nil, .vp _ _, _, _, h, _ | .nil, .anil, _, _, h, _ | .nil, .acons _ _, _, _, h, _ => h.elim
  | .ref _ _ _ _, .nil, _, _, h, _ | .ref _ _ _ _, .d _ _, _, _, h, _ | .ref _ _ _ _, .ptr _ _, _, _, h, _ | .ref _ _ _ _, .vp _ _, _, _, h, _ | .ref _ _ _ _, .anil, _, _, h, _ | .ref _ _ _ _, .acons _ _, _, _, h, _ => h.elim
  | .ptr _ _, .nil, _, _, h, _ | .ptr _ _, .d _ _, _, _, h, _ | .ptr _ _, .ref _ _ _ _, _, _, h, _ | .ptr _ _, .vp _ _, _, _, h, _ | .ptr _ _, .anil, _, _, h, _ | .ptr _ _, .acons _ _, _, _, h, _ => h.elim
  | .vp _ _, .nil, _, _, h, _ | .vp _ _, .d _ _, _, _, h, _ | .vp _ _, .ref _ _ _ _, _, _, h, _ | .vp _ _, .ptr _ _, _, _, h, _ | .vp _ _, .anil, _, _, h, _ | .vp _ _, .acons _ _, _, _, h, _ => h.elim
  | .anil, .nil, _, _, h, _ | .anil, .d _ _, _, _, h, _ | .anil, .ref _ _ _ _, _, _, h, _ | .anil, .ptr _ _, _, _, h, _ | .anil, .vp _ _, _, _, h, _ | .anil, .acons _ _, _, _, h, _ => h.elim
  | .acons _ _, .nil, _, _, h, _ | .acons _ _, .d _ _, _, _, h, _ | .acons _ _, .ref _ _ _ _, _, _, h, _ | .acons _ _, .ptr _ _, _, _, h, _ | .acons _ _, .vp _ _, _, _, h, _ | .acons _ _, .anil, _, _, h, _ => h.elim

theorem look_renTm {r : List (Nat × Nat)} {tm : List (Nat × TV)} : ∀ {l : List (Nat × TV)} {t : Nat} {v : TV}, renTm r tm l → look l t = some v → ∃ u, look tm t = some u ∧ renTV r u v
  | [], _, _, _, hl => by simp [look] at hl
  | (k, y) :: l, t, v, h, hl => by
    simp only [look] at hl
    split at hl
    · rename_i e
      subst e
      simp only [Option.some.injEq] at hl
      subst hl
      have h1 := h.1
      split at h1
      · rename_i u hu; exact ⟨u, hu, h1⟩
      · exact h1.elim
    · exact look_renTm h.2 hl

theorem look_renOb {r : List (Nat × Nat)} {ob : List (Nat × Ob)} : ∀ {l : List (Nat × Ob)} {o : Nat} {x : Ob}, renOb r ob l → look l o = some x → ∃ k y, look r o = some k ∧ look ob k = some y ∧ y.t = x.t ∧ renSV r y.c x.c
  | [], _, _, _, hl => by simp [look] at hl
  | (k, y) :: l, o, x, h, hl => by
    simp only [look] at hl
    split at hl
    · rename_i e
      subst e
      simp only [Option.some.injEq] at hl
      subst hl
      have h1 := h.1
      split at h1
      · rename_i k' hk
        split at h1
        · rename_i z hz; exact ⟨k', z, hk, hz, h1⟩
        · exact h1.elim
      · exact h1.elim
    · exact look_renOb h.2 hl

theorem mem_valsB {r : List (Nat × Nat)} : ∀ {o k : Nat}, look r o = some k → k ∈ valsB r := by
  induction r with
  | nil => intro o k h; simp [look] at h
  | cons p r ih =>
    intro o k h
    obtain ⟨a, b⟩ := p
    simp only [look] at h
    split at h
    · simp only [Option.some.injEq] at h; subst h; simp [valsB]
    · simp [valsB, ih h]

theorem look_inj {r : List (Nat × Nat)} (hn : (valsB r).Nodup) : ∀ {o o' k : Nat}, look r o = some k → look r o' = some k → o = o' := by
  induction r with
  | nil => intro o o' k h; simp [look] at h
  | cons p r ih =>
    obtain ⟨a, b⟩ := p
    simp only [valsB, List.nodup_cons] at hn
    intro o o' k h h'
    simp only [look] at h h'
    split at h <;> split at h'
    · rename_i e1 e2; rw [← e1, ← e2]
    · simp only [Option.some.injEq] at h; subst h; exact absurd (mem_valsB h') hn.1
    · simp only [Option.some.injEq] at h'; subst h'; exact absurd (mem_valsB h) hn.1
    · exact ih hn.2 h h'

theorem keysLt_look {r : List (Nat × Nat)} {n : Nat} (h : keysLt n r) : ∀ {o k : Nat}, look r o = some k → o < n := by
  induction r with
  | nil => intro o k h; simp [look] at h
  | cons p r ih =>
    obtain ⟨a, b⟩ := p
    intro o k hl
    simp only [look] at hl
    split at hl
    · rename_i e; subst e; exact h.1
    · exact ih h.2 hl

/-- The state σ under the names of σ' ('r': what a name of σ' is in σ), some of it forgotten. -/
theorem sub_ren (w0 : Base) {σ σ' : St} (r : List (Nat × Nat)) (hnt : σ.nt = σ'.nt) (hk : keysLt σ'.nx r) (hn : nodupB (valsB r) = true) (htm : renTm r σ.tm σ'.tm) (hob : renOb r σ.ob σ'.ob) : Sub w0 σ σ' := by
  rintro a w ⟨om, h⟩
  let om' : Om := { om with tab := fun o => match look r o with | some k => om k | none => none }
  have hom : ∀ o o', look r o' = some o → om' o' = om o := by
    intro o o' hl
    show (match look r o' with | some k => om k | none => none) = _
    rw [hl]
  have hnone : ∀ o', look r o' = none → om' o' = none := by
    intro o' hl
    show (match look r o' with | some k => om k | none => none) = _
    rw [hl]
  have hlook : ∀ o x, look σ'.ob o = some x → ∃ k y, look r o = some k ∧ look σ.ob k = some y ∧ y.t = x.t ∧ renSV r y.c x.c := fun o x hx => look_renOb hob hx
  have hMo : ∀ b, Mo σ'.ob om' b → Mo σ.ob om b := by
    rintro b ⟨o, x, t, q, h1, h2, h3⟩
    obtain ⟨k, y, k1, k2, _⟩ := hlook o x h1
    rw [hom _ _ k1] at h2
    exact ⟨k, y, t, q, k2, h2, h3⟩
  have hM : ∀ b o, ¬ Mb σ.ob om b → w.heap[b]? = some o → ¬ Mb σ'.ob om' b ∧ w.heap[b]? = some o := Mb.lift rfl fun b o h1 h2 => ⟨fun hb => h1 (hMo b hb), h2⟩
  refine ⟨om', h.below, h.hF, h.defers, by rw [h.nt, hnt], ?_, ?_, ?_, ?_⟩
  · intro t v hv
    obtain ⟨u, hu, hr⟩ := look_renTm htm hv
    have hb := h.tm t u hu
    cases u with
    | v x =>
      cases v with
      | v y => obtain ⟨τ, k1, k2⟩ := hb; exact ⟨τ, renSV_ok hM hom hr k1, k2⟩
      | _ => exact hr.elim
    | u => cases v with
      | u => exact hb
      | _ => exact hr.elim
    | tup xs => cases v <;> exact hr.elim
  · intro o x hx
    obtain ⟨k, y, k1, k2, k3, k4⟩ := hlook o x hx
    obtain ⟨pl, h1, h2⟩ := h.ob k y k2
    refine ⟨pl, by rw [hom _ _ k1, ← k3]; exact h1, ?_⟩
    rw [← k3]
    cases pl with
    | none => exact ⟨h2.1, renSV_ok hM hom k4 h2.2⟩
    | some q => obtain ⟨m1, c, el, fr, m2, m3, m4, m5⟩ := h2; exact ⟨m1, c, el, fr, m2, m3, m4, renSV_ok hM hom k4 m5⟩
  · intro o o' x x' t t' q q' h1 h2 h3 h4 h5
    obtain ⟨k, y, k1, k2, _⟩ := hlook o x h1
    obtain ⟨k', y', k1', k2', _⟩ := hlook o' x' h2
    rw [hom _ _ k1] at h3
    rw [hom _ _ k1'] at h4
    have := h.apart _ _ _ _ _ _ _ _ k2 k2' h3 h4 h5
    subst this
    exact look_inj (nodupB_ok hn) k1 k1'
  · intro o ho
    cases hl : look r o with
    | none => exact hnone o hl
    | some k => have := keysLt_look hk hl; omega

end
end Go.SE
/- The operations' equations, one for each shape: what 'simp only' turns. -/
namespace Go.SE
universe u
/-- What 'simp' shall not enter: a later argument's type names it. -/
def Hold {α : Sort u} (_ : α) : Type := Unit
def HLoop (P : Program) (w0 : Base) (c : Code) (Q : Exit → St → Prop) (σ : St) (_ : Hold c) (_ : Hold Q) : Prop := SLoop P w0 c Q σ
def HDraw (P : Program) (w0 : Base) (id : Nat) (ops : Array Oper) (Q : Exit → St → Prop) (σ : St) (_ : Hold ops) (_ : Hold Q) : Prop := SDraw P w0 id ops Q σ
def HCall (P : Program) (f : FuncId) (l : List (Ty × D)) (K : List RV → Prop) (_ : Hold K) : Prop := SCall P f l K
def HIf (b : Bool) (t f : Prop) (_ : Hold t) (_ : Hold f) : Prop := sIf b t f
def HSwp (P : Program) (T : Tab) (w0 : Base) (c : Code) (Q : Exit → St → Prop) (σ : St) (_ : Hold c) (_ : Hold Q) : Prop := swp P T w0 c Q σ
theorem HIf_true {t f : Prop} : HIf true t f () () = t := sIf_true
theorem HIf_false {t f : Prop} : HIf false t f () () = f := sIf_false
theorem HIf_mk {c : Bool} {t f : Prop} {a : Hold t} {b : Hold f} (h1 : c = true → t) (h2 : c = false → f) : HIf c t f a b := ⟨h1, h2⟩
/-- At a branch: a proposition, and its contrary. -/
theorem HIf_dec {p : Prop} [Decidable p] {t f : Prop} {a : Hold t} {b : Hold f} (h1 : p → t) (h2 : ¬ p → f) : HIf (decide p) t f a b := ⟨fun h => h1 (of_decide_eq_true h), fun h => h2 (of_decide_eq_false h)⟩
theorem HIf_ndec {p : Prop} [Decidable p] {t f : Prop} {a : Hold t} {b : Hold f} (h1 : ¬ p → t) (h2 : p → f) : HIf (!decide p) t f a b := ⟨fun h => h1 (by simpa using h), fun h => h2 (by simpa using h)⟩

def keepT (tm : List (Nat × TV)) : List Nat → List (Nat × TV)
  | [] => []
  | k :: ks => match Go.SE.look tm k with | some v => (k, v) :: keepT tm ks | none => keepT tm ks
theorem keepT_look {tm : List (Nat × TV)} {t : Nat} {v : TV} : ∀ {ks : List Nat}, Go.SE.look (keepT tm ks) t = some v → Go.SE.look tm t = some v
  | [], h => by simp [keepT, Go.SE.look] at h
  | k :: ks, h => by
    simp only [keepT] at h
    split at h
    · rename_i u hu
      simp only [Go.SE.look] at h
      split at h
      · rename_i e; subst e; rw [hu, h]
      · exact keepT_look h
    · exact keepT_look h
theorem R.keep {w0 : Base} {σ : St} {a : Act} {w : World} (h : R w0 σ a w) (ks : List Nat) : R w0 ⟨σ.nt, keepT σ.tm ks, σ.ob, σ.nx⟩ a w := by
  obtain ⟨om, h⟩ := h
  exact ⟨om, h.below, h.hF, h.defers, h.nt, fun t v hv => h.tm t v (keepT_look hv), h.ob, h.apart, h.fresh⟩
theorem sunrollK {P : Program} {T : Tab} (ks : List Nat) (hT : T.Ok P) {w0 : Base} {c : Code} {Q : Exit → St → Prop} {σ : St} {a : Hold c} {b : Hold Q} (h : swp P T w0 c (sThen (fun σ => HLoop P w0 c Q σ () ()) Q) ⟨σ.nt, keepT σ.tm ks, σ.ob, σ.nx⟩) : HLoop P w0 c Q σ a b :=
  fun a w hr => sround hT h a w (hr.keep ks)

theorem HCall_mono {P : Program} {f : FuncId} {l : List (Ty × D)} {K K' : List RV → Prop} (h : SCall P f l K) (hk : ∀ rs, K rs → K' rs) : HCall P f l K' () := SCall.mono h hk

theorem sunroll {P : Program} {T : Tab} (hT : T.Ok P) {w0 : Base} {c : Code} {Q : Exit → St → Prop} {σ : St} {a : Hold c} {b : Hold Q} (h : swp P T w0 c (sThen (fun σ => HLoop P w0 c Q σ () ()) Q) σ) : HLoop P w0 c Q σ a b := sround hT h

section
variable {P : Program} {T : Tab} {σ : St} {K : St → Prop} {dst : Option Nat} {ty : TypeId} {pos : String} {aft : Array Edge} {g : Option (Nat × Bool)}

theorem e_move {x : Operand} : sOp P T ⟨dst, .move x, ty, pos, aft, g⟩ σ K = (dstOk dst σ.nt ∧ match ev σ x with | some v => K (σ.put dst v) | none => False) := rfl
theorem e_assign {x : Operand} : sOp P T ⟨dst, .assign x, ty, pos, aft, g⟩ σ K = (dstOk dst σ.nt ∧ match ev σ x with | some v => K (σ.put dst v) | none => False) := rfl
theorem e_bin {op : BinOp} {xT yT : TypeId} {x y : Operand} : sOp P T ⟨dst, .binOp op xT x y yT, ty, pos, aft, g⟩ σ K = (dstOk dst σ.nt ∧ match ev1 σ x, ev1 σ y with
    | some (.d t dx), some (.d t' dy) => tyIf T t xT ∧ sBin op t dx t' dy (fun s => K (σ.put dst (.v s)))
    | _, _ => False) := rfl
theorem e_un {op : UnOp} {xT : TypeId} {x : Operand} : sOp P T ⟨dst, .unOp op xT x, ty, pos, aft, g⟩ σ K = (dstOk dst σ.nt ∧ match ev1 σ x with | some (.d t dx) => sUn op t dx (fun s => K (σ.put dst (.v s))) | _ => False) := rfl
theorem e_conv {u d : TypeId} {x : Operand} : sOp P T ⟨dst, .convert u d x, ty, pos, aft, g⟩ σ K = (dstOk dst σ.nt ∧ match ev1 σ x with | some s => sConv T u d s σ (fun σ s => K (σ.put dst (.v s))) | none => False) := rfl
theorem e_pick {c x y : Operand} : sOp P T ⟨dst, .pick c x y, ty, pos, aft, g⟩ σ K = (dstOk dst σ.nt ∧ match ev1 σ c with
    | some (.d .bool b) => HIf b.bool (match ev σ x with | some v => K (σ.put dst v) | none => False) (match ev σ y with | some v => K (σ.put dst v) | none => False) () ()
    | _ => False) := rfl
theorem e_alloc {u : TypeId} : sOp P T ⟨dst, .alloc u, ty, pos, aft, g⟩ σ K = (dstOk dst σ.nt ∧ sAlloc T u σ (fun σ s => K (σ.put dst (.v s)))) := rfl
theorem e_box {u : TypeId} {x : Operand} : sOp P T ⟨dst, .box u x, ty, pos, aft, g⟩ σ K = (dstOk dst σ.nt ∧ match ev1 σ x with | some s => sBox T u s σ (fun σ s => K (σ.put dst (.v s))) | none => False) := rfl
theorem e_build {t : TypeId} {l : List (Nat × Operand)} : sOp P T ⟨dst, .build t l.toArray, ty, pos, aft, g⟩ σ K = (dstOk dst σ.nt ∧ sBuild T t l σ (fun s => K (σ.put dst (.v s)))) := rfl
theorem e_buildS {t : TypeId} {n : Nat} {l : List (Nat × Operand)} : sOp P T ⟨dst, .buildSlice t n l.toArray, ty, pos, aft, g⟩ σ K = (dstOk dst σ.nt ∧ sBuildS T t n l σ (fun σ s => K (σ.put dst (.v s)))) := rfl
theorem e_load {u : TypeId} {x : Operand} : sOp P T ⟨dst, .load u x, ty, pos, aft, g⟩ σ K = (dstOk dst σ.nt ∧ match ev1 σ x with | some s => sLoad T u s σ (fun s => K (σ.put dst (.v s))) | none => False) := rfl
theorem e_store {u : TypeId} {x y : Operand} : sOp P T ⟨dst, .store u x y, ty, pos, aft, g⟩ σ K = (dstOk dst σ.nt ∧ match ev1 σ x, ev1 σ y with | some s, some r => sStore T u s r σ (fun σ => K (σ.put dst .u)) | _, _ => False) := rfl
theorem e_nil {x : Operand} : sOp P T ⟨dst, .nilCheck x, ty, pos, aft, g⟩ σ K = (dstOk dst σ.nt ∧ match ev1 σ x with
    | some (.ptr b p) => (look σ.ob b).isSome = true ∧ K (σ.put dst (.v (.ptr b p)))
    | some (.vp t y) => K (σ.put dst (.v (.vp t y)))
    | _ => False) := rfl
theorem e_arr {d : TypeId} {x : Operand} : sOp P T ⟨dst, .sliceToArrayPointer d x, ty, pos, aft, g⟩ σ K = (dstOk dst σ.nt ∧ match ev1 σ x with | some s => sArr T d s σ (fun s => K (σ.put dst (.v s))) | none => False) := rfl
theorem e_make {t : TypeId} {x y : Operand} : sOp P T ⟨dst, .makeSlice t x y, ty, pos, aft, g⟩ σ K = (dstOk dst σ.nt ∧ match ev1 σ x, ev1 σ y with
    | some (.d (.int _) l), some (.d (.int _) c) => sMake T t l c σ (fun σ s => K (σ.put dst (.v s)))
    | _, _ => False) := rfl
theorem e_slice {u : TypeId} {x : Operand} {lo hi : Option Operand} : sOp P T ⟨dst, .slice u x lo hi none, ty, pos, aft, g⟩ σ K = (dstOk dst σ.nt ∧ match ev1 σ x, opInt σ lo, opInt σ hi with
    | some s, some l, some h => sSlice T u s l h σ (fun s => K (σ.put dst (.v s)))
    | _, _, _ => False) := rfl
theorem e_fieldAddr {u : TypeId} {x : Operand} {i : Nat} : sOp P T ⟨dst, .fieldAddr u x i, ty, pos, aft, g⟩ σ K = (dstOk dst σ.nt ∧ match ev1 σ x with | some s => sFieldAddr T u s i σ (fun s => K (σ.put dst (.v s))) | none => False) := rfl
theorem e_field {u : TypeId} {x : Operand} {i : Nat} : sOp P T ⟨dst, .field u x i, ty, pos, aft, g⟩ σ K = (dstOk dst σ.nt ∧ match ev1 σ x with | some s => sField T u s i σ (fun s => K (σ.put dst (.v s))) | none => False) := rfl
theorem e_indexAddr {u : TypeId} {x y : Operand} : sOp P T ⟨dst, .indexAddr u x y, ty, pos, aft, g⟩ σ K = (dstOk dst σ.nt ∧ match ev1 σ x, ev1 σ y with | some s, some (.d (.int _) i) => sIndexAddr T u s i σ (fun s => K (σ.put dst (.v s))) | _, _ => False) := rfl
theorem e_index {u : TypeId} {x y : Operand} : sOp P T ⟨dst, .index u x y, ty, pos, aft, g⟩ σ K = (dstOk dst σ.nt ∧ match ev1 σ x, ev1 σ y with | some s, some (.d (.int _) i) => sIndex T u s i (fun s => K (σ.put dst (.v s))) | _, _ => False) := rfl
theorem e_extract {x : Operand} {i : Nat} : sOp P T ⟨dst, .extract x i, ty, pos, aft, g⟩ σ K = (dstOk dst σ.nt ∧ sExtract (ev σ x) i (fun s => K (σ.put dst (.v s)))) := rfl
theorem e_len {x : Operand} {u : TypeId} : sOp P T ⟨dst, .call { callee := .builtin .len, args := #[x], argTypes := #[u] }, ty, pos, aft, g⟩ σ K = (dstOk dst σ.nt ∧ match ev1 σ x with | some s => sLen T u s (fun s => K (σ.put dst (.v s))) | none => False) := rfl
theorem e_append {x y : Operand} {t u : TypeId} : sOp P T ⟨dst, .call { callee := .builtin .append, args := #[x, y], argTypes := #[t, u] }, ty, pos, aft, g⟩ σ K = (dstOk dst σ.nt ∧ match ev1 σ x, ev1 σ y with | some s, some r => sAppend T t u s r σ (fun σ s => K (σ.put dst (.v s))) | _, _ => False) := rfl
theorem e_copy {x y : Operand} {t u : TypeId} : sOp P T ⟨dst, .call { callee := .builtin .copy, args := #[x, y], argTypes := #[t, u] }, ty, pos, aft, g⟩ σ K = (dstOk dst σ.nt ∧ match ev1 σ x, ev1 σ y with | some s, some r => sCopy T t u s r σ (fun σ s => K (σ.put dst (.v s))) | _, _ => False) := rfl
theorem e_min {x y : Operand} {us : Array TypeId} : sOp P T ⟨dst, .call { callee := .builtin .min, args := #[x, y], argTypes := us }, ty, pos, aft, g⟩ σ K = (dstOk dst σ.nt ∧ match ev1 σ x, ev1 σ y with
    | some (.d (.int k) l), some (.d (.int _) c) => K (σ.put dst (.v (.d (.int k) (.n (if c.int < l.int then c.int else l.int)))))
    | _, _ => False) := rfl
theorem e_max {x y : Operand} {us : Array TypeId} : sOp P T ⟨dst, .call { callee := .builtin .max, args := #[x, y], argTypes := us }, ty, pos, aft, g⟩ σ K = (dstOk dst σ.nt ∧ match ev1 σ x, ev1 σ y with
    | some (.d (.int k) l), some (.d (.int _) c) => K (σ.put dst (.v (.d (.int k) (.n (if l.int < c.int then c.int else l.int)))))
    | _, _ => False) := rfl
theorem e_call {f : FuncId} {xs : List Operand} {us : List TypeId} : sOp P T ⟨dst, .call { callee := .value (.func f), args := xs.toArray, argTypes := us.toArray }, ty, pos, aft, g⟩ σ K = (dstOk dst σ.nt ∧ match sArgs T σ xs us with
    | some l => HCall P f l (fun rs => K (retSt σ (aRefs σ xs) rs dst)) ()
    | none => False) := rfl

theorem e_region {w0 : Base} {id : Nat} {l : List Oper} {Q : Exit → St → Prop} : swp P T w0 (.region id l.toArray false) Q σ = sOps P T l.toArray l σ (fun σ => Q .normal σ) := rfl
theorem e_draw {w0 : Base} {id : Nat} {ops : Array Oper} {Q : Exit → St → Prop} : swp P T w0 (.region id ops true) Q σ = HDraw P w0 id ops Q σ () () := rfl
theorem e_seq {w0 : Base} {x y : Code} {Q : Exit → St → Prop} : swp P T w0 (.seq x y) Q σ = swp P T w0 x (sThen (fun σ => swp P T w0 y Q σ) Q) σ := rfl
theorem e_skip {w0 : Base} {Q : Exit → St → Prop} : swp P T w0 .skip Q σ = Q .normal σ := rfl
theorem e_label {w0 : Base} {i : Nat} {Q : Exit → St → Prop} : swp P T w0 (.label i) Q σ = Q .normal σ := rfl
theorem e_exit {w0 : Base} {i : Nat} {Q : Exit → St → Prop} : swp P T w0 (.exit i) Q σ = Q (.exit i) σ := rfl
theorem e_ret {w0 : Base} {Q : Exit → St → Prop} : swp P T w0 .ret Q σ = Q .ret σ := rfl
theorem e_block {w0 : Base} {i : Nat} {c : Code} {Q : Exit → St → Prop} : swp P T w0 (.block i c) Q σ = swp P T w0 c (sBlock i Q) σ := rfl
theorem e_loop {w0 : Base} {c : Code} {Q : Exit → St → Prop} : swp P T w0 (.loop c) Q σ = HLoop P w0 c Q σ () () := rfl
theorem e_cond {w0 : Base} {t : Nat} {x y : Code} {Q : Exit → St → Prop} : swp P T w0 (.cond (.tmp t) x y) Q σ = match look σ.tm t with
    | some (.v (.d .bool b)) => HIf b.bool (swp P T w0 x Q (σ.setB t true)) (swp P T w0 y Q (σ.setB t false)) () ()
    | _ => False := rfl

variable {ops : Array Oper} {l : List Oper} {op : Op}
theorem o_nil : sOps P T ops [] σ K = K σ := rfl
theorem o_plain : sOps P T ops (⟨dst, op, ty, pos, aft, none⟩ :: l) σ K = sOp P T ⟨dst, op, ty, pos, aft, none⟩ σ (fun σ => sOps P T ops l σ K) := rfl
theorem o_guard {j : Nat} {want : Bool} : sOps P T ops (⟨dst, op, ty, pos, aft, some (j, want)⟩ :: l) σ K =
    match gdst ops j with
    | some t => match look σ.tm t with
      | some (.v (.d .bool x)) => HIf x.bool
        (if want then sOp P T ⟨dst, op, ty, pos, aft, some (j, want)⟩ (σ.setB t true) (fun σ => sOps P T ops l σ K) else sSkip ⟨dst, op, ty, pos, aft, some (j, want)⟩ (σ.setB t true) (fun σ => sOps P T ops l σ K))
        (if want then sSkip ⟨dst, op, ty, pos, aft, some (j, want)⟩ (σ.setB t false) (fun σ => sOps P T ops l σ K) else sOp P T ⟨dst, op, ty, pos, aft, some (j, want)⟩ (σ.setB t false) (fun σ => sOps P T ops l σ K)) () ()
      | some .u => sSkip ⟨dst, op, ty, pos, aft, some (j, want)⟩ σ (fun σ => sOps P T ops l σ K)
      | _ => False
    | none => False := rfl
theorem gdst_zero {o : Oper} {l : List Oper} : gdst (o :: l).toArray 0 = o.dst := rfl
theorem gdst_succ {o : Oper} {l : List Oper} {n : Nat} : gdst (o :: l).toArray (n + 1) = gdst l.toArray n := by simp [gdst]
theorem o_skip {o : Oper} : sSkip o σ K = (dstOk o.dst σ.nt ∧ K (σ.put o.dst .u)) := rfl

theorem ev_tmp {nt nx : Nat} {tm : List (Nat × TV)} {ob : List (Nat × Ob)} {t : Nat} : ev ⟨nt, tm, ob, nx⟩ (.tmp t) = look tm t := rfl
theorem ev_int {k : IntKind} {n : Int} : ev σ (.const (.int k n)) = some (.v (.d (.int k) (.n n))) := rfl
theorem ev_bool {b : Bool} : ev σ (.const (.bool b)) = some (.v (.d .bool (.b b))) := rfl
theorem ev_str {s : ByteArray} : ev σ (.const (.string s)) = some (.v (.d .str (.s s))) := rfl
theorem ev_sl : ev σ (.const (.slice none 0 0)) = some (.v .nil) := rfl
theorem ev1_tmp {nt nx : Nat} {tm : List (Nat × TV)} {ob : List (Nat × Ob)} {t : Nat} : ev1 ⟨nt, tm, ob, nx⟩ (.tmp t) = match look tm t with | some (.v s) => some s | _ => none := rfl
theorem ev1_int {k : IntKind} {n : Int} : ev1 σ (.const (.int k n)) = some (.d (.int k) (.n n)) := rfl
theorem ev1_bool {b : Bool} : ev1 σ (.const (.bool b)) = some (.d .bool (.b b)) := rfl
theorem ev1_str {s : ByteArray} : ev1 σ (.const (.string s)) = some (.d .str (.s s)) := rfl
theorem ev1_sl : ev1 σ (.const (.slice none 0 0)) = some .nil := rfl
theorem put_some {nt nx : Nat} {tm : List (Nat × TV)} {ob : List (Nat × Ob)} {t : Nat} {v : TV} : St.put ⟨nt, tm, ob, nx⟩ (some t) v = ⟨nt, (t, v) :: tm, ob, nx⟩ := rfl
theorem put_none {v : TV} : St.put σ none v = σ := rfl
theorem setB_mk {nt nx : Nat} {tm : List (Nat × TV)} {ob : List (Nat × Ob)} {t : Nat} {b : Bool} : St.setB ⟨nt, tm, ob, nx⟩ t b = ⟨nt, (t, .v (.d .bool (.b b))) :: tm, ob, nx⟩ := rfl
theorem dst_none {n : Nat} : dstOk none n = True := rfl
theorem dst_some {n d : Nat} : dstOk (some d) n = (d < n) := rfl
end
section
variable {T : Tab} {t u : TypeId} {x y : SV} {σ : St} {K : St → SV → Prop}
theorem sCopy_held : sCopy T t u x y σ K = match Go.SE.look T t with
  | some (.sl e) =>
    match srcD T σ e u y with
    | some ds =>
      match slen x with
      | some len => HIf (decide (min ds.length len = 0)) (K σ (.d (.int .i64) (.n 0)))
        (match x with
         | .ref o p off len => match Go.SE.look σ.ob o with
           | some ob => match ob.c.get p with
             | some (.d (.arr N e') c) => e' = e ∧ (match ob.c.put p (.d (.arr N e) (.l (c.list.take off ++ ds.take (min ds.length len) ++ c.list.drop (off + min ds.length len)))) with
               | some c' => K { σ with ob := upd σ.ob o ⟨ob.t, c'⟩ } (.d (.int .i64) (.n (min ds.length len : Nat)))
               | none => False)
             | _ => False
           | none => False
         | _ => False) () ()
      | none => False
    | none => False
  | _ => False := rfl
end
section
variable {k k' : IntKind} {x y : D} {K : SV → Prop} {t' : Ty} {e : Ty} {n : Nat} {a b : Ty}
theorem b_add : sBin .add (.int k) x (.int k') y K = (k = k' ∧ K (.d (.int k) (.n (k.wrap (x.int + y.int))))) := rfl
theorem b_sub : sBin .sub (.int k) x (.int k') y K = (k = k' ∧ K (.d (.int k) (.n (k.wrap (x.int - y.int))))) := rfl
theorem b_mul : sBin .mul (.int k) x (.int k') y K = (k = k' ∧ K (.d (.int k) (.n (k.wrap (x.int * y.int))))) := rfl
theorem b_and : sBin .and (.int k) x (.int k') y K = (k = k' ∧ K (.d (.int k) (.n (bits .and k x.int y.int)))) := rfl
theorem b_or : sBin .or (.int k) x (.int k') y K = (k = k' ∧ K (.d (.int k) (.n (bits .or k x.int y.int)))) := rfl
theorem b_xor : sBin .xor (.int k) x (.int k') y K = (k = k' ∧ K (.d (.int k) (.n (bits .xor k x.int y.int)))) := rfl
theorem b_andNot : sBin .andNot (.int k) x (.int k') y K = (k = k' ∧ K (.d (.int k) (.n (bits .andNot k x.int y.int)))) := rfl
theorem b_shl : sBin .shl (.int k) x (.int k') y K = (0 ≤ y.int ∧ K (.d (.int k) (.n (k.wrap (x.int * 2 ^ min y.int.toNat k.bits))))) := rfl
theorem b_shr : sBin .shr (.int k) x (.int k') y K = (0 ≤ y.int ∧ K (.d (.int k) (.n (x.int.fdiv (2 ^ min y.int.toNat k.bits))))) := rfl
theorem b_quo : sBin .quo (.int k) x (.int k') y K = (k = k' ∧ y.int ≠ 0 ∧ K (.d (.int k) (.n (k.wrap (x.int.tdiv y.int))))) := rfl
theorem b_rem : sBin .rem (.int k) x (.int k') y K = (k = k' ∧ y.int ≠ 0 ∧ K (.d (.int k) (.n (x.int.tmod y.int)))) := rfl
theorem b_eql : sBin .eql (.int k) x (.int k') y K = (k = k' ∧ K (.d .bool (.b (decide (x.int = y.int))))) := rfl
theorem b_neq : sBin .neq (.int k) x (.int k') y K = (k = k' ∧ K (.d .bool (.b (!decide (x.int = y.int))))) := rfl
theorem b_lss : sBin .lss (.int k) x (.int k') y K = (k = k' ∧ K (.d .bool (.b (decide (x.int < y.int))))) := rfl
theorem b_leq : sBin .leq (.int k) x (.int k') y K = (k = k' ∧ K (.d .bool (.b (decide (x.int ≤ y.int))))) := rfl
theorem b_gtr : sBin .gtr (.int k) x (.int k') y K = (k = k' ∧ K (.d .bool (.b (decide (y.int < x.int))))) := rfl
theorem b_geq : sBin .geq (.int k) x (.int k') y K = (k = k' ∧ K (.d .bool (.b (decide (y.int ≤ x.int))))) := rfl
theorem b_seql : sBin .eql .str x .str y K = K (.d .bool (.b (x.str.toList == y.str.toList))) := rfl
theorem b_sneq : sBin .neq .str x .str y K = K (.d .bool (.b (!(x.str.toList == y.str.toList)))) := rfl
theorem b_sadd : sBin .add .str x .str y K = (x.str.size + y.str.size ≤ 9223372036854775807 ∧ K (.d .str (.s (x.str ++ y.str)))) := rfl
theorem b_beql : sBin .eql .bool x .bool y K = (Ty.bool = .bool ∧ Ty.cmp .bool = true ∧ Ty.depth .bool < 100 ∧ K (.d .bool (.b (x.bool == y.bool)))) := rfl
theorem b_bneq : sBin .neq .bool x .bool y K = (Ty.bool = .bool ∧ Ty.cmp .bool = true ∧ Ty.depth .bool < 100 ∧ K (.d .bool (.b (!(x.bool == y.bool))))) := rfl
theorem b_aeql : sBin .eql (.arr n e) x t' y K = (Ty.arr n e = t' ∧ Ty.cmp (.arr n e) = true ∧ Ty.depth (.arr n e) < 100 ∧ K (.d .bool (.b (deq (.arr n e) x y)))) := rfl
theorem b_aneq : sBin .neq (.arr n e) x t' y K = (Ty.arr n e = t' ∧ Ty.cmp (.arr n e) = true ∧ Ty.depth (.arr n e) < 100 ∧ K (.d .bool (.b (!deq (.arr n e) x y)))) := rfl
theorem b_ceql : sBin .eql (.cons a b) x t' y K = (Ty.cons a b = t' ∧ Ty.cmp (.cons a b) = true ∧ Ty.depth (.cons a b) < 100 ∧ K (.d .bool (.b (deq (.cons a b) x y)))) := rfl
theorem b_cneq : sBin .neq (.cons a b) x t' y K = (Ty.cons a b = t' ∧ Ty.cmp (.cons a b) = true ∧ Ty.depth (.cons a b) < 100 ∧ K (.d .bool (.b (!deq (.cons a b) x y)))) := rfl
end
def rep : Nat → D → List D
  | 0, _ => []
  | n + 1, x => x :: rep n x
theorem rep_zero {x : D} : rep 0 x = [] := rfl
theorem rep_succ {n : Nat} {x : D} : rep (n + 1) x = x :: rep n x := rfl
theorem rep_eq (n : Nat) (x : D) : List.replicate n x = rep n x := by induction n with
  | zero => rfl
  | succ n ih => rw [List.replicate_succ, ih, rep]
theorem sBuildS_held {T : Tab} {t : TypeId} {n : Nat} {parts : List (Nat × Operand)} {σ : St} {K : St → SV → Prop} : sBuildS T t n parts σ K = match Go.SE.look T t with
  | some (.sl e) => n * e.size ≤ 16777216 ∧ bldS σ e n parts (rep n e.zeroD) [] fun ds rs =>
      K { σ with ob := (σ.nx, ⟨.arr n e, .d (.arr n e) (.l ds)⟩) :: dels σ.ob rs, nx := σ.nx + 1 } (.ref σ.nx [] 0 n)
  | _ => False := by
  simp only [← rep_eq]; rfl
theorem retSt_mk {nt nx : Nat} {tm : List (Nat × TV)} {ob : List (Nat × Ob)} {rf : List Nat} {rs : List RV} {dst : Option Nat} :
    retSt ⟨nt, tm, ob, nx⟩ rf rs dst = (if rs.all RV.flat = true then ⟨nt, tm, app (newObs nx rs) ob, nx + rs.length⟩ else ⟨nt, tm, app (newObs nx rs) (dels ob rf), nx + rs.length⟩ : St).put dst (tvOf (newSVs nx rs)) := by
  unfold retSt
  split <;> rfl
theorem tv_one {x : SV} : tvOf [x] = .v x := rfl
theorem tv_nil : tvOf [] = .tup [] := rfl
theorem tv_two {x y : SV} {l : List SV} : tvOf (x :: y :: l) = .tup (x :: y :: l) := rfl
theorem rf_d {t : Ty} {x : D} : RV.flat (.d t x) = t.flat := rfl
theorem rf_own {t : Ty} {x : List D} : RV.flat (.own t x) = t.flat := rfl
theorem no_d {n : Nat} {t : Ty} {x : D} {rs : List RV} : newObs n (.d t x :: rs) = newObs (n + 1) rs := rfl
theorem no_own {n : Nat} {e : Ty} {ds : List D} {rs : List RV} : newObs n (.own e ds :: rs) = (n, ⟨.arr ds.length e, .d (.arr ds.length e) (.l ds)⟩) :: newObs (n + 1) rs := rfl
theorem no_nil {n : Nat} : newObs n [] = [] := rfl
theorem ns_d {n : Nat} {t : Ty} {x : D} {rs : List RV} : newSVs n (.d t x :: rs) = .d t x :: newSVs (n + 1) rs := rfl
theorem ns_own {n : Nat} {e : Ty} {ds : List D} {rs : List RV} : newSVs n (.own e ds :: rs) = .ref n [] 0 ds.length :: newSVs (n + 1) rs := rfl
theorem ns_nil {n : Nat} : newSVs n [] = [] := rfl
theorem fl_bool : Ty.flat .bool = true := rfl
theorem fl_int {k : IntKind} : Ty.flat (.int k) = true := rfl
theorem fl_str : Ty.flat .str = true := rfl
theorem fl_nil : Ty.flat .nil = true := rfl
theorem fl_arr {n : Nat} {e : Ty} : Ty.flat (.arr n e) = e.flat := rfl
theorem fl_sl {e : Ty} : Ty.flat (.sl e) = false := rfl
theorem fl_ptr : Ty.flat .ptr = false := rfl
theorem fl_cons {a b : Ty} : Ty.flat (.cons a b) = (a.flat && b.flat) := rfl
theorem s1_f {t : Ty} {i : Nat} : Ty.sub1 t (.f i) = t.subF i := by cases t <;> rfl
theorem s1_ix {n : Nat} {e : Ty} {i : Nat} : Ty.sub1 (.arr n e) (.ix i) = some e := rfl
theorem s1_win {n : Nat} {e : Ty} {o m : Nat} : Ty.sub1 (.arr n e) (.win o m) = some (.arr m e) := rfl
theorem ok_ix {n : Nat} {e : Ty} {i : Nat} : Ty.ok1 (.arr n e) (.ix i) = (i < n) := rfl
theorem ok_f {t : Ty} {i : Nat} : Ty.ok1 t (.f i) = True := by cases t <;> rfl
theorem sub_nil {t : Ty} : Ty.sub t [] = some t := by cases t <;> rfl
theorem sub_cons {t : Ty} {s : Step} {p : List Step} : Ty.sub t (s :: p) = (t.sub1 s).bind (·.sub p) := by cases t <;> rfl
theorem get_nil {v : SV} : SV.get v [] = some v := by cases v <;> rfl
theorem get_cons {v : SV} {s : Step} {p : List Step} : SV.get v (s :: p) = (v.step1 s).bind (·.get p) := by cases v <;> rfl
theorem put_nil {c v : SV} : SV.put c [] v = some v := by cases c <;> rfl
theorem put_cons {c v : SV} {s : Step} {p : List Step} : SV.put c (s :: p) v = (c.step1 s).bind fun u => (u.put p v).bind fun u' => c.set1 s u' := by cases c <;> rfl
theorem sf_d {t : Ty} {x : D} {i : Nat} : SV.stepF (.d t x) i = (t.subF i).map fun a => .d a (x.at i) := by cases i <;> rfl
theorem sf_zero {a b : SV} : SV.stepF (.acons a b) 0 = some a := rfl
theorem sf_succ {a b : SV} {i : Nat} : SV.stepF (.acons a b) (i + 1) = b.stepF i := rfl
theorem subF_zero {a b : Ty} : Ty.subF (.cons a b) 0 = some a := rfl
theorem subF_succ {a b : Ty} {i : Nat} : Ty.subF (.cons a b) (i + 1) = b.subF i := rfl
theorem st1_f {v : SV} {i : Nat} : SV.step1 v (.f i) = v.stepF i := by cases v <;> rfl
theorem st1_ix {n : Nat} {e : Ty} {x : D} {i : Nat} : SV.step1 (.d (.arr n e) x) (.ix i) = some (.d e (x.at i)) := rfl
theorem st1_win {n : Nat} {e : Ty} {x : D} {o m : Nat} : SV.step1 (.d (.arr n e) x) (.win o m) = some (.d (.arr m e) (.l ((x.list.drop o).take m))) := rfl
theorem se_f {c v : SV} {i : Nat} : SV.set1 c (.f i) v = c.setF i v := by cases c <;> rfl
theorem se_ix {n : Nat} {e a : Ty} {x y : D} {i : Nat} : SV.set1 (.d (.arr n e) x) (.ix i) (.d a y) = if a = e then some (.d (.arr n e) (.l (x.list.set i y))) else none := rfl
theorem deq_self : ∀ (t : Ty) (x : D), deq t x x = true
  | .bool, x => by simp [deq]
  | .int _, x => by simp [deq]
  | .str, x => by simp [deq]
  | .arr n e, x => by simp only [deq, List.all_eq_true]; exact fun i _ => deq_self e _
  | .cons a b, x => by simp only [deq, Bool.and_eq_true]; exact ⟨deq_self a _, deq_self b _⟩
  | .sl _, x => rfl
  | .nil, x => rfl
  | .ptr, x => rfl
theorem z_arr {n : Nat} {e : Ty} : Ty.zeroSV (.arr n e) = .d (.arr n e) (.l (List.replicate n e.zeroD)) := rfl
theorem z_int {k : IntKind} : Ty.zeroSV (.int k) = .d (.int k) (.n 0) := rfl
theorem z_bool : Ty.zeroSV .bool = .d .bool (.b false) := rfl
theorem z_str : Ty.zeroSV .str = .d .str (.s .empty) := rfl
theorem z_sl {e : Ty} : Ty.zeroSV (.sl e) = .nil := rfl
theorem z_nil : Ty.zeroSV .nil = .anil := rfl
theorem z_cons {a b : Ty} : Ty.zeroSV (.cons a b) = if (a.flat && b.flat) = true then .d (.cons a b) (Ty.cons a b).zeroD else .acons a.zeroSV b.zeroSV := rfl
theorem at_zero {x : D} {l : List D} : D.at (.l (x :: l)) 0 = x := rfl
theorem at_succ {x : D} {l : List D} {n : Nat} : D.at (.l (x :: l)) (n + 1) = D.at (.l l) n := rfl
theorem cast_lit {n : Nat} : ((no_index (OfNat.ofNat n : Nat) : Nat) : Int) = (OfNat.ofNat n : Int) := rfl
theorem tn_add (a b : Nat) : ((a : Int) + (b : Int)).toNat = a + b := by omega
theorem D.int_n {x : Int} : D.int (.n x) = x := rfl
theorem D.bool_b {x : Bool} : D.bool (.b x) = x := rfl
theorem D.str_s {x : ByteArray} : D.str (.s x) = x := rfl
theorem D.list_l {x : List D} : D.list (.l x) = x := rfl
theorem hasTy_d {σ : St} {t u : Ty} {x : D} : hasTy σ t (.d u x) = (u = t) := by cases t <;> rfl
theorem den_d {σ : St} {t u : Ty} {x : D} : den σ t (.d u x) = if u = t then some x else none := by cases t <;> rfl
theorem gpre : type_of% (And.intro @e_move (And.intro @e_assign (And.intro @e_bin (And.intro @e_un (And.intro @e_conv (And.intro @e_pick (And.intro @e_alloc (And.intro @e_box (And.intro @e_build (And.intro @e_buildS (And.intro @e_load (And.intro @e_store (And.intro @e_nil (And.intro @e_arr (And.intro @e_make (And.intro @e_slice (And.intro @e_fieldAddr (And.intro @e_field (And.intro @e_indexAddr (And.intro @e_index (And.intro @e_extract (And.intro @e_len (And.intro @e_append (And.intro @e_copy (And.intro @e_min (And.intro @e_max (And.intro @e_call (And.intro @e_region (And.intro @e_draw (And.intro @e_seq (And.intro @e_skip (And.intro @e_label (And.intro @e_exit (And.intro @e_ret (And.intro @e_block (And.intro @e_loop (And.intro @e_cond (And.intro @o_nil (And.intro @o_plain (And.intro @o_guard (And.intro @o_skip (And.intro @sThen_normal (And.intro @sThen_ret (And.intro @sThen_exit (And.intro @sBlock_normal (And.intro @sBlock_ret (And.intro @sBlock_exit (And.intro @sExit_ret (And.intro @sExit_normal (And.intro @b_add (And.intro @b_sub (And.intro @b_mul (And.intro @b_and (And.intro @b_or (And.intro @b_xor (And.intro @b_andNot (And.intro @b_shl (And.intro @b_shr (And.intro @b_quo (And.intro @b_rem (And.intro @b_eql (And.intro @b_neq (And.intro @b_lss (And.intro @b_leq (And.intro @b_gtr (And.intro @b_geq (And.intro @b_seql (And.intro @b_sneq (And.intro @b_sadd (And.intro @b_beql (And.intro @b_bneq (And.intro @b_aeql (And.intro @b_aneq (And.intro @b_ceql (And.intro @b_cneq (And.intro @sUn.eq_def (And.intro @sConv.eq_def (And.intro @sLen.eq_def (And.intro @sBounds.eq_def (And.intro @sSlice.eq_def (And.intro @sMake.eq_def (And.intro @sAppend.eq_def (And.intro @sLoad.eq_def (And.intro @sStore.eq_def (And.intro @sIndexAddr.eq_def (And.intro @sIndex.eq_def (And.intro @sFieldAddr.eq_def (And.intro @sField.eq_def (And.intro @sExtract.eq_def (And.intro @sAlloc.eq_def (And.intro @sBox.eq_def (And.intro @sArr.eq_def (And.intro @sCopy_held (And.intro @sBuildS_held (And.intro @sBuild.eq_def (And.intro @sRet.eq_def (And.intro @HIf_true (@HIf_false)))))))))))))))))))))))))))))))))))))))))))))))))))))))))))))))))))))))))))))))))))))))))))))))))) := And.intro @e_move (And.intro @e_assign (And.intro @e_bin (And.intro @e_un (And.intro @e_conv (And.intro @e_pick (And.intro @e_alloc (And.intro @e_box (And.intro @e_build (And.intro @e_buildS (And.intro @e_load (And.intro @e_store (And.intro @e_nil (And.intro @e_arr (And.intro @e_make (And.intro @e_slice (And.intro @e_fieldAddr (And.intro @e_field (And.intro @e_indexAddr (And.intro @e_index (And.intro @e_extract (And.intro @e_len (And.intro @e_append (And.intro @e_copy (And.intro @e_min (And.intro @e_max (And.intro @e_call (And.intro @e_region (And.intro @e_draw (And.intro @e_seq (And.intro @e_skip (And.intro @e_label (And.intro @e_exit (And.intro @e_ret (And.intro @e_block (And.intro @e_loop (And.intro @e_cond (And.intro @o_nil (And.intro @o_plain (And.intro @o_guard (And.intro @o_skip (And.intro @sThen_normal (And.intro @sThen_ret (And.intro @sThen_exit (And.intro @sBlock_normal (And.intro @sBlock_ret (And.intro @sBlock_exit (And.intro @sExit_ret (And.intro @sExit_normal (And.intro @b_add (And.intro @b_sub (And.intro @b_mul (And.intro @b_and (And.intro @b_or (And.intro @b_xor (And.intro @b_andNot (And.intro @b_shl (And.intro @b_shr (And.intro @b_quo (And.intro @b_rem (And.intro @b_eql (And.intro @b_neq (And.intro @b_lss (And.intro @b_leq (And.intro @b_gtr (And.intro @b_geq (And.intro @b_seql (And.intro @b_sneq (And.intro @b_sadd (And.intro @b_beql (And.intro @b_bneq (And.intro @b_aeql (And.intro @b_aneq (And.intro @b_ceql (And.intro @b_cneq (And.intro @sUn.eq_def (And.intro @sConv.eq_def (And.intro @sLen.eq_def (And.intro @sBounds.eq_def (And.intro @sSlice.eq_def (And.intro @sMake.eq_def (And.intro @sAppend.eq_def (And.intro @sLoad.eq_def (And.intro @sStore.eq_def (And.intro @sIndexAddr.eq_def (And.intro @sIndex.eq_def (And.intro @sFieldAddr.eq_def (And.intro @sField.eq_def (And.intro @sExtract.eq_def (And.intro @sAlloc.eq_def (And.intro @sBox.eq_def (And.intro @sArr.eq_def (And.intro @sCopy_held (And.intro @sBuildS_held (And.intro @sBuild.eq_def (And.intro @sRet.eq_def (And.intro @HIf_true (@HIf_false)))))))))))))))))))))))))))))))))))))))))))))))))))))))))))))))))))))))))))))))))))))))))))))))))
theorem gpost : type_of% (And.intro @gdst_zero (And.intro @gdst_succ (And.intro @ev_tmp (And.intro @ev_int (And.intro @ev_bool (And.intro @ev_str (And.intro @ev_sl (And.intro @ev1_tmp (And.intro @ev1_int (And.intro @ev1_bool (And.intro @ev1_str (And.intro @ev1_sl (And.intro @put_some (And.intro @put_none (And.intro @setB_mk (And.intro @dst_none (And.intro @dst_some (And.intro @D.int_n (And.intro @D.bool_b (And.intro @D.str_s (And.intro @D.list_l (And.intro @hasTy_d (And.intro @den_d (And.intro @HIf_true (And.intro @HIf_false (And.intro @sub_nil (And.intro @sub_cons (And.intro @s1_f (And.intro @s1_ix (And.intro @s1_win (And.intro @ok_ix (And.intro @ok_f (And.intro @subF_zero (And.intro @subF_succ (And.intro @sf_d (And.intro @sf_zero (And.intro @sf_succ (And.intro @get_nil (And.intro @get_cons (And.intro @put_nil (And.intro @put_cons (And.intro @st1_f (And.intro @st1_ix (And.intro @st1_win (And.intro @se_f (And.intro @se_ix (And.intro @tn_add (And.intro @deq_self (And.intro @z_arr (And.intro @z_int (And.intro @z_bool (And.intro @z_str (And.intro @z_sl (And.intro @z_nil (And.intro @z_cons (And.intro @at_zero (And.intro @at_succ (And.intro @cast_lit (And.intro @rep_zero (And.intro @rep_succ (And.intro @retSt_mk (And.intro @tv_one (And.intro @tv_nil (And.intro @tv_two (And.intro @rf_d (And.intro @rf_own (And.intro @no_d (And.intro @no_own (And.intro @no_nil (And.intro @ns_d (And.intro @ns_own (And.intro @ns_nil (And.intro @fl_bool (And.intro @fl_int (And.intro @fl_str (And.intro @fl_nil (And.intro @fl_arr (And.intro @fl_sl (And.intro @fl_ptr (@fl_cons)))))))))))))))))))))))))))))))))))))))))))))))))))))))))))))))))))))))))))))))) := And.intro @gdst_zero (And.intro @gdst_succ (And.intro @ev_tmp (And.intro @ev_int (And.intro @ev_bool (And.intro @ev_str (And.intro @ev_sl (And.intro @ev1_tmp (And.intro @ev1_int (And.intro @ev1_bool (And.intro @ev1_str (And.intro @ev1_sl (And.intro @put_some (And.intro @put_none (And.intro @setB_mk (And.intro @dst_none (And.intro @dst_some (And.intro @D.int_n (And.intro @D.bool_b (And.intro @D.str_s (And.intro @D.list_l (And.intro @hasTy_d (And.intro @den_d (And.intro @HIf_true (And.intro @HIf_false (And.intro @sub_nil (And.intro @sub_cons (And.intro @s1_f (And.intro @s1_ix (And.intro @s1_win (And.intro @ok_ix (And.intro @ok_f (And.intro @subF_zero (And.intro @subF_succ (And.intro @sf_d (And.intro @sf_zero (And.intro @sf_succ (And.intro @get_nil (And.intro @get_cons (And.intro @put_nil (And.intro @put_cons (And.intro @st1_f (And.intro @st1_ix (And.intro @st1_win (And.intro @se_f (And.intro @se_ix (And.intro @tn_add (And.intro @deq_self (And.intro @z_arr (And.intro @z_int (And.intro @z_bool (And.intro @z_str (And.intro @z_sl (And.intro @z_nil (And.intro @z_cons (And.intro @at_zero (And.intro @at_succ (And.intro @cast_lit (And.intro @rep_zero (And.intro @rep_succ (And.intro @retSt_mk (And.intro @tv_one (And.intro @tv_nil (And.intro @tv_two (And.intro @rf_d (And.intro @rf_own (And.intro @no_d (And.intro @no_own (And.intro @no_nil (And.intro @ns_d (And.intro @ns_own (And.intro @ns_nil (And.intro @fl_bool (And.intro @fl_int (And.intro @fl_str (And.intro @fl_nil (And.intro @fl_arr (And.intro @fl_sl (And.intro @fl_ptr (@fl_cons)))))))))))))))))))))))))))))))))))))))))))))))))))))))))))))))))))))))))))))))
theorem agg_arr {n : Nat} {e : Ty} : Ty.agg (.arr n e) = true := rfl
theorem agg_cons {a b : Ty} : Ty.agg (.cons a b) = true := rfl
theorem agg_nil : Ty.agg .nil = true := rfl
theorem stp_arr {n : Nat} {e : Ty} {i : Nat} : Ty.stp (.arr n e) i = .ix i := rfl
theorem stp_cons {a b : Ty} {i : Nat} : Ty.stp (.cons a b) i = .f i := rfl
theorem stp_nil {i : Nat} : Ty.stp .nil i = .f i := rfl
theorem e_scope {P : Program} {T : Tab} {w0 : Base} {c : Code} {Q : Exit → St → Prop} {σ : St} : swp P T w0 (.scope c) Q σ = swp P T w0 c (sScope Q) σ := rfl
theorem tn_lit {a n : Nat} : ((a : Int) + (no_index (OfNat.ofNat n : Int))).toNat = a + OfNat.ofNat n := by
  show ((a : Int) + (n : Int)).toNat = a + n
  omega
theorem gmore : type_of% (And.intro @e_scope (And.intro @sScope_normal (And.intro @sScope_ret (And.intro @sScope_exit (And.intro @agg_arr (And.intro @agg_cons (And.intro @agg_nil (And.intro @stp_arr (And.intro @stp_cons (And.intro @stp_nil (@tn_lit))))))))))) := And.intro @e_scope (And.intro @sScope_normal (And.intro @sScope_ret (And.intro @sScope_exit (And.intro @agg_arr (And.intro @agg_cons (And.intro @agg_nil (And.intro @stp_arr (And.intro @stp_cons (And.intro @stp_nil (@tn_lit))))))))))
theorem len_rev {α : Type} {l₁ l₂ : List α} : l₁.length + l₂.length = (l₁ ++ l₂).length := List.length_append.symm
theorem gall : type_of% (And.intro @eq_self.{1} (And.intro @Int.toNat_natCast (And.intro @Int.toNat_zero (And.intro @decide_true (And.intro @decide_false (And.intro @Bool.not_true (And.intro @Bool.not_false (And.intro @true_and (And.intro @and_true (And.intro @Bool.false_eq_true (And.intro @Option.isSome_some.{0} (And.intro @Option.some.injEq.{0} (And.intro @Option.bind_some.{0, 0} (And.intro @Option.map_some.{0, 0} (And.intro @tyIf.eq_def (And.intro @slen.eq_def (And.intro @opInt.eq_def (And.intro @srcD.eq_def (And.intro @rv1.eq_def (And.intro @resSV.eq_def (And.intro @List.cons_append.{0} (And.intro @List.nil_append.{0} (And.intro @List.append_nil.{0} (And.intro @List.length_cons.{0} (And.intro @List.length_nil.{0} (And.intro @BEq.rfl.{0} (And.intro @IntWalk.i64_in (And.intro @IntWalk.u64_in (And.intro @IntWalk.u32_in (And.intro @IntWalk.u16_in (And.intro @IntWalk.u8_in (And.intro @List.drop_zero.{0} (And.intro @List.set_cons_zero.{0} (And.intro @List.set_cons_succ.{0} (And.intro @List.take_succ_cons.{0} (And.intro @List.take_zero.{0} (And.intro @Nat.zero_add (And.intro @Nat.mul_one (And.intro @len_rev (And.intro @List.take_length.{0} (And.intro @List.take_nil.{0} (And.intro @List.drop_nil.{0} (And.intro @List.drop_succ_cons.{0} (And.intro @List.replicate_zero.{0} (And.intro @List.all_cons.{0} (And.intro @List.all_nil.{0} (And.intro @Bool.and_true (And.intro @Bool.true_and (And.intro @Bool.and_self (And.intro @List.getElem?_cons_zero.{0} (And.intro @List.getElem?_cons_succ.{0} (And.intro @Bool.false_and (@Bool.and_false))))))))))))))))))))))))))))))))))))))))))))))))))))) := And.intro @eq_self.{1} (And.intro @Int.toNat_natCast (And.intro @Int.toNat_zero (And.intro @decide_true (And.intro @decide_false (And.intro @Bool.not_true (And.intro @Bool.not_false (And.intro @true_and (And.intro @and_true (And.intro @Bool.false_eq_true (And.intro @Option.isSome_some.{0} (And.intro @Option.some.injEq.{0} (And.intro @Option.bind_some.{0, 0} (And.intro @Option.map_some.{0, 0} (And.intro @tyIf.eq_def (And.intro @slen.eq_def (And.intro @opInt.eq_def (And.intro @srcD.eq_def (And.intro @rv1.eq_def (And.intro @resSV.eq_def (And.intro @List.cons_append.{0} (And.intro @List.nil_append.{0} (And.intro @List.append_nil.{0} (And.intro @List.length_cons.{0} (And.intro @List.length_nil.{0} (And.intro @BEq.rfl.{0} (And.intro @IntWalk.i64_in (And.intro @IntWalk.u64_in (And.intro @IntWalk.u32_in (And.intro @IntWalk.u16_in (And.intro @IntWalk.u8_in (And.intro @List.drop_zero.{0} (And.intro @List.set_cons_zero.{0} (And.intro @List.set_cons_succ.{0} (And.intro @List.take_succ_cons.{0} (And.intro @List.take_zero.{0} (And.intro @Nat.zero_add (And.intro @Nat.mul_one (And.intro @len_rev (And.intro @List.take_length.{0} (And.intro @List.take_nil.{0} (And.intro @List.drop_nil.{0} (And.intro @List.drop_succ_cons.{0} (And.intro @List.replicate_zero.{0} (And.intro @List.all_cons.{0} (And.intro @List.all_nil.{0} (And.intro @Bool.and_true (And.intro @Bool.true_and (And.intro @Bool.and_self (And.intro @List.getElem?_cons_zero.{0} (And.intro @List.getElem?_cons_succ.{0} (And.intro @Bool.false_and (@Bool.and_false))))))))))))))))))))))))))))))))))))))))))))))))))))
end Go.SE
/- Regions that draw their order: walked once, in one order that is checked. -/
namespace Go.SE
open Go.RowKit (Below)

/-! which operations only read -/

def pureO (T : Tab) (o : Oper) : Bool :=
  match o.op with
  | .move _ | .assign _ | .binOp .. | .unOp .. | .pick .. | .load .. | .nilCheck _ | .sliceToArrayPointer .. | .slice _ _ _ _ none | .fieldAddr .. | .field .. | .indexAddr .. | .index .. | .extract .. | .build .. => true
  | .convert _ d _ => match Go.SE.look T d with | some (.sl _) => false | _ => true
  | .call { callee := .builtin .len, .. } | .call { callee := .builtin .min, .. } | .call { callee := .builtin .max, .. } => true
  | _ => false
/-- Operations that change nothing of what was there. -/
def growO (o : Oper) : Bool :=
  match o.op with
  | .call { callee := .value (.func _), .. } | .buildSlice .. | .makeSlice .. | .alloc _ | .box .. => true
  | _ => false

/-- Operations that do not look at the memory. -/
def freeO (o : Oper) : Bool :=
  match o.op with
  | .move _ | .assign _ | .extract .. => true
  | _ => false

section
variable {P : Program} {w0 : Base} {σ : St} {a : Act} {w : World}

theorem freeO_run {o : Oper} {v : Value} (hf : freeO o = true) (h : (execOp a.eval o).run P w = .ok (.value v) w) (w' : World) : (execOp a.eval o).run P w' = .ok (.value v) w' := by
  unfold freeO at hf
  split at hf
  · rename_i x ho; simp [execOp, ho] at h ⊢; exact h
  · rename_i x ho; simp [execOp, ho] at h ⊢; exact h
  · rename_i x i ho
    simp only [execOp, ho] at h ⊢
    cases hx : a.eval x with
    | tuple vs =>
      simp only [hx, Instr.extract] at h ⊢
      cases hi : vs[i]? with
      | none => simp [hi] at h
      | some u => simp [hi] at h ⊢; exact h
    | _ => simp [hx, Instr.extract] at h
  · cases hf

theorem sOp_pure {T : Tab} (hT : T.Ok P) {o : Oper} {K : St → Prop} (h : R w0 σ a w) (hp : pureO T o = true) (hs : sOp P T o σ K) : VStep P w0 o a w K := by
  obtain ⟨om, h⟩ := h
  obtain ⟨hd, hs⟩ := hs
  split at hs
  · rename_i x ho
    split at hs
    · rename_i v hv; exact wp_move (.inl ho) h hd hv hs
    · exact hs.elim
  · rename_i x ho
    split at hs
    · rename_i v hv; exact wp_move (.inr ho) h hd hv hs
    · exact hs.elim
  · rename_i op xT x y yT ho
    split at hs
    · rename_i t dx t' dy hx hy
      refine sBin_sound ho h hd hx hy (fun ht => ?_) hs.2
      have h1 := hs.1
      cases t <;> simp [Ty.agg] at ht <;> exact (hT _ _ h1).1
    · exact hs.elim
  · rename_i op xT x ho
    split at hs
    · rename_i t dx hx; exact sUn_sound ho h hd hx hs
    · exact hs.elim
  · rename_i u d x ho
    split at hs
    · rename_i s hx
      refine sConv_pure hT ho h hd hx hs ?_
      intro e he
      simp [pureO, ho, he] at hp
    · exact hs.elim
  · rename_i c x y ho
    split at hs
    · rename_i b hc; exact sPick_sound ho h hd hc hs
    · exact hs.elim
  · rename_i u ho; simp [pureO, ho] at hp
  · rename_i u x ho; simp [pureO, ho] at hp
  · rename_i t parts ho; exact sBuild_pure hT ho h hd hs
  · rename_i t n parts ho; simp [pureO, ho] at hp
  · rename_i u x ho
    split at hs
    · rename_i s hx; exact sLoad_sound hT ho h hd hx hs
    · exact hs.elim
  · rename_i u x y ho; simp [pureO, ho] at hp
  · rename_i x ho
    split at hs
    · rename_i b p hx; exact sNil_sound (s := .ptr b p) ho h hd hx hs
    · rename_i t y hx; exact sNil_sound (s := .vp t y) ho h hd hx hs
    · exact hs.elim
  · rename_i d x ho
    split at hs
    · rename_i s hx; exact sArr_sound hT ho h hd hx hs
    · exact hs.elim
  · rename_i t x y ho; simp [pureO, ho] at hp
  · rename_i u x lo hi ho
    split at hs
    · rename_i s l r hx hlo hhi; exact sSlice_sound hT ho h hd hx hlo hhi hs
    · exact hs.elim
  · rename_i u x i ho
    split at hs
    · rename_i s hx; exact sFieldAddr_sound hT ho h hd hx hs
    · exact hs.elim
  · rename_i u x i ho
    split at hs
    · rename_i s hx; exact sField_sound hT ho h hd hx hs
    · exact hs.elim
  · rename_i u x y ho
    split at hs
    · rename_i s k i hx hy; exact sIndexAddr_sound hT ho h hd hx hy hs
    · exact hs.elim
  · rename_i u x y ho
    split at hs
    · rename_i s k i hx hy; exact sIndex_sound hT ho h hd hx hy hs
    · exact hs.elim
  · rename_i x i ho; exact sExtract_sound ho h hd hs
  · rename_i x u ho
    split at hs
    · rename_i s hx; exact sLen_sound hT ho h hd hx hs
    · exact hs.elim
  · rename_i x y t u ho; simp [pureO, ho] at hp
  · rename_i x y t u ho; simp [pureO, ho] at hp
  · rename_i x y ts ho
    split at hs
    · rename_i k l k' c hx hy; exact sMin_sound ho h hd hx hy hs
    · exact hs.elim
  · rename_i x y ts ho
    split at hs
    · rename_i k l k' c hx hy; exact sMax_sound ho h hd hx hy hs
    · exact hs.elim
  · rename_i f xs us ho; simp [pureO, ho] at hp
  · exact hs.elim

theorem sOp_grow {T : Tab} (hT : T.Ok P) {o : Oper} {Q : Exit → Act → World → Prop} {K : St → Prop} (h : R w0 σ a w) (hg : growO o = true) (hs : sOp P T o σ K) :
    o.wp P a w (fun a' w' => Below w.heap.size w w' ∧ After w0 K a' w') Q := by
  obtain ⟨om, h⟩ := h
  obtain ⟨hd, hs⟩ := hs
  have hcase : (∃ f xs us, o.op = .call { callee := .value (.func f), args := xs, argTypes := us }) ∨ (∃ t n parts, o.op = .buildSlice t n parts) ∨ (∃ t x y, o.op = .makeSlice t x y) ∨ (∃ u, o.op = .alloc u) ∨ (∃ u x, o.op = .box u x) := by
    unfold growO at hg
    split at hg
    · rename_i f _ _ ho; exact .inl ⟨f, _, _, ho⟩
    · rename_i ho; exact .inr (.inl ⟨_, _, _, ho⟩)
    · rename_i ho; exact .inr (.inr (.inl ⟨_, _, _, ho⟩))
    · rename_i ho; exact .inr (.inr (.inr (.inl ⟨_, ho⟩)))
    · rename_i ho; exact .inr (.inr (.inr (.inr ⟨_, _, ho⟩)))
    · cases hg
  rcases hcase with ⟨f, xs, us, ho⟩ | ⟨t, n, parts, ho⟩ | ⟨t, x, y, ho⟩ | ⟨u, ho⟩ | ⟨u, x, ho⟩
  · rw [ho] at hs
    simp only at hs
    split at hs
    · rename_i l ha
      exact sCall_grow ho h hd ha hs
    · exact hs.elim
  · rw [ho] at hs
    exact sBuildS_grow hT ho h hd hs
  · rw [ho] at hs
    simp only at hs
    split at hs
    · rename_i k l k' c hx hy; exact sMake_grow hT ho h hd hx hy hs
    · exact hs.elim
  · rw [ho] at hs
    exact sAlloc_grow hT ho h hd hs
  · rw [ho] at hs
    simp only at hs
    split at hs
    · rename_i s hx; exact sBox_grow ho h hd hx hs
    · exact hs.elim

end

/-! what may come up -/

section
variable {P : Program} {ops : Array Oper} {Q : Exit → Act → World → Prop} {md : Region.Mode} {ds : List Nat}

def YG (P : Program) (fr : Bool) (ops : Array Oper) (w : World) (o : Oper) (v : Value) (a : Act) : Prop :=
  (Region.wanted o (yielded ops a.tmps) = true ∧ ∀ w', (fr = true ∨ Below w.heap.size w w') → (execOp a.eval o).run P w' = .ok (.value v) w') ∨
  (Region.wanted o (yielded ops a.tmps) = false ∧ v = undef)

theorem YG.grow {fr : Bool} {w w' : World} {o : Oper} {v : Value} {a : Act} (hw : fr = true ∨ Below w.heap.size w w') (h : YG P fr ops w o v a) : YG P fr ops w' o v a :=
  h.imp (fun ⟨h1, h2⟩ => ⟨h1, fun w2 hw2 => h2 w2 (by
    rcases hw with hw | hw
    · exact .inl hw
    · rcases hw2 with hw2 | hw2
      · exact .inl hw2
      · exact .inr (hw.trans (hw2.mono hw.size)))⟩) id

theorem YG.wpOp {fr : Bool} {i : Nat} {o : Oper} {v : Value} {a : Act} (hi : ops[i]? = some o) {w : World} (hy : YG P fr ops w o v a)
    {K : Act → World → Prop} (h : K (a.put o.dst v) w) : wpOp P ops Q i K a w := by
  unfold Go.wpOp
  simp only [hi]
  rcases hy with ⟨hw, hv⟩ | ⟨hw, rfl⟩
  · simp only [hw, if_true, Oper.wp, hv w (.inr (Below.refl _ _)), Oper.upon]; exact .inl h
  · simp only [hw, Bool.false_eq_true, if_false]; exact h

theorem YG.of_same {fr : Bool} {w : World} {o : Oper} {v : Value} {a a' : Act} (hy : YG P fr ops w o v a) (he : execOp a'.eval o = execOp a.eval o)
    (hw : Region.wanted o (yielded ops a'.tmps) = Region.wanted o (yielded ops a.tmps)) : YG P fr ops w o v a' := by
  unfold YG at *
  rw [he, hw]
  exact hy

theorem wpOp_putG {fr : Bool} {j : Nat} {oi oj : Oper} {v : Value} (hj : ops[j]? = some oj) (hap : oi.apart ops oj = true)
    (hsi : ∀ cs b, oi.op ≠ .select cs b) (hsj : ∀ cs b, oj.op ≠ .select cs b)
    (hQ : ∀ c a w, Q (.panic c) (a.put oi.dst v) w → Q (.panic c) a w) {K : Act → World → Prop} {a : Act} {w : World}
    (hy : YG P fr ops w oi v a) (h : wpOp P ops Q j K (a.put oi.dst v) w) :
    wpOp P ops Q j (fun a' w' => YG P fr ops w oi v a' ∧ K (a'.put oi.dst v) w') a w := by
  obtain ⟨h1, h2, h3⟩ := Oper.apart_spec hap
  have keep : ∀ (a : Act), YG P fr ops w oi v a → ∀ u, YG P fr ops w oi v (a.put oj.dst u) := fun a hy u =>
    hy.of_same (execOp_put oi hsi a oj.dst u h3) (wanted_put oi a oj.dst u h3)
  have keepD : ∀ d, YG P fr ops w oi v { a with defers := d :: a.defers } := fun d => hy.of_same rfl rfl
  unfold wpOp at *
  simp only [hj] at *
  rw [wanted_put oj a oi.dst v h1] at h
  split
  · rename_i hw
    simp only [hw, if_true] at h
    rcases h with h | ⟨hasks, hlets⟩
    case inr => exact .inr ⟨by unfold Oper.asks at *; rw [execOp_put oj hsj a oi.dst v h1] at hasks; exact hasks, hlets⟩
    refine .inl ?_
    unfold Oper.wp at *
    rw [execOp_put oj hsj a oi.dst v h1] at h
    generalize (execOp a.eval oj).run P w = r at *
    cases r with
    | ok n w' =>
      cases n <;> simp only [Oper.upon] at h ⊢
      case value u => exact ⟨keep a hy u, by rw [← Act.put_comm a v u h2]; exact h⟩
      case skip => exact ⟨keep a hy _, by rw [← Act.put_comm a v undef h2]; exact h⟩
      case defer d =>
        refine ⟨keep _ (keepD d) _, ?_⟩
        rw [← Act.put_comm _ v undef h2, ← Act.put_defers]
        exact h
      case enter f args =>
        refine Calls.mono h fun e w'' he => ?_
        cases e with
        | returned u => exact ⟨keep a hy u, by rw [← Act.put_comm a v u h2]; exact he⟩
        | panicked c => exact hQ _ _ _ he
        | outgrown => exact he
      case row row args => exact Rows.mono h fun u w'' he => ⟨keep a hy u, by rw [← Act.put_comm a v u h2]; exact he⟩
    | halt x w' =>
      cases x <;> simp only [Oper.upon] at h ⊢
      case panic u => exact hQ _ _ _ h
  · rename_i hw
    simp only [hw] at h
    exact ⟨keep a hy _, by rw [← Act.put_comm a v undef h2]; exact h⟩

/-- Whatever order is picked; what is not of ds changes nothing of what was there. -/
def wpAnyG (P : Program) (md : Region.Mode) (ops : Array Oper) (Q : Exit → Act → World → Prop) (ds : List Nat) : Nat → Array Bool → Act → World → Prop
  | 0, listed, a, w => Region.ready md ops listed = [] ∧ Q .normal a w
  | fuel + 1, listed, a, w =>
    (Region.ready md ops listed = [] → Q .normal a w) ∧
    ∀ i ∈ Region.ready md ops listed, wpOp P ops Q i (fun a' w' => (i ∉ ds → Below w.heap.size w w') ∧ wpAnyG P md ops Q ds fuel (listed.setIfInBounds i true) a' w') a w

theorem wpAny_of_G : ∀ (fuel : Nat) (listed : Array Bool) (a : Act) (w : World), wpAnyG P md ops Q ds fuel listed a w → wpAny P md ops Q fuel listed a w
  | 0, _, _, _, h => h
  | fuel + 1, _, _, _, h => ⟨h.1, fun i hi => wpOp_mono (fun a' w' h' => wpAny_of_G fuel _ a' w' h'.2) (h.2 i hi)⟩

def reachO (md : Region.Mode) (ops : Array Oper) (i : Nat) : Nat → Nat → Bool
  | 0, _ => false
  | f + 1, d => match ops[d]? with
    | some o => o.after.any fun e => Region.binds md e && (e.on == i || reachO md ops i f e.on)
    | none => false

def ClosedL (md : Region.Mode) (ops : Array Oper) (listed : Array Bool) : Prop :=
  ∀ j o, ops[j]? = some o → listed.getD j false = true → ∀ e ∈ o.after, Region.binds md e = true → listed.getD e.on false = true

theorem reach_not {listed : Array Bool} (hc : ClosedL md ops listed) {i : Nat} (hi : listed.getD i false = false) : ∀ (f d : Nat), reachO md ops i f d = true → listed.getD d false = false
  | 0, _, h => by simp [reachO] at h
  | f + 1, d, h => by
    cases hl : listed.getD d false with
    | false => rfl
    | true =>
      exfalso
      simp only [reachO] at h
      split at h
      · rename_i o ho
        obtain ⟨e, he, hb⟩ := Array.any_eq_true'.1 h
        simp only [Bool.and_eq_true, Bool.or_eq_true, beq_iff_eq] at hb
        have h1 := hc d o ho hl e he hb.1
        rcases hb.2 with h2 | h2
        · rw [h2, hi] at h1; cases h1
        · rw [reach_not hc hi f _ h2] at h1; cases h1
      · cases h

theorem reach_unready {listed : Array Bool} (hc : ClosedL md ops listed) {i : Nat} (hi : listed.getD i false = false) {f d : Nat} (h : reachO md ops i f d = true) : d ∉ Region.ready md ops listed := by
  intro hr
  obtain ⟨_, o, ho, hall⟩ := mem_ready.1 hr
  cases f with
  | zero => simp [reachO] at h
  | succ f =>
    simp only [reachO, ho] at h
    obtain ⟨e, he, hb⟩ := Array.any_eq_true'.1 h
    simp only [Bool.and_eq_true, Bool.or_eq_true, beq_iff_eq] at hb
    have h1 := hall e he hb.1
    rcases hb.2 with h2 | h2
    · rw [h2, hi] at h1; cases h1
    · rw [reach_not hc hi f _ h2] at h1; cases h1

theorem ClosedL.set {listed : Array Bool} (hc : ClosedL md ops listed) {j : Nat} (hj : j ∈ Region.ready md ops listed) : ClosedL md ops (listed.setIfInBounds j true) := by
  intro k o ho hk e he hb
  by_cases hkj : j = k
  · subst hkj
    obtain ⟨_, o', ho', hall⟩ := mem_ready.1 hj
    rw [ho] at ho'
    simp only [Option.some.injEq] at ho'
    subst ho'
    exact getD_set_true (hall e he hb)
  · rw [getD_set_ne false hkj] at hk
    exact getD_set_true (hc k o ho hk e he hb)

theorem getD_unlisted {listed : Array Bool} {i : Nat} (h : listed.getD i true = false) : listed.getD i false = false := by
  rcases Nat.lt_or_ge i listed.size with h' | h'
  · simpa [h'] using h
  · simp [Array.getElem?_eq_none h'] at h

theorem wpAnyG_first {fr : Bool} {i : Nat} {oi : Oper} {v : Value} (hi : ops[i]? = some oi) (hsel : ∀ (j : Nat) (o : Oper) cs b, ops[j]? = some o → o.op ≠ .select cs b)
    (hQ : ∀ c a w, Q (.panic c) (a.put oi.dst v) w → Q (.panic c) a w) :
    ∀ (fuel : Nat) (listed : Array Bool) (a : Act) (w : World), (fr = true ∨ ∀ d ∈ ds, listed.getD d true = true ∨ reachO md ops i ops.size d = true) → ClosedL md ops listed →
      (∀ j oj, ops[j]? = some oj → j ≠ i → listed.getD j true = false → (∀ e ∈ oj.after, Region.binds md e = true → e.on ≠ i) → oi.apart ops oj = true) →
      i ∈ Region.ready md ops listed → YG P fr ops w oi v a →
      wpAnyG P md ops Q ds fuel (listed.setIfInBounds i true) (a.put oi.dst v) w → wpAnyG P md ops Q ds (fuel + 1) listed a w := by
  intro fuel
  induction fuel with
  | zero =>
    intro listed a w hds hc _ hr hy H
    refine ⟨fun h => (by rw [h] at hr; cases hr), fun j hj => ?_⟩
    by_cases hji : j = i
    · subst hji; exact hy.wpOp hi ⟨fun _ => Below.refl _ _, H⟩
    · have := ready_mono hj hji
      rw [H.1] at this
      cases this
  | succ fuel ih =>
    intro listed a w hds hc hfree hr hy H
    refine ⟨fun h => (by rw [h] at hr; cases hr), fun j hj => ?_⟩
    by_cases hji : j = i
    · subst hji; exact hy.wpOp hi ⟨fun _ => Below.refl _ _, H⟩
    · have h1 := H.2 j (ready_mono hj hji)
      obtain ⟨hjun, oj, hoj, hall⟩ := mem_ready.1 hj
      have hiu : listed.getD i false = false := getD_unlisted (mem_ready.1 hr).1
      have hjds : fr = true ∨ j ∉ ds := hds.imp id fun hds => fun hd => (hds j hd).elim (fun e => by rw [hjun] at e; cases e) (fun e => reach_unready hc hiu e hj)
      have hds' : fr = true ∨ ∀ d ∈ ds, (listed.setIfInBounds j true).getD d true = true ∨ reachO md ops i ops.size d = true := hds.imp id fun hds => fun d hd => (hds d hd).imp (fun e => by
        by_cases hjd : j = d
        · subst hjd; rw [hjun] at e; cases e
        · rw [getD_set_ne true hjd]; exact e) id
      have hnot : ∀ e ∈ oj.after, Region.binds md e = true → e.on ≠ i := fun e he hb heq => by
        have h1 := hall e he hb
        rw [heq, hiu] at h1
        cases h1
      have h2 := wpOp_putG hoj (hfree j oj hoj hji hjun hnot) (fun cs b => hsel i oi cs b hi) (fun cs b => hsel j oj cs b hoj) hQ hy h1
      have hfree' : ∀ k ok, ops[k]? = some ok → k ≠ i → (listed.setIfInBounds j true).getD k true = false →
          (∀ e ∈ ok.after, Region.binds md e = true → e.on ≠ i) → oi.apart ops ok = true := fun k ok hk hki hun hno => by
        refine hfree k ok hk hki ?_ hno
        by_cases hjk : j = k
        · subst hjk; exact hjun
        · rw [getD_set_ne true hjk] at hun; exact hun
      refine wpOp_mono (fun a' w' h3 => ⟨h3.2.1, ih (listed.setIfInBounds j true) a' w' hds' (hc.set hj) hfree' (ready_mono hr (Ne.symm hji)) (h3.1.grow (hjds.imp id h3.2.1)) ?_⟩) h2
      rw [Array.setIfInBounds_comm _ _ hji]
      exact h3.2.2

end

/-! the check, and the walk -/

def ordB (T : Tab) (ops : Array Oper) (ds : List Nat) : List Nat → Array Bool → Bool
  | [], listed => (Region.ready .any ops listed).isEmpty
  | i :: l, listed =>
    (match ops[i]? with
     | some o => bif pureO T o then (Region.ready .any ops listed).contains i && Region.free .any ops listed i && (freeO o || ds.all (fun d => listed.getD d true || reachO .any ops i ops.size d))
        else Region.ready .any ops listed == [i] && (ds.contains i || growO o)
     | none => false) && ordB T ops ds l (listed.setIfInBounds i true)

def pickO (ops : Array Oper) : List Nat → List Oper
  | [] => []
  | i :: l => match ops[i]? with | some o => o :: pickO ops l | none => pickO ops l

def QN (w0 : Base) (K : St → Prop) : Exit → Act → World → Prop
  | .normal => After w0 K
  | _ => fun _ _ => False

section
variable {P : Program} {w0 : Base} {σ : St} {a : Act} {w : World}

theorem sOps_cons {T : Tab} {ops : Array Oper} {o : Oper} {l : List Oper} {K : St → Prop} (h : R w0 σ a w) (hs : sOps P T ops (o :: l) σ K) :
    (Region.wanted o (yielded ops a.tmps) = true ∧ ∃ σ', R w0 σ' a w ∧ sOp P T o σ' (fun σ => sOps P T ops l σ K)) ∨
    (Region.wanted o (yielded ops a.tmps) = false ∧ ∃ σ', R w0 σ' a w ∧ sSkip o σ' (fun σ => sOps P T ops l σ K)) := by
  simp only [sOps] at hs
  split at hs
  · rename_i hg
    exact .inl ⟨by simp [Region.wanted, hg], σ, h, hs⟩
  · rename_i j want hg
    split at hs
    · rename_i t ht
      have hy : ∀ b, a.tmps.getD t undef = .bool b → yielded ops a.tmps j = some b := by
        intro b hb
        have := getD_some hb (by simp [undef])
        unfold gdst at ht
        simp [yielded, ht, this]
      split at hs
      · rename_i x hl
        obtain ⟨b, rfl, hb⟩ := h.boolAt hl
        have hyb := hy b hb
        simp only [Region.wanted, hg, hyb]
        cases b with
        | true =>
          have h1 := hs.1 rfl
          cases want with
          | true => simp only [if_true] at h1; exact .inl ⟨rfl, _, h.setB hl, h1⟩
          | false => simp only [Bool.false_eq_true, if_false] at h1; exact .inr ⟨rfl, _, h.setB hl, h1⟩
        | false =>
          have h1 := hs.2 rfl
          cases want with
          | true => simp only [if_true] at h1; exact .inr ⟨rfl, _, h.setB hl, h1⟩
          | false => simp only [Bool.false_eq_true, if_false] at h1; exact .inl ⟨rfl, _, h.setB hl, h1⟩
      · rename_i hl
        have hu : a.tmps.getD t undef = undef := by
          obtain ⟨om, h⟩ := h
          exact h.tm t _ hl
        have hy0 : yielded ops a.tmps j = none := by
          unfold gdst at ht
          simp only [yielded, ht, Option.bind_some]
          rw [Array.getD_eq_getD_getElem?] at hu
          cases hq : a.tmps[t]? with
          | none => rfl
          | some u => simp [hq] at hu; subst hu; rfl
        exact .inr ⟨by simp [Region.wanted, hg, hy0], σ, h, hs⟩
      · exact hs.elim
    · exact hs.elim

theorem ord_sim {T : Tab} (hT : T.Ok P) {ops : Array Oper} {ds : List Nat} (hsel : Region.noSelect ops = true) {K : St → Prop} : ∀ (l : List Nat) (listed : Array Bool) {σ : St} {a : Act} {w : World},
    ordB T ops ds l listed = true → ClosedL .any ops listed → R w0 σ a w → sOps P T ops (pickO ops l) σ K → wpAnyG P .any ops (QN w0 K) ds l.length listed a w
  | [], listed, σ, a, w, hB, hc, h, hs => by
    simp only [ordB, List.isEmpty_iff] at hB
    exact ⟨hB, σ, h, hs⟩
  | i :: l, listed, σ, a, w, hB, hc, h, hs => by
    simp only [ordB, Bool.and_eq_true] at hB
    obtain ⟨h1, h2⟩ := hB
    split at h1
    · rename_i o ho
      simp only [pickO, ho] at hs
      have hcons := sOps_cons h hs
      cases hp : pureO T o with
      | true =>
        simp only [hp, cond_true, Bool.and_eq_true, List.all_eq_true, Bool.or_eq_true] at h1
        have hready : i ∈ Region.ready .any ops listed := by simpa using h1.1.1
        have key : ∃ v, YG P (freeO o) ops w o v a ∧ After w0 (fun σ => sOps P T ops (pickO ops l) σ K) (a.put o.dst v) w := by
          rcases hcons with ⟨hw, σ', hr, hop⟩ | ⟨hw, σ', hr, hsk⟩
          · obtain ⟨v, hrun, hK⟩ := sOp_pure hT hr hp hop
            refine ⟨v, .inl ⟨hw, fun w' hw' => ?_⟩, hK⟩
            rcases hw' with hw' | hw'
            · exact freeO_run hw' (hrun w (Below.refl _ _)) w'
            · exact hrun w' hw'
          · exact ⟨undef, .inr ⟨hw, rfl⟩, _, hr.put0 hsk.1, hsk.2⟩
        obtain ⟨v, hy, σ2, hr2, hs2⟩ := key
        exact wpAnyG_first ho (Region.noSelect_spec hsel) (fun _ _ _ h => h) l.length listed a w h1.2 hc (Region.free_spec ho h1.1.2) hready hy
          (ord_sim hT hsel l _ h2 (hc.set hready) hr2 hs2)
      | false =>
        simp only [hp, cond_false, Bool.and_eq_true, beq_iff_eq] at h1
        have hready : i ∈ Region.ready .any ops listed := by rw [h1.1]; simp
        have hcl := hc.set hready
        show wpAnyG P .any ops (QN w0 K) ds (l.length + 1) listed a w
        refine ⟨fun e => (by rw [e] at hready; cases hready), fun j hj => ?_⟩
        rw [h1.1] at hj
        simp only [List.mem_singleton] at hj
        subst hj
        unfold wpOp
        simp only [ho]
        rcases hcons with ⟨hw, σ', hr, hop⟩ | ⟨hw, σ', hr, hsk⟩
        · rw [hw, if_pos rfl]
          refine .inl ?_
          by_cases hds : ds.contains j = true
          · refine Oper.wp_mono ?_ (sOp_sound hT hr hop)
            rintro a' w' ⟨σ2, hr2, hs2⟩
            exact ⟨fun hn => absurd (by simpa using hds) hn, ord_sim hT hsel l _ h2 hcl hr2 hs2⟩
          · have hg : growO o = true := by
              have := h1.2
              simp only [Bool.or_eq_true] at this
              exact this.resolve_left hds
            refine Oper.wp_mono ?_ (sOp_grow hT hr hg hop)
            rintro a' w' ⟨hb, σ2, hr2, hs2⟩
            exact ⟨fun _ => hb, ord_sim hT hsel l _ h2 hcl hr2 hs2⟩
        · rw [hw, if_neg (by simp)]
          exact ⟨fun _ => Below.refl _ _, ord_sim hT hsel l _ h2 hcl (hr.put0 hsk.1) hsk.2⟩
    · cases h1

theorem closed_begin {ops : Array Oper} {n : Nat} : ClosedL .any ops (Array.replicate n false) := by
  intro j o _ hj
  rw [Array.getD_eq_getD_getElem?, Array.getElem?_replicate] at hj
  split at hj <;> simp at hj

/-- A region that draws its order: walked in the order l. -/
theorem sdraw {T : Tab} (hT : T.Ok P) (hm : P.follows .mixedOrders = true) {id : Nat} {ops : Array Oper} (ds l : List Nat) (hsel : Region.noSelect ops = true) (hlen : ops.size = l.length)
    (hB : ordB T ops ds l (Array.replicate ops.size false) = true) {Q : Exit → St → Prop} {σ : St} (h : sOps P T ops (pickO ops l) σ (fun σ => Q .normal σ)) : SDraw P w0 id ops Q σ := by
  intro a w hr
  have hr' : R w0 σ a { w with drawn := w.drawn + 1 } := by
    obtain ⟨om, hr⟩ := hr
    exact ⟨om, hr.world rfl rfl rfl rfl⟩
  have h1 := ord_sim (K := fun σ => Q .normal σ) hT hsel l _ hB closed_begin hr' h
  rw [← hlen] at h1
  have h2 := wp_region_any (id := id) hm (wpAny_of_G _ _ _ _ h1)
  refine wp_mono h2 ?_
  intro e a w hq
  cases e with
  | normal => exact hq
  | _ => exact hq.elim

/-! every order, one by one -/
end

/-- Orders as a tree: first 'i', then 't'; or what 'r' tells. -/
inductive OT where
  | nil
  | alt (i : Nat) (t r : OT)

def OT.heads : OT → List Nat
  | .nil => []
  | .alt i _ r => i :: r.heads

/-- The tree meets every choice. -/
def OT.ok (ops : Array Oper) : OT → Bool → Nat → Array Bool → Bool
  | .nil, first, _, listed => !first || (Region.ready .any ops listed).isEmpty
  | .alt i t r, first, fuel, listed =>
    (match fuel with
     | 0 => false
     | f + 1 => (!first || (OT.alt i t r).heads == Region.ready .any ops listed) && (ops[i]?).isSome && t.ok ops true f (listed.setIfInBounds i true)) && r.ok ops false fuel listed

def sTree (P : Program) (T : Tab) (ops : Array Oper) : OT → Bool → St → (St → Prop) → Prop
  | .nil, first, σ, K => if first then K σ else True
  | .alt i t r, _, σ, K => sOps P T ops (pickO ops [i]) σ (fun σ => sTree P T ops t true σ K) ∧ sTree P T ops r false σ K

section
variable {P : Program} {w0 : Base}

theorem sOps_one {T : Tab} (hT : T.Ok P) {ops : Array Oper} {i : Nat} {o : Oper} (ho : ops[i]? = some o) {K' K : St → Prop} {σ : St} {a : Act} {w : World} {X : Act → World → Prop} (hX : ∀ a w, After w0 K' a w → X a w) (h : R w0 σ a w) (hs : sOps P T ops [o] σ K') :
    wpOp P ops (QN w0 K) i X a w := by
  unfold wpOp
  simp only [ho]
  rcases sOps_cons h hs with ⟨hw, σ', hr, hop⟩ | ⟨hw, σ', hr, hsk⟩
  · rw [hw, if_pos rfl]
    exact .inl (Oper.wp_mono hX (sOp_sound hT hr hop))
  · rw [hw, if_neg (by simp)]
    exact hX _ _ ⟨_, hr.put0 hsk.1, hsk.2⟩

theorem tree_sim {T : Tab} (hT : T.Ok P) {ops : Array Oper} {K : St → Prop} : ∀ (t : OT) (fuel : Nat) (listed : Array Bool) {σ : St} {a : Act} {w : World}, R w0 σ a w →
    (t.ok ops true fuel listed = true → sTree P T ops t true σ K → wpAny P .any ops (QN w0 K) fuel listed a w) ∧
    (t.ok ops false fuel listed = true → sTree P T ops t false σ K → ∀ i ∈ t.heads, ∃ f, fuel = f + 1 ∧ wpOp P ops (QN w0 K) i (wpAny P .any ops (QN w0 K) f (listed.setIfInBounds i true)) a w)
  | .nil, fuel, listed, σ, a, w, h => by
    refine ⟨fun hb hs => ?_, fun _ _ i hi => by simp [OT.heads] at hi⟩
    simp only [OT.ok, Bool.not_true, Bool.false_or, List.isEmpty_iff] at hb
    simp only [sTree, if_true] at hs
    cases fuel with
    | zero => exact ⟨hb, σ, h, hs⟩
    | succ f => exact ⟨fun _ => ⟨σ, h, hs⟩, fun i hi => by rw [hb] at hi; cases hi⟩
  | .alt i t r, fuel, listed, σ, a, w, h => by
    have key : ∀ first, (OT.alt i t r).ok ops first fuel listed = true → sTree P T ops (.alt i t r) first σ K → ∀ j ∈ (OT.alt i t r).heads, ∃ f, fuel = f + 1 ∧ wpOp P ops (QN w0 K) j (wpAny P .any ops (QN w0 K) f (listed.setIfInBounds j true)) a w := by
      intro first hb hs j hj
      simp only [OT.ok, Bool.and_eq_true] at hb
      simp only [sTree] at hs
      rcases List.mem_cons.1 hj with rfl | hj
      · have hb1 := hb.1
        split at hb1
        · cases hb1
        · rename_i f
          simp only [Bool.and_eq_true] at hb1
          obtain ⟨o, ho⟩ := Option.isSome_iff_exists.1 hb1.1.2
          simp only [pickO, ho] at hs
          exact ⟨f, rfl, sOps_one hT ho (fun a w ⟨σ2, hr2, hs2⟩ => (tree_sim hT t f _ hr2).1 hb1.2 hs2) h hs.1⟩
      · exact (tree_sim hT r fuel listed h).2 hb.2 hs.2 j hj
    refine ⟨fun hb hs => ?_, fun hb hs => key false hb hs⟩
    have k := key true hb hs
    obtain ⟨f, rfl, _⟩ := k i (by simp [OT.heads])
    simp only [OT.ok, Bool.and_eq_true, Bool.not_true, Bool.false_or, beq_iff_eq] at hb
    refine ⟨fun e => ?_, fun j hj => ?_⟩
    · have := hb.1.1.1; rw [e] at this; simp [OT.heads] at this
    · rw [← hb.1.1.1] at hj
      obtain ⟨f', e, hw⟩ := k j hj
      obtain rfl : f = f' := by omega
      exact hw

/-- A region that draws its order: walked in every order. -/
theorem sdrawT {T : Tab} (hT : T.Ok P) (hm : P.follows .mixedOrders = true) {id : Nat} {ops : Array Oper} (t : OT) (hB : t.ok ops true ops.size (Array.replicate ops.size false) = true) {Q : Exit → St → Prop} {σ : St}
    (h : sTree P T ops t true σ (fun σ => Q .normal σ)) : SDraw P w0 id ops Q σ := by
  intro a w hr
  have hr' : R w0 σ a { w with drawn := w.drawn + 1 } := by
    obtain ⟨om, hr⟩ := hr
    exact ⟨om, hr.world rfl rfl rfl rfl⟩
  have h2 := wp_region_any (id := id) hm ((tree_sim hT t ops.size _ hr').1 hB h)
  refine wp_mono h2 ?_
  intro e a w hq
  cases e with
  | normal => exact hq
  | _ => exact hq.elim
def OT.isNil : OT → Bool
  | .nil => true
  | _ => false

/-- The tree meets every choice, but for what may be taken first. -/
def OT.okG (T : Tab) (ops : Array Oper) (ds : List Nat) : OT → Bool → Nat → Array Bool → Bool
  | .nil, first, _, listed => !first || (Region.ready .any ops listed).isEmpty
  | .alt i t r, first, fuel, listed =>
    (match fuel with
     | 0 => false
     | f + 1 => (match ops[i]? with
       | none => false
       | some o => bif first && pureO T o && r.isNil then (Region.ready .any ops listed).contains i && Region.free .any ops listed i && (freeO o || ds.all (fun d => listed.getD d true || reachO .any ops i ops.size d))
          else (!first || (OT.alt i t r).heads == Region.ready .any ops listed) && (ds.contains i || growO o || pureO T o)) && t.okG T ops ds true f (listed.setIfInBounds i true)) && r.okG T ops ds false fuel listed

theorem sOps_oneG {T : Tab} (hT : T.Ok P) {ops : Array Oper} {ds : List Nat} {i : Nat} {o : Oper} (ho : ops[i]? = some o) (hg : (ds.contains i || growO o || pureO T o) = true) {K' K : St → Prop} {σ : St} {a : Act} {w : World} {X : Act → World → Prop} (hX : ∀ a w, After w0 K' a w → X a w) (h : R w0 σ a w) (hs : sOps P T ops [o] σ K') :
    wpOp P ops (QN w0 K) i (fun a' w' => (i ∉ ds → Below w.heap.size w w') ∧ X a' w') a w := by
  unfold wpOp
  simp only [ho]
  rcases sOps_cons h hs with ⟨hw, σ', hr, hop⟩ | ⟨hw, σ', hr, hsk⟩
  · rw [hw, if_pos rfl]
    refine .inl ?_
    cases hd : ds.contains i with
    | true => exact Oper.wp_mono (fun a' w' h => ⟨fun hn => absurd (by simpa using hd) hn, hX _ _ h⟩) (sOp_sound hT hr hop)
    | false =>
      cases hgr : growO o with
      | true => exact Oper.wp_mono (fun a' w' h => ⟨fun _ => h.1, hX _ _ h.2⟩) (sOp_grow hT hr hgr hop)
      | false =>
        have hp : pureO T o = true := by simp only [hd, hgr, Bool.false_or] at hg; exact hg
        obtain ⟨v, hrun, hK⟩ := sOp_pure hT hr hp hop
        unfold Oper.wp
        rw [hrun w (Below.refl _ _), Oper.upon_value]
        exact ⟨fun _ => Below.refl _ _, hX _ _ hK⟩
  · rw [hw, if_neg (by simp)]
    exact ⟨fun _ => Below.refl _ _, hX _ _ ⟨_, hr.put0 hsk.1, hsk.2⟩⟩

theorem treeG_sim {T : Tab} (hT : T.Ok P) {ops : Array Oper} {ds : List Nat} (hsel : Region.noSelect ops = true) {K : St → Prop} : ∀ (t : OT) (fuel : Nat) (listed : Array Bool) {σ : St} {a : Act} {w : World}, ClosedL .any ops listed → R w0 σ a w →
    (t.okG T ops ds true fuel listed = true → sTree P T ops t true σ K → wpAnyG P .any ops (QN w0 K) ds fuel listed a w) ∧
    (t.okG T ops ds false fuel listed = true → sTree P T ops t false σ K → (∀ i ∈ t.heads, i ∈ Region.ready .any ops listed) → ∀ i ∈ t.heads, ∃ f, fuel = f + 1 ∧ wpOp P ops (QN w0 K) i (fun a' w' => (i ∉ ds → Below w.heap.size w w') ∧ wpAnyG P .any ops (QN w0 K) ds f (listed.setIfInBounds i true) a' w') a w)
  | .nil, fuel, listed, σ, a, w, hc, h => by
    refine ⟨fun hb hs => ?_, fun _ _ _ i hi => by simp [OT.heads] at hi⟩
    simp only [OT.okG, Bool.not_true, Bool.false_or, List.isEmpty_iff] at hb
    simp only [sTree, if_true] at hs
    cases fuel with
    | zero => exact ⟨hb, σ, h, hs⟩
    | succ f => exact ⟨fun _ => ⟨σ, h, hs⟩, fun i hi => by rw [hb] at hi; cases hi⟩
  | .alt i t r, fuel, listed, σ, a, w, hc, h => by
    have key : ∀ first, (∀ j ∈ (OT.alt i t r).heads, j ∈ Region.ready .any ops listed) → (first && (match ops[i]? with | some o => pureO T o | none => false) && r.isNil) = false → (OT.alt i t r).okG T ops ds first fuel listed = true → sTree P T ops (.alt i t r) first σ K → ∀ j ∈ (OT.alt i t r).heads, ∃ f, fuel = f + 1 ∧ wpOp P ops (QN w0 K) j (fun a' w' => (j ∉ ds → Below w.heap.size w w') ∧ wpAnyG P .any ops (QN w0 K) ds f (listed.setIfInBounds j true) a' w') a w := by
      intro first hrd hnp hb hs j hj
      simp only [OT.okG, Bool.and_eq_true] at hb
      simp only [sTree] at hs
      rcases List.mem_cons.1 hj with rfl | hj
      · have hb1 := hb.1
        split at hb1
        · cases hb1
        · rename_i f
          split at hb1
          · simp at hb1
          · rename_i o ho
            simp only [ho] at hnp
            simp only [hnp, cond_false, Bool.and_eq_true] at hb1
            simp only [pickO, ho] at hs
            exact ⟨f, rfl, sOps_oneG hT ho hb1.1.2 (fun a w ⟨σ2, hr2, hs2⟩ => (treeG_sim hT hsel t f _ (hc.set (hrd j (by simp [OT.heads]))) hr2).1 hb1.2 hs2) h hs.1⟩
      · exact (treeG_sim hT hsel r fuel listed hc h).2 hb.2 hs.2 (fun k hk => hrd k (List.mem_cons_of_mem _ hk)) j hj
    refine ⟨fun hb hs => ?_, fun hb hs hrd => key false hrd (by simp) hb hs⟩
    cases hnp : (true && (match ops[i]? with | some o => pureO T o | none => false) && r.isNil) with
    | false =>
      have hrd : (OT.alt i t r).heads = Region.ready .any ops listed := by
        have hb1 := hb
        simp only [OT.okG, Bool.and_eq_true] at hb1
        have hb2 := hb1.1
        split at hb2
        · cases hb2
        · split at hb2
          · simp at hb2
          · rename_i o ho
            simp only [ho] at hnp
            simp only [hnp, cond_false, Bool.and_eq_true, Bool.not_true, Bool.false_or, beq_iff_eq] at hb2
            exact hb2.1.1
      have k := key true (fun j hj => by rw [hrd] at hj; exact hj) hnp hb hs
      obtain ⟨f, rfl, _⟩ := k i (by simp [OT.heads])
      refine ⟨fun e => ?_, fun j hj => ?_⟩
      · rw [e] at hrd; simp [OT.heads] at hrd
      · rw [← hrd] at hj
        obtain ⟨f', e, hw⟩ := k j hj
        obtain rfl : f = f' := by omega
        exact hw
    | true =>
      simp only [OT.okG, Bool.and_eq_true] at hb
      have hb1 := hb.1
      split at hb1
      · cases hb1
      · rename_i f
        split at hb1
        · simp at hb1
        · rename_i o ho
          simp only [ho] at hnp
          simp only [hnp, cond_true, Bool.and_eq_true, Bool.or_eq_true, List.all_eq_true] at hb1
          have hp : pureO T o = true := by simp at hnp; exact hnp.1
          have hready : i ∈ Region.ready .any ops listed := by simpa using hb1.1.1.1
          simp only [sTree, pickO, ho] at hs
          have key : ∃ v, YG P (freeO o) ops w o v a ∧ After w0 (fun σ => sTree P T ops t true σ K) (a.put o.dst v) w := by
            rcases sOps_cons h hs.1 with ⟨hw, σ', hr, hop⟩ | ⟨hw, σ', hr, hsk⟩
            · obtain ⟨v, hrun, hK⟩ := sOp_pure hT hr hp hop
              refine ⟨v, .inl ⟨hw, fun w' hw' => ?_⟩, hK⟩
              rcases hw' with hw' | hw'
              · exact freeO_run hw' (hrun w (Below.refl _ _)) w'
              · exact hrun w' hw'
            · exact ⟨undef, .inr ⟨hw, rfl⟩, _, hr.put0 hsk.1, hsk.2⟩
          obtain ⟨v, hy, σ2, hr2, hs2⟩ := key
          exact wpAnyG_first ho (Region.noSelect_spec hsel) (fun _ _ _ h => h) f listed a w (by simpa using hb1.1.2) hc (Region.free_spec ho hb1.1.1.2) hready hy
            ((treeG_sim hT hsel t f _ (hc.set hready) hr2).1 hb1.2 hs2)

/-- A region that draws its order: walked in every order of what isn't free to be taken first; behind it, one state for all. -/
theorem sdrawM {T : Tab} (hT : T.Ok P) (hm : P.follows .mixedOrders = true) {id : Nat} {ops : Array Oper} (ds : List Nat) (t : OT) (σ' : St) (hsel : Region.noSelect ops = true) (hB : t.okG T ops ds true ops.size (Array.replicate ops.size false) = true) {Q : Exit → St → Prop} {σ : St}
    (h : sTree P T ops t true σ (fun σ => Sub w0 σ σ')) (hk : Q .normal σ') : SDraw P w0 id ops Q σ := by
  intro a w hr
  have hr' : R w0 σ a { w with drawn := w.drawn + 1 } := by
    obtain ⟨om, hr⟩ := hr
    exact ⟨om, hr.world rfl rfl rfl rfl⟩
  have h2 := wp_region_any (id := id) hm (wpAny_of_G _ _ _ _ ((treeG_sim hT hsel t ops.size _ closed_begin hr').1 hB h))
  refine wp_mono h2 ?_
  intro e a w hq
  cases e with
  | normal => obtain ⟨σ2, hr2, hs⟩ := hq; exact ⟨σ', hs a w hr2, hk⟩
  | _ => exact hq.elim
theorem tr_nil {T : Tab} {ops : Array Oper} {σ : St} {K : St → Prop} : sTree P T ops .nil true σ K = K σ := rfl
theorem tr_nil' {T : Tab} {ops : Array Oper} {σ : St} {K : St → Prop} : sTree P T ops .nil false σ K = True := rfl
theorem tr_alt {T : Tab} {ops : Array Oper} {i : Nat} {t r : OT} {b : Bool} {σ : St} {K : St → Prop} : sTree P T ops (.alt i t r) b σ K = (sOps P T ops (pickO ops [i]) σ (fun σ => sTree P T ops t true σ K) ∧ sTree P T ops r false σ K) := rfl
end
end Go.SE
/- The seat's types. -/
namespace Go.Proofs
open Go.SE

def Tryd.Tb : Tab := [(2, (.int .i64)), (3, (.int .i64)), (4, .bool), (5, (.int .u8)), (9, .str), (12, (.int .u64)), (21, (.int .i32)), (22, (.int .u32)), (23, (.sl (.cons (.cons (.arr 32 (.int .u8)) (.cons (.int .u32) .nil)) (.cons (.int .u32) (.cons (.sl (.sl (.int .u8))) .nil))))), (24, (.sl (.cons (.int .i64) (.cons (.sl (.int .u8)) .nil)))), (25, (.cons (.int .u32) (.cons (.sl (.cons (.cons (.arr 32 (.int .u8)) (.cons (.int .u32) .nil)) (.cons (.int .u32) (.cons (.sl (.sl (.int .u8))) .nil)))) (.cons (.sl (.cons (.int .i64) (.cons (.sl (.int .u8)) .nil))) (.cons (.int .u32) .nil))))), (26, (.cons (.int .u32) (.cons (.sl (.cons (.cons (.arr 32 (.int .u8)) (.cons (.int .u32) .nil)) (.cons (.int .u32) (.cons (.sl (.sl (.int .u8))) .nil)))) (.cons (.sl (.cons (.int .i64) (.cons (.sl (.int .u8)) .nil))) (.cons (.int .u32) .nil))))), (27, (.sl (.int .u8))), (28, (.cons (.int .i64) (.cons (.sl (.int .u8)) .nil))), (29, (.cons (.int .i64) (.cons (.sl (.int .u8)) .nil))), (32, (.arr 32 (.int .u8))), (33, (.arr 32 (.int .u8))), (34, (.int .i64)), (37, (.cons (.arr 32 (.int .u8)) (.cons (.int .u32) .nil))), (38, (.cons (.arr 32 (.int .u8)) (.cons (.int .u32) .nil))), (39, (.sl (.sl (.int .u8)))), (40, (.cons (.cons (.arr 32 (.int .u8)) (.cons (.int .u32) .nil)) (.cons (.int .u32) (.cons (.sl (.sl (.int .u8))) .nil)))), (41, (.cons (.cons (.arr 32 (.int .u8)) (.cons (.int .u32) .nil)) (.cons (.int .u32) (.cons (.sl (.sl (.int .u8))) .nil)))), (43, (.int .u64)), (44, (.arr 4 (.int .u64))), (45, (.arr 4 (.int .u64))), (49, (.cons (.arr 4 (.int .u64)) (.cons (.arr 4 (.int .u64)) .nil))), (50, (.cons (.arr 4 (.int .u64)) (.cons (.arr 4 (.int .u64)) .nil))), (66, (.cons (.cons (.arr 32 (.int .u8)) (.cons (.int .u32) .nil)) (.cons (.cons (.int .i64) (.cons (.sl (.int .u8)) .nil)) (.cons (.int .i64) (.cons .bool .nil))))), (67, (.cons (.cons (.arr 32 (.int .u8)) (.cons (.int .u32) .nil)) (.cons (.cons (.int .i64) (.cons (.sl (.int .u8)) .nil)) (.cons (.int .i64) (.cons .bool .nil))))), (68, (.sl (.cons (.cons (.arr 32 (.int .u8)) (.cons (.int .u32) .nil)) (.cons (.cons (.int .i64) (.cons (.sl (.int .u8)) .nil)) (.cons (.int .i64) (.cons .bool .nil)))))), (102, (.sl (.arr 32 (.int .u8)))), (103, (.int .u64)), (109, (.arr 8 (.int .u32))), (111, (.arr 64 (.int .u8))), (117, (.arr 8 (.int .u64))), (119, (.sl (.int .u64))), (123, (.int .u16)), (124, (.arr 64 (.int .u32)))]
theorem Tryd.ev_g0 {σ : St} : ev σ (.global 0) = some (.v (.vp (.arr 8 (.int .u32)) gdat0)) := rfl
theorem Tryd.ev1_g0 {σ : St} : ev1 σ (.global 0) = some (.vp (.arr 8 (.int .u32)) gdat0) := rfl
theorem Tryd.ev_g1 {σ : St} : ev σ (.global 1) = some (.v (.vp (.arr 64 (.int .u32)) gdat1)) := rfl
theorem Tryd.ev1_g1 {σ : St} : ev1 σ (.global 1) = some (.vp (.arr 64 (.int .u32)) gdat1) := rfl
theorem Tryd.hT : Tryd.Tb.Ok Tryd.prog := Tab.ok_of (by kernel_rfl)
theorem Tryd.TS : Go.SE.look Tryd.Tb 2 = some (.int .i64) ∧
  Go.SE.look Tryd.Tb 3 = some (.int .i64) ∧
  Go.SE.look Tryd.Tb 4 = some .bool ∧
  Go.SE.look Tryd.Tb 5 = some (.int .u8) ∧
  Go.SE.look Tryd.Tb 9 = some .str ∧
  Go.SE.look Tryd.Tb 12 = some (.int .u64) ∧
  Go.SE.look Tryd.Tb 21 = some (.int .i32) ∧
  Go.SE.look Tryd.Tb 22 = some (.int .u32) ∧
  Go.SE.look Tryd.Tb 23 = some (.sl (.cons (.cons (.arr 32 (.int .u8)) (.cons (.int .u32) .nil)) (.cons (.int .u32) (.cons (.sl (.sl (.int .u8))) .nil)))) ∧
  Go.SE.look Tryd.Tb 24 = some (.sl (.cons (.int .i64) (.cons (.sl (.int .u8)) .nil))) ∧
  Go.SE.look Tryd.Tb 25 = some (.cons (.int .u32) (.cons (.sl (.cons (.cons (.arr 32 (.int .u8)) (.cons (.int .u32) .nil)) (.cons (.int .u32) (.cons (.sl (.sl (.int .u8))) .nil)))) (.cons (.sl (.cons (.int .i64) (.cons (.sl (.int .u8)) .nil))) (.cons (.int .u32) .nil)))) ∧
  Go.SE.look Tryd.Tb 26 = some (.cons (.int .u32) (.cons (.sl (.cons (.cons (.arr 32 (.int .u8)) (.cons (.int .u32) .nil)) (.cons (.int .u32) (.cons (.sl (.sl (.int .u8))) .nil)))) (.cons (.sl (.cons (.int .i64) (.cons (.sl (.int .u8)) .nil))) (.cons (.int .u32) .nil)))) ∧
  Go.SE.look Tryd.Tb 27 = some (.sl (.int .u8)) ∧
  Go.SE.look Tryd.Tb 28 = some (.cons (.int .i64) (.cons (.sl (.int .u8)) .nil)) ∧
  Go.SE.look Tryd.Tb 29 = some (.cons (.int .i64) (.cons (.sl (.int .u8)) .nil)) ∧
  Go.SE.look Tryd.Tb 32 = some (.arr 32 (.int .u8)) ∧
  Go.SE.look Tryd.Tb 33 = some (.arr 32 (.int .u8)) ∧
  Go.SE.look Tryd.Tb 34 = some (.int .i64) ∧
  Go.SE.look Tryd.Tb 37 = some (.cons (.arr 32 (.int .u8)) (.cons (.int .u32) .nil)) ∧
  Go.SE.look Tryd.Tb 38 = some (.cons (.arr 32 (.int .u8)) (.cons (.int .u32) .nil)) ∧
  Go.SE.look Tryd.Tb 39 = some (.sl (.sl (.int .u8))) ∧
  Go.SE.look Tryd.Tb 40 = some (.cons (.cons (.arr 32 (.int .u8)) (.cons (.int .u32) .nil)) (.cons (.int .u32) (.cons (.sl (.sl (.int .u8))) .nil))) ∧
  Go.SE.look Tryd.Tb 41 = some (.cons (.cons (.arr 32 (.int .u8)) (.cons (.int .u32) .nil)) (.cons (.int .u32) (.cons (.sl (.sl (.int .u8))) .nil))) ∧
  Go.SE.look Tryd.Tb 43 = some (.int .u64) ∧
  Go.SE.look Tryd.Tb 44 = some (.arr 4 (.int .u64)) ∧
  Go.SE.look Tryd.Tb 45 = some (.arr 4 (.int .u64)) ∧
  Go.SE.look Tryd.Tb 49 = some (.cons (.arr 4 (.int .u64)) (.cons (.arr 4 (.int .u64)) .nil)) ∧
  Go.SE.look Tryd.Tb 50 = some (.cons (.arr 4 (.int .u64)) (.cons (.arr 4 (.int .u64)) .nil)) ∧
  Go.SE.look Tryd.Tb 66 = some (.cons (.cons (.arr 32 (.int .u8)) (.cons (.int .u32) .nil)) (.cons (.cons (.int .i64) (.cons (.sl (.int .u8)) .nil)) (.cons (.int .i64) (.cons .bool .nil)))) ∧
  Go.SE.look Tryd.Tb 67 = some (.cons (.cons (.arr 32 (.int .u8)) (.cons (.int .u32) .nil)) (.cons (.cons (.int .i64) (.cons (.sl (.int .u8)) .nil)) (.cons (.int .i64) (.cons .bool .nil)))) ∧
  Go.SE.look Tryd.Tb 68 = some (.sl (.cons (.cons (.arr 32 (.int .u8)) (.cons (.int .u32) .nil)) (.cons (.cons (.int .i64) (.cons (.sl (.int .u8)) .nil)) (.cons (.int .i64) (.cons .bool .nil))))) ∧
  Go.SE.look Tryd.Tb 102 = some (.sl (.arr 32 (.int .u8))) ∧
  Go.SE.look Tryd.Tb 103 = some (.int .u64) ∧
  Go.SE.look Tryd.Tb 109 = some (.arr 8 (.int .u32)) ∧
  Go.SE.look Tryd.Tb 111 = some (.arr 64 (.int .u8)) ∧
  Go.SE.look Tryd.Tb 117 = some (.arr 8 (.int .u64)) ∧
  Go.SE.look Tryd.Tb 119 = some (.sl (.int .u64)) ∧
  Go.SE.look Tryd.Tb 123 = some (.int .u16) ∧
  Go.SE.look Tryd.Tb 124 = some (.arr 64 (.int .u32)) :=
  ⟨rfl, rfl, rfl, rfl, rfl, rfl, rfl, rfl, rfl, rfl, rfl, rfl, rfl, rfl, rfl, rfl, rfl, rfl, rfl, rfl, rfl, rfl, rfl, rfl, rfl, rfl, rfl, rfl, rfl, rfl, rfl, rfl, rfl, rfl, rfl, rfl, rfl, rfl, rfl⟩
end Go.Proofs
/- A law: what its arguments read as, and that its row holds if its text comes to true. -/
namespace Go.SE
open Go.RowKit (Below)
open Go.ChangeShapes

/-! data that values can be -/
def Fit : Ty → D → Prop
  | .bool, x => ∃ b, x = .b b
  | .int k, x => ∃ n, x = .n n ∧ k.min ≤ n ∧ n ≤ k.max
  | .str, x => ∃ s, x = .s s ∧ s.size ≤ 9223372036854775807
  | .sl e, x => ∃ l, x = .l l ∧ l.length ≤ 9223372036854775807 ∧ ∀ y ∈ l, Fit e y
  | .arr n e, x => ∃ l, x = .l l ∧ l.length = n ∧ ∀ y ∈ l, Fit e y
  | .nil, x => x = .l []
  | .cons a b, x => ∃ y l, x = .l (y :: l) ∧ Fit a y ∧ Fit b (.l l)
  | .ptr, _ => False

theorem Fit.i64 {x : D} (h : Fit (.int .i64) x) : ∃ n : Int, x = .n n ∧ -9223372036854775808 ≤ n ∧ n ≤ 9223372036854775807 := by
  obtain ⟨n, rfl, h1, h2⟩ := h
  simp [IntKind.min, IntKind.signed, IntKind.bits] at h1
  simp [IntKind.max, IntKind.signed, IntKind.bits] at h2
  exact ⟨n, rfl, by omega, by omega⟩
theorem Fit.i32 {x : D} (h : Fit (.int .i32) x) : ∃ n : Int, x = .n n ∧ -2147483648 ≤ n ∧ n ≤ 2147483647 := by
  obtain ⟨n, rfl, h1, h2⟩ := h
  simp [IntKind.min, IntKind.signed, IntKind.bits] at h1
  simp [IntKind.max, IntKind.signed, IntKind.bits] at h2
  exact ⟨n, rfl, by omega, by omega⟩
theorem Fit.u64 {x : D} (h : Fit (.int .u64) x) : ∃ n : Nat, x = .n n ∧ n < 18446744073709551616 := by
  obtain ⟨n, rfl, h1, h2⟩ := h
  simp [IntKind.min, IntKind.signed] at h1
  simp [IntKind.max, IntKind.signed, IntKind.bits] at h2
  exact ⟨n.toNat, by rw [show ((n.toNat : Nat) : Int) = n by omega], by omega⟩
theorem Fit.u32 {x : D} (h : Fit (.int .u32) x) : ∃ n : Nat, x = .n n ∧ n < 4294967296 := by
  obtain ⟨n, rfl, h1, h2⟩ := h
  simp [IntKind.min, IntKind.signed] at h1
  simp [IntKind.max, IntKind.signed, IntKind.bits] at h2
  exact ⟨n.toNat, by rw [show ((n.toNat : Nat) : Int) = n by omega], by omega⟩
theorem Fit.u16 {x : D} (h : Fit (.int .u16) x) : ∃ n : Nat, x = .n n ∧ n < 65536 := by
  obtain ⟨n, rfl, h1, h2⟩ := h
  simp [IntKind.min, IntKind.signed] at h1
  simp [IntKind.max, IntKind.signed, IntKind.bits] at h2
  exact ⟨n.toNat, by rw [show ((n.toNat : Nat) : Int) = n by omega], by omega⟩
theorem Fit.u8 {x : D} (h : Fit (.int .u8) x) : ∃ n : Nat, x = .n n ∧ n < 256 := by
  obtain ⟨n, rfl, h1, h2⟩ := h
  simp [IntKind.min, IntKind.signed] at h1
  simp [IntKind.max, IntKind.signed, IntKind.bits] at h2
  exact ⟨n.toNat, by rw [show ((n.toNat : Nat) : Int) = n by omega], by omega⟩

/-- Rows' elements take a cell or more. -/
def Ty.row : Ty → Bool
  | .sl e => e.row && decide (0 < e.size)
  | .arr _ e => e.row
  | .cons a b => a.row && b.row
  | .ptr => false
  | _ => true

section
variable {H : Type} {enc : TypeId × Value → H} {P : Program} {w : World}

theorem TyOk.cellsOf {t : Ty} {u : TypeId} (h : TyOk P t u) : P.cellsOf u = t.size := by
  obtain ⟨i, hi, hs, _⟩ := h.info
  simp [Program.cellsOf, hi, hs]

theorem readL_build {p : List Value → D → Prop} {F : D → Prop} {sz : Nat} : ∀ (n : Nat) (cs : List Value), cs.length = n * sz → (∀ i, i < n → ∃ d, p ((cs.drop (i * sz)).take sz) d ∧ F d) →
    ∃ ds, ds.length = n ∧ ReadL p sz cs ds ∧ ∀ y ∈ ds, F y
  | 0, cs, hl, _ => ⟨[], rfl, List.eq_nil_of_length_eq_zero (by simpa using hl), by simp⟩
  | n + 1, cs, hl, h => by
    obtain ⟨d, h1, h2⟩ := h 0 (by omega)
    have hl2 : (cs.drop sz).length = n * sz := by rw [List.length_drop, hl, Nat.add_mul]; omega
    obtain ⟨ds, k1, k2, k3⟩ := readL_build (p := p) (F := F) n (cs.drop sz) hl2 (fun i hi => by
      obtain ⟨d, h1, h2⟩ := h (i + 1) (by omega)
      refine ⟨d, ?_, h2⟩
      rw [List.drop_drop, show sz + i * sz = (i + 1) * sz by rw [Nat.add_mul]; omega]
      exact h1)
    refine ⟨d :: ds, by simp [k1], ⟨by simpa using h1, k2⟩, ?_⟩
    intro y hy
    rcases List.mem_cons.1 hy with rfl | hy
    · exact h2
    · exact k3 y hy

theorem trod_array {t e : TypeId} {n : Nat} {base : Nat} {sp : Nat → Bool} {held : Bool} {fuel : Nat} {cs : List Value} {x : DataW H × List MemPlace} (ht : P.underlying t = some (.array n e)) (h : DataW.trod enc P w base sp held fuel t cs = some x) :
    ∃ (xs : List (DataW H × List MemPlace)) (m : Nat), fuel = m + 1 ∧ cs.length = P.cellsOf t ∧ xs.length = n ∧ ∀ i, i < n → DataW.trod enc P w base sp held m e ((cs.drop (i * P.cellsOf e)).take (P.cellsOf e)) = xs[i]? := by
  cases fuel with
  | zero => simp [DataW.trod] at h
  | succ m =>
    unfold DataW.trod at h
    rw [ht] at h
    split at h <;> simp_all
    obtain ⟨hl, xs, hp, hd⟩ := h
    exact ⟨xs, by simpa using mapM_some_length hp, fun i hi => mapM_some_get hp i i (by simp [hi])⟩

mutual
theorem rd_trod : ∀ {ty : Ty} {t : TypeId} {fuel : Nat} {cs : List Value} {x : DataW H × List MemPlace}, TyOk P ty t → ty.row = true → DataW.trod enc P w 0 (fun _ => true) true fuel t cs = some x →
    ∃ d, Rd w (fun _ => True) ty cs d ∧ Fit ty d
  | .bool, t, fuel, cs, x, ht, _, h => by
    obtain ⟨b, rfl, _⟩ := DataW.trod_bool ht.1 h
    exact ⟨.b b, ⟨b, rfl, rfl⟩, b, rfl⟩
  | .int k, t, fuel, cs, x, ht, _, h => by
    obtain ⟨n, rfl, _, hw⟩ := DataW.trod_int ht.1 h
    simp only [Lit.wf, Bool.and_eq_true, decide_eq_true_eq] at hw
    exact ⟨.n n, ⟨n, rfl, rfl⟩, n, rfl, hw⟩
  | .str, t, fuel, cs, x, ht, _, h => by
    obtain ⟨s, rfl, _, hw⟩ := DataW.trod_string ht.1 h
    exact ⟨.s s, ⟨s, rfl, rfl⟩, s, rfl, hw⟩
  | .ptr, t, fuel, cs, x, ht, hr, h => by cases hr
  | .nil, t, fuel, cs, x, ht, _, h => by
    obtain ⟨⟨fs, hu, _, _⟩, _⟩ := id ht
    obtain ⟨xs, m, _, _, hl, _⟩ := DataW.trod_struct hu h
    rw [ht.cellsOf] at hl
    exact ⟨.l [], ⟨List.eq_nil_of_length_eq_zero hl, rfl⟩, rfl⟩
  | .arr n e, t, fuel, cs, x, ht, hr, h => by
    obtain ⟨⟨u, hu, hte⟩, _⟩ := id ht
    obtain ⟨xs, m, _, hl, hxl, hx⟩ := trod_array hu h
    rw [ht.cellsOf] at hl
    rw [hte.cellsOf] at hx
    obtain ⟨ds, h1, h2, h3⟩ := readL_build (p := Rd w (fun _ => True) e) (F := Fit e) n cs hl (fun i hi => by
      have hxi := hx i hi
      rw [List.getElem?_eq_getElem (by omega)] at hxi
      exact rd_trod hte hr hxi)
    exact ⟨.l ds, ⟨ds, rfl, h1, h2⟩, ds, rfl, h1, h3⟩
  | .sl e, t, fuel, cs, x, ht, hr, h => by
    obtain ⟨⟨u, hu, hte⟩, _⟩ := id ht
    simp only [Ty.row, Bool.and_eq_true, decide_eq_true_eq] at hr
    rcases DataW.trod_slice hu h with ⟨rfl, _⟩ | ⟨a, len, cap, elems, rest, m, _, rfl, _, _, hle, hcm, hel, hx, hsp, _⟩
    · exact ⟨.l [], ⟨[], rfl, none, 0, rfl, Nat.le_refl _, .inl rfl⟩, [], rfl, by simp, by simp⟩
    · rw [hte.cellsOf] at hx
      obtain ⟨hrl, hrx⟩ := hsp rfl
      rw [hte.cellsOf] at hrx
      have all : ∀ i, i < cap → ∃ row y, w.cells? 0 (a.add (i * e.size)) e.size = some row ∧ DataW.trod enc P w 0 (fun _ => true) true m u row = some y := by
        intro i hi
        have : ∃ y, (w.cells? 0 (a.add (i * e.size)) e.size).bind (DataW.trod enc P w 0 (fun _ => true) true m u) = some y := by
          by_cases hil : i < len
          · exact ⟨elems[i]'(by omega), by rw [hx i hil, List.getElem?_eq_getElem (by omega)]⟩
          · have := hrx (i - len) (by omega)
            rw [show len + (i - len) = i by omega] at this
            exact ⟨rest[i - len]'(by omega), by rw [this, List.getElem?_eq_getElem (by omega)]⟩
        obtain ⟨y, hy⟩ := this
        obtain ⟨row, h1, h2⟩ := Option.bind_eq_some_iff.1 hy
        exact ⟨row, y, h1, h2⟩
      by_cases hcap : cap = 0
      · have hl0 : len = 0 := by omega
        subst hl0
        exact ⟨.l [], ⟨[], rfl, some a, cap, rfl, Nat.zero_le _, .inl hcap⟩, [], rfl, by simp, by simp⟩
      · have hblk : ∃ c el fr, w.heap[a.block]? = some (.cells c el fr) ∧ a.spot = none := by
          obtain ⟨row, y, h1, _⟩ := all 0 (by omega)
          obtain ⟨_, k1, k2⟩ := World.cells?_some h1
          have hv0 := k2 0 hr.2
          rw [List.getElem?_eq_getElem (by omega)] at hv0
          have ea : (a.add (0 * e.size)).add 0 = a := by simp [Addr.add]
          rw [ea] at hv0
          unfold World.cell? at hv0
          split at hv0
          · rename_i c el fr hh
            split at hv0
            · cases hv0
            · rename_i hsp
              refine ⟨c, el, fr, hh, ?_⟩
              simpa using hsp
          · cases hv0
        obtain ⟨c, el, fr, hh, hspot⟩ := hblk
        obtain ⟨g, o, s⟩ := a
        simp only at hh hspot
        subst hspot
        have cellOf : ∀ i j, i < cap → j < e.size → ∃ row y, w.cells? 0 (Addr.add ⟨g, o, none⟩ (i * e.size)) e.size = some row ∧ DataW.trod enc P w 0 (fun _ => true) true m u row = some y ∧ row.length = e.size ∧ ∀ j, j < e.size → c[o + i * e.size + j]? = row[j]? := by
          intro i j hi hj
          obtain ⟨row, y, h1, h2⟩ := all i hi
          obtain ⟨_, k1, k2⟩ := World.cells?_some h1
          refine ⟨row, y, h1, h2, k1, fun j hj => ?_⟩
          rw [← k2 j hj, Addr.add_lit, Addr.add_lit]
          simp [World.cell?, hh]
        have hbound : o + cap * e.size ≤ c.size := by
          obtain ⟨row, y, _, _, k1, k2⟩ := cellOf (cap - 1) (e.size - 1) (by omega) (by omega)
          have h3 := k2 (e.size - 1) (by omega)
          rw [List.getElem?_eq_getElem (by omega)] at h3
          have := (Array.getElem?_eq_some_iff.1 h3).1
          have h2 : (cap - 1) * e.size + e.size = cap * e.size := by rw [← Nat.succ_mul]; congr 1; omega
          omega
        have hmul : len * e.size ≤ cap * e.size := Nat.mul_le_mul_right _ hle
        obtain ⟨ds, h1, h2, h3⟩ := readL_build (p := Rd w (fun _ => True) e) (F := Fit e) (sz := e.size) len ((c.toList.drop o).take (len * e.size)) (by rw [List.length_take, List.length_drop, Array.length_toList]; omega) (fun i hi => by
          obtain ⟨row, y, _, k2, m1, m2⟩ := cellOf i 0 (by omega) hr.2
          have hrow : ((((c.toList.drop o).take (len * e.size)).drop (i * e.size)).take e.size) = row := by
            have hmi : i * e.size + e.size ≤ len * e.size := by rw [← Nat.succ_mul]; exact Nat.mul_le_mul_right _ hi
            apply List.ext_getElem?
            intro j
            by_cases hj : j < e.size
            · rw [List.getElem?_take, if_pos hj, List.getElem?_drop, List.getElem?_take, if_pos (by omega), List.getElem?_drop, ← m2 j hj, Array.getElem?_toList]
              congr 1; omega
            · rw [List.getElem?_eq_none (by rw [List.length_take]; omega), List.getElem?_eq_none (by omega)]
          rw [hrow]
          exact rd_trod hte hr.1 k2)
        refine ⟨.l ds, ⟨ds, rfl, some ⟨g, o, none⟩, cap, by rw [h1], by omega, .inr ⟨g, o, c, el, fr, rfl, trivial, hh, hbound, by rw [h1]; exact h2⟩⟩, ds, rfl, ?_, h3⟩
        have : cap ≤ 9223372036854775807 := hcm
        omega
  | .cons a b, t, fuel, cs, x, ht, hr, h => by
    obtain ⟨⟨fs, f, r, hu, hfs, _, _, _, hoff, hta, hfb⟩, _⟩ := id ht
    simp only [Ty.row, Bool.and_eq_true] at hr
    obtain ⟨xs, m, _, _, hl, hxl, hx⟩ := DataW.trod_struct hu h
    have get : ∀ (i : Nat) (g : Field), (f :: r)[i]? = some g → ∃ y, DataW.trod enc P w 0 (fun _ => true) true m g.type ((cs.drop g.offset).take (P.cellsOf g.type)) = some y := by
      intro i g hg
      have hgi : fs[i]? = some g := by rw [← Array.getElem?_toList, hfs]; exact hg
      have hlt := (Array.getElem?_eq_some_iff.1 hgi).1
      exact ⟨xs[i]'(by omega), by rw [hx i g hgi, List.getElem?_eq_getElem (by omega)]⟩
    obtain ⟨y, hy⟩ := get 0 f rfl
    rw [hta.cellsOf, hoff, List.drop_zero] at hy
    obtain ⟨d, hd1, hd2⟩ := rd_trod hta hr.1 hy
    obtain ⟨ds, hs1, hs2⟩ := rd_fields (cs := cs) (m := m) hfb hr.2 (fun g hg => by
      obtain ⟨i, hi⟩ := List.getElem?_of_mem hg
      exact get (i + 1) g (by simpa using hi)) (by rw [hl, ht.cellsOf]; rfl)
    exact ⟨.l (d :: ds), ⟨d, ds, rfl, hd1, hs1⟩, d, ds, rfl, hd2, hs2⟩
theorem rd_fields : ∀ {ty : Ty} {r : List Field} {off : Nat} {cs : List Value} {m : Nat}, FOk P ty r off → ty.row = true →
    (∀ g ∈ r, ∃ y, DataW.trod enc P w 0 (fun _ => true) true m g.type ((cs.drop g.offset).take (P.cellsOf g.type)) = some y) → cs.length = off + ty.size →
    ∃ ds, Rd w (fun _ => True) ty (cs.drop off) (.l ds) ∧ Fit ty (.l ds)
  | .nil, [], off, cs, m, _, _, _, hl => ⟨[], ⟨by simp only [Ty.size] at hl; exact List.drop_of_length_le (by omega), rfl⟩, rfl⟩
  | .cons a b, f :: r, off, cs, m, hf, hr, hg, hl => by
    obtain ⟨_, _, hoff, hta, hfb⟩ := hf
    simp only [Ty.row, Bool.and_eq_true] at hr
    obtain ⟨y, hy⟩ := hg f (by simp)
    rw [hta.cellsOf, hoff] at hy
    obtain ⟨d, hd1, hd2⟩ := rd_trod hta hr.1 hy
    obtain ⟨ds, hs1, hs2⟩ := rd_fields (cs := cs) (m := m) hfb hr.2 (fun g hgr => hg g (by simp [hgr])) (by simp only [Ty.size] at hl; omega)
    refine ⟨d :: ds, ⟨d, ds, rfl, hd1, ?_⟩, d, ds, rfl, hd2, hs2⟩
    rw [List.drop_drop]; exact hs1
  | .nil, _ :: _, _, _, _, hf, _, _, _ => hf.elim
  | .cons _ _, [], _, _, _, hf, _, _, _ => hf.elim
  | .bool, _, _, _, _, hf, _, _, _ => hf.elim
  | .int _, _, _, _, _, hf, _, _, _ => hf.elim
  | .str, _, _, _, _, hf, _, _, _ => hf.elim
  | .sl _, _, _, _, _, hf, _, _, _ => hf.elim
  | .arr _ _, _, _, _, _, hf, _, _, _ => hf.elim
  | .ptr, _, _, _, _, hf, _, _, _ => hf.elim
end

theorem agg_okWide {ty : Ty} {t : TypeId} {base : Nat} {v : Value} (ht : TyOk P ty t) (hr : ty.row = true) (h : Value.okWide P w .any base t v) : vAgg v = ty.agg := by
  cases ty with
  | ptr => cases hr
  | arr n e => obtain ⟨⟨u, hu, _⟩, _⟩ := ht; simp only [Value.okWide, hu] at h; obtain ⟨cs, rfl, _⟩ := h; rfl
  | nil => obtain ⟨⟨fs, hu, _⟩, _⟩ := ht; simp only [Value.okWide, hu] at h; obtain ⟨cs, rfl, _⟩ := h; rfl
  | cons a b => obtain ⟨⟨fs, f, r, hu, _⟩, _⟩ := ht; simp only [Value.okWide, hu] at h; obtain ⟨cs, rfl, _⟩ := h; rfl
  | bool => have hu := ht.1; simp only [Value.okWide, hu, Cell.okWide] at h; cases v <;> simp_all [Cell.ok, vAgg, Ty.agg]
  | int k => have hu := ht.1; simp only [Value.okWide, hu, Cell.okWide] at h; cases v <;> simp_all [Cell.ok, vAgg, Ty.agg]
  | str => have hu := ht.1; simp only [Value.okWide, hu, Cell.okWide] at h; cases v <;> simp_all [Cell.ok, vAgg, Ty.agg]
  | sl e => obtain ⟨⟨u, hu, _⟩, _⟩ := ht; simp only [Value.okWide, hu, Cell.okWide] at h; cases v <;> simp_all [Cell.ok, vAgg, Ty.agg]

/-! the law -/

def FitL : List Ty → List D → Prop
  | [], [] => True
  | t :: ts, x :: xs => Fit t x ∧ FitL ts xs
  | _, _ => False

def tysOf (T : Tab) : List TypeId → Option (List Ty)
  | [] => some []
  | u :: us => match Go.SE.look T u, tysOf T us with | some t, some l => some (t :: l) | _, _ => none

def zipA : List Ty → List D → List (Ty × D)
  | t :: ts, x :: xs => (t, x) :: zipA ts xs
  | _, _ => []

theorem args_read {T : Tab} (hT : T.Ok P) {base : Nat} : ∀ {us : List TypeId} {tys : List Ty} {vs : List Value} {ds : List (DataW H)} {p : List MemPlace}, tysOf T us = some tys → tys.all Ty.row = true → DataW.TrodAll enc P w 0 (fun _ => true) true us vs ds p →
    (∀ (j : Nat) t v, us[j]? = some t → vs[j]? = some v → Value.okWide P w .any base t v) → ∃ xs, ArgsOk w (fun _ => True) (zipA tys xs) vs ∧ FitL tys xs
  | [], tys, vs, ds, p, ht, _, h, _ => by
    simp only [tysOf, Option.some.injEq] at ht
    subst ht
    obtain ⟨rfl, _, _⟩ := trodAll_nil h
    exact ⟨[], trivial, trivial⟩
  | u :: us, tys, vs, ds, p, ht, hr, h, hv => by
    simp only [tysOf] at ht
    split at ht
    · rename_i t l h1 h2
      simp only [Option.some.injEq] at ht
      subst ht
      simp only [List.all_cons, Bool.and_eq_true] at hr
      obtain ⟨v, vs', d, ds', a, b, rfl, rfl, rfl, k1, k2⟩ := trodAll_cons h
      obtain ⟨fuel, k1⟩ := k1
      obtain ⟨x, hx1, hx2⟩ := rd_trod (hT u t h1).1 hr.1 k1
      obtain ⟨xs, hy1, hy2⟩ := args_read hT h2 hr.2 k2 (fun j t v ht hv' => hv (j + 1) t v (by simpa using ht) (by simpa using hv'))
      exact ⟨x :: xs, ⟨⟨hx1, agg_okWide (hT u t h1).1 hr.1 (hv 0 u v rfl rfl)⟩, hy1⟩, hx2, hy2⟩
    · cases ht

theorem trodAll_stays (hl : laidOutB P = true) {W' : World} {sp : Nat → Bool} : ∀ {us : List TypeId} {vs : List Value} {ds : List (DataW H)} {p : List MemPlace}, (us.all fun t => P.readableRec t && decide (t < P.types.size)) = true → DataW.TrodAll enc P w 0 (fun _ => true) true us vs ds p →
    (∀ x ∈ p, w.sameAt W' x) → (∀ x ∈ p, sp x.block = true) → DataW.TrodAll enc P W' 0 sp true us vs ds p
  | [], vs, ds, p, _, h, _, _ => by
    obtain ⟨rfl, rfl, rfl⟩ := trodAll_nil h
    rfl
  | u :: us, vs, ds, p, hr, h, hs, hsp => by
    simp only [List.all_cons, Bool.and_eq_true, decide_eq_true_eq] at hr
    obtain ⟨v, vs', d, ds', a, b, rfl, rfl, rfl, k1, k2⟩ := trodAll_cons h
    exact ⟨a, b, WideElems.Trod_stays hl hr.1.1 hr.1.2 k1 (fun x hx => hs x (List.mem_append_left _ hx)) (fun x hx => hsp x (List.mem_append_left _ hx)),
      trodAll_stays hl hr.2 k2 (fun x hx => hs x (List.mem_append_right _ hx)) (fun x hx => hsp x (List.mem_append_right _ hx)), rfl⟩

/-- A law whose text comes to true for all data that meet Q: what its row says. -/
theorem law_postQ {T : Tab} (hT : T.Ok P) (hl : laidOutB P = true) {f : FuncId} {fn : Func} {s : ChangeSpec} {apart fresh handsOn again : Bool} {tb : TypeId} {tys : List Ty} {Q : List D → Prop}
    (hpar : tysOf T fn.params.toList = some tys) (hrow : tys.all Ty.row = true) (hrec : (fn.params.toList.all fun t => P.readableRec t && decide (t < P.types.size)) = true)
    (hres : fn.resultTypes = #[tb]) (htb : P.underlying tb = some .bool) (hvars : s.vars = []) (hG : GOk w (fun _ => False))
    (hfn : ∀ (ds : List (DataW H)), ds.length = fn.params.toList.length → (s.fn H ds).results = [.lit (.bool true)] ∧ (s.fn H ds).args = ds ∧ (s.fn H ds).vars = [])
    (hbody : Callable P f) (hcall : ∀ xs, FitL tys xs → Q xs → SCall P f (zipA tys xs) (fun rs => rs = [.d .bool (.b true)]))
    {base : Nat} {args : Array Value} {ds gs : List (DataW H)} {before : List MemPlace}
    (hval : ∀ (j : Nat) t v, fn.params[j]? = some t → args[j]? = some v → Value.okWide P w .any base t v)
    (hW : DataW.Whole enc P fn.params.toList s.vars apart w args.toList ds gs before)
    (hQ : ∀ xs p, DataW.TrodAll enc P w 0 (fun _ => true) true fn.params.toList args.toList ds p → FitL tys xs → ArgsOk w (fun _ => True) (zipA tys xs) args.toList → Q xs) :
    Calls P f args w fun e W' => ∃ v, e = .returned v ∧ s.post enc P fn apart fresh handsOn again w args v W' := by
  have hW' := hW
  obtain ⟨p, q, hA, hV, rfl, hfz, hnd⟩ := hW
  rw [hvars] at hV
  obtain ⟨rfl, rfl⟩ := trodVars_none hV
  simp only [List.append_nil] at hW' hfz hnd
  obtain ⟨xs, hx1, hx2⟩ := args_read hT hpar hrow hA (fun j t v h1 h2 => hval j t v (by simpa using h1) (by simpa using h2))
  have hc := ((hcall xs hx2 (hQ xs _ hA hx2 hx1)).body hx1 hbody).2 w (fun _ => False) args.toList (by simp) hG (by
    have : (fun b : Nat => ¬ (fun _ : Nat => False) b) = fun _ => True := by funext b; simp
    rw [this]; exact hx1)
  rw [Array.toArray_toList] at hc
  refine hc.mono ?_
  rintro e W' ⟨v, rs, rfl, hb, ⟨vals, bs, rfl, hl1, hl2, hrv, _⟩, rfl⟩
  match vals, bs, hl1, hl2 with
  | [v0], [b0], _, _ =>
    have h0 := hrv 0 _ v0 b0 rfl rfl rfl
    have hv0 : v0 = .bool true := by
      cases b0 with
      | some q => exact h0.elim
      | none =>
        obtain ⟨x, h1, h2⟩ := RdV.bool h0
        cases h2
        exact h1
    subst hv0
    refine ⟨.bool true, rfl, ?_⟩
    have hlen : ∀ {us : List TypeId} {vs : List Value} {ds : List (DataW H)} {p : List MemPlace}, DataW.TrodAll enc P w 0 (fun _ => true) true us vs ds p → ds.length = us.length := by
      intro us
      induction us with
      | nil => intro vs ds p h; obtain ⟨_, rfl, _⟩ := trodAll_nil h; rfl
      | cons u us ih => intro vs ds p h; obtain ⟨v, vs', d, ds', a, b, rfl, rfl, rfl, k1, k2⟩ := trodAll_cons h; simp [ih k2]
    obtain ⟨f1, f2, f3⟩ := hfn ds (hlen hA)
    have hlt : ∀ x ∈ p, x.block < w.heap.size := hW'.lt
    have hsame : ∀ x ∈ p, w.sameAt W' x := fun x hx => hb.same (hlt x hx)
    have hargs : ∀ sp : Nat → Bool, (∀ x ∈ p, sp x.block = true) → DataW.TrodAll enc P W' 0 sp true fn.params.toList args.toList ds p := fun sp hsp => trodAll_stays hl hrec hA hsame hsp
    have hok : ∀ (j : Nat) (t : TypeId) (r : Value), fn.resultTypes[j]? = some t → ((Value.bool true).resultList fn.resultTypes.size)[j]? = some r → Value.okWide P W' .any 0 t r :=
      RowKit.ok_one hres rfl (RowKit.okWide_bool_mk htb true)
    have hres' : ∀ (b : Nat) (sp : Nat → Bool) (hd : Bool), DataW.TrodAll enc P W' b sp hd fn.resultTypes.toList ((Value.bool true).resultList fn.resultTypes.size) [.lit (.bool true)] [] := by
      intro b sp hd
      rw [hres]
      exact ⟨[], [], RowKit.shut_bool htb true, rfl, rfl⟩
    have hold : ∀ x ∈ p, (fun b => decide (b < w.heap.size)) x.block = true := fun x hx => by simpa using hlt x hx
    refine ⟨ds, [], p, [], p, [], hW', ?_, ?_, ?_, World.keptBut_mono (fun x hx => ⟨hx, .inr (by simpa using hx)⟩) (hb.frame (· ∈ p)), fun _ => ⟨hok, ?_⟩⟩
    · rw [List.append_nil, f1]; exact hres' _ _ _
    · rw [List.append_nil, f2]; exact hargs _ hold
    · rw [List.append_nil, f3, hvars]; rfl
    · refine ⟨_, [], ([] ++ p) ++ [], ⟨[] ++ p, [], trodAll_append (hargs _ (fun _ _ => rfl)) (hres' _ _ _), by rw [hvars]; rfl, rfl, ?_, ?_⟩, ?_⟩
      · intro b off hp
        rw [hb.frozen (p := ⟨b, off, none⟩) (hlt (.cell b off) (by simpa using hp))]
        exact hfz b off (by simpa using hp)
      · intro ha
        simpa using hnd ha
      · intro x hx _
        simpa using hx


/-- A law whose text comes to true for all data: what its row says. -/
theorem law_post {T : Tab} (hT : T.Ok P) (hl : laidOutB P = true) {f : FuncId} {fn : Func} {s : ChangeSpec} {apart fresh handsOn again : Bool} {tb : TypeId} {tys : List Ty}
    (hpar : tysOf T fn.params.toList = some tys) (hrow : tys.all Ty.row = true) (hrec : (fn.params.toList.all fun t => P.readableRec t && decide (t < P.types.size)) = true)
    (hres : fn.resultTypes = #[tb]) (htb : P.underlying tb = some .bool) (hvars : s.vars = []) (hG : GOk w (fun _ => False))
    (hfn : ∀ (ds : List (DataW H)), ds.length = fn.params.toList.length → (s.fn H ds).results = [.lit (.bool true)] ∧ (s.fn H ds).args = ds ∧ (s.fn H ds).vars = [])
    (hbody : Callable P f) (hcall : ∀ xs, FitL tys xs → SCall P f (zipA tys xs) (fun rs => rs = [.d .bool (.b true)]))
    {base : Nat} {args : Array Value} {ds gs : List (DataW H)} {before : List MemPlace}
    (hval : ∀ (j : Nat) t v, fn.params[j]? = some t → args[j]? = some v → Value.okWide P w .any base t v)
    (hW : DataW.Whole enc P fn.params.toList s.vars apart w args.toList ds gs before) :
    Calls P f args w fun e W' => ∃ v, e = .returned v ∧ s.post enc P fn apart fresh handsOn again w args v W' :=
  law_postQ (Q := fun _ => True) hT hl hpar hrow hrec hres htb hvars hG hfn hbody (fun xs h _ => hcall xs h) hval hW (fun _ _ _ _ _ => trivial)

/-! sizes -/

/-- No argument is longer than the address space bears. -/
def TopL : Ty → D → Prop
  | .sl _, x => x.list.length ≤ 140737488351232
  | .str, x => x.str.size ≤ 140737488351232
  | _, _ => True
def TopLs : List Ty → List D → Prop
  | t :: ts, x :: xs => TopL t x ∧ TopLs ts xs
  | _, _ => True

theorem topl {T : Tab} (hT : T.Ok P) : ∀ {us : List TypeId} {tys : List Ty} {vs : List Value} {ds : List (DataW H)} {p : List MemPlace} {xs : List D}, tysOf T us = some tys →
    (us.all fun t => match P.underlying t with | some (.slice e) => decide (0 < P.bytesOf e) | _ => true) = true →
    DataW.TrodAll enc P w 0 (fun _ => true) true us vs ds p → (DataW.weightsEach P us ds).all (· ≤ reachBytes) = true → ArgsOk w (fun _ => True) (zipA tys xs) vs → FitL tys xs → TopLs tys xs
  | [], tys, vs, ds, p, xs, ht, _, h, _, _, _ => by
    simp only [tysOf, Option.some.injEq] at ht
    subst ht
    cases xs <;> trivial
  | u :: us, tys, vs, ds, p, xs, ht, hb, h, hz, ha, hf => by
    simp only [tysOf] at ht
    split at ht
    · rename_i t l h1 h2
      simp only [Option.some.injEq] at ht
      subst ht
      obtain ⟨v, vs', d, ds', a, b, rfl, rfl, rfl, k1, k2⟩ := trodAll_cons h
      obtain ⟨fuel, k1⟩ := k1
      match xs, hf with
      | x :: xs, hf =>
        obtain ⟨⟨ha1, _⟩, ha2⟩ := ha
        simp only [List.all_cons, Bool.and_eq_true] at hb
        have hz2 : (DataW.weightsEach P us ds').all (· ≤ reachBytes) = true := by
          simp only [DataW.weightsEach, List.all_append, Bool.and_eq_true] at hz
          exact hz.2
        refine ⟨?_, topl hT h2 hb.2 k2 hz2 ha2 hf.2⟩
        have hty := (hT u t h1).1
        cases t with
        | sl e =>
          obtain ⟨⟨ue, hu, _⟩, _⟩ := id hty
          obtain ⟨l, rfl, a', cap, hcs, _⟩ := ha1
          have hb1 := hb.1
          rw [hu] at hb1
          simp only [decide_eq_true_eq] at hb1
          rcases DataW.trod_slice hu k1 with ⟨e1, _⟩ | ⟨a2, len, cap2, elems, rest, m, _, e1, e2, _, _, _, hel, _⟩
          · rw [hcs] at e1
            simp only [List.cons.injEq, Value.slice.injEq] at e1
            show l.length ≤ _
            omega
          · rw [hcs] at e1
            simp only [List.cons.injEq, Value.slice.injEq] at e1
            have ed : d = .slice (elems.map (·.1)) (rest.map (·.1)) := congrArg Prod.fst e2
            have := sized_slice hz (j := 0) (t := u) (e := ue) rfl (by rw [ed]; rfl) hu
            simp only [List.length_map] at this
            have hr : reachBytes = 140737488351232 := rfl
            show l.length ≤ _
            have h3 : elems.length * 1 ≤ (elems.length + rest.length) * P.bytesOf ue := Nat.mul_le_mul (by omega) hb1
            omega
        | str =>
          obtain ⟨s, hcs, rfl⟩ := ha1
          obtain ⟨s2, e1, e2, _⟩ := DataW.trod_string hty.1 k1
          rw [hcs] at e1
          simp only [List.cons.injEq, Value.string.injEq] at e1
          have ed : d = .lit (.string s2.data.toList) := congrArg Prod.fst e2
          have := sized_string hz (j := 0) (t := u) rfl (by rw [ed]; rfl)
          have hr : reachBytes = 140737488351232 := rfl
          show s.size ≤ _
          rw [e1.1]
          rw [Array.length_toList] at this
          exact this
        | _ => trivial
    · cases ht

theorem weights_left (f : Nat → Bool) : ∀ (us : List TypeId) (ds gs : List (DataW H)), (DataW.weightsEach P us (ds ++ gs)).all f = true → (DataW.weightsEach P us ds).all f = true
  | [], _, _, _ => by simp [DataW.weightsEach]
  | _ :: _, [], _, _ => by simp [DataW.weightsEach]
  | u :: us, d :: ds, gs, h => by
    simp only [List.cons_append, DataW.weightsEach, List.all_append, Bool.and_eq_true] at h ⊢
    exact ⟨h.1, weights_left f us ds gs h.2⟩

end
end Go.SE
/- Numbers of 256 bits as four words; the machine's own carries. -/
namespace Go.Proofs
open Go.SE

/-- A number of 256 bits. -/
def u256 (n : Nat) : D := .l [.n ((n % 18446744073709551616 : Nat) : Int), .n ((n / 18446744073709551616 % 18446744073709551616 : Nat) : Int), .n ((n / 340282366920938463463374607431768211456 % 18446744073709551616 : Nat) : Int), .n ((n / 6277101735386680763835789423207666416102355444464034512896 % 18446744073709551616 : Nat) : Int)]

theorem u256_mk {a b c d n : Nat} (ha : a < 18446744073709551616) (hb : b < 18446744073709551616) (hc : c < 18446744073709551616) (hd : d < 18446744073709551616)
    (h : n = a + 18446744073709551616 * b + 340282366920938463463374607431768211456 * c + 6277101735386680763835789423207666416102355444464034512896 * d) : D.l [.n (a : Int), .n (b : Int), .n (c : Int), .n (d : Int)] = u256 n := by
  unfold u256
  have h1 : n % 18446744073709551616 = a := by omega
  have h2 : n / 18446744073709551616 % 18446744073709551616 = b := by omega
  have h3 : n / 340282366920938463463374607431768211456 % 18446744073709551616 = c := by omega
  have h4 : n / 6277101735386680763835789423207666416102355444464034512896 % 18446744073709551616 = d := by omega
  rw [h1, h2, h3, h4]

theorem u256_open (n : Nat) (hn : n < 115792089237316195423570985008687907853269984665640564039457584007913129639936) : ∃ a b c d : Nat, a < 18446744073709551616 ∧ b < 18446744073709551616 ∧ c < 18446744073709551616 ∧ d < 18446744073709551616 ∧
    n = a + 18446744073709551616 * b + 340282366920938463463374607431768211456 * c + 6277101735386680763835789423207666416102355444464034512896 * d ∧ u256 n = D.l [.n (a : Int), .n (b : Int), .n (c : Int), .n (d : Int)] :=
  ⟨_, _, _, _, by omega, by omega, by omega, by omega, by omega, rfl⟩

theorem u256_fit {x : D} (h : Fit (.arr 4 (.int .u64)) x) : ∃ n, n < 115792089237316195423570985008687907853269984665640564039457584007913129639936 ∧ x = u256 n := by
  obtain ⟨l, rfl, hl, hf⟩ := h
  match l, hl with
  | [a, b, c, d], _ =>
    obtain ⟨a, rfl, ha⟩ := (hf a (by simp)).u64
    obtain ⟨b, rfl, hb⟩ := (hf b (by simp)).u64
    obtain ⟨c, rfl, hc⟩ := (hf c (by simp)).u64
    obtain ⟨d, rfl, hd⟩ := (hf d (by simp)).u64
    exact ⟨_, by omega, u256_mk ha hb hc hd rfl⟩

theorem u256_inj {m n : Nat} (hm : m < 115792089237316195423570985008687907853269984665640564039457584007913129639936) (hn : n < 115792089237316195423570985008687907853269984665640564039457584007913129639936) :
    deq (.arr 4 (.int .u64)) (u256 m) (u256 n) = decide (m = n) := by
  by_cases e : m = n
  · subst e; simp [deq_self]
  · cases h : deq (.arr 4 (.int .u64)) (u256 m) (u256 n) with
    | false => simp [e]
    | true =>
      exfalso
      simp only [deq, u256, List.range, List.range.loop, List.all_cons, List.all_nil, D.at, D.list, List.getD_cons_zero, List.getD_cons_succ, D.int, Bool.and_true, Bool.and_eq_true, beq_iff_eq, Int.natCast_inj] at h
      omega

theorem args3 {w : World} {S : Nat → Prop} {k : IntKind} {x y z : Int} {vs : List Value} (h : ArgsOk w S [(.int k, .n x), (.int k, .n y), (.int k, .n z)] vs) : vs = [.int k x, .int k y, .int k z] := by
  match vs, h with
  | [a, b, c], ⟨h1, h2, h3, _⟩ =>
    obtain ⟨_, rfl, e1⟩ := RdV.int h1
    obtain ⟨_, rfl, e2⟩ := RdV.int h2
    obtain ⟨_, rfl, e3⟩ := RdV.int h3
    cases e1; cases e2; cases e3; rfl

theorem rep4 {x : D} : List.replicate 4 x = [x, x, x, x] := rfl
theorem rep8 {x : D} : List.replicate 8 x = [x, x, x, x, x, x, x, x] := rfl

theorem add64 (x y c : Nat) (hx : x < 18446744073709551616) (hy : y < 18446744073709551616) (hc : c ≤ 1) {K : List RV → Prop}
    (h : ∀ s d : Nat, s + 18446744073709551616 * d = x + y + c → s < 18446744073709551616 → d ≤ 1 → K [.d (.int .u64) (.n s), .d (.int .u64) (.n d)]) :
    SCall Tryd.prog 109 [(.int .u64, .n x), (.int .u64, .n y), (.int .u64, .n c)] K := by
  refine .inr ⟨_, h ((x + y + c) % 18446744073709551616) ((x + y + c) / 18446744073709551616) (by omega) (by omega) (by omega), rfl, rfl, fun w S vs ha => ?_⟩
  obtain rfl := args3 ha
  refine ⟨[.int .u64 (((x + y + c) % 18446744073709551616 : Nat) : Int), .int .u64 (((x + y + c) / 18446744073709551616 : Nat) : Int)], ?_, rfl, ?_⟩
  · rw [run_callFunc_extern Tryd.func109 (by kernel_rfl) (by kernel_rfl) (by kernel_rfl) (e := add64Entry) (by kernel_rfl)]
    rw [run_add64 x y c (by omega) (by omega) (by omega) (by omega)]
    simp only [Result.andThen, tupV]
    congr 5 <;> omega
  · intro i r v hr hv
    match i with
    | 0 => simp at hr hv; subst hr; subst hv; exact RdV.mk_int _ _
    | 1 => simp at hr hv; subst hr; subst hv; exact RdV.mk_int _ _
    | n + 2 => simp at hr

theorem sub64 (x y c : Nat) (hx : x < 18446744073709551616) (hy : y < 18446744073709551616) (hc : c ≤ 1) {K : List RV → Prop}
    (h : ∀ s d : Nat, s + y + c = x + 18446744073709551616 * d → s < 18446744073709551616 → d ≤ 1 → K [.d (.int .u64) (.n s), .d (.int .u64) (.n d)]) :
    SCall Tryd.prog 110 [(.int .u64, .n x), (.int .u64, .n y), (.int .u64, .n c)] K := by
  refine .inr ⟨_, h ((x + 18446744073709551616 - y - c) % 18446744073709551616) (if x < y + c then 1 else 0) (by split <;> omega) (by omega) (by split <;> omega), rfl, rfl, fun w S vs ha => ?_⟩
  obtain rfl := args3 ha
  refine ⟨[.int .u64 (((x + 18446744073709551616 - y - c) % 18446744073709551616 : Nat) : Int), .int .u64 ((if x < y + c then 1 else 0 : Nat) : Int)], ?_, rfl, ?_⟩
  · rw [run_callFunc_extern Tryd.func110 (by kernel_rfl) (by kernel_rfl) (by kernel_rfl) (e := sub64Entry) (by kernel_rfl)]
    rw [run_sub64 x y c hc]
    simp only [Result.andThen, tupV]
  · intro i r v hr hv
    match i with
    | 0 => simp at hr hv; subst hr; subst hv; exact RdV.mk_int _ _
    | 1 => simp at hr hv; subst hr; subst hv; exact RdV.mk_int _ _
    | n + 2 => simp at hr

set_option maxHeartbeats 4000000 in
theorem fromUint (n : Nat) (hn : n < 18446744073709551616) : SCall Tryd.prog 46 [(.int .u64, .n n)] (fun rs => rs = [.d (.arr 4 (.int .u64)) (u256 n)]) := by
  refine scall_intro (n := 5) (rl := [.cell 2 45]) (us := [45]) Tryd.hT Tryd.func46 rfl rfl rfl rfl rfl (Nat.le_of_ble_eq_true rfl) ?_
  intro w0
  simp -dsimp -implicitDefEqProofs (disch := omega) only [↓gpre, ↓bldS, ↓bld, ↓reduceIte, ↓gmore, gpost, gall, keepT, den, del, upd, dels, refs, hasTy, sArgs, aRefs, rvs, nodupB, memB, app, pTm, Ty.bytes, kbytes, Ty.zeroD, Ty.size, Ty.cmp, Ty.depth, Go.SE.look, reduceCtorEq, Nat.reduceAdd, Nat.reduceSub, Nat.reduceMul, Nat.reduceEqDiff, Nat.reduceLT, Nat.reduceLeDiff, Nat.reduceMod, Nat.reduceDiv, Nat.reducePow, Nat.reduceBEq, Int.reduceToNat, Int.reduceLE, Int.reduceLT, Int.reduceEq, Int.reduceAdd, Int.reduceMul, Int.reduceSub, Int.reduceNeg, Int.reduceNe, Tryd.TS, Tryd.ev_g0, Tryd.ev1_g0, Tryd.ev_g1, Tryd.ev1_g1, rep4]
  rw [← u256_mk (a := n) (b := 0) (c := 0) (d := 0) hn (by omega) (by omega) (by omega) (by omega)]
  rfl

set_option maxHeartbeats 4000000 in
theorem fromUintRef (n : Nat) (hn : n < 18446744073709551616) : SCall Tryd.prog 64 [(.int .u64, .n n)] (fun rs => rs = [.d (.arr 4 (.int .u64)) (u256 n)]) := by
  refine scall_intro (n := 5) (rl := [.cell 2 45]) (us := [45]) Tryd.hT Tryd.func64 rfl rfl rfl rfl rfl (Nat.le_of_ble_eq_true rfl) ?_
  intro w0
  simp -dsimp -implicitDefEqProofs (disch := omega) only [↓gpre, ↓bldS, ↓bld, ↓reduceIte, ↓gmore, gpost, gall, keepT, den, del, upd, dels, refs, hasTy, sArgs, aRefs, rvs, nodupB, memB, app, pTm, Ty.bytes, kbytes, Ty.zeroD, Ty.size, Ty.cmp, Ty.depth, Go.SE.look, reduceCtorEq, Nat.reduceAdd, Nat.reduceSub, Nat.reduceMul, Nat.reduceEqDiff, Nat.reduceLT, Nat.reduceLeDiff, Nat.reduceMod, Nat.reduceDiv, Nat.reducePow, Nat.reduceBEq, Int.reduceToNat, Int.reduceLE, Int.reduceLT, Int.reduceEq, Int.reduceAdd, Int.reduceMul, Int.reduceSub, Int.reduceNeg, Int.reduceNe, Tryd.TS, Tryd.ev_g0, Tryd.ev1_g0, Tryd.ev_g1, Tryd.ev1_g1, rep4]
  rw [← u256_mk (a := n) (b := 0) (c := 0) (d := 0) hn (by omega) (by omega) (by omega) (by omega)]
  rfl

set_option maxHeartbeats 4000000 in
theorem wadd (m n : Nat) (hm : m < 115792089237316195423570985008687907853269984665640564039457584007913129639936) (hn : n < 115792089237316195423570985008687907853269984665640564039457584007913129639936) :
    SCall Tryd.prog 104 [(.arr 4 (.int .u64), u256 m), (.arr 4 (.int .u64), u256 n)] (fun rs => rs = [.d (.arr 4 (.int .u64)) (u256 ((m + n) % 115792089237316195423570985008687907853269984665640564039457584007913129639936)), .d .bool (.b (decide (115792089237316195423570985008687907853269984665640564039457584007913129639936 ≤ m + n)))]) := by
  obtain ⟨a0, a1, a2, a3, ha0, ha1, ha2, ha3, em, eu⟩ := u256_open m hm
  obtain ⟨b0, b1, b2, b3, hb0, hb1, hb2, hb3, en, ev⟩ := u256_open n hn
  rw [eu, ev]
  refine scall_intro (n := 29) (rl := [.cell 4 45, .tmp 5]) (us := [45, 4]) Tryd.hT Tryd.func104 rfl rfl rfl rfl rfl (Nat.le_of_ble_eq_true rfl) ?_
  intro w0
  simp -dsimp -implicitDefEqProofs (disch := omega) only [↓gpre, ↓bldS, ↓bld, ↓reduceIte, ↓gmore, gpost, gall, keepT, den, del, upd, dels, refs, hasTy, sArgs, aRefs, rvs, nodupB, memB, app, pTm, Ty.bytes, kbytes, Ty.zeroD, Ty.size, Ty.cmp, Ty.depth, Go.SE.look, reduceCtorEq, Nat.reduceAdd, Nat.reduceSub, Nat.reduceMul, Nat.reduceEqDiff, Nat.reduceLT, Nat.reduceLeDiff, Nat.reduceMod, Nat.reduceDiv, Nat.reducePow, Nat.reduceBEq, Int.reduceToNat, Int.reduceLE, Int.reduceLT, Int.reduceEq, Int.reduceAdd, Int.reduceMul, Int.reduceSub, Int.reduceNeg, Int.reduceNe, Tryd.TS, Tryd.ev_g0, Tryd.ev1_g0, Tryd.ev_g1, Tryd.ev1_g1, rep4]
  refine sunroll Tryd.hT ?_; simp -dsimp -implicitDefEqProofs (disch := omega) only [↓gpre, ↓bldS, ↓bld, ↓reduceIte, ↓gmore, gpost, gall, keepT, den, del, upd, dels, refs, hasTy, sArgs, aRefs, rvs, nodupB, memB, app, pTm, Ty.bytes, kbytes, Ty.zeroD, Ty.size, Ty.cmp, Ty.depth, Go.SE.look, reduceCtorEq, Nat.reduceAdd, Nat.reduceSub, Nat.reduceMul, Nat.reduceEqDiff, Nat.reduceLT, Nat.reduceLeDiff, Nat.reduceMod, Nat.reduceDiv, Nat.reducePow, Nat.reduceBEq, Int.reduceToNat, Int.reduceLE, Int.reduceLT, Int.reduceEq, Int.reduceAdd, Int.reduceMul, Int.reduceSub, Int.reduceNeg, Int.reduceNe, Tryd.TS, Tryd.ev_g0, Tryd.ev1_g0, Tryd.ev_g1, Tryd.ev1_g1, rep4]
  refine sdraw Tryd.hT (by kernel_rfl) [13] [0, 1, 2, 3, 4, 5, 6, 7, 8, 9, 10, 11, 12, 13, 14] (by kernel_rfl) (by kernel_rfl) (by kernel_rfl) ?_; simp only [pickO, List.getElem?_toArray, List.getElem?_cons_zero, List.getElem?_cons_succ]
  simp -dsimp -implicitDefEqProofs (disch := omega) only [↓gpre, ↓bldS, ↓bld, ↓reduceIte, ↓gmore, gpost, gall, keepT, den, del, upd, dels, refs, hasTy, sArgs, aRefs, rvs, nodupB, memB, app, pTm, Ty.bytes, kbytes, Ty.zeroD, Ty.size, Ty.cmp, Ty.depth, Go.SE.look, reduceCtorEq, Nat.reduceAdd, Nat.reduceSub, Nat.reduceMul, Nat.reduceEqDiff, Nat.reduceLT, Nat.reduceLeDiff, Nat.reduceMod, Nat.reduceDiv, Nat.reducePow, Nat.reduceBEq, Int.reduceToNat, Int.reduceLE, Int.reduceLT, Int.reduceEq, Int.reduceAdd, Int.reduceMul, Int.reduceSub, Int.reduceNeg, Int.reduceNe, Tryd.TS, Tryd.ev_g0, Tryd.ev1_g0, Tryd.ev_g1, Tryd.ev1_g1, rep4]
  refine add64 _ _ 0 ha0 hb0 (by omega) (fun s0 c0 e0 l0 m0 => ?_)
  simp -dsimp -implicitDefEqProofs (disch := omega) only [↓gpre, ↓bldS, ↓bld, ↓reduceIte, ↓gmore, gpost, gall, keepT, den, del, upd, dels, refs, hasTy, sArgs, aRefs, rvs, nodupB, memB, app, pTm, Ty.bytes, kbytes, Ty.zeroD, Ty.size, Ty.cmp, Ty.depth, Go.SE.look, reduceCtorEq, Nat.reduceAdd, Nat.reduceSub, Nat.reduceMul, Nat.reduceEqDiff, Nat.reduceLT, Nat.reduceLeDiff, Nat.reduceMod, Nat.reduceDiv, Nat.reducePow, Nat.reduceBEq, Int.reduceToNat, Int.reduceLE, Int.reduceLT, Int.reduceEq, Int.reduceAdd, Int.reduceMul, Int.reduceSub, Int.reduceNeg, Int.reduceNe, Tryd.TS, Tryd.ev_g0, Tryd.ev1_g0, Tryd.ev_g1, Tryd.ev1_g1, rep4]
  refine sunroll Tryd.hT ?_; simp -dsimp -implicitDefEqProofs (disch := omega) only [↓gpre, ↓bldS, ↓bld, ↓reduceIte, ↓gmore, gpost, gall, keepT, den, del, upd, dels, refs, hasTy, sArgs, aRefs, rvs, nodupB, memB, app, pTm, Ty.bytes, kbytes, Ty.zeroD, Ty.size, Ty.cmp, Ty.depth, Go.SE.look, reduceCtorEq, Nat.reduceAdd, Nat.reduceSub, Nat.reduceMul, Nat.reduceEqDiff, Nat.reduceLT, Nat.reduceLeDiff, Nat.reduceMod, Nat.reduceDiv, Nat.reducePow, Nat.reduceBEq, Int.reduceToNat, Int.reduceLE, Int.reduceLT, Int.reduceEq, Int.reduceAdd, Int.reduceMul, Int.reduceSub, Int.reduceNeg, Int.reduceNe, Tryd.TS, Tryd.ev_g0, Tryd.ev1_g0, Tryd.ev_g1, Tryd.ev1_g1, rep4]
  refine sdraw Tryd.hT (by kernel_rfl) [13] [0, 1, 2, 3, 4, 5, 6, 7, 8, 9, 10, 11, 12, 13, 14] (by kernel_rfl) (by kernel_rfl) (by kernel_rfl) ?_; simp only [pickO, List.getElem?_toArray, List.getElem?_cons_zero, List.getElem?_cons_succ]
  simp -dsimp -implicitDefEqProofs (disch := omega) only [↓gpre, ↓bldS, ↓bld, ↓reduceIte, ↓gmore, gpost, gall, keepT, den, del, upd, dels, refs, hasTy, sArgs, aRefs, rvs, nodupB, memB, app, pTm, Ty.bytes, kbytes, Ty.zeroD, Ty.size, Ty.cmp, Ty.depth, Go.SE.look, reduceCtorEq, Nat.reduceAdd, Nat.reduceSub, Nat.reduceMul, Nat.reduceEqDiff, Nat.reduceLT, Nat.reduceLeDiff, Nat.reduceMod, Nat.reduceDiv, Nat.reducePow, Nat.reduceBEq, Int.reduceToNat, Int.reduceLE, Int.reduceLT, Int.reduceEq, Int.reduceAdd, Int.reduceMul, Int.reduceSub, Int.reduceNeg, Int.reduceNe, Tryd.TS, Tryd.ev_g0, Tryd.ev1_g0, Tryd.ev_g1, Tryd.ev1_g1, rep4]
  refine add64 _ _ _ ha1 hb1 m0 (fun s1 c1 e1 l1 m1 => ?_)
  simp -dsimp -implicitDefEqProofs (disch := omega) only [↓gpre, ↓bldS, ↓bld, ↓reduceIte, ↓gmore, gpost, gall, keepT, den, del, upd, dels, refs, hasTy, sArgs, aRefs, rvs, nodupB, memB, app, pTm, Ty.bytes, kbytes, Ty.zeroD, Ty.size, Ty.cmp, Ty.depth, Go.SE.look, reduceCtorEq, Nat.reduceAdd, Nat.reduceSub, Nat.reduceMul, Nat.reduceEqDiff, Nat.reduceLT, Nat.reduceLeDiff, Nat.reduceMod, Nat.reduceDiv, Nat.reducePow, Nat.reduceBEq, Int.reduceToNat, Int.reduceLE, Int.reduceLT, Int.reduceEq, Int.reduceAdd, Int.reduceMul, Int.reduceSub, Int.reduceNeg, Int.reduceNe, Tryd.TS, Tryd.ev_g0, Tryd.ev1_g0, Tryd.ev_g1, Tryd.ev1_g1, rep4]
  refine sunroll Tryd.hT ?_; simp -dsimp -implicitDefEqProofs (disch := omega) only [↓gpre, ↓bldS, ↓bld, ↓reduceIte, ↓gmore, gpost, gall, keepT, den, del, upd, dels, refs, hasTy, sArgs, aRefs, rvs, nodupB, memB, app, pTm, Ty.bytes, kbytes, Ty.zeroD, Ty.size, Ty.cmp, Ty.depth, Go.SE.look, reduceCtorEq, Nat.reduceAdd, Nat.reduceSub, Nat.reduceMul, Nat.reduceEqDiff, Nat.reduceLT, Nat.reduceLeDiff, Nat.reduceMod, Nat.reduceDiv, Nat.reducePow, Nat.reduceBEq, Int.reduceToNat, Int.reduceLE, Int.reduceLT, Int.reduceEq, Int.reduceAdd, Int.reduceMul, Int.reduceSub, Int.reduceNeg, Int.reduceNe, Tryd.TS, Tryd.ev_g0, Tryd.ev1_g0, Tryd.ev_g1, Tryd.ev1_g1, rep4]
  refine sdraw Tryd.hT (by kernel_rfl) [13] [0, 1, 2, 3, 4, 5, 6, 7, 8, 9, 10, 11, 12, 13, 14] (by kernel_rfl) (by kernel_rfl) (by kernel_rfl) ?_; simp only [pickO, List.getElem?_toArray, List.getElem?_cons_zero, List.getElem?_cons_succ]
  simp -dsimp -implicitDefEqProofs (disch := omega) only [↓gpre, ↓bldS, ↓bld, ↓reduceIte, ↓gmore, gpost, gall, keepT, den, del, upd, dels, refs, hasTy, sArgs, aRefs, rvs, nodupB, memB, app, pTm, Ty.bytes, kbytes, Ty.zeroD, Ty.size, Ty.cmp, Ty.depth, Go.SE.look, reduceCtorEq, Nat.reduceAdd, Nat.reduceSub, Nat.reduceMul, Nat.reduceEqDiff, Nat.reduceLT, Nat.reduceLeDiff, Nat.reduceMod, Nat.reduceDiv, Nat.reducePow, Nat.reduceBEq, Int.reduceToNat, Int.reduceLE, Int.reduceLT, Int.reduceEq, Int.reduceAdd, Int.reduceMul, Int.reduceSub, Int.reduceNeg, Int.reduceNe, Tryd.TS, Tryd.ev_g0, Tryd.ev1_g0, Tryd.ev_g1, Tryd.ev1_g1, rep4]
  refine add64 _ _ _ ha2 hb2 m1 (fun s2 c2 e2 l2 m2 => ?_)
  simp -dsimp -implicitDefEqProofs (disch := omega) only [↓gpre, ↓bldS, ↓bld, ↓reduceIte, ↓gmore, gpost, gall, keepT, den, del, upd, dels, refs, hasTy, sArgs, aRefs, rvs, nodupB, memB, app, pTm, Ty.bytes, kbytes, Ty.zeroD, Ty.size, Ty.cmp, Ty.depth, Go.SE.look, reduceCtorEq, Nat.reduceAdd, Nat.reduceSub, Nat.reduceMul, Nat.reduceEqDiff, Nat.reduceLT, Nat.reduceLeDiff, Nat.reduceMod, Nat.reduceDiv, Nat.reducePow, Nat.reduceBEq, Int.reduceToNat, Int.reduceLE, Int.reduceLT, Int.reduceEq, Int.reduceAdd, Int.reduceMul, Int.reduceSub, Int.reduceNeg, Int.reduceNe, Tryd.TS, Tryd.ev_g0, Tryd.ev1_g0, Tryd.ev_g1, Tryd.ev1_g1, rep4]
  refine sunroll Tryd.hT ?_; simp -dsimp -implicitDefEqProofs (disch := omega) only [↓gpre, ↓bldS, ↓bld, ↓reduceIte, ↓gmore, gpost, gall, keepT, den, del, upd, dels, refs, hasTy, sArgs, aRefs, rvs, nodupB, memB, app, pTm, Ty.bytes, kbytes, Ty.zeroD, Ty.size, Ty.cmp, Ty.depth, Go.SE.look, reduceCtorEq, Nat.reduceAdd, Nat.reduceSub, Nat.reduceMul, Nat.reduceEqDiff, Nat.reduceLT, Nat.reduceLeDiff, Nat.reduceMod, Nat.reduceDiv, Nat.reducePow, Nat.reduceBEq, Int.reduceToNat, Int.reduceLE, Int.reduceLT, Int.reduceEq, Int.reduceAdd, Int.reduceMul, Int.reduceSub, Int.reduceNeg, Int.reduceNe, Tryd.TS, Tryd.ev_g0, Tryd.ev1_g0, Tryd.ev_g1, Tryd.ev1_g1, rep4]
  refine sdraw Tryd.hT (by kernel_rfl) [13] [0, 1, 2, 3, 4, 5, 6, 7, 8, 9, 10, 11, 12, 13, 14] (by kernel_rfl) (by kernel_rfl) (by kernel_rfl) ?_; simp only [pickO, List.getElem?_toArray, List.getElem?_cons_zero, List.getElem?_cons_succ]
  simp -dsimp -implicitDefEqProofs (disch := omega) only [↓gpre, ↓bldS, ↓bld, ↓reduceIte, ↓gmore, gpost, gall, keepT, den, del, upd, dels, refs, hasTy, sArgs, aRefs, rvs, nodupB, memB, app, pTm, Ty.bytes, kbytes, Ty.zeroD, Ty.size, Ty.cmp, Ty.depth, Go.SE.look, reduceCtorEq, Nat.reduceAdd, Nat.reduceSub, Nat.reduceMul, Nat.reduceEqDiff, Nat.reduceLT, Nat.reduceLeDiff, Nat.reduceMod, Nat.reduceDiv, Nat.reducePow, Nat.reduceBEq, Int.reduceToNat, Int.reduceLE, Int.reduceLT, Int.reduceEq, Int.reduceAdd, Int.reduceMul, Int.reduceSub, Int.reduceNeg, Int.reduceNe, Tryd.TS, Tryd.ev_g0, Tryd.ev1_g0, Tryd.ev_g1, Tryd.ev1_g1, rep4]
  refine add64 _ _ _ ha3 hb3 m2 (fun s3 c3 e3 l3 m3 => ?_)
  simp -dsimp -implicitDefEqProofs (disch := omega) only [↓gpre, ↓bldS, ↓bld, ↓reduceIte, ↓gmore, gpost, gall, keepT, den, del, upd, dels, refs, hasTy, sArgs, aRefs, rvs, nodupB, memB, app, pTm, Ty.bytes, kbytes, Ty.zeroD, Ty.size, Ty.cmp, Ty.depth, Go.SE.look, reduceCtorEq, Nat.reduceAdd, Nat.reduceSub, Nat.reduceMul, Nat.reduceEqDiff, Nat.reduceLT, Nat.reduceLeDiff, Nat.reduceMod, Nat.reduceDiv, Nat.reducePow, Nat.reduceBEq, Int.reduceToNat, Int.reduceLE, Int.reduceLT, Int.reduceEq, Int.reduceAdd, Int.reduceMul, Int.reduceSub, Int.reduceNeg, Int.reduceNe, Tryd.TS, Tryd.ev_g0, Tryd.ev1_g0, Tryd.ev_g1, Tryd.ev1_g1, rep4]
  refine sunroll Tryd.hT ?_; simp -dsimp -implicitDefEqProofs (disch := omega) only [↓gpre, ↓bldS, ↓bld, ↓reduceIte, ↓gmore, gpost, gall, keepT, den, del, upd, dels, refs, hasTy, sArgs, aRefs, rvs, nodupB, memB, app, pTm, Ty.bytes, kbytes, Ty.zeroD, Ty.size, Ty.cmp, Ty.depth, Go.SE.look, reduceCtorEq, Nat.reduceAdd, Nat.reduceSub, Nat.reduceMul, Nat.reduceEqDiff, Nat.reduceLT, Nat.reduceLeDiff, Nat.reduceMod, Nat.reduceDiv, Nat.reducePow, Nat.reduceBEq, Int.reduceToNat, Int.reduceLE, Int.reduceLT, Int.reduceEq, Int.reduceAdd, Int.reduceMul, Int.reduceSub, Int.reduceNeg, Int.reduceNe, Tryd.TS, Tryd.ev_g0, Tryd.ev1_g0, Tryd.ev_g1, Tryd.ev1_g1, rep4]
  have hb : (!decide ((c3 : Int) = 0)) = decide (115792089237316195423570985008687907853269984665640564039457584007913129639936 ≤ m + n) := by rw [← decide_not]; exact decide_eq_decide.2 (by omega)
  rw [u256_mk l0 l1 l2 l3 (n := (m + n) % 115792089237316195423570985008687907853269984665640564039457584007913129639936) (by omega), hb]
end Go.Proofs
/- Numbers of 256 bits: sums, differences, comparisons. -/
namespace Go.Proofs
open Go.SE

set_option maxHeartbeats 400000 in
theorem wsub (m n : Nat) (hm : m < 115792089237316195423570985008687907853269984665640564039457584007913129639936) (hn : n < 115792089237316195423570985008687907853269984665640564039457584007913129639936) :
    SCall Tryd.prog 106 [(.arr 4 (.int .u64), u256 m), (.arr 4 (.int .u64), u256 n)] (fun rs => rs = [.d (.arr 4 (.int .u64)) (u256 ((m + 115792089237316195423570985008687907853269984665640564039457584007913129639936 - n) % 115792089237316195423570985008687907853269984665640564039457584007913129639936)), .d .bool (.b (decide (m < n)))]) := by
  obtain ⟨a0, a1, a2, a3, ha0, ha1, ha2, ha3, em, eu⟩ := u256_open m hm
  obtain ⟨b0, b1, b2, b3, hb0, hb1, hb2, hb3, en, ev⟩ := u256_open n hn
  rw [eu, ev]
  refine scall_intro (n := 29) (rl := [.cell 4 45, .tmp 5]) (us := [45, 4]) Tryd.hT Tryd.func106 rfl rfl rfl rfl rfl (Nat.le_of_ble_eq_true rfl) ?_
  intro w0
  simp -dsimp -implicitDefEqProofs (disch := omega) only [↓gpre, ↓bldS, ↓bld, ↓reduceIte, ↓gmore, gpost, gall, keepT, den, del, upd, dels, refs, hasTy, sArgs, aRefs, rvs, nodupB, memB, app, pTm, Ty.bytes, kbytes, Ty.zeroD, Ty.size, Ty.cmp, Ty.depth, Go.SE.look, reduceCtorEq, Nat.reduceAdd, Nat.reduceSub, Nat.reduceMul, Nat.reduceEqDiff, Nat.reduceLT, Nat.reduceLeDiff, Nat.reduceMod, Nat.reduceDiv, Nat.reducePow, Nat.reduceBEq, Int.reduceToNat, Int.reduceLE, Int.reduceLT, Int.reduceEq, Int.reduceAdd, Int.reduceMul, Int.reduceSub, Int.reduceNeg, Int.reduceNe, Tryd.TS, Tryd.ev_g0, Tryd.ev1_g0, Tryd.ev_g1, Tryd.ev1_g1, rep4]
  refine sunroll Tryd.hT ?_; simp -dsimp -implicitDefEqProofs (disch := omega) only [↓gpre, ↓bldS, ↓bld, ↓reduceIte, ↓gmore, gpost, gall, keepT, den, del, upd, dels, refs, hasTy, sArgs, aRefs, rvs, nodupB, memB, app, pTm, Ty.bytes, kbytes, Ty.zeroD, Ty.size, Ty.cmp, Ty.depth, Go.SE.look, reduceCtorEq, Nat.reduceAdd, Nat.reduceSub, Nat.reduceMul, Nat.reduceEqDiff, Nat.reduceLT, Nat.reduceLeDiff, Nat.reduceMod, Nat.reduceDiv, Nat.reducePow, Nat.reduceBEq, Int.reduceToNat, Int.reduceLE, Int.reduceLT, Int.reduceEq, Int.reduceAdd, Int.reduceMul, Int.reduceSub, Int.reduceNeg, Int.reduceNe, Tryd.TS, Tryd.ev_g0, Tryd.ev1_g0, Tryd.ev_g1, Tryd.ev1_g1, rep4]
  refine sdraw Tryd.hT (by kernel_rfl) [13] [0, 1, 2, 3, 4, 5, 6, 7, 8, 9, 10, 11, 12, 13, 14] (by kernel_rfl) (by kernel_rfl) (by kernel_rfl) ?_; simp only [pickO, List.getElem?_toArray, List.getElem?_cons_zero, List.getElem?_cons_succ]
  simp -dsimp -implicitDefEqProofs (disch := omega) only [↓gpre, ↓bldS, ↓bld, ↓reduceIte, ↓gmore, gpost, gall, keepT, den, del, upd, dels, refs, hasTy, sArgs, aRefs, rvs, nodupB, memB, app, pTm, Ty.bytes, kbytes, Ty.zeroD, Ty.size, Ty.cmp, Ty.depth, Go.SE.look, reduceCtorEq, Nat.reduceAdd, Nat.reduceSub, Nat.reduceMul, Nat.reduceEqDiff, Nat.reduceLT, Nat.reduceLeDiff, Nat.reduceMod, Nat.reduceDiv, Nat.reducePow, Nat.reduceBEq, Int.reduceToNat, Int.reduceLE, Int.reduceLT, Int.reduceEq, Int.reduceAdd, Int.reduceMul, Int.reduceSub, Int.reduceNeg, Int.reduceNe, Tryd.TS, Tryd.ev_g0, Tryd.ev1_g0, Tryd.ev_g1, Tryd.ev1_g1, rep4]
  refine sub64 _ _ 0 ha0 hb0 (by omega) (fun s0 c0 e0 l0 m0 => ?_)
  simp -dsimp -implicitDefEqProofs (disch := omega) only [↓gpre, ↓bldS, ↓bld, ↓reduceIte, ↓gmore, gpost, gall, keepT, den, del, upd, dels, refs, hasTy, sArgs, aRefs, rvs, nodupB, memB, app, pTm, Ty.bytes, kbytes, Ty.zeroD, Ty.size, Ty.cmp, Ty.depth, Go.SE.look, reduceCtorEq, Nat.reduceAdd, Nat.reduceSub, Nat.reduceMul, Nat.reduceEqDiff, Nat.reduceLT, Nat.reduceLeDiff, Nat.reduceMod, Nat.reduceDiv, Nat.reducePow, Nat.reduceBEq, Int.reduceToNat, Int.reduceLE, Int.reduceLT, Int.reduceEq, Int.reduceAdd, Int.reduceMul, Int.reduceSub, Int.reduceNeg, Int.reduceNe, Tryd.TS, Tryd.ev_g0, Tryd.ev1_g0, Tryd.ev_g1, Tryd.ev1_g1, rep4]
  refine sunroll Tryd.hT ?_; simp -dsimp -implicitDefEqProofs (disch := omega) only [↓gpre, ↓bldS, ↓bld, ↓reduceIte, ↓gmore, gpost, gall, keepT, den, del, upd, dels, refs, hasTy, sArgs, aRefs, rvs, nodupB, memB, app, pTm, Ty.bytes, kbytes, Ty.zeroD, Ty.size, Ty.cmp, Ty.depth, Go.SE.look, reduceCtorEq, Nat.reduceAdd, Nat.reduceSub, Nat.reduceMul, Nat.reduceEqDiff, Nat.reduceLT, Nat.reduceLeDiff, Nat.reduceMod, Nat.reduceDiv, Nat.reducePow, Nat.reduceBEq, Int.reduceToNat, Int.reduceLE, Int.reduceLT, Int.reduceEq, Int.reduceAdd, Int.reduceMul, Int.reduceSub, Int.reduceNeg, Int.reduceNe, Tryd.TS, Tryd.ev_g0, Tryd.ev1_g0, Tryd.ev_g1, Tryd.ev1_g1, rep4]
  refine sdraw Tryd.hT (by kernel_rfl) [13] [0, 1, 2, 3, 4, 5, 6, 7, 8, 9, 10, 11, 12, 13, 14] (by kernel_rfl) (by kernel_rfl) (by kernel_rfl) ?_; simp only [pickO, List.getElem?_toArray, List.getElem?_cons_zero, List.getElem?_cons_succ]
  simp -dsimp -implicitDefEqProofs (disch := omega) only [↓gpre, ↓bldS, ↓bld, ↓reduceIte, ↓gmore, gpost, gall, keepT, den, del, upd, dels, refs, hasTy, sArgs, aRefs, rvs, nodupB, memB, app, pTm, Ty.bytes, kbytes, Ty.zeroD, Ty.size, Ty.cmp, Ty.depth, Go.SE.look, reduceCtorEq, Nat.reduceAdd, Nat.reduceSub, Nat.reduceMul, Nat.reduceEqDiff, Nat.reduceLT, Nat.reduceLeDiff, Nat.reduceMod, Nat.reduceDiv, Nat.reducePow, Nat.reduceBEq, Int.reduceToNat, Int.reduceLE, Int.reduceLT, Int.reduceEq, Int.reduceAdd, Int.reduceMul, Int.reduceSub, Int.reduceNeg, Int.reduceNe, Tryd.TS, Tryd.ev_g0, Tryd.ev1_g0, Tryd.ev_g1, Tryd.ev1_g1, rep4]
  refine sub64 _ _ _ ha1 hb1 m0 (fun s1 c1 e1 l1 m1 => ?_)
  simp -dsimp -implicitDefEqProofs (disch := omega) only [↓gpre, ↓bldS, ↓bld, ↓reduceIte, ↓gmore, gpost, gall, keepT, den, del, upd, dels, refs, hasTy, sArgs, aRefs, rvs, nodupB, memB, app, pTm, Ty.bytes, kbytes, Ty.zeroD, Ty.size, Ty.cmp, Ty.depth, Go.SE.look, reduceCtorEq, Nat.reduceAdd, Nat.reduceSub, Nat.reduceMul, Nat.reduceEqDiff, Nat.reduceLT, Nat.reduceLeDiff, Nat.reduceMod, Nat.reduceDiv, Nat.reducePow, Nat.reduceBEq, Int.reduceToNat, Int.reduceLE, Int.reduceLT, Int.reduceEq, Int.reduceAdd, Int.reduceMul, Int.reduceSub, Int.reduceNeg, Int.reduceNe, Tryd.TS, Tryd.ev_g0, Tryd.ev1_g0, Tryd.ev_g1, Tryd.ev1_g1, rep4]
  refine sunroll Tryd.hT ?_; simp -dsimp -implicitDefEqProofs (disch := omega) only [↓gpre, ↓bldS, ↓bld, ↓reduceIte, ↓gmore, gpost, gall, keepT, den, del, upd, dels, refs, hasTy, sArgs, aRefs, rvs, nodupB, memB, app, pTm, Ty.bytes, kbytes, Ty.zeroD, Ty.size, Ty.cmp, Ty.depth, Go.SE.look, reduceCtorEq, Nat.reduceAdd, Nat.reduceSub, Nat.reduceMul, Nat.reduceEqDiff, Nat.reduceLT, Nat.reduceLeDiff, Nat.reduceMod, Nat.reduceDiv, Nat.reducePow, Nat.reduceBEq, Int.reduceToNat, Int.reduceLE, Int.reduceLT, Int.reduceEq, Int.reduceAdd, Int.reduceMul, Int.reduceSub, Int.reduceNeg, Int.reduceNe, Tryd.TS, Tryd.ev_g0, Tryd.ev1_g0, Tryd.ev_g1, Tryd.ev1_g1, rep4]
  refine sdraw Tryd.hT (by kernel_rfl) [13] [0, 1, 2, 3, 4, 5, 6, 7, 8, 9, 10, 11, 12, 13, 14] (by kernel_rfl) (by kernel_rfl) (by kernel_rfl) ?_; simp only [pickO, List.getElem?_toArray, List.getElem?_cons_zero, List.getElem?_cons_succ]
  simp -dsimp -implicitDefEqProofs (disch := omega) only [↓gpre, ↓bldS, ↓bld, ↓reduceIte, ↓gmore, gpost, gall, keepT, den, del, upd, dels, refs, hasTy, sArgs, aRefs, rvs, nodupB, memB, app, pTm, Ty.bytes, kbytes, Ty.zeroD, Ty.size, Ty.cmp, Ty.depth, Go.SE.look, reduceCtorEq, Nat.reduceAdd, Nat.reduceSub, Nat.reduceMul, Nat.reduceEqDiff, Nat.reduceLT, Nat.reduceLeDiff, Nat.reduceMod, Nat.reduceDiv, Nat.reducePow, Nat.reduceBEq, Int.reduceToNat, Int.reduceLE, Int.reduceLT, Int.reduceEq, Int.reduceAdd, Int.reduceMul, Int.reduceSub, Int.reduceNeg, Int.reduceNe, Tryd.TS, Tryd.ev_g0, Tryd.ev1_g0, Tryd.ev_g1, Tryd.ev1_g1, rep4]
  refine sub64 _ _ _ ha2 hb2 m1 (fun s2 c2 e2 l2 m2 => ?_)
  simp -dsimp -implicitDefEqProofs (disch := omega) only [↓gpre, ↓bldS, ↓bld, ↓reduceIte, ↓gmore, gpost, gall, keepT, den, del, upd, dels, refs, hasTy, sArgs, aRefs, rvs, nodupB, memB, app, pTm, Ty.bytes, kbytes, Ty.zeroD, Ty.size, Ty.cmp, Ty.depth, Go.SE.look, reduceCtorEq, Nat.reduceAdd, Nat.reduceSub, Nat.reduceMul, Nat.reduceEqDiff, Nat.reduceLT, Nat.reduceLeDiff, Nat.reduceMod, Nat.reduceDiv, Nat.reducePow, Nat.reduceBEq, Int.reduceToNat, Int.reduceLE, Int.reduceLT, Int.reduceEq, Int.reduceAdd, Int.reduceMul, Int.reduceSub, Int.reduceNeg, Int.reduceNe, Tryd.TS, Tryd.ev_g0, Tryd.ev1_g0, Tryd.ev_g1, Tryd.ev1_g1, rep4]
  refine sunroll Tryd.hT ?_; simp -dsimp -implicitDefEqProofs (disch := omega) only [↓gpre, ↓bldS, ↓bld, ↓reduceIte, ↓gmore, gpost, gall, keepT, den, del, upd, dels, refs, hasTy, sArgs, aRefs, rvs, nodupB, memB, app, pTm, Ty.bytes, kbytes, Ty.zeroD, Ty.size, Ty.cmp, Ty.depth, Go.SE.look, reduceCtorEq, Nat.reduceAdd, Nat.reduceSub, Nat.reduceMul, Nat.reduceEqDiff, Nat.reduceLT, Nat.reduceLeDiff, Nat.reduceMod, Nat.reduceDiv, Nat.reducePow, Nat.reduceBEq, Int.reduceToNat, Int.reduceLE, Int.reduceLT, Int.reduceEq, Int.reduceAdd, Int.reduceMul, Int.reduceSub, Int.reduceNeg, Int.reduceNe, Tryd.TS, Tryd.ev_g0, Tryd.ev1_g0, Tryd.ev_g1, Tryd.ev1_g1, rep4]
  refine sdraw Tryd.hT (by kernel_rfl) [13] [0, 1, 2, 3, 4, 5, 6, 7, 8, 9, 10, 11, 12, 13, 14] (by kernel_rfl) (by kernel_rfl) (by kernel_rfl) ?_; simp only [pickO, List.getElem?_toArray, List.getElem?_cons_zero, List.getElem?_cons_succ]
  simp -dsimp -implicitDefEqProofs (disch := omega) only [↓gpre, ↓bldS, ↓bld, ↓reduceIte, ↓gmore, gpost, gall, keepT, den, del, upd, dels, refs, hasTy, sArgs, aRefs, rvs, nodupB, memB, app, pTm, Ty.bytes, kbytes, Ty.zeroD, Ty.size, Ty.cmp, Ty.depth, Go.SE.look, reduceCtorEq, Nat.reduceAdd, Nat.reduceSub, Nat.reduceMul, Nat.reduceEqDiff, Nat.reduceLT, Nat.reduceLeDiff, Nat.reduceMod, Nat.reduceDiv, Nat.reducePow, Nat.reduceBEq, Int.reduceToNat, Int.reduceLE, Int.reduceLT, Int.reduceEq, Int.reduceAdd, Int.reduceMul, Int.reduceSub, Int.reduceNeg, Int.reduceNe, Tryd.TS, Tryd.ev_g0, Tryd.ev1_g0, Tryd.ev_g1, Tryd.ev1_g1, rep4]
  refine sub64 _ _ _ ha3 hb3 m2 (fun s3 c3 e3 l3 m3 => ?_)
  simp -dsimp -implicitDefEqProofs (disch := omega) only [↓gpre, ↓bldS, ↓bld, ↓reduceIte, ↓gmore, gpost, gall, keepT, den, del, upd, dels, refs, hasTy, sArgs, aRefs, rvs, nodupB, memB, app, pTm, Ty.bytes, kbytes, Ty.zeroD, Ty.size, Ty.cmp, Ty.depth, Go.SE.look, reduceCtorEq, Nat.reduceAdd, Nat.reduceSub, Nat.reduceMul, Nat.reduceEqDiff, Nat.reduceLT, Nat.reduceLeDiff, Nat.reduceMod, Nat.reduceDiv, Nat.reducePow, Nat.reduceBEq, Int.reduceToNat, Int.reduceLE, Int.reduceLT, Int.reduceEq, Int.reduceAdd, Int.reduceMul, Int.reduceSub, Int.reduceNeg, Int.reduceNe, Tryd.TS, Tryd.ev_g0, Tryd.ev1_g0, Tryd.ev_g1, Tryd.ev1_g1, rep4]
  refine sunroll Tryd.hT ?_; simp -dsimp -implicitDefEqProofs (disch := omega) only [↓gpre, ↓bldS, ↓bld, ↓reduceIte, ↓gmore, gpost, gall, keepT, den, del, upd, dels, refs, hasTy, sArgs, aRefs, rvs, nodupB, memB, app, pTm, Ty.bytes, kbytes, Ty.zeroD, Ty.size, Ty.cmp, Ty.depth, Go.SE.look, reduceCtorEq, Nat.reduceAdd, Nat.reduceSub, Nat.reduceMul, Nat.reduceEqDiff, Nat.reduceLT, Nat.reduceLeDiff, Nat.reduceMod, Nat.reduceDiv, Nat.reducePow, Nat.reduceBEq, Int.reduceToNat, Int.reduceLE, Int.reduceLT, Int.reduceEq, Int.reduceAdd, Int.reduceMul, Int.reduceSub, Int.reduceNeg, Int.reduceNe, Tryd.TS, Tryd.ev_g0, Tryd.ev1_g0, Tryd.ev_g1, Tryd.ev1_g1, rep4]
  have hs : s0 + 18446744073709551616 * s1 + 340282366920938463463374607431768211456 * s2 + 6277101735386680763835789423207666416102355444464034512896 * s3 + n = m + 115792089237316195423570985008687907853269984665640564039457584007913129639936 * c3 := by omega
  have hS : s0 + 18446744073709551616 * s1 + 340282366920938463463374607431768211456 * s2 + 6277101735386680763835789423207666416102355444464034512896 * s3 < 115792089237316195423570985008687907853269984665640564039457584007913129639936 := by omega
  rw [u256_mk l0 l1 l2 l3 rfl]
  generalize s0 + 18446744073709551616 * s1 + 340282366920938463463374607431768211456 * s2 + 6277101735386680763835789423207666416102355444464034512896 * s3 = S at hs hS
  clear e0 e1 e2 e3 em en eu ev
  obtain rfl | rfl : c3 = 0 ∨ c3 = 1 := by omega
  · rw [show (m + 115792089237316195423570985008687907853269984665640564039457584007913129639936 - n) % 115792089237316195423570985008687907853269984665640564039457584007913129639936 = S by omega]
    simp only [show ¬ m < n by omega]
    rfl
  · rw [show (m + 115792089237316195423570985008687907853269984665640564039457584007913129639936 - n) % 115792089237316195423570985008687907853269984665640564039457584007913129639936 = S by omega]
    simp only [show m < n by omega]
    rfl

set_option maxHeartbeats 400000 in
theorem waddRef (m n : Nat) (hm : m < 115792089237316195423570985008687907853269984665640564039457584007913129639936) (hn : n < 115792089237316195423570985008687907853269984665640564039457584007913129639936) :
    SCall Tryd.prog 80 [(.arr 4 (.int .u64), u256 m), (.arr 4 (.int .u64), u256 n)] (fun rs => rs = [.d (.arr 4 (.int .u64)) (u256 ((m + n) % 115792089237316195423570985008687907853269984665640564039457584007913129639936)), .d .bool (.b (decide (115792089237316195423570985008687907853269984665640564039457584007913129639936 ≤ m + n)))]) := by
  obtain ⟨a0, a1, a2, a3, ha0, ha1, ha2, ha3, em, eu⟩ := u256_open m hm
  obtain ⟨b0, b1, b2, b3, hb0, hb1, hb2, hb3, en, ev⟩ := u256_open n hn
  rw [eu, ev]
  refine scall_intro (n := 29) (rl := [.cell 4 45, .tmp 5]) (us := [45, 4]) Tryd.hT Tryd.func80 rfl rfl rfl rfl rfl (Nat.le_of_ble_eq_true rfl) ?_
  intro w0
  simp -dsimp -implicitDefEqProofs (disch := omega) only [↓gpre, ↓bldS, ↓bld, ↓reduceIte, ↓gmore, gpost, gall, keepT, den, del, upd, dels, refs, hasTy, sArgs, aRefs, rvs, nodupB, memB, app, pTm, Ty.bytes, kbytes, Ty.zeroD, Ty.size, Ty.cmp, Ty.depth, Go.SE.look, reduceCtorEq, Nat.reduceAdd, Nat.reduceSub, Nat.reduceMul, Nat.reduceEqDiff, Nat.reduceLT, Nat.reduceLeDiff, Nat.reduceMod, Nat.reduceDiv, Nat.reducePow, Nat.reduceBEq, Int.reduceToNat, Int.reduceLE, Int.reduceLT, Int.reduceEq, Int.reduceAdd, Int.reduceMul, Int.reduceSub, Int.reduceNeg, Int.reduceNe, Tryd.TS, Tryd.ev_g0, Tryd.ev1_g0, Tryd.ev_g1, Tryd.ev1_g1, rep4]
  refine sunroll Tryd.hT ?_; simp -dsimp -implicitDefEqProofs (disch := omega) only [↓gpre, ↓bldS, ↓bld, ↓reduceIte, ↓gmore, gpost, gall, keepT, den, del, upd, dels, refs, hasTy, sArgs, aRefs, rvs, nodupB, memB, app, pTm, Ty.bytes, kbytes, Ty.zeroD, Ty.size, Ty.cmp, Ty.depth, Go.SE.look, reduceCtorEq, Nat.reduceAdd, Nat.reduceSub, Nat.reduceMul, Nat.reduceEqDiff, Nat.reduceLT, Nat.reduceLeDiff, Nat.reduceMod, Nat.reduceDiv, Nat.reducePow, Nat.reduceBEq, Int.reduceToNat, Int.reduceLE, Int.reduceLT, Int.reduceEq, Int.reduceAdd, Int.reduceMul, Int.reduceSub, Int.reduceNeg, Int.reduceNe, Tryd.TS, Tryd.ev_g0, Tryd.ev1_g0, Tryd.ev_g1, Tryd.ev1_g1, rep4]
  refine sdraw Tryd.hT (by kernel_rfl) [13] [0, 1, 2, 3, 4, 5, 6, 7, 8, 9, 10, 11, 12, 13, 14] (by kernel_rfl) (by kernel_rfl) (by kernel_rfl) ?_; simp only [pickO, List.getElem?_toArray, List.getElem?_cons_zero, List.getElem?_cons_succ]
  simp -dsimp -implicitDefEqProofs (disch := omega) only [↓gpre, ↓bldS, ↓bld, ↓reduceIte, ↓gmore, gpost, gall, keepT, den, del, upd, dels, refs, hasTy, sArgs, aRefs, rvs, nodupB, memB, app, pTm, Ty.bytes, kbytes, Ty.zeroD, Ty.size, Ty.cmp, Ty.depth, Go.SE.look, reduceCtorEq, Nat.reduceAdd, Nat.reduceSub, Nat.reduceMul, Nat.reduceEqDiff, Nat.reduceLT, Nat.reduceLeDiff, Nat.reduceMod, Nat.reduceDiv, Nat.reducePow, Nat.reduceBEq, Int.reduceToNat, Int.reduceLE, Int.reduceLT, Int.reduceEq, Int.reduceAdd, Int.reduceMul, Int.reduceSub, Int.reduceNeg, Int.reduceNe, Tryd.TS, Tryd.ev_g0, Tryd.ev1_g0, Tryd.ev_g1, Tryd.ev1_g1, rep4]
  refine add64 _ _ 0 ha0 hb0 (by omega) (fun s0 c0 e0 l0 m0 => ?_)
  simp -dsimp -implicitDefEqProofs (disch := omega) only [↓gpre, ↓bldS, ↓bld, ↓reduceIte, ↓gmore, gpost, gall, keepT, den, del, upd, dels, refs, hasTy, sArgs, aRefs, rvs, nodupB, memB, app, pTm, Ty.bytes, kbytes, Ty.zeroD, Ty.size, Ty.cmp, Ty.depth, Go.SE.look, reduceCtorEq, Nat.reduceAdd, Nat.reduceSub, Nat.reduceMul, Nat.reduceEqDiff, Nat.reduceLT, Nat.reduceLeDiff, Nat.reduceMod, Nat.reduceDiv, Nat.reducePow, Nat.reduceBEq, Int.reduceToNat, Int.reduceLE, Int.reduceLT, Int.reduceEq, Int.reduceAdd, Int.reduceMul, Int.reduceSub, Int.reduceNeg, Int.reduceNe, Tryd.TS, Tryd.ev_g0, Tryd.ev1_g0, Tryd.ev_g1, Tryd.ev1_g1, rep4]
  refine sunroll Tryd.hT ?_; simp -dsimp -implicitDefEqProofs (disch := omega) only [↓gpre, ↓bldS, ↓bld, ↓reduceIte, ↓gmore, gpost, gall, keepT, den, del, upd, dels, refs, hasTy, sArgs, aRefs, rvs, nodupB, memB, app, pTm, Ty.bytes, kbytes, Ty.zeroD, Ty.size, Ty.cmp, Ty.depth, Go.SE.look, reduceCtorEq, Nat.reduceAdd, Nat.reduceSub, Nat.reduceMul, Nat.reduceEqDiff, Nat.reduceLT, Nat.reduceLeDiff, Nat.reduceMod, Nat.reduceDiv, Nat.reducePow, Nat.reduceBEq, Int.reduceToNat, Int.reduceLE, Int.reduceLT, Int.reduceEq, Int.reduceAdd, Int.reduceMul, Int.reduceSub, Int.reduceNeg, Int.reduceNe, Tryd.TS, Tryd.ev_g0, Tryd.ev1_g0, Tryd.ev_g1, Tryd.ev1_g1, rep4]
  refine sdraw Tryd.hT (by kernel_rfl) [13] [0, 1, 2, 3, 4, 5, 6, 7, 8, 9, 10, 11, 12, 13, 14] (by kernel_rfl) (by kernel_rfl) (by kernel_rfl) ?_; simp only [pickO, List.getElem?_toArray, List.getElem?_cons_zero, List.getElem?_cons_succ]
  simp -dsimp -implicitDefEqProofs (disch := omega) only [↓gpre, ↓bldS, ↓bld, ↓reduceIte, ↓gmore, gpost, gall, keepT, den, del, upd, dels, refs, hasTy, sArgs, aRefs, rvs, nodupB, memB, app, pTm, Ty.bytes, kbytes, Ty.zeroD, Ty.size, Ty.cmp, Ty.depth, Go.SE.look, reduceCtorEq, Nat.reduceAdd, Nat.reduceSub, Nat.reduceMul, Nat.reduceEqDiff, Nat.reduceLT, Nat.reduceLeDiff, Nat.reduceMod, Nat.reduceDiv, Nat.reducePow, Nat.reduceBEq, Int.reduceToNat, Int.reduceLE, Int.reduceLT, Int.reduceEq, Int.reduceAdd, Int.reduceMul, Int.reduceSub, Int.reduceNeg, Int.reduceNe, Tryd.TS, Tryd.ev_g0, Tryd.ev1_g0, Tryd.ev_g1, Tryd.ev1_g1, rep4]
  refine add64 _ _ _ ha1 hb1 m0 (fun s1 c1 e1 l1 m1 => ?_)
  simp -dsimp -implicitDefEqProofs (disch := omega) only [↓gpre, ↓bldS, ↓bld, ↓reduceIte, ↓gmore, gpost, gall, keepT, den, del, upd, dels, refs, hasTy, sArgs, aRefs, rvs, nodupB, memB, app, pTm, Ty.bytes, kbytes, Ty.zeroD, Ty.size, Ty.cmp, Ty.depth, Go.SE.look, reduceCtorEq, Nat.reduceAdd, Nat.reduceSub, Nat.reduceMul, Nat.reduceEqDiff, Nat.reduceLT, Nat.reduceLeDiff, Nat.reduceMod, Nat.reduceDiv, Nat.reducePow, Nat.reduceBEq, Int.reduceToNat, Int.reduceLE, Int.reduceLT, Int.reduceEq, Int.reduceAdd, Int.reduceMul, Int.reduceSub, Int.reduceNeg, Int.reduceNe, Tryd.TS, Tryd.ev_g0, Tryd.ev1_g0, Tryd.ev_g1, Tryd.ev1_g1, rep4]
  refine sunroll Tryd.hT ?_; simp -dsimp -implicitDefEqProofs (disch := omega) only [↓gpre, ↓bldS, ↓bld, ↓reduceIte, ↓gmore, gpost, gall, keepT, den, del, upd, dels, refs, hasTy, sArgs, aRefs, rvs, nodupB, memB, app, pTm, Ty.bytes, kbytes, Ty.zeroD, Ty.size, Ty.cmp, Ty.depth, Go.SE.look, reduceCtorEq, Nat.reduceAdd, Nat.reduceSub, Nat.reduceMul, Nat.reduceEqDiff, Nat.reduceLT, Nat.reduceLeDiff, Nat.reduceMod, Nat.reduceDiv, Nat.reducePow, Nat.reduceBEq, Int.reduceToNat, Int.reduceLE, Int.reduceLT, Int.reduceEq, Int.reduceAdd, Int.reduceMul, Int.reduceSub, Int.reduceNeg, Int.reduceNe, Tryd.TS, Tryd.ev_g0, Tryd.ev1_g0, Tryd.ev_g1, Tryd.ev1_g1, rep4]
  refine sdraw Tryd.hT (by kernel_rfl) [13] [0, 1, 2, 3, 4, 5, 6, 7, 8, 9, 10, 11, 12, 13, 14] (by kernel_rfl) (by kernel_rfl) (by kernel_rfl) ?_; simp only [pickO, List.getElem?_toArray, List.getElem?_cons_zero, List.getElem?_cons_succ]
  simp -dsimp -implicitDefEqProofs (disch := omega) only [↓gpre, ↓bldS, ↓bld, ↓reduceIte, ↓gmore, gpost, gall, keepT, den, del, upd, dels, refs, hasTy, sArgs, aRefs, rvs, nodupB, memB, app, pTm, Ty.bytes, kbytes, Ty.zeroD, Ty.size, Ty.cmp, Ty.depth, Go.SE.look, reduceCtorEq, Nat.reduceAdd, Nat.reduceSub, Nat.reduceMul, Nat.reduceEqDiff, Nat.reduceLT, Nat.reduceLeDiff, Nat.reduceMod, Nat.reduceDiv, Nat.reducePow, Nat.reduceBEq, Int.reduceToNat, Int.reduceLE, Int.reduceLT, Int.reduceEq, Int.reduceAdd, Int.reduceMul, Int.reduceSub, Int.reduceNeg, Int.reduceNe, Tryd.TS, Tryd.ev_g0, Tryd.ev1_g0, Tryd.ev_g1, Tryd.ev1_g1, rep4]
  refine add64 _ _ _ ha2 hb2 m1 (fun s2 c2 e2 l2 m2 => ?_)
  simp -dsimp -implicitDefEqProofs (disch := omega) only [↓gpre, ↓bldS, ↓bld, ↓reduceIte, ↓gmore, gpost, gall, keepT, den, del, upd, dels, refs, hasTy, sArgs, aRefs, rvs, nodupB, memB, app, pTm, Ty.bytes, kbytes, Ty.zeroD, Ty.size, Ty.cmp, Ty.depth, Go.SE.look, reduceCtorEq, Nat.reduceAdd, Nat.reduceSub, Nat.reduceMul, Nat.reduceEqDiff, Nat.reduceLT, Nat.reduceLeDiff, Nat.reduceMod, Nat.reduceDiv, Nat.reducePow, Nat.reduceBEq, Int.reduceToNat, Int.reduceLE, Int.reduceLT, Int.reduceEq, Int.reduceAdd, Int.reduceMul, Int.reduceSub, Int.reduceNeg, Int.reduceNe, Tryd.TS, Tryd.ev_g0, Tryd.ev1_g0, Tryd.ev_g1, Tryd.ev1_g1, rep4]
  refine sunroll Tryd.hT ?_; simp -dsimp -implicitDefEqProofs (disch := omega) only [↓gpre, ↓bldS, ↓bld, ↓reduceIte, ↓gmore, gpost, gall, keepT, den, del, upd, dels, refs, hasTy, sArgs, aRefs, rvs, nodupB, memB, app, pTm, Ty.bytes, kbytes, Ty.zeroD, Ty.size, Ty.cmp, Ty.depth, Go.SE.look, reduceCtorEq, Nat.reduceAdd, Nat.reduceSub, Nat.reduceMul, Nat.reduceEqDiff, Nat.reduceLT, Nat.reduceLeDiff, Nat.reduceMod, Nat.reduceDiv, Nat.reducePow, Nat.reduceBEq, Int.reduceToNat, Int.reduceLE, Int.reduceLT, Int.reduceEq, Int.reduceAdd, Int.reduceMul, Int.reduceSub, Int.reduceNeg, Int.reduceNe, Tryd.TS, Tryd.ev_g0, Tryd.ev1_g0, Tryd.ev_g1, Tryd.ev1_g1, rep4]
  refine sdraw Tryd.hT (by kernel_rfl) [13] [0, 1, 2, 3, 4, 5, 6, 7, 8, 9, 10, 11, 12, 13, 14] (by kernel_rfl) (by kernel_rfl) (by kernel_rfl) ?_; simp only [pickO, List.getElem?_toArray, List.getElem?_cons_zero, List.getElem?_cons_succ]
  simp -dsimp -implicitDefEqProofs (disch := omega) only [↓gpre, ↓bldS, ↓bld, ↓reduceIte, ↓gmore, gpost, gall, keepT, den, del, upd, dels, refs, hasTy, sArgs, aRefs, rvs, nodupB, memB, app, pTm, Ty.bytes, kbytes, Ty.zeroD, Ty.size, Ty.cmp, Ty.depth, Go.SE.look, reduceCtorEq, Nat.reduceAdd, Nat.reduceSub, Nat.reduceMul, Nat.reduceEqDiff, Nat.reduceLT, Nat.reduceLeDiff, Nat.reduceMod, Nat.reduceDiv, Nat.reducePow, Nat.reduceBEq, Int.reduceToNat, Int.reduceLE, Int.reduceLT, Int.reduceEq, Int.reduceAdd, Int.reduceMul, Int.reduceSub, Int.reduceNeg, Int.reduceNe, Tryd.TS, Tryd.ev_g0, Tryd.ev1_g0, Tryd.ev_g1, Tryd.ev1_g1, rep4]
  refine add64 _ _ _ ha3 hb3 m2 (fun s3 c3 e3 l3 m3 => ?_)
  simp -dsimp -implicitDefEqProofs (disch := omega) only [↓gpre, ↓bldS, ↓bld, ↓reduceIte, ↓gmore, gpost, gall, keepT, den, del, upd, dels, refs, hasTy, sArgs, aRefs, rvs, nodupB, memB, app, pTm, Ty.bytes, kbytes, Ty.zeroD, Ty.size, Ty.cmp, Ty.depth, Go.SE.look, reduceCtorEq, Nat.reduceAdd, Nat.reduceSub, Nat.reduceMul, Nat.reduceEqDiff, Nat.reduceLT, Nat.reduceLeDiff, Nat.reduceMod, Nat.reduceDiv, Nat.reducePow, Nat.reduceBEq, Int.reduceToNat, Int.reduceLE, Int.reduceLT, Int.reduceEq, Int.reduceAdd, Int.reduceMul, Int.reduceSub, Int.reduceNeg, Int.reduceNe, Tryd.TS, Tryd.ev_g0, Tryd.ev1_g0, Tryd.ev_g1, Tryd.ev1_g1, rep4]
  refine sunroll Tryd.hT ?_; simp -dsimp -implicitDefEqProofs (disch := omega) only [↓gpre, ↓bldS, ↓bld, ↓reduceIte, ↓gmore, gpost, gall, keepT, den, del, upd, dels, refs, hasTy, sArgs, aRefs, rvs, nodupB, memB, app, pTm, Ty.bytes, kbytes, Ty.zeroD, Ty.size, Ty.cmp, Ty.depth, Go.SE.look, reduceCtorEq, Nat.reduceAdd, Nat.reduceSub, Nat.reduceMul, Nat.reduceEqDiff, Nat.reduceLT, Nat.reduceLeDiff, Nat.reduceMod, Nat.reduceDiv, Nat.reducePow, Nat.reduceBEq, Int.reduceToNat, Int.reduceLE, Int.reduceLT, Int.reduceEq, Int.reduceAdd, Int.reduceMul, Int.reduceSub, Int.reduceNeg, Int.reduceNe, Tryd.TS, Tryd.ev_g0, Tryd.ev1_g0, Tryd.ev_g1, Tryd.ev1_g1, rep4]
  have hb : (decide ((c3 : Int) = 1)) = decide (115792089237316195423570985008687907853269984665640564039457584007913129639936 ≤ m + n) := by first | exact decide_eq_decide.2 (by omega) | (rw [← decide_not]; exact decide_eq_decide.2 (by omega))
  rw [u256_mk l0 l1 l2 l3 (n := (m + n) % 115792089237316195423570985008687907853269984665640564039457584007913129639936) (by omega), hb]

set_option maxHeartbeats 400000 in
theorem wsubRef (m n : Nat) (hm : m < 115792089237316195423570985008687907853269984665640564039457584007913129639936) (hn : n < 115792089237316195423570985008687907853269984665640564039457584007913129639936) :
    SCall Tryd.prog 82 [(.arr 4 (.int .u64), u256 m), (.arr 4 (.int .u64), u256 n)] (fun rs => rs = [.d (.arr 4 (.int .u64)) (u256 ((m + 115792089237316195423570985008687907853269984665640564039457584007913129639936 - n) % 115792089237316195423570985008687907853269984665640564039457584007913129639936)), .d .bool (.b (decide (m < n)))]) := by
  obtain ⟨a0, a1, a2, a3, ha0, ha1, ha2, ha3, em, eu⟩ := u256_open m hm
  obtain ⟨b0, b1, b2, b3, hb0, hb1, hb2, hb3, en, ev⟩ := u256_open n hn
  rw [eu, ev]
  refine scall_intro (n := 29) (rl := [.cell 4 45, .tmp 5]) (us := [45, 4]) Tryd.hT Tryd.func82 rfl rfl rfl rfl rfl (Nat.le_of_ble_eq_true rfl) ?_
  intro w0
  simp -dsimp -implicitDefEqProofs (disch := omega) only [↓gpre, ↓bldS, ↓bld, ↓reduceIte, ↓gmore, gpost, gall, keepT, den, del, upd, dels, refs, hasTy, sArgs, aRefs, rvs, nodupB, memB, app, pTm, Ty.bytes, kbytes, Ty.zeroD, Ty.size, Ty.cmp, Ty.depth, Go.SE.look, reduceCtorEq, Nat.reduceAdd, Nat.reduceSub, Nat.reduceMul, Nat.reduceEqDiff, Nat.reduceLT, Nat.reduceLeDiff, Nat.reduceMod, Nat.reduceDiv, Nat.reducePow, Nat.reduceBEq, Int.reduceToNat, Int.reduceLE, Int.reduceLT, Int.reduceEq, Int.reduceAdd, Int.reduceMul, Int.reduceSub, Int.reduceNeg, Int.reduceNe, Tryd.TS, Tryd.ev_g0, Tryd.ev1_g0, Tryd.ev_g1, Tryd.ev1_g1, rep4]
  refine sunroll Tryd.hT ?_; simp -dsimp -implicitDefEqProofs (disch := omega) only [↓gpre, ↓bldS, ↓bld, ↓reduceIte, ↓gmore, gpost, gall, keepT, den, del, upd, dels, refs, hasTy, sArgs, aRefs, rvs, nodupB, memB, app, pTm, Ty.bytes, kbytes, Ty.zeroD, Ty.size, Ty.cmp, Ty.depth, Go.SE.look, reduceCtorEq, Nat.reduceAdd, Nat.reduceSub, Nat.reduceMul, Nat.reduceEqDiff, Nat.reduceLT, Nat.reduceLeDiff, Nat.reduceMod, Nat.reduceDiv, Nat.reducePow, Nat.reduceBEq, Int.reduceToNat, Int.reduceLE, Int.reduceLT, Int.reduceEq, Int.reduceAdd, Int.reduceMul, Int.reduceSub, Int.reduceNeg, Int.reduceNe, Tryd.TS, Tryd.ev_g0, Tryd.ev1_g0, Tryd.ev_g1, Tryd.ev1_g1, rep4]
  refine sdraw Tryd.hT (by kernel_rfl) [13] [0, 1, 2, 3, 4, 5, 6, 7, 8, 9, 10, 11, 12, 13, 14] (by kernel_rfl) (by kernel_rfl) (by kernel_rfl) ?_; simp only [pickO, List.getElem?_toArray, List.getElem?_cons_zero, List.getElem?_cons_succ]
  simp -dsimp -implicitDefEqProofs (disch := omega) only [↓gpre, ↓bldS, ↓bld, ↓reduceIte, ↓gmore, gpost, gall, keepT, den, del, upd, dels, refs, hasTy, sArgs, aRefs, rvs, nodupB, memB, app, pTm, Ty.bytes, kbytes, Ty.zeroD, Ty.size, Ty.cmp, Ty.depth, Go.SE.look, reduceCtorEq, Nat.reduceAdd, Nat.reduceSub, Nat.reduceMul, Nat.reduceEqDiff, Nat.reduceLT, Nat.reduceLeDiff, Nat.reduceMod, Nat.reduceDiv, Nat.reducePow, Nat.reduceBEq, Int.reduceToNat, Int.reduceLE, Int.reduceLT, Int.reduceEq, Int.reduceAdd, Int.reduceMul, Int.reduceSub, Int.reduceNeg, Int.reduceNe, Tryd.TS, Tryd.ev_g0, Tryd.ev1_g0, Tryd.ev_g1, Tryd.ev1_g1, rep4]
  refine sub64 _ _ 0 ha0 hb0 (by omega) (fun s0 c0 e0 l0 m0 => ?_)
  simp -dsimp -implicitDefEqProofs (disch := omega) only [↓gpre, ↓bldS, ↓bld, ↓reduceIte, ↓gmore, gpost, gall, keepT, den, del, upd, dels, refs, hasTy, sArgs, aRefs, rvs, nodupB, memB, app, pTm, Ty.bytes, kbytes, Ty.zeroD, Ty.size, Ty.cmp, Ty.depth, Go.SE.look, reduceCtorEq, Nat.reduceAdd, Nat.reduceSub, Nat.reduceMul, Nat.reduceEqDiff, Nat.reduceLT, Nat.reduceLeDiff, Nat.reduceMod, Nat.reduceDiv, Nat.reducePow, Nat.reduceBEq, Int.reduceToNat, Int.reduceLE, Int.reduceLT, Int.reduceEq, Int.reduceAdd, Int.reduceMul, Int.reduceSub, Int.reduceNeg, Int.reduceNe, Tryd.TS, Tryd.ev_g0, Tryd.ev1_g0, Tryd.ev_g1, Tryd.ev1_g1, rep4]
  refine sunroll Tryd.hT ?_; simp -dsimp -implicitDefEqProofs (disch := omega) only [↓gpre, ↓bldS, ↓bld, ↓reduceIte, ↓gmore, gpost, gall, keepT, den, del, upd, dels, refs, hasTy, sArgs, aRefs, rvs, nodupB, memB, app, pTm, Ty.bytes, kbytes, Ty.zeroD, Ty.size, Ty.cmp, Ty.depth, Go.SE.look, reduceCtorEq, Nat.reduceAdd, Nat.reduceSub, Nat.reduceMul, Nat.reduceEqDiff, Nat.reduceLT, Nat.reduceLeDiff, Nat.reduceMod, Nat.reduceDiv, Nat.reducePow, Nat.reduceBEq, Int.reduceToNat, Int.reduceLE, Int.reduceLT, Int.reduceEq, Int.reduceAdd, Int.reduceMul, Int.reduceSub, Int.reduceNeg, Int.reduceNe, Tryd.TS, Tryd.ev_g0, Tryd.ev1_g0, Tryd.ev_g1, Tryd.ev1_g1, rep4]
  refine sdraw Tryd.hT (by kernel_rfl) [13] [0, 1, 2, 3, 4, 5, 6, 7, 8, 9, 10, 11, 12, 13, 14] (by kernel_rfl) (by kernel_rfl) (by kernel_rfl) ?_; simp only [pickO, List.getElem?_toArray, List.getElem?_cons_zero, List.getElem?_cons_succ]
  simp -dsimp -implicitDefEqProofs (disch := omega) only [↓gpre, ↓bldS, ↓bld, ↓reduceIte, ↓gmore, gpost, gall, keepT, den, del, upd, dels, refs, hasTy, sArgs, aRefs, rvs, nodupB, memB, app, pTm, Ty.bytes, kbytes, Ty.zeroD, Ty.size, Ty.cmp, Ty.depth, Go.SE.look, reduceCtorEq, Nat.reduceAdd, Nat.reduceSub, Nat.reduceMul, Nat.reduceEqDiff, Nat.reduceLT, Nat.reduceLeDiff, Nat.reduceMod, Nat.reduceDiv, Nat.reducePow, Nat.reduceBEq, Int.reduceToNat, Int.reduceLE, Int.reduceLT, Int.reduceEq, Int.reduceAdd, Int.reduceMul, Int.reduceSub, Int.reduceNeg, Int.reduceNe, Tryd.TS, Tryd.ev_g0, Tryd.ev1_g0, Tryd.ev_g1, Tryd.ev1_g1, rep4]
  refine sub64 _ _ _ ha1 hb1 m0 (fun s1 c1 e1 l1 m1 => ?_)
  simp -dsimp -implicitDefEqProofs (disch := omega) only [↓gpre, ↓bldS, ↓bld, ↓reduceIte, ↓gmore, gpost, gall, keepT, den, del, upd, dels, refs, hasTy, sArgs, aRefs, rvs, nodupB, memB, app, pTm, Ty.bytes, kbytes, Ty.zeroD, Ty.size, Ty.cmp, Ty.depth, Go.SE.look, reduceCtorEq, Nat.reduceAdd, Nat.reduceSub, Nat.reduceMul, Nat.reduceEqDiff, Nat.reduceLT, Nat.reduceLeDiff, Nat.reduceMod, Nat.reduceDiv, Nat.reducePow, Nat.reduceBEq, Int.reduceToNat, Int.reduceLE, Int.reduceLT, Int.reduceEq, Int.reduceAdd, Int.reduceMul, Int.reduceSub, Int.reduceNeg, Int.reduceNe, Tryd.TS, Tryd.ev_g0, Tryd.ev1_g0, Tryd.ev_g1, Tryd.ev1_g1, rep4]
  refine sunroll Tryd.hT ?_; simp -dsimp -implicitDefEqProofs (disch := omega) only [↓gpre, ↓bldS, ↓bld, ↓reduceIte, ↓gmore, gpost, gall, keepT, den, del, upd, dels, refs, hasTy, sArgs, aRefs, rvs, nodupB, memB, app, pTm, Ty.bytes, kbytes, Ty.zeroD, Ty.size, Ty.cmp, Ty.depth, Go.SE.look, reduceCtorEq, Nat.reduceAdd, Nat.reduceSub, Nat.reduceMul, Nat.reduceEqDiff, Nat.reduceLT, Nat.reduceLeDiff, Nat.reduceMod, Nat.reduceDiv, Nat.reducePow, Nat.reduceBEq, Int.reduceToNat, Int.reduceLE, Int.reduceLT, Int.reduceEq, Int.reduceAdd, Int.reduceMul, Int.reduceSub, Int.reduceNeg, Int.reduceNe, Tryd.TS, Tryd.ev_g0, Tryd.ev1_g0, Tryd.ev_g1, Tryd.ev1_g1, rep4]
  refine sdraw Tryd.hT (by kernel_rfl) [13] [0, 1, 2, 3, 4, 5, 6, 7, 8, 9, 10, 11, 12, 13, 14] (by kernel_rfl) (by kernel_rfl) (by kernel_rfl) ?_; simp only [pickO, List.getElem?_toArray, List.getElem?_cons_zero, List.getElem?_cons_succ]
  simp -dsimp -implicitDefEqProofs (disch := omega) only [↓gpre, ↓bldS, ↓bld, ↓reduceIte, ↓gmore, gpost, gall, keepT, den, del, upd, dels, refs, hasTy, sArgs, aRefs, rvs, nodupB, memB, app, pTm, Ty.bytes, kbytes, Ty.zeroD, Ty.size, Ty.cmp, Ty.depth, Go.SE.look, reduceCtorEq, Nat.reduceAdd, Nat.reduceSub, Nat.reduceMul, Nat.reduceEqDiff, Nat.reduceLT, Nat.reduceLeDiff, Nat.reduceMod, Nat.reduceDiv, Nat.reducePow, Nat.reduceBEq, Int.reduceToNat, Int.reduceLE, Int.reduceLT, Int.reduceEq, Int.reduceAdd, Int.reduceMul, Int.reduceSub, Int.reduceNeg, Int.reduceNe, Tryd.TS, Tryd.ev_g0, Tryd.ev1_g0, Tryd.ev_g1, Tryd.ev1_g1, rep4]
  refine sub64 _ _ _ ha2 hb2 m1 (fun s2 c2 e2 l2 m2 => ?_)
  simp -dsimp -implicitDefEqProofs (disch := omega) only [↓gpre, ↓bldS, ↓bld, ↓reduceIte, ↓gmore, gpost, gall, keepT, den, del, upd, dels, refs, hasTy, sArgs, aRefs, rvs, nodupB, memB, app, pTm, Ty.bytes, kbytes, Ty.zeroD, Ty.size, Ty.cmp, Ty.depth, Go.SE.look, reduceCtorEq, Nat.reduceAdd, Nat.reduceSub, Nat.reduceMul, Nat.reduceEqDiff, Nat.reduceLT, Nat.reduceLeDiff, Nat.reduceMod, Nat.reduceDiv, Nat.reducePow, Nat.reduceBEq, Int.reduceToNat, Int.reduceLE, Int.reduceLT, Int.reduceEq, Int.reduceAdd, Int.reduceMul, Int.reduceSub, Int.reduceNeg, Int.reduceNe, Tryd.TS, Tryd.ev_g0, Tryd.ev1_g0, Tryd.ev_g1, Tryd.ev1_g1, rep4]
  refine sunroll Tryd.hT ?_; simp -dsimp -implicitDefEqProofs (disch := omega) only [↓gpre, ↓bldS, ↓bld, ↓reduceIte, ↓gmore, gpost, gall, keepT, den, del, upd, dels, refs, hasTy, sArgs, aRefs, rvs, nodupB, memB, app, pTm, Ty.bytes, kbytes, Ty.zeroD, Ty.size, Ty.cmp, Ty.depth, Go.SE.look, reduceCtorEq, Nat.reduceAdd, Nat.reduceSub, Nat.reduceMul, Nat.reduceEqDiff, Nat.reduceLT, Nat.reduceLeDiff, Nat.reduceMod, Nat.reduceDiv, Nat.reducePow, Nat.reduceBEq, Int.reduceToNat, Int.reduceLE, Int.reduceLT, Int.reduceEq, Int.reduceAdd, Int.reduceMul, Int.reduceSub, Int.reduceNeg, Int.reduceNe, Tryd.TS, Tryd.ev_g0, Tryd.ev1_g0, Tryd.ev_g1, Tryd.ev1_g1, rep4]
  refine sdraw Tryd.hT (by kernel_rfl) [13] [0, 1, 2, 3, 4, 5, 6, 7, 8, 9, 10, 11, 12, 13, 14] (by kernel_rfl) (by kernel_rfl) (by kernel_rfl) ?_; simp only [pickO, List.getElem?_toArray, List.getElem?_cons_zero, List.getElem?_cons_succ]
  simp -dsimp -implicitDefEqProofs (disch := omega) only [↓gpre, ↓bldS, ↓bld, ↓reduceIte, ↓gmore, gpost, gall, keepT, den, del, upd, dels, refs, hasTy, sArgs, aRefs, rvs, nodupB, memB, app, pTm, Ty.bytes, kbytes, Ty.zeroD, Ty.size, Ty.cmp, Ty.depth, Go.SE.look, reduceCtorEq, Nat.reduceAdd, Nat.reduceSub, Nat.reduceMul, Nat.reduceEqDiff, Nat.reduceLT, Nat.reduceLeDiff, Nat.reduceMod, Nat.reduceDiv, Nat.reducePow, Nat.reduceBEq, Int.reduceToNat, Int.reduceLE, Int.reduceLT, Int.reduceEq, Int.reduceAdd, Int.reduceMul, Int.reduceSub, Int.reduceNeg, Int.reduceNe, Tryd.TS, Tryd.ev_g0, Tryd.ev1_g0, Tryd.ev_g1, Tryd.ev1_g1, rep4]
  refine sub64 _ _ _ ha3 hb3 m2 (fun s3 c3 e3 l3 m3 => ?_)
  simp -dsimp -implicitDefEqProofs (disch := omega) only [↓gpre, ↓bldS, ↓bld, ↓reduceIte, ↓gmore, gpost, gall, keepT, den, del, upd, dels, refs, hasTy, sArgs, aRefs, rvs, nodupB, memB, app, pTm, Ty.bytes, kbytes, Ty.zeroD, Ty.size, Ty.cmp, Ty.depth, Go.SE.look, reduceCtorEq, Nat.reduceAdd, Nat.reduceSub, Nat.reduceMul, Nat.reduceEqDiff, Nat.reduceLT, Nat.reduceLeDiff, Nat.reduceMod, Nat.reduceDiv, Nat.reducePow, Nat.reduceBEq, Int.reduceToNat, Int.reduceLE, Int.reduceLT, Int.reduceEq, Int.reduceAdd, Int.reduceMul, Int.reduceSub, Int.reduceNeg, Int.reduceNe, Tryd.TS, Tryd.ev_g0, Tryd.ev1_g0, Tryd.ev_g1, Tryd.ev1_g1, rep4]
  refine sunroll Tryd.hT ?_; simp -dsimp -implicitDefEqProofs (disch := omega) only [↓gpre, ↓bldS, ↓bld, ↓reduceIte, ↓gmore, gpost, gall, keepT, den, del, upd, dels, refs, hasTy, sArgs, aRefs, rvs, nodupB, memB, app, pTm, Ty.bytes, kbytes, Ty.zeroD, Ty.size, Ty.cmp, Ty.depth, Go.SE.look, reduceCtorEq, Nat.reduceAdd, Nat.reduceSub, Nat.reduceMul, Nat.reduceEqDiff, Nat.reduceLT, Nat.reduceLeDiff, Nat.reduceMod, Nat.reduceDiv, Nat.reducePow, Nat.reduceBEq, Int.reduceToNat, Int.reduceLE, Int.reduceLT, Int.reduceEq, Int.reduceAdd, Int.reduceMul, Int.reduceSub, Int.reduceNeg, Int.reduceNe, Tryd.TS, Tryd.ev_g0, Tryd.ev1_g0, Tryd.ev_g1, Tryd.ev1_g1, rep4]
  have hs : s0 + 18446744073709551616 * s1 + 340282366920938463463374607431768211456 * s2 + 6277101735386680763835789423207666416102355444464034512896 * s3 + n = m + 115792089237316195423570985008687907853269984665640564039457584007913129639936 * c3 := by omega
  have hS : s0 + 18446744073709551616 * s1 + 340282366920938463463374607431768211456 * s2 + 6277101735386680763835789423207666416102355444464034512896 * s3 < 115792089237316195423570985008687907853269984665640564039457584007913129639936 := by omega
  rw [u256_mk l0 l1 l2 l3 rfl]
  generalize s0 + 18446744073709551616 * s1 + 340282366920938463463374607431768211456 * s2 + 6277101735386680763835789423207666416102355444464034512896 * s3 = S at hs hS
  clear e0 e1 e2 e3 em en eu ev
  obtain rfl | rfl : c3 = 0 ∨ c3 = 1 := by omega
  · rw [show (m + 115792089237316195423570985008687907853269984665640564039457584007913129639936 - n) % 115792089237316195423570985008687907853269984665640564039457584007913129639936 = S by omega]
    simp only [show ¬ m < n by omega]
    rfl
  · rw [show (m + 115792089237316195423570985008687907853269984665640564039457584007913129639936 - n) % 115792089237316195423570985008687907853269984665640564039457584007913129639936 = S by omega]
    simp only [show m < n by omega]
    rfl
end Go.Proofs
/- Numbers of 256 bits: sums, differences, comparisons. -/
namespace Go.Proofs
open Go.SE

set_option maxHeartbeats 400000 in
theorem wcmp (m n : Nat) (hm : m < 115792089237316195423570985008687907853269984665640564039457584007913129639936) (hn : n < 115792089237316195423570985008687907853269984665640564039457584007913129639936) :
    SCall Tryd.prog 75 [(.arr 4 (.int .u64), u256 m), (.arr 4 (.int .u64), u256 n)] (fun rs => rs = [.d (.int .i64) (.n (if m < n then -1 else if n < m then 1 else 0))]) := by
  obtain ⟨a0, a1, a2, a3, ha0, ha1, ha2, ha3, em, eu⟩ := u256_open m hm
  obtain ⟨b0, b1, b2, b3, hb0, hb1, hb2, hb3, en, ev⟩ := u256_open n hn
  rw [eu, ev]
  refine scall_intro (n := 26) (rl := [.tmp 4]) (us := [3]) Tryd.hT Tryd.func75 rfl rfl rfl rfl rfl (Nat.le_of_ble_eq_true rfl) ?_
  intro w0
  simp -dsimp -implicitDefEqProofs (disch := omega) only [↓gpre, ↓bldS, ↓bld, ↓reduceIte, ↓gmore, gpost, gall, keepT, den, del, upd, dels, refs, hasTy, sArgs, aRefs, rvs, nodupB, memB, app, pTm, Ty.bytes, kbytes, Ty.zeroD, Ty.size, Ty.cmp, Ty.depth, Go.SE.look, reduceCtorEq, Nat.reduceAdd, Nat.reduceSub, Nat.reduceMul, Nat.reduceEqDiff, Nat.reduceLT, Nat.reduceLeDiff, Nat.reduceMod, Nat.reduceDiv, Nat.reducePow, Nat.reduceBEq, Int.reduceToNat, Int.reduceLE, Int.reduceLT, Int.reduceEq, Int.reduceAdd, Int.reduceMul, Int.reduceSub, Int.reduceNeg, Int.reduceNe, Tryd.TS, Tryd.ev_g0, Tryd.ev1_g0, Tryd.ev_g1, Tryd.ev1_g1]
  refine sunroll Tryd.hT ?_; simp -dsimp -implicitDefEqProofs (disch := omega) only [↓gpre, ↓bldS, ↓bld, ↓reduceIte, ↓gmore, gpost, gall, keepT, den, del, upd, dels, refs, hasTy, sArgs, aRefs, rvs, nodupB, memB, app, pTm, Ty.bytes, kbytes, Ty.zeroD, Ty.size, Ty.cmp, Ty.depth, Go.SE.look, reduceCtorEq, Nat.reduceAdd, Nat.reduceSub, Nat.reduceMul, Nat.reduceEqDiff, Nat.reduceLT, Nat.reduceLeDiff, Nat.reduceMod, Nat.reduceDiv, Nat.reducePow, Nat.reduceBEq, Int.reduceToNat, Int.reduceLE, Int.reduceLT, Int.reduceEq, Int.reduceAdd, Int.reduceMul, Int.reduceSub, Int.reduceNeg, Int.reduceNe, Tryd.TS, Tryd.ev_g0, Tryd.ev1_g0, Tryd.ev_g1, Tryd.ev1_g1]
  refine sdraw Tryd.hT (by kernel_rfl) [] [0, 1, 2, 3, 4, 5, 6, 7] (by kernel_rfl) (by kernel_rfl) (by kernel_rfl) ?_; simp only [pickO, List.getElem?_toArray, List.getElem?_cons_zero, List.getElem?_cons_succ]
  simp -dsimp -implicitDefEqProofs (disch := omega) only [↓gpre, ↓bldS, ↓bld, ↓reduceIte, ↓gmore, gpost, gall, keepT, den, del, upd, dels, refs, hasTy, sArgs, aRefs, rvs, nodupB, memB, app, pTm, Ty.bytes, kbytes, Ty.zeroD, Ty.size, Ty.cmp, Ty.depth, Go.SE.look, reduceCtorEq, Nat.reduceAdd, Nat.reduceSub, Nat.reduceMul, Nat.reduceEqDiff, Nat.reduceLT, Nat.reduceLeDiff, Nat.reduceMod, Nat.reduceDiv, Nat.reducePow, Nat.reduceBEq, Int.reduceToNat, Int.reduceLE, Int.reduceLT, Int.reduceEq, Int.reduceAdd, Int.reduceMul, Int.reduceSub, Int.reduceNeg, Int.reduceNe, Tryd.TS, Tryd.ev_g0, Tryd.ev1_g0, Tryd.ev_g1, Tryd.ev1_g1]
  refine HIf_dec (fun h => ?_) (fun p0 => ?_)
  · simp -dsimp -implicitDefEqProofs (disch := omega) only [↓gpre, ↓bldS, ↓bld, ↓reduceIte, ↓gmore, gpost, gall, keepT, den, del, upd, dels, refs, hasTy, sArgs, aRefs, rvs, nodupB, memB, app, pTm, Ty.bytes, kbytes, Ty.zeroD, Ty.size, Ty.cmp, Ty.depth, Go.SE.look, reduceCtorEq, Nat.reduceAdd, Nat.reduceSub, Nat.reduceMul, Nat.reduceEqDiff, Nat.reduceLT, Nat.reduceLeDiff, Nat.reduceMod, Nat.reduceDiv, Nat.reducePow, Nat.reduceBEq, Int.reduceToNat, Int.reduceLE, Int.reduceLT, Int.reduceEq, Int.reduceAdd, Int.reduceMul, Int.reduceSub, Int.reduceNeg, Int.reduceNe, Tryd.TS, Tryd.ev_g0, Tryd.ev1_g0, Tryd.ev_g1, Tryd.ev1_g1]
    rw [if_pos (by omega)]
  simp -dsimp -implicitDefEqProofs (disch := omega) only [↓gpre, ↓bldS, ↓bld, ↓reduceIte, ↓gmore, gpost, gall, keepT, den, del, upd, dels, refs, hasTy, sArgs, aRefs, rvs, nodupB, memB, app, pTm, Ty.bytes, kbytes, Ty.zeroD, Ty.size, Ty.cmp, Ty.depth, Go.SE.look, reduceCtorEq, Nat.reduceAdd, Nat.reduceSub, Nat.reduceMul, Nat.reduceEqDiff, Nat.reduceLT, Nat.reduceLeDiff, Nat.reduceMod, Nat.reduceDiv, Nat.reducePow, Nat.reduceBEq, Int.reduceToNat, Int.reduceLE, Int.reduceLT, Int.reduceEq, Int.reduceAdd, Int.reduceMul, Int.reduceSub, Int.reduceNeg, Int.reduceNe, Tryd.TS, Tryd.ev_g0, Tryd.ev1_g0, Tryd.ev_g1, Tryd.ev1_g1]
  refine sdraw Tryd.hT (by kernel_rfl) [] [0, 1, 2, 3, 4, 5, 6, 7] (by kernel_rfl) (by kernel_rfl) (by kernel_rfl) ?_; simp only [pickO, List.getElem?_toArray, List.getElem?_cons_zero, List.getElem?_cons_succ]
  simp -dsimp -implicitDefEqProofs (disch := omega) only [↓gpre, ↓bldS, ↓bld, ↓reduceIte, ↓gmore, gpost, gall, keepT, den, del, upd, dels, refs, hasTy, sArgs, aRefs, rvs, nodupB, memB, app, pTm, Ty.bytes, kbytes, Ty.zeroD, Ty.size, Ty.cmp, Ty.depth, Go.SE.look, reduceCtorEq, Nat.reduceAdd, Nat.reduceSub, Nat.reduceMul, Nat.reduceEqDiff, Nat.reduceLT, Nat.reduceLeDiff, Nat.reduceMod, Nat.reduceDiv, Nat.reducePow, Nat.reduceBEq, Int.reduceToNat, Int.reduceLE, Int.reduceLT, Int.reduceEq, Int.reduceAdd, Int.reduceMul, Int.reduceSub, Int.reduceNeg, Int.reduceNe, Tryd.TS, Tryd.ev_g0, Tryd.ev1_g0, Tryd.ev_g1, Tryd.ev1_g1]
  refine HIf_dec (fun h => ?_) (fun q0 => ?_)
  · simp -dsimp -implicitDefEqProofs (disch := omega) only [↓gpre, ↓bldS, ↓bld, ↓reduceIte, ↓gmore, gpost, gall, keepT, den, del, upd, dels, refs, hasTy, sArgs, aRefs, rvs, nodupB, memB, app, pTm, Ty.bytes, kbytes, Ty.zeroD, Ty.size, Ty.cmp, Ty.depth, Go.SE.look, reduceCtorEq, Nat.reduceAdd, Nat.reduceSub, Nat.reduceMul, Nat.reduceEqDiff, Nat.reduceLT, Nat.reduceLeDiff, Nat.reduceMod, Nat.reduceDiv, Nat.reducePow, Nat.reduceBEq, Int.reduceToNat, Int.reduceLE, Int.reduceLT, Int.reduceEq, Int.reduceAdd, Int.reduceMul, Int.reduceSub, Int.reduceNeg, Int.reduceNe, Tryd.TS, Tryd.ev_g0, Tryd.ev1_g0, Tryd.ev_g1, Tryd.ev1_g1]
    rw [if_neg (by omega), if_pos (by omega)]
  simp -dsimp -implicitDefEqProofs (disch := omega) only [↓gpre, ↓bldS, ↓bld, ↓reduceIte, ↓gmore, gpost, gall, keepT, den, del, upd, dels, refs, hasTy, sArgs, aRefs, rvs, nodupB, memB, app, pTm, Ty.bytes, kbytes, Ty.zeroD, Ty.size, Ty.cmp, Ty.depth, Go.SE.look, reduceCtorEq, Nat.reduceAdd, Nat.reduceSub, Nat.reduceMul, Nat.reduceEqDiff, Nat.reduceLT, Nat.reduceLeDiff, Nat.reduceMod, Nat.reduceDiv, Nat.reducePow, Nat.reduceBEq, Int.reduceToNat, Int.reduceLE, Int.reduceLT, Int.reduceEq, Int.reduceAdd, Int.reduceMul, Int.reduceSub, Int.reduceNeg, Int.reduceNe, Tryd.TS, Tryd.ev_g0, Tryd.ev1_g0, Tryd.ev_g1, Tryd.ev1_g1]
  refine sunroll Tryd.hT ?_; simp -dsimp -implicitDefEqProofs (disch := omega) only [↓gpre, ↓bldS, ↓bld, ↓reduceIte, ↓gmore, gpost, gall, keepT, den, del, upd, dels, refs, hasTy, sArgs, aRefs, rvs, nodupB, memB, app, pTm, Ty.bytes, kbytes, Ty.zeroD, Ty.size, Ty.cmp, Ty.depth, Go.SE.look, reduceCtorEq, Nat.reduceAdd, Nat.reduceSub, Nat.reduceMul, Nat.reduceEqDiff, Nat.reduceLT, Nat.reduceLeDiff, Nat.reduceMod, Nat.reduceDiv, Nat.reducePow, Nat.reduceBEq, Int.reduceToNat, Int.reduceLE, Int.reduceLT, Int.reduceEq, Int.reduceAdd, Int.reduceMul, Int.reduceSub, Int.reduceNeg, Int.reduceNe, Tryd.TS, Tryd.ev_g0, Tryd.ev1_g0, Tryd.ev_g1, Tryd.ev1_g1]
  refine sdraw Tryd.hT (by kernel_rfl) [] [0, 1, 2, 3, 4, 5, 6, 7] (by kernel_rfl) (by kernel_rfl) (by kernel_rfl) ?_; simp only [pickO, List.getElem?_toArray, List.getElem?_cons_zero, List.getElem?_cons_succ]
  simp -dsimp -implicitDefEqProofs (disch := omega) only [↓gpre, ↓bldS, ↓bld, ↓reduceIte, ↓gmore, gpost, gall, keepT, den, del, upd, dels, refs, hasTy, sArgs, aRefs, rvs, nodupB, memB, app, pTm, Ty.bytes, kbytes, Ty.zeroD, Ty.size, Ty.cmp, Ty.depth, Go.SE.look, reduceCtorEq, Nat.reduceAdd, Nat.reduceSub, Nat.reduceMul, Nat.reduceEqDiff, Nat.reduceLT, Nat.reduceLeDiff, Nat.reduceMod, Nat.reduceDiv, Nat.reducePow, Nat.reduceBEq, Int.reduceToNat, Int.reduceLE, Int.reduceLT, Int.reduceEq, Int.reduceAdd, Int.reduceMul, Int.reduceSub, Int.reduceNeg, Int.reduceNe, Tryd.TS, Tryd.ev_g0, Tryd.ev1_g0, Tryd.ev_g1, Tryd.ev1_g1]
  refine HIf_dec (fun h => ?_) (fun p1 => ?_)
  · simp -dsimp -implicitDefEqProofs (disch := omega) only [↓gpre, ↓bldS, ↓bld, ↓reduceIte, ↓gmore, gpost, gall, keepT, den, del, upd, dels, refs, hasTy, sArgs, aRefs, rvs, nodupB, memB, app, pTm, Ty.bytes, kbytes, Ty.zeroD, Ty.size, Ty.cmp, Ty.depth, Go.SE.look, reduceCtorEq, Nat.reduceAdd, Nat.reduceSub, Nat.reduceMul, Nat.reduceEqDiff, Nat.reduceLT, Nat.reduceLeDiff, Nat.reduceMod, Nat.reduceDiv, Nat.reducePow, Nat.reduceBEq, Int.reduceToNat, Int.reduceLE, Int.reduceLT, Int.reduceEq, Int.reduceAdd, Int.reduceMul, Int.reduceSub, Int.reduceNeg, Int.reduceNe, Tryd.TS, Tryd.ev_g0, Tryd.ev1_g0, Tryd.ev_g1, Tryd.ev1_g1]
    rw [if_pos (by omega)]
  simp -dsimp -implicitDefEqProofs (disch := omega) only [↓gpre, ↓bldS, ↓bld, ↓reduceIte, ↓gmore, gpost, gall, keepT, den, del, upd, dels, refs, hasTy, sArgs, aRefs, rvs, nodupB, memB, app, pTm, Ty.bytes, kbytes, Ty.zeroD, Ty.size, Ty.cmp, Ty.depth, Go.SE.look, reduceCtorEq, Nat.reduceAdd, Nat.reduceSub, Nat.reduceMul, Nat.reduceEqDiff, Nat.reduceLT, Nat.reduceLeDiff, Nat.reduceMod, Nat.reduceDiv, Nat.reducePow, Nat.reduceBEq, Int.reduceToNat, Int.reduceLE, Int.reduceLT, Int.reduceEq, Int.reduceAdd, Int.reduceMul, Int.reduceSub, Int.reduceNeg, Int.reduceNe, Tryd.TS, Tryd.ev_g0, Tryd.ev1_g0, Tryd.ev_g1, Tryd.ev1_g1]
  refine sdraw Tryd.hT (by kernel_rfl) [] [0, 1, 2, 3, 4, 5, 6, 7] (by kernel_rfl) (by kernel_rfl) (by kernel_rfl) ?_; simp only [pickO, List.getElem?_toArray, List.getElem?_cons_zero, List.getElem?_cons_succ]
  simp -dsimp -implicitDefEqProofs (disch := omega) only [↓gpre, ↓bldS, ↓bld, ↓reduceIte, ↓gmore, gpost, gall, keepT, den, del, upd, dels, refs, hasTy, sArgs, aRefs, rvs, nodupB, memB, app, pTm, Ty.bytes, kbytes, Ty.zeroD, Ty.size, Ty.cmp, Ty.depth, Go.SE.look, reduceCtorEq, Nat.reduceAdd, Nat.reduceSub, Nat.reduceMul, Nat.reduceEqDiff, Nat.reduceLT, Nat.reduceLeDiff, Nat.reduceMod, Nat.reduceDiv, Nat.reducePow, Nat.reduceBEq, Int.reduceToNat, Int.reduceLE, Int.reduceLT, Int.reduceEq, Int.reduceAdd, Int.reduceMul, Int.reduceSub, Int.reduceNeg, Int.reduceNe, Tryd.TS, Tryd.ev_g0, Tryd.ev1_g0, Tryd.ev_g1, Tryd.ev1_g1]
  refine HIf_dec (fun h => ?_) (fun q1 => ?_)
  · simp -dsimp -implicitDefEqProofs (disch := omega) only [↓gpre, ↓bldS, ↓bld, ↓reduceIte, ↓gmore, gpost, gall, keepT, den, del, upd, dels, refs, hasTy, sArgs, aRefs, rvs, nodupB, memB, app, pTm, Ty.bytes, kbytes, Ty.zeroD, Ty.size, Ty.cmp, Ty.depth, Go.SE.look, reduceCtorEq, Nat.reduceAdd, Nat.reduceSub, Nat.reduceMul, Nat.reduceEqDiff, Nat.reduceLT, Nat.reduceLeDiff, Nat.reduceMod, Nat.reduceDiv, Nat.reducePow, Nat.reduceBEq, Int.reduceToNat, Int.reduceLE, Int.reduceLT, Int.reduceEq, Int.reduceAdd, Int.reduceMul, Int.reduceSub, Int.reduceNeg, Int.reduceNe, Tryd.TS, Tryd.ev_g0, Tryd.ev1_g0, Tryd.ev_g1, Tryd.ev1_g1]
    rw [if_neg (by omega), if_pos (by omega)]
  simp -dsimp -implicitDefEqProofs (disch := omega) only [↓gpre, ↓bldS, ↓bld, ↓reduceIte, ↓gmore, gpost, gall, keepT, den, del, upd, dels, refs, hasTy, sArgs, aRefs, rvs, nodupB, memB, app, pTm, Ty.bytes, kbytes, Ty.zeroD, Ty.size, Ty.cmp, Ty.depth, Go.SE.look, reduceCtorEq, Nat.reduceAdd, Nat.reduceSub, Nat.reduceMul, Nat.reduceEqDiff, Nat.reduceLT, Nat.reduceLeDiff, Nat.reduceMod, Nat.reduceDiv, Nat.reducePow, Nat.reduceBEq, Int.reduceToNat, Int.reduceLE, Int.reduceLT, Int.reduceEq, Int.reduceAdd, Int.reduceMul, Int.reduceSub, Int.reduceNeg, Int.reduceNe, Tryd.TS, Tryd.ev_g0, Tryd.ev1_g0, Tryd.ev_g1, Tryd.ev1_g1]
  refine sunroll Tryd.hT ?_; simp -dsimp -implicitDefEqProofs (disch := omega) only [↓gpre, ↓bldS, ↓bld, ↓reduceIte, ↓gmore, gpost, gall, keepT, den, del, upd, dels, refs, hasTy, sArgs, aRefs, rvs, nodupB, memB, app, pTm, Ty.bytes, kbytes, Ty.zeroD, Ty.size, Ty.cmp, Ty.depth, Go.SE.look, reduceCtorEq, Nat.reduceAdd, Nat.reduceSub, Nat.reduceMul, Nat.reduceEqDiff, Nat.reduceLT, Nat.reduceLeDiff, Nat.reduceMod, Nat.reduceDiv, Nat.reducePow, Nat.reduceBEq, Int.reduceToNat, Int.reduceLE, Int.reduceLT, Int.reduceEq, Int.reduceAdd, Int.reduceMul, Int.reduceSub, Int.reduceNeg, Int.reduceNe, Tryd.TS, Tryd.ev_g0, Tryd.ev1_g0, Tryd.ev_g1, Tryd.ev1_g1]
  refine sdraw Tryd.hT (by kernel_rfl) [] [0, 1, 2, 3, 4, 5, 6, 7] (by kernel_rfl) (by kernel_rfl) (by kernel_rfl) ?_; simp only [pickO, List.getElem?_toArray, List.getElem?_cons_zero, List.getElem?_cons_succ]
  simp -dsimp -implicitDefEqProofs (disch := omega) only [↓gpre, ↓bldS, ↓bld, ↓reduceIte, ↓gmore, gpost, gall, keepT, den, del, upd, dels, refs, hasTy, sArgs, aRefs, rvs, nodupB, memB, app, pTm, Ty.bytes, kbytes, Ty.zeroD, Ty.size, Ty.cmp, Ty.depth, Go.SE.look, reduceCtorEq, Nat.reduceAdd, Nat.reduceSub, Nat.reduceMul, Nat.reduceEqDiff, Nat.reduceLT, Nat.reduceLeDiff, Nat.reduceMod, Nat.reduceDiv, Nat.reducePow, Nat.reduceBEq, Int.reduceToNat, Int.reduceLE, Int.reduceLT, Int.reduceEq, Int.reduceAdd, Int.reduceMul, Int.reduceSub, Int.reduceNeg, Int.reduceNe, Tryd.TS, Tryd.ev_g0, Tryd.ev1_g0, Tryd.ev_g1, Tryd.ev1_g1]
  refine HIf_dec (fun h => ?_) (fun p2 => ?_)
  · simp -dsimp -implicitDefEqProofs (disch := omega) only [↓gpre, ↓bldS, ↓bld, ↓reduceIte, ↓gmore, gpost, gall, keepT, den, del, upd, dels, refs, hasTy, sArgs, aRefs, rvs, nodupB, memB, app, pTm, Ty.bytes, kbytes, Ty.zeroD, Ty.size, Ty.cmp, Ty.depth, Go.SE.look, reduceCtorEq, Nat.reduceAdd, Nat.reduceSub, Nat.reduceMul, Nat.reduceEqDiff, Nat.reduceLT, Nat.reduceLeDiff, Nat.reduceMod, Nat.reduceDiv, Nat.reducePow, Nat.reduceBEq, Int.reduceToNat, Int.reduceLE, Int.reduceLT, Int.reduceEq, Int.reduceAdd, Int.reduceMul, Int.reduceSub, Int.reduceNeg, Int.reduceNe, Tryd.TS, Tryd.ev_g0, Tryd.ev1_g0, Tryd.ev_g1, Tryd.ev1_g1]
    rw [if_pos (by omega)]
  simp -dsimp -implicitDefEqProofs (disch := omega) only [↓gpre, ↓bldS, ↓bld, ↓reduceIte, ↓gmore, gpost, gall, keepT, den, del, upd, dels, refs, hasTy, sArgs, aRefs, rvs, nodupB, memB, app, pTm, Ty.bytes, kbytes, Ty.zeroD, Ty.size, Ty.cmp, Ty.depth, Go.SE.look, reduceCtorEq, Nat.reduceAdd, Nat.reduceSub, Nat.reduceMul, Nat.reduceEqDiff, Nat.reduceLT, Nat.reduceLeDiff, Nat.reduceMod, Nat.reduceDiv, Nat.reducePow, Nat.reduceBEq, Int.reduceToNat, Int.reduceLE, Int.reduceLT, Int.reduceEq, Int.reduceAdd, Int.reduceMul, Int.reduceSub, Int.reduceNeg, Int.reduceNe, Tryd.TS, Tryd.ev_g0, Tryd.ev1_g0, Tryd.ev_g1, Tryd.ev1_g1]
  refine sdraw Tryd.hT (by kernel_rfl) [] [0, 1, 2, 3, 4, 5, 6, 7] (by kernel_rfl) (by kernel_rfl) (by kernel_rfl) ?_; simp only [pickO, List.getElem?_toArray, List.getElem?_cons_zero, List.getElem?_cons_succ]
  simp -dsimp -implicitDefEqProofs (disch := omega) only [↓gpre, ↓bldS, ↓bld, ↓reduceIte, ↓gmore, gpost, gall, keepT, den, del, upd, dels, refs, hasTy, sArgs, aRefs, rvs, nodupB, memB, app, pTm, Ty.bytes, kbytes, Ty.zeroD, Ty.size, Ty.cmp, Ty.depth, Go.SE.look, reduceCtorEq, Nat.reduceAdd, Nat.reduceSub, Nat.reduceMul, Nat.reduceEqDiff, Nat.reduceLT, Nat.reduceLeDiff, Nat.reduceMod, Nat.reduceDiv, Nat.reducePow, Nat.reduceBEq, Int.reduceToNat, Int.reduceLE, Int.reduceLT, Int.reduceEq, Int.reduceAdd, Int.reduceMul, Int.reduceSub, Int.reduceNeg, Int.reduceNe, Tryd.TS, Tryd.ev_g0, Tryd.ev1_g0, Tryd.ev_g1, Tryd.ev1_g1]
  refine HIf_dec (fun h => ?_) (fun q2 => ?_)
  · simp -dsimp -implicitDefEqProofs (disch := omega) only [↓gpre, ↓bldS, ↓bld, ↓reduceIte, ↓gmore, gpost, gall, keepT, den, del, upd, dels, refs, hasTy, sArgs, aRefs, rvs, nodupB, memB, app, pTm, Ty.bytes, kbytes, Ty.zeroD, Ty.size, Ty.cmp, Ty.depth, Go.SE.look, reduceCtorEq, Nat.reduceAdd, Nat.reduceSub, Nat.reduceMul, Nat.reduceEqDiff, Nat.reduceLT, Nat.reduceLeDiff, Nat.reduceMod, Nat.reduceDiv, Nat.reducePow, Nat.reduceBEq, Int.reduceToNat, Int.reduceLE, Int.reduceLT, Int.reduceEq, Int.reduceAdd, Int.reduceMul, Int.reduceSub, Int.reduceNeg, Int.reduceNe, Tryd.TS, Tryd.ev_g0, Tryd.ev1_g0, Tryd.ev_g1, Tryd.ev1_g1]
    rw [if_neg (by omega), if_pos (by omega)]
  simp -dsimp -implicitDefEqProofs (disch := omega) only [↓gpre, ↓bldS, ↓bld, ↓reduceIte, ↓gmore, gpost, gall, keepT, den, del, upd, dels, refs, hasTy, sArgs, aRefs, rvs, nodupB, memB, app, pTm, Ty.bytes, kbytes, Ty.zeroD, Ty.size, Ty.cmp, Ty.depth, Go.SE.look, reduceCtorEq, Nat.reduceAdd, Nat.reduceSub, Nat.reduceMul, Nat.reduceEqDiff, Nat.reduceLT, Nat.reduceLeDiff, Nat.reduceMod, Nat.reduceDiv, Nat.reducePow, Nat.reduceBEq, Int.reduceToNat, Int.reduceLE, Int.reduceLT, Int.reduceEq, Int.reduceAdd, Int.reduceMul, Int.reduceSub, Int.reduceNeg, Int.reduceNe, Tryd.TS, Tryd.ev_g0, Tryd.ev1_g0, Tryd.ev_g1, Tryd.ev1_g1]
  refine sunroll Tryd.hT ?_; simp -dsimp -implicitDefEqProofs (disch := omega) only [↓gpre, ↓bldS, ↓bld, ↓reduceIte, ↓gmore, gpost, gall, keepT, den, del, upd, dels, refs, hasTy, sArgs, aRefs, rvs, nodupB, memB, app, pTm, Ty.bytes, kbytes, Ty.zeroD, Ty.size, Ty.cmp, Ty.depth, Go.SE.look, reduceCtorEq, Nat.reduceAdd, Nat.reduceSub, Nat.reduceMul, Nat.reduceEqDiff, Nat.reduceLT, Nat.reduceLeDiff, Nat.reduceMod, Nat.reduceDiv, Nat.reducePow, Nat.reduceBEq, Int.reduceToNat, Int.reduceLE, Int.reduceLT, Int.reduceEq, Int.reduceAdd, Int.reduceMul, Int.reduceSub, Int.reduceNeg, Int.reduceNe, Tryd.TS, Tryd.ev_g0, Tryd.ev1_g0, Tryd.ev_g1, Tryd.ev1_g1]
  refine sdraw Tryd.hT (by kernel_rfl) [] [0, 1, 2, 3, 4, 5, 6, 7] (by kernel_rfl) (by kernel_rfl) (by kernel_rfl) ?_; simp only [pickO, List.getElem?_toArray, List.getElem?_cons_zero, List.getElem?_cons_succ]
  simp -dsimp -implicitDefEqProofs (disch := omega) only [↓gpre, ↓bldS, ↓bld, ↓reduceIte, ↓gmore, gpost, gall, keepT, den, del, upd, dels, refs, hasTy, sArgs, aRefs, rvs, nodupB, memB, app, pTm, Ty.bytes, kbytes, Ty.zeroD, Ty.size, Ty.cmp, Ty.depth, Go.SE.look, reduceCtorEq, Nat.reduceAdd, Nat.reduceSub, Nat.reduceMul, Nat.reduceEqDiff, Nat.reduceLT, Nat.reduceLeDiff, Nat.reduceMod, Nat.reduceDiv, Nat.reducePow, Nat.reduceBEq, Int.reduceToNat, Int.reduceLE, Int.reduceLT, Int.reduceEq, Int.reduceAdd, Int.reduceMul, Int.reduceSub, Int.reduceNeg, Int.reduceNe, Tryd.TS, Tryd.ev_g0, Tryd.ev1_g0, Tryd.ev_g1, Tryd.ev1_g1]
  refine HIf_dec (fun h => ?_) (fun p3 => ?_)
  · simp -dsimp -implicitDefEqProofs (disch := omega) only [↓gpre, ↓bldS, ↓bld, ↓reduceIte, ↓gmore, gpost, gall, keepT, den, del, upd, dels, refs, hasTy, sArgs, aRefs, rvs, nodupB, memB, app, pTm, Ty.bytes, kbytes, Ty.zeroD, Ty.size, Ty.cmp, Ty.depth, Go.SE.look, reduceCtorEq, Nat.reduceAdd, Nat.reduceSub, Nat.reduceMul, Nat.reduceEqDiff, Nat.reduceLT, Nat.reduceLeDiff, Nat.reduceMod, Nat.reduceDiv, Nat.reducePow, Nat.reduceBEq, Int.reduceToNat, Int.reduceLE, Int.reduceLT, Int.reduceEq, Int.reduceAdd, Int.reduceMul, Int.reduceSub, Int.reduceNeg, Int.reduceNe, Tryd.TS, Tryd.ev_g0, Tryd.ev1_g0, Tryd.ev_g1, Tryd.ev1_g1]
    rw [if_pos (by omega)]
  simp -dsimp -implicitDefEqProofs (disch := omega) only [↓gpre, ↓bldS, ↓bld, ↓reduceIte, ↓gmore, gpost, gall, keepT, den, del, upd, dels, refs, hasTy, sArgs, aRefs, rvs, nodupB, memB, app, pTm, Ty.bytes, kbytes, Ty.zeroD, Ty.size, Ty.cmp, Ty.depth, Go.SE.look, reduceCtorEq, Nat.reduceAdd, Nat.reduceSub, Nat.reduceMul, Nat.reduceEqDiff, Nat.reduceLT, Nat.reduceLeDiff, Nat.reduceMod, Nat.reduceDiv, Nat.reducePow, Nat.reduceBEq, Int.reduceToNat, Int.reduceLE, Int.reduceLT, Int.reduceEq, Int.reduceAdd, Int.reduceMul, Int.reduceSub, Int.reduceNeg, Int.reduceNe, Tryd.TS, Tryd.ev_g0, Tryd.ev1_g0, Tryd.ev_g1, Tryd.ev1_g1]
  refine sdraw Tryd.hT (by kernel_rfl) [] [0, 1, 2, 3, 4, 5, 6, 7] (by kernel_rfl) (by kernel_rfl) (by kernel_rfl) ?_; simp only [pickO, List.getElem?_toArray, List.getElem?_cons_zero, List.getElem?_cons_succ]
  simp -dsimp -implicitDefEqProofs (disch := omega) only [↓gpre, ↓bldS, ↓bld, ↓reduceIte, ↓gmore, gpost, gall, keepT, den, del, upd, dels, refs, hasTy, sArgs, aRefs, rvs, nodupB, memB, app, pTm, Ty.bytes, kbytes, Ty.zeroD, Ty.size, Ty.cmp, Ty.depth, Go.SE.look, reduceCtorEq, Nat.reduceAdd, Nat.reduceSub, Nat.reduceMul, Nat.reduceEqDiff, Nat.reduceLT, Nat.reduceLeDiff, Nat.reduceMod, Nat.reduceDiv, Nat.reducePow, Nat.reduceBEq, Int.reduceToNat, Int.reduceLE, Int.reduceLT, Int.reduceEq, Int.reduceAdd, Int.reduceMul, Int.reduceSub, Int.reduceNeg, Int.reduceNe, Tryd.TS, Tryd.ev_g0, Tryd.ev1_g0, Tryd.ev_g1, Tryd.ev1_g1]
  refine HIf_dec (fun h => ?_) (fun q3 => ?_)
  · simp -dsimp -implicitDefEqProofs (disch := omega) only [↓gpre, ↓bldS, ↓bld, ↓reduceIte, ↓gmore, gpost, gall, keepT, den, del, upd, dels, refs, hasTy, sArgs, aRefs, rvs, nodupB, memB, app, pTm, Ty.bytes, kbytes, Ty.zeroD, Ty.size, Ty.cmp, Ty.depth, Go.SE.look, reduceCtorEq, Nat.reduceAdd, Nat.reduceSub, Nat.reduceMul, Nat.reduceEqDiff, Nat.reduceLT, Nat.reduceLeDiff, Nat.reduceMod, Nat.reduceDiv, Nat.reducePow, Nat.reduceBEq, Int.reduceToNat, Int.reduceLE, Int.reduceLT, Int.reduceEq, Int.reduceAdd, Int.reduceMul, Int.reduceSub, Int.reduceNeg, Int.reduceNe, Tryd.TS, Tryd.ev_g0, Tryd.ev1_g0, Tryd.ev_g1, Tryd.ev1_g1]
    rw [if_neg (by omega), if_pos (by omega)]
  simp -dsimp -implicitDefEqProofs (disch := omega) only [↓gpre, ↓bldS, ↓bld, ↓reduceIte, ↓gmore, gpost, gall, keepT, den, del, upd, dels, refs, hasTy, sArgs, aRefs, rvs, nodupB, memB, app, pTm, Ty.bytes, kbytes, Ty.zeroD, Ty.size, Ty.cmp, Ty.depth, Go.SE.look, reduceCtorEq, Nat.reduceAdd, Nat.reduceSub, Nat.reduceMul, Nat.reduceEqDiff, Nat.reduceLT, Nat.reduceLeDiff, Nat.reduceMod, Nat.reduceDiv, Nat.reducePow, Nat.reduceBEq, Int.reduceToNat, Int.reduceLE, Int.reduceLT, Int.reduceEq, Int.reduceAdd, Int.reduceMul, Int.reduceSub, Int.reduceNeg, Int.reduceNe, Tryd.TS, Tryd.ev_g0, Tryd.ev1_g0, Tryd.ev_g1, Tryd.ev1_g1]
  refine sunroll Tryd.hT ?_; simp -dsimp -implicitDefEqProofs (disch := omega) only [↓gpre, ↓bldS, ↓bld, ↓reduceIte, ↓gmore, gpost, gall, keepT, den, del, upd, dels, refs, hasTy, sArgs, aRefs, rvs, nodupB, memB, app, pTm, Ty.bytes, kbytes, Ty.zeroD, Ty.size, Ty.cmp, Ty.depth, Go.SE.look, reduceCtorEq, Nat.reduceAdd, Nat.reduceSub, Nat.reduceMul, Nat.reduceEqDiff, Nat.reduceLT, Nat.reduceLeDiff, Nat.reduceMod, Nat.reduceDiv, Nat.reducePow, Nat.reduceBEq, Int.reduceToNat, Int.reduceLE, Int.reduceLT, Int.reduceEq, Int.reduceAdd, Int.reduceMul, Int.reduceSub, Int.reduceNeg, Int.reduceNe, Tryd.TS, Tryd.ev_g0, Tryd.ev1_g0, Tryd.ev_g1, Tryd.ev1_g1]
  rw [if_neg (by omega), if_neg (by omega)]

set_option maxHeartbeats 400000 in
theorem wcmpRef (m n : Nat) (hm : m < 115792089237316195423570985008687907853269984665640564039457584007913129639936) (hn : n < 115792089237316195423570985008687907853269984665640564039457584007913129639936) :
    SCall Tryd.prog 81 [(.arr 4 (.int .u64), u256 m), (.arr 4 (.int .u64), u256 n)] (fun rs => rs = [.d (.int .i64) (.n (if m < n then -1 else if n < m then 1 else 0))]) := by
  obtain ⟨a0, a1, a2, a3, ha0, ha1, ha2, ha3, em, eu⟩ := u256_open m hm
  obtain ⟨b0, b1, b2, b3, hb0, hb1, hb2, hb3, en, ev⟩ := u256_open n hn
  rw [eu, ev]
  refine scall_intro (n := 24) (rl := [.tmp 4]) (us := [3]) Tryd.hT Tryd.func81 rfl rfl rfl rfl rfl (Nat.le_of_ble_eq_true rfl) ?_
  intro w0
  simp -dsimp -implicitDefEqProofs (disch := omega) only [↓gpre, ↓bldS, ↓bld, ↓reduceIte, ↓gmore, gpost, gall, keepT, den, del, upd, dels, refs, hasTy, sArgs, aRefs, rvs, nodupB, memB, app, pTm, Ty.bytes, kbytes, Ty.zeroD, Ty.size, Ty.cmp, Ty.depth, Go.SE.look, reduceCtorEq, Nat.reduceAdd, Nat.reduceSub, Nat.reduceMul, Nat.reduceEqDiff, Nat.reduceLT, Nat.reduceLeDiff, Nat.reduceMod, Nat.reduceDiv, Nat.reducePow, Nat.reduceBEq, Int.reduceToNat, Int.reduceLE, Int.reduceLT, Int.reduceEq, Int.reduceAdd, Int.reduceMul, Int.reduceSub, Int.reduceNeg, Int.reduceNe, Tryd.TS, Tryd.ev_g0, Tryd.ev1_g0, Tryd.ev_g1, Tryd.ev1_g1]
  refine sunroll Tryd.hT ?_; simp -dsimp -implicitDefEqProofs (disch := omega) only [↓gpre, ↓bldS, ↓bld, ↓reduceIte, ↓gmore, gpost, gall, keepT, den, del, upd, dels, refs, hasTy, sArgs, aRefs, rvs, nodupB, memB, app, pTm, Ty.bytes, kbytes, Ty.zeroD, Ty.size, Ty.cmp, Ty.depth, Go.SE.look, reduceCtorEq, Nat.reduceAdd, Nat.reduceSub, Nat.reduceMul, Nat.reduceEqDiff, Nat.reduceLT, Nat.reduceLeDiff, Nat.reduceMod, Nat.reduceDiv, Nat.reducePow, Nat.reduceBEq, Int.reduceToNat, Int.reduceLE, Int.reduceLT, Int.reduceEq, Int.reduceAdd, Int.reduceMul, Int.reduceSub, Int.reduceNeg, Int.reduceNe, Tryd.TS, Tryd.ev_g0, Tryd.ev1_g0, Tryd.ev_g1, Tryd.ev1_g1]
  refine sdraw Tryd.hT (by kernel_rfl) [] [0, 1, 2, 3, 4, 5, 6] (by kernel_rfl) (by kernel_rfl) (by kernel_rfl) ?_; simp only [pickO, List.getElem?_toArray, List.getElem?_cons_zero, List.getElem?_cons_succ]
  simp -dsimp -implicitDefEqProofs (disch := omega) only [↓gpre, ↓bldS, ↓bld, ↓reduceIte, ↓gmore, gpost, gall, keepT, den, del, upd, dels, refs, hasTy, sArgs, aRefs, rvs, nodupB, memB, app, pTm, Ty.bytes, kbytes, Ty.zeroD, Ty.size, Ty.cmp, Ty.depth, Go.SE.look, reduceCtorEq, Nat.reduceAdd, Nat.reduceSub, Nat.reduceMul, Nat.reduceEqDiff, Nat.reduceLT, Nat.reduceLeDiff, Nat.reduceMod, Nat.reduceDiv, Nat.reducePow, Nat.reduceBEq, Int.reduceToNat, Int.reduceLE, Int.reduceLT, Int.reduceEq, Int.reduceAdd, Int.reduceMul, Int.reduceSub, Int.reduceNeg, Int.reduceNe, Tryd.TS, Tryd.ev_g0, Tryd.ev1_g0, Tryd.ev_g1, Tryd.ev1_g1]
  refine HIf_dec (fun h => ?_) (fun p0 => ?_)
  · simp -dsimp -implicitDefEqProofs (disch := omega) only [↓gpre, ↓bldS, ↓bld, ↓reduceIte, ↓gmore, gpost, gall, keepT, den, del, upd, dels, refs, hasTy, sArgs, aRefs, rvs, nodupB, memB, app, pTm, Ty.bytes, kbytes, Ty.zeroD, Ty.size, Ty.cmp, Ty.depth, Go.SE.look, reduceCtorEq, Nat.reduceAdd, Nat.reduceSub, Nat.reduceMul, Nat.reduceEqDiff, Nat.reduceLT, Nat.reduceLeDiff, Nat.reduceMod, Nat.reduceDiv, Nat.reducePow, Nat.reduceBEq, Int.reduceToNat, Int.reduceLE, Int.reduceLT, Int.reduceEq, Int.reduceAdd, Int.reduceMul, Int.reduceSub, Int.reduceNeg, Int.reduceNe, Tryd.TS, Tryd.ev_g0, Tryd.ev1_g0, Tryd.ev_g1, Tryd.ev1_g1]
    rw [if_pos (by omega)]
  simp -dsimp -implicitDefEqProofs (disch := omega) only [↓gpre, ↓bldS, ↓bld, ↓reduceIte, ↓gmore, gpost, gall, keepT, den, del, upd, dels, refs, hasTy, sArgs, aRefs, rvs, nodupB, memB, app, pTm, Ty.bytes, kbytes, Ty.zeroD, Ty.size, Ty.cmp, Ty.depth, Go.SE.look, reduceCtorEq, Nat.reduceAdd, Nat.reduceSub, Nat.reduceMul, Nat.reduceEqDiff, Nat.reduceLT, Nat.reduceLeDiff, Nat.reduceMod, Nat.reduceDiv, Nat.reducePow, Nat.reduceBEq, Int.reduceToNat, Int.reduceLE, Int.reduceLT, Int.reduceEq, Int.reduceAdd, Int.reduceMul, Int.reduceSub, Int.reduceNeg, Int.reduceNe, Tryd.TS, Tryd.ev_g0, Tryd.ev1_g0, Tryd.ev_g1, Tryd.ev1_g1]
  refine sdraw Tryd.hT (by kernel_rfl) [] [0, 1, 2, 3, 4, 5, 6] (by kernel_rfl) (by kernel_rfl) (by kernel_rfl) ?_; simp only [pickO, List.getElem?_toArray, List.getElem?_cons_zero, List.getElem?_cons_succ]
  simp -dsimp -implicitDefEqProofs (disch := omega) only [↓gpre, ↓bldS, ↓bld, ↓reduceIte, ↓gmore, gpost, gall, keepT, den, del, upd, dels, refs, hasTy, sArgs, aRefs, rvs, nodupB, memB, app, pTm, Ty.bytes, kbytes, Ty.zeroD, Ty.size, Ty.cmp, Ty.depth, Go.SE.look, reduceCtorEq, Nat.reduceAdd, Nat.reduceSub, Nat.reduceMul, Nat.reduceEqDiff, Nat.reduceLT, Nat.reduceLeDiff, Nat.reduceMod, Nat.reduceDiv, Nat.reducePow, Nat.reduceBEq, Int.reduceToNat, Int.reduceLE, Int.reduceLT, Int.reduceEq, Int.reduceAdd, Int.reduceMul, Int.reduceSub, Int.reduceNeg, Int.reduceNe, Tryd.TS, Tryd.ev_g0, Tryd.ev1_g0, Tryd.ev_g1, Tryd.ev1_g1]
  refine HIf_dec (fun h => ?_) (fun q0 => ?_)
  · simp -dsimp -implicitDefEqProofs (disch := omega) only [↓gpre, ↓bldS, ↓bld, ↓reduceIte, ↓gmore, gpost, gall, keepT, den, del, upd, dels, refs, hasTy, sArgs, aRefs, rvs, nodupB, memB, app, pTm, Ty.bytes, kbytes, Ty.zeroD, Ty.size, Ty.cmp, Ty.depth, Go.SE.look, reduceCtorEq, Nat.reduceAdd, Nat.reduceSub, Nat.reduceMul, Nat.reduceEqDiff, Nat.reduceLT, Nat.reduceLeDiff, Nat.reduceMod, Nat.reduceDiv, Nat.reducePow, Nat.reduceBEq, Int.reduceToNat, Int.reduceLE, Int.reduceLT, Int.reduceEq, Int.reduceAdd, Int.reduceMul, Int.reduceSub, Int.reduceNeg, Int.reduceNe, Tryd.TS, Tryd.ev_g0, Tryd.ev1_g0, Tryd.ev_g1, Tryd.ev1_g1]
    rw [if_neg (by omega), if_pos (by omega)]
  simp -dsimp -implicitDefEqProofs (disch := omega) only [↓gpre, ↓bldS, ↓bld, ↓reduceIte, ↓gmore, gpost, gall, keepT, den, del, upd, dels, refs, hasTy, sArgs, aRefs, rvs, nodupB, memB, app, pTm, Ty.bytes, kbytes, Ty.zeroD, Ty.size, Ty.cmp, Ty.depth, Go.SE.look, reduceCtorEq, Nat.reduceAdd, Nat.reduceSub, Nat.reduceMul, Nat.reduceEqDiff, Nat.reduceLT, Nat.reduceLeDiff, Nat.reduceMod, Nat.reduceDiv, Nat.reducePow, Nat.reduceBEq, Int.reduceToNat, Int.reduceLE, Int.reduceLT, Int.reduceEq, Int.reduceAdd, Int.reduceMul, Int.reduceSub, Int.reduceNeg, Int.reduceNe, Tryd.TS, Tryd.ev_g0, Tryd.ev1_g0, Tryd.ev_g1, Tryd.ev1_g1]
  refine sunroll Tryd.hT ?_; simp -dsimp -implicitDefEqProofs (disch := omega) only [↓gpre, ↓bldS, ↓bld, ↓reduceIte, ↓gmore, gpost, gall, keepT, den, del, upd, dels, refs, hasTy, sArgs, aRefs, rvs, nodupB, memB, app, pTm, Ty.bytes, kbytes, Ty.zeroD, Ty.size, Ty.cmp, Ty.depth, Go.SE.look, reduceCtorEq, Nat.reduceAdd, Nat.reduceSub, Nat.reduceMul, Nat.reduceEqDiff, Nat.reduceLT, Nat.reduceLeDiff, Nat.reduceMod, Nat.reduceDiv, Nat.reducePow, Nat.reduceBEq, Int.reduceToNat, Int.reduceLE, Int.reduceLT, Int.reduceEq, Int.reduceAdd, Int.reduceMul, Int.reduceSub, Int.reduceNeg, Int.reduceNe, Tryd.TS, Tryd.ev_g0, Tryd.ev1_g0, Tryd.ev_g1, Tryd.ev1_g1]
  refine sdraw Tryd.hT (by kernel_rfl) [] [0, 1, 2, 3, 4, 5, 6] (by kernel_rfl) (by kernel_rfl) (by kernel_rfl) ?_; simp only [pickO, List.getElem?_toArray, List.getElem?_cons_zero, List.getElem?_cons_succ]
  simp -dsimp -implicitDefEqProofs (disch := omega) only [↓gpre, ↓bldS, ↓bld, ↓reduceIte, ↓gmore, gpost, gall, keepT, den, del, upd, dels, refs, hasTy, sArgs, aRefs, rvs, nodupB, memB, app, pTm, Ty.bytes, kbytes, Ty.zeroD, Ty.size, Ty.cmp, Ty.depth, Go.SE.look, reduceCtorEq, Nat.reduceAdd, Nat.reduceSub, Nat.reduceMul, Nat.reduceEqDiff, Nat.reduceLT, Nat.reduceLeDiff, Nat.reduceMod, Nat.reduceDiv, Nat.reducePow, Nat.reduceBEq, Int.reduceToNat, Int.reduceLE, Int.reduceLT, Int.reduceEq, Int.reduceAdd, Int.reduceMul, Int.reduceSub, Int.reduceNeg, Int.reduceNe, Tryd.TS, Tryd.ev_g0, Tryd.ev1_g0, Tryd.ev_g1, Tryd.ev1_g1]
  refine HIf_dec (fun h => ?_) (fun p1 => ?_)
  · simp -dsimp -implicitDefEqProofs (disch := omega) only [↓gpre, ↓bldS, ↓bld, ↓reduceIte, ↓gmore, gpost, gall, keepT, den, del, upd, dels, refs, hasTy, sArgs, aRefs, rvs, nodupB, memB, app, pTm, Ty.bytes, kbytes, Ty.zeroD, Ty.size, Ty.cmp, Ty.depth, Go.SE.look, reduceCtorEq, Nat.reduceAdd, Nat.reduceSub, Nat.reduceMul, Nat.reduceEqDiff, Nat.reduceLT, Nat.reduceLeDiff, Nat.reduceMod, Nat.reduceDiv, Nat.reducePow, Nat.reduceBEq, Int.reduceToNat, Int.reduceLE, Int.reduceLT, Int.reduceEq, Int.reduceAdd, Int.reduceMul, Int.reduceSub, Int.reduceNeg, Int.reduceNe, Tryd.TS, Tryd.ev_g0, Tryd.ev1_g0, Tryd.ev_g1, Tryd.ev1_g1]
    rw [if_pos (by omega)]
  simp -dsimp -implicitDefEqProofs (disch := omega) only [↓gpre, ↓bldS, ↓bld, ↓reduceIte, ↓gmore, gpost, gall, keepT, den, del, upd, dels, refs, hasTy, sArgs, aRefs, rvs, nodupB, memB, app, pTm, Ty.bytes, kbytes, Ty.zeroD, Ty.size, Ty.cmp, Ty.depth, Go.SE.look, reduceCtorEq, Nat.reduceAdd, Nat.reduceSub, Nat.reduceMul, Nat.reduceEqDiff, Nat.reduceLT, Nat.reduceLeDiff, Nat.reduceMod, Nat.reduceDiv, Nat.reducePow, Nat.reduceBEq, Int.reduceToNat, Int.reduceLE, Int.reduceLT, Int.reduceEq, Int.reduceAdd, Int.reduceMul, Int.reduceSub, Int.reduceNeg, Int.reduceNe, Tryd.TS, Tryd.ev_g0, Tryd.ev1_g0, Tryd.ev_g1, Tryd.ev1_g1]
  refine sdraw Tryd.hT (by kernel_rfl) [] [0, 1, 2, 3, 4, 5, 6] (by kernel_rfl) (by kernel_rfl) (by kernel_rfl) ?_; simp only [pickO, List.getElem?_toArray, List.getElem?_cons_zero, List.getElem?_cons_succ]
  simp -dsimp -implicitDefEqProofs (disch := omega) only [↓gpre, ↓bldS, ↓bld, ↓reduceIte, ↓gmore, gpost, gall, keepT, den, del, upd, dels, refs, hasTy, sArgs, aRefs, rvs, nodupB, memB, app, pTm, Ty.bytes, kbytes, Ty.zeroD, Ty.size, Ty.cmp, Ty.depth, Go.SE.look, reduceCtorEq, Nat.reduceAdd, Nat.reduceSub, Nat.reduceMul, Nat.reduceEqDiff, Nat.reduceLT, Nat.reduceLeDiff, Nat.reduceMod, Nat.reduceDiv, Nat.reducePow, Nat.reduceBEq, Int.reduceToNat, Int.reduceLE, Int.reduceLT, Int.reduceEq, Int.reduceAdd, Int.reduceMul, Int.reduceSub, Int.reduceNeg, Int.reduceNe, Tryd.TS, Tryd.ev_g0, Tryd.ev1_g0, Tryd.ev_g1, Tryd.ev1_g1]
  refine HIf_dec (fun h => ?_) (fun q1 => ?_)
  · simp -dsimp -implicitDefEqProofs (disch := omega) only [↓gpre, ↓bldS, ↓bld, ↓reduceIte, ↓gmore, gpost, gall, keepT, den, del, upd, dels, refs, hasTy, sArgs, aRefs, rvs, nodupB, memB, app, pTm, Ty.bytes, kbytes, Ty.zeroD, Ty.size, Ty.cmp, Ty.depth, Go.SE.look, reduceCtorEq, Nat.reduceAdd, Nat.reduceSub, Nat.reduceMul, Nat.reduceEqDiff, Nat.reduceLT, Nat.reduceLeDiff, Nat.reduceMod, Nat.reduceDiv, Nat.reducePow, Nat.reduceBEq, Int.reduceToNat, Int.reduceLE, Int.reduceLT, Int.reduceEq, Int.reduceAdd, Int.reduceMul, Int.reduceSub, Int.reduceNeg, Int.reduceNe, Tryd.TS, Tryd.ev_g0, Tryd.ev1_g0, Tryd.ev_g1, Tryd.ev1_g1]
    rw [if_neg (by omega), if_pos (by omega)]
  simp -dsimp -implicitDefEqProofs (disch := omega) only [↓gpre, ↓bldS, ↓bld, ↓reduceIte, ↓gmore, gpost, gall, keepT, den, del, upd, dels, refs, hasTy, sArgs, aRefs, rvs, nodupB, memB, app, pTm, Ty.bytes, kbytes, Ty.zeroD, Ty.size, Ty.cmp, Ty.depth, Go.SE.look, reduceCtorEq, Nat.reduceAdd, Nat.reduceSub, Nat.reduceMul, Nat.reduceEqDiff, Nat.reduceLT, Nat.reduceLeDiff, Nat.reduceMod, Nat.reduceDiv, Nat.reducePow, Nat.reduceBEq, Int.reduceToNat, Int.reduceLE, Int.reduceLT, Int.reduceEq, Int.reduceAdd, Int.reduceMul, Int.reduceSub, Int.reduceNeg, Int.reduceNe, Tryd.TS, Tryd.ev_g0, Tryd.ev1_g0, Tryd.ev_g1, Tryd.ev1_g1]
  refine sunroll Tryd.hT ?_; simp -dsimp -implicitDefEqProofs (disch := omega) only [↓gpre, ↓bldS, ↓bld, ↓reduceIte, ↓gmore, gpost, gall, keepT, den, del, upd, dels, refs, hasTy, sArgs, aRefs, rvs, nodupB, memB, app, pTm, Ty.bytes, kbytes, Ty.zeroD, Ty.size, Ty.cmp, Ty.depth, Go.SE.look, reduceCtorEq, Nat.reduceAdd, Nat.reduceSub, Nat.reduceMul, Nat.reduceEqDiff, Nat.reduceLT, Nat.reduceLeDiff, Nat.reduceMod, Nat.reduceDiv, Nat.reducePow, Nat.reduceBEq, Int.reduceToNat, Int.reduceLE, Int.reduceLT, Int.reduceEq, Int.reduceAdd, Int.reduceMul, Int.reduceSub, Int.reduceNeg, Int.reduceNe, Tryd.TS, Tryd.ev_g0, Tryd.ev1_g0, Tryd.ev_g1, Tryd.ev1_g1]
  refine sdraw Tryd.hT (by kernel_rfl) [] [0, 1, 2, 3, 4, 5, 6] (by kernel_rfl) (by kernel_rfl) (by kernel_rfl) ?_; simp only [pickO, List.getElem?_toArray, List.getElem?_cons_zero, List.getElem?_cons_succ]
  simp -dsimp -implicitDefEqProofs (disch := omega) only [↓gpre, ↓bldS, ↓bld, ↓reduceIte, ↓gmore, gpost, gall, keepT, den, del, upd, dels, refs, hasTy, sArgs, aRefs, rvs, nodupB, memB, app, pTm, Ty.bytes, kbytes, Ty.zeroD, Ty.size, Ty.cmp, Ty.depth, Go.SE.look, reduceCtorEq, Nat.reduceAdd, Nat.reduceSub, Nat.reduceMul, Nat.reduceEqDiff, Nat.reduceLT, Nat.reduceLeDiff, Nat.reduceMod, Nat.reduceDiv, Nat.reducePow, Nat.reduceBEq, Int.reduceToNat, Int.reduceLE, Int.reduceLT, Int.reduceEq, Int.reduceAdd, Int.reduceMul, Int.reduceSub, Int.reduceNeg, Int.reduceNe, Tryd.TS, Tryd.ev_g0, Tryd.ev1_g0, Tryd.ev_g1, Tryd.ev1_g1]
  refine HIf_dec (fun h => ?_) (fun p2 => ?_)
  · simp -dsimp -implicitDefEqProofs (disch := omega) only [↓gpre, ↓bldS, ↓bld, ↓reduceIte, ↓gmore, gpost, gall, keepT, den, del, upd, dels, refs, hasTy, sArgs, aRefs, rvs, nodupB, memB, app, pTm, Ty.bytes, kbytes, Ty.zeroD, Ty.size, Ty.cmp, Ty.depth, Go.SE.look, reduceCtorEq, Nat.reduceAdd, Nat.reduceSub, Nat.reduceMul, Nat.reduceEqDiff, Nat.reduceLT, Nat.reduceLeDiff, Nat.reduceMod, Nat.reduceDiv, Nat.reducePow, Nat.reduceBEq, Int.reduceToNat, Int.reduceLE, Int.reduceLT, Int.reduceEq, Int.reduceAdd, Int.reduceMul, Int.reduceSub, Int.reduceNeg, Int.reduceNe, Tryd.TS, Tryd.ev_g0, Tryd.ev1_g0, Tryd.ev_g1, Tryd.ev1_g1]
    rw [if_pos (by omega)]
  simp -dsimp -implicitDefEqProofs (disch := omega) only [↓gpre, ↓bldS, ↓bld, ↓reduceIte, ↓gmore, gpost, gall, keepT, den, del, upd, dels, refs, hasTy, sArgs, aRefs, rvs, nodupB, memB, app, pTm, Ty.bytes, kbytes, Ty.zeroD, Ty.size, Ty.cmp, Ty.depth, Go.SE.look, reduceCtorEq, Nat.reduceAdd, Nat.reduceSub, Nat.reduceMul, Nat.reduceEqDiff, Nat.reduceLT, Nat.reduceLeDiff, Nat.reduceMod, Nat.reduceDiv, Nat.reducePow, Nat.reduceBEq, Int.reduceToNat, Int.reduceLE, Int.reduceLT, Int.reduceEq, Int.reduceAdd, Int.reduceMul, Int.reduceSub, Int.reduceNeg, Int.reduceNe, Tryd.TS, Tryd.ev_g0, Tryd.ev1_g0, Tryd.ev_g1, Tryd.ev1_g1]
  refine sdraw Tryd.hT (by kernel_rfl) [] [0, 1, 2, 3, 4, 5, 6] (by kernel_rfl) (by kernel_rfl) (by kernel_rfl) ?_; simp only [pickO, List.getElem?_toArray, List.getElem?_cons_zero, List.getElem?_cons_succ]
  simp -dsimp -implicitDefEqProofs (disch := omega) only [↓gpre, ↓bldS, ↓bld, ↓reduceIte, ↓gmore, gpost, gall, keepT, den, del, upd, dels, refs, hasTy, sArgs, aRefs, rvs, nodupB, memB, app, pTm, Ty.bytes, kbytes, Ty.zeroD, Ty.size, Ty.cmp, Ty.depth, Go.SE.look, reduceCtorEq, Nat.reduceAdd, Nat.reduceSub, Nat.reduceMul, Nat.reduceEqDiff, Nat.reduceLT, Nat.reduceLeDiff, Nat.reduceMod, Nat.reduceDiv, Nat.reducePow, Nat.reduceBEq, Int.reduceToNat, Int.reduceLE, Int.reduceLT, Int.reduceEq, Int.reduceAdd, Int.reduceMul, Int.reduceSub, Int.reduceNeg, Int.reduceNe, Tryd.TS, Tryd.ev_g0, Tryd.ev1_g0, Tryd.ev_g1, Tryd.ev1_g1]
  refine HIf_dec (fun h => ?_) (fun q2 => ?_)
  · simp -dsimp -implicitDefEqProofs (disch := omega) only [↓gpre, ↓bldS, ↓bld, ↓reduceIte, ↓gmore, gpost, gall, keepT, den, del, upd, dels, refs, hasTy, sArgs, aRefs, rvs, nodupB, memB, app, pTm, Ty.bytes, kbytes, Ty.zeroD, Ty.size, Ty.cmp, Ty.depth, Go.SE.look, reduceCtorEq, Nat.reduceAdd, Nat.reduceSub, Nat.reduceMul, Nat.reduceEqDiff, Nat.reduceLT, Nat.reduceLeDiff, Nat.reduceMod, Nat.reduceDiv, Nat.reducePow, Nat.reduceBEq, Int.reduceToNat, Int.reduceLE, Int.reduceLT, Int.reduceEq, Int.reduceAdd, Int.reduceMul, Int.reduceSub, Int.reduceNeg, Int.reduceNe, Tryd.TS, Tryd.ev_g0, Tryd.ev1_g0, Tryd.ev_g1, Tryd.ev1_g1]
    rw [if_neg (by omega), if_pos (by omega)]
  simp -dsimp -implicitDefEqProofs (disch := omega) only [↓gpre, ↓bldS, ↓bld, ↓reduceIte, ↓gmore, gpost, gall, keepT, den, del, upd, dels, refs, hasTy, sArgs, aRefs, rvs, nodupB, memB, app, pTm, Ty.bytes, kbytes, Ty.zeroD, Ty.size, Ty.cmp, Ty.depth, Go.SE.look, reduceCtorEq, Nat.reduceAdd, Nat.reduceSub, Nat.reduceMul, Nat.reduceEqDiff, Nat.reduceLT, Nat.reduceLeDiff, Nat.reduceMod, Nat.reduceDiv, Nat.reducePow, Nat.reduceBEq, Int.reduceToNat, Int.reduceLE, Int.reduceLT, Int.reduceEq, Int.reduceAdd, Int.reduceMul, Int.reduceSub, Int.reduceNeg, Int.reduceNe, Tryd.TS, Tryd.ev_g0, Tryd.ev1_g0, Tryd.ev_g1, Tryd.ev1_g1]
  refine sunroll Tryd.hT ?_; simp -dsimp -implicitDefEqProofs (disch := omega) only [↓gpre, ↓bldS, ↓bld, ↓reduceIte, ↓gmore, gpost, gall, keepT, den, del, upd, dels, refs, hasTy, sArgs, aRefs, rvs, nodupB, memB, app, pTm, Ty.bytes, kbytes, Ty.zeroD, Ty.size, Ty.cmp, Ty.depth, Go.SE.look, reduceCtorEq, Nat.reduceAdd, Nat.reduceSub, Nat.reduceMul, Nat.reduceEqDiff, Nat.reduceLT, Nat.reduceLeDiff, Nat.reduceMod, Nat.reduceDiv, Nat.reducePow, Nat.reduceBEq, Int.reduceToNat, Int.reduceLE, Int.reduceLT, Int.reduceEq, Int.reduceAdd, Int.reduceMul, Int.reduceSub, Int.reduceNeg, Int.reduceNe, Tryd.TS, Tryd.ev_g0, Tryd.ev1_g0, Tryd.ev_g1, Tryd.ev1_g1]
  refine sdraw Tryd.hT (by kernel_rfl) [] [0, 1, 2, 3, 4, 5, 6] (by kernel_rfl) (by kernel_rfl) (by kernel_rfl) ?_; simp only [pickO, List.getElem?_toArray, List.getElem?_cons_zero, List.getElem?_cons_succ]
  simp -dsimp -implicitDefEqProofs (disch := omega) only [↓gpre, ↓bldS, ↓bld, ↓reduceIte, ↓gmore, gpost, gall, keepT, den, del, upd, dels, refs, hasTy, sArgs, aRefs, rvs, nodupB, memB, app, pTm, Ty.bytes, kbytes, Ty.zeroD, Ty.size, Ty.cmp, Ty.depth, Go.SE.look, reduceCtorEq, Nat.reduceAdd, Nat.reduceSub, Nat.reduceMul, Nat.reduceEqDiff, Nat.reduceLT, Nat.reduceLeDiff, Nat.reduceMod, Nat.reduceDiv, Nat.reducePow, Nat.reduceBEq, Int.reduceToNat, Int.reduceLE, Int.reduceLT, Int.reduceEq, Int.reduceAdd, Int.reduceMul, Int.reduceSub, Int.reduceNeg, Int.reduceNe, Tryd.TS, Tryd.ev_g0, Tryd.ev1_g0, Tryd.ev_g1, Tryd.ev1_g1]
  refine HIf_dec (fun h => ?_) (fun p3 => ?_)
  · simp -dsimp -implicitDefEqProofs (disch := omega) only [↓gpre, ↓bldS, ↓bld, ↓reduceIte, ↓gmore, gpost, gall, keepT, den, del, upd, dels, refs, hasTy, sArgs, aRefs, rvs, nodupB, memB, app, pTm, Ty.bytes, kbytes, Ty.zeroD, Ty.size, Ty.cmp, Ty.depth, Go.SE.look, reduceCtorEq, Nat.reduceAdd, Nat.reduceSub, Nat.reduceMul, Nat.reduceEqDiff, Nat.reduceLT, Nat.reduceLeDiff, Nat.reduceMod, Nat.reduceDiv, Nat.reducePow, Nat.reduceBEq, Int.reduceToNat, Int.reduceLE, Int.reduceLT, Int.reduceEq, Int.reduceAdd, Int.reduceMul, Int.reduceSub, Int.reduceNeg, Int.reduceNe, Tryd.TS, Tryd.ev_g0, Tryd.ev1_g0, Tryd.ev_g1, Tryd.ev1_g1]
    rw [if_pos (by omega)]
  simp -dsimp -implicitDefEqProofs (disch := omega) only [↓gpre, ↓bldS, ↓bld, ↓reduceIte, ↓gmore, gpost, gall, keepT, den, del, upd, dels, refs, hasTy, sArgs, aRefs, rvs, nodupB, memB, app, pTm, Ty.bytes, kbytes, Ty.zeroD, Ty.size, Ty.cmp, Ty.depth, Go.SE.look, reduceCtorEq, Nat.reduceAdd, Nat.reduceSub, Nat.reduceMul, Nat.reduceEqDiff, Nat.reduceLT, Nat.reduceLeDiff, Nat.reduceMod, Nat.reduceDiv, Nat.reducePow, Nat.reduceBEq, Int.reduceToNat, Int.reduceLE, Int.reduceLT, Int.reduceEq, Int.reduceAdd, Int.reduceMul, Int.reduceSub, Int.reduceNeg, Int.reduceNe, Tryd.TS, Tryd.ev_g0, Tryd.ev1_g0, Tryd.ev_g1, Tryd.ev1_g1]
  refine sdraw Tryd.hT (by kernel_rfl) [] [0, 1, 2, 3, 4, 5, 6] (by kernel_rfl) (by kernel_rfl) (by kernel_rfl) ?_; simp only [pickO, List.getElem?_toArray, List.getElem?_cons_zero, List.getElem?_cons_succ]
  simp -dsimp -implicitDefEqProofs (disch := omega) only [↓gpre, ↓bldS, ↓bld, ↓reduceIte, ↓gmore, gpost, gall, keepT, den, del, upd, dels, refs, hasTy, sArgs, aRefs, rvs, nodupB, memB, app, pTm, Ty.bytes, kbytes, Ty.zeroD, Ty.size, Ty.cmp, Ty.depth, Go.SE.look, reduceCtorEq, Nat.reduceAdd, Nat.reduceSub, Nat.reduceMul, Nat.reduceEqDiff, Nat.reduceLT, Nat.reduceLeDiff, Nat.reduceMod, Nat.reduceDiv, Nat.reducePow, Nat.reduceBEq, Int.reduceToNat, Int.reduceLE, Int.reduceLT, Int.reduceEq, Int.reduceAdd, Int.reduceMul, Int.reduceSub, Int.reduceNeg, Int.reduceNe, Tryd.TS, Tryd.ev_g0, Tryd.ev1_g0, Tryd.ev_g1, Tryd.ev1_g1]
  refine HIf_dec (fun h => ?_) (fun q3 => ?_)
  · simp -dsimp -implicitDefEqProofs (disch := omega) only [↓gpre, ↓bldS, ↓bld, ↓reduceIte, ↓gmore, gpost, gall, keepT, den, del, upd, dels, refs, hasTy, sArgs, aRefs, rvs, nodupB, memB, app, pTm, Ty.bytes, kbytes, Ty.zeroD, Ty.size, Ty.cmp, Ty.depth, Go.SE.look, reduceCtorEq, Nat.reduceAdd, Nat.reduceSub, Nat.reduceMul, Nat.reduceEqDiff, Nat.reduceLT, Nat.reduceLeDiff, Nat.reduceMod, Nat.reduceDiv, Nat.reducePow, Nat.reduceBEq, Int.reduceToNat, Int.reduceLE, Int.reduceLT, Int.reduceEq, Int.reduceAdd, Int.reduceMul, Int.reduceSub, Int.reduceNeg, Int.reduceNe, Tryd.TS, Tryd.ev_g0, Tryd.ev1_g0, Tryd.ev_g1, Tryd.ev1_g1]
    rw [if_neg (by omega), if_pos (by omega)]
  simp -dsimp -implicitDefEqProofs (disch := omega) only [↓gpre, ↓bldS, ↓bld, ↓reduceIte, ↓gmore, gpost, gall, keepT, den, del, upd, dels, refs, hasTy, sArgs, aRefs, rvs, nodupB, memB, app, pTm, Ty.bytes, kbytes, Ty.zeroD, Ty.size, Ty.cmp, Ty.depth, Go.SE.look, reduceCtorEq, Nat.reduceAdd, Nat.reduceSub, Nat.reduceMul, Nat.reduceEqDiff, Nat.reduceLT, Nat.reduceLeDiff, Nat.reduceMod, Nat.reduceDiv, Nat.reducePow, Nat.reduceBEq, Int.reduceToNat, Int.reduceLE, Int.reduceLT, Int.reduceEq, Int.reduceAdd, Int.reduceMul, Int.reduceSub, Int.reduceNeg, Int.reduceNe, Tryd.TS, Tryd.ev_g0, Tryd.ev1_g0, Tryd.ev_g1, Tryd.ev1_g1]
  refine sunroll Tryd.hT ?_; simp -dsimp -implicitDefEqProofs (disch := omega) only [↓gpre, ↓bldS, ↓bld, ↓reduceIte, ↓gmore, gpost, gall, keepT, den, del, upd, dels, refs, hasTy, sArgs, aRefs, rvs, nodupB, memB, app, pTm, Ty.bytes, kbytes, Ty.zeroD, Ty.size, Ty.cmp, Ty.depth, Go.SE.look, reduceCtorEq, Nat.reduceAdd, Nat.reduceSub, Nat.reduceMul, Nat.reduceEqDiff, Nat.reduceLT, Nat.reduceLeDiff, Nat.reduceMod, Nat.reduceDiv, Nat.reducePow, Nat.reduceBEq, Int.reduceToNat, Int.reduceLE, Int.reduceLT, Int.reduceEq, Int.reduceAdd, Int.reduceMul, Int.reduceSub, Int.reduceNeg, Int.reduceNe, Tryd.TS, Tryd.ev_g0, Tryd.ev1_g0, Tryd.ev_g1, Tryd.ev1_g1]
  rw [if_neg (by omega), if_neg (by omega)]
end Go.Proofs
/- Numbers of 256 bits: sums, differences, comparisons. -/
namespace Go.Proofs
open Go.SE

theorem u64_not {n : Nat} (h : n < 18446744073709551616) : bits .xor .u64 (if IntKind.u64.signed = true then -1 else IntKind.u64.max) (n : Int) = ((18446744073709551616 - 1 - n : Nat) : Int) := by
  have e : (if IntKind.u64.signed = true then (-1 : Int) else IntKind.u64.max) = ((2 ^ 64 - 1 : Nat) : Int) := by decide
  rw [e, u64_xor_nat _ _ (by decide) h]
  congr 1
  apply Nat.eq_of_testBit_eq
  intro i
  rw [Nat.testBit_xor, Nat.testBit_two_pow_sub_one, show 18446744073709551616 - 1 - n = 2 ^ 64 - (n + 1) by omega, Nat.testBit_two_pow_sub_succ (show n < 2 ^ 64 by omega)]
  by_cases hi : i < 64
  · simp [hi]
  · simp only [hi, decide_false, Bool.false_bne, Bool.false_and]
    exact Nat.testBit_lt_two_pow (Nat.lt_of_lt_of_le h (show 18446744073709551616 ≤ 2 ^ i from Nat.le_trans (show 18446744073709551616 ≤ 2 ^ 64 by decide) (Nat.pow_le_pow_right (by omega) (by omega))))

set_option maxHeartbeats 400000 in
theorem wnot (m : Nat) (hm : m < 115792089237316195423570985008687907853269984665640564039457584007913129639936) : SCall Tryd.prog 112 [(.arr 4 (.int .u64), u256 m)] (fun rs => rs = [.d (.arr 4 (.int .u64)) (u256 (115792089237316195423570985008687907853269984665640564039457584007913129639936 - 1 - m))]) := by
  obtain ⟨a0, a1, a2, a3, ha0, ha1, ha2, ha3, em, eu⟩ := u256_open m hm
  rw [eu]
  refine scall_intro (n := 15) (rl := [.cell 2 45]) (us := [45]) Tryd.hT Tryd.func112 rfl rfl rfl rfl rfl (Nat.le_of_ble_eq_true rfl) ?_
  intro w0
  simp -dsimp -implicitDefEqProofs (disch := omega) only [↓gpre, ↓bldS, ↓bld, ↓reduceIte, ↓gmore, gpost, gall, keepT, den, del, upd, dels, refs, hasTy, sArgs, aRefs, rvs, nodupB, memB, app, pTm, Ty.bytes, kbytes, Ty.zeroD, Ty.size, Ty.cmp, Ty.depth, Go.SE.look, reduceCtorEq, Nat.reduceAdd, Nat.reduceSub, Nat.reduceMul, Nat.reduceEqDiff, Nat.reduceLT, Nat.reduceLeDiff, Nat.reduceMod, Nat.reduceDiv, Nat.reducePow, Nat.reduceBEq, Int.reduceToNat, Int.reduceLE, Int.reduceLT, Int.reduceEq, Int.reduceAdd, Int.reduceMul, Int.reduceSub, Int.reduceNeg, Int.reduceNe, Tryd.TS, Tryd.ev_g0, Tryd.ev1_g0, Tryd.ev_g1, Tryd.ev1_g1, rep4]
  refine sunroll Tryd.hT ?_; simp -dsimp -implicitDefEqProofs (disch := omega) only [↓gpre, ↓bldS, ↓bld, ↓reduceIte, ↓gmore, gpost, gall, keepT, den, del, upd, dels, refs, hasTy, sArgs, aRefs, rvs, nodupB, memB, app, pTm, Ty.bytes, kbytes, Ty.zeroD, Ty.size, Ty.cmp, Ty.depth, Go.SE.look, reduceCtorEq, Nat.reduceAdd, Nat.reduceSub, Nat.reduceMul, Nat.reduceEqDiff, Nat.reduceLT, Nat.reduceLeDiff, Nat.reduceMod, Nat.reduceDiv, Nat.reducePow, Nat.reduceBEq, Int.reduceToNat, Int.reduceLE, Int.reduceLT, Int.reduceEq, Int.reduceAdd, Int.reduceMul, Int.reduceSub, Int.reduceNeg, Int.reduceNe, Tryd.TS, Tryd.ev_g0, Tryd.ev1_g0, Tryd.ev_g1, Tryd.ev1_g1, rep4]
  refine sunroll Tryd.hT ?_; simp -dsimp -implicitDefEqProofs (disch := omega) only [↓gpre, ↓bldS, ↓bld, ↓reduceIte, ↓gmore, gpost, gall, keepT, den, del, upd, dels, refs, hasTy, sArgs, aRefs, rvs, nodupB, memB, app, pTm, Ty.bytes, kbytes, Ty.zeroD, Ty.size, Ty.cmp, Ty.depth, Go.SE.look, reduceCtorEq, Nat.reduceAdd, Nat.reduceSub, Nat.reduceMul, Nat.reduceEqDiff, Nat.reduceLT, Nat.reduceLeDiff, Nat.reduceMod, Nat.reduceDiv, Nat.reducePow, Nat.reduceBEq, Int.reduceToNat, Int.reduceLE, Int.reduceLT, Int.reduceEq, Int.reduceAdd, Int.reduceMul, Int.reduceSub, Int.reduceNeg, Int.reduceNe, Tryd.TS, Tryd.ev_g0, Tryd.ev1_g0, Tryd.ev_g1, Tryd.ev1_g1, rep4]
  refine sunroll Tryd.hT ?_; simp -dsimp -implicitDefEqProofs (disch := omega) only [↓gpre, ↓bldS, ↓bld, ↓reduceIte, ↓gmore, gpost, gall, keepT, den, del, upd, dels, refs, hasTy, sArgs, aRefs, rvs, nodupB, memB, app, pTm, Ty.bytes, kbytes, Ty.zeroD, Ty.size, Ty.cmp, Ty.depth, Go.SE.look, reduceCtorEq, Nat.reduceAdd, Nat.reduceSub, Nat.reduceMul, Nat.reduceEqDiff, Nat.reduceLT, Nat.reduceLeDiff, Nat.reduceMod, Nat.reduceDiv, Nat.reducePow, Nat.reduceBEq, Int.reduceToNat, Int.reduceLE, Int.reduceLT, Int.reduceEq, Int.reduceAdd, Int.reduceMul, Int.reduceSub, Int.reduceNeg, Int.reduceNe, Tryd.TS, Tryd.ev_g0, Tryd.ev1_g0, Tryd.ev_g1, Tryd.ev1_g1, rep4]
  refine sunroll Tryd.hT ?_; simp -dsimp -implicitDefEqProofs (disch := omega) only [↓gpre, ↓bldS, ↓bld, ↓reduceIte, ↓gmore, gpost, gall, keepT, den, del, upd, dels, refs, hasTy, sArgs, aRefs, rvs, nodupB, memB, app, pTm, Ty.bytes, kbytes, Ty.zeroD, Ty.size, Ty.cmp, Ty.depth, Go.SE.look, reduceCtorEq, Nat.reduceAdd, Nat.reduceSub, Nat.reduceMul, Nat.reduceEqDiff, Nat.reduceLT, Nat.reduceLeDiff, Nat.reduceMod, Nat.reduceDiv, Nat.reducePow, Nat.reduceBEq, Int.reduceToNat, Int.reduceLE, Int.reduceLT, Int.reduceEq, Int.reduceAdd, Int.reduceMul, Int.reduceSub, Int.reduceNeg, Int.reduceNe, Tryd.TS, Tryd.ev_g0, Tryd.ev1_g0, Tryd.ev_g1, Tryd.ev1_g1, rep4]
  refine sunroll Tryd.hT ?_; simp -dsimp -implicitDefEqProofs (disch := omega) only [↓gpre, ↓bldS, ↓bld, ↓reduceIte, ↓gmore, gpost, gall, keepT, den, del, upd, dels, refs, hasTy, sArgs, aRefs, rvs, nodupB, memB, app, pTm, Ty.bytes, kbytes, Ty.zeroD, Ty.size, Ty.cmp, Ty.depth, Go.SE.look, reduceCtorEq, Nat.reduceAdd, Nat.reduceSub, Nat.reduceMul, Nat.reduceEqDiff, Nat.reduceLT, Nat.reduceLeDiff, Nat.reduceMod, Nat.reduceDiv, Nat.reducePow, Nat.reduceBEq, Int.reduceToNat, Int.reduceLE, Int.reduceLT, Int.reduceEq, Int.reduceAdd, Int.reduceMul, Int.reduceSub, Int.reduceNeg, Int.reduceNe, Tryd.TS, Tryd.ev_g0, Tryd.ev1_g0, Tryd.ev_g1, Tryd.ev1_g1, rep4]
  rw [u64_not ha0, u64_not ha1, u64_not ha2, u64_not ha3, u256_mk (n := 115792089237316195423570985008687907853269984665640564039457584007913129639936 - 1 - m) (by omega) (by omega) (by omega) (by omega) (by omega)]

theorem u256_zero : D.l [D.n 0, D.n 0, D.n 0, D.n 0] = u256 0 := rfl

set_option maxHeartbeats 400000 in
theorem wzeroRef (m : Nat) (hm : m < 115792089237316195423570985008687907853269984665640564039457584007913129639936) : SCall Tryd.prog 66 [(.arr 4 (.int .u64), u256 m)] (fun rs => rs = [.d .bool (.b (decide (m = 0)))]) := by
  refine scall_intro (n := 6) (rl := [.tmp 2]) (us := [4]) Tryd.hT Tryd.func66 rfl rfl rfl rfl rfl (Nat.le_of_ble_eq_true rfl) ?_
  intro w0
  simp -dsimp -implicitDefEqProofs (disch := omega) only [↓gpre, ↓bldS, ↓bld, ↓reduceIte, ↓gmore, gpost, gall, keepT, den, del, upd, dels, refs, hasTy, sArgs, aRefs, rvs, nodupB, memB, app, pTm, Ty.bytes, kbytes, Ty.zeroD, Ty.size, Ty.cmp, Ty.depth, Go.SE.look, reduceCtorEq, Nat.reduceAdd, Nat.reduceSub, Nat.reduceMul, Nat.reduceEqDiff, Nat.reduceLT, Nat.reduceLeDiff, Nat.reduceMod, Nat.reduceDiv, Nat.reducePow, Nat.reduceBEq, Int.reduceToNat, Int.reduceLE, Int.reduceLT, Int.reduceEq, Int.reduceAdd, Int.reduceMul, Int.reduceSub, Int.reduceNeg, Int.reduceNe, Tryd.TS, Tryd.ev_g0, Tryd.ev1_g0, Tryd.ev_g1, Tryd.ev1_g1, rep4]
  rw [u256_zero, u256_inj hm (by omega)]
end Go.Proofs
