/- The operations' equations, one for each shape: what 'simp only' turns. -/
import Derived.Test.YtbdalbibdkipcaaSeP
import Derived.IntWalk
set_option linter.unusedVariables false
set_option linter.unusedSimpArgs false
set_option linter.constructorNameAsVariable false
namespace Go.SE
universe u
/-- What 'simp' shall not enter: a later argument's type names it. -/
def Hold {α : Sort u} (_ : α) : Type := Unit
def HLoop (P : Program) (w0 : Base) (c : Code) (Q : Exit → St → Prop) (σ : St) (_ : Hold c) (_ : Hold Q) : Prop := SLoop P w0 c Q σ
def HDraw (P : Program) (w0 : Base) (id : Nat) (ops : Array Oper) (Q : Exit → St → Prop) (σ : St) (_ : Hold ops) (_ : Hold Q) : Prop := SDraw P w0 id ops Q σ
def HCall (P : Program) (f : FuncId) (l : List (Ty × D)) (K : List RV → Prop) (_ : Hold K) : Prop := SCall P f l K
def HIf (b : Bool) (t f : Prop) (_ : Hold t) (_ : Hold f) : Prop := sIf b t f
def HSwp (P : Program) (T : Tab) (w0 : Base) (c : Code) (Q : Exit → St → Prop) (σ : St) (_ : Hold c) (_ : Hold Q) : Prop := swp P T w0 c Q σ
theorem HIf_true {t f : Prop} : HIf true t f () () = t := sIf_true
theorem HIf_false {t f : Prop} : HIf false t f () () = f := sIf_false
theorem HIf_mk {c : Bool} {t f : Prop} {a : Hold t} {b : Hold f} (h1 : c = true → t) (h2 : c = false → f) : HIf c t f a b := ⟨h1, h2⟩
/-- At a branch: a proposition, and its contrary. -/
theorem HIf_dec {p : Prop} [Decidable p] {t f : Prop} {a : Hold t} {b : Hold f} (h1 : p → t) (h2 : ¬ p → f) : HIf (decide p) t f a b := ⟨fun h => h1 (of_decide_eq_true h), fun h => h2 (of_decide_eq_false h)⟩
theorem HIf_ndec {p : Prop} [Decidable p] {t f : Prop} {a : Hold t} {b : Hold f} (h1 : ¬ p → t) (h2 : p → f) : HIf (!decide p) t f a b := ⟨fun h => h1 (by simpa using h), fun h => h2 (by simpa using h)⟩

def keepT (tm : List (Nat × TV)) : List Nat → List (Nat × TV)
  | [] => []
  | k :: ks => match Go.SE.look tm k with | some v => (k, v) :: keepT tm ks | none => keepT tm ks
theorem keepT_look {tm : List (Nat × TV)} {t : Nat} {v : TV} : ∀ {ks : List Nat}, Go.SE.look (keepT tm ks) t = some v → Go.SE.look tm t = some v
  | [], h => by simp [keepT, Go.SE.look] at h
  | k :: ks, h => by
    simp only [keepT] at h
    split at h
    · rename_i u hu
      simp only [Go.SE.look] at h
      split at h
      · rename_i e; subst e; rw [hu, h]
      · exact keepT_look h
    · exact keepT_look h
theorem R.keep {w0 : Base} {σ : St} {a : Act} {w : World} (h : R w0 σ a w) (ks : List Nat) : R w0 ⟨σ.nt, keepT σ.tm ks, σ.ob, σ.nx⟩ a w := by
  obtain ⟨om, h⟩ := h
  exact ⟨om, h.below, h.hF, h.defers, h.nt, fun t v hv => h.tm t v (keepT_look hv), h.ob, h.apart, h.fresh⟩
theorem sunrollK {P : Program} {T : Tab} (ks : List Nat) (hT : T.Ok P) {w0 : Base} {c : Code} {Q : Exit → St → Prop} {σ : St} {a : Hold c} {b : Hold Q} (h : swp P T w0 c (sThen (fun σ => HLoop P w0 c Q σ () ()) Q) ⟨σ.nt, keepT σ.tm ks, σ.ob, σ.nx⟩) : HLoop P w0 c Q σ a b :=
  fun a w hr => sround hT h a w (hr.keep ks)

theorem HCall_mono {P : Program} {f : FuncId} {l : List (Ty × D)} {K K' : List RV → Prop} (h : SCall P f l K) (hk : ∀ rs, K rs → K' rs) : HCall P f l K' () := SCall.mono h hk

theorem sunroll {P : Program} {T : Tab} (hT : T.Ok P) {w0 : Base} {c : Code} {Q : Exit → St → Prop} {σ : St} {a : Hold c} {b : Hold Q} (h : swp P T w0 c (sThen (fun σ => HLoop P w0 c Q σ () ()) Q) σ) : HLoop P w0 c Q σ a b := sround hT h

section
variable {P : Program} {T : Tab} {σ : St} {K : St → Prop} {dst : Option Nat} {ty : TypeId} {pos : String} {aft : Array Edge} {g : Option (Nat × Bool)}

theorem e_move {x : Operand} : sOp P T ⟨dst, .move x, ty, pos, aft, g⟩ σ K = (dstOk dst σ.nt ∧ match ev σ x with | some v => K (σ.put dst v) | none => False) := rfl
theorem e_assign {x : Operand} : sOp P T ⟨dst, .assign x, ty, pos, aft, g⟩ σ K = (dstOk dst σ.nt ∧ match ev σ x with | some v => K (σ.put dst v) | none => False) := rfl
theorem e_bin {op : BinOp} {xT yT : TypeId} {x y : Operand} : sOp P T ⟨dst, .binOp op xT x y yT, ty, pos, aft, g⟩ σ K = (dstOk dst σ.nt ∧ match ev1 σ x, ev1 σ y with
    | some (.d t dx), some (.d t' dy) => tyIf T t xT ∧ sBin op t dx t' dy (fun s => K (σ.put dst (.v s)))
    | _, _ => False) := rfl
theorem e_un {op : UnOp} {xT : TypeId} {x : Operand} : sOp P T ⟨dst, .unOp op xT x, ty, pos, aft, g⟩ σ K = (dstOk dst σ.nt ∧ match ev1 σ x with | some (.d t dx) => sUn op t dx (fun s => K (σ.put dst (.v s))) | _ => False) := rfl
theorem e_conv {u d : TypeId} {x : Operand} : sOp P T ⟨dst, .convert u d x, ty, pos, aft, g⟩ σ K = (dstOk dst σ.nt ∧ match ev1 σ x with | some s => sConv T u d s σ (fun σ s => K (σ.put dst (.v s))) | none => False) := rfl
theorem e_pick {c x y : Operand} : sOp P T ⟨dst, .pick c x y, ty, pos, aft, g⟩ σ K = (dstOk dst σ.nt ∧ match ev1 σ c with
    | some (.d .bool b) => HIf b.bool (match ev σ x with | some v => K (σ.put dst v) | none => False) (match ev σ y with | some v => K (σ.put dst v) | none => False) () ()
    | _ => False) := rfl
theorem e_alloc {u : TypeId} : sOp P T ⟨dst, .alloc u, ty, pos, aft, g⟩ σ K = (dstOk dst σ.nt ∧ sAlloc T u σ (fun σ s => K (σ.put dst (.v s)))) := rfl
theorem e_box {u : TypeId} {x : Operand} : sOp P T ⟨dst, .box u x, ty, pos, aft, g⟩ σ K = (dstOk dst σ.nt ∧ match ev1 σ x with | some s => sBox T u s σ (fun σ s => K (σ.put dst (.v s))) | none => False) := rfl
theorem e_build {t : TypeId} {l : List (Nat × Operand)} : sOp P T ⟨dst, .build t l.toArray, ty, pos, aft, g⟩ σ K = (dstOk dst σ.nt ∧ sBuild T t l σ (fun s => K (σ.put dst (.v s)))) := rfl
theorem e_buildS {t : TypeId} {n : Nat} {l : List (Nat × Operand)} : sOp P T ⟨dst, .buildSlice t n l.toArray, ty, pos, aft, g⟩ σ K = (dstOk dst σ.nt ∧ sBuildS T t n l σ (fun σ s => K (σ.put dst (.v s)))) := rfl
theorem e_load {u : TypeId} {x : Operand} : sOp P T ⟨dst, .load u x, ty, pos, aft, g⟩ σ K = (dstOk dst σ.nt ∧ match ev1 σ x with | some s => sLoad T u s σ (fun s => K (σ.put dst (.v s))) | none => False) := rfl
theorem e_store {u : TypeId} {x y : Operand} : sOp P T ⟨dst, .store u x y, ty, pos, aft, g⟩ σ K = (dstOk dst σ.nt ∧ match ev1 σ x, ev1 σ y with | some s, some r => sStore T u s r σ (fun σ => K (σ.put dst .u)) | _, _ => False) := rfl
theorem e_nil {x : Operand} : sOp P T ⟨dst, .nilCheck x, ty, pos, aft, g⟩ σ K = (dstOk dst σ.nt ∧ match ev1 σ x with
    | some (.ptr b p) => (look σ.ob b).isSome = true ∧ K (σ.put dst (.v (.ptr b p)))
    | some (.vp t y) => K (σ.put dst (.v (.vp t y)))
    | _ => False) := rfl
theorem e_arr {d : TypeId} {x : Operand} : sOp P T ⟨dst, .sliceToArrayPointer d x, ty, pos, aft, g⟩ σ K = (dstOk dst σ.nt ∧ match ev1 σ x with | some s => sArr T d s σ (fun s => K (σ.put dst (.v s))) | none => False) := rfl
theorem e_make {t : TypeId} {x y : Operand} : sOp P T ⟨dst, .makeSlice t x y, ty, pos, aft, g⟩ σ K = (dstOk dst σ.nt ∧ match ev1 σ x, ev1 σ y with
    | some (.d (.int _) l), some (.d (.int _) c) => sMake T t l c σ (fun σ s => K (σ.put dst (.v s)))
    | _, _ => False) := rfl
theorem e_slice {u : TypeId} {x : Operand} {lo hi : Option Operand} : sOp P T ⟨dst, .slice u x lo hi none, ty, pos, aft, g⟩ σ K = (dstOk dst σ.nt ∧ match ev1 σ x, opInt σ lo, opInt σ hi with
    | some s, some l, some h => sSlice T u s l h σ (fun s => K (σ.put dst (.v s)))
    | _, _, _ => False) := rfl
theorem e_fieldAddr {u : TypeId} {x : Operand} {i : Nat} : sOp P T ⟨dst, .fieldAddr u x i, ty, pos, aft, g⟩ σ K = (dstOk dst σ.nt ∧ match ev1 σ x with | some s => sFieldAddr T u s i σ (fun s => K (σ.put dst (.v s))) | none => False) := rfl
theorem e_field {u : TypeId} {x : Operand} {i : Nat} : sOp P T ⟨dst, .field u x i, ty, pos, aft, g⟩ σ K = (dstOk dst σ.nt ∧ match ev1 σ x with | some s => sField T u s i σ (fun s => K (σ.put dst (.v s))) | none => False) := rfl
theorem e_indexAddr {u : TypeId} {x y : Operand} : sOp P T ⟨dst, .indexAddr u x y, ty, pos, aft, g⟩ σ K = (dstOk dst σ.nt ∧ match ev1 σ x, ev1 σ y with | some s, some (.d (.int _) i) => sIndexAddr T u s i σ (fun s => K (σ.put dst (.v s))) | _, _ => False) := rfl
theorem e_index {u : TypeId} {x y : Operand} : sOp P T ⟨dst, .index u x y, ty, pos, aft, g⟩ σ K = (dstOk dst σ.nt ∧ match ev1 σ x, ev1 σ y with | some s, some (.d (.int _) i) => sIndex T u s i (fun s => K (σ.put dst (.v s))) | _, _ => False) := rfl
theorem e_extract {x : Operand} {i : Nat} : sOp P T ⟨dst, .extract x i, ty, pos, aft, g⟩ σ K = (dstOk dst σ.nt ∧ sExtract (ev σ x) i (fun s => K (σ.put dst (.v s)))) := rfl
theorem e_len {x : Operand} {u : TypeId} : sOp P T ⟨dst, .call { callee := .builtin .len, args := #[x], argTypes := #[u] }, ty, pos, aft, g⟩ σ K = (dstOk dst σ.nt ∧ match ev1 σ x with | some s => sLen T u s (fun s => K (σ.put dst (.v s))) | none => False) := rfl
theorem e_append {x y : Operand} {t u : TypeId} : sOp P T ⟨dst, .call { callee := .builtin .append, args := #[x, y], argTypes := #[t, u] }, ty, pos, aft, g⟩ σ K = (dstOk dst σ.nt ∧ match ev1 σ x, ev1 σ y with | some s, some r => sAppend T t u s r σ (fun σ s => K (σ.put dst (.v s))) | _, _ => False) := rfl
theorem e_copy {x y : Operand} {t u : TypeId} : sOp P T ⟨dst, .call { callee := .builtin .copy, args := #[x, y], argTypes := #[t, u] }, ty, pos, aft, g⟩ σ K = (dstOk dst σ.nt ∧ match ev1 σ x, ev1 σ y with | some s, some r => sCopy T t u s r σ (fun σ s => K (σ.put dst (.v s))) | _, _ => False) := rfl
theorem e_min {x y : Operand} {us : Array TypeId} : sOp P T ⟨dst, .call { callee := .builtin .min, args := #[x, y], argTypes := us }, ty, pos, aft, g⟩ σ K = (dstOk dst σ.nt ∧ match ev1 σ x, ev1 σ y with
    | some (.d (.int k) l), some (.d (.int _) c) => K (σ.put dst (.v (.d (.int k) (.n (if c.int < l.int then c.int else l.int)))))
    | _, _ => False) := rfl
theorem e_max {x y : Operand} {us : Array TypeId} : sOp P T ⟨dst, .call { callee := .builtin .max, args := #[x, y], argTypes := us }, ty, pos, aft, g⟩ σ K = (dstOk dst σ.nt ∧ match ev1 σ x, ev1 σ y with
    | some (.d (.int k) l), some (.d (.int _) c) => K (σ.put dst (.v (.d (.int k) (.n (if l.int < c.int then c.int else l.int)))))
    | _, _ => False) := rfl
theorem e_call {f : FuncId} {xs : List Operand} {us : List TypeId} : sOp P T ⟨dst, .call { callee := .value (.func f), args := xs.toArray, argTypes := us.toArray }, ty, pos, aft, g⟩ σ K = (dstOk dst σ.nt ∧ match sArgs T σ xs us with
    | some l => HCall P f l (fun rs => K (retSt σ (aRefs σ xs) rs dst)) ()
    | none => False) := rfl

theorem e_region {w0 : Base} {id : Nat} {l : List Oper} {Q : Exit → St → Prop} : swp P T w0 (.region id l.toArray false) Q σ = sOps P T l.toArray l σ (fun σ => Q .normal σ) := rfl
theorem e_draw {w0 : Base} {id : Nat} {ops : Array Oper} {Q : Exit → St → Prop} : swp P T w0 (.region id ops true) Q σ = HDraw P w0 id ops Q σ () () := rfl
theorem e_seq {w0 : Base} {x y : Code} {Q : Exit → St → Prop} : swp P T w0 (.seq x y) Q σ = swp P T w0 x (sThen (fun σ => swp P T w0 y Q σ) Q) σ := rfl
theorem e_skip {w0 : Base} {Q : Exit → St → Prop} : swp P T w0 .skip Q σ = Q .normal σ := rfl
theorem e_label {w0 : Base} {i : Nat} {Q : Exit → St → Prop} : swp P T w0 (.label i) Q σ = Q .normal σ := rfl
theorem e_exit {w0 : Base} {i : Nat} {Q : Exit → St → Prop} : swp P T w0 (.exit i) Q σ = Q (.exit i) σ := rfl
theorem e_ret {w0 : Base} {Q : Exit → St → Prop} : swp P T w0 .ret Q σ = Q .ret σ := rfl
theorem e_block {w0 : Base} {i : Nat} {c : Code} {Q : Exit → St → Prop} : swp P T w0 (.block i c) Q σ = swp P T w0 c (sBlock i Q) σ := rfl
theorem e_loop {w0 : Base} {c : Code} {Q : Exit → St → Prop} : swp P T w0 (.loop c) Q σ = HLoop P w0 c Q σ () () := rfl
theorem e_cond {w0 : Base} {t : Nat} {x y : Code} {Q : Exit → St → Prop} : swp P T w0 (.cond (.tmp t) x y) Q σ = match look σ.tm t with
    | some (.v (.d .bool b)) => HIf b.bool (swp P T w0 x Q (σ.setB t true)) (swp P T w0 y Q (σ.setB t false)) () ()
    | _ => False := rfl

variable {ops : Array Oper} {l : List Oper} {op : Op}
theorem o_nil : sOps P T ops [] σ K = K σ := rfl
theorem o_plain : sOps P T ops (⟨dst, op, ty, pos, aft, none⟩ :: l) σ K = sOp P T ⟨dst, op, ty, pos, aft, none⟩ σ (fun σ => sOps P T ops l σ K) := rfl
theorem o_guard {j : Nat} {want : Bool} : sOps P T ops (⟨dst, op, ty, pos, aft, some (j, want)⟩ :: l) σ K =
    match gdst ops j with
    | some t => match look σ.tm t with
      | some (.v (.d .bool x)) => HIf x.bool
        (if want then sOp P T ⟨dst, op, ty, pos, aft, some (j, want)⟩ (σ.setB t true) (fun σ => sOps P T ops l σ K) else sSkip ⟨dst, op, ty, pos, aft, some (j, want)⟩ (σ.setB t true) (fun σ => sOps P T ops l σ K))
        (if want then sSkip ⟨dst, op, ty, pos, aft, some (j, want)⟩ (σ.setB t false) (fun σ => sOps P T ops l σ K) else sOp P T ⟨dst, op, ty, pos, aft, some (j, want)⟩ (σ.setB t false) (fun σ => sOps P T ops l σ K)) () ()
      | some .u => sSkip ⟨dst, op, ty, pos, aft, some (j, want)⟩ σ (fun σ => sOps P T ops l σ K)
      | _ => False
    | none => False := rfl
theorem gdst_zero {o : Oper} {l : List Oper} : gdst (o :: l).toArray 0 = o.dst := rfl
theorem gdst_succ {o : Oper} {l : List Oper} {n : Nat} : gdst (o :: l).toArray (n + 1) = gdst l.toArray n := by simp [gdst]
theorem o_skip {o : Oper} : sSkip o σ K = (dstOk o.dst σ.nt ∧ K (σ.put o.dst .u)) := rfl

theorem ev_tmp {nt nx : Nat} {tm : List (Nat × TV)} {ob : List (Nat × Ob)} {t : Nat} : ev ⟨nt, tm, ob, nx⟩ (.tmp t) = look tm t := rfl
theorem ev_int {k : IntKind} {n : Int} : ev σ (.const (.int k n)) = some (.v (.d (.int k) (.n n))) := rfl
theorem ev_bool {b : Bool} : ev σ (.const (.bool b)) = some (.v (.d .bool (.b b))) := rfl
theorem ev_str {s : ByteArray} : ev σ (.const (.string s)) = some (.v (.d .str (.s s))) := rfl
theorem ev_sl : ev σ (.const (.slice none 0 0)) = some (.v .nil) := rfl
theorem ev1_tmp {nt nx : Nat} {tm : List (Nat × TV)} {ob : List (Nat × Ob)} {t : Nat} : ev1 ⟨nt, tm, ob, nx⟩ (.tmp t) = match look tm t with | some (.v s) => some s | _ => none := rfl
theorem ev1_int {k : IntKind} {n : Int} : ev1 σ (.const (.int k n)) = some (.d (.int k) (.n n)) := rfl
theorem ev1_bool {b : Bool} : ev1 σ (.const (.bool b)) = some (.d .bool (.b b)) := rfl
theorem ev1_str {s : ByteArray} : ev1 σ (.const (.string s)) = some (.d .str (.s s)) := rfl
theorem ev1_sl : ev1 σ (.const (.slice none 0 0)) = some .nil := rfl
theorem put_some {nt nx : Nat} {tm : List (Nat × TV)} {ob : List (Nat × Ob)} {t : Nat} {v : TV} : St.put ⟨nt, tm, ob, nx⟩ (some t) v = ⟨nt, (t, v) :: tm, ob, nx⟩ := rfl
theorem put_none {v : TV} : St.put σ none v = σ := rfl
theorem setB_mk {nt nx : Nat} {tm : List (Nat × TV)} {ob : List (Nat × Ob)} {t : Nat} {b : Bool} : St.setB ⟨nt, tm, ob, nx⟩ t b = ⟨nt, (t, .v (.d .bool (.b b))) :: tm, ob, nx⟩ := rfl
theorem dst_none {n : Nat} : dstOk none n = True := rfl
theorem dst_some {n d : Nat} : dstOk (some d) n = (d < n) := rfl
end
section
variable {T : Tab} {t u : TypeId} {x y : SV} {σ : St} {K : St → SV → Prop}
theorem sCopy_held : sCopy T t u x y σ K = match Go.SE.look T t with
  | some (.sl e) =>
    match srcD T σ e u y with
    | some ds =>
      match slen x with
      | some len => HIf (decide (min ds.length len = 0)) (K σ (.d (.int .i64) (.n 0)))
        (match x with
         | .ref o p off len => match Go.SE.look σ.ob o with
           | some ob => match ob.c.get p with
             | some (.d (.arr N e') c) => e' = e ∧ (match ob.c.put p (.d (.arr N e) (.l (c.list.take off ++ ds.take (min ds.length len) ++ c.list.drop (off + min ds.length len)))) with
               | some c' => K { σ with ob := upd σ.ob o ⟨ob.t, c'⟩ } (.d (.int .i64) (.n (min ds.length len : Nat)))
               | none => False)
             | _ => False
           | none => False
         | _ => False) () ()
      | none => False
    | none => False
  | _ => False := rfl
end
section
variable {k k' : IntKind} {x y : D} {K : SV → Prop} {t' : Ty} {e : Ty} {n : Nat} {a b : Ty}
theorem b_add : sBin .add (.int k) x (.int k') y K = (k = k' ∧ K (.d (.int k) (.n (k.wrap (x.int + y.int))))) := rfl
theorem b_sub : sBin .sub (.int k) x (.int k') y K = (k = k' ∧ K (.d (.int k) (.n (k.wrap (x.int - y.int))))) := rfl
theorem b_mul : sBin .mul (.int k) x (.int k') y K = (k = k' ∧ K (.d (.int k) (.n (k.wrap (x.int * y.int))))) := rfl
theorem b_and : sBin .and (.int k) x (.int k') y K = (k = k' ∧ K (.d (.int k) (.n (bits .and k x.int y.int)))) := rfl
theorem b_or : sBin .or (.int k) x (.int k') y K = (k = k' ∧ K (.d (.int k) (.n (bits .or k x.int y.int)))) := rfl
theorem b_xor : sBin .xor (.int k) x (.int k') y K = (k = k' ∧ K (.d (.int k) (.n (bits .xor k x.int y.int)))) := rfl
theorem b_andNot : sBin .andNot (.int k) x (.int k') y K = (k = k' ∧ K (.d (.int k) (.n (bits .andNot k x.int y.int)))) := rfl
theorem b_shl : sBin .shl (.int k) x (.int k') y K = (0 ≤ y.int ∧ K (.d (.int k) (.n (k.wrap (x.int * 2 ^ min y.int.toNat k.bits))))) := rfl
theorem b_shr : sBin .shr (.int k) x (.int k') y K = (0 ≤ y.int ∧ K (.d (.int k) (.n (x.int.fdiv (2 ^ min y.int.toNat k.bits))))) := rfl
theorem b_quo : sBin .quo (.int k) x (.int k') y K = (k = k' ∧ y.int ≠ 0 ∧ K (.d (.int k) (.n (k.wrap (x.int.tdiv y.int))))) := rfl
theorem b_rem : sBin .rem (.int k) x (.int k') y K = (k = k' ∧ y.int ≠ 0 ∧ K (.d (.int k) (.n (x.int.tmod y.int)))) := rfl
theorem b_eql : sBin .eql (.int k) x (.int k') y K = (k = k' ∧ K (.d .bool (.b (decide (x.int = y.int))))) := rfl
theorem b_neq : sBin .neq (.int k) x (.int k') y K = (k = k' ∧ K (.d .bool (.b (!decide (x.int = y.int))))) := rfl
theorem b_lss : sBin .lss (.int k) x (.int k') y K = (k = k' ∧ K (.d .bool (.b (decide (x.int < y.int))))) := rfl
theorem b_leq : sBin .leq (.int k) x (.int k') y K = (k = k' ∧ K (.d .bool (.b (decide (x.int ≤ y.int))))) := rfl
theorem b_gtr : sBin .gtr (.int k) x (.int k') y K = (k = k' ∧ K (.d .bool (.b (decide (y.int < x.int))))) := rfl
theorem b_geq : sBin .geq (.int k) x (.int k') y K = (k = k' ∧ K (.d .bool (.b (decide (y.int ≤ x.int))))) := rfl
theorem b_seql : sBin .eql .str x .str y K = K (.d .bool (.b (x.str.toList == y.str.toList))) := rfl
theorem b_sneq : sBin .neq .str x .str y K = K (.d .bool (.b (!(x.str.toList == y.str.toList)))) := rfl
theorem b_sadd : sBin .add .str x .str y K = (x.str.size + y.str.size ≤ 9223372036854775807 ∧ K (.d .str (.s (x.str ++ y.str)))) := rfl
theorem b_beql : sBin .eql .bool x .bool y K = (Ty.bool = .bool ∧ Ty.cmp .bool = true ∧ Ty.depth .bool < 100 ∧ K (.d .bool (.b (x.bool == y.bool)))) := rfl
theorem b_bneq : sBin .neq .bool x .bool y K = (Ty.bool = .bool ∧ Ty.cmp .bool = true ∧ Ty.depth .bool < 100 ∧ K (.d .bool (.b (!(x.bool == y.bool))))) := rfl
theorem b_aeql : sBin .eql (.arr n e) x t' y K = (Ty.arr n e = t' ∧ Ty.cmp (.arr n e) = true ∧ Ty.depth (.arr n e) < 100 ∧ K (.d .bool (.b (deq (.arr n e) x y)))) := rfl
theorem b_aneq : sBin .neq (.arr n e) x t' y K = (Ty.arr n e = t' ∧ Ty.cmp (.arr n e) = true ∧ Ty.depth (.arr n e) < 100 ∧ K (.d .bool (.b (!deq (.arr n e) x y)))) := rfl
theorem b_ceql : sBin .eql (.cons a b) x t' y K = (Ty.cons a b = t' ∧ Ty.cmp (.cons a b) = true ∧ Ty.depth (.cons a b) < 100 ∧ K (.d .bool (.b (deq (.cons a b) x y)))) := rfl
theorem b_cneq : sBin .neq (.cons a b) x t' y K = (Ty.cons a b = t' ∧ Ty.cmp (.cons a b) = true ∧ Ty.depth (.cons a b) < 100 ∧ K (.d .bool (.b (!deq (.cons a b) x y)))) := rfl
end
def rep : Nat → D → List D
  | 0, _ => []
  | n + 1, x => x :: rep n x
theorem rep_zero {x : D} : rep 0 x = [] := rfl
theorem rep_succ {n : Nat} {x : D} : rep (n + 1) x = x :: rep n x := rfl
theorem rep_eq (n : Nat) (x : D) : List.replicate n x = rep n x := by induction n with
  | zero => rfl
  | succ n ih => rw [List.replicate_succ, ih, rep]
theorem sBuildS_held {T : Tab} {t : TypeId} {n : Nat} {parts : List (Nat × Operand)} {σ : St} {K : St → SV → Prop} : sBuildS T t n parts σ K = match Go.SE.look T t with
  | some (.sl e) => n * e.size ≤ 16777216 ∧ bldS σ e n parts (rep n e.zeroD) [] fun ds rs =>
      K { σ with ob := (σ.nx, ⟨.arr n e, .d (.arr n e) (.l ds)⟩) :: dels σ.ob rs, nx := σ.nx + 1 } (.ref σ.nx [] 0 n)
  | _ => False := by
  simp only [← rep_eq]; rfl
theorem retSt_mk {nt nx : Nat} {tm : List (Nat × TV)} {ob : List (Nat × Ob)} {rf : List Nat} {rs : List RV} {dst : Option Nat} :
    retSt ⟨nt, tm, ob, nx⟩ rf rs dst = (if rs.all RV.flat = true then ⟨nt, tm, app (newObs nx rs) ob, nx + rs.length⟩ else ⟨nt, tm, app (newObs nx rs) (dels ob rf), nx + rs.length⟩ : St).put dst (tvOf (newSVs nx rs)) := by
  unfold retSt
  split <;> rfl
theorem tv_one {x : SV} : tvOf [x] = .v x := rfl
theorem tv_nil : tvOf [] = .tup [] := rfl
theorem tv_two {x y : SV} {l : List SV} : tvOf (x :: y :: l) = .tup (x :: y :: l) := rfl
theorem rf_d {t : Ty} {x : D} : RV.flat (.d t x) = t.flat := rfl
theorem rf_own {t : Ty} {x : List D} : RV.flat (.own t x) = t.flat := rfl
theorem no_d {n : Nat} {t : Ty} {x : D} {rs : List RV} : newObs n (.d t x :: rs) = newObs (n + 1) rs := rfl
theorem no_own {n : Nat} {e : Ty} {ds : List D} {rs : List RV} : newObs n (.own e ds :: rs) = (n, ⟨.arr ds.length e, .d (.arr ds.length e) (.l ds)⟩) :: newObs (n + 1) rs := rfl
theorem no_nil {n : Nat} : newObs n [] = [] := rfl
theorem ns_d {n : Nat} {t : Ty} {x : D} {rs : List RV} : newSVs n (.d t x :: rs) = .d t x :: newSVs (n + 1) rs := rfl
theorem ns_own {n : Nat} {e : Ty} {ds : List D} {rs : List RV} : newSVs n (.own e ds :: rs) = .ref n [] 0 ds.length :: newSVs (n + 1) rs := rfl
theorem ns_nil {n : Nat} : newSVs n [] = [] := rfl
theorem fl_bool : Ty.flat .bool = true := rfl
theorem fl_int {k : IntKind} : Ty.flat (.int k) = true := rfl
theorem fl_str : Ty.flat .str = true := rfl
theorem fl_nil : Ty.flat .nil = true := rfl
theorem fl_arr {n : Nat} {e : Ty} : Ty.flat (.arr n e) = e.flat := rfl
theorem fl_sl {e : Ty} : Ty.flat (.sl e) = false := rfl
theorem fl_ptr : Ty.flat .ptr = false := rfl
theorem fl_cons {a b : Ty} : Ty.flat (.cons a b) = (a.flat && b.flat) := rfl
theorem s1_f {t : Ty} {i : Nat} : Ty.sub1 t (.f i) = t.subF i := by cases t <;> rfl
theorem s1_ix {n : Nat} {e : Ty} {i : Nat} : Ty.sub1 (.arr n e) (.ix i) = some e := rfl
theorem s1_win {n : Nat} {e : Ty} {o m : Nat} : Ty.sub1 (.arr n e) (.win o m) = some (.arr m e) := rfl
theorem ok_ix {n : Nat} {e : Ty} {i : Nat} : Ty.ok1 (.arr n e) (.ix i) = (i < n) := rfl
theorem ok_f {t : Ty} {i : Nat} : Ty.ok1 t (.f i) = True := by cases t <;> rfl
theorem sub_nil {t : Ty} : Ty.sub t [] = some t := by cases t <;> rfl
theorem sub_cons {t : Ty} {s : Step} {p : List Step} : Ty.sub t (s :: p) = (t.sub1 s).bind (·.sub p) := by cases t <;> rfl
theorem get_nil {v : SV} : SV.get v [] = some v := by cases v <;> rfl
theorem get_cons {v : SV} {s : Step} {p : List Step} : SV.get v (s :: p) = (v.step1 s).bind (·.get p) := by cases v <;> rfl
theorem put_nil {c v : SV} : SV.put c [] v = some v := by cases c <;> rfl
theorem put_cons {c v : SV} {s : Step} {p : List Step} : SV.put c (s :: p) v = (c.step1 s).bind fun u => (u.put p v).bind fun u' => c.set1 s u' := by cases c <;> rfl
theorem sf_d {t : Ty} {x : D} {i : Nat} : SV.stepF (.d t x) i = (t.subF i).map fun a => .d a (x.at i) := by cases i <;> rfl
theorem sf_zero {a b : SV} : SV.stepF (.acons a b) 0 = some a := rfl
theorem sf_succ {a b : SV} {i : Nat} : SV.stepF (.acons a b) (i + 1) = b.stepF i := rfl
theorem subF_zero {a b : Ty} : Ty.subF (.cons a b) 0 = some a := rfl
theorem subF_succ {a b : Ty} {i : Nat} : Ty.subF (.cons a b) (i + 1) = b.subF i := rfl
theorem st1_f {v : SV} {i : Nat} : SV.step1 v (.f i) = v.stepF i := by cases v <;> rfl
theorem st1_ix {n : Nat} {e : Ty} {x : D} {i : Nat} : SV.step1 (.d (.arr n e) x) (.ix i) = some (.d e (x.at i)) := rfl
theorem st1_win {n : Nat} {e : Ty} {x : D} {o m : Nat} : SV.step1 (.d (.arr n e) x) (.win o m) = some (.d (.arr m e) (.l ((x.list.drop o).take m))) := rfl
theorem se_f {c v : SV} {i : Nat} : SV.set1 c (.f i) v = c.setF i v := by cases c <;> rfl
theorem se_ix {n : Nat} {e a : Ty} {x y : D} {i : Nat} : SV.set1 (.d (.arr n e) x) (.ix i) (.d a y) = if a = e then some (.d (.arr n e) (.l (x.list.set i y))) else none := rfl
theorem deq_self : ∀ (t : Ty) (x : D), deq t x x = true
  | .bool, x => by simp [deq]
  | .int _, x => by simp [deq]
  | .str, x => by simp [deq]
  | .arr n e, x => by simp only [deq, List.all_eq_true]; exact fun i _ => deq_self e _
  | .cons a b, x => by simp only [deq, Bool.and_eq_true]; exact ⟨deq_self a _, deq_self b _⟩
  | .sl _, x => rfl
  | .nil, x => rfl
  | .ptr, x => rfl
theorem z_arr {n : Nat} {e : Ty} : Ty.zeroSV (.arr n e) = .d (.arr n e) (.l (List.replicate n e.zeroD)) := rfl
theorem z_int {k : IntKind} : Ty.zeroSV (.int k) = .d (.int k) (.n 0) := rfl
theorem z_bool : Ty.zeroSV .bool = .d .bool (.b false) := rfl
theorem z_str : Ty.zeroSV .str = .d .str (.s .empty) := rfl
theorem z_sl {e : Ty} : Ty.zeroSV (.sl e) = .nil := rfl
theorem z_nil : Ty.zeroSV .nil = .anil := rfl
theorem z_cons {a b : Ty} : Ty.zeroSV (.cons a b) = if (a.flat && b.flat) = true then .d (.cons a b) (Ty.cons a b).zeroD else .acons a.zeroSV b.zeroSV := rfl
theorem at_zero {x : D} {l : List D} : D.at (.l (x :: l)) 0 = x := rfl
theorem at_succ {x : D} {l : List D} {n : Nat} : D.at (.l (x :: l)) (n + 1) = D.at (.l l) n := rfl
theorem cast_lit {n : Nat} : ((no_index (OfNat.ofNat n : Nat) : Nat) : Int) = (OfNat.ofNat n : Int) := rfl
theorem tn_add (a b : Nat) : ((a : Int) + (b : Int)).toNat = a + b := by omega
theorem D.int_n {x : Int} : D.int (.n x) = x := rfl
theorem D.bool_b {x : Bool} : D.bool (.b x) = x := rfl
theorem D.str_s {x : ByteArray} : D.str (.s x) = x := rfl
theorem D.list_l {x : List D} : D.list (.l x) = x := rfl
theorem hasTy_d {σ : St} {t u : Ty} {x : D} : hasTy σ t (.d u x) = (u = t) := by cases t <;> rfl
theorem den_d {σ : St} {t u : Ty} {x : D} : den σ t (.d u x) = if u = t then some x else none := by cases t <;> rfl
theorem gpre : type_of% (And.intro @e_move (And.intro @e_assign (And.intro @e_bin (And.intro @e_un (And.intro @e_conv (And.intro @e_pick (And.intro @e_alloc (And.intro @e_box (And.intro @e_build (And.intro @e_buildS (And.intro @e_load (And.intro @e_store (And.intro @e_nil (And.intro @e_arr (And.intro @e_make (And.intro @e_slice (And.intro @e_fieldAddr (And.intro @e_field (And.intro @e_indexAddr (And.intro @e_index (And.intro @e_extract (And.intro @e_len (And.intro @e_append (And.intro @e_copy (And.intro @e_min (And.intro @e_max (And.intro @e_call (And.intro @e_region (And.intro @e_draw (And.intro @e_seq (And.intro @e_skip (And.intro @e_label (And.intro @e_exit (And.intro @e_ret (And.intro @e_block (And.intro @e_loop (And.intro @e_cond (And.intro @o_nil (And.intro @o_plain (And.intro @o_guard (And.intro @o_skip (And.intro @sThen_normal (And.intro @sThen_ret (And.intro @sThen_exit (And.intro @sBlock_normal (And.intro @sBlock_ret (And.intro @sBlock_exit (And.intro @sExit_ret (And.intro @sExit_normal (And.intro @b_add (And.intro @b_sub (And.intro @b_mul (And.intro @b_and (And.intro @b_or (And.intro @b_xor (And.intro @b_andNot (And.intro @b_shl (And.intro @b_shr (And.intro @b_quo (And.intro @b_rem (And.intro @b_eql (And.intro @b_neq (And.intro @b_lss (And.intro @b_leq (And.intro @b_gtr (And.intro @b_geq (And.intro @b_seql (And.intro @b_sneq (And.intro @b_sadd (And.intro @b_beql (And.intro @b_bneq (And.intro @b_aeql (And.intro @b_aneq (And.intro @b_ceql (And.intro @b_cneq (And.intro @sUn.eq_def (And.intro @sConv.eq_def (And.intro @sLen.eq_def (And.intro @sBounds.eq_def (And.intro @sSlice.eq_def (And.intro @sMake.eq_def (And.intro @sAppend.eq_def (And.intro @sLoad.eq_def (And.intro @sStore.eq_def (And.intro @sIndexAddr.eq_def (And.intro @sIndex.eq_def (And.intro @sFieldAddr.eq_def (And.intro @sField.eq_def (And.intro @sExtract.eq_def (And.intro @sAlloc.eq_def (And.intro @sBox.eq_def (And.intro @sArr.eq_def (And.intro @sCopy_held (And.intro @sBuildS_held (And.intro @sBuild.eq_def (And.intro @sRet.eq_def (And.intro @HIf_true (@HIf_false)))))))))))))))))))))))))))))))))))))))))))))))))))))))))))))))))))))))))))))))))))))))))))))))))) := And.intro @e_move (And.intro @e_assign (And.intro @e_bin (And.intro @e_un (And.intro @e_conv (And.intro @e_pick (And.intro @e_alloc (And.intro @e_box (And.intro @e_build (And.intro @e_buildS (And.intro @e_load (And.intro @e_store (And.intro @e_nil (And.intro @e_arr (And.intro @e_make (And.intro @e_slice (And.intro @e_fieldAddr (And.intro @e_field (And.intro @e_indexAddr (And.intro @e_index (And.intro @e_extract (And.intro @e_len (And.intro @e_append (And.intro @e_copy (And.intro @e_min (And.intro @e_max (And.intro @e_call (And.intro @e_region (And.intro @e_draw (And.intro @e_seq (And.intro @e_skip (And.intro @e_label (And.intro @e_exit (And.intro @e_ret (And.intro @e_block (And.intro @e_loop (And.intro @e_cond (And.intro @o_nil (And.intro @o_plain (And.intro @o_guard (And.intro @o_skip (And.intro @sThen_normal (And.intro @sThen_ret (And.intro @sThen_exit (And.intro @sBlock_normal (And.intro @sBlock_ret (And.intro @sBlock_exit (And.intro @sExit_ret (And.intro @sExit_normal (And.intro @b_add (And.intro @b_sub (And.intro @b_mul (And.intro @b_and (And.intro @b_or (And.intro @b_xor (And.intro @b_andNot (And.intro @b_shl (And.intro @b_shr (And.intro @b_quo (And.intro @b_rem (And.intro @b_eql (And.intro @b_neq (And.intro @b_lss (And.intro @b_leq (And.intro @b_gtr (And.intro @b_geq (And.intro @b_seql (And.intro @b_sneq (And.intro @b_sadd (And.intro @b_beql (And.intro @b_bneq (And.intro @b_aeql (And.intro @b_aneq (And.intro @b_ceql (And.intro @b_cneq (And.intro @sUn.eq_def (And.intro @sConv.eq_def (And.intro @sLen.eq_def (And.intro @sBounds.eq_def (And.intro @sSlice.eq_def (And.intro @sMake.eq_def (And.intro @sAppend.eq_def (And.intro @sLoad.eq_def (And.intro @sStore.eq_def (And.intro @sIndexAddr.eq_def (And.intro @sIndex.eq_def (And.intro @sFieldAddr.eq_def (And.intro @sField.eq_def (And.intro @sExtract.eq_def (And.intro @sAlloc.eq_def (And.intro @sBox.eq_def (And.intro @sArr.eq_def (And.intro @sCopy_held (And.intro @sBuildS_held (And.intro @sBuild.eq_def (And.intro @sRet.eq_def (And.intro @HIf_true (@HIf_false)))))))))))))))))))))))))))))))))))))))))))))))))))))))))))))))))))))))))))))))))))))))))))))))))
theorem gpost : type_of% (And.intro @gdst_zero (And.intro @gdst_succ (And.intro @ev_tmp (And.intro @ev_int (And.intro @ev_bool (And.intro @ev_str (And.intro @ev_sl (And.intro @ev1_tmp (And.intro @ev1_int (And.intro @ev1_bool (And.intro @ev1_str (And.intro @ev1_sl (And.intro @put_some (And.intro @put_none (And.intro @setB_mk (And.intro @dst_none (And.intro @dst_some (And.intro @D.int_n (And.intro @D.bool_b (And.intro @D.str_s (And.intro @D.list_l (And.intro @hasTy_d (And.intro @den_d (And.intro @HIf_true (And.intro @HIf_false (And.intro @sub_nil (And.intro @sub_cons (And.intro @s1_f (And.intro @s1_ix (And.intro @s1_win (And.intro @ok_ix (And.intro @ok_f (And.intro @subF_zero (And.intro @subF_succ (And.intro @sf_d (And.intro @sf_zero (And.intro @sf_succ (And.intro @get_nil (And.intro @get_cons (And.intro @put_nil (And.intro @put_cons (And.intro @st1_f (And.intro @st1_ix (And.intro @st1_win (And.intro @se_f (And.intro @se_ix (And.intro @tn_add (And.intro @deq_self (And.intro @z_arr (And.intro @z_int (And.intro @z_bool (And.intro @z_str (And.intro @z_sl (And.intro @z_nil (And.intro @z_cons (And.intro @at_zero (And.intro @at_succ (And.intro @cast_lit (And.intro @rep_zero (And.intro @rep_succ (And.intro @retSt_mk (And.intro @tv_one (And.intro @tv_nil (And.intro @tv_two (And.intro @rf_d (And.intro @rf_own (And.intro @no_d (And.intro @no_own (And.intro @no_nil (And.intro @ns_d (And.intro @ns_own (And.intro @ns_nil (And.intro @fl_bool (And.intro @fl_int (And.intro @fl_str (And.intro @fl_nil (And.intro @fl_arr (And.intro @fl_sl (And.intro @fl_ptr (@fl_cons)))))))))))))))))))))))))))))))))))))))))))))))))))))))))))))))))))))))))))))))) := And.intro @gdst_zero (And.intro @gdst_succ (And.intro @ev_tmp (And.intro @ev_int (And.intro @ev_bool (And.intro @ev_str (And.intro @ev_sl (And.intro @ev1_tmp (And.intro @ev1_int (And.intro @ev1_bool (And.intro @ev1_str (And.intro @ev1_sl (And.intro @put_some (And.intro @put_none (And.intro @setB_mk (And.intro @dst_none (And.intro @dst_some (And.intro @D.int_n (And.intro @D.bool_b (And.intro @D.str_s (And.intro @D.list_l (And.intro @hasTy_d (And.intro @den_d (And.intro @HIf_true (And.intro @HIf_false (And.intro @sub_nil (And.intro @sub_cons (And.intro @s1_f (And.intro @s1_ix (And.intro @s1_win (And.intro @ok_ix (And.intro @ok_f (And.intro @subF_zero (And.intro @subF_succ (And.intro @sf_d (And.intro @sf_zero (And.intro @sf_succ (And.intro @get_nil (And.intro @get_cons (And.intro @put_nil (And.intro @put_cons (And.intro @st1_f (And.intro @st1_ix (And.intro @st1_win (And.intro @se_f (And.intro @se_ix (And.intro @tn_add (And.intro @deq_self (And.intro @z_arr (And.intro @z_int (And.intro @z_bool (And.intro @z_str (And.intro @z_sl (And.intro @z_nil (And.intro @z_cons (And.intro @at_zero (And.intro @at_succ (And.intro @cast_lit (And.intro @rep_zero (And.intro @rep_succ (And.intro @retSt_mk (And.intro @tv_one (And.intro @tv_nil (And.intro @tv_two (And.intro @rf_d (And.intro @rf_own (And.intro @no_d (And.intro @no_own (And.intro @no_nil (And.intro @ns_d (And.intro @ns_own (And.intro @ns_nil (And.intro @fl_bool (And.intro @fl_int (And.intro @fl_str (And.intro @fl_nil (And.intro @fl_arr (And.intro @fl_sl (And.intro @fl_ptr (@fl_cons)))))))))))))))))))))))))))))))))))))))))))))))))))))))))))))))))))))))))))))))
theorem agg_arr {n : Nat} {e : Ty} : Ty.agg (.arr n e) = true := rfl
theorem agg_cons {a b : Ty} : Ty.agg (.cons a b) = true := rfl
theorem agg_nil : Ty.agg .nil = true := rfl
theorem stp_arr {n : Nat} {e : Ty} {i : Nat} : Ty.stp (.arr n e) i = .ix i := rfl
theorem stp_cons {a b : Ty} {i : Nat} : Ty.stp (.cons a b) i = .f i := rfl
theorem stp_nil {i : Nat} : Ty.stp .nil i = .f i := rfl
theorem e_scope {P : Program} {T : Tab} {w0 : Base} {c : Code} {Q : Exit → St → Prop} {σ : St} : swp P T w0 (.scope c) Q σ = swp P T w0 c (sScope Q) σ := rfl
theorem tn_lit {a n : Nat} : ((a : Int) + (no_index (OfNat.ofNat n : Int))).toNat = a + OfNat.ofNat n := by
  show ((a : Int) + (n : Int)).toNat = a + n
  omega
theorem gmore : type_of% (And.intro @e_scope (And.intro @sScope_normal (And.intro @sScope_ret (And.intro @sScope_exit (And.intro @agg_arr (And.intro @agg_cons (And.intro @agg_nil (And.intro @stp_arr (And.intro @stp_cons (And.intro @stp_nil (@tn_lit))))))))))) := And.intro @e_scope (And.intro @sScope_normal (And.intro @sScope_ret (And.intro @sScope_exit (And.intro @agg_arr (And.intro @agg_cons (And.intro @agg_nil (And.intro @stp_arr (And.intro @stp_cons (And.intro @stp_nil (@tn_lit))))))))))
theorem len_rev {α : Type} {l₁ l₂ : List α} : l₁.length + l₂.length = (l₁ ++ l₂).length := List.length_append.symm
theorem gall : type_of% (And.intro @eq_self.{1} (And.intro @Int.toNat_natCast (And.intro @Int.toNat_zero (And.intro @decide_true (And.intro @decide_false (And.intro @Bool.not_true (And.intro @Bool.not_false (And.intro @true_and (And.intro @and_true (And.intro @Bool.false_eq_true (And.intro @Option.isSome_some.{0} (And.intro @Option.some.injEq.{0} (And.intro @Option.bind_some.{0, 0} (And.intro @Option.map_some.{0, 0} (And.intro @tyIf.eq_def (And.intro @slen.eq_def (And.intro @opInt.eq_def (And.intro @srcD.eq_def (And.intro @rv1.eq_def (And.intro @resSV.eq_def (And.intro @List.cons_append.{0} (And.intro @List.nil_append.{0} (And.intro @List.append_nil.{0} (And.intro @List.length_cons.{0} (And.intro @List.length_nil.{0} (And.intro @BEq.rfl.{0} (And.intro @IntWalk.i64_in (And.intro @IntWalk.u64_in (And.intro @IntWalk.u32_in (And.intro @IntWalk.u16_in (And.intro @IntWalk.u8_in (And.intro @List.drop_zero.{0} (And.intro @List.set_cons_zero.{0} (And.intro @List.set_cons_succ.{0} (And.intro @List.take_succ_cons.{0} (And.intro @List.take_zero.{0} (And.intro @Nat.zero_add (And.intro @Nat.mul_one (And.intro @len_rev (And.intro @List.take_length.{0} (And.intro @List.take_nil.{0} (And.intro @List.drop_nil.{0} (And.intro @List.drop_succ_cons.{0} (And.intro @List.replicate_zero.{0} (And.intro @List.all_cons.{0} (And.intro @List.all_nil.{0} (And.intro @Bool.and_true (And.intro @Bool.true_and (And.intro @Bool.and_self (And.intro @List.getElem?_cons_zero.{0} (And.intro @List.getElem?_cons_succ.{0} (And.intro @Bool.false_and (@Bool.and_false))))))))))))))))))))))))))))))))))))))))))))))))))))) := And.intro @eq_self.{1} (And.intro @Int.toNat_natCast (And.intro @Int.toNat_zero (And.intro @decide_true (And.intro @decide_false (And.intro @Bool.not_true (And.intro @Bool.not_false (And.intro @true_and (And.intro @and_true (And.intro @Bool.false_eq_true (And.intro @Option.isSome_some.{0} (And.intro @Option.some.injEq.{0} (And.intro @Option.bind_some.{0, 0} (And.intro @Option.map_some.{0, 0} (And.intro @tyIf.eq_def (And.intro @slen.eq_def (And.intro @opInt.eq_def (And.intro @srcD.eq_def (And.intro @rv1.eq_def (And.intro @resSV.eq_def (And.intro @List.cons_append.{0} (And.intro @List.nil_append.{0} (And.intro @List.append_nil.{0} (And.intro @List.length_cons.{0} (And.intro @List.length_nil.{0} (And.intro @BEq.rfl.{0} (And.intro @IntWalk.i64_in (And.intro @IntWalk.u64_in (And.intro @IntWalk.u32_in (And.intro @IntWalk.u16_in (And.intro @IntWalk.u8_in (And.intro @List.drop_zero.{0} (And.intro @List.set_cons_zero.{0} (And.intro @List.set_cons_succ.{0} (And.intro @List.take_succ_cons.{0} (And.intro @List.take_zero.{0} (And.intro @Nat.zero_add (And.intro @Nat.mul_one (And.intro @len_rev (And.intro @List.take_length.{0} (And.intro @List.take_nil.{0} (And.intro @List.drop_nil.{0} (And.intro @List.drop_succ_cons.{0} (And.intro @List.replicate_zero.{0} (And.intro @List.all_cons.{0} (And.intro @List.all_nil.{0} (And.intro @Bool.and_true (And.intro @Bool.true_and (And.intro @Bool.and_self (And.intro @List.getElem?_cons_zero.{0} (And.intro @List.getElem?_cons_succ.{0} (And.intro @Bool.false_and (@Bool.and_false))))))))))))))))))))))))))))))))))))))))))))))))))))
end Go.SE
