/- The operations on values: what they come to, symbolically, and that they do. -/
import Derived.Test.YtbdalbibdkipcaaSeD
import Derived.Laws.BitsLemmas
import Derived.ChangeKeysEq
set_option linter.unusedVariables false
set_option linter.unusedSimpArgs false
set_option linter.constructorNameAsVariable false
namespace Go.SE
open Go.RowKit (Below)

def cst : Value → Option TV
  | .int k n => some (.v (.d (.int k) (.n n)))
  | .bool b => some (.v (.d .bool (.b b)))
  | .string s => some (.v (.d .str (.s s)))
  | .slice none 0 0 => some (.v .nil)
  | _ => none

def ev (σ : St) : Operand → Option TV
  | .tmp t => look σ.tm t
  | .const v => cst v
  | _ => none

def ev1 (σ : St) (x : Operand) : Option SV :=
  match ev σ x with
  | some (.v s) => some s
  | _ => none

def sIf (b : Bool) (t f : Prop) : Prop := (b = true → t) ∧ (b = false → f)
@[congr] theorem sIf_congr {b b' : Bool} {t f : Prop} (h : b = b') : sIf b t f = sIf b' t f := by rw [h]
theorem sIf_true {t f : Prop} : sIf true t f = t := by simp [sIf]
theorem sIf_false {t f : Prop} : sIf false t f = f := by simp [sIf]
theorem sIf_mk {b : Bool} {t f : Prop} (h1 : b = true → t) (h2 : b = false → f) : sIf b t f := ⟨h1, h2⟩

/-- Equality of data at a type. -/
def deq : Ty → D → D → Bool
  | .bool, x, y => x.bool == y.bool
  | .int _, x, y => x.int == y.int
  | .str, x, y => x.str.toList == y.str.toList
  | .arr n e, x, y => (List.range n).all fun i => deq e (x.at i) (y.at i)
  | .cons a b, x, y => deq a (x.at 0) (y.at 0) && deq b (.l x.list.tail) (.l y.list.tail)
  | _, _, _ => true
def Ty.cmp : Ty → Bool
  | .bool | .int _ | .str | .nil => true
  | .arr _ e => e.cmp
  | .cons a b => a.cmp && b.cmp
  | _ => false
def Ty.depth : Ty → Nat
  | .arr _ e => e.depth + 1
  | .cons a b => max (a.depth + 1) b.depth
  | _ => 1

def sCmp (op : BinOp) (x y : Int) : Option Bool :=
  match op with
  | .eql => some (decide (x = y)) | .neq => some (!decide (x = y)) | .lss => some (decide (x < y)) | .leq => some (decide (x ≤ y)) | .gtr => some (decide (y < x)) | .geq => some (decide (y ≤ x))
  | _ => none
def sArith (op : BinOp) (k : IntKind) (x y : Int) : Option Int :=
  match op with
  | .add => some (k.wrap (x + y)) | .sub => some (k.wrap (x - y)) | .mul => some (k.wrap (x * y))
  | .and | .or | .xor | .andNot => some (bits op k x y)
  | _ => none
def sStr (op : BinOp) (x y : ByteArray) : Option Bool :=
  match op with
  | .eql => some (x.toList == y.toList) | .neq => some (!(x.toList == y.toList))
  | .lss => some (Op.bytesLess x.toList y.toList) | .geq => some (!Op.bytesLess x.toList y.toList)
  | .leq => some (Op.bytesLess x.toList y.toList || x.toList == y.toList) | .gtr => some (!(Op.bytesLess x.toList y.toList || x.toList == y.toList))
  | _ => none

def sBin (op : BinOp) (t : Ty) (x : D) (t' : Ty) (y : D) (K : SV → Prop) : Prop :=
  match t, t' with
  | .int k, .int k' =>
    match op with
    | .shl => 0 ≤ y.int ∧ K (.d (.int k) (.n (k.wrap (x.int * 2 ^ min y.int.toNat k.bits))))
    | .shr => 0 ≤ y.int ∧ K (.d (.int k) (.n (x.int.fdiv (2 ^ min y.int.toNat k.bits))))
    | .quo => k = k' ∧ y.int ≠ 0 ∧ K (.d (.int k) (.n (k.wrap (x.int.tdiv y.int))))
    | .rem => k = k' ∧ y.int ≠ 0 ∧ K (.d (.int k) (.n (x.int.tmod y.int)))
    | op => k = k' ∧ (match sArith op k x.int y.int with
      | some z => K (.d (.int k) (.n z))
      | none => match sCmp op x.int y.int with | some b => K (.d .bool (.b b)) | none => False)
  | .str, .str =>
    match op with
    | .add => x.str.size + y.str.size ≤ 9223372036854775807 ∧ K (.d .str (.s (x.str ++ y.str)))
    | op => match sStr op x.str y.str with | some b => K (.d .bool (.b b)) | none => False
  | t, t' => t = t' ∧ t.cmp = true ∧ t.depth < 100 ∧
    match op with
    | .eql => K (.d .bool (.b (deq t x y)))
    | .neq => K (.d .bool (.b (!deq t x y)))
    | _ => False

def sUn (op : UnOp) (t : Ty) (x : D) (K : SV → Prop) : Prop :=
  match op, t with
  | .neg, .int k => K (.d (.int k) (.n (k.wrap (0 - x.int))))
  | .xor, .int k => K (.d (.int k) (.n (bits .xor k (if k.signed then -1 else k.max) x.int)))
  | .not, .bool => K (.d .bool (.b (!x.bool)))
  | _, _ => False

section
variable {P : Program} {w0 : Base} {om : Om} {σ : St} {a : Act} {w : World}

theorem Val1.data {M : Nat → Prop} {t : Ty} {x : D} {v : Value} (h : Val1 w om M (.d t x) v) : RdV w (fun b => ¬ M b) t v x := by
  obtain ⟨t', ⟨h0, h1⟩, h2⟩ := h
  subst h0
  exact ⟨h1, h2⟩

theorem Val1.of {M : Nat → Prop} {t : Ty} {x : D} {v : Value} (h : RdV w (fun b => ¬ M b) t v x) : Val1 w om M (.d t x) v := ⟨t, ⟨rfl, h.1⟩, h.2⟩

theorem cst_ok {M : Nat → Prop} {v : Value} {x : TV} (h : cst v = some x) : TVok w om M x v := by
  unfold cst at h
  split at h
  · cases h; exact Val1.of (RdV.mk_int _ _)
  · cases h; exact Val1.of (RdV.mk_bool _)
  · cases h; exact Val1.of (RdV.mk_str _)
  · cases h; exact ⟨.sl .bool, ⟨⟨_, rfl⟩, none, rfl⟩, rfl⟩
  · cases h

theorem R0.ev (h : R0 w0 om σ a w) {x : Operand} {v : TV} (he : ev σ x = some v) : TVok w om (Mb σ.ob om) v (a.eval x) := by
  cases x with
  | tmp t => exact h.tm t v he
  | const c => exact cst_ok he
  | global _ => cases he
  | func _ => cases he

theorem R0.ev1 (h : R0 w0 om σ a w) {x : Operand} {s : SV} (he : ev1 σ x = some s) : Val1 w om (Mb σ.ob om) s (a.eval x) := by
  unfold SE.ev1 at he
  split at he
  · rename_i s' hs
    cases he
    exact h.ev hs
  · cases he

def dstOk (dst : Option Nat) (nt : Nat) : Prop := match dst with | some d => d < nt | none => True

def After (w0 : Base) (K : St → Prop) : Act → World → Prop := fun a w => ∃ σ, R w0 σ a w ∧ K σ

/-- An operation that comes to a value and leaves the heap as it is. -/
def VStep (P : Program) (w0 : Base) (o : Oper) (a : Act) (w : World) (K : St → Prop) : Prop :=
  ∃ v, (∀ w', Below w.heap.size w w' → (execOp a.eval o).run P w' = .ok (.value v) w') ∧ After w0 K (a.put o.dst v) w

theorem VStep.wp {o : Oper} {Q : Exit → Act → World → Prop} {K : St → Prop} (h : VStep P w0 o a w K) : o.wp P a w (After w0 K) Q := by
  obtain ⟨v, hr, hK⟩ := h
  unfold Oper.wp
  rw [hr w (Below.refl _ _), Oper.upon_value]
  exact hK

theorem Below.hp {w' : World} {b : Nat} {x : Obj} (h : Below w.heap.size w w') (hx : w.heap[b]? = some x) : w'.heap[b]? = some x := by
  rw [h.block b (Array.getElem?_eq_some_iff.1 hx).1]; exact hx

theorem RdV.grow {w' : World} {M : Nat → Prop} {t : Ty} {v : Value} {d : D} (hw : Below w.heap.size w w') (h : RdV w (fun b => ¬ M b) t v d) : RdV w' (fun b => ¬ M b) t v d :=
  RdV.mono (fun _ _ hb ho => ⟨hb, Below.hp hw ho⟩) h

theorem val_det {v v' : Value} (h : v.cells.toList = v'.cells.toList) (ha : vAgg v = vAgg v') : v = v' := by
  cases v <;> cases v' <;> simp_all [Value.cells, vAgg]
  all_goals first | exact Array.toList_inj.1 h | trivial

theorem wp_val {o : Oper} {K : St → Prop} (h : R0 w0 om σ a w) (hd : dstOk o.dst σ.nt) {v : Value} {x : TV}
    (hr : ∀ w', Below w.heap.size w w' → (execOp a.eval o).run P w' = .ok (.value v) w') (hx : TVok w om (Mb σ.ob om) x v) (hK : K (σ.put o.dst x)) : VStep P w0 o a w K := by
  refine ⟨v, hr, _, ⟨om, h.put o.dst x v (fun d e => ?_) hx⟩, hK⟩
  rw [e] at hd; exact hd

theorem wp_move {o : Oper} {x : Operand} {K : St → Prop} {v : TV} (ho : o.op = .move x ∨ o.op = .assign x) (h : R0 w0 om σ a w) (hd : dstOk o.dst σ.nt) (he : ev σ x = some v)
    (hK : K (σ.put o.dst v)) : VStep P w0 o a w K :=
  wp_val h hd (v := a.eval x) (fun w' _ => by rcases ho with ho | ho <;> simp [execOp, ho]) (h.ev he) hK

theorem run_intCmp (op : BinOp) (t : TypeId) (k : IntKind) (x y : Int) (b : Bool) (h : sCmp op x y = some b) : (binOp op t (.int k x) (.int k y)).run P w = .ok (.bool b) w := by
  cases op <;> simp only [sCmp, Option.some.injEq, reduceCtorEq] at h <;> subst h <;> simp only [binOp, Op.intCmp, ne_eq, not_true_eq_false, if_false, Sem.run_pure] <;> rfl

theorem run_intArith (op : BinOp) (t : TypeId) (k : IntKind) (x y z : Int) (h : sArith op k x y = some z) : (binOp op t (.int k x) (.int k y)).run P w = .ok (.int k z) w := by
  cases op <;> simp [sArith] at h <;> subst h <;> simp [binOp, Op.intArith, Op.intBits, bits]

theorem run_eqGuard_one (op : BinOp) (t : TypeId) (x y : Operand) (u v : Value) (h : u.oneCell' = true) (hn : u ≠ .nilIface) : (eqGuard op t x y u v).run P w = .ok () w := by
  unfold eqGuard
  cases op <;> simp <;> (split <;> simp_all [Value.oneCell'])

theorem run_part {t : Ty} {u : TypeId} (ht : TyOk P t u) {cs : Array Value} {off : Nat} (hn : off + t.size ≤ cs.size) (h1 : ∀ v ∈ (cs.toList.drop off).take t.size, v.oneCell' = true) :
    ∃ v, (∀ w, (part u cs off).run P w = .ok v w) ∧ v.cells.toList = (cs.toList.drop off).take t.size ∧ vAgg v = t.agg := by
  cases ha : t.agg with
  | true =>
    refine ⟨.agg (cs.extract off (off + t.size)), ?_, ?_, rfl⟩
    · intro w; simp [part, ht.isAgg, ht.sizeOf, ha]
    · simp [Value.cells, List.extract_eq_take_drop]
  | false =>
    have hs := one_of_notAgg ha
    have ho : off < cs.size := by omega
    have he : (cs.toList.drop off).take t.size = [cs[off]] := by
      rw [hs]
      apply List.ext_getElem?
      intro j
      rw [List.getElem?_take]
      cases j with
      | zero => simp [ho]
      | succ j => simp
    have h2 := h1 cs[off] (by rw [he]; simp)
    refine ⟨cs[off], ?_, by rw [he, cells_of_one h2], isAgg_of_one h2⟩
    intro w; simp [part, ht.isAgg, ha, ho]

theorem ReadL.at {p : List Value → D → Prop} {sz : Nat} {cs : List Value} {ds : List D} (h : ReadL p sz cs ds) {i : Nat} (hi : i < ds.length) : p ((cs.drop (i * sz)).take sz) ((D.l ds).at i) := ReadL.get h hi

mutual
theorem run_equalIn {S S' : Nat → Prop} : ∀ {t : Ty} {u : TypeId} {d : Nat} {x y : Value} {dx dy : D}, TyOk P t u → t.cmp = true → t.depth ≤ d → RdV w S t x dx → RdV w S' t y dy → (Op.equalIn d u x y).run P w = .ok (deq t dx dy) w
  | .bool, u, d + 1, x, y, dx, dy, ht, _, _, hx, hy => by
    obtain ⟨p, rfl, rfl⟩ := hx.bool
    obtain ⟨q, rfl, rfl⟩ := hy.bool
    rw [run_equalIn_bool w d u p q ht.1]; rfl
  | .int k, u, d + 1, x, y, dx, dy, ht, _, _, hx, hy => by
    obtain ⟨p, rfl, rfl⟩ := hx.int
    obtain ⟨q, rfl, rfl⟩ := hy.int
    rw [run_equalIn_int w d u k k p q ht.1]; rfl
  | .str, u, d + 1, x, y, dx, dy, ht, _, _, hx, hy => by
    obtain ⟨p, rfl, rfl⟩ := hx.str
    obtain ⟨q, rfl, rfl⟩ := hy.str
    rw [run_equalIn_string w d u p q ht.1]; rfl
  | .nil, u, d + 1, x, y, dx, dy, ht, hc, hd, hx, hy => by
    obtain ⟨xs, rfl, hx'⟩ := hx.agg rfl
    obtain ⟨ys, rfl, hy'⟩ := hy.agg rfl
    obtain ⟨⟨fs, hu, hf, hs⟩, _⟩ := ht
    have hfo : P.fieldsOf u = fs := by simp [Program.fieldsOf, hu]
    rw [run_equalIn_struct w d u xs ys (by rw [hfo]; exact hu) hs, hfo, hf]
    simp [Op.eqFields, deq]
  | .cons a b, u, d + 1, x, y, dx, dy, ht, hc, hd, hx, hy => by
    obtain ⟨xs, rfl, hx'⟩ := hx.agg rfl
    obtain ⟨ys, rfl, hy'⟩ := hy.agg rfl
    obtain ⟨⟨fs, f, r, hu, hf, hs, hz, hn, ho, hta, htb⟩, _⟩ := ht
    have hfo : P.fieldsOf u = fs := by simp [Program.fieldsOf, hu]
    rw [run_equalIn_struct w d u xs ys (by rw [hfo]; exact hu) hs, hfo, hf]
    have := run_eqFs (t := .cons a b) (fs := f :: r) (off := 0) (d := d) (xs := xs) (ys := ys) (dx := dx) (dy := dy) ⟨hz, hn, ho, hta, by simpa using htb⟩ hc (by simp only [Ty.depth] at hd ⊢; omega) (by simpa using hx') (by simpa using hy')
    exact this
  | .arr n e, u, d + 1, x, y, dx, dy, ht, hc, hd, hx, hy => by
    obtain ⟨xs, rfl, hx'⟩ := hx.agg rfl
    obtain ⟨ys, rfl, hy'⟩ := hy.agg rfl
    obtain ⟨⟨v, hu, hte⟩, _⟩ := ht
    obtain ⟨i, hi, hsz, _⟩ := hte.info
    rw [run_equalIn_array w d xs ys hu hi]
    have hco : P.cellsOf v = e.size := by simp [Program.cellsOf, hi, hsz]
    rw [hco]
    simp only [deq]
    have hlx := hx'.length
    have hly := hy'.length
    obtain ⟨dsx, hdx, hnx, hrx⟩ := hx'
    obtain ⟨dsy, hdy, hny, hry⟩ := hy'
    subst hdx; subst hdy
    have key : ∀ is : List Nat, (∀ i ∈ is, i < n) → (Op.eqItems d v e.size xs ys is).run P w = .ok (is.all fun i => deq e ((D.l dsx).at i) ((D.l dsy).at i)) w := by
      intro is
      induction is with
      | nil => intro _; simp [Op.eqItems]
      | cons j is ih =>
        intro hin
        have hj : j < n := hin j (by simp)
        have hjs : j * e.size + e.size ≤ n * e.size := by rw [← Nat.succ_mul]; exact Nat.mul_le_mul_right _ hj
        have rx := ReadL.at hrx (i := j) (by omega)
        have ry := ReadL.at hry (i := j) (by omega)
        simp only [Ty.size, Array.length_toList] at hlx hly
        obtain ⟨vx, px, cx, ax⟩ := run_part (P := P) hte (cs := xs) (off := j * e.size) (by omega) (fun v hv => rx.one v hv)
        obtain ⟨vy, py, cy, ay⟩ := run_part (P := P) hte (cs := ys) (off := j * e.size) (by omega) (fun v hv => ry.one v hv)
        have he := run_equalIn (S := S) (S' := S') (d := d) hte hc (by simp only [Ty.depth] at hd; omega) (x := vx) (y := vy) ⟨by rw [cx]; exact rx, ax⟩ ⟨by rw [cy]; exact ry, ay⟩
        simp only [Op.eqItems, Sem.run_bind, px, py, he, Result.andThen_ok, List.all_cons]
        cases hq : deq e ((D.l dsx).at j) ((D.l dsy).at j)
        · simp
        · simpa using ih (fun i hi => hin i (by simp [hi]))
    exact key _ (fun i hi => by simpa using hi)
  | .bool, _, 0, _, _, _, _, _, _, hd, _, _ => by simp [Ty.depth] at hd
  | .int _, _, 0, _, _, _, _, _, _, hd, _, _ => by simp [Ty.depth] at hd
  | .str, _, 0, _, _, _, _, _, _, hd, _, _ => by simp [Ty.depth] at hd
  | .nil, _, 0, _, _, _, _, _, _, hd, _, _ => by simp [Ty.depth] at hd
  | .arr _ _, _, 0, _, _, _, _, _, _, hd, _, _ => by simp [Ty.depth] at hd
  | .cons _ _, _, 0, _, _, _, _, _, _, hd, _, _ => by simp only [Ty.depth] at hd; omega
  | .sl _, _, _, _, _, _, _, _, hc, _, _, _ => by simp [Ty.cmp] at hc
  | .ptr, _, _, _, _, _, _, _, hc, _, _, _ => by simp [Ty.cmp] at hc
theorem run_eqFs {S S' : Nat → Prop} : ∀ {t : Ty} {fs : List Field} {off d : Nat} {xs ys : Array Value} {dx dy : D}, FOk P t fs off → t.cmp = true → t.depth ≤ d + 1 →
    Rd w S t (xs.toList.drop off) dx → Rd w S' t (ys.toList.drop off) dy → (Op.eqFields d xs ys fs).run P w = .ok (deq t dx dy) w
  | .nil, [], off, d, xs, ys, dx, dy, _, _, _, _, _ => by simp [Op.eqFields, deq]
  | .cons a b, f :: r, off, d, xs, ys, _, _, ⟨hz, hn, ho, hta, htb⟩, hc, hd, ⟨x0, x1, ex, hxa, hxb⟩, ⟨y0, y1, ey, hya, hyb⟩ => by
    subst ex; subst ey
    simp only [Ty.cmp, Bool.and_eq_true] at hc
    simp only [Ty.depth] at hd
    have lx := hxa.length
    have ly := hya.length
    simp only [List.length_take, List.length_drop, Array.length_toList] at lx ly
    have lxb := hxb.length
    have lyb := hyb.length
    simp only [List.length_drop, Array.length_toList] at lxb lyb
    subst ho
    obtain ⟨vx, px, cx, ax⟩ := run_part (P := P) hta (cs := xs) (off := f.offset) (by omega) (fun v hv => hxa.one v hv)
    obtain ⟨vy, py, cy, ay⟩ := run_part (P := P) hta (cs := ys) (off := f.offset) (by omega) (fun v hv => hya.one v hv)
    have he := run_equalIn (S := S) (S' := S') (d := d) hta hc.1 (by omega) (x := vx) (y := vy) ⟨by rw [cx]; exact hxa, ax⟩ ⟨by rw [cy]; exact hya, ay⟩
    have ih := run_eqFs (S := S) (S' := S') (d := d) htb hc.2 (by omega) (xs := xs) (ys := ys) (by simpa [List.drop_drop] using hxb) (by simpa [List.drop_drop] using hyb)
    simp only [Op.eqFields, hn, ne_eq, not_false_eq_true, if_true, Sem.run_bind, px, py, he, Result.andThen_ok, deq, D.at, D.list, List.getD_cons_zero, List.tail_cons]
    cases hq : deq a x0 y0
    · simp
    · simpa using ih
  | .bool, _, _, _, _, _, _, _, h, _, _, _, _ => by cases h
  | .int _, _, _, _, _, _, _, _, h, _, _, _, _ => by cases h
  | .str, _, _, _, _, _, _, _, h, _, _, _, _ => by cases h
  | .ptr, _, _, _, _, _, _, _, h, _, _, _, _ => by cases h
  | .sl _, _, _, _, _, _, _, _, h, _, _, _, _ => by cases h
  | .arr _ _, _, _, _, _, _, _, _, h, _, _, _, _ => by cases h
  | .nil, _ :: _, _, _, _, _, _, _, h, _, _, _, _ => by cases h
  | .cons _ _, [], _, _, _, _, _, _, h, _, _, _, _ => by cases h
end

mutual
/-- No interface lies in a type of the table: '==' is not guarded there. -/
theorem noGuard : ∀ {t : Ty} {u : TypeId} {d : Nat}, TyOk P t u → t.depth ≤ d → P.eqGuardType d u = false
  | .cons a b, u, d + 1, ht, hd => by
    obtain ⟨⟨fs, f, r, hu, hf, hs, hz, hn, ho, hta, htb⟩, _⟩ := ht
    simp only [Ty.depth] at hd
    have h1 := noGuard (d := d) hta (by omega)
    have h3 := noGuardF (d := d) htb (by omega)
    simp only [Program.eqGuardType, hu]
    rw [← Array.any_toList, hf, List.any_cons, List.any_eq_false.2 (fun f hf => by simp [h3 f hf])]
    simp [h1]
  | .arr n e, u, d + 1, ⟨⟨v, hu, hte⟩, _⟩, hd => by
    simp only [Ty.depth] at hd
    simp [Program.eqGuardType, hu, noGuard (d := d) hte (by omega)]
  | .nil, u, d + 1, ⟨⟨fs, hu, hf, _⟩, _⟩, _ => by
    simp only [Program.eqGuardType, hu]
    rw [← Array.any_toList, hf]; rfl
  | .bool, u, d + 1, ht, _ | .int _, u, d + 1, ht, _ | .str, u, d + 1, ht, _ => by simp [Program.eqGuardType, ht.1]
  | .ptr, u, d + 1, ⟨⟨v, hu⟩, _⟩, _ => by simp [Program.eqGuardType, hu]
  | .sl _, u, d + 1, ⟨⟨v, hu, _⟩, _⟩, _ => by simp [Program.eqGuardType, hu]
  | .bool, _, 0, _, hd | .int _, _, 0, _, hd | .str, _, 0, _, hd | .nil, _, 0, _, hd | .arr _ _, _, 0, _, hd | .ptr, _, 0, _, hd | .sl _, _, 0, _, hd => by simp [Ty.depth] at hd
  | .cons _ _, _, 0, _, hd => by simp only [Ty.depth] at hd; omega
theorem noGuardF : ∀ {t : Ty} {fs : List Field} {off d : Nat}, FOk P t fs off → t.depth ≤ d + 1 → ∀ f ∈ fs, P.eqGuardType d f.type = false
  | .nil, [], _, _, _, _, f, hf => by cases hf
  | .cons a b, g :: r, off, d, ⟨_, _, _, hta, htb⟩, hd, f, hf => by
    simp only [Ty.depth] at hd
    simp only [List.mem_cons] at hf
    rcases hf with rfl | hf
    · exact noGuard (d := d) hta (by omega)
    · exact noGuardF (d := d) htb (by omega) f hf
  | .bool, _, _, _, h, _, _, _ => by cases h
  | .int _, _, _, _, h, _, _, _ => by cases h
  | .str, _, _, _, h, _, _, _ => by cases h
  | .ptr, _, _, _, h, _, _, _ => by cases h
  | .sl _, _, _, _, h, _, _, _ => by cases h
  | .arr _ _, _, _, _, h, _, _, _ => by cases h
  | .nil, _ :: _, _, _, h, _, _, _ => by cases h
  | .cons _ _, [], _, _, h, _, _, _ => by cases h
end

theorem run_eqGuard {op : BinOp} {t : Ty} {u : TypeId} (x y : Operand) {v v' : Value} {S S' : Nat → Prop} {d d' : D} (ht : TyOk P t u) (hd : t.depth ≤ P.depth) (hv : RdV w S t v d) (hv' : RdV w S' t v' d') : (eqGuard op u x y v v').run P w = .ok () w := by
  cases ha : t.agg with
  | false =>
    have h1 : v.oneCell' = true := by
      have := hv.1.one v (by have := hv.2; rw [ha] at this; cases v <;> simp_all [vAgg, Value.cells])
      exact this
    refine run_eqGuard_one op u x y v v' h1 ?_
    intro e; subst e
    have := hv.1
    cases t <;> simp_all [Rd, Value.cells, Ty.agg]
  | true =>
    obtain ⟨cs, rfl, _⟩ := hv.agg ha
    obtain ⟨cs', rfl, _⟩ := hv'.agg ha
    have hg := noGuard ht hd
    cases op <;> simp [eqGuard, hg]

/-- Two operands of known data. -/
theorem sBin_sound {o : Oper} {op : BinOp} {xT yT : TypeId} {x y : Operand} {K : St → Prop} {t t' : Ty} {dx dy : D} (ho : o.op = .binOp op xT x y yT) (h : R0 w0 om σ a w) (hd : dstOk o.dst σ.nt)
    (hx : ev1 σ x = some (.d t dx)) (hy : ev1 σ y = some (.d t' dy)) (hT : (t.agg = true ∨ t = .bool) → TyOk P t xT) 
    (hs : sBin op t dx t' dy (fun s => K (σ.put o.dst (.v s)))) : VStep P w0 o a w K := by
  have hvx := (h.ev1 hx).data
  have hvy := (h.ev1 hy).data
  have fin : ∀ {v : Value} {s : SV}, (∀ w', Below w.heap.size w w' → (eqGuard op xT x y (a.eval x) (a.eval y)).run P w' = .ok () w') → (∀ w', Below w.heap.size w w' → (binOp op xT (a.eval x) (a.eval y)).run P w' = .ok v w') → Val1 w om (Mb σ.ob om) s v → K (σ.put o.dst (.v s)) → VStep P w0 o a w K := by
    intro v s hg hr hv hK
    exact wp_val h hd (v := v) (x := .v s) (fun w' hw' => by simp [execOp, ho, hg w' hw', hr w' hw']) hv hK
  unfold sBin at hs
  split at hs
  · rename_i k k'
    obtain ⟨p, ex, rfl⟩ := hvx.int
    obtain ⟨q, ey, rfl⟩ := hvy.int
    have hg : ∀ w', Below w.heap.size w w' → (eqGuard op xT x y (a.eval x) (a.eval y)).run P w' = .ok () w' := by
      intro w' hw'
      rw [ex]; exact run_eqGuard_one op xT x y _ _ rfl (by simp)
    simp only [D.int] at hs
    split at hs
    · obtain ⟨h0, hK⟩ := hs
      exact fin hg (fun w' hw' => by rw [ex, ey]; simp [binOp, Op.shift, Int.not_lt.2 h0]) (Val1.of (RdV.mk_int _ _)) hK
    · obtain ⟨h0, hK⟩ := hs
      exact fin hg (fun w' hw' => by rw [ex, ey]; simp [binOp, Op.shift, Int.not_lt.2 h0]) (Val1.of (RdV.mk_int _ _)) hK
    · obtain ⟨rfl, h0, hK⟩ := hs
      exact fin hg (fun w' hw' => by rw [ex, ey]; simp [binOp, Op.intDiv, h0]) (Val1.of (RdV.mk_int _ _)) hK
    · obtain ⟨rfl, h0, hK⟩ := hs
      exact fin hg (fun w' hw' => by rw [ex, ey]; simp [binOp, Op.intDiv, h0]) (Val1.of (RdV.mk_int _ _)) hK
    · obtain ⟨rfl, hK⟩ := hs
      split at hK
      · rename_i z hz
        exact fin hg (fun w' hw' => by rw [ex, ey]; exact run_intArith _ _ _ _ _ _ hz) (Val1.of (RdV.mk_int _ _)) hK
      · split at hK
        · rename_i b hb
          exact fin hg (fun w' hw' => by rw [ex, ey]; exact run_intCmp _ _ _ _ _ _ hb) (Val1.of (RdV.mk_bool _)) hK
        · exact hK.elim
  · obtain ⟨p, ex, rfl⟩ := hvx.str
    obtain ⟨q, ey, rfl⟩ := hvy.str
    have hg : ∀ w', Below w.heap.size w w' → (eqGuard op xT x y (a.eval x) (a.eval y)).run P w' = .ok () w' := by
      intro w' hw'
      rw [ex]; exact run_eqGuard_one op xT x y _ _ rfl (by simp)
    simp only [D.str] at hs
    split at hs
    · obtain ⟨h0, hK⟩ := hs
      refine fin hg (v := .string (p ++ q)) ?_ (Val1.of (RdV.mk_str _)) hK
      intro w' hw'
      rw [ex, ey]
      have : ¬ (((p.size + q.size : Nat) : Int) > IntKind.i64.max) := by
        simp only [IntKind.max, IntKind.signed, IntKind.bits]; simp; omega
      simp only [binOp, Op.stringOp, this, if_false, Sem.run_pure]
    · split at hs
      · rename_i b hb
        refine fin hg (v := .bool b) ?_ (Val1.of (RdV.mk_bool _)) hs
        intro w' hw'
        rw [ex, ey]
        cases op <;> simp only [sStr, Option.some.injEq, reduceCtorEq] at hb <;> subst hb <;> simp [binOp, Op.stringOp]
      · exact hs.elim
  · obtain ⟨rfl, hc, hdp, hs⟩ := hs
    have htb : t.agg = true ∨ t = .bool := by
      cases t <;> simp_all [Ty.agg, Ty.cmp]
    have htok := hT htb
    have hg : ∀ w', Below w.heap.size w w' → (eqGuard op xT x y (a.eval x) (a.eval y)).run P w' = .ok () w' := by
      intro w' hw'
      exact run_eqGuard x y htok (by simp only [Program.depth, Made.depth]; omega) (hvx.grow hw') (hvy.grow hw')
    have hb : ∀ op, (op = .eql ∨ op = .neq) → ∀ w', Below w.heap.size w w' → (binOp op xT (a.eval x) (a.eval y)).run P w' = .ok (.bool (if op = .eql then deq t dx dy else !deq t dx dy)) w' := by
      intro op hop w' hw'
      have he : (Op.equal xT (a.eval x) (a.eval y)).run P w' = .ok (deq t dx dy) w' := run_equalIn htok hc (by simp only [Op.maxDepth]; omega) (hvx.grow hw') (hvy.grow hw')
      rcases htb with hagg | hbool
      · obtain ⟨cs, ex, _⟩ := hvx.agg hagg
        obtain ⟨cs', ey, _⟩ := hvy.agg hagg
        rw [ex, ey] at he ⊢
        rcases hop with rfl | rfl <;> simp [binOp, he]
      · subst hbool
        obtain ⟨p, ex, _⟩ := hvx.bool
        obtain ⟨q, ey, _⟩ := hvy.bool
        rw [ex, ey] at he ⊢
        rcases hop with rfl | rfl <;> simp [binOp, he]
    split at hs
    · exact fin hg (by simpa using hb .eql (.inl rfl)) (Val1.of (RdV.mk_bool _)) hs
    · exact fin hg (by simpa using hb .neq (.inr rfl)) (Val1.of (RdV.mk_bool _)) hs
    · exact hs.elim

theorem sUn_sound {o : Oper} {op : UnOp} {xT : TypeId} {x : Operand} {K : St → Prop} {t : Ty} {dx : D} (ho : o.op = .unOp op xT x) (h : R0 w0 om σ a w) (hd : dstOk o.dst σ.nt)
    (hx : ev1 σ x = some (.d t dx)) (hs : sUn op t dx (fun s => K (σ.put o.dst (.v s)))) : VStep P w0 o a w K := by
  have hvx := (h.ev1 hx).data
  unfold sUn at hs
  split at hs
  · obtain ⟨p, ex, rfl⟩ := hvx.int
    exact wp_val h hd (v := .int _ (IntKind.wrap _ (0 - p))) (x := .v (.d (.int _) (.n _))) (fun w' hw' => by simp [execOp, ho, ex, Op.unary, Op.intArith]) (Val1.of (RdV.mk_int _ _)) hs
  · obtain ⟨p, ex, rfl⟩ := hvx.int
    exact wp_val h hd (v := .int _ (bits .xor _ _ p)) (x := .v (.d (.int _) (.n _))) (fun w' hw' => by simp [execOp, ho, ex, Op.unary, Op.intBits, bits]) (Val1.of (RdV.mk_int _ _)) hs
  · obtain ⟨p, ex, rfl⟩ := hvx.bool
    exact wp_val h hd (v := .bool (!p)) (x := .v (.d .bool (.b _))) (fun w' hw' => by simp [execOp, ho, ex, Op.unary]) (Val1.of (RdV.mk_bool _)) hs
  · exact hs.elim

end
end Go.SE
