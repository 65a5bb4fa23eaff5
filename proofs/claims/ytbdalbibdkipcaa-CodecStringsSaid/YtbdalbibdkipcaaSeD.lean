/- The table of types, and the machine's operations on memory over rows that are known. -/
import Derived.Test.YtbdalbibdkipcaaSeC
set_option linter.unusedVariables false
set_option linter.unusedSimpArgs false
set_option linter.constructorNameAsVariable false
namespace Go.SE
open Go.RowKit (Below)

def kbytes : IntKind → Nat
  | .i8 | .u8 => 1 | .i16 | .u16 => 2 | .i32 | .u32 => 4 | .i64 | .u64 => 8

/-- An upper bound of the bytes that a value takes. -/
def Ty.bytes : Ty → Nat
  | .bool => 1 | .int k => kbytes k | .str => 16 | .sl _ => 24 | .ptr => 8
  | .arr n e => n * e.bytes
  | .nil => 0
  | .cons a b => (a.bytes + 7) / 8 * 8 + b.bytes

def Ty.zeroCells : Ty → List Value
  | .bool => [.bool false] | .int k => [.int k 0] | .str => [.string .empty] | .sl _ => [.slice none 0 0] | .ptr => [.pointer none]
  | .arr n e => (List.replicate n e.zeroCells).flatten
  | .nil => []
  | .cons a b => a.zeroCells ++ b.zeroCells

def Ty.zeroD : Ty → D
  | .bool => .b false | .int _ => .n 0 | .str => .s .empty | .sl _ => .l [] | .ptr => .l []
  | .arr n e => .l (List.replicate n e.zeroD)
  | .nil => .l []
  | .cons a b => .l (a.zeroD :: b.zeroD.list)

def Ty.isSt : Ty → Bool
  | .nil | .cons _ _ => true
  | _ => false

/-- Data: no pointer inside; a struct's rest is a struct. -/
def Ty.wf : Ty → Bool
  | .ptr => false
  | .arr _ e | .sl e => e.wf
  | .cons a b => a.wf && b.wf && b.isSt
  | _ => true

/-- Without slices and pointers inside. -/
def Ty.flat : Ty → Bool
  | .ptr | .sl _ => false
  | .arr _ e => e.flat
  | .cons a b => a.flat && b.flat
  | _ => true

def Ty.zeroSV : Ty → SV
  | .sl _ => .nil
  | .cons a b => if a.flat && b.flat then .d (.cons a b) (Ty.cons a b).zeroD else .acons a.zeroSV b.zeroSV
  | t => match t with | .nil => .anil | _ => .d t t.zeroD

theorem Ty.zeroCells_length : ∀ (t : Ty), t.zeroCells.length = t.size
  | .bool | .int _ | .str | .sl _ | .ptr | .nil => rfl
  | .arr n e => by
    have := Ty.zeroCells_length e
    simp only [Ty.zeroCells, Ty.size, List.length_flatten, List.map_replicate, this]
    simp [List.sum_replicate_nat]
  | .cons a b => by simp [Ty.zeroCells, Ty.size, Ty.zeroCells_length a, Ty.zeroCells_length b]

theorem readL_replicate {p : List Value → D → Prop} {sz : Nat} {z : List Value} {d : D} (hz : z.length = sz) (h : p z d) : ∀ n, ReadL p sz (List.replicate n z).flatten (List.replicate n d)
  | 0 => rfl
  | n + 1 => by
    simp only [List.replicate_succ, List.flatten_cons]
    refine ⟨?_, ?_⟩
    · rw [List.take_append_of_le_length (by omega), List.take_of_length_le (by omega)]; exact h
    · rw [List.drop_append_of_le_length (by omega), List.drop_of_length_le (by omega), List.nil_append]; exact readL_replicate hz h n

theorem Rd.zero {w : World} {S : Nat → Prop} : ∀ {t : Ty}, t.wf = true → Rd w S t t.zeroCells t.zeroD
  | .bool, _ => ⟨false, rfl, rfl⟩
  | .int _, _ => ⟨0, rfl, rfl⟩
  | .str, _ => ⟨.empty, rfl, rfl⟩
  | .sl _, _ => ⟨[], rfl, none, 0, rfl, Nat.le_refl _, .inl rfl⟩
  | .arr n e, h => ⟨_, rfl, by simp, readL_replicate (Ty.zeroCells_length e) (Rd.zero (t := e) h) n⟩
  | .nil, _ => ⟨rfl, rfl⟩
  | .cons a b, h => by
    simp only [Ty.wf, Bool.and_eq_true] at h
    have hl := Ty.zeroCells_length a
    refine ⟨a.zeroD, b.zeroD.list, rfl, ?_, ?_⟩
    · rw [Ty.zeroCells, List.take_append_of_le_length (by omega), List.take_of_length_le (by omega)]; exact Rd.zero h.1.1
    · rw [Ty.zeroCells, List.drop_append_of_le_length (by omega), List.drop_of_length_le (by omega), List.nil_append]
      have := Rd.zero (w := w) (S := S) h.1.2
      have hz : D.l b.zeroD.list = b.zeroD := by
        have h2 := h.2
        cases b <;> simp_all [Ty.isSt, Ty.zeroD, D.list]
      rw [hz]; exact this

def InfoOk (P : Program) (t : Ty) (u : TypeId) : Prop := ∃ i, P.info? u = some i ∧ i.size = t.size ∧ i.bytes ≤ t.bytes ∧ ∃ z, i.zero = some z ∧ z.cells.toList = t.zeroCells ∧ vAgg z = t.agg

mutual
def TyOk (P : Program) : Ty → TypeId → Prop
  | .bool, t => P.underlying t = some .bool ∧ InfoOk P .bool t
  | .int k, t => P.underlying t = some (.int k) ∧ InfoOk P (.int k) t
  | .str, t => P.underlying t = some .string ∧ InfoOk P .str t
  | .ptr, t => (∃ u, P.underlying t = some (.pointer u)) ∧ InfoOk P .ptr t
  | .sl e, t => (∃ u, P.underlying t = some (.slice u) ∧ TyOk P e u) ∧ InfoOk P (.sl e) t
  | .arr n e, t => (∃ u, P.underlying t = some (.array n u) ∧ TyOk P e u) ∧ InfoOk P (.arr n e) t
  | .nil, t => (∃ fs, P.underlying t = some (.struct fs) ∧ fs.toList = [] ∧ P.stoodInHeld t = false) ∧ InfoOk P .nil t
  | .cons a b, t => (∃ fs f r, P.underlying t = some (.struct fs) ∧ fs.toList = f :: r ∧ P.stoodInHeld t = false ∧ 0 < a.size ∧ f.name ≠ "_" ∧ f.offset = 0 ∧ TyOk P a f.type ∧ FOk P b r a.size) ∧ InfoOk P (.cons a b) t
def FOk (P : Program) : Ty → List Field → Nat → Prop
  | .nil, [], _ => True
  | .cons a b, f :: r, off => 0 < a.size ∧ f.name ≠ "_" ∧ f.offset = off ∧ TyOk P a f.type ∧ FOk P b r (off + a.size)
  | _, _, _ => False
end

def cellB : Value → Value → Bool
  | .bool a, .bool b => a == b
  | .int k a, .int k' b => decide (k = k') && a == b
  | .string a, .string b => a.size == 0 && b.size == 0
  | .slice none 0 0, .slice none 0 0 => true
  | .pointer none, .pointer none => true
  | _, _ => false
def cellsB : List Value → List Value → Bool
  | [], [] => true
  | a :: x, b :: y => cellB a b && cellsB x y
  | _, _ => false

theorem cellB_ok {a b : Value} (h : cellB a b = true) : a = b := by
  unfold cellB at h
  split at h
  · simp at h; rw [h]
  · simp at h; rw [h.1, h.2]
  · rename_i x y
    simp at h
    rw [h.1, h.2]
  · rfl
  · rfl
  · cases h

theorem cellsB_ok : ∀ {a b : List Value}, cellsB a b = true → a = b
  | [], [], _ => rfl
  | a :: x, b :: y, h => by
    simp only [cellsB, Bool.and_eq_true] at h
    rw [cellB_ok h.1, cellsB_ok h.2]
  | [], _ :: _, h => by simp [cellsB] at h
  | _ :: _, [], h => by simp [cellsB] at h

def infoB (P : Program) (t : Ty) (u : TypeId) : Bool :=
  match P.info? u with
  | some i => i.size == t.size && decide (i.bytes ≤ t.bytes) && (match i.zero with | some z => cellsB z.cells.toList t.zeroCells && vAgg z == t.agg | none => false)
  | none => false

theorem infoB_ok {P : Program} {t : Ty} {u : TypeId} (h : infoB P t u = true) : InfoOk P t u := by
  unfold infoB at h
  split at h
  · rename_i i hi
    simp only [Bool.and_eq_true, beq_iff_eq, decide_eq_true_eq] at h
    obtain ⟨⟨h1, h2⟩, h3⟩ := h
    split at h3
    · rename_i z hz
      simp only [Bool.and_eq_true, beq_iff_eq] at h3
      exact ⟨i, hi, h1, h2, z, hz, cellsB_ok h3.1, h3.2⟩
    · cases h3
  · cases h

mutual
def tyB (P : Program) : Ty → TypeId → Bool
  | .bool, t => (match P.underlying t with | some .bool => true | _ => false) && infoB P .bool t
  | .int k, t => (match P.underlying t with | some (.int k') => decide (k' = k) | _ => false) && infoB P (.int k) t
  | .str, t => (match P.underlying t with | some .string => true | _ => false) && infoB P .str t
  | .ptr, t => (match P.underlying t with | some (.pointer _) => true | _ => false) && infoB P .ptr t
  | .sl e, t => (match P.underlying t with | some (.slice u) => tyB P e u | _ => false) && infoB P (.sl e) t
  | .arr n e, t => (match P.underlying t with | some (.array m u) => m == n && tyB P e u | _ => false) && infoB P (.arr n e) t
  | .nil, t => (match P.underlying t with | some (.struct fs) => fs.toList.isEmpty && !P.stoodInHeld t | _ => false) && infoB P .nil t
  | .cons a b, t => (match P.underlying t with | some (.struct fs) => (match fs.toList with | f :: r => !P.stoodInHeld t && decide (0 < a.size) && f.name != "_" && (f.offset == 0 && tyB P a f.type && fB P b r a.size) | [] => false) | _ => false) && infoB P (.cons a b) t
def fB (P : Program) : Ty → List Field → Nat → Bool
  | .nil, [], _ => true
  | .cons a b, f :: r, off => decide (0 < a.size) && f.name != "_" && (f.offset == off && tyB P a f.type && fB P b r (off + a.size))
  | _, _, _ => false
end

mutual
theorem tyB_ok {P : Program} : ∀ {t : Ty} {u : TypeId}, tyB P t u = true → TyOk P t u
  | .bool, u, h => by
    simp only [tyB, Bool.and_eq_true] at h
    refine ⟨?_, infoB_ok h.2⟩
    have := h.1; split at this <;> simp_all
  | .int k, u, h => by
    simp only [tyB, Bool.and_eq_true] at h
    refine ⟨?_, infoB_ok h.2⟩
    have := h.1; split at this <;> simp_all
  | .str, u, h => by
    simp only [tyB, Bool.and_eq_true] at h
    refine ⟨?_, infoB_ok h.2⟩
    have := h.1; split at this <;> simp_all
  | .ptr, u, h => by
    simp only [tyB, Bool.and_eq_true] at h
    refine ⟨?_, infoB_ok h.2⟩
    have := h.1; split at this <;> simp_all
  | .sl e, u, h => by
    simp only [tyB, Bool.and_eq_true] at h
    refine ⟨?_, infoB_ok h.2⟩
    have := h.1; split at this
    · rename_i v hv; exact ⟨v, hv, tyB_ok this⟩
    · cases this
  | .arr n e, u, h => by
    simp only [tyB, Bool.and_eq_true] at h
    refine ⟨?_, infoB_ok h.2⟩
    have := h.1; split at this
    · rename_i m v hv
      simp only [Bool.and_eq_true, beq_iff_eq] at this
      obtain ⟨rfl, this⟩ := this
      exact ⟨v, hv, tyB_ok this⟩
    · cases this
  | .nil, u, h => by
    simp only [tyB, Bool.and_eq_true] at h
    refine ⟨?_, infoB_ok h.2⟩
    have := h.1; split at this
    · rename_i fs hv
      simp only [Bool.and_eq_true, List.isEmpty_iff, Bool.not_eq_true'] at this
      exact ⟨fs, hv, this.1, this.2⟩
    · cases this
  | .cons a b, u, h => by
    simp only [tyB, Bool.and_eq_true] at h
    refine ⟨?_, infoB_ok h.2⟩
    have := h.1; split at this
    · rename_i fs hv
      split at this
      · rename_i f r hf
        simp only [Bool.and_eq_true, beq_iff_eq, Bool.not_eq_true', bne_iff_ne, decide_eq_true_eq] at this
        exact ⟨fs, f, r, hv, hf, this.1.1.1, this.1.1.2, this.1.2, this.2.1.1, tyB_ok this.2.1.2, fB_ok this.2.2⟩
      · cases this
    · cases this
theorem fB_ok {P : Program} : ∀ {t : Ty} {fs : List Field} {off : Nat}, fB P t fs off = true → FOk P t fs off
  | .nil, [], _, _ => trivial
  | .cons a b, f :: r, off, h => by
    simp only [fB, Bool.and_eq_true, beq_iff_eq, bne_iff_ne, decide_eq_true_eq] at h
    exact ⟨h.1.1, h.1.2, h.2.1.1, tyB_ok h.2.1.2, fB_ok h.2.2⟩
  | .nil, _ :: _, _, h => by simp [fB] at h
  | .cons _ _, [], _, h => by simp [fB] at h
  | .bool, _, _, h => by simp [fB] at h
  | .int _, _, _, h => by simp [fB] at h
  | .str, _, _, h => by simp [fB] at h
  | .ptr, _, _, h => by simp [fB] at h
  | .sl _, _, _, h => by simp [fB] at h
  | .arr _ _, _, _, h => by simp [fB] at h
end

theorem TyOk.info {P : Program} : ∀ {t : Ty} {u : TypeId}, TyOk P t u → InfoOk P t u
  | .bool, _, h | .int _, _, h | .str, _, h | .ptr, _, h | .sl _, _, h | .arr _ _, _, h | .nil, _, h | .cons _ _, _, h => h.2

/-- The table: types by their numbers. -/
abbrev Tab := List (Nat × Ty)
def Tab.Ok (T : Tab) (P : Program) : Prop := ∀ u t, look T u = some t → TyOk P t u ∧ t.wf = true
def Tab.B (T : Tab) (P : Program) : Bool := T.all fun x => tyB P x.2 x.1 && x.2.wf
theorem Tab.ok_of {T : Tab} {P : Program} (h : T.B P = true) : T.Ok P := by
  intro u t hl
  have : (u, t) ∈ T := by
    clear h
    induction T with
    | nil => simp [look] at hl
    | cons p r ih =>
      obtain ⟨a, x⟩ := p
      simp only [look] at hl
      split at hl
      · rename_i e; subst e; simp at hl; subst hl; simp
      · exact List.mem_cons_of_mem _ (ih hl)
  have h2 := List.all_eq_true.1 h _ this
  simp only [Bool.and_eq_true] at h2
  exact ⟨tyB_ok h2.1, h2.2⟩

theorem TyOk.isAgg {P : Program} : ∀ {t : Ty} {u : TypeId}, TyOk P t u → ∀ w, (Go.isAgg u).run P w = .ok t.agg w
  | .bool, _, h, w | .int _, _, h, w | .str, _, h, w => by simp [Go.isAgg, run_underlying h.1, Ty.agg]
  | .ptr, _, ⟨⟨_, h⟩, _⟩, w | .sl _, _, ⟨⟨_, h, _⟩, _⟩, w | .arr _ _, _, ⟨⟨_, h, _⟩, _⟩, w | .nil, _, ⟨⟨_, h, _⟩, _⟩, w | .cons _ _, _, ⟨⟨_, _, _, h, _⟩, _⟩, w => by
    simp [Go.isAgg, run_underlying h, Ty.agg]

theorem TyOk.sizeOf {P : Program} {t : Ty} {u : TypeId} (h : TyOk P t u) (w : World) : (sizeOf u).run P w = .ok t.size w := by
  obtain ⟨i, hi, hs, _⟩ := h.info
  simp [Go.sizeOf, typeInfo, hi, hs]

theorem TyOk.zeroValue {P : Program} {t : Ty} {u : TypeId} (h : TyOk P t u) (w : World) : ∃ z, (zeroValue u).run P w = .ok z w ∧ z.cells.toList = t.zeroCells ∧ vAgg z = t.agg := by
  obtain ⟨i, hi, _, _, z, hz, hc, ha⟩ := h.info
  exact ⟨z, by simp [Go.zeroValue, typeInfo, hi, hz], hc, ha⟩

/-! What lies in the cells of a row that reads. -/

theorem ReadL.one {p : List Value → D → Prop} {sz : Nat} (h : ∀ cs d, p cs d → ∀ v ∈ cs, v.oneCell' = true) : ∀ {cs ds}, ReadL p sz cs ds → ∀ v ∈ cs, v.oneCell' = true
  | cs, [], k, v, hv => by simp only [ReadL] at k; subst k; cases hv
  | cs, d :: ds, k, v, hv => by
    rw [← List.take_append_drop sz cs, List.mem_append] at hv
    rcases hv with hv | hv
    · exact h _ _ k.1 v hv
    · exact ReadL.one h k.2 v hv

theorem Rd.one {w : World} {S : Nat → Prop} : ∀ {t : Ty} {cs : List Value} {d : D}, Rd w S t cs d → ∀ v ∈ cs, v.oneCell' = true
  | .bool, _, _, ⟨_, h, _⟩, v, hv => by subst h; simp at hv; subst hv; rfl
  | .int _, _, _, ⟨_, h, _⟩, v, hv => by subst h; simp at hv; subst hv; rfl
  | .str, _, _, ⟨_, h, _⟩, v, hv => by subst h; simp at hv; subst hv; rfl
  | .sl _, _, _, ⟨_, _, _, _, h, _⟩, v, hv => by subst h; simp at hv; subst hv; rfl
  | .arr n e, _, _, ⟨ds, _, hn, h⟩, v, hv => ReadL.one (fun _ _ k => Rd.one k) h v hv
  | .nil, _, _, ⟨h, _⟩, v, hv => by subst h; cases hv
  | .cons a b, cs, _, ⟨x, xs, _, h1, h2⟩, v, hv => by
    rw [← List.take_append_drop a.size cs, List.mem_append] at hv
    rcases hv with hv | hv
    · exact Rd.one h1 v hv
    · exact Rd.one h2 v hv
  | .ptr, _, _, h, _, _ => h.elim

theorem RefAt.one {om : Om} {o : Nat} {p : List Step} {off len : Nat} {e : Ty} {v : Value} (h : RefAt om o p off len e v) : v.oneCell' = true := by
  obtain ⟨t, pl, n, cap, _, _, _, _, _, h⟩ := h
  rcases h with ⟨_, a, rfl⟩ | ⟨q, _, rfl, _⟩ <;> rfl

theorem CV.one {w : World} {om : Om} {M : Nat → Prop} : ∀ {t : Ty} {x : SV} {cs : List Value}, CV w om M t x cs → ∀ v ∈ cs, v.oneCell' = true
  | _, .d _ _, _, ⟨_, h⟩, v, hv => h.one v hv
  | _, .nil, _, ⟨_, a, h⟩, v, hv => by subst h; simp at hv; subst hv; rfl
  | _, .ref _ _ _ _, _, ⟨e, u, _, h, k⟩, v, hv => by subst h; simp at hv; subst hv; exact k.one
  | _, .ptr _ _, _, ⟨u, _, h, _, _, _, _, _, _, k⟩, v, hv => by subst h; simp at hv; subst hv; subst k; rfl
  | _, .vp _ _, _, ⟨_, _, _, _, _, _, h, _⟩, v, hv => by subst h; simp at hv; subst hv; rfl
  | _, .anil, _, ⟨_, h⟩, v, hv => by subst h; cases hv
  | _, .acons a b, cs, ⟨ta, tb, _, h1, h2⟩, v, hv => by
    rw [← List.take_append_drop ta.size cs, List.mem_append] at hv
    rcases hv with hv | hv
    · exact CV.one h1 v hv
    · exact CV.one h2 v hv

theorem isAgg_of_one {v : Value} (h : v.oneCell' = true) : vAgg v = false := by cases v <;> simp_all [Value.oneCell', vAgg]
theorem cells_of_one {v : Value} (h : v.oneCell' = true) : v.cells = #[v] := by cases v <;> simp_all [Value.oneCell', Value.cells]
theorem one_of_notAgg {t : Ty} (h : t.agg = false) : t.size = 1 := by cases t <;> simp_all [Ty.agg, Ty.size]

section runs
variable {P : Program} {w : World} {g : Nat} {c : Array Value} {el : TypeId} {fr : Nat × Nat}

theorem cells_at (hg : w.heap[g]? = some (.cells c el fr)) {o n : Nat} (hn : o + n ≤ c.size) : ∀ j v, ((c.toList.drop o).take n)[j]? = some v → w.cell? ((⟨g, o, none⟩ : Addr).add j) = some v := by
  intro j v h
  rw [Addr.add_lit]
  simp only [World.cell?, hg]
  rw [List.getElem?_take] at h
  split at h
  · simpa using h
  · cases h

/-- A variable is read out of a row. -/
theorem run_loadVar (hg : w.heap[g]? = some (.cells c el fr)) {t : Ty} {u : TypeId} (ht : TyOk P t u) {o : Nat} (hn : o + t.size ≤ c.size) (h1 : ∀ v ∈ (c.toList.drop o).take t.size, v.oneCell' = true) :
    ∃ v, (loadVar u ⟨g, o, none⟩).run P w = .ok v w ∧ v.cells.toList = (c.toList.drop o).take t.size ∧ vAgg v = t.agg := by
  have hc := cells_at hg hn
  have hl : ((c.toList.drop o).take t.size).length = t.size := by simp; omega
  cases ha : t.agg with
  | true =>
    refine ⟨.agg ((c.toList.drop o).take t.size).toArray, ?_, by simp [Value.cells], rfl⟩
    have := run_loadCells_list (P := P) w ⟨g, o, none⟩ _ hc
    rw [hl] at this
    simp [loadVar, ht.isAgg, ht.sizeOf, ha, this]
  | false =>
    have hs := one_of_notAgg ha
    have ho : o < c.size := by omega
    have hcell : w.cell? ⟨g, o, none⟩ = some c[o] := by simp [World.cell?, hg, ho]
    have he : (c.toList.drop o).take t.size = [c[o]] := by
      rw [hs]
      apply List.ext_getElem?
      intro j
      rw [List.getElem?_take]
      cases j with
      | zero => simp [ho]
      | succ j => simp
    have h2 := h1 c[o] (by rw [he]; simp)
    refine ⟨c[o], ?_, by rw [he, cells_of_one h2], isAgg_of_one h2⟩
    simp [loadVar, ht.isAgg, ha, hcell]

theorem run_storeCells_un (o : Nat) : ∀ (vs : List Value) (i : Nat) (cur : Array Value) (w : World), w.heap[g]? = some (.cells cur el fr) → Unfrozen cur.size fr → o + i + vs.length ≤ cur.size → (∀ v ∈ vs, v.oneCell' = true) →
    (storeCells ⟨g, o, none⟩ vs i).run P w = .ok () (w.setRow g (splice cur.toList (o + i) vs).toArray)
  | [], i, cur, w, hg, _, _, _ => by
    simp only [storeCells, splice, List.append_nil, List.length_nil, Nat.add_zero, List.take_append_drop, Array.toArray_toList]
    rw [setRow_self w g cur el fr hg]
    rfl
  | v :: rest, i, cur, w, hg, hu, hl, h1 => by
    have hi : o + i < cur.size := by simp at hl; omega
    have hcell : w.cell? ⟨g, o + i, none⟩ = some cur[o + i] := by simp [World.cell?, hg, hi]
    have hfro : w.frozen? ⟨g, o + i, none⟩ = false := by
      obtain ⟨lo, hi'⟩ := fr
      have hx := hu (o + i) hi
      simp only [World.frozen?, hg]
      simp only [Bool.and_eq_false_iff, decide_eq_false_iff_not]
      by_cases hlo : lo ≤ o + i
      · exact .inr (fun k => hx ⟨hlo, k⟩)
      · exact .inl hlo
    have hst : (store ((⟨g, o, none⟩ : Addr).add i) v).run P w = .ok () (w.setRow g (cur.setIfInBounds (o + i) v)) := by
      rw [Addr.add_lit, run_store P w _ v _ (h1 v (by simp)), hcell]
      simp [hfro, setCell_eq_setRow w g (o + i) cur el fr v hg]
    have ih := run_storeCells_un o rest (i + 1) (cur.setIfInBounds (o + i) v) (w.setRow g (cur.setIfInBounds (o + i) v)) (setRow_heap w g cur _ el fr hg) (by simpa using hu) (by simp at hl ⊢; omega) (fun x hx => h1 x (by simp [hx]))
    simp only [storeCells, Sem.run_bind, hst, Result.andThen_ok, ih, setRow_setRow]
    congr 3
    have e := list_seg_step cur.toList (o + i) v rest (by simp at hl ⊢; omega)
    simpa [splice, Array.toList_setIfInBounds, Nat.add_assoc] using e

/-- A variable is written into a row. -/
theorem run_storeVar (hg : w.heap[g]? = some (.cells c el fr)) (hu : Unfrozen c.size fr) {t : Ty} {u : TypeId} (ht : TyOk P t u) {o : Nat} (hn : o + t.size ≤ c.size) {v : Value} (hv : v.cells.size = t.size) (h1 : ∀ x ∈ v.cells.toList, x.oneCell' = true) :
    (storeVar u ⟨g, o, none⟩ v).run P w = .ok () (w.setRow g (splice c.toList o v.cells.toList).toArray) := by
  have := run_storeCells_un (P := P) o v.cells.toList 0 c w hg hu (by simpa [hv] using hn) h1
  simp only [Nat.add_zero] at this
  simp [storeVar, ht.sizeOf, hv, this]

end runs

end Go.SE
