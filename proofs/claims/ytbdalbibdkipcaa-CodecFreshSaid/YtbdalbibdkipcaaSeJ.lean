/- The operations on memory: composites, make, copy. -/
import Derived.Test.YtbdalbibdkipcaaSeI
set_option linter.unusedVariables false
set_option linter.unusedSimpArgs false
set_option linter.constructorNameAsVariable false
namespace Go.SE
open Go.RowKit (Below)
open Go.Lib

section
variable {P : Program} {w0 : Base} {om : Om} {σ : St} {a : Act} {w : World}

/-! make -/

def sMake (T : Tab) (t : TypeId) (l c : D) (σ : St) (K : St → SV → Prop) : Prop :=
  match look T t with
  | some (.sl e) => 0 ≤ l.int ∧ l.int ≤ c.int ∧ c.int ≤ 140737488355328 ∧ c.int * e.bytes ≤ 140737488355328 ∧
      K { σ with ob := (σ.nx, ⟨.arr l.int.toNat e, .d (.arr l.int.toNat e) (.l (List.replicate l.int.toNat e.zeroD))⟩) :: σ.ob, nx := σ.nx + 1 } (.ref σ.nx [] 0 l.int.toNat)
  | _ => False

theorem made_cells {z : Array Value} {n sz : Nat} (hz : z.size = sz) {i : Nat} (hi : i * sz + sz ≤ n) : ((madeCells z n).toList.drop (i * sz)).take sz = z.toList := by
  apply List.ext_getElem?
  intro j
  rw [List.getElem?_take]
  by_cases hj : j < sz
  · have h1 : i * sz + j < n := by omega
    have h2 : (i * sz + j) % sz = j := by rw [Nat.add_comm, Nat.add_mul_mod_self_right]; exact Nat.mod_eq_of_lt hj
    simp [hj, madeCells, h1, hz, h2]
  · rw [if_neg hj]
    simp; omega

theorem made_rd {S : Nat → Prop} {e : Ty} {z : Array Value} (hwf : e.wf = true) (hzc : z.toList = e.zeroCells) {n m : Nat} (h : m * e.size ≤ n) : ReadL (Rd w S e) e.size ((madeCells z n).toList.take (m * e.size)) (List.replicate m e.zeroD) := by
  have hz : z.size = e.size := by rw [← Array.length_toList, hzc, Ty.zeroCells_length]
  have hl : (madeCells z n).toList.length = n := by simp [madeCells]
  refine ReadL.of_range (n := m) (by simp) (by rw [List.length_take, hl]; omega) ?_
  intro i hi
  have h1 := mul_le_of_lt (s := e.size) hi
  rw [List.drop_take, List.take_take, Nat.min_eq_left (by omega), made_cells hz (by omega), hzc]
  have : (List.replicate m e.zeroD).getD i default = e.zeroD := by
    rw [List.getD_eq_getElem?_getD, List.getElem?_replicate]; simp [hi]
  rw [this]; exact Rd.zero hwf

theorem sMake_grow {T : Tab} (hT : T.Ok P) {o : Oper} {t : TypeId} {x y : Operand} {Q : Exit → Act → World → Prop} {K : St → Prop} {k k' : IntKind} {l c : D} (ho : o.op = .makeSlice t x y) (h : R0 w0 om σ a w) (hd : dstOk o.dst σ.nt)
    (hx : ev1 σ x = some (.d (.int k) l)) (hy : ev1 σ y = some (.d (.int k') c)) (hs : sMake T t l c σ (fun σ s => K (σ.put o.dst (.v s)))) : o.wp P a w (fun a' w' => Below w.heap.size w w' ∧ After w0 K a' w') Q := by
  obtain ⟨n, en, rfl⟩ := (h.ev1 hx).data.int
  obtain ⟨m, em, rfl⟩ := (h.ev1 hy).data.int
  unfold sMake at hs
  split at hs
  · rename_i e ht
    obtain ⟨⟨⟨ue, hu, hte⟩, _⟩, hwf⟩ := hT t _ ht
    obtain ⟨i, hi, his, hib, z, hz, hzc, _⟩ := hte.info
    simp only [D.int] at hs
    obtain ⟨h0, h1, h2, h3, hK⟩ := hs
    have hbb : (i.bytes : Int) * m ≤ 281474976710656 := by
      have : m * i.bytes ≤ m * e.bytes := Int.mul_le_mul_of_nonneg_left (by omega) (by omega)
      rw [Int.mul_comm]; omega
    have hrun := run_make (P := P) w t ue i z hu hi hz k k' n m h0 h1 hbb (by omega)
    have hwfe : e.wf = true := by simpa [Ty.wf] using hwf
    have hmul : n.toNat * e.size ≤ m.toNat * e.size := Nat.mul_le_mul_right _ (by omega)
    have hsz : (madeCells z.cells (m.toNat * i.size)).size = m.toNat * e.size := by rw [size_madeCells, his]
    obtain ⟨om', hR, hself, _, _⟩ := h.alloc (w' := w.alloc (.cells (madeCells z.cells (m.toNat * i.size)) ue)) (madeCells z.cells (m.toNat * i.size)) ue (0, 0)
      ⟨.arr n.toNat e, .d (.arr n.toNat e) (.l (List.replicate n.toNat e.zeroD))⟩ m.toNat rfl rfl rfl rfl (by intro j _ hh; simp at hh)
      (by
        rw [hsz]
        refine ⟨by simp only [Ty.size]; omega, ?_⟩
        intro k e' he
        simp only [Ty.arr.injEq] at he
        obtain ⟨rfl, rfl⟩ := he
        exact ⟨by show n.toNat ≤ m.toNat; omega, by show 0 + m.toNat * e.size ≤ m.toNat * e.size; omega⟩)
      ⟨rfl, _, rfl, by simp, by rw [his]; simpa [Ty.size] using made_rd hwfe hzc hmul⟩
    refine wp_worldG hR ((Below.refl _ w).alloc (Nat.le_refl _) _) hd (v := .slice (some ⟨w.heap.size, 0, none⟩) n.toNat m.toNat) (x := .v (.ref σ.nx [] 0 n.toNat)) (by simp [execOp, ho, en, em, hrun]) ?_ hK
    exact ⟨.sl e, ⟨e, _, rfl, rfl, _, _, n.toNat, m.toNat, hself, rfl, trivial, by omega, by omega, .inr ⟨_, rfl, by simp [Ty.offs], by simp⟩⟩, rfl⟩
  · exact hs.elim

theorem sMake_sound {T : Tab} (hT : T.Ok P) {o : Oper} {t : TypeId} {x y : Operand} {Q : Exit → Act → World → Prop} {K : St → Prop} {k k' : IntKind} {l c : D} (ho : o.op = .makeSlice t x y) (h : R0 w0 om σ a w) (hd : dstOk o.dst σ.nt)
    (hx : ev1 σ x = some (.d (.int k) l)) (hy : ev1 σ y = some (.d (.int k') c)) (hs : sMake T t l c σ (fun σ s => K (σ.put o.dst (.v s)))) : o.wp P a w (After w0 K) Q :=
  wp_second (sMake_grow hT ho h hd hx hy hs)

/-! composites -/

theorem fill_splice (off : Nat) : ∀ (ns : List Value) (k : Nat) (cells : Array Value), off + k + ns.length ≤ cells.size →
    ((ns.toArray.zipIdx k).foldl (fun cs (x : Value × Nat) => cs.setIfInBounds (off + x.2) x.1) cells).toList = splice cells.toList (off + k) ns
  | [], k, cells, _ => by rw [← Array.foldl_toList]; simp [splice]
  | v :: ns, k, cells, h => by
    have ih := fill_splice off ns (k + 1) (cells.setIfInBounds (off + k) v) (by simp at h ⊢; omega)
    have e := list_seg_step cells.toList (off + k) v ns (by simp at h ⊢; omega)
    rw [← Array.foldl_toList] at ih ⊢
    simp only [Array.toList_zipIdx, List.zipIdx_cons, List.foldl_cons] at ih ⊢
    rw [ih]
    simpa [splice, Array.toList_setIfInBounds, Nat.add_assoc] using e

theorem fill_one {place : Nat → Option (Nat × Nat)} {cells : Array Value} {i off sz : Nat} {v : Value} {rest : List (Nat × Value)} (hp : place i = some (off, sz)) (hv : v.cells.size = sz) (hf : off + sz ≤ cells.size) :
    Instr.fill place cells ((i, v) :: rest) = Instr.fill place (splice cells.toList off v.cells.toList).toArray rest := by
  have := fill_splice off v.cells.toList 0 cells (by simp [hv]; omega)
  simp only [Nat.add_zero, Array.toArray_toList] at this
  rw [Instr.fill, hp]
  simp only [hv, ne_eq, not_true_eq_false, decide_false, Bool.false_or, decide_eq_true_eq]
  rw [if_neg (by omega)]
  congr 1
  rw [← this]

def Ty.stp : Ty → Nat → Step
  | .arr _ _, i => .ix i
  | _, i => .f i

def bld (σ : St) (τ : Ty) : List (Nat × Operand) → SV → (SV → Prop) → Prop
  | [], v, K => K v
  | (i, x) :: l, v, K => match ev1 σ x, τ.sub1 (τ.stp i) with
    | some s, some b => τ.ok1 (τ.stp i) ∧ hasTy σ b s ∧ (match v.set1 (τ.stp i) s with | some v' => bld σ τ l v' K | none => False)
    | _, _ => False

theorem bld_ok (h : R0 w0 om σ a w) {τ : Ty} {place : Nat → Option (Nat × Nat)} (hp : ∀ i b, τ.sub1 (τ.stp i) = some b → τ.ok1 (τ.stp i) → place i = some (τ.off1 (τ.stp i), b.size)) :
    ∀ {l : List (Nat × Operand)} {v : SV} {K : SV → Prop} {cells : Array Value}, CV w om (Mb σ.ob om) τ v cells.toList → bld σ τ l v K →
      ∃ v' cells', Instr.fill place cells (l.map fun x => (x.1, a.eval x.2)) = some cells' ∧ CV w om (Mb σ.ob om) τ v' cells'.toList ∧ K v'
  | [], v, K, cells, hcv, hb => ⟨v, cells, rfl, hcv, hb⟩
  | (i, x) :: l, v, K, cells, hcv, hb => by
    simp only [bld] at hb
    split at hb
    · rename_i s b hx hsub
      obtain ⟨hok, hty, hb⟩ := hb
      split at hb
      · rename_i v' hset
        obtain ⟨hcs, _⟩ := (h.ev1 hx).ty h hty
        have hl := hcv.length
        have hls := hcs.length
        simp only [Array.length_toList] at hl hls
        have hle : τ.off1 (τ.stp i) + b.size ≤ τ.size := by
          have := Ty.sub_size (p := [τ.stp i]) (t := τ) (a := b) ⟨hok, by simp [hsub, Ty.okp]⟩ (by simp [Ty.sub, hsub])
          simpa [Ty.offs, hsub] using this
        have hcv2 := CV.set1 hcv hok hset hsub hcs
        obtain ⟨v2, c2, h1, h2, h3⟩ := bld_ok h hp (l := l) (v := v') (K := K) (cells := (splice cells.toList (τ.off1 (τ.stp i)) (a.eval x).cells.toList).toArray) (by simpa using hcv2) hb
        refine ⟨v2, c2, ?_, h2, h3⟩
        rw [List.map_cons, fill_one (hp i b hsub hok) hls (by omega)]
        exact h1
      · exact hb.elim
    · exact hb.elim

def sBuild (T : Tab) (t : TypeId) (parts : List (Nat × Operand)) (σ : St) (K : SV → Prop) : Prop :=
  match look T t with
  | some τ => τ.agg = true ∧ bld σ τ parts τ.zeroSV K
  | none => False

theorem run_places {fs : List Field} : ∀ {t : Ty} {off : Nat}, FOk P t fs off →
    ∃ ps : List (Nat × Nat), (∀ w : World, (fs.mapM fun f => Prod.mk f.offset <$> sizeOf f.type).run P w = .ok ps w) ∧ ∀ i b, t.subF i = some b → ps[i]? = some (off + t.offF i, b.size) := by
  induction fs with
  | nil =>
    intro t off h
    cases t <;> simp only [FOk] at h
    exact ⟨[], fun w => by simp, by intro i b hb; simp [Ty.subF] at hb⟩
  | cons f r ih =>
    intro t off h
    cases t <;> simp only [FOk] at h
    rename_i x y
    obtain ⟨_, _, h1, h2, h3⟩ := h
    obtain ⟨ps, hr, hps⟩ := ih h3
    refine ⟨(f.offset, x.size) :: ps, fun w => by simp [List.mapM_cons, h2.sizeOf, hr w], ?_⟩
    intro i b hb
    cases i with
    | zero => simp only [Ty.subF, Option.some.injEq] at hb; subst hb; simp [Ty.offF, h1]
    | succ i => simp only [Ty.subF] at hb; simp [Ty.offF, hps i b hb, Nat.add_assoc]

theorem sBuild_pure {T : Tab} (hT : T.Ok P) {o : Oper} {t : TypeId} {parts : Array (Nat × Operand)} {K : St → Prop} (ho : o.op = .build t parts) (h : R0 w0 om σ a w) (hd : dstOk o.dst σ.nt)
    (hs : sBuild T t parts.toList σ (fun s => K (σ.put o.dst (.v s)))) : VStep P w0 o a w K := by
  unfold sBuild at hs
  split at hs
  · rename_i τ ht
    obtain ⟨hagg, hb⟩ := hs
    obtain ⟨htok, hwf⟩ := hT t τ ht
    obtain ⟨i, hi, _, _, z, hzi, hzc, hza⟩ := htok.info
    have hz : ∀ w' : World, (zeroValue t).run P w' = .ok z w' := fun w' => by simp [Go.zeroValue, typeInfo, hi, hzi]
    have hcz : CV w om (Mb σ.ob om) τ τ.zeroSV z.cells.toList := by rw [hzc]; exact CV.zero hwf
    have fin : ∀ {v : SV} {cells : Array Value}, (∀ w' : World, (Instr.build t (parts.map fun x => (x.1, a.eval x.2))).run P w' = .ok (.agg cells) w') → CV w om (Mb σ.ob om) τ v cells.toList → K (σ.put o.dst (.v v)) → VStep P w0 o a w K := by
      intro v cells hr hcv hK
      exact wp_val h hd (v := .agg cells) (x := .v v) (fun w' _ => by simp [execOp, ho, hr w']) ⟨τ, hcv, by simp [vAgg, hagg]⟩ hK
    cases τ with
    | arr n e =>
      obtain ⟨⟨ue, hu, hte⟩, _⟩ := htok
      obtain ⟨v, cells, h1, h2, h3⟩ := bld_ok h (place := fun i => some (i * e.size, e.size)) (by intro i b hb hok; simp only [Ty.stp, Ty.sub1, Option.some.injEq] at hb; subst hb; simp [Ty.stp, Ty.off1]) hcz hb
      refine fin (v := v) (cells := cells) ?_ h2 h3
      intro w'
      simp [Instr.build, hz, run_underlying hu, hte.sizeOf, h1]
    | nil =>
      obtain ⟨⟨fs, hu, hf, _⟩, _⟩ := htok
      obtain ⟨ps, hr, hps⟩ := run_places (P := P) (fs := fs.toList) (t := .nil) (off := 0) (by rw [hf]; trivial)
      obtain ⟨v, cells, h1, h2, h3⟩ := bld_ok h (place := fun i => ps[i]?) (by intro i b hb _; simp [Ty.stp, Ty.sub1, Ty.subF] at hb) hcz hb
      refine fin (v := v) (cells := cells) ?_ h2 h3
      intro w'
      simp [Instr.build, hz, run_underlying hu, Array.mapM_eq_mapM_toList, hr, h1]
    | cons x y =>
      obtain ⟨⟨fs, f, r, hu, hf, _, hsz, hn, ho', hta, htb⟩, _⟩ := htok
      obtain ⟨ps, hr, hps⟩ := run_places (P := P) (fs := fs.toList) (t := .cons x y) (off := 0) (by rw [hf]; exact ⟨hsz, hn, ho', hta, by simpa using htb⟩)
      obtain ⟨v, cells, h1, h2, h3⟩ := bld_ok h (place := fun i => ps[i]?) (by intro i b hb _; have := hps i b (by simpa [Ty.stp, Ty.sub1] using hb); simpa [Ty.stp, Ty.off1] using this) hcz hb
      refine fin (v := v) (cells := cells) ?_ h2 h3
      intro w'
      simp [Instr.build, hz, run_underlying hu, Array.mapM_eq_mapM_toList, hr, h1]
    | _ => simp [Ty.agg] at hagg
  · exact hs.elim

theorem sBuild_sound {T : Tab} (hT : T.Ok P) {o : Oper} {t : TypeId} {parts : Array (Nat × Operand)} {Q : Exit → Act → World → Prop} {K : St → Prop} (ho : o.op = .build t parts) (h : R0 w0 om σ a w) (hd : dstOk o.dst σ.nt)
    (hs : sBuild T t parts.toList σ (fun s => K (σ.put o.dst (.v s)))) : o.wp P a w (After w0 K) Q := (sBuild_pure hT ho h hd hs).wp

end
end Go.SE
