/- Deep data, type codes, and what it is that a row of cells reads as data in a world. -/
import Derived.Calls
import Derived.Laws.Append
import Derived.Laws.CopyRow
import Derived.Laws.Rows
import Derived.Below
set_option linter.unusedVariables false
set_option linter.unusedSimpArgs false
set_option linter.constructorNameAsVariable false
namespace Go.SE

inductive Ty where
  | bool | int (k : IntKind) | str | sl (e : Ty) | arr (n : Nat) (e : Ty) | nil | cons (a b : Ty) | ptr
  deriving DecidableEq

def Ty.size : Ty → Nat
  | .bool | .int _ | .str | .sl _ | .ptr => 1
  | .arr n e => n * e.size
  | .nil => 0
  | .cons a b => a.size + b.size

def Ty.agg : Ty → Bool
  | .arr _ _ | .nil | .cons _ _ => true
  | _ => false

inductive D where
  | b (x : Bool) | n (x : Int) | s (x : ByteArray) | l (xs : List D)

instance : Inhabited D := ⟨.n 0⟩

def vAgg : Value → Bool
  | .agg _ => true
  | _ => false

def isTup : Value → Bool
  | .tuple _ => true
  | _ => false

def ReadL (p : List Value → D → Prop) (sz : Nat) : List Value → List D → Prop
  | cs, [] => cs = []
  | cs, d :: ds => p (cs.take sz) d ∧ ReadL p sz (cs.drop sz) ds

/-- The cells 'cs' read as 'd' at the type 't', in the world 'w'; every block on the way is one of 'S'. -/
def Rd (w : World) (S : Nat → Prop) : Ty → List Value → D → Prop
  | .bool, cs, d => ∃ x, cs = [.bool x] ∧ d = .b x
  | .int k, cs, d => ∃ x, cs = [.int k x] ∧ d = .n x
  | .str, cs, d => ∃ x, cs = [.string x] ∧ d = .s x
  | .sl e, cs, d => ∃ ds, d = .l ds ∧ ∃ a cap, cs = [.slice a ds.length cap] ∧ ds.length ≤ cap ∧
      (cap = 0 ∨ ∃ g o c el fr, a = some ⟨g, o, none⟩ ∧ S g ∧ w.heap[g]? = some (.cells c el fr) ∧ o + cap * e.size ≤ c.size ∧
        ReadL (Rd w S e) e.size ((c.toList.drop o).take (ds.length * e.size)) ds)
  | .arr n e, cs, d => ∃ ds, d = .l ds ∧ ds.length = n ∧ ReadL (Rd w S e) e.size cs ds
  | .nil, cs, d => cs = [] ∧ d = .l []
  | .cons a b, cs, d => ∃ x xs, d = .l (x :: xs) ∧ Rd w S a (cs.take a.size) x ∧ Rd w S b (cs.drop a.size) (.l xs)
  | .ptr, _, _ => False

theorem ReadL.mono {p q : List Value → D → Prop} {sz : Nat} (h : ∀ cs d, p cs d → q cs d) : ∀ {cs ds}, ReadL p sz cs ds → ReadL q sz cs ds
  | _, [], k => k
  | _, _ :: _, k => ⟨h _ _ k.1, ReadL.mono h k.2⟩

theorem ReadL.length {p : List Value → D → Prop} {sz : Nat} (h : ∀ cs d, p cs d → cs.length = sz) : ∀ {cs ds}, ReadL p sz cs ds → cs.length = ds.length * sz
  | cs, [], k => by simp only [ReadL] at k; subst k; simp
  | cs, d :: ds, k => by
    have h1 := h _ _ k.1
    have h2 := ReadL.length h k.2
    simp only [List.length_take, List.length_drop, List.length_cons, Nat.add_mul, Nat.one_mul] at *
    omega

theorem Rd.length {w : World} {S : Nat → Prop} : ∀ {t : Ty} {cs : List Value} {d : D}, Rd w S t cs d → cs.length = t.size
  | .bool, _, _, ⟨_, h, _⟩ => by subst h; rfl
  | .int _, _, _, ⟨_, h, _⟩ => by subst h; rfl
  | .str, _, _, ⟨_, h, _⟩ => by subst h; rfl
  | .sl _, _, _, ⟨_, _, _, _, h, _⟩ => by subst h; rfl
  | .arr n e, _, _, ⟨ds, _, hn, h⟩ => by
    have := ReadL.length (fun _ _ k => Rd.length k) h
    simp only [Ty.size]; rw [this, hn]
  | .nil, _, _, ⟨h, _⟩ => by subst h; rfl
  | .cons a b, cs, _, ⟨x, xs, _, h1, h2⟩ => by
    have k1 := Rd.length h1
    have k2 := Rd.length h2
    simp only [Ty.size, List.length_take, List.length_drop] at *
    omega
  | .ptr, _, _, h => h.elim

/-- A reading is kept where the blocks that it meets are kept. -/
theorem Rd.mono {w w' : World} {S S' : Nat → Prop} (h : ∀ b o, S b → w.heap[b]? = some o → S' b ∧ w'.heap[b]? = some o) :
    ∀ {t : Ty} {cs : List Value} {d : D}, Rd w S t cs d → Rd w' S' t cs d
  | .bool, _, _, k => k
  | .int _, _, _, k => k
  | .str, _, _, k => k
  | .sl e, _, _, ⟨ds, hd, a, cap, hcs, hle, k⟩ => by
    refine ⟨ds, hd, a, cap, hcs, hle, ?_⟩
    rcases k with k | ⟨g, o, c, el, fr, ha, hS, hg, hc, hr⟩
    · exact .inl k
    · exact .inr ⟨g, o, c, el, fr, ha, (h g _ hS hg).1, (h g _ hS hg).2, hc, ReadL.mono (fun _ _ q => Rd.mono h q) hr⟩
  | .arr n e, _, _, ⟨ds, hd, hn, k⟩ => ⟨ds, hd, hn, ReadL.mono (fun _ _ q => Rd.mono h q) k⟩
  | .nil, _, _, k => k
  | .cons a b, _, _, ⟨x, xs, hd, k1, k2⟩ => ⟨x, xs, hd, Rd.mono h k1, Rd.mono h k2⟩
  | .ptr, _, _, k => k.elim

section lists
variable {p : List Value → D → Prop} {sz : Nat}

theorem ReadL.get : ∀ {cs : List Value} {ds : List D} {i : Nat}, ReadL p sz cs ds → i < ds.length → p ((cs.drop (i * sz)).take sz) (ds.getD i default)
  | cs, d :: ds, 0, k, _ => by simpa using k.1
  | cs, d :: ds, i + 1, k, hi => by
    have h := ReadL.get (i := i) k.2 (by simpa using hi)
    simpa [List.drop_drop, Nat.add_mul, Nat.add_comm] using h

theorem ReadL.append (hp : ∀ cs d, p cs d → cs.length = sz) : ∀ {cs : List Value} {ds : List D} {cs' : List Value} {ds' : List D}, ReadL p sz cs ds → ReadL p sz cs' ds' → ReadL p sz (cs ++ cs') (ds ++ ds')
  | cs, [], cs', ds', k, k' => by simp only [ReadL] at k; subst k; simpa using k'
  | cs, d :: ds, cs', ds', k, k' => by
    have hl : (cs.take sz).length = sz := hp _ _ k.1
    have hs : sz ≤ cs.length := by simp at hl; omega
    have h := ReadL.append hp k.2 k'
    refine ⟨?_, ?_⟩
    · rw [List.take_append_of_le_length hs]; exact k.1
    · rw [List.drop_append_of_le_length hs]; exact h

theorem ReadL.drop : ∀ {cs : List Value} {ds : List D} (i : Nat), ReadL p sz cs ds → ReadL p sz (cs.drop (i * sz)) (ds.drop i)
  | cs, ds, 0, k => by simpa using k
  | cs, [], i + 1, k => by simp only [ReadL] at k; subst k; simp [ReadL]
  | cs, d :: ds, i + 1, k => by
    have h := ReadL.drop i k.2
    simpa [List.drop_drop, Nat.add_mul, Nat.add_comm] using h

theorem ReadL.take : ∀ {cs : List Value} {ds : List D} (i : Nat), ReadL p sz cs ds → ReadL p sz (cs.take (i * sz)) (ds.take i)
  | cs, ds, 0, k => by simp [ReadL]
  | cs, [], i + 1, k => by simp only [ReadL] at k; subst k; simp [ReadL]
  | cs, d :: ds, i + 1, k => by
    have h := ReadL.take i k.2
    refine ⟨?_, ?_⟩
    · rw [List.take_take, Nat.min_eq_left (by rw [Nat.add_mul]; omega)]; exact k.1
    · rw [List.drop_take, show (i + 1) * sz - sz = i * sz by rw [Nat.add_mul]; omega]; exact h

theorem ReadL.set (hp : ∀ cs d, p cs d → cs.length = sz) : ∀ {cs : List Value} {ds : List D} (i : Nat) {ns : List Value} {x : D}, ReadL p sz cs ds → i < ds.length → p ns x →
    ReadL p sz (cs.take (i * sz) ++ ns ++ cs.drop (i * sz + sz)) (ds.set i x)
  | cs, [], i, _, _, _, hi, _ => by simp at hi
  | cs, d :: ds, 0, ns, x, k, _, hx => by
    have hl := hp _ _ hx
    refine ⟨?_, ?_⟩
    · simp only [Nat.zero_mul, List.take_zero, List.nil_append, List.take_append_of_le_length (Nat.le_of_eq hl.symm)]
      rw [List.take_of_length_le (by omega)]; exact hx
    · simp only [Nat.zero_mul, List.take_zero, List.nil_append, Nat.zero_add]
      rw [List.drop_append_of_le_length (by omega), List.drop_of_length_le (by omega)]
      exact k.2
  | cs, d :: ds, i + 1, ns, x, k, hi, hx => by
    have h := ReadL.set hp i k.2 (by simpa using hi) hx
    have hl : (cs.take sz).length = sz := hp _ _ k.1
    have hs : sz ≤ cs.length := by simp at hl; omega
    refine ⟨?_, ?_⟩
    · rw [List.append_assoc, List.take_append_of_le_length (by simp [Nat.add_mul]; omega), List.take_take, Nat.min_eq_left (by rw [Nat.add_mul]; omega)]
      exact k.1
    · rw [List.append_assoc, List.drop_append_of_le_length (by simp [Nat.add_mul]; omega), List.drop_take, show (i + 1) * sz - sz = i * sz by rw [Nat.add_mul]; omega]
      rw [show (i + 1) * sz + sz = sz + (i * sz + sz) by rw [Nat.add_mul]; omega, ← List.drop_drop, ← List.append_assoc]
      exact h
end lists

/-- Reading a piece of a longer row. -/
theorem ReadL.of_range {p : List Value → D → Prop} {sz : Nat} : ∀ {n : Nat} {cs : List Value} {ds : List D}, ds.length = n → cs.length = n * sz →
    (∀ i, i < n → p ((cs.drop (i * sz)).take sz) (ds.getD i default)) → ReadL p sz cs ds
  | 0, cs, ds, hd, hc, _ => by
    have h1 : ds = [] := List.eq_nil_of_length_eq_zero hd
    have h2 : cs = [] := List.eq_nil_of_length_eq_zero (by simpa using hc)
    subst h1; subst h2; simp [ReadL]
  | n + 1, cs, [], hd, _, _ => by simp at hd
  | n + 1, cs, d :: ds, hd, hc, h => by
    refine ⟨by simpa using h 0 (by omega), ReadL.of_range (n := n) (by simpa using hd) (by simp [hc, Nat.add_mul]) (fun i hi => ?_)⟩
    have := h (i + 1) (by omega)
    simpa [List.drop_drop, Nat.add_mul, Nat.add_comm] using this

/-- A value of the type: an aggregate where the type is one, else one cell. -/
def RdV (w : World) (S : Nat → Prop) (t : Ty) (v : Value) (d : D) : Prop := Rd w S t v.cells.toList d ∧ vAgg v = t.agg

theorem RdV.mono {w w' : World} {S S' : Nat → Prop} (h : ∀ b o, S b → w.heap[b]? = some o → S' b ∧ w'.heap[b]? = some o) {t : Ty} {v : Value} {d : D} (k : RdV w S t v d) : RdV w' S' t v d :=
  ⟨k.1.mono h, k.2⟩

theorem RdV.int {w : World} {S : Nat → Prop} {k : IntKind} {v : Value} {d : D} (h : RdV w S (.int k) v d) : ∃ x, v = .int k x ∧ d = .n x := by
  obtain ⟨⟨x, hc, hd⟩, ha⟩ := h
  refine ⟨x, ?_, hd⟩
  cases v <;> simp_all [Value.cells, vAgg, Ty.agg]

theorem RdV.bool {w : World} {S : Nat → Prop} {v : Value} {d : D} (h : RdV w S .bool v d) : ∃ x, v = .bool x ∧ d = .b x := by
  obtain ⟨⟨x, hc, hd⟩, ha⟩ := h
  refine ⟨x, ?_, hd⟩
  cases v <;> simp_all [Value.cells, vAgg, Ty.agg]

theorem RdV.str {w : World} {S : Nat → Prop} {v : Value} {d : D} (h : RdV w S .str v d) : ∃ x, v = .string x ∧ d = .s x := by
  obtain ⟨⟨x, hc, hd⟩, ha⟩ := h
  refine ⟨x, ?_, hd⟩
  cases v <;> simp_all [Value.cells, vAgg, Ty.agg]

theorem RdV.sl {w : World} {S : Nat → Prop} {e : Ty} {v : Value} {d : D} (h : RdV w S (.sl e) v d) :
    ∃ ds a cap, d = .l ds ∧ v = .slice a ds.length cap ∧ ds.length ≤ cap ∧
      (cap = 0 ∨ ∃ g o c el fr, a = some ⟨g, o, none⟩ ∧ S g ∧ w.heap[g]? = some (.cells c el fr) ∧ o + cap * e.size ≤ c.size ∧
        ReadL (Rd w S e) e.size ((c.toList.drop o).take (ds.length * e.size)) ds) := by
  obtain ⟨⟨ds, hd, a, cap, hc, hle, hr⟩, ha⟩ := h
  refine ⟨ds, a, cap, hd, ?_, hle, hr⟩
  cases v <;> simp_all [Value.cells, vAgg, Ty.agg]

theorem RdV.agg {w : World} {S : Nat → Prop} {t : Ty} {v : Value} {d : D} (h : RdV w S t v d) (ht : t.agg = true) : ∃ cs, v = .agg cs ∧ Rd w S t cs.toList d := by
  obtain ⟨hr, ha⟩ := h
  rw [ht] at ha
  cases v <;> simp_all [vAgg, Value.cells]

theorem RdV.mk_int {w : World} {S : Nat → Prop} (k : IntKind) (x : Int) : RdV w S (.int k) (.int k x) (.n x) := ⟨⟨x, rfl, rfl⟩, rfl⟩
theorem RdV.mk_bool {w : World} {S : Nat → Prop} (x : Bool) : RdV w S .bool (.bool x) (.b x) := ⟨⟨x, rfl, rfl⟩, rfl⟩
theorem RdV.mk_str {w : World} {S : Nat → Prop} (x : ByteArray) : RdV w S .str (.string x) (.s x) := ⟨⟨x, rfl, rfl⟩, rfl⟩
theorem RdV.mk_agg {w : World} {S : Nat → Prop} {t : Ty} {cs : List Value} {d : D} (h : Rd w S t cs d) (ht : t.agg = true) : RdV w S t (.agg cs.toArray) d := ⟨by simpa [Value.cells] using h, by simp [vAgg, ht]⟩

end Go.SE
