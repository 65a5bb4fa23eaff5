/- The operations on memory: conversions, stores, new variables, composites. -/
import Derived.Test.YtbdalbibdkipcaaSeG
set_option linter.unusedVariables false
set_option linter.unusedSimpArgs false
set_option linter.constructorNameAsVariable false
namespace Go.SE
open Go.RowKit (Below)
open Go.Lib

def toBA (y : D) : ByteArray := strOfNums (y.list.map D.int)
def bytesD (s : ByteArray) : List D := s.data.toList.map fun b => .n b.toNat

section
variable {P : Program} {w0 : Base} {om : Om} {σ : St} {a : Act} {w : World}

theorem wp_world {o : Oper} {Q : Exit → Act → World → Prop} {K : St → Prop} {w' : World} {om' : Om} {σ' : St} (h : R0 w0 om' σ' a w') (hd : dstOk o.dst σ'.nt) {v : Value} {x : TV}
    (hr : (execOp a.eval o).run P w = .ok (.value v) w') (hx : TVok w' om' (Mb σ'.ob om') x v) (hK : K (σ'.put o.dst x)) : o.wp P a w (After w0 K) Q := by
  unfold Oper.wp
  rw [hr, Oper.upon_value]
  refine ⟨_, ⟨om', h.put o.dst x v (fun d e => ?_) hx⟩, hK⟩
  rw [e] at hd; exact hd

theorem wp_worldG {o : Oper} {Q : Exit → Act → World → Prop} {K : St → Prop} {w' : World} {om' : Om} {σ' : St} (h : R0 w0 om' σ' a w') (hB : Below w.heap.size w w') (hd : dstOk o.dst σ'.nt) {v : Value} {x : TV}
    (hr : (execOp a.eval o).run P w = .ok (.value v) w') (hx : TVok w' om' (Mb σ'.ob om') x v) (hK : K (σ'.put o.dst x)) : o.wp P a w (fun a' w' => Below w.heap.size w w' ∧ After w0 K a' w') Q := by
  unfold Oper.wp
  rw [hr, Oper.upon_value]
  refine ⟨hB, _, ⟨om', h.put o.dst x v (fun d e => ?_) hx⟩, hK⟩
  rw [e] at hd; exact hd

theorem wp_second {o : Oper} {Q : Exit → Act → World → Prop} {K : St → Prop} (h : o.wp P a w (fun a' w' => Below w.heap.size w w' ∧ After w0 K a' w') Q) : o.wp P a w (After w0 K) Q := by
  unfold Oper.wp at *
  generalize (execOp a.eval o).run P w = r at *
  cases r with
  | ok n w' =>
    cases n <;> simp only [Oper.upon] at h ⊢ <;>
      first
        | exact h.2
        | exact Calls.mono h (fun e w'' he => by cases e <;> first | exact he.2 | exact he)
        | exact Rows.mono h (fun _ _ he => he.2)
        | exact h
  | halt x w' => cases x <;> simp only [Oper.upon] at h ⊢ <;> exact h

theorem R0.put0 {dst : Option Nat} (h : R0 w0 om σ a w) (hd : dstOk dst σ.nt) : R0 w0 om (σ.put dst .u) (a.put dst undef) w :=
  h.put dst .u undef (fun d e => by rw [e] at hd; exact hd) rfl

theorem wp_skipped {o : Oper} {Q : Exit → Act → World → Prop} {K : St → Prop} {w' : World} {om' : Om} {σ' : St} (h : R0 w0 om' σ' a w') (hd : dstOk o.dst σ'.nt)
    (hr : (execOp a.eval o).run P w = .ok .skip w') (hK : K (σ'.put o.dst .u)) : o.wp P a w (After w0 K) Q := by
  unfold Oper.wp
  rw [hr, Oper.upon_skip]
  exact ⟨_, ⟨om', h.put0 hd⟩, hK⟩

/-! conversions -/

def sConv (T : Tab) (s d : TypeId) (x : SV) (σ : St) (K : St → SV → Prop) : Prop :=
  match look T s, look T d with
  | some (.int _), some (.int k) => match x with | .d (.int _) y => K σ (.d (.int k) (.n (k.wrap y.int))) | _ => False
  | some (.sl (.int .u8)), some .str => match den σ (.sl (.int .u8)) x with | some y => K σ (.d .str (.s (toBA y))) | none => False
  | some .str, some .str => match x with | .d .str y => K σ (.d .str (.s y.str)) | _ => False
  | some .str, some (.sl (.int .u8)) => match x with
    | .d .str y => K { σ with ob := (σ.nx, ⟨.arr y.str.size (.int .u8), .d (.arr y.str.size (.int .u8)) (.l (bytesD y.str))⟩) :: σ.ob, nx := σ.nx + 1 } (.ref σ.nx [] 0 y.str.size)
    | _ => False
  | _, _ => False

theorem readL_bytes {w : World} {S : Nat → Prop} (l : List UInt8) : ReadL (Rd w S (.int .u8)) 1 (l.map fun b => Value.int .u8 b.toNat) (l.map fun b => D.n b.toNat) := by
  induction l with
  | nil => rfl
  | cons b l ih => exact ⟨⟨b.toNat, rfl, rfl⟩, by simpa using ih⟩

theorem readL_bytes_get {w : World} {S : Nat → Prop} : ∀ {cs : List Value} {ds : List D}, ReadL (Rd w S (.int .u8)) 1 cs ds → cs = ds.map fun d => Value.int .u8 d.int
  | cs, [], h => by simp only [ReadL] at h; subst h; rfl
  | cs, d :: ds, h => by
    obtain ⟨⟨x, h1, h2⟩, h3⟩ := h
    subst h2
    have := readL_bytes_get h3
    rw [← List.take_append_drop 1 cs, h1, this]
    rfl

theorem sConv_pure {T : Tab} (hT : T.Ok P) {o : Oper} {u d : TypeId} {x : Operand} {K : St → Prop} {s : SV} (ho : o.op = .convert u d x) (h : R0 w0 om σ a w) (hd : dstOk o.dst σ.nt)
    (hx : ev1 σ x = some s) (hs : sConv T u d s σ (fun σ s => K (σ.put o.dst (.v s)))) (hd2 : ∀ e, look T d ≠ some (.sl e)) : VStep P w0 o a w K := by
  have hv := h.ev1 hx
  unfold sConv at hs
  split at hs
  · rename_i k1 k2 h1 h2
    have hu1 := (hT u _ h1).1.1
    have hu2 := (hT d _ h2).1.1
    split at hs
    · obtain ⟨n, en, rfl⟩ := hv.data.int
      exact wp_val h hd (v := .int k2 (k2.wrap n)) (x := .v (.d (.int k2) (.n _))) (fun w' hw' => by simp [execOp, ho, en, convert, run_underlying hu1, run_underlying hu2, Conv.intToInt]) (Val1.of (RdV.mk_int _ _)) hs
    · exact hs.elim
  · rename_i h1 h2
    obtain ⟨⟨e, hu1, hte⟩, _⟩ := (hT u _ h1).1
    have hu2 := (hT d _ h2).1.1
    split at hs
    · rename_i y hy
      obtain ⟨t', hcv, ha⟩ := hv
      have hr := den_ok h (S := fun _ => True) (fun _ _ => trivial) hcv hy (fun _ _ _ _ _ => trivial)
      have hva : vAgg (a.eval x) = (Ty.sl (.int .u8)).agg := by
        have hl := hr.length
        have h1 := hcv.length
        rw [ha]
        cases s <;> simp only [den, reduceCtorEq] at hy
        · rename_i t y'; split at hy
          · rename_i e; subst e; obtain ⟨rfl, _⟩ := hcv; rfl
          · cases hy
        · obtain ⟨⟨e, rfl⟩, _⟩ := hcv; rfl
        · obtain ⟨_, _, rfl, _⟩ := hcv; rfl
      obtain ⟨ds, b, cap, rfl, evx, hle, hrr⟩ := RdV.sl (v := a.eval x) ⟨hr, hva⟩
      have hrun : ∀ w', Below w.heap.size w w' → (convert u d (a.eval x)).run P w' = .ok (.string (toBA (.l ds))) w' := by
        intro w' hw'
        rw [evx]
        rcases hrr with hc0 | ⟨g, o', c, el, fr, rfl, _, hh, hb, hrl⟩
        · have : ds = [] := List.eq_nil_of_length_eq_zero (by omega)
          subst this
          simp only [List.length_nil]
          cases b with
          | none => rw [run_convert_bytes_nil w' u e hu1 hte.1 0 cap d hu2]; rfl
          | some b =>
            rw [run_convert_bytes_string w' u d e _ _ cap hu1 hte.1 hu2]
            rw [run_bytesToString w' b 0 cap [] (by simp [loadCells, loadCellsFrom])]
            rfl
        · have hcs := readL_bytes_get hrl
          simp only [Ty.size, Nat.mul_one] at hcs hb
          have hcells := cells_at (n := ds.length) (Below.hp hw' hh) (o := o') (by omega)
          rw [hcs] at hcells
          rw [run_convert_bytes_arg w' u e hu1 hte.1 g o' ds.length cap (ds.map D.int) (by simp) ?_ d hu2]
          · rfl
          · intro i hi
            have := hcells i (.int .u8 (ds[i]).int) (by simp [hi])
            rw [Addr.add_lit] at this
            rw [this]
            simp [List.getD_eq_getElem?_getD, hi]
      exact wp_val h hd (v := .string (toBA (.l ds))) (x := .v (.d .str (.s _))) (fun w' hw' => by simp [execOp, ho, hrun w' hw']) (Val1.of (RdV.mk_str _)) hs
    · exact hs.elim
  · rename_i h1 h2
    have hu1 := (hT u _ h1).1.1
    have hu2 := (hT d _ h2).1.1
    split at hs
    · obtain ⟨n, en, rfl⟩ := hv.data.str
      exact wp_val h hd (v := .string n) (x := .v (.d .str (.s _))) (fun w' hw' => by simp [execOp, ho, en, convert, run_underlying hu1, run_underlying hu2]) (Val1.of (RdV.mk_str _)) hs
    · exact hs.elim
  · rename_i h1 h2
    exact absurd h2 (hd2 _)
  · exact hs.elim

theorem sConv_sound {T : Tab} (hT : T.Ok P) {o : Oper} {u d : TypeId} {x : Operand} {Q : Exit → Act → World → Prop} {K : St → Prop} {s : SV} (ho : o.op = .convert u d x) (h : R0 w0 om σ a w) (hd : dstOk o.dst σ.nt)
    (hx : ev1 σ x = some s) (hs : sConv T u d s σ (fun σ s => K (σ.put o.dst (.v s)))) : o.wp P a w (After w0 K) Q := by
  by_cases hd2 : ∀ e, look T d ≠ some (.sl e)
  · exact (sConv_pure hT ho h hd hx hs hd2).wp
  have hv := h.ev1 hx
  unfold sConv at hs
  split at hs
  · rename_i h2; exact absurd (fun e h => by rw [h2] at h; cases h) hd2
  · rename_i h2; exact absurd (fun e h => by rw [h2] at h; cases h) hd2
  · rename_i h2; exact absurd (fun e h => by rw [h2] at h; cases h) hd2
  · rename_i h1 h2
    have hu1 := (hT u _ h1).1.1
    obtain ⟨⟨e, hu2, hte⟩, _⟩ := (hT d _ h2).1
    split at hs
    · rename_i y
      obtain ⟨n, en, rfl⟩ := hv.data.str
      simp only [D.str] at hs
      have hrun := run_convert_string_bytes (P := P) w u d e n hu1 hu2 hte.1
      have hsz : (bytesCells w e n).size = max n.size (grownCap w n.size 0 e) := by
        simp only [bytesCells, Array.size_append, Array.size_map, Array.size_replicate]
        have : n.data.size = n.size := rfl
        omega
      have hge := grownCap_ge w n.size 0 e
      have hheap : (bytesWorld w e n).heap = w.heap.push (.cells (bytesCells w e n) e ((bytesCells w e n).size, (bytesCells w e n).size + 1)) := by
        apply Array.ext_getElem?
        intro i
        rw [Array.getElem?_push]
        split
        · rename_i e'; subst e'; exact bytesWorld_at_new w e n
        · rename_i e'
          by_cases hi : i < w.heap.size
          · exact bytesWorld_at_old w e n i hi
          · rw [Array.getElem?_eq_none (show (bytesWorld w e n).heap.size ≤ i by rw [bytesWorld_size]; omega), Array.getElem?_eq_none (show w.heap.size ≤ i by omega)]
      have hbl : (bytesD n).length = n.size := by simp [bytesD]
      obtain ⟨om', hR, hself, hkeep, hM⟩ := h.alloc (w' := bytesWorld w e n) (bytesCells w e n) e ((bytesCells w e n).size, (bytesCells w e n).size + 1)
        ⟨.arr n.size (.int .u8), .d (.arr n.size (.int .u8)) (.l (bytesD n))⟩ (grownCap w n.size 0 e) hheap
        (by simp [bytesWorld, World.freeze]) (by simp [bytesWorld, World.freeze]; rfl) (by simp [bytesWorld, World.freeze]; rfl) (by intro i hi; simp; omega)
        (by refine ⟨by simp [Ty.size]; omega, ?_⟩; intro k e' he; simp only [Ty.arr.injEq] at he; obtain ⟨rfl, rfl⟩ := he; simp [Ty.size]; omega)
        (by
          refine ⟨rfl, bytesD n, rfl, hbl, ?_⟩
          have hr := readL_bytes (w := w) (S := fun b => ¬ Mb σ.ob om b) n.data.toList
          have : ((bytesCells w e n).toList.take (Ty.arr n.size (.int .u8)).size) = n.data.toList.map fun b => Value.int .u8 b.toNat := by
            simp only [bytesCells, Array.toList_append, Array.toList_map, Ty.size, Nat.mul_one]
            rw [List.take_append_of_le_length (by simp), List.take_of_length_le (by simp)]
          rw [this]; exact hr)
      refine wp_world hR hd (v := .slice (some ⟨w.heap.size, 0, none⟩) n.size (grownCap w n.size 0 e)) (x := .v (.ref σ.nx [] 0 n.size)) (by simp [execOp, ho, en, hrun]) ?_ hs
      exact ⟨.sl (.int .u8), ⟨.int .u8, _, rfl, rfl, _, _, n.size, _, hself, rfl, trivial, by omega, hge, .inr ⟨_, rfl, by simp [Ty.offs], by simp⟩⟩, rfl⟩
    · exact hs.elim
  · exact hs.elim

/-! an array behind a slice -/

def sArr (T : Tab) (d : TypeId) (x : SV) (σ : St) (K : SV → Prop) : Prop :=
  match look T d with
  | some (.arr n e) => match x with
    | .ref o p off len => match look σ.ob o with
      | some ob => (match ob.t.sub p with | some (.arr _ e') => e' = e | _ => False) ∧ 1 ≤ n ∧ n ≤ len ∧ K (.ptr o (p ++ [.win off n]))
      | none => False
    | .d t y => t = .sl e ∧ 1 ≤ n ∧ n ≤ y.list.length ∧ K (.vp (.arr n e) (.l (y.list.take n)))
    | _ => False
  | _ => False

theorem sArr_sound {T : Tab} (hT : T.Ok P) {o : Oper} {d : TypeId} {x : Operand} {K : St → Prop} {s : SV} (ho : o.op = .sliceToArrayPointer d x) (h : R0 w0 om σ a w) (hd : dstOk o.dst σ.nt)
    (hx : ev1 σ x = some s) (hs : sArr T d s σ (fun s => K (σ.put o.dst (.v s)))) : VStep P w0 o a w K := by
  have hv := h.ev1 hx
  unfold sArr at hs
  split at hs
  · rename_i n e ht
    obtain ⟨⟨ue, hu, hte⟩, _⟩ := (hT d _ ht).1
    split at hs
    · rename_i b p off len
      split at hs
      · rename_i ob hl
        obtain ⟨hty, h0, h1, hK⟩ := hs
        obtain ⟨e0, m, cap, hsub, hok, hlen, hcap, hpl⟩ := ref_place h hv hl
        rw [hsub] at hty
        subst hty
        rcases hpl with ⟨rfl, _⟩ | ⟨q, c, el, fr, ho', evx, hcap2, hh, hun, hroom, hcv⟩
        · omega
        · have h2 : ¬ (len < n) := by omega
          refine wp_val h hd (v := .pointer (some ⟨q.b, q.base + ob.t.offs (p ++ [.win off n]), none⟩)) (x := .v (.ptr b (p ++ [.win off n]))) ?_ ?_ hK
          · intro w' hw'; simp [execOp, ho, evx, Instr.arrayAt, run_underlying hu, h2, Ty.offs_snoc hsub, Ty.off1, Nat.add_assoc]
          · exact ⟨.ptr, ⟨_, rfl, rfl, ob.t, q, .arr n e0, ho', by rw [Ty.sub_snoc hsub]; rfl, Ty.okp_snoc hsub hok (show off + n ≤ m by omega), rfl⟩, rfl⟩
      · exact hs.elim
    · rename_i t y
      obtain ⟨rfl, h0, h1, hK⟩ := hs
      obtain ⟨ds, b, cap, rfl, evx, hcap, hr⟩ := hv.data.sl
      simp only [D.list] at h1 hK
      rcases hr with hr | ⟨g, o', c, el, fr, rfl, hM, hh, hle, hrl⟩
      · omega
      · have hmul : n * e.size ≤ ds.length * e.size := Nat.mul_le_mul_right _ h1
        have hmul2 : ds.length * e.size ≤ cap * e.size := Nat.mul_le_mul_right _ hcap
        have h2 : ¬ (ds.length < n) := by omega
        refine wp_val h hd (v := .pointer (some ⟨g, o', none⟩)) (x := .v (.vp (.arr n e) (.l (ds.take n)))) ?_ ?_ hK
        · intro w' hw'; simp [execOp, ho, evx, Instr.arrayAt, run_underlying hu, h2]
        · refine ⟨.ptr, ⟨rfl, g, o', c, el, fr, rfl, hM, hh, by simp only [Ty.size]; omega, _, rfl, by simp; omega, ?_⟩, rfl⟩
          have := ReadL.take n hrl
          rw [List.take_take, Nat.min_eq_left hmul] at this
          exact this
    · exact hs.elim
  · exact hs.elim

/-! stores -/

def sStore (T : Tab) (u : TypeId) (x y : SV) (σ : St) (K : St → Prop) : Prop :=
  match x with
  | .ptr o p => match look σ.ob o with
    | some ob => match ob.c.put p y, look T u with
      | some c, some t => ob.t.sub p = some t ∧ hasTy σ t y ∧ K { σ with ob := upd σ.ob o ⟨ob.t, c⟩ }
      | _, _ => False
    | none => False
  | _ => False

theorem splice_at {cs ns : List Value} {b T o : Nat} (h1 : o + ns.length ≤ T) (h2 : b + T ≤ cs.length) : ((splice cs (b + o) ns).drop b).take T = splice ((cs.drop b).take T) o ns := by
  rw [splice_drop (by omega), List.drop_append_of_le_length (by simp; omega), List.drop_of_length_le (by simp; omega), List.nil_append]
  rw [splice_take (cs := cs.drop b) (k := T) h1 (by simp; omega)]
  rw [List.take_append_of_le_length, List.take_of_length_le]
  · rw [splice_length (by simp; omega)]; simp; omega
  · rw [splice_length (by simp; omega)]; simp; omega

theorem sStore_sound {T : Tab} (hT : T.Ok P) {o : Oper} {u : TypeId} {x y : Operand} {Q : Exit → Act → World → Prop} {K : St → Prop} {s r : SV} (ho : o.op = .store u x y) (h : R0 w0 om σ a w) (hd : dstOk o.dst σ.nt)
    (hx : ev1 σ x = some s) (hy : ev1 σ y = some r) (hs : sStore T u s r σ (fun σ => K (σ.put o.dst .u))) : o.wp P a w (After w0 K) Q := by
  have hv := h.ev1 hx
  have hw := h.ev1 hy
  unfold sStore at hs
  split at hs
  · rename_i b p
    split at hs
    · rename_i ob hl
      split at hs
      · rename_i c' t hp ht
        obtain ⟨hsub, hty, hK⟩ := hs
        obtain ⟨q, u', c, el, fr, ev, ho', hsub', hok, hh, hu, hroom, hcv⟩ := ptr_place h hv hl
        obtain ⟨hcr, har⟩ := hw.ty h hty
        have hlen := hcr.length
        simp only [Array.length_toList] at hlen
        have hle := Ty.sub_size hok hsub
        have hr1 := hroom.1
        have hrun := run_storeVar (P := P) (w := w) hh hu (hT u t ht).1 (o := q.base + ob.t.offs p) (by omega) hlen (fun x hx => hcr.one x hx)
        have hput := CV.put hcv hok hp hsub hcr
        have hspl : (splice c.toList (q.base + ob.t.offs p) (a.eval y).cells.toList).length = c.size := by
          rw [splice_length (by simp [hlen]; omega)]; simp
        have hR := h.write (w' := w.setRow q.b (splice c.toList (q.base + ob.t.offs p) (a.eval y).cells.toList).toArray) hl ho' hh (splice c.toList (q.base + ob.t.offs p) (a.eval y).cells.toList).toArray c'
          (setRow_heap w q.b c _ el fr hh) (fun b hb => setRow_other w q.b b _ hb) (by simp [World.setRow]) rfl rfl rfl (by simp [hspl])
          (by
            rw [List.toList_toArray, splice_at (by simp [hlen]; omega) (by simp; omega)]
            exact hput)
        exact wp_skipped hR hd (by simp [execOp, ho, ev, Instr.storeAt, Instr.sureAddr, hrun]) hK
      · exact hs.elim
    · exact hs.elim
  · exact hs.elim

/-! new variables -/

theorem CV.zero {M : Nat → Prop} : ∀ {t : Ty}, t.wf = true → CV w om M t t.zeroSV t.zeroCells
  | .bool, _ => ⟨rfl, Rd.zero rfl⟩
  | .int _, _ => ⟨rfl, Rd.zero rfl⟩
  | .str, _ => ⟨rfl, Rd.zero rfl⟩
  | .sl e, _ => ⟨⟨e, rfl⟩, none, rfl⟩
  | .arr n e, h => ⟨rfl, Rd.zero h⟩
  | .nil, _ => ⟨rfl, rfl⟩
  | .cons a b, h => by
    simp only [Ty.zeroSV]
    split
    · exact ⟨rfl, Rd.zero h⟩
    · simp only [Ty.wf, Bool.and_eq_true] at h
      have hl := Ty.zeroCells_length a
      refine ⟨a, b, rfl, ?_, ?_⟩
      · rw [Ty.zeroCells, List.take_append_of_le_length (by omega), List.take_of_length_le (by omega)]; exact CV.zero h.1.1
      · rw [Ty.zeroCells, List.drop_append_of_le_length (by omega), List.drop_of_length_le (by omega), List.nil_append]; exact CV.zero h.1.2

theorem room_box (t : Ty) (b : Nat) : Room t ⟨b, 0, t.cnt⟩ t.size := by
  refine ⟨by simp, ?_⟩
  intro k e he
  subst he
  simp [Ty.cnt, Ty.size]

/-- A fresh variable with known contents. -/
theorem R0.box (h : R0 w0 om σ a w) {t : Ty} {u : TypeId} {c : SV} {v : Value} (hc : CV w om (Mb σ.ob om) t c v.cells.toList) :
    ∃ om' w', (newVar u v).run P w = .ok ⟨w.heap.size, 0, none⟩ w' ∧ R0 w0 om' { σ with ob := (σ.nx, ⟨t, c⟩) :: σ.ob, nx := σ.nx + 1 } a w' ∧ om' σ.nx = some (t, some ⟨w.heap.size, 0, t.cnt⟩) ∧ Below w.heap.size w w' := by
  have hl := hc.length
  simp only [Array.length_toList] at hl
  obtain ⟨om', hR, hself, _, _⟩ := h.alloc (w' := w.alloc (.cells v.cells u)) v.cells u (0, 0) ⟨t, c⟩ t.cnt rfl rfl rfl rfl (by intro i _ hh; simp at hh) (by rw [hl]; exact room_box t _)
    (by rw [List.take_of_length_le (by simp [hl])]; exact hc)
  exact ⟨om', _, by simp [newVar, newRow], hR, hself, (Below.refl _ w).alloc (Nat.le_refl _) _⟩

def sAlloc (T : Tab) (u : TypeId) (σ : St) (K : St → SV → Prop) : Prop :=
  match look T u with
  | some t => K { σ with ob := (σ.nx, ⟨t, t.zeroSV⟩) :: σ.ob, nx := σ.nx + 1 } (.ptr σ.nx [])
  | none => False

theorem sAlloc_grow {T : Tab} (hT : T.Ok P) {o : Oper} {u : TypeId} {Q : Exit → Act → World → Prop} {K : St → Prop} (ho : o.op = .alloc u) (h : R0 w0 om σ a w) (hd : dstOk o.dst σ.nt)
    (hs : sAlloc T u σ (fun σ s => K (σ.put o.dst (.v s)))) : o.wp P a w (fun a' w' => Below w.heap.size w w' ∧ After w0 K a' w') Q := by
  unfold sAlloc at hs
  split at hs
  · rename_i t ht
    obtain ⟨htok, hwf⟩ := hT u t ht
    obtain ⟨z, hz, hzc, hza⟩ := htok.zeroValue w
    obtain ⟨om', w', hrun, hR, hself, hB⟩ := R0.box (P := P) (u := u) h (t := t) (c := t.zeroSV) (v := z) (by rw [hzc]; exact CV.zero hwf)
    exact wp_worldG hR hB hd (v := .pointer (some ⟨w.heap.size, 0, none⟩)) (x := .v (.ptr σ.nx [])) (by simp [execOp, ho, Instr.alloc, hz, hrun])
      ⟨.ptr, ⟨_, rfl, rfl, t, _, t, hself, rfl, trivial, by simp [Ty.offs]⟩, rfl⟩ hs
  · exact hs.elim

theorem sAlloc_sound {T : Tab} (hT : T.Ok P) {o : Oper} {u : TypeId} {Q : Exit → Act → World → Prop} {K : St → Prop} (ho : o.op = .alloc u) (h : R0 w0 om σ a w) (hd : dstOk o.dst σ.nt)
    (hs : sAlloc T u σ (fun σ s => K (σ.put o.dst (.v s)))) : o.wp P a w (After w0 K) Q :=
  wp_second (sAlloc_grow hT ho h hd hs)

def sBox (T : Tab) (u : TypeId) (x : SV) (σ : St) (K : St → SV → Prop) : Prop :=
  match look T u with
  | some t => hasTy σ t x ∧ K { σ with ob := (σ.nx, ⟨t, x⟩) :: σ.ob, nx := σ.nx + 1 } (.ptr σ.nx [])
  | none => False

theorem sBox_grow {T : Tab} {o : Oper} {u : TypeId} {x : Operand} {Q : Exit → Act → World → Prop} {K : St → Prop} {s : SV} (ho : o.op = .box u x) (h : R0 w0 om σ a w) (hd : dstOk o.dst σ.nt)
    (hx : ev1 σ x = some s) (hs : sBox T u s σ (fun σ s => K (σ.put o.dst (.v s)))) : o.wp P a w (fun a' w' => Below w.heap.size w w' ∧ After w0 K a' w') Q := by
  have hv := h.ev1 hx
  unfold sBox at hs
  split at hs
  · rename_i t ht
    obtain ⟨hty, hK⟩ := hs
    obtain ⟨hcv, _⟩ := hv.ty h hty
    obtain ⟨om', w', hrun, hR, hself, hB⟩ := R0.box (P := P) (u := u) h hcv
    exact wp_worldG hR hB hd (v := .pointer (some ⟨w.heap.size, 0, none⟩)) (x := .v (.ptr σ.nx [])) (by simp [execOp, ho, Instr.box, hrun])
      ⟨.ptr, ⟨_, rfl, rfl, t, _, t, hself, rfl, trivial, by simp [Ty.offs]⟩, rfl⟩ hK
  · exact hs.elim

theorem sBox_sound {T : Tab} {o : Oper} {u : TypeId} {x : Operand} {Q : Exit → Act → World → Prop} {K : St → Prop} {s : SV} (ho : o.op = .box u x) (h : R0 w0 om σ a w) (hd : dstOk o.dst σ.nt)
    (hx : ev1 σ x = some s) (hs : sBox T u s σ (fun σ s => K (σ.put o.dst (.v s)))) : o.wp P a w (After w0 K) Q :=
  wp_second (sBox_grow ho h hd hx hs)

end
end Go.SE
