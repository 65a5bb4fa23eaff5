/- Merged: SeS WiA WiB WiC WiD WiE WiF WiG WiH WiI WiJ. -/
import Derived.ProofKit
import Derived.SizedLaws
import Derived.Laws.Externs
import Derived.Shelf.Spec.BitsCarry
import Derived.Laws.BitsAllLaws
import Derived.Lib.Mul64
import Derived.Laws.Bits64b
import Derived.Test.YtmafojaagmneoaaDoorMSg1
set_option linter.unusedVariables false
set_option linter.unusedSimpArgs false
set_option linter.constructorNameAsVariable false
/- A law: what its arguments read as, and that its row holds if its text comes to true. -/
namespace Go.SE
open Go.RowKit (Below)
open Go.ChangeShapes

/-! data that values can be -/
def Fit : Ty → D → Prop
  | .bool, x => ∃ b, x = .b b
  | .int k, x => ∃ n, x = .n n ∧ k.min ≤ n ∧ n ≤ k.max
  | .str, x => ∃ s, x = .s s ∧ s.size ≤ 9223372036854775807
  | .sl e, x => ∃ l, x = .l l ∧ l.length ≤ 9223372036854775807 ∧ ∀ y ∈ l, Fit e y
  | .arr n e, x => ∃ l, x = .l l ∧ l.length = n ∧ ∀ y ∈ l, Fit e y
  | .nil, x => x = .l []
  | .cons a b, x => ∃ y l, x = .l (y :: l) ∧ Fit a y ∧ Fit b (.l l)
  | .ptr, _ => False

theorem Fit.i64 {x : D} (h : Fit (.int .i64) x) : ∃ n : Int, x = .n n ∧ -9223372036854775808 ≤ n ∧ n ≤ 9223372036854775807 := by
  obtain ⟨n, rfl, h1, h2⟩ := h
  simp [IntKind.min, IntKind.signed, IntKind.bits] at h1
  simp [IntKind.max, IntKind.signed, IntKind.bits] at h2
  exact ⟨n, rfl, by omega, by omega⟩
theorem Fit.i32 {x : D} (h : Fit (.int .i32) x) : ∃ n : Int, x = .n n ∧ -2147483648 ≤ n ∧ n ≤ 2147483647 := by
  obtain ⟨n, rfl, h1, h2⟩ := h
  simp [IntKind.min, IntKind.signed, IntKind.bits] at h1
  simp [IntKind.max, IntKind.signed, IntKind.bits] at h2
  exact ⟨n, rfl, by omega, by omega⟩
theorem Fit.u64 {x : D} (h : Fit (.int .u64) x) : ∃ n : Nat, x = .n n ∧ n < 18446744073709551616 := by
  obtain ⟨n, rfl, h1, h2⟩ := h
  simp [IntKind.min, IntKind.signed] at h1
  simp [IntKind.max, IntKind.signed, IntKind.bits] at h2
  exact ⟨n.toNat, by rw [show ((n.toNat : Nat) : Int) = n by omega], by omega⟩
theorem Fit.u32 {x : D} (h : Fit (.int .u32) x) : ∃ n : Nat, x = .n n ∧ n < 4294967296 := by
  obtain ⟨n, rfl, h1, h2⟩ := h
  simp [IntKind.min, IntKind.signed] at h1
  simp [IntKind.max, IntKind.signed, IntKind.bits] at h2
  exact ⟨n.toNat, by rw [show ((n.toNat : Nat) : Int) = n by omega], by omega⟩
theorem Fit.u16 {x : D} (h : Fit (.int .u16) x) : ∃ n : Nat, x = .n n ∧ n < 65536 := by
  obtain ⟨n, rfl, h1, h2⟩ := h
  simp [IntKind.min, IntKind.signed] at h1
  simp [IntKind.max, IntKind.signed, IntKind.bits] at h2
  exact ⟨n.toNat, by rw [show ((n.toNat : Nat) : Int) = n by omega], by omega⟩
theorem Fit.u8 {x : D} (h : Fit (.int .u8) x) : ∃ n : Nat, x = .n n ∧ n < 256 := by
  obtain ⟨n, rfl, h1, h2⟩ := h
  simp [IntKind.min, IntKind.signed] at h1
  simp [IntKind.max, IntKind.signed, IntKind.bits] at h2
  exact ⟨n.toNat, by rw [show ((n.toNat : Nat) : Int) = n by omega], by omega⟩

/-- Rows' elements take a cell or more. -/
def Ty.row : Ty → Bool
  | .sl e => e.row && decide (0 < e.size)
  | .arr _ e => e.row
  | .cons a b => a.row && b.row
  | .ptr => false
  | _ => true

section
variable {H : Type} {enc : TypeId × Value → H} {P : Program} {w : World}

theorem TyOk.cellsOf {t : Ty} {u : TypeId} (h : TyOk P t u) : P.cellsOf u = t.size := by
  obtain ⟨i, hi, hs, _⟩ := h.info
  simp [Program.cellsOf, hi, hs]

theorem readL_build {p : List Value → D → Prop} {F : D → Prop} {sz : Nat} : ∀ (n : Nat) (cs : List Value), cs.length = n * sz → (∀ i, i < n → ∃ d, p ((cs.drop (i * sz)).take sz) d ∧ F d) →
    ∃ ds, ds.length = n ∧ ReadL p sz cs ds ∧ ∀ y ∈ ds, F y
  | 0, cs, hl, _ => ⟨[], rfl, List.eq_nil_of_length_eq_zero (by simpa using hl), by simp⟩
  | n + 1, cs, hl, h => by
    obtain ⟨d, h1, h2⟩ := h 0 (by omega)
    have hl2 : (cs.drop sz).length = n * sz := by rw [List.length_drop, hl, Nat.add_mul]; omega
    obtain ⟨ds, k1, k2, k3⟩ := readL_build (p := p) (F := F) n (cs.drop sz) hl2 (fun i hi => by
      obtain ⟨d, h1, h2⟩ := h (i + 1) (by omega)
      refine ⟨d, ?_, h2⟩
      rw [List.drop_drop, show sz + i * sz = (i + 1) * sz by rw [Nat.add_mul]; omega]
      exact h1)
    refine ⟨d :: ds, by simp [k1], ⟨by simpa using h1, k2⟩, ?_⟩
    intro y hy
    rcases List.mem_cons.1 hy with rfl | hy
    · exact h2
    · exact k3 y hy

theorem trod_array {t e : TypeId} {n : Nat} {base : Nat} {sp : Nat → Bool} {held : Bool} {fuel : Nat} {cs : List Value} {x : DataW H × List MemPlace} (ht : P.underlying t = some (.array n e)) (h : DataW.trod enc P w base sp held fuel t cs = some x) :
    ∃ (xs : List (DataW H × List MemPlace)) (m : Nat), fuel = m + 1 ∧ cs.length = P.cellsOf t ∧ xs.length = n ∧ ∀ i, i < n → DataW.trod enc P w base sp held m e ((cs.drop (i * P.cellsOf e)).take (P.cellsOf e)) = xs[i]? := by
  cases fuel with
  | zero => simp [DataW.trod] at h
  | succ m =>
    unfold DataW.trod at h
    rw [ht] at h
    split at h <;> simp_all
    obtain ⟨hl, xs, hp, hd⟩ := h
    exact ⟨xs, by simpa using mapM_some_length hp, fun i hi => mapM_some_get hp i i (by simp [hi])⟩

mutual
theorem rd_trod : ∀ {ty : Ty} {t : TypeId} {fuel : Nat} {cs : List Value} {x : DataW H × List MemPlace}, TyOk P ty t → ty.row = true → DataW.trod enc P w 0 (fun _ => true) true fuel t cs = some x →
    ∃ d, Rd w (fun _ => True) ty cs d ∧ Fit ty d
  | .bool, t, fuel, cs, x, ht, _, h => by
    obtain ⟨b, rfl, _⟩ := DataW.trod_bool ht.1 h
    exact ⟨.b b, ⟨b, rfl, rfl⟩, b, rfl⟩
  | .int k, t, fuel, cs, x, ht, _, h => by
    obtain ⟨n, rfl, _, hw⟩ := DataW.trod_int ht.1 h
    simp only [Lit.wf, Bool.and_eq_true, decide_eq_true_eq] at hw
    exact ⟨.n n, ⟨n, rfl, rfl⟩, n, rfl, hw⟩
  | .str, t, fuel, cs, x, ht, _, h => by
    obtain ⟨s, rfl, _, hw⟩ := DataW.trod_string ht.1 h
    exact ⟨.s s, ⟨s, rfl, rfl⟩, s, rfl, hw⟩
  | .ptr, t, fuel, cs, x, ht, hr, h => by cases hr
  | .nil, t, fuel, cs, x, ht, _, h => by
    obtain ⟨⟨fs, hu, _, _⟩, _⟩ := id ht
    obtain ⟨xs, m, _, _, hl, _⟩ := DataW.trod_struct hu h
    rw [ht.cellsOf] at hl
    exact ⟨.l [], ⟨List.eq_nil_of_length_eq_zero hl, rfl⟩, rfl⟩
  | .arr n e, t, fuel, cs, x, ht, hr, h => by
    obtain ⟨⟨u, hu, hte⟩, _⟩ := id ht
    obtain ⟨xs, m, _, hl, hxl, hx⟩ := trod_array hu h
    rw [ht.cellsOf] at hl
    rw [hte.cellsOf] at hx
    obtain ⟨ds, h1, h2, h3⟩ := readL_build (p := Rd w (fun _ => True) e) (F := Fit e) n cs hl (fun i hi => by
      have hxi := hx i hi
      rw [List.getElem?_eq_getElem (by omega)] at hxi
      exact rd_trod hte hr hxi)
    exact ⟨.l ds, ⟨ds, rfl, h1, h2⟩, ds, rfl, h1, h3⟩
  | .sl e, t, fuel, cs, x, ht, hr, h => by
    obtain ⟨⟨u, hu, hte⟩, _⟩ := id ht
    simp only [Ty.row, Bool.and_eq_true, decide_eq_true_eq] at hr
    rcases DataW.trod_slice hu h with ⟨rfl, _⟩ | ⟨a, len, cap, elems, rest, m, _, rfl, _, _, hle, hcm, hel, hx, hsp, _⟩
    · exact ⟨.l [], ⟨[], rfl, none, 0, rfl, Nat.le_refl _, .inl rfl⟩, [], rfl, by simp, by simp⟩
    · rw [hte.cellsOf] at hx
      obtain ⟨hrl, hrx⟩ := hsp rfl
      rw [hte.cellsOf] at hrx
      have all : ∀ i, i < cap → ∃ row y, w.cells? 0 (a.add (i * e.size)) e.size = some row ∧ DataW.trod enc P w 0 (fun _ => true) true m u row = some y := by
        intro i hi
        have : ∃ y, (w.cells? 0 (a.add (i * e.size)) e.size).bind (DataW.trod enc P w 0 (fun _ => true) true m u) = some y := by
          by_cases hil : i < len
          · exact ⟨elems[i]'(by omega), by rw [hx i hil, List.getElem?_eq_getElem (by omega)]⟩
          · have := hrx (i - len) (by omega)
            rw [show len + (i - len) = i by omega] at this
            exact ⟨rest[i - len]'(by omega), by rw [this, List.getElem?_eq_getElem (by omega)]⟩
        obtain ⟨y, hy⟩ := this
        obtain ⟨row, h1, h2⟩ := Option.bind_eq_some_iff.1 hy
        exact ⟨row, y, h1, h2⟩
      by_cases hcap : cap = 0
      · have hl0 : len = 0 := by omega
        subst hl0
        exact ⟨.l [], ⟨[], rfl, some a, cap, rfl, Nat.zero_le _, .inl hcap⟩, [], rfl, by simp, by simp⟩
      · have hblk : ∃ c el fr, w.heap[a.block]? = some (.cells c el fr) ∧ a.spot = none := by
          obtain ⟨row, y, h1, _⟩ := all 0 (by omega)
          obtain ⟨_, k1, k2⟩ := World.cells?_some h1
          have hv0 := k2 0 hr.2
          rw [List.getElem?_eq_getElem (by omega)] at hv0
          have ea : (a.add (0 * e.size)).add 0 = a := by simp [Addr.add]
          rw [ea] at hv0
          unfold World.cell? at hv0
          split at hv0
          · rename_i c el fr hh
            split at hv0
            · cases hv0
            · rename_i hsp
              refine ⟨c, el, fr, hh, ?_⟩
              simpa using hsp
          · cases hv0
        obtain ⟨c, el, fr, hh, hspot⟩ := hblk
        obtain ⟨g, o, s⟩ := a
        simp only at hh hspot
        subst hspot
        have cellOf : ∀ i j, i < cap → j < e.size → ∃ row y, w.cells? 0 (Addr.add ⟨g, o, none⟩ (i * e.size)) e.size = some row ∧ DataW.trod enc P w 0 (fun _ => true) true m u row = some y ∧ row.length = e.size ∧ ∀ j, j < e.size → c[o + i * e.size + j]? = row[j]? := by
          intro i j hi hj
          obtain ⟨row, y, h1, h2⟩ := all i hi
          obtain ⟨_, k1, k2⟩ := World.cells?_some h1
          refine ⟨row, y, h1, h2, k1, fun j hj => ?_⟩
          rw [← k2 j hj, Addr.add_lit, Addr.add_lit]
          simp [World.cell?, hh]
        have hbound : o + cap * e.size ≤ c.size := by
          obtain ⟨row, y, _, _, k1, k2⟩ := cellOf (cap - 1) (e.size - 1) (by omega) (by omega)
          have h3 := k2 (e.size - 1) (by omega)
          rw [List.getElem?_eq_getElem (by omega)] at h3
          have := (Array.getElem?_eq_some_iff.1 h3).1
          have h2 : (cap - 1) * e.size + e.size = cap * e.size := by rw [← Nat.succ_mul]; congr 1; omega
          omega
        have hmul : len * e.size ≤ cap * e.size := Nat.mul_le_mul_right _ hle
        obtain ⟨ds, h1, h2, h3⟩ := readL_build (p := Rd w (fun _ => True) e) (F := Fit e) (sz := e.size) len ((c.toList.drop o).take (len * e.size)) (by rw [List.length_take, List.length_drop, Array.length_toList]; omega) (fun i hi => by
          obtain ⟨row, y, _, k2, m1, m2⟩ := cellOf i 0 (by omega) hr.2
          have hrow : ((((c.toList.drop o).take (len * e.size)).drop (i * e.size)).take e.size) = row := by
            have hmi : i * e.size + e.size ≤ len * e.size := by rw [← Nat.succ_mul]; exact Nat.mul_le_mul_right _ hi
            apply List.ext_getElem?
            intro j
            by_cases hj : j < e.size
            · rw [List.getElem?_take, if_pos hj, List.getElem?_drop, List.getElem?_take, if_pos (by omega), List.getElem?_drop, ← m2 j hj, Array.getElem?_toList]
              congr 1; omega
            · rw [List.getElem?_eq_none (by rw [List.length_take]; omega), List.getElem?_eq_none (by omega)]
          rw [hrow]
          exact rd_trod hte hr.1 k2)
        refine ⟨.l ds, ⟨ds, rfl, some ⟨g, o, none⟩, cap, by rw [h1], by omega, .inr ⟨g, o, c, el, fr, rfl, trivial, hh, hbound, by rw [h1]; exact h2⟩⟩, ds, rfl, ?_, h3⟩
        have : cap ≤ 9223372036854775807 := hcm
        omega
  | .cons a b, t, fuel, cs, x, ht, hr, h => by
    obtain ⟨⟨fs, f, r, hu, hfs, _, _, _, hoff, hta, hfb⟩, _⟩ := id ht
    simp only [Ty.row, Bool.and_eq_true] at hr
    obtain ⟨xs, m, _, _, hl, hxl, hx⟩ := DataW.trod_struct hu h
    have get : ∀ (i : Nat) (g : Field), (f :: r)[i]? = some g → ∃ y, DataW.trod enc P w 0 (fun _ => true) true m g.type ((cs.drop g.offset).take (P.cellsOf g.type)) = some y := by
      intro i g hg
      have hgi : fs[i]? = some g := by rw [← Array.getElem?_toList, hfs]; exact hg
      have hlt := (Array.getElem?_eq_some_iff.1 hgi).1
      exact ⟨xs[i]'(by omega), by rw [hx i g hgi, List.getElem?_eq_getElem (by omega)]⟩
    obtain ⟨y, hy⟩ := get 0 f rfl
    rw [hta.cellsOf, hoff, List.drop_zero] at hy
    obtain ⟨d, hd1, hd2⟩ := rd_trod hta hr.1 hy
    obtain ⟨ds, hs1, hs2⟩ := rd_fields (cs := cs) (m := m) hfb hr.2 (fun g hg => by
      obtain ⟨i, hi⟩ := List.getElem?_of_mem hg
      exact get (i + 1) g (by simpa using hi)) (by rw [hl, ht.cellsOf]; rfl)
    exact ⟨.l (d :: ds), ⟨d, ds, rfl, hd1, hs1⟩, d, ds, rfl, hd2, hs2⟩
theorem rd_fields : ∀ {ty : Ty} {r : List Field} {off : Nat} {cs : List Value} {m : Nat}, FOk P ty r off → ty.row = true →
    (∀ g ∈ r, ∃ y, DataW.trod enc P w 0 (fun _ => true) true m g.type ((cs.drop g.offset).take (P.cellsOf g.type)) = some y) → cs.length = off + ty.size →
    ∃ ds, Rd w (fun _ => True) ty (cs.drop off) (.l ds) ∧ Fit ty (.l ds)
  | .nil, [], off, cs, m, _, _, _, hl => ⟨[], ⟨by simp only [Ty.size] at hl; exact List.drop_of_length_le (by omega), rfl⟩, rfl⟩
  | .cons a b, f :: r, off, cs, m, hf, hr, hg, hl => by
    obtain ⟨_, _, hoff, hta, hfb⟩ := hf
    simp only [Ty.row, Bool.and_eq_true] at hr
    obtain ⟨y, hy⟩ := hg f (by simp)
    rw [hta.cellsOf, hoff] at hy
    obtain ⟨d, hd1, hd2⟩ := rd_trod hta hr.1 hy
    obtain ⟨ds, hs1, hs2⟩ := rd_fields (cs := cs) (m := m) hfb hr.2 (fun g hgr => hg g (by simp [hgr])) (by simp only [Ty.size] at hl; omega)
    refine ⟨d :: ds, ⟨d, ds, rfl, hd1, ?_⟩, d, ds, rfl, hd2, hs2⟩
    rw [List.drop_drop]; exact hs1
  | .nil, _ :: _, _, _, _, hf, _, _, _ => hf.elim
  | .cons _ _, [], _, _, _, hf, _, _, _ => hf.elim
  | .bool, _, _, _, _, hf, _, _, _ => hf.elim
  | .int _, _, _, _, _, hf, _, _, _ => hf.elim
  | .str, _, _, _, _, hf, _, _, _ => hf.elim
  | .sl _, _, _, _, _, hf, _, _, _ => hf.elim
  | .arr _ _, _, _, _, _, hf, _, _, _ => hf.elim
  | .ptr, _, _, _, _, hf, _, _, _ => hf.elim
end

theorem agg_okWide {ty : Ty} {t : TypeId} {base : Nat} {v : Value} (ht : TyOk P ty t) (hr : ty.row = true) (h : Value.okWide P w .any base t v) : vAgg v = ty.agg := by
  cases ty with
  | ptr => cases hr
  | arr n e => obtain ⟨⟨u, hu, _⟩, _⟩ := ht; simp only [Value.okWide, hu] at h; obtain ⟨cs, rfl, _⟩ := h; rfl
  | nil => obtain ⟨⟨fs, hu, _⟩, _⟩ := ht; simp only [Value.okWide, hu] at h; obtain ⟨cs, rfl, _⟩ := h; rfl
  | cons a b => obtain ⟨⟨fs, f, r, hu, _⟩, _⟩ := ht; simp only [Value.okWide, hu] at h; obtain ⟨cs, rfl, _⟩ := h; rfl
  | bool => have hu := ht.1; simp only [Value.okWide, hu, Cell.okWide] at h; cases v <;> simp_all [Cell.ok, vAgg, Ty.agg]
  | int k => have hu := ht.1; simp only [Value.okWide, hu, Cell.okWide] at h; cases v <;> simp_all [Cell.ok, vAgg, Ty.agg]
  | str => have hu := ht.1; simp only [Value.okWide, hu, Cell.okWide] at h; cases v <;> simp_all [Cell.ok, vAgg, Ty.agg]
  | sl e => obtain ⟨⟨u, hu, _⟩, _⟩ := ht; simp only [Value.okWide, hu, Cell.okWide] at h; cases v <;> simp_all [Cell.ok, vAgg, Ty.agg]

/-! the law -/

def FitL : List Ty → List D → Prop
  | [], [] => True
  | t :: ts, x :: xs => Fit t x ∧ FitL ts xs
  | _, _ => False

def tysOf (T : Tab) : List TypeId → Option (List Ty)
  | [] => some []
  | u :: us => match Go.SE.look T u, tysOf T us with | some t, some l => some (t :: l) | _, _ => none

def zipA : List Ty → List D → List (Ty × D)
  | t :: ts, x :: xs => (t, x) :: zipA ts xs
  | _, _ => []

theorem args_read {T : Tab} (hT : T.Ok P) {base : Nat} : ∀ {us : List TypeId} {tys : List Ty} {vs : List Value} {ds : List (DataW H)} {p : List MemPlace}, tysOf T us = some tys → tys.all Ty.row = true → DataW.TrodAll enc P w 0 (fun _ => true) true us vs ds p →
    (∀ (j : Nat) t v, us[j]? = some t → vs[j]? = some v → Value.okWide P w .any base t v) → ∃ xs, ArgsOk w (fun _ => True) (zipA tys xs) vs ∧ FitL tys xs
  | [], tys, vs, ds, p, ht, _, h, _ => by
    simp only [tysOf, Option.some.injEq] at ht
    subst ht
    obtain ⟨rfl, _, _⟩ := trodAll_nil h
    exact ⟨[], trivial, trivial⟩
  | u :: us, tys, vs, ds, p, ht, hr, h, hv => by
    simp only [tysOf] at ht
    split at ht
    · rename_i t l h1 h2
      simp only [Option.some.injEq] at ht
      subst ht
      simp only [List.all_cons, Bool.and_eq_true] at hr
      obtain ⟨v, vs', d, ds', a, b, rfl, rfl, rfl, k1, k2⟩ := trodAll_cons h
      obtain ⟨fuel, k1⟩ := k1
      obtain ⟨x, hx1, hx2⟩ := rd_trod (hT u t h1).1 hr.1 k1
      obtain ⟨xs, hy1, hy2⟩ := args_read hT h2 hr.2 k2 (fun j t v ht hv' => hv (j + 1) t v (by simpa using ht) (by simpa using hv'))
      exact ⟨x :: xs, ⟨⟨hx1, agg_okWide (hT u t h1).1 hr.1 (hv 0 u v rfl rfl)⟩, hy1⟩, hx2, hy2⟩
    · cases ht

theorem trodAll_stays (hl : laidOutB P = true) {W' : World} {sp : Nat → Bool} : ∀ {us : List TypeId} {vs : List Value} {ds : List (DataW H)} {p : List MemPlace}, (us.all fun t => P.readableRec t && decide (t < P.types.size)) = true → DataW.TrodAll enc P w 0 (fun _ => true) true us vs ds p →
    (∀ x ∈ p, w.sameAt W' x) → (∀ x ∈ p, sp x.block = true) → DataW.TrodAll enc P W' 0 sp true us vs ds p
  | [], vs, ds, p, _, h, _, _ => by
    obtain ⟨rfl, rfl, rfl⟩ := trodAll_nil h
    rfl
  | u :: us, vs, ds, p, hr, h, hs, hsp => by
    simp only [List.all_cons, Bool.and_eq_true, decide_eq_true_eq] at hr
    obtain ⟨v, vs', d, ds', a, b, rfl, rfl, rfl, k1, k2⟩ := trodAll_cons h
    exact ⟨a, b, WideElems.Trod_stays hl hr.1.1 hr.1.2 k1 (fun x hx => hs x (List.mem_append_left _ hx)) (fun x hx => hsp x (List.mem_append_left _ hx)),
      trodAll_stays hl hr.2 k2 (fun x hx => hs x (List.mem_append_right _ hx)) (fun x hx => hsp x (List.mem_append_right _ hx)), rfl⟩

/-- A law whose text comes to true for all data that meet Q: what its row says. -/
theorem law_postQ {T : Tab} (hT : T.Ok P) (hl : laidOutB P = true) {f : FuncId} {fn : Func} {s : ChangeSpec} {apart fresh handsOn again : Bool} {tb : TypeId} {tys : List Ty} {Q : List D → Prop}
    (hpar : tysOf T fn.params.toList = some tys) (hrow : tys.all Ty.row = true) (hrec : (fn.params.toList.all fun t => P.readableRec t && decide (t < P.types.size)) = true)
    (hres : fn.resultTypes = #[tb]) (htb : P.underlying tb = some .bool) (hvars : s.vars = []) (hG : GOk w (fun _ => False))
    (hfn : ∀ (ds : List (DataW H)), ds.length = fn.params.toList.length → (s.fn H ds).results = [.lit (.bool true)] ∧ (s.fn H ds).args = ds ∧ (s.fn H ds).vars = [])
    (hbody : Callable P f) (hcall : ∀ xs, FitL tys xs → Q xs → SCall P f (zipA tys xs) (fun rs => rs = [.d .bool (.b true)]))
    {base : Nat} {args : Array Value} {ds gs : List (DataW H)} {before : List MemPlace}
    (hval : ∀ (j : Nat) t v, fn.params[j]? = some t → args[j]? = some v → Value.okWide P w .any base t v)
    (hW : DataW.Whole enc P fn.params.toList s.vars apart w args.toList ds gs before)
    (hQ : ∀ xs p, DataW.TrodAll enc P w 0 (fun _ => true) true fn.params.toList args.toList ds p → FitL tys xs → ArgsOk w (fun _ => True) (zipA tys xs) args.toList → Q xs) :
    Calls P f args w fun e W' => ∃ v, e = .returned v ∧ s.post enc P fn apart fresh handsOn again w args v W' := by
  have hW' := hW
  obtain ⟨p, q, hA, hV, rfl, hfz, hnd⟩ := hW
  rw [hvars] at hV
  obtain ⟨rfl, rfl⟩ := trodVars_none hV
  simp only [List.append_nil] at hW' hfz hnd
  obtain ⟨xs, hx1, hx2⟩ := args_read hT hpar hrow hA (fun j t v h1 h2 => hval j t v (by simpa using h1) (by simpa using h2))
  have hc := ((hcall xs hx2 (hQ xs _ hA hx2 hx1)).body hx1 hbody).2 w (fun _ => False) args.toList (by simp) hG (by
    have : (fun b : Nat => ¬ (fun _ : Nat => False) b) = fun _ => True := by funext b; simp
    rw [this]; exact hx1)
  rw [Array.toArray_toList] at hc
  refine hc.mono ?_
  rintro e W' ⟨v, rs, rfl, hb, ⟨vals, bs, rfl, hl1, hl2, hrv, _⟩, rfl⟩
  match vals, bs, hl1, hl2 with
  | [v0], [b0], _, _ =>
    have h0 := hrv 0 _ v0 b0 rfl rfl rfl
    have hv0 : v0 = .bool true := by
      cases b0 with
      | some q => exact h0.elim
      | none =>
        obtain ⟨x, h1, h2⟩ := RdV.bool h0
        cases h2
        exact h1
    subst hv0
    refine ⟨.bool true, rfl, ?_⟩
    have hlen : ∀ {us : List TypeId} {vs : List Value} {ds : List (DataW H)} {p : List MemPlace}, DataW.TrodAll enc P w 0 (fun _ => true) true us vs ds p → ds.length = us.length := by
      intro us
      induction us with
      | nil => intro vs ds p h; obtain ⟨_, rfl, _⟩ := trodAll_nil h; rfl
      | cons u us ih => intro vs ds p h; obtain ⟨v, vs', d, ds', a, b, rfl, rfl, rfl, k1, k2⟩ := trodAll_cons h; simp [ih k2]
    obtain ⟨f1, f2, f3⟩ := hfn ds (hlen hA)
    have hlt : ∀ x ∈ p, x.block < w.heap.size := hW'.lt
    have hsame : ∀ x ∈ p, w.sameAt W' x := fun x hx => hb.same (hlt x hx)
    have hargs : ∀ sp : Nat → Bool, (∀ x ∈ p, sp x.block = true) → DataW.TrodAll enc P W' 0 sp true fn.params.toList args.toList ds p := fun sp hsp => trodAll_stays hl hrec hA hsame hsp
    have hok : ∀ (j : Nat) (t : TypeId) (r : Value), fn.resultTypes[j]? = some t → ((Value.bool true).resultList fn.resultTypes.size)[j]? = some r → Value.okWide P W' .any 0 t r :=
      RowKit.ok_one hres rfl (RowKit.okWide_bool_mk htb true)
    have hres' : ∀ (b : Nat) (sp : Nat → Bool) (hd : Bool), DataW.TrodAll enc P W' b sp hd fn.resultTypes.toList ((Value.bool true).resultList fn.resultTypes.size) [.lit (.bool true)] [] := by
      intro b sp hd
      rw [hres]
      exact ⟨[], [], RowKit.shut_bool htb true, rfl, rfl⟩
    have hold : ∀ x ∈ p, (fun b => decide (b < w.heap.size)) x.block = true := fun x hx => by simpa using hlt x hx
    refine ⟨ds, [], p, [], p, [], hW', ?_, ?_, ?_, World.keptBut_mono (fun x hx => ⟨hx, .inr (by simpa using hx)⟩) (hb.frame (· ∈ p)), fun _ => ⟨hok, ?_⟩⟩
    · rw [List.append_nil, f1]; exact hres' _ _ _
    · rw [List.append_nil, f2]; exact hargs _ hold
    · rw [List.append_nil, f3, hvars]; rfl
    · refine ⟨_, [], ([] ++ p) ++ [], ⟨[] ++ p, [], trodAll_append (hargs _ (fun _ _ => rfl)) (hres' _ _ _), by rw [hvars]; rfl, rfl, ?_, ?_⟩, ?_⟩
      · intro b off hp
        rw [hb.frozen (p := ⟨b, off, none⟩) (hlt (.cell b off) (by simpa using hp))]
        exact hfz b off (by simpa using hp)
      · intro ha
        simpa using hnd ha
      · intro x hx _
        simpa using hx


/-- A law whose text comes to true for all data: what its row says. -/
theorem law_post {T : Tab} (hT : T.Ok P) (hl : laidOutB P = true) {f : FuncId} {fn : Func} {s : ChangeSpec} {apart fresh handsOn again : Bool} {tb : TypeId} {tys : List Ty}
    (hpar : tysOf T fn.params.toList = some tys) (hrow : tys.all Ty.row = true) (hrec : (fn.params.toList.all fun t => P.readableRec t && decide (t < P.types.size)) = true)
    (hres : fn.resultTypes = #[tb]) (htb : P.underlying tb = some .bool) (hvars : s.vars = []) (hG : GOk w (fun _ => False))
    (hfn : ∀ (ds : List (DataW H)), ds.length = fn.params.toList.length → (s.fn H ds).results = [.lit (.bool true)] ∧ (s.fn H ds).args = ds ∧ (s.fn H ds).vars = [])
    (hbody : Callable P f) (hcall : ∀ xs, FitL tys xs → SCall P f (zipA tys xs) (fun rs => rs = [.d .bool (.b true)]))
    {base : Nat} {args : Array Value} {ds gs : List (DataW H)} {before : List MemPlace}
    (hval : ∀ (j : Nat) t v, fn.params[j]? = some t → args[j]? = some v → Value.okWide P w .any base t v)
    (hW : DataW.Whole enc P fn.params.toList s.vars apart w args.toList ds gs before) :
    Calls P f args w fun e W' => ∃ v, e = .returned v ∧ s.post enc P fn apart fresh handsOn again w args v W' :=
  law_postQ (Q := fun _ => True) hT hl hpar hrow hrec hres htb hvars hG hfn hbody (fun xs h _ => hcall xs h) hval hW (fun _ _ _ _ _ => trivial)

/-! sizes -/

/-- No argument is longer than the address space bears. -/
def TopL : Ty → D → Prop
  | .sl _, x => x.list.length ≤ 140737488351232
  | .str, x => x.str.size ≤ 140737488351232
  | _, _ => True
def TopLs : List Ty → List D → Prop
  | t :: ts, x :: xs => TopL t x ∧ TopLs ts xs
  | _, _ => True

theorem topl {T : Tab} (hT : T.Ok P) : ∀ {us : List TypeId} {tys : List Ty} {vs : List Value} {ds : List (DataW H)} {p : List MemPlace} {xs : List D}, tysOf T us = some tys →
    (us.all fun t => match P.underlying t with | some (.slice e) => decide (0 < P.bytesOf e) | _ => true) = true →
    DataW.TrodAll enc P w 0 (fun _ => true) true us vs ds p → (DataW.weightsEach P us ds).all (· ≤ reachBytes) = true → ArgsOk w (fun _ => True) (zipA tys xs) vs → FitL tys xs → TopLs tys xs
  | [], tys, vs, ds, p, xs, ht, _, h, _, _, _ => by
    simp only [tysOf, Option.some.injEq] at ht
    subst ht
    cases xs <;> trivial
  | u :: us, tys, vs, ds, p, xs, ht, hb, h, hz, ha, hf => by
    simp only [tysOf] at ht
    split at ht
    · rename_i t l h1 h2
      simp only [Option.some.injEq] at ht
      subst ht
      obtain ⟨v, vs', d, ds', a, b, rfl, rfl, rfl, k1, k2⟩ := trodAll_cons h
      obtain ⟨fuel, k1⟩ := k1
      match xs, hf with
      | x :: xs, hf =>
        obtain ⟨⟨ha1, _⟩, ha2⟩ := ha
        simp only [List.all_cons, Bool.and_eq_true] at hb
        have hz2 : (DataW.weightsEach P us ds').all (· ≤ reachBytes) = true := by
          simp only [DataW.weightsEach, List.all_append, Bool.and_eq_true] at hz
          exact hz.2
        refine ⟨?_, topl hT h2 hb.2 k2 hz2 ha2 hf.2⟩
        have hty := (hT u t h1).1
        cases t with
        | sl e =>
          obtain ⟨⟨ue, hu, _⟩, _⟩ := id hty
          obtain ⟨l, rfl, a', cap, hcs, _⟩ := ha1
          have hb1 := hb.1
          rw [hu] at hb1
          simp only [decide_eq_true_eq] at hb1
          rcases DataW.trod_slice hu k1 with ⟨e1, _⟩ | ⟨a2, len, cap2, elems, rest, m, _, e1, e2, _, _, _, hel, _⟩
          · rw [hcs] at e1
            simp only [List.cons.injEq, Value.slice.injEq] at e1
            show l.length ≤ _
            omega
          · rw [hcs] at e1
            simp only [List.cons.injEq, Value.slice.injEq] at e1
            have ed : d = .slice (elems.map (·.1)) (rest.map (·.1)) := congrArg Prod.fst e2
            have := sized_slice hz (j := 0) (t := u) (e := ue) rfl (by rw [ed]; rfl) hu
            simp only [List.length_map] at this
            have hr : reachBytes = 140737488351232 := rfl
            show l.length ≤ _
            have h3 : elems.length * 1 ≤ (elems.length + rest.length) * P.bytesOf ue := Nat.mul_le_mul (by omega) hb1
            omega
        | str =>
          obtain ⟨s, hcs, rfl⟩ := ha1
          obtain ⟨s2, e1, e2, _⟩ := DataW.trod_string hty.1 k1
          rw [hcs] at e1
          simp only [List.cons.injEq, Value.string.injEq] at e1
          have ed : d = .lit (.string s2.data.toList) := congrArg Prod.fst e2
          have := sized_string hz (j := 0) (t := u) rfl (by rw [ed]; rfl)
          have hr : reachBytes = 140737488351232 := rfl
          show s.size ≤ _
          rw [e1.1]
          rw [Array.length_toList] at this
          exact this
        | _ => trivial
    · cases ht

theorem weights_left (f : Nat → Bool) : ∀ (us : List TypeId) (ds gs : List (DataW H)), (DataW.weightsEach P us (ds ++ gs)).all f = true → (DataW.weightsEach P us ds).all f = true
  | [], _, _, _ => by simp [DataW.weightsEach]
  | _ :: _, [], _, _ => by simp [DataW.weightsEach]
  | u :: us, d :: ds, gs, h => by
    simp only [List.cons_append, DataW.weightsEach, List.all_append, Bool.and_eq_true] at h ⊢
    exact ⟨h.1, weights_left f us ds gs h.2⟩

end
end Go.SE
/- Numbers of 256 bits as four words; the machine's own carries. -/
namespace Go.Proofs
open Go.SE

/-- A number of 256 bits. -/
def u256 (n : Nat) : D := .l [.n ((n % 18446744073709551616 : Nat) : Int), .n ((n / 18446744073709551616 % 18446744073709551616 : Nat) : Int), .n ((n / 340282366920938463463374607431768211456 % 18446744073709551616 : Nat) : Int), .n ((n / 6277101735386680763835789423207666416102355444464034512896 % 18446744073709551616 : Nat) : Int)]

theorem u256_mk {a b c d n : Nat} (ha : a < 18446744073709551616) (hb : b < 18446744073709551616) (hc : c < 18446744073709551616) (hd : d < 18446744073709551616)
    (h : n = a + 18446744073709551616 * b + 340282366920938463463374607431768211456 * c + 6277101735386680763835789423207666416102355444464034512896 * d) : D.l [.n (a : Int), .n (b : Int), .n (c : Int), .n (d : Int)] = u256 n := by
  unfold u256
  have h1 : n % 18446744073709551616 = a := by omega
  have h2 : n / 18446744073709551616 % 18446744073709551616 = b := by omega
  have h3 : n / 340282366920938463463374607431768211456 % 18446744073709551616 = c := by omega
  have h4 : n / 6277101735386680763835789423207666416102355444464034512896 % 18446744073709551616 = d := by omega
  rw [h1, h2, h3, h4]

theorem u256_open (n : Nat) (hn : n < 115792089237316195423570985008687907853269984665640564039457584007913129639936) : ∃ a b c d : Nat, a < 18446744073709551616 ∧ b < 18446744073709551616 ∧ c < 18446744073709551616 ∧ d < 18446744073709551616 ∧
    n = a + 18446744073709551616 * b + 340282366920938463463374607431768211456 * c + 6277101735386680763835789423207666416102355444464034512896 * d ∧ u256 n = D.l [.n (a : Int), .n (b : Int), .n (c : Int), .n (d : Int)] :=
  ⟨_, _, _, _, by omega, by omega, by omega, by omega, by omega, rfl⟩

theorem u256_fit {x : D} (h : Fit (.arr 4 (.int .u64)) x) : ∃ n, n < 115792089237316195423570985008687907853269984665640564039457584007913129639936 ∧ x = u256 n := by
  obtain ⟨l, rfl, hl, hf⟩ := h
  match l, hl with
  | [a, b, c, d], _ =>
    obtain ⟨a, rfl, ha⟩ := (hf a (by simp)).u64
    obtain ⟨b, rfl, hb⟩ := (hf b (by simp)).u64
    obtain ⟨c, rfl, hc⟩ := (hf c (by simp)).u64
    obtain ⟨d, rfl, hd⟩ := (hf d (by simp)).u64
    exact ⟨_, by omega, u256_mk ha hb hc hd rfl⟩

theorem u256_inj {m n : Nat} (hm : m < 115792089237316195423570985008687907853269984665640564039457584007913129639936) (hn : n < 115792089237316195423570985008687907853269984665640564039457584007913129639936) :
    deq (.arr 4 (.int .u64)) (u256 m) (u256 n) = decide (m = n) := by
  by_cases e : m = n
  · subst e; simp [deq_self]
  · cases h : deq (.arr 4 (.int .u64)) (u256 m) (u256 n) with
    | false => simp [e]
    | true =>
      exfalso
      simp only [deq, u256, List.range, List.range.loop, List.all_cons, List.all_nil, D.at, D.list, List.getD_cons_zero, List.getD_cons_succ, D.int, Bool.and_true, Bool.and_eq_true, beq_iff_eq, Int.natCast_inj] at h
      omega

theorem args3 {w : World} {S : Nat → Prop} {k : IntKind} {x y z : Int} {vs : List Value} (h : ArgsOk w S [(.int k, .n x), (.int k, .n y), (.int k, .n z)] vs) : vs = [.int k x, .int k y, .int k z] := by
  match vs, h with
  | [a, b, c], ⟨h1, h2, h3, _⟩ =>
    obtain ⟨_, rfl, e1⟩ := RdV.int h1
    obtain ⟨_, rfl, e2⟩ := RdV.int h2
    obtain ⟨_, rfl, e3⟩ := RdV.int h3
    cases e1; cases e2; cases e3; rfl

theorem rep4 {x : D} : List.replicate 4 x = [x, x, x, x] := rfl
theorem rep8 {x : D} : List.replicate 8 x = [x, x, x, x, x, x, x, x] := rfl

theorem add64 (x y c : Nat) (hx : x < 18446744073709551616) (hy : y < 18446744073709551616) (hc : c ≤ 1) {K : List RV → Prop}
    (h : ∀ s d : Nat, s + 18446744073709551616 * d = x + y + c → s < 18446744073709551616 → d ≤ 1 → K [.d (.int .u64) (.n s), .d (.int .u64) (.n d)]) :
    SCall Tryd.prog 109 [(.int .u64, .n x), (.int .u64, .n y), (.int .u64, .n c)] K := by
  refine .inr ⟨_, h ((x + y + c) % 18446744073709551616) ((x + y + c) / 18446744073709551616) (by omega) (by omega) (by omega), rfl, rfl, fun w S vs ha => ?_⟩
  obtain rfl := args3 ha
  refine ⟨[.int .u64 (((x + y + c) % 18446744073709551616 : Nat) : Int), .int .u64 (((x + y + c) / 18446744073709551616 : Nat) : Int)], ?_, rfl, ?_⟩
  · rw [run_callFunc_extern Tryd.func109 (by kernel_rfl) (by kernel_rfl) (by kernel_rfl) (e := add64Entry) (by kernel_rfl)]
    rw [run_add64 x y c (by omega) (by omega) (by omega) (by omega)]
    simp only [Result.andThen, tupV]
    congr 5 <;> omega
  · intro i r v hr hv
    match i with
    | 0 => simp at hr hv; subst hr; subst hv; exact RdV.mk_int _ _
    | 1 => simp at hr hv; subst hr; subst hv; exact RdV.mk_int _ _
    | n + 2 => simp at hr

theorem sub64 (x y c : Nat) (hx : x < 18446744073709551616) (hy : y < 18446744073709551616) (hc : c ≤ 1) {K : List RV → Prop}
    (h : ∀ s d : Nat, s + y + c = x + 18446744073709551616 * d → s < 18446744073709551616 → d ≤ 1 → K [.d (.int .u64) (.n s), .d (.int .u64) (.n d)]) :
    SCall Tryd.prog 110 [(.int .u64, .n x), (.int .u64, .n y), (.int .u64, .n c)] K := by
  refine .inr ⟨_, h ((x + 18446744073709551616 - y - c) % 18446744073709551616) (if x < y + c then 1 else 0) (by split <;> omega) (by omega) (by split <;> omega), rfl, rfl, fun w S vs ha => ?_⟩
  obtain rfl := args3 ha
  refine ⟨[.int .u64 (((x + 18446744073709551616 - y - c) % 18446744073709551616 : Nat) : Int), .int .u64 ((if x < y + c then 1 else 0 : Nat) : Int)], ?_, rfl, ?_⟩
  · rw [run_callFunc_extern Tryd.func110 (by kernel_rfl) (by kernel_rfl) (by kernel_rfl) (e := sub64Entry) (by kernel_rfl)]
    rw [run_sub64 x y c hc]
    simp only [Result.andThen, tupV]
  · intro i r v hr hv
    match i with
    | 0 => simp at hr hv; subst hr; subst hv; exact RdV.mk_int _ _
    | 1 => simp at hr hv; subst hr; subst hv; exact RdV.mk_int _ _
    | n + 2 => simp at hr

set_option maxHeartbeats 4000000 in
theorem fromUint (n : Nat) (hn : n < 18446744073709551616) : SCall Tryd.prog 46 [(.int .u64, .n n)] (fun rs => rs = [.d (.arr 4 (.int .u64)) (u256 n)]) := by
  refine scall_intro (n := 5) (rl := [.cell 2 45]) (us := [45]) Tryd.hT Tryd.func46 rfl rfl rfl rfl rfl (Nat.le_of_ble_eq_true rfl) ?_
  intro w0 hL0
  simp -dsimp -implicitDefEqProofs (disch := omega) only [↓reduceIte, ↓gA, gB, refs, den, hasTy, Ty.cmp, Ty.depth, reduceCtorEq, Nat.reduceAdd, Nat.reduceSub, Nat.reduceMul, Nat.reduceEqDiff, Nat.reduceLT, Nat.reduceLeDiff, Nat.reduceMod, Nat.reduceDiv, Nat.reducePow, Nat.reduceBEq, Int.reduceToNat, Int.reduceLE, Int.reduceLT, Int.reduceEq, Int.reduceAdd, Int.reduceMul, Int.reduceSub, Int.reduceNeg, Int.reduceNe, Tryd.TS, Tryd.EV, rep4]
  rw [← u256_mk (a := n) (b := 0) (c := 0) (d := 0) hn (by omega) (by omega) (by omega) (by omega)]
  rfl

set_option maxHeartbeats 4000000 in
theorem fromUintRef (n : Nat) (hn : n < 18446744073709551616) : SCall Tryd.prog 64 [(.int .u64, .n n)] (fun rs => rs = [.d (.arr 4 (.int .u64)) (u256 n)]) := by
  refine scall_intro (n := 5) (rl := [.cell 2 45]) (us := [45]) Tryd.hT Tryd.func64 rfl rfl rfl rfl rfl (Nat.le_of_ble_eq_true rfl) ?_
  intro w0 hL0
  simp -dsimp -implicitDefEqProofs (disch := omega) only [↓reduceIte, ↓gA, gB, refs, den, hasTy, Ty.cmp, Ty.depth, reduceCtorEq, Nat.reduceAdd, Nat.reduceSub, Nat.reduceMul, Nat.reduceEqDiff, Nat.reduceLT, Nat.reduceLeDiff, Nat.reduceMod, Nat.reduceDiv, Nat.reducePow, Nat.reduceBEq, Int.reduceToNat, Int.reduceLE, Int.reduceLT, Int.reduceEq, Int.reduceAdd, Int.reduceMul, Int.reduceSub, Int.reduceNeg, Int.reduceNe, Tryd.TS, Tryd.EV, rep4]
  rw [← u256_mk (a := n) (b := 0) (c := 0) (d := 0) hn (by omega) (by omega) (by omega) (by omega)]
  rfl

set_option maxHeartbeats 4000000 in
theorem wadd (m n : Nat) (hm : m < 115792089237316195423570985008687907853269984665640564039457584007913129639936) (hn : n < 115792089237316195423570985008687907853269984665640564039457584007913129639936) :
    SCall Tryd.prog 104 [(.arr 4 (.int .u64), u256 m), (.arr 4 (.int .u64), u256 n)] (fun rs => rs = [.d (.arr 4 (.int .u64)) (u256 ((m + n) % 115792089237316195423570985008687907853269984665640564039457584007913129639936)), .d .bool (.b (decide (115792089237316195423570985008687907853269984665640564039457584007913129639936 ≤ m + n)))]) := by
  obtain ⟨a0, a1, a2, a3, ha0, ha1, ha2, ha3, em, eu⟩ := u256_open m hm
  obtain ⟨b0, b1, b2, b3, hb0, hb1, hb2, hb3, en, ev⟩ := u256_open n hn
  rw [eu, ev]
  refine scall_intro (n := 29) (rl := [.cell 4 45, .tmp 5]) (us := [45, 4]) Tryd.hT Tryd.func104 rfl rfl rfl rfl rfl (Nat.le_of_ble_eq_true rfl) ?_
  intro w0 hL0
  simp -dsimp -implicitDefEqProofs (disch := omega) only [↓reduceIte, ↓gA, gB, refs, den, hasTy, Ty.cmp, Ty.depth, reduceCtorEq, Nat.reduceAdd, Nat.reduceSub, Nat.reduceMul, Nat.reduceEqDiff, Nat.reduceLT, Nat.reduceLeDiff, Nat.reduceMod, Nat.reduceDiv, Nat.reducePow, Nat.reduceBEq, Int.reduceToNat, Int.reduceLE, Int.reduceLT, Int.reduceEq, Int.reduceAdd, Int.reduceMul, Int.reduceSub, Int.reduceNeg, Int.reduceNe, Tryd.TS, Tryd.EV, rep4]
  refine sunroll Tryd.hT ?_; simp -dsimp -implicitDefEqProofs (disch := omega) only [↓reduceIte, ↓gA, gB, refs, den, hasTy, Ty.cmp, Ty.depth, reduceCtorEq, Nat.reduceAdd, Nat.reduceSub, Nat.reduceMul, Nat.reduceEqDiff, Nat.reduceLT, Nat.reduceLeDiff, Nat.reduceMod, Nat.reduceDiv, Nat.reducePow, Nat.reduceBEq, Int.reduceToNat, Int.reduceLE, Int.reduceLT, Int.reduceEq, Int.reduceAdd, Int.reduceMul, Int.reduceSub, Int.reduceNeg, Int.reduceNe, Tryd.TS, Tryd.EV, rep4]
  refine sdraw (id := 6) Tryd.hT (by kernel_rfl) [13] [] [0, 1, 2, 3, 4, 5, 6, 7, 8, 9, 10, 11, 12, 13, 14] (by kernel_rfl) (by kernel_rfl) (by kernel_rfl) ?_; simp only [gK, ↓reduceIte, Nat.reduceEqDiff]
  simp -dsimp -implicitDefEqProofs (disch := omega) only [↓reduceIte, ↓gA, gB, refs, den, hasTy, Ty.cmp, Ty.depth, reduceCtorEq, Nat.reduceAdd, Nat.reduceSub, Nat.reduceMul, Nat.reduceEqDiff, Nat.reduceLT, Nat.reduceLeDiff, Nat.reduceMod, Nat.reduceDiv, Nat.reducePow, Nat.reduceBEq, Int.reduceToNat, Int.reduceLE, Int.reduceLT, Int.reduceEq, Int.reduceAdd, Int.reduceMul, Int.reduceSub, Int.reduceNeg, Int.reduceNe, Tryd.TS, Tryd.EV, rep4]
  refine add64 _ _ 0 ha0 hb0 (by omega) (fun s0 c0 e0 l0 m0 => ?_)
  simp -dsimp -implicitDefEqProofs (disch := omega) only [↓reduceIte, ↓gA, gB, refs, den, hasTy, Ty.cmp, Ty.depth, reduceCtorEq, Nat.reduceAdd, Nat.reduceSub, Nat.reduceMul, Nat.reduceEqDiff, Nat.reduceLT, Nat.reduceLeDiff, Nat.reduceMod, Nat.reduceDiv, Nat.reducePow, Nat.reduceBEq, Int.reduceToNat, Int.reduceLE, Int.reduceLT, Int.reduceEq, Int.reduceAdd, Int.reduceMul, Int.reduceSub, Int.reduceNeg, Int.reduceNe, Tryd.TS, Tryd.EV, rep4]
  refine sunroll Tryd.hT ?_; simp -dsimp -implicitDefEqProofs (disch := omega) only [↓reduceIte, ↓gA, gB, refs, den, hasTy, Ty.cmp, Ty.depth, reduceCtorEq, Nat.reduceAdd, Nat.reduceSub, Nat.reduceMul, Nat.reduceEqDiff, Nat.reduceLT, Nat.reduceLeDiff, Nat.reduceMod, Nat.reduceDiv, Nat.reducePow, Nat.reduceBEq, Int.reduceToNat, Int.reduceLE, Int.reduceLT, Int.reduceEq, Int.reduceAdd, Int.reduceMul, Int.reduceSub, Int.reduceNeg, Int.reduceNe, Tryd.TS, Tryd.EV, rep4]
  refine sdraw (id := 6) Tryd.hT (by kernel_rfl) [13] [] [0, 1, 2, 3, 4, 5, 6, 7, 8, 9, 10, 11, 12, 13, 14] (by kernel_rfl) (by kernel_rfl) (by kernel_rfl) ?_; simp only [gK, ↓reduceIte, Nat.reduceEqDiff]
  simp -dsimp -implicitDefEqProofs (disch := omega) only [↓reduceIte, ↓gA, gB, refs, den, hasTy, Ty.cmp, Ty.depth, reduceCtorEq, Nat.reduceAdd, Nat.reduceSub, Nat.reduceMul, Nat.reduceEqDiff, Nat.reduceLT, Nat.reduceLeDiff, Nat.reduceMod, Nat.reduceDiv, Nat.reducePow, Nat.reduceBEq, Int.reduceToNat, Int.reduceLE, Int.reduceLT, Int.reduceEq, Int.reduceAdd, Int.reduceMul, Int.reduceSub, Int.reduceNeg, Int.reduceNe, Tryd.TS, Tryd.EV, rep4]
  refine add64 _ _ _ ha1 hb1 m0 (fun s1 c1 e1 l1 m1 => ?_)
  simp -dsimp -implicitDefEqProofs (disch := omega) only [↓reduceIte, ↓gA, gB, refs, den, hasTy, Ty.cmp, Ty.depth, reduceCtorEq, Nat.reduceAdd, Nat.reduceSub, Nat.reduceMul, Nat.reduceEqDiff, Nat.reduceLT, Nat.reduceLeDiff, Nat.reduceMod, Nat.reduceDiv, Nat.reducePow, Nat.reduceBEq, Int.reduceToNat, Int.reduceLE, Int.reduceLT, Int.reduceEq, Int.reduceAdd, Int.reduceMul, Int.reduceSub, Int.reduceNeg, Int.reduceNe, Tryd.TS, Tryd.EV, rep4]
  refine sunroll Tryd.hT ?_; simp -dsimp -implicitDefEqProofs (disch := omega) only [↓reduceIte, ↓gA, gB, refs, den, hasTy, Ty.cmp, Ty.depth, reduceCtorEq, Nat.reduceAdd, Nat.reduceSub, Nat.reduceMul, Nat.reduceEqDiff, Nat.reduceLT, Nat.reduceLeDiff, Nat.reduceMod, Nat.reduceDiv, Nat.reducePow, Nat.reduceBEq, Int.reduceToNat, Int.reduceLE, Int.reduceLT, Int.reduceEq, Int.reduceAdd, Int.reduceMul, Int.reduceSub, Int.reduceNeg, Int.reduceNe, Tryd.TS, Tryd.EV, rep4]
  refine sdraw (id := 6) Tryd.hT (by kernel_rfl) [13] [] [0, 1, 2, 3, 4, 5, 6, 7, 8, 9, 10, 11, 12, 13, 14] (by kernel_rfl) (by kernel_rfl) (by kernel_rfl) ?_; simp only [gK, ↓reduceIte, Nat.reduceEqDiff]
  simp -dsimp -implicitDefEqProofs (disch := omega) only [↓reduceIte, ↓gA, gB, refs, den, hasTy, Ty.cmp, Ty.depth, reduceCtorEq, Nat.reduceAdd, Nat.reduceSub, Nat.reduceMul, Nat.reduceEqDiff, Nat.reduceLT, Nat.reduceLeDiff, Nat.reduceMod, Nat.reduceDiv, Nat.reducePow, Nat.reduceBEq, Int.reduceToNat, Int.reduceLE, Int.reduceLT, Int.reduceEq, Int.reduceAdd, Int.reduceMul, Int.reduceSub, Int.reduceNeg, Int.reduceNe, Tryd.TS, Tryd.EV, rep4]
  refine add64 _ _ _ ha2 hb2 m1 (fun s2 c2 e2 l2 m2 => ?_)
  simp -dsimp -implicitDefEqProofs (disch := omega) only [↓reduceIte, ↓gA, gB, refs, den, hasTy, Ty.cmp, Ty.depth, reduceCtorEq, Nat.reduceAdd, Nat.reduceSub, Nat.reduceMul, Nat.reduceEqDiff, Nat.reduceLT, Nat.reduceLeDiff, Nat.reduceMod, Nat.reduceDiv, Nat.reducePow, Nat.reduceBEq, Int.reduceToNat, Int.reduceLE, Int.reduceLT, Int.reduceEq, Int.reduceAdd, Int.reduceMul, Int.reduceSub, Int.reduceNeg, Int.reduceNe, Tryd.TS, Tryd.EV, rep4]
  refine sunroll Tryd.hT ?_; simp -dsimp -implicitDefEqProofs (disch := omega) only [↓reduceIte, ↓gA, gB, refs, den, hasTy, Ty.cmp, Ty.depth, reduceCtorEq, Nat.reduceAdd, Nat.reduceSub, Nat.reduceMul, Nat.reduceEqDiff, Nat.reduceLT, Nat.reduceLeDiff, Nat.reduceMod, Nat.reduceDiv, Nat.reducePow, Nat.reduceBEq, Int.reduceToNat, Int.reduceLE, Int.reduceLT, Int.reduceEq, Int.reduceAdd, Int.reduceMul, Int.reduceSub, Int.reduceNeg, Int.reduceNe, Tryd.TS, Tryd.EV, rep4]
  refine sdraw (id := 6) Tryd.hT (by kernel_rfl) [13] [] [0, 1, 2, 3, 4, 5, 6, 7, 8, 9, 10, 11, 12, 13, 14] (by kernel_rfl) (by kernel_rfl) (by kernel_rfl) ?_; simp only [gK, ↓reduceIte, Nat.reduceEqDiff]
  simp -dsimp -implicitDefEqProofs (disch := omega) only [↓reduceIte, ↓gA, gB, refs, den, hasTy, Ty.cmp, Ty.depth, reduceCtorEq, Nat.reduceAdd, Nat.reduceSub, Nat.reduceMul, Nat.reduceEqDiff, Nat.reduceLT, Nat.reduceLeDiff, Nat.reduceMod, Nat.reduceDiv, Nat.reducePow, Nat.reduceBEq, Int.reduceToNat, Int.reduceLE, Int.reduceLT, Int.reduceEq, Int.reduceAdd, Int.reduceMul, Int.reduceSub, Int.reduceNeg, Int.reduceNe, Tryd.TS, Tryd.EV, rep4]
  refine add64 _ _ _ ha3 hb3 m2 (fun s3 c3 e3 l3 m3 => ?_)
  simp -dsimp -implicitDefEqProofs (disch := omega) only [↓reduceIte, ↓gA, gB, refs, den, hasTy, Ty.cmp, Ty.depth, reduceCtorEq, Nat.reduceAdd, Nat.reduceSub, Nat.reduceMul, Nat.reduceEqDiff, Nat.reduceLT, Nat.reduceLeDiff, Nat.reduceMod, Nat.reduceDiv, Nat.reducePow, Nat.reduceBEq, Int.reduceToNat, Int.reduceLE, Int.reduceLT, Int.reduceEq, Int.reduceAdd, Int.reduceMul, Int.reduceSub, Int.reduceNeg, Int.reduceNe, Tryd.TS, Tryd.EV, rep4]
  refine sunroll Tryd.hT ?_; simp -dsimp -implicitDefEqProofs (disch := omega) only [↓reduceIte, ↓gA, gB, refs, den, hasTy, Ty.cmp, Ty.depth, reduceCtorEq, Nat.reduceAdd, Nat.reduceSub, Nat.reduceMul, Nat.reduceEqDiff, Nat.reduceLT, Nat.reduceLeDiff, Nat.reduceMod, Nat.reduceDiv, Nat.reducePow, Nat.reduceBEq, Int.reduceToNat, Int.reduceLE, Int.reduceLT, Int.reduceEq, Int.reduceAdd, Int.reduceMul, Int.reduceSub, Int.reduceNeg, Int.reduceNe, Tryd.TS, Tryd.EV, rep4]
  have hb : (!decide ((c3 : Int) = 0)) = decide (115792089237316195423570985008687907853269984665640564039457584007913129639936 ≤ m + n) := by rw [← decide_not]; exact decide_eq_decide.2 (by omega)
  rw [u256_mk l0 l1 l2 l3 (n := (m + n) % 115792089237316195423570985008687907853269984665640564039457584007913129639936) (by omega), hb]
end Go.Proofs
/- Numbers of 256 bits: sums, differences, comparisons. -/
namespace Go.Proofs
open Go.SE

set_option maxHeartbeats 400000 in
theorem wsub (m n : Nat) (hm : m < 115792089237316195423570985008687907853269984665640564039457584007913129639936) (hn : n < 115792089237316195423570985008687907853269984665640564039457584007913129639936) :
    SCall Tryd.prog 106 [(.arr 4 (.int .u64), u256 m), (.arr 4 (.int .u64), u256 n)] (fun rs => rs = [.d (.arr 4 (.int .u64)) (u256 ((m + 115792089237316195423570985008687907853269984665640564039457584007913129639936 - n) % 115792089237316195423570985008687907853269984665640564039457584007913129639936)), .d .bool (.b (decide (m < n)))]) := by
  obtain ⟨a0, a1, a2, a3, ha0, ha1, ha2, ha3, em, eu⟩ := u256_open m hm
  obtain ⟨b0, b1, b2, b3, hb0, hb1, hb2, hb3, en, ev⟩ := u256_open n hn
  rw [eu, ev]
  refine scall_intro (n := 29) (rl := [.cell 4 45, .tmp 5]) (us := [45, 4]) Tryd.hT Tryd.func106 rfl rfl rfl rfl rfl (Nat.le_of_ble_eq_true rfl) ?_
  intro w0 hL0
  simp -dsimp -implicitDefEqProofs (disch := omega) only [↓reduceIte, ↓gA, gB, refs, den, hasTy, Ty.cmp, Ty.depth, reduceCtorEq, Nat.reduceAdd, Nat.reduceSub, Nat.reduceMul, Nat.reduceEqDiff, Nat.reduceLT, Nat.reduceLeDiff, Nat.reduceMod, Nat.reduceDiv, Nat.reducePow, Nat.reduceBEq, Int.reduceToNat, Int.reduceLE, Int.reduceLT, Int.reduceEq, Int.reduceAdd, Int.reduceMul, Int.reduceSub, Int.reduceNeg, Int.reduceNe, Tryd.TS, Tryd.EV, rep4]
  refine sunroll Tryd.hT ?_; simp -dsimp -implicitDefEqProofs (disch := omega) only [↓reduceIte, ↓gA, gB, refs, den, hasTy, Ty.cmp, Ty.depth, reduceCtorEq, Nat.reduceAdd, Nat.reduceSub, Nat.reduceMul, Nat.reduceEqDiff, Nat.reduceLT, Nat.reduceLeDiff, Nat.reduceMod, Nat.reduceDiv, Nat.reducePow, Nat.reduceBEq, Int.reduceToNat, Int.reduceLE, Int.reduceLT, Int.reduceEq, Int.reduceAdd, Int.reduceMul, Int.reduceSub, Int.reduceNeg, Int.reduceNe, Tryd.TS, Tryd.EV, rep4]
  refine sdraw (id := 6) Tryd.hT (by kernel_rfl) [13] [] [0, 1, 2, 3, 4, 5, 6, 7, 8, 9, 10, 11, 12, 13, 14] (by kernel_rfl) (by kernel_rfl) (by kernel_rfl) ?_; simp only [gK, ↓reduceIte, Nat.reduceEqDiff]
  simp -dsimp -implicitDefEqProofs (disch := omega) only [↓reduceIte, ↓gA, gB, refs, den, hasTy, Ty.cmp, Ty.depth, reduceCtorEq, Nat.reduceAdd, Nat.reduceSub, Nat.reduceMul, Nat.reduceEqDiff, Nat.reduceLT, Nat.reduceLeDiff, Nat.reduceMod, Nat.reduceDiv, Nat.reducePow, Nat.reduceBEq, Int.reduceToNat, Int.reduceLE, Int.reduceLT, Int.reduceEq, Int.reduceAdd, Int.reduceMul, Int.reduceSub, Int.reduceNeg, Int.reduceNe, Tryd.TS, Tryd.EV, rep4]
  refine sub64 _ _ 0 ha0 hb0 (by omega) (fun s0 c0 e0 l0 m0 => ?_)
  simp -dsimp -implicitDefEqProofs (disch := omega) only [↓reduceIte, ↓gA, gB, refs, den, hasTy, Ty.cmp, Ty.depth, reduceCtorEq, Nat.reduceAdd, Nat.reduceSub, Nat.reduceMul, Nat.reduceEqDiff, Nat.reduceLT, Nat.reduceLeDiff, Nat.reduceMod, Nat.reduceDiv, Nat.reducePow, Nat.reduceBEq, Int.reduceToNat, Int.reduceLE, Int.reduceLT, Int.reduceEq, Int.reduceAdd, Int.reduceMul, Int.reduceSub, Int.reduceNeg, Int.reduceNe, Tryd.TS, Tryd.EV, rep4]
  refine sunroll Tryd.hT ?_; simp -dsimp -implicitDefEqProofs (disch := omega) only [↓reduceIte, ↓gA, gB, refs, den, hasTy, Ty.cmp, Ty.depth, reduceCtorEq, Nat.reduceAdd, Nat.reduceSub, Nat.reduceMul, Nat.reduceEqDiff, Nat.reduceLT, Nat.reduceLeDiff, Nat.reduceMod, Nat.reduceDiv, Nat.reducePow, Nat.reduceBEq, Int.reduceToNat, Int.reduceLE, Int.reduceLT, Int.reduceEq, Int.reduceAdd, Int.reduceMul, Int.reduceSub, Int.reduceNeg, Int.reduceNe, Tryd.TS, Tryd.EV, rep4]
  refine sdraw (id := 6) Tryd.hT (by kernel_rfl) [13] [] [0, 1, 2, 3, 4, 5, 6, 7, 8, 9, 10, 11, 12, 13, 14] (by kernel_rfl) (by kernel_rfl) (by kernel_rfl) ?_; simp only [gK, ↓reduceIte, Nat.reduceEqDiff]
  simp -dsimp -implicitDefEqProofs (disch := omega) only [↓reduceIte, ↓gA, gB, refs, den, hasTy, Ty.cmp, Ty.depth, reduceCtorEq, Nat.reduceAdd, Nat.reduceSub, Nat.reduceMul, Nat.reduceEqDiff, Nat.reduceLT, Nat.reduceLeDiff, Nat.reduceMod, Nat.reduceDiv, Nat.reducePow, Nat.reduceBEq, Int.reduceToNat, Int.reduceLE, Int.reduceLT, Int.reduceEq, Int.reduceAdd, Int.reduceMul, Int.reduceSub, Int.reduceNeg, Int.reduceNe, Tryd.TS, Tryd.EV, rep4]
  refine sub64 _ _ _ ha1 hb1 m0 (fun s1 c1 e1 l1 m1 => ?_)
  simp -dsimp -implicitDefEqProofs (disch := omega) only [↓reduceIte, ↓gA, gB, refs, den, hasTy, Ty.cmp, Ty.depth, reduceCtorEq, Nat.reduceAdd, Nat.reduceSub, Nat.reduceMul, Nat.reduceEqDiff, Nat.reduceLT, Nat.reduceLeDiff, Nat.reduceMod, Nat.reduceDiv, Nat.reducePow, Nat.reduceBEq, Int.reduceToNat, Int.reduceLE, Int.reduceLT, Int.reduceEq, Int.reduceAdd, Int.reduceMul, Int.reduceSub, Int.reduceNeg, Int.reduceNe, Tryd.TS, Tryd.EV, rep4]
  refine sunroll Tryd.hT ?_; simp -dsimp -implicitDefEqProofs (disch := omega) only [↓reduceIte, ↓gA, gB, refs, den, hasTy, Ty.cmp, Ty.depth, reduceCtorEq, Nat.reduceAdd, Nat.reduceSub, Nat.reduceMul, Nat.reduceEqDiff, Nat.reduceLT, Nat.reduceLeDiff, Nat.reduceMod, Nat.reduceDiv, Nat.reducePow, Nat.reduceBEq, Int.reduceToNat, Int.reduceLE, Int.reduceLT, Int.reduceEq, Int.reduceAdd, Int.reduceMul, Int.reduceSub, Int.reduceNeg, Int.reduceNe, Tryd.TS, Tryd.EV, rep4]
  refine sdraw (id := 6) Tryd.hT (by kernel_rfl) [13] [] [0, 1, 2, 3, 4, 5, 6, 7, 8, 9, 10, 11, 12, 13, 14] (by kernel_rfl) (by kernel_rfl) (by kernel_rfl) ?_; simp only [gK, ↓reduceIte, Nat.reduceEqDiff]
  simp -dsimp -implicitDefEqProofs (disch := omega) only [↓reduceIte, ↓gA, gB, refs, den, hasTy, Ty.cmp, Ty.depth, reduceCtorEq, Nat.reduceAdd, Nat.reduceSub, Nat.reduceMul, Nat.reduceEqDiff, Nat.reduceLT, Nat.reduceLeDiff, Nat.reduceMod, Nat.reduceDiv, Nat.reducePow, Nat.reduceBEq, Int.reduceToNat, Int.reduceLE, Int.reduceLT, Int.reduceEq, Int.reduceAdd, Int.reduceMul, Int.reduceSub, Int.reduceNeg, Int.reduceNe, Tryd.TS, Tryd.EV, rep4]
  refine sub64 _ _ _ ha2 hb2 m1 (fun s2 c2 e2 l2 m2 => ?_)
  simp -dsimp -implicitDefEqProofs (disch := omega) only [↓reduceIte, ↓gA, gB, refs, den, hasTy, Ty.cmp, Ty.depth, reduceCtorEq, Nat.reduceAdd, Nat.reduceSub, Nat.reduceMul, Nat.reduceEqDiff, Nat.reduceLT, Nat.reduceLeDiff, Nat.reduceMod, Nat.reduceDiv, Nat.reducePow, Nat.reduceBEq, Int.reduceToNat, Int.reduceLE, Int.reduceLT, Int.reduceEq, Int.reduceAdd, Int.reduceMul, Int.reduceSub, Int.reduceNeg, Int.reduceNe, Tryd.TS, Tryd.EV, rep4]
  refine sunroll Tryd.hT ?_; simp -dsimp -implicitDefEqProofs (disch := omega) only [↓reduceIte, ↓gA, gB, refs, den, hasTy, Ty.cmp, Ty.depth, reduceCtorEq, Nat.reduceAdd, Nat.reduceSub, Nat.reduceMul, Nat.reduceEqDiff, Nat.reduceLT, Nat.reduceLeDiff, Nat.reduceMod, Nat.reduceDiv, Nat.reducePow, Nat.reduceBEq, Int.reduceToNat, Int.reduceLE, Int.reduceLT, Int.reduceEq, Int.reduceAdd, Int.reduceMul, Int.reduceSub, Int.reduceNeg, Int.reduceNe, Tryd.TS, Tryd.EV, rep4]
  refine sdraw (id := 6) Tryd.hT (by kernel_rfl) [13] [] [0, 1, 2, 3, 4, 5, 6, 7, 8, 9, 10, 11, 12, 13, 14] (by kernel_rfl) (by kernel_rfl) (by kernel_rfl) ?_; simp only [gK, ↓reduceIte, Nat.reduceEqDiff]
  simp -dsimp -implicitDefEqProofs (disch := omega) only [↓reduceIte, ↓gA, gB, refs, den, hasTy, Ty.cmp, Ty.depth, reduceCtorEq, Nat.reduceAdd, Nat.reduceSub, Nat.reduceMul, Nat.reduceEqDiff, Nat.reduceLT, Nat.reduceLeDiff, Nat.reduceMod, Nat.reduceDiv, Nat.reducePow, Nat.reduceBEq, Int.reduceToNat, Int.reduceLE, Int.reduceLT, Int.reduceEq, Int.reduceAdd, Int.reduceMul, Int.reduceSub, Int.reduceNeg, Int.reduceNe, Tryd.TS, Tryd.EV, rep4]
  refine sub64 _ _ _ ha3 hb3 m2 (fun s3 c3 e3 l3 m3 => ?_)
  simp -dsimp -implicitDefEqProofs (disch := omega) only [↓reduceIte, ↓gA, gB, refs, den, hasTy, Ty.cmp, Ty.depth, reduceCtorEq, Nat.reduceAdd, Nat.reduceSub, Nat.reduceMul, Nat.reduceEqDiff, Nat.reduceLT, Nat.reduceLeDiff, Nat.reduceMod, Nat.reduceDiv, Nat.reducePow, Nat.reduceBEq, Int.reduceToNat, Int.reduceLE, Int.reduceLT, Int.reduceEq, Int.reduceAdd, Int.reduceMul, Int.reduceSub, Int.reduceNeg, Int.reduceNe, Tryd.TS, Tryd.EV, rep4]
  refine sunroll Tryd.hT ?_; simp -dsimp -implicitDefEqProofs (disch := omega) only [↓reduceIte, ↓gA, gB, refs, den, hasTy, Ty.cmp, Ty.depth, reduceCtorEq, Nat.reduceAdd, Nat.reduceSub, Nat.reduceMul, Nat.reduceEqDiff, Nat.reduceLT, Nat.reduceLeDiff, Nat.reduceMod, Nat.reduceDiv, Nat.reducePow, Nat.reduceBEq, Int.reduceToNat, Int.reduceLE, Int.reduceLT, Int.reduceEq, Int.reduceAdd, Int.reduceMul, Int.reduceSub, Int.reduceNeg, Int.reduceNe, Tryd.TS, Tryd.EV, rep4]
  have hs : s0 + 18446744073709551616 * s1 + 340282366920938463463374607431768211456 * s2 + 6277101735386680763835789423207666416102355444464034512896 * s3 + n = m + 115792089237316195423570985008687907853269984665640564039457584007913129639936 * c3 := by omega
  have hS : s0 + 18446744073709551616 * s1 + 340282366920938463463374607431768211456 * s2 + 6277101735386680763835789423207666416102355444464034512896 * s3 < 115792089237316195423570985008687907853269984665640564039457584007913129639936 := by omega
  rw [u256_mk l0 l1 l2 l3 rfl]
  generalize s0 + 18446744073709551616 * s1 + 340282366920938463463374607431768211456 * s2 + 6277101735386680763835789423207666416102355444464034512896 * s3 = S at hs hS
  clear e0 e1 e2 e3 em en eu ev
  obtain rfl | rfl : c3 = 0 ∨ c3 = 1 := by omega
  · rw [show (m + 115792089237316195423570985008687907853269984665640564039457584007913129639936 - n) % 115792089237316195423570985008687907853269984665640564039457584007913129639936 = S by omega]
    simp only [show ¬ m < n by omega]
    rfl
  · rw [show (m + 115792089237316195423570985008687907853269984665640564039457584007913129639936 - n) % 115792089237316195423570985008687907853269984665640564039457584007913129639936 = S by omega]
    simp only [show m < n by omega]
    rfl

set_option maxHeartbeats 400000 in
theorem waddRef (m n : Nat) (hm : m < 115792089237316195423570985008687907853269984665640564039457584007913129639936) (hn : n < 115792089237316195423570985008687907853269984665640564039457584007913129639936) :
    SCall Tryd.prog 80 [(.arr 4 (.int .u64), u256 m), (.arr 4 (.int .u64), u256 n)] (fun rs => rs = [.d (.arr 4 (.int .u64)) (u256 ((m + n) % 115792089237316195423570985008687907853269984665640564039457584007913129639936)), .d .bool (.b (decide (115792089237316195423570985008687907853269984665640564039457584007913129639936 ≤ m + n)))]) := by
  obtain ⟨a0, a1, a2, a3, ha0, ha1, ha2, ha3, em, eu⟩ := u256_open m hm
  obtain ⟨b0, b1, b2, b3, hb0, hb1, hb2, hb3, en, ev⟩ := u256_open n hn
  rw [eu, ev]
  refine scall_intro (n := 29) (rl := [.cell 4 45, .tmp 5]) (us := [45, 4]) Tryd.hT Tryd.func80 rfl rfl rfl rfl rfl (Nat.le_of_ble_eq_true rfl) ?_
  intro w0 hL0
  simp -dsimp -implicitDefEqProofs (disch := omega) only [↓reduceIte, ↓gA, gB, refs, den, hasTy, Ty.cmp, Ty.depth, reduceCtorEq, Nat.reduceAdd, Nat.reduceSub, Nat.reduceMul, Nat.reduceEqDiff, Nat.reduceLT, Nat.reduceLeDiff, Nat.reduceMod, Nat.reduceDiv, Nat.reducePow, Nat.reduceBEq, Int.reduceToNat, Int.reduceLE, Int.reduceLT, Int.reduceEq, Int.reduceAdd, Int.reduceMul, Int.reduceSub, Int.reduceNeg, Int.reduceNe, Tryd.TS, Tryd.EV, rep4]
  refine sunroll Tryd.hT ?_; simp -dsimp -implicitDefEqProofs (disch := omega) only [↓reduceIte, ↓gA, gB, refs, den, hasTy, Ty.cmp, Ty.depth, reduceCtorEq, Nat.reduceAdd, Nat.reduceSub, Nat.reduceMul, Nat.reduceEqDiff, Nat.reduceLT, Nat.reduceLeDiff, Nat.reduceMod, Nat.reduceDiv, Nat.reducePow, Nat.reduceBEq, Int.reduceToNat, Int.reduceLE, Int.reduceLT, Int.reduceEq, Int.reduceAdd, Int.reduceMul, Int.reduceSub, Int.reduceNeg, Int.reduceNe, Tryd.TS, Tryd.EV, rep4]
  refine sdraw (id := 6) Tryd.hT (by kernel_rfl) [13] [] [0, 1, 2, 3, 4, 5, 6, 7, 8, 9, 10, 11, 12, 13, 14] (by kernel_rfl) (by kernel_rfl) (by kernel_rfl) ?_; simp only [gK, ↓reduceIte, Nat.reduceEqDiff]
  simp -dsimp -implicitDefEqProofs (disch := omega) only [↓reduceIte, ↓gA, gB, refs, den, hasTy, Ty.cmp, Ty.depth, reduceCtorEq, Nat.reduceAdd, Nat.reduceSub, Nat.reduceMul, Nat.reduceEqDiff, Nat.reduceLT, Nat.reduceLeDiff, Nat.reduceMod, Nat.reduceDiv, Nat.reducePow, Nat.reduceBEq, Int.reduceToNat, Int.reduceLE, Int.reduceLT, Int.reduceEq, Int.reduceAdd, Int.reduceMul, Int.reduceSub, Int.reduceNeg, Int.reduceNe, Tryd.TS, Tryd.EV, rep4]
  refine add64 _ _ 0 ha0 hb0 (by omega) (fun s0 c0 e0 l0 m0 => ?_)
  simp -dsimp -implicitDefEqProofs (disch := omega) only [↓reduceIte, ↓gA, gB, refs, den, hasTy, Ty.cmp, Ty.depth, reduceCtorEq, Nat.reduceAdd, Nat.reduceSub, Nat.reduceMul, Nat.reduceEqDiff, Nat.reduceLT, Nat.reduceLeDiff, Nat.reduceMod, Nat.reduceDiv, Nat.reducePow, Nat.reduceBEq, Int.reduceToNat, Int.reduceLE, Int.reduceLT, Int.reduceEq, Int.reduceAdd, Int.reduceMul, Int.reduceSub, Int.reduceNeg, Int.reduceNe, Tryd.TS, Tryd.EV, rep4]
  refine sunroll Tryd.hT ?_; simp -dsimp -implicitDefEqProofs (disch := omega) only [↓reduceIte, ↓gA, gB, refs, den, hasTy, Ty.cmp, Ty.depth, reduceCtorEq, Nat.reduceAdd, Nat.reduceSub, Nat.reduceMul, Nat.reduceEqDiff, Nat.reduceLT, Nat.reduceLeDiff, Nat.reduceMod, Nat.reduceDiv, Nat.reducePow, Nat.reduceBEq, Int.reduceToNat, Int.reduceLE, Int.reduceLT, Int.reduceEq, Int.reduceAdd, Int.reduceMul, Int.reduceSub, Int.reduceNeg, Int.reduceNe, Tryd.TS, Tryd.EV, rep4]
  refine sdraw (id := 6) Tryd.hT (by kernel_rfl) [13] [] [0, 1, 2, 3, 4, 5, 6, 7, 8, 9, 10, 11, 12, 13, 14] (by kernel_rfl) (by kernel_rfl) (by kernel_rfl) ?_; simp only [gK, ↓reduceIte, Nat.reduceEqDiff]
  simp -dsimp -implicitDefEqProofs (disch := omega) only [↓reduceIte, ↓gA, gB, refs, den, hasTy, Ty.cmp, Ty.depth, reduceCtorEq, Nat.reduceAdd, Nat.reduceSub, Nat.reduceMul, Nat.reduceEqDiff, Nat.reduceLT, Nat.reduceLeDiff, Nat.reduceMod, Nat.reduceDiv, Nat.reducePow, Nat.reduceBEq, Int.reduceToNat, Int.reduceLE, Int.reduceLT, Int.reduceEq, Int.reduceAdd, Int.reduceMul, Int.reduceSub, Int.reduceNeg, Int.reduceNe, Tryd.TS, Tryd.EV, rep4]
  refine add64 _ _ _ ha1 hb1 m0 (fun s1 c1 e1 l1 m1 => ?_)
  simp -dsimp -implicitDefEqProofs (disch := omega) only [↓reduceIte, ↓gA, gB, refs, den, hasTy, Ty.cmp, Ty.depth, reduceCtorEq, Nat.reduceAdd, Nat.reduceSub, Nat.reduceMul, Nat.reduceEqDiff, Nat.reduceLT, Nat.reduceLeDiff, Nat.reduceMod, Nat.reduceDiv, Nat.reducePow, Nat.reduceBEq, Int.reduceToNat, Int.reduceLE, Int.reduceLT, Int.reduceEq, Int.reduceAdd, Int.reduceMul, Int.reduceSub, Int.reduceNeg, Int.reduceNe, Tryd.TS, Tryd.EV, rep4]
  refine sunroll Tryd.hT ?_; simp -dsimp -implicitDefEqProofs (disch := omega) only [↓reduceIte, ↓gA, gB, refs, den, hasTy, Ty.cmp, Ty.depth, reduceCtorEq, Nat.reduceAdd, Nat.reduceSub, Nat.reduceMul, Nat.reduceEqDiff, Nat.reduceLT, Nat.reduceLeDiff, Nat.reduceMod, Nat.reduceDiv, Nat.reducePow, Nat.reduceBEq, Int.reduceToNat, Int.reduceLE, Int.reduceLT, Int.reduceEq, Int.reduceAdd, Int.reduceMul, Int.reduceSub, Int.reduceNeg, Int.reduceNe, Tryd.TS, Tryd.EV, rep4]
  refine sdraw (id := 6) Tryd.hT (by kernel_rfl) [13] [] [0, 1, 2, 3, 4, 5, 6, 7, 8, 9, 10, 11, 12, 13, 14] (by kernel_rfl) (by kernel_rfl) (by kernel_rfl) ?_; simp only [gK, ↓reduceIte, Nat.reduceEqDiff]
  simp -dsimp -implicitDefEqProofs (disch := omega) only [↓reduceIte, ↓gA, gB, refs, den, hasTy, Ty.cmp, Ty.depth, reduceCtorEq, Nat.reduceAdd, Nat.reduceSub, Nat.reduceMul, Nat.reduceEqDiff, Nat.reduceLT, Nat.reduceLeDiff, Nat.reduceMod, Nat.reduceDiv, Nat.reducePow, Nat.reduceBEq, Int.reduceToNat, Int.reduceLE, Int.reduceLT, Int.reduceEq, Int.reduceAdd, Int.reduceMul, Int.reduceSub, Int.reduceNeg, Int.reduceNe, Tryd.TS, Tryd.EV, rep4]
  refine add64 _ _ _ ha2 hb2 m1 (fun s2 c2 e2 l2 m2 => ?_)
  simp -dsimp -implicitDefEqProofs (disch := omega) only [↓reduceIte, ↓gA, gB, refs, den, hasTy, Ty.cmp, Ty.depth, reduceCtorEq, Nat.reduceAdd, Nat.reduceSub, Nat.reduceMul, Nat.reduceEqDiff, Nat.reduceLT, Nat.reduceLeDiff, Nat.reduceMod, Nat.reduceDiv, Nat.reducePow, Nat.reduceBEq, Int.reduceToNat, Int.reduceLE, Int.reduceLT, Int.reduceEq, Int.reduceAdd, Int.reduceMul, Int.reduceSub, Int.reduceNeg, Int.reduceNe, Tryd.TS, Tryd.EV, rep4]
  refine sunroll Tryd.hT ?_; simp -dsimp -implicitDefEqProofs (disch := omega) only [↓reduceIte, ↓gA, gB, refs, den, hasTy, Ty.cmp, Ty.depth, reduceCtorEq, Nat.reduceAdd, Nat.reduceSub, Nat.reduceMul, Nat.reduceEqDiff, Nat.reduceLT, Nat.reduceLeDiff, Nat.reduceMod, Nat.reduceDiv, Nat.reducePow, Nat.reduceBEq, Int.reduceToNat, Int.reduceLE, Int.reduceLT, Int.reduceEq, Int.reduceAdd, Int.reduceMul, Int.reduceSub, Int.reduceNeg, Int.reduceNe, Tryd.TS, Tryd.EV, rep4]
  refine sdraw (id := 6) Tryd.hT (by kernel_rfl) [13] [] [0, 1, 2, 3, 4, 5, 6, 7, 8, 9, 10, 11, 12, 13, 14] (by kernel_rfl) (by kernel_rfl) (by kernel_rfl) ?_; simp only [gK, ↓reduceIte, Nat.reduceEqDiff]
  simp -dsimp -implicitDefEqProofs (disch := omega) only [↓reduceIte, ↓gA, gB, refs, den, hasTy, Ty.cmp, Ty.depth, reduceCtorEq, Nat.reduceAdd, Nat.reduceSub, Nat.reduceMul, Nat.reduceEqDiff, Nat.reduceLT, Nat.reduceLeDiff, Nat.reduceMod, Nat.reduceDiv, Nat.reducePow, Nat.reduceBEq, Int.reduceToNat, Int.reduceLE, Int.reduceLT, Int.reduceEq, Int.reduceAdd, Int.reduceMul, Int.reduceSub, Int.reduceNeg, Int.reduceNe, Tryd.TS, Tryd.EV, rep4]
  refine add64 _ _ _ ha3 hb3 m2 (fun s3 c3 e3 l3 m3 => ?_)
  simp -dsimp -implicitDefEqProofs (disch := omega) only [↓reduceIte, ↓gA, gB, refs, den, hasTy, Ty.cmp, Ty.depth, reduceCtorEq, Nat.reduceAdd, Nat.reduceSub, Nat.reduceMul, Nat.reduceEqDiff, Nat.reduceLT, Nat.reduceLeDiff, Nat.reduceMod, Nat.reduceDiv, Nat.reducePow, Nat.reduceBEq, Int.reduceToNat, Int.reduceLE, Int.reduceLT, Int.reduceEq, Int.reduceAdd, Int.reduceMul, Int.reduceSub, Int.reduceNeg, Int.reduceNe, Tryd.TS, Tryd.EV, rep4]
  refine sunroll Tryd.hT ?_; simp -dsimp -implicitDefEqProofs (disch := omega) only [↓reduceIte, ↓gA, gB, refs, den, hasTy, Ty.cmp, Ty.depth, reduceCtorEq, Nat.reduceAdd, Nat.reduceSub, Nat.reduceMul, Nat.reduceEqDiff, Nat.reduceLT, Nat.reduceLeDiff, Nat.reduceMod, Nat.reduceDiv, Nat.reducePow, Nat.reduceBEq, Int.reduceToNat, Int.reduceLE, Int.reduceLT, Int.reduceEq, Int.reduceAdd, Int.reduceMul, Int.reduceSub, Int.reduceNeg, Int.reduceNe, Tryd.TS, Tryd.EV, rep4]
  have hb : (decide ((c3 : Int) = 1)) = decide (115792089237316195423570985008687907853269984665640564039457584007913129639936 ≤ m + n) := by first | exact decide_eq_decide.2 (by omega) | (rw [← decide_not]; exact decide_eq_decide.2 (by omega))
  rw [u256_mk l0 l1 l2 l3 (n := (m + n) % 115792089237316195423570985008687907853269984665640564039457584007913129639936) (by omega), hb]

set_option maxHeartbeats 400000 in
theorem wsubRef (m n : Nat) (hm : m < 115792089237316195423570985008687907853269984665640564039457584007913129639936) (hn : n < 115792089237316195423570985008687907853269984665640564039457584007913129639936) :
    SCall Tryd.prog 82 [(.arr 4 (.int .u64), u256 m), (.arr 4 (.int .u64), u256 n)] (fun rs => rs = [.d (.arr 4 (.int .u64)) (u256 ((m + 115792089237316195423570985008687907853269984665640564039457584007913129639936 - n) % 115792089237316195423570985008687907853269984665640564039457584007913129639936)), .d .bool (.b (decide (m < n)))]) := by
  obtain ⟨a0, a1, a2, a3, ha0, ha1, ha2, ha3, em, eu⟩ := u256_open m hm
  obtain ⟨b0, b1, b2, b3, hb0, hb1, hb2, hb3, en, ev⟩ := u256_open n hn
  rw [eu, ev]
  refine scall_intro (n := 29) (rl := [.cell 4 45, .tmp 5]) (us := [45, 4]) Tryd.hT Tryd.func82 rfl rfl rfl rfl rfl (Nat.le_of_ble_eq_true rfl) ?_
  intro w0 hL0
  simp -dsimp -implicitDefEqProofs (disch := omega) only [↓reduceIte, ↓gA, gB, refs, den, hasTy, Ty.cmp, Ty.depth, reduceCtorEq, Nat.reduceAdd, Nat.reduceSub, Nat.reduceMul, Nat.reduceEqDiff, Nat.reduceLT, Nat.reduceLeDiff, Nat.reduceMod, Nat.reduceDiv, Nat.reducePow, Nat.reduceBEq, Int.reduceToNat, Int.reduceLE, Int.reduceLT, Int.reduceEq, Int.reduceAdd, Int.reduceMul, Int.reduceSub, Int.reduceNeg, Int.reduceNe, Tryd.TS, Tryd.EV, rep4]
  refine sunroll Tryd.hT ?_; simp -dsimp -implicitDefEqProofs (disch := omega) only [↓reduceIte, ↓gA, gB, refs, den, hasTy, Ty.cmp, Ty.depth, reduceCtorEq, Nat.reduceAdd, Nat.reduceSub, Nat.reduceMul, Nat.reduceEqDiff, Nat.reduceLT, Nat.reduceLeDiff, Nat.reduceMod, Nat.reduceDiv, Nat.reducePow, Nat.reduceBEq, Int.reduceToNat, Int.reduceLE, Int.reduceLT, Int.reduceEq, Int.reduceAdd, Int.reduceMul, Int.reduceSub, Int.reduceNeg, Int.reduceNe, Tryd.TS, Tryd.EV, rep4]
  refine sdraw (id := 6) Tryd.hT (by kernel_rfl) [13] [] [0, 1, 2, 3, 4, 5, 6, 7, 8, 9, 10, 11, 12, 13, 14] (by kernel_rfl) (by kernel_rfl) (by kernel_rfl) ?_; simp only [gK, ↓reduceIte, Nat.reduceEqDiff]
  simp -dsimp -implicitDefEqProofs (disch := omega) only [↓reduceIte, ↓gA, gB, refs, den, hasTy, Ty.cmp, Ty.depth, reduceCtorEq, Nat.reduceAdd, Nat.reduceSub, Nat.reduceMul, Nat.reduceEqDiff, Nat.reduceLT, Nat.reduceLeDiff, Nat.reduceMod, Nat.reduceDiv, Nat.reducePow, Nat.reduceBEq, Int.reduceToNat, Int.reduceLE, Int.reduceLT, Int.reduceEq, Int.reduceAdd, Int.reduceMul, Int.reduceSub, Int.reduceNeg, Int.reduceNe, Tryd.TS, Tryd.EV, rep4]
  refine sub64 _ _ 0 ha0 hb0 (by omega) (fun s0 c0 e0 l0 m0 => ?_)
  simp -dsimp -implicitDefEqProofs (disch := omega) only [↓reduceIte, ↓gA, gB, refs, den, hasTy, Ty.cmp, Ty.depth, reduceCtorEq, Nat.reduceAdd, Nat.reduceSub, Nat.reduceMul, Nat.reduceEqDiff, Nat.reduceLT, Nat.reduceLeDiff, Nat.reduceMod, Nat.reduceDiv, Nat.reducePow, Nat.reduceBEq, Int.reduceToNat, Int.reduceLE, Int.reduceLT, Int.reduceEq, Int.reduceAdd, Int.reduceMul, Int.reduceSub, Int.reduceNeg, Int.reduceNe, Tryd.TS, Tryd.EV, rep4]
  refine sunroll Tryd.hT ?_; simp -dsimp -implicitDefEqProofs (disch := omega) only [↓reduceIte, ↓gA, gB, refs, den, hasTy, Ty.cmp, Ty.depth, reduceCtorEq, Nat.reduceAdd, Nat.reduceSub, Nat.reduceMul, Nat.reduceEqDiff, Nat.reduceLT, Nat.reduceLeDiff, Nat.reduceMod, Nat.reduceDiv, Nat.reducePow, Nat.reduceBEq, Int.reduceToNat, Int.reduceLE, Int.reduceLT, Int.reduceEq, Int.reduceAdd, Int.reduceMul, Int.reduceSub, Int.reduceNeg, Int.reduceNe, Tryd.TS, Tryd.EV, rep4]
  refine sdraw (id := 6) Tryd.hT (by kernel_rfl) [13] [] [0, 1, 2, 3, 4, 5, 6, 7, 8, 9, 10, 11, 12, 13, 14] (by kernel_rfl) (by kernel_rfl) (by kernel_rfl) ?_; simp only [gK, ↓reduceIte, Nat.reduceEqDiff]
  simp -dsimp -implicitDefEqProofs (disch := omega) only [↓reduceIte, ↓gA, gB, refs, den, hasTy, Ty.cmp, Ty.depth, reduceCtorEq, Nat.reduceAdd, Nat.reduceSub, Nat.reduceMul, Nat.reduceEqDiff, Nat.reduceLT, Nat.reduceLeDiff, Nat.reduceMod, Nat.reduceDiv, Nat.reducePow, Nat.reduceBEq, Int.reduceToNat, Int.reduceLE, Int.reduceLT, Int.reduceEq, Int.reduceAdd, Int.reduceMul, Int.reduceSub, Int.reduceNeg, Int.reduceNe, Tryd.TS, Tryd.EV, rep4]
  refine sub64 _ _ _ ha1 hb1 m0 (fun s1 c1 e1 l1 m1 => ?_)
  simp -dsimp -implicitDefEqProofs (disch := omega) only [↓reduceIte, ↓gA, gB, refs, den, hasTy, Ty.cmp, Ty.depth, reduceCtorEq, Nat.reduceAdd, Nat.reduceSub, Nat.reduceMul, Nat.reduceEqDiff, Nat.reduceLT, Nat.reduceLeDiff, Nat.reduceMod, Nat.reduceDiv, Nat.reducePow, Nat.reduceBEq, Int.reduceToNat, Int.reduceLE, Int.reduceLT, Int.reduceEq, Int.reduceAdd, Int.reduceMul, Int.reduceSub, Int.reduceNeg, Int.reduceNe, Tryd.TS, Tryd.EV, rep4]
  refine sunroll Tryd.hT ?_; simp -dsimp -implicitDefEqProofs (disch := omega) only [↓reduceIte, ↓gA, gB, refs, den, hasTy, Ty.cmp, Ty.depth, reduceCtorEq, Nat.reduceAdd, Nat.reduceSub, Nat.reduceMul, Nat.reduceEqDiff, Nat.reduceLT, Nat.reduceLeDiff, Nat.reduceMod, Nat.reduceDiv, Nat.reducePow, Nat.reduceBEq, Int.reduceToNat, Int.reduceLE, Int.reduceLT, Int.reduceEq, Int.reduceAdd, Int.reduceMul, Int.reduceSub, Int.reduceNeg, Int.reduceNe, Tryd.TS, Tryd.EV, rep4]
  refine sdraw (id := 6) Tryd.hT (by kernel_rfl) [13] [] [0, 1, 2, 3, 4, 5, 6, 7, 8, 9, 10, 11, 12, 13, 14] (by kernel_rfl) (by kernel_rfl) (by kernel_rfl) ?_; simp only [gK, ↓reduceIte, Nat.reduceEqDiff]
  simp -dsimp -implicitDefEqProofs (disch := omega) only [↓reduceIte, ↓gA, gB, refs, den, hasTy, Ty.cmp, Ty.depth, reduceCtorEq, Nat.reduceAdd, Nat.reduceSub, Nat.reduceMul, Nat.reduceEqDiff, Nat.reduceLT, Nat.reduceLeDiff, Nat.reduceMod, Nat.reduceDiv, Nat.reducePow, Nat.reduceBEq, Int.reduceToNat, Int.reduceLE, Int.reduceLT, Int.reduceEq, Int.reduceAdd, Int.reduceMul, Int.reduceSub, Int.reduceNeg, Int.reduceNe, Tryd.TS, Tryd.EV, rep4]
  refine sub64 _ _ _ ha2 hb2 m1 (fun s2 c2 e2 l2 m2 => ?_)
  simp -dsimp -implicitDefEqProofs (disch := omega) only [↓reduceIte, ↓gA, gB, refs, den, hasTy, Ty.cmp, Ty.depth, reduceCtorEq, Nat.reduceAdd, Nat.reduceSub, Nat.reduceMul, Nat.reduceEqDiff, Nat.reduceLT, Nat.reduceLeDiff, Nat.reduceMod, Nat.reduceDiv, Nat.reducePow, Nat.reduceBEq, Int.reduceToNat, Int.reduceLE, Int.reduceLT, Int.reduceEq, Int.reduceAdd, Int.reduceMul, Int.reduceSub, Int.reduceNeg, Int.reduceNe, Tryd.TS, Tryd.EV, rep4]
  refine sunroll Tryd.hT ?_; simp -dsimp -implicitDefEqProofs (disch := omega) only [↓reduceIte, ↓gA, gB, refs, den, hasTy, Ty.cmp, Ty.depth, reduceCtorEq, Nat.reduceAdd, Nat.reduceSub, Nat.reduceMul, Nat.reduceEqDiff, Nat.reduceLT, Nat.reduceLeDiff, Nat.reduceMod, Nat.reduceDiv, Nat.reducePow, Nat.reduceBEq, Int.reduceToNat, Int.reduceLE, Int.reduceLT, Int.reduceEq, Int.reduceAdd, Int.reduceMul, Int.reduceSub, Int.reduceNeg, Int.reduceNe, Tryd.TS, Tryd.EV, rep4]
  refine sdraw (id := 6) Tryd.hT (by kernel_rfl) [13] [] [0, 1, 2, 3, 4, 5, 6, 7, 8, 9, 10, 11, 12, 13, 14] (by kernel_rfl) (by kernel_rfl) (by kernel_rfl) ?_; simp only [gK, ↓reduceIte, Nat.reduceEqDiff]
  simp -dsimp -implicitDefEqProofs (disch := omega) only [↓reduceIte, ↓gA, gB, refs, den, hasTy, Ty.cmp, Ty.depth, reduceCtorEq, Nat.reduceAdd, Nat.reduceSub, Nat.reduceMul, Nat.reduceEqDiff, Nat.reduceLT, Nat.reduceLeDiff, Nat.reduceMod, Nat.reduceDiv, Nat.reducePow, Nat.reduceBEq, Int.reduceToNat, Int.reduceLE, Int.reduceLT, Int.reduceEq, Int.reduceAdd, Int.reduceMul, Int.reduceSub, Int.reduceNeg, Int.reduceNe, Tryd.TS, Tryd.EV, rep4]
  refine sub64 _ _ _ ha3 hb3 m2 (fun s3 c3 e3 l3 m3 => ?_)
  simp -dsimp -implicitDefEqProofs (disch := omega) only [↓reduceIte, ↓gA, gB, refs, den, hasTy, Ty.cmp, Ty.depth, reduceCtorEq, Nat.reduceAdd, Nat.reduceSub, Nat.reduceMul, Nat.reduceEqDiff, Nat.reduceLT, Nat.reduceLeDiff, Nat.reduceMod, Nat.reduceDiv, Nat.reducePow, Nat.reduceBEq, Int.reduceToNat, Int.reduceLE, Int.reduceLT, Int.reduceEq, Int.reduceAdd, Int.reduceMul, Int.reduceSub, Int.reduceNeg, Int.reduceNe, Tryd.TS, Tryd.EV, rep4]
  refine sunroll Tryd.hT ?_; simp -dsimp -implicitDefEqProofs (disch := omega) only [↓reduceIte, ↓gA, gB, refs, den, hasTy, Ty.cmp, Ty.depth, reduceCtorEq, Nat.reduceAdd, Nat.reduceSub, Nat.reduceMul, Nat.reduceEqDiff, Nat.reduceLT, Nat.reduceLeDiff, Nat.reduceMod, Nat.reduceDiv, Nat.reducePow, Nat.reduceBEq, Int.reduceToNat, Int.reduceLE, Int.reduceLT, Int.reduceEq, Int.reduceAdd, Int.reduceMul, Int.reduceSub, Int.reduceNeg, Int.reduceNe, Tryd.TS, Tryd.EV, rep4]
  have hs : s0 + 18446744073709551616 * s1 + 340282366920938463463374607431768211456 * s2 + 6277101735386680763835789423207666416102355444464034512896 * s3 + n = m + 115792089237316195423570985008687907853269984665640564039457584007913129639936 * c3 := by omega
  have hS : s0 + 18446744073709551616 * s1 + 340282366920938463463374607431768211456 * s2 + 6277101735386680763835789423207666416102355444464034512896 * s3 < 115792089237316195423570985008687907853269984665640564039457584007913129639936 := by omega
  rw [u256_mk l0 l1 l2 l3 rfl]
  generalize s0 + 18446744073709551616 * s1 + 340282366920938463463374607431768211456 * s2 + 6277101735386680763835789423207666416102355444464034512896 * s3 = S at hs hS
  clear e0 e1 e2 e3 em en eu ev
  obtain rfl | rfl : c3 = 0 ∨ c3 = 1 := by omega
  · rw [show (m + 115792089237316195423570985008687907853269984665640564039457584007913129639936 - n) % 115792089237316195423570985008687907853269984665640564039457584007913129639936 = S by omega]
    simp only [show ¬ m < n by omega]
    rfl
  · rw [show (m + 115792089237316195423570985008687907853269984665640564039457584007913129639936 - n) % 115792089237316195423570985008687907853269984665640564039457584007913129639936 = S by omega]
    simp only [show m < n by omega]
    rfl
end Go.Proofs
/- Numbers of 256 bits: sums, differences, comparisons. -/
namespace Go.Proofs
open Go.SE

set_option maxHeartbeats 400000 in
theorem wcmp (m n : Nat) (hm : m < 115792089237316195423570985008687907853269984665640564039457584007913129639936) (hn : n < 115792089237316195423570985008687907853269984665640564039457584007913129639936) :
    SCall Tryd.prog 75 [(.arr 4 (.int .u64), u256 m), (.arr 4 (.int .u64), u256 n)] (fun rs => rs = [.d (.int .i64) (.n (if m < n then -1 else if n < m then 1 else 0))]) := by
  obtain ⟨a0, a1, a2, a3, ha0, ha1, ha2, ha3, em, eu⟩ := u256_open m hm
  obtain ⟨b0, b1, b2, b3, hb0, hb1, hb2, hb3, en, ev⟩ := u256_open n hn
  rw [eu, ev]
  refine scall_intro (n := 26) (rl := [.tmp 4]) (us := [3]) Tryd.hT Tryd.func75 rfl rfl rfl rfl rfl (Nat.le_of_ble_eq_true rfl) ?_
  intro w0 hL0
  simp -dsimp -implicitDefEqProofs (disch := omega) only [↓reduceIte, ↓gA, gB, refs, den, hasTy, Ty.cmp, Ty.depth, reduceCtorEq, Nat.reduceAdd, Nat.reduceSub, Nat.reduceMul, Nat.reduceEqDiff, Nat.reduceLT, Nat.reduceLeDiff, Nat.reduceMod, Nat.reduceDiv, Nat.reducePow, Nat.reduceBEq, Int.reduceToNat, Int.reduceLE, Int.reduceLT, Int.reduceEq, Int.reduceAdd, Int.reduceMul, Int.reduceSub, Int.reduceNeg, Int.reduceNe, Tryd.TS, Tryd.EV]
  refine sunroll Tryd.hT ?_; simp -dsimp -implicitDefEqProofs (disch := omega) only [↓reduceIte, ↓gA, gB, refs, den, hasTy, Ty.cmp, Ty.depth, reduceCtorEq, Nat.reduceAdd, Nat.reduceSub, Nat.reduceMul, Nat.reduceEqDiff, Nat.reduceLT, Nat.reduceLeDiff, Nat.reduceMod, Nat.reduceDiv, Nat.reducePow, Nat.reduceBEq, Int.reduceToNat, Int.reduceLE, Int.reduceLT, Int.reduceEq, Int.reduceAdd, Int.reduceMul, Int.reduceSub, Int.reduceNeg, Int.reduceNe, Tryd.TS, Tryd.EV]
  refine sdraw (id := 4) Tryd.hT (by kernel_rfl) [] [] [0, 1, 2, 3, 4, 5, 6, 7] (by kernel_rfl) (by kernel_rfl) (by kernel_rfl) ?_; simp only [gK, ↓reduceIte, Nat.reduceEqDiff]
  simp -dsimp -implicitDefEqProofs (disch := omega) only [↓reduceIte, ↓gA, gB, refs, den, hasTy, Ty.cmp, Ty.depth, reduceCtorEq, Nat.reduceAdd, Nat.reduceSub, Nat.reduceMul, Nat.reduceEqDiff, Nat.reduceLT, Nat.reduceLeDiff, Nat.reduceMod, Nat.reduceDiv, Nat.reducePow, Nat.reduceBEq, Int.reduceToNat, Int.reduceLE, Int.reduceLT, Int.reduceEq, Int.reduceAdd, Int.reduceMul, Int.reduceSub, Int.reduceNeg, Int.reduceNe, Tryd.TS, Tryd.EV]
  refine HIf_dec (fun h => ?_) (fun p0 => ?_)
  · simp -dsimp -implicitDefEqProofs (disch := omega) only [↓reduceIte, ↓gA, gB, refs, den, hasTy, Ty.cmp, Ty.depth, reduceCtorEq, Nat.reduceAdd, Nat.reduceSub, Nat.reduceMul, Nat.reduceEqDiff, Nat.reduceLT, Nat.reduceLeDiff, Nat.reduceMod, Nat.reduceDiv, Nat.reducePow, Nat.reduceBEq, Int.reduceToNat, Int.reduceLE, Int.reduceLT, Int.reduceEq, Int.reduceAdd, Int.reduceMul, Int.reduceSub, Int.reduceNeg, Int.reduceNe, Tryd.TS, Tryd.EV]
    rw [if_pos (by omega)]
  simp -dsimp -implicitDefEqProofs (disch := omega) only [↓reduceIte, ↓gA, gB, refs, den, hasTy, Ty.cmp, Ty.depth, reduceCtorEq, Nat.reduceAdd, Nat.reduceSub, Nat.reduceMul, Nat.reduceEqDiff, Nat.reduceLT, Nat.reduceLeDiff, Nat.reduceMod, Nat.reduceDiv, Nat.reducePow, Nat.reduceBEq, Int.reduceToNat, Int.reduceLE, Int.reduceLT, Int.reduceEq, Int.reduceAdd, Int.reduceMul, Int.reduceSub, Int.reduceNeg, Int.reduceNe, Tryd.TS, Tryd.EV]
  refine sdraw (id := 6) Tryd.hT (by kernel_rfl) [] [] [0, 1, 2, 3, 4, 5, 6, 7] (by kernel_rfl) (by kernel_rfl) (by kernel_rfl) ?_; simp only [gK, ↓reduceIte, Nat.reduceEqDiff]
  simp -dsimp -implicitDefEqProofs (disch := omega) only [↓reduceIte, ↓gA, gB, refs, den, hasTy, Ty.cmp, Ty.depth, reduceCtorEq, Nat.reduceAdd, Nat.reduceSub, Nat.reduceMul, Nat.reduceEqDiff, Nat.reduceLT, Nat.reduceLeDiff, Nat.reduceMod, Nat.reduceDiv, Nat.reducePow, Nat.reduceBEq, Int.reduceToNat, Int.reduceLE, Int.reduceLT, Int.reduceEq, Int.reduceAdd, Int.reduceMul, Int.reduceSub, Int.reduceNeg, Int.reduceNe, Tryd.TS, Tryd.EV]
  refine HIf_dec (fun h => ?_) (fun q0 => ?_)
  · simp -dsimp -implicitDefEqProofs (disch := omega) only [↓reduceIte, ↓gA, gB, refs, den, hasTy, Ty.cmp, Ty.depth, reduceCtorEq, Nat.reduceAdd, Nat.reduceSub, Nat.reduceMul, Nat.reduceEqDiff, Nat.reduceLT, Nat.reduceLeDiff, Nat.reduceMod, Nat.reduceDiv, Nat.reducePow, Nat.reduceBEq, Int.reduceToNat, Int.reduceLE, Int.reduceLT, Int.reduceEq, Int.reduceAdd, Int.reduceMul, Int.reduceSub, Int.reduceNeg, Int.reduceNe, Tryd.TS, Tryd.EV]
    rw [if_neg (by omega), if_pos (by omega)]
  simp -dsimp -implicitDefEqProofs (disch := omega) only [↓reduceIte, ↓gA, gB, refs, den, hasTy, Ty.cmp, Ty.depth, reduceCtorEq, Nat.reduceAdd, Nat.reduceSub, Nat.reduceMul, Nat.reduceEqDiff, Nat.reduceLT, Nat.reduceLeDiff, Nat.reduceMod, Nat.reduceDiv, Nat.reducePow, Nat.reduceBEq, Int.reduceToNat, Int.reduceLE, Int.reduceLT, Int.reduceEq, Int.reduceAdd, Int.reduceMul, Int.reduceSub, Int.reduceNeg, Int.reduceNe, Tryd.TS, Tryd.EV]
  refine sunroll Tryd.hT ?_; simp -dsimp -implicitDefEqProofs (disch := omega) only [↓reduceIte, ↓gA, gB, refs, den, hasTy, Ty.cmp, Ty.depth, reduceCtorEq, Nat.reduceAdd, Nat.reduceSub, Nat.reduceMul, Nat.reduceEqDiff, Nat.reduceLT, Nat.reduceLeDiff, Nat.reduceMod, Nat.reduceDiv, Nat.reducePow, Nat.reduceBEq, Int.reduceToNat, Int.reduceLE, Int.reduceLT, Int.reduceEq, Int.reduceAdd, Int.reduceMul, Int.reduceSub, Int.reduceNeg, Int.reduceNe, Tryd.TS, Tryd.EV]
  refine sdraw (id := 4) Tryd.hT (by kernel_rfl) [] [] [0, 1, 2, 3, 4, 5, 6, 7] (by kernel_rfl) (by kernel_rfl) (by kernel_rfl) ?_; simp only [gK, ↓reduceIte, Nat.reduceEqDiff]
  simp -dsimp -implicitDefEqProofs (disch := omega) only [↓reduceIte, ↓gA, gB, refs, den, hasTy, Ty.cmp, Ty.depth, reduceCtorEq, Nat.reduceAdd, Nat.reduceSub, Nat.reduceMul, Nat.reduceEqDiff, Nat.reduceLT, Nat.reduceLeDiff, Nat.reduceMod, Nat.reduceDiv, Nat.reducePow, Nat.reduceBEq, Int.reduceToNat, Int.reduceLE, Int.reduceLT, Int.reduceEq, Int.reduceAdd, Int.reduceMul, Int.reduceSub, Int.reduceNeg, Int.reduceNe, Tryd.TS, Tryd.EV]
  refine HIf_dec (fun h => ?_) (fun p1 => ?_)
  · simp -dsimp -implicitDefEqProofs (disch := omega) only [↓reduceIte, ↓gA, gB, refs, den, hasTy, Ty.cmp, Ty.depth, reduceCtorEq, Nat.reduceAdd, Nat.reduceSub, Nat.reduceMul, Nat.reduceEqDiff, Nat.reduceLT, Nat.reduceLeDiff, Nat.reduceMod, Nat.reduceDiv, Nat.reducePow, Nat.reduceBEq, Int.reduceToNat, Int.reduceLE, Int.reduceLT, Int.reduceEq, Int.reduceAdd, Int.reduceMul, Int.reduceSub, Int.reduceNeg, Int.reduceNe, Tryd.TS, Tryd.EV]
    rw [if_pos (by omega)]
  simp -dsimp -implicitDefEqProofs (disch := omega) only [↓reduceIte, ↓gA, gB, refs, den, hasTy, Ty.cmp, Ty.depth, reduceCtorEq, Nat.reduceAdd, Nat.reduceSub, Nat.reduceMul, Nat.reduceEqDiff, Nat.reduceLT, Nat.reduceLeDiff, Nat.reduceMod, Nat.reduceDiv, Nat.reducePow, Nat.reduceBEq, Int.reduceToNat, Int.reduceLE, Int.reduceLT, Int.reduceEq, Int.reduceAdd, Int.reduceMul, Int.reduceSub, Int.reduceNeg, Int.reduceNe, Tryd.TS, Tryd.EV]
  refine sdraw (id := 6) Tryd.hT (by kernel_rfl) [] [] [0, 1, 2, 3, 4, 5, 6, 7] (by kernel_rfl) (by kernel_rfl) (by kernel_rfl) ?_; simp only [gK, ↓reduceIte, Nat.reduceEqDiff]
  simp -dsimp -implicitDefEqProofs (disch := omega) only [↓reduceIte, ↓gA, gB, refs, den, hasTy, Ty.cmp, Ty.depth, reduceCtorEq, Nat.reduceAdd, Nat.reduceSub, Nat.reduceMul, Nat.reduceEqDiff, Nat.reduceLT, Nat.reduceLeDiff, Nat.reduceMod, Nat.reduceDiv, Nat.reducePow, Nat.reduceBEq, Int.reduceToNat, Int.reduceLE, Int.reduceLT, Int.reduceEq, Int.reduceAdd, Int.reduceMul, Int.reduceSub, Int.reduceNeg, Int.reduceNe, Tryd.TS, Tryd.EV]
  refine HIf_dec (fun h => ?_) (fun q1 => ?_)
  · simp -dsimp -implicitDefEqProofs (disch := omega) only [↓reduceIte, ↓gA, gB, refs, den, hasTy, Ty.cmp, Ty.depth, reduceCtorEq, Nat.reduceAdd, Nat.reduceSub, Nat.reduceMul, Nat.reduceEqDiff, Nat.reduceLT, Nat.reduceLeDiff, Nat.reduceMod, Nat.reduceDiv, Nat.reducePow, Nat.reduceBEq, Int.reduceToNat, Int.reduceLE, Int.reduceLT, Int.reduceEq, Int.reduceAdd, Int.reduceMul, Int.reduceSub, Int.reduceNeg, Int.reduceNe, Tryd.TS, Tryd.EV]
    rw [if_neg (by omega), if_pos (by omega)]
  simp -dsimp -implicitDefEqProofs (disch := omega) only [↓reduceIte, ↓gA, gB, refs, den, hasTy, Ty.cmp, Ty.depth, reduceCtorEq, Nat.reduceAdd, Nat.reduceSub, Nat.reduceMul, Nat.reduceEqDiff, Nat.reduceLT, Nat.reduceLeDiff, Nat.reduceMod, Nat.reduceDiv, Nat.reducePow, Nat.reduceBEq, Int.reduceToNat, Int.reduceLE, Int.reduceLT, Int.reduceEq, Int.reduceAdd, Int.reduceMul, Int.reduceSub, Int.reduceNeg, Int.reduceNe, Tryd.TS, Tryd.EV]
  refine sunroll Tryd.hT ?_; simp -dsimp -implicitDefEqProofs (disch := omega) only [↓reduceIte, ↓gA, gB, refs, den, hasTy, Ty.cmp, Ty.depth, reduceCtorEq, Nat.reduceAdd, Nat.reduceSub, Nat.reduceMul, Nat.reduceEqDiff, Nat.reduceLT, Nat.reduceLeDiff, Nat.reduceMod, Nat.reduceDiv, Nat.reducePow, Nat.reduceBEq, Int.reduceToNat, Int.reduceLE, Int.reduceLT, Int.reduceEq, Int.reduceAdd, Int.reduceMul, Int.reduceSub, Int.reduceNeg, Int.reduceNe, Tryd.TS, Tryd.EV]
  refine sdraw (id := 4) Tryd.hT (by kernel_rfl) [] [] [0, 1, 2, 3, 4, 5, 6, 7] (by kernel_rfl) (by kernel_rfl) (by kernel_rfl) ?_; simp only [gK, ↓reduceIte, Nat.reduceEqDiff]
  simp -dsimp -implicitDefEqProofs (disch := omega) only [↓reduceIte, ↓gA, gB, refs, den, hasTy, Ty.cmp, Ty.depth, reduceCtorEq, Nat.reduceAdd, Nat.reduceSub, Nat.reduceMul, Nat.reduceEqDiff, Nat.reduceLT, Nat.reduceLeDiff, Nat.reduceMod, Nat.reduceDiv, Nat.reducePow, Nat.reduceBEq, Int.reduceToNat, Int.reduceLE, Int.reduceLT, Int.reduceEq, Int.reduceAdd, Int.reduceMul, Int.reduceSub, Int.reduceNeg, Int.reduceNe, Tryd.TS, Tryd.EV]
  refine HIf_dec (fun h => ?_) (fun p2 => ?_)
  · simp -dsimp -implicitDefEqProofs (disch := omega) only [↓reduceIte, ↓gA, gB, refs, den, hasTy, Ty.cmp, Ty.depth, reduceCtorEq, Nat.reduceAdd, Nat.reduceSub, Nat.reduceMul, Nat.reduceEqDiff, Nat.reduceLT, Nat.reduceLeDiff, Nat.reduceMod, Nat.reduceDiv, Nat.reducePow, Nat.reduceBEq, Int.reduceToNat, Int.reduceLE, Int.reduceLT, Int.reduceEq, Int.reduceAdd, Int.reduceMul, Int.reduceSub, Int.reduceNeg, Int.reduceNe, Tryd.TS, Tryd.EV]
    rw [if_pos (by omega)]
  simp -dsimp -implicitDefEqProofs (disch := omega) only [↓reduceIte, ↓gA, gB, refs, den, hasTy, Ty.cmp, Ty.depth, reduceCtorEq, Nat.reduceAdd, Nat.reduceSub, Nat.reduceMul, Nat.reduceEqDiff, Nat.reduceLT, Nat.reduceLeDiff, Nat.reduceMod, Nat.reduceDiv, Nat.reducePow, Nat.reduceBEq, Int.reduceToNat, Int.reduceLE, Int.reduceLT, Int.reduceEq, Int.reduceAdd, Int.reduceMul, Int.reduceSub, Int.reduceNeg, Int.reduceNe, Tryd.TS, Tryd.EV]
  refine sdraw (id := 6) Tryd.hT (by kernel_rfl) [] [] [0, 1, 2, 3, 4, 5, 6, 7] (by kernel_rfl) (by kernel_rfl) (by kernel_rfl) ?_; simp only [gK, ↓reduceIte, Nat.reduceEqDiff]
  simp -dsimp -implicitDefEqProofs (disch := omega) only [↓reduceIte, ↓gA, gB, refs, den, hasTy, Ty.cmp, Ty.depth, reduceCtorEq, Nat.reduceAdd, Nat.reduceSub, Nat.reduceMul, Nat.reduceEqDiff, Nat.reduceLT, Nat.reduceLeDiff, Nat.reduceMod, Nat.reduceDiv, Nat.reducePow, Nat.reduceBEq, Int.reduceToNat, Int.reduceLE, Int.reduceLT, Int.reduceEq, Int.reduceAdd, Int.reduceMul, Int.reduceSub, Int.reduceNeg, Int.reduceNe, Tryd.TS, Tryd.EV]
  refine HIf_dec (fun h => ?_) (fun q2 => ?_)
  · simp -dsimp -implicitDefEqProofs (disch := omega) only [↓reduceIte, ↓gA, gB, refs, den, hasTy, Ty.cmp, Ty.depth, reduceCtorEq, Nat.reduceAdd, Nat.reduceSub, Nat.reduceMul, Nat.reduceEqDiff, Nat.reduceLT, Nat.reduceLeDiff, Nat.reduceMod, Nat.reduceDiv, Nat.reducePow, Nat.reduceBEq, Int.reduceToNat, Int.reduceLE, Int.reduceLT, Int.reduceEq, Int.reduceAdd, Int.reduceMul, Int.reduceSub, Int.reduceNeg, Int.reduceNe, Tryd.TS, Tryd.EV]
    rw [if_neg (by omega), if_pos (by omega)]
  simp -dsimp -implicitDefEqProofs (disch := omega) only [↓reduceIte, ↓gA, gB, refs, den, hasTy, Ty.cmp, Ty.depth, reduceCtorEq, Nat.reduceAdd, Nat.reduceSub, Nat.reduceMul, Nat.reduceEqDiff, Nat.reduceLT, Nat.reduceLeDiff, Nat.reduceMod, Nat.reduceDiv, Nat.reducePow, Nat.reduceBEq, Int.reduceToNat, Int.reduceLE, Int.reduceLT, Int.reduceEq, Int.reduceAdd, Int.reduceMul, Int.reduceSub, Int.reduceNeg, Int.reduceNe, Tryd.TS, Tryd.EV]
  refine sunroll Tryd.hT ?_; simp -dsimp -implicitDefEqProofs (disch := omega) only [↓reduceIte, ↓gA, gB, refs, den, hasTy, Ty.cmp, Ty.depth, reduceCtorEq, Nat.reduceAdd, Nat.reduceSub, Nat.reduceMul, Nat.reduceEqDiff, Nat.reduceLT, Nat.reduceLeDiff, Nat.reduceMod, Nat.reduceDiv, Nat.reducePow, Nat.reduceBEq, Int.reduceToNat, Int.reduceLE, Int.reduceLT, Int.reduceEq, Int.reduceAdd, Int.reduceMul, Int.reduceSub, Int.reduceNeg, Int.reduceNe, Tryd.TS, Tryd.EV]
  refine sdraw (id := 4) Tryd.hT (by kernel_rfl) [] [] [0, 1, 2, 3, 4, 5, 6, 7] (by kernel_rfl) (by kernel_rfl) (by kernel_rfl) ?_; simp only [gK, ↓reduceIte, Nat.reduceEqDiff]
  simp -dsimp -implicitDefEqProofs (disch := omega) only [↓reduceIte, ↓gA, gB, refs, den, hasTy, Ty.cmp, Ty.depth, reduceCtorEq, Nat.reduceAdd, Nat.reduceSub, Nat.reduceMul, Nat.reduceEqDiff, Nat.reduceLT, Nat.reduceLeDiff, Nat.reduceMod, Nat.reduceDiv, Nat.reducePow, Nat.reduceBEq, Int.reduceToNat, Int.reduceLE, Int.reduceLT, Int.reduceEq, Int.reduceAdd, Int.reduceMul, Int.reduceSub, Int.reduceNeg, Int.reduceNe, Tryd.TS, Tryd.EV]
  refine HIf_dec (fun h => ?_) (fun p3 => ?_)
  · simp -dsimp -implicitDefEqProofs (disch := omega) only [↓reduceIte, ↓gA, gB, refs, den, hasTy, Ty.cmp, Ty.depth, reduceCtorEq, Nat.reduceAdd, Nat.reduceSub, Nat.reduceMul, Nat.reduceEqDiff, Nat.reduceLT, Nat.reduceLeDiff, Nat.reduceMod, Nat.reduceDiv, Nat.reducePow, Nat.reduceBEq, Int.reduceToNat, Int.reduceLE, Int.reduceLT, Int.reduceEq, Int.reduceAdd, Int.reduceMul, Int.reduceSub, Int.reduceNeg, Int.reduceNe, Tryd.TS, Tryd.EV]
    rw [if_pos (by omega)]
  simp -dsimp -implicitDefEqProofs (disch := omega) only [↓reduceIte, ↓gA, gB, refs, den, hasTy, Ty.cmp, Ty.depth, reduceCtorEq, Nat.reduceAdd, Nat.reduceSub, Nat.reduceMul, Nat.reduceEqDiff, Nat.reduceLT, Nat.reduceLeDiff, Nat.reduceMod, Nat.reduceDiv, Nat.reducePow, Nat.reduceBEq, Int.reduceToNat, Int.reduceLE, Int.reduceLT, Int.reduceEq, Int.reduceAdd, Int.reduceMul, Int.reduceSub, Int.reduceNeg, Int.reduceNe, Tryd.TS, Tryd.EV]
  refine sdraw (id := 6) Tryd.hT (by kernel_rfl) [] [] [0, 1, 2, 3, 4, 5, 6, 7] (by kernel_rfl) (by kernel_rfl) (by kernel_rfl) ?_; simp only [gK, ↓reduceIte, Nat.reduceEqDiff]
  simp -dsimp -implicitDefEqProofs (disch := omega) only [↓reduceIte, ↓gA, gB, refs, den, hasTy, Ty.cmp, Ty.depth, reduceCtorEq, Nat.reduceAdd, Nat.reduceSub, Nat.reduceMul, Nat.reduceEqDiff, Nat.reduceLT, Nat.reduceLeDiff, Nat.reduceMod, Nat.reduceDiv, Nat.reducePow, Nat.reduceBEq, Int.reduceToNat, Int.reduceLE, Int.reduceLT, Int.reduceEq, Int.reduceAdd, Int.reduceMul, Int.reduceSub, Int.reduceNeg, Int.reduceNe, Tryd.TS, Tryd.EV]
  refine HIf_dec (fun h => ?_) (fun q3 => ?_)
  · simp -dsimp -implicitDefEqProofs (disch := omega) only [↓reduceIte, ↓gA, gB, refs, den, hasTy, Ty.cmp, Ty.depth, reduceCtorEq, Nat.reduceAdd, Nat.reduceSub, Nat.reduceMul, Nat.reduceEqDiff, Nat.reduceLT, Nat.reduceLeDiff, Nat.reduceMod, Nat.reduceDiv, Nat.reducePow, Nat.reduceBEq, Int.reduceToNat, Int.reduceLE, Int.reduceLT, Int.reduceEq, Int.reduceAdd, Int.reduceMul, Int.reduceSub, Int.reduceNeg, Int.reduceNe, Tryd.TS, Tryd.EV]
    rw [if_neg (by omega), if_pos (by omega)]
  simp -dsimp -implicitDefEqProofs (disch := omega) only [↓reduceIte, ↓gA, gB, refs, den, hasTy, Ty.cmp, Ty.depth, reduceCtorEq, Nat.reduceAdd, Nat.reduceSub, Nat.reduceMul, Nat.reduceEqDiff, Nat.reduceLT, Nat.reduceLeDiff, Nat.reduceMod, Nat.reduceDiv, Nat.reducePow, Nat.reduceBEq, Int.reduceToNat, Int.reduceLE, Int.reduceLT, Int.reduceEq, Int.reduceAdd, Int.reduceMul, Int.reduceSub, Int.reduceNeg, Int.reduceNe, Tryd.TS, Tryd.EV]
  refine sunroll Tryd.hT ?_; simp -dsimp -implicitDefEqProofs (disch := omega) only [↓reduceIte, ↓gA, gB, refs, den, hasTy, Ty.cmp, Ty.depth, reduceCtorEq, Nat.reduceAdd, Nat.reduceSub, Nat.reduceMul, Nat.reduceEqDiff, Nat.reduceLT, Nat.reduceLeDiff, Nat.reduceMod, Nat.reduceDiv, Nat.reducePow, Nat.reduceBEq, Int.reduceToNat, Int.reduceLE, Int.reduceLT, Int.reduceEq, Int.reduceAdd, Int.reduceMul, Int.reduceSub, Int.reduceNeg, Int.reduceNe, Tryd.TS, Tryd.EV]
  rw [if_neg (by omega), if_neg (by omega)]

set_option maxHeartbeats 400000 in
theorem wcmpRef (m n : Nat) (hm : m < 115792089237316195423570985008687907853269984665640564039457584007913129639936) (hn : n < 115792089237316195423570985008687907853269984665640564039457584007913129639936) :
    SCall Tryd.prog 81 [(.arr 4 (.int .u64), u256 m), (.arr 4 (.int .u64), u256 n)] (fun rs => rs = [.d (.int .i64) (.n (if m < n then -1 else if n < m then 1 else 0))]) := by
  obtain ⟨a0, a1, a2, a3, ha0, ha1, ha2, ha3, em, eu⟩ := u256_open m hm
  obtain ⟨b0, b1, b2, b3, hb0, hb1, hb2, hb3, en, ev⟩ := u256_open n hn
  rw [eu, ev]
  refine scall_intro (n := 24) (rl := [.tmp 4]) (us := [3]) Tryd.hT Tryd.func81 rfl rfl rfl rfl rfl (Nat.le_of_ble_eq_true rfl) ?_
  intro w0 hL0
  simp -dsimp -implicitDefEqProofs (disch := omega) only [↓reduceIte, ↓gA, gB, refs, den, hasTy, Ty.cmp, Ty.depth, reduceCtorEq, Nat.reduceAdd, Nat.reduceSub, Nat.reduceMul, Nat.reduceEqDiff, Nat.reduceLT, Nat.reduceLeDiff, Nat.reduceMod, Nat.reduceDiv, Nat.reducePow, Nat.reduceBEq, Int.reduceToNat, Int.reduceLE, Int.reduceLT, Int.reduceEq, Int.reduceAdd, Int.reduceMul, Int.reduceSub, Int.reduceNeg, Int.reduceNe, Tryd.TS, Tryd.EV]
  refine sunroll Tryd.hT ?_; simp -dsimp -implicitDefEqProofs (disch := omega) only [↓reduceIte, ↓gA, gB, refs, den, hasTy, Ty.cmp, Ty.depth, reduceCtorEq, Nat.reduceAdd, Nat.reduceSub, Nat.reduceMul, Nat.reduceEqDiff, Nat.reduceLT, Nat.reduceLeDiff, Nat.reduceMod, Nat.reduceDiv, Nat.reducePow, Nat.reduceBEq, Int.reduceToNat, Int.reduceLE, Int.reduceLT, Int.reduceEq, Int.reduceAdd, Int.reduceMul, Int.reduceSub, Int.reduceNeg, Int.reduceNe, Tryd.TS, Tryd.EV]
  refine sdraw (id := 4) Tryd.hT (by kernel_rfl) [] [] [0, 1, 2, 3, 4, 5, 6] (by kernel_rfl) (by kernel_rfl) (by kernel_rfl) ?_; simp only [gK, ↓reduceIte, Nat.reduceEqDiff]
  simp -dsimp -implicitDefEqProofs (disch := omega) only [↓reduceIte, ↓gA, gB, refs, den, hasTy, Ty.cmp, Ty.depth, reduceCtorEq, Nat.reduceAdd, Nat.reduceSub, Nat.reduceMul, Nat.reduceEqDiff, Nat.reduceLT, Nat.reduceLeDiff, Nat.reduceMod, Nat.reduceDiv, Nat.reducePow, Nat.reduceBEq, Int.reduceToNat, Int.reduceLE, Int.reduceLT, Int.reduceEq, Int.reduceAdd, Int.reduceMul, Int.reduceSub, Int.reduceNeg, Int.reduceNe, Tryd.TS, Tryd.EV]
  refine HIf_dec (fun h => ?_) (fun p0 => ?_)
  · simp -dsimp -implicitDefEqProofs (disch := omega) only [↓reduceIte, ↓gA, gB, refs, den, hasTy, Ty.cmp, Ty.depth, reduceCtorEq, Nat.reduceAdd, Nat.reduceSub, Nat.reduceMul, Nat.reduceEqDiff, Nat.reduceLT, Nat.reduceLeDiff, Nat.reduceMod, Nat.reduceDiv, Nat.reducePow, Nat.reduceBEq, Int.reduceToNat, Int.reduceLE, Int.reduceLT, Int.reduceEq, Int.reduceAdd, Int.reduceMul, Int.reduceSub, Int.reduceNeg, Int.reduceNe, Tryd.TS, Tryd.EV]
    rw [if_pos (by omega)]
  simp -dsimp -implicitDefEqProofs (disch := omega) only [↓reduceIte, ↓gA, gB, refs, den, hasTy, Ty.cmp, Ty.depth, reduceCtorEq, Nat.reduceAdd, Nat.reduceSub, Nat.reduceMul, Nat.reduceEqDiff, Nat.reduceLT, Nat.reduceLeDiff, Nat.reduceMod, Nat.reduceDiv, Nat.reducePow, Nat.reduceBEq, Int.reduceToNat, Int.reduceLE, Int.reduceLT, Int.reduceEq, Int.reduceAdd, Int.reduceMul, Int.reduceSub, Int.reduceNeg, Int.reduceNe, Tryd.TS, Tryd.EV]
  refine sdraw (id := 6) Tryd.hT (by kernel_rfl) [] [] [0, 1, 2, 3, 4, 5, 6] (by kernel_rfl) (by kernel_rfl) (by kernel_rfl) ?_; simp only [gK, ↓reduceIte, Nat.reduceEqDiff]
  simp -dsimp -implicitDefEqProofs (disch := omega) only [↓reduceIte, ↓gA, gB, refs, den, hasTy, Ty.cmp, Ty.depth, reduceCtorEq, Nat.reduceAdd, Nat.reduceSub, Nat.reduceMul, Nat.reduceEqDiff, Nat.reduceLT, Nat.reduceLeDiff, Nat.reduceMod, Nat.reduceDiv, Nat.reducePow, Nat.reduceBEq, Int.reduceToNat, Int.reduceLE, Int.reduceLT, Int.reduceEq, Int.reduceAdd, Int.reduceMul, Int.reduceSub, Int.reduceNeg, Int.reduceNe, Tryd.TS, Tryd.EV]
  refine HIf_dec (fun h => ?_) (fun q0 => ?_)
  · simp -dsimp -implicitDefEqProofs (disch := omega) only [↓reduceIte, ↓gA, gB, refs, den, hasTy, Ty.cmp, Ty.depth, reduceCtorEq, Nat.reduceAdd, Nat.reduceSub, Nat.reduceMul, Nat.reduceEqDiff, Nat.reduceLT, Nat.reduceLeDiff, Nat.reduceMod, Nat.reduceDiv, Nat.reducePow, Nat.reduceBEq, Int.reduceToNat, Int.reduceLE, Int.reduceLT, Int.reduceEq, Int.reduceAdd, Int.reduceMul, Int.reduceSub, Int.reduceNeg, Int.reduceNe, Tryd.TS, Tryd.EV]
    rw [if_neg (by omega), if_pos (by omega)]
  simp -dsimp -implicitDefEqProofs (disch := omega) only [↓reduceIte, ↓gA, gB, refs, den, hasTy, Ty.cmp, Ty.depth, reduceCtorEq, Nat.reduceAdd, Nat.reduceSub, Nat.reduceMul, Nat.reduceEqDiff, Nat.reduceLT, Nat.reduceLeDiff, Nat.reduceMod, Nat.reduceDiv, Nat.reducePow, Nat.reduceBEq, Int.reduceToNat, Int.reduceLE, Int.reduceLT, Int.reduceEq, Int.reduceAdd, Int.reduceMul, Int.reduceSub, Int.reduceNeg, Int.reduceNe, Tryd.TS, Tryd.EV]
  refine sunroll Tryd.hT ?_; simp -dsimp -implicitDefEqProofs (disch := omega) only [↓reduceIte, ↓gA, gB, refs, den, hasTy, Ty.cmp, Ty.depth, reduceCtorEq, Nat.reduceAdd, Nat.reduceSub, Nat.reduceMul, Nat.reduceEqDiff, Nat.reduceLT, Nat.reduceLeDiff, Nat.reduceMod, Nat.reduceDiv, Nat.reducePow, Nat.reduceBEq, Int.reduceToNat, Int.reduceLE, Int.reduceLT, Int.reduceEq, Int.reduceAdd, Int.reduceMul, Int.reduceSub, Int.reduceNeg, Int.reduceNe, Tryd.TS, Tryd.EV]
  refine sdraw (id := 4) Tryd.hT (by kernel_rfl) [] [] [0, 1, 2, 3, 4, 5, 6] (by kernel_rfl) (by kernel_rfl) (by kernel_rfl) ?_; simp only [gK, ↓reduceIte, Nat.reduceEqDiff]
  simp -dsimp -implicitDefEqProofs (disch := omega) only [↓reduceIte, ↓gA, gB, refs, den, hasTy, Ty.cmp, Ty.depth, reduceCtorEq, Nat.reduceAdd, Nat.reduceSub, Nat.reduceMul, Nat.reduceEqDiff, Nat.reduceLT, Nat.reduceLeDiff, Nat.reduceMod, Nat.reduceDiv, Nat.reducePow, Nat.reduceBEq, Int.reduceToNat, Int.reduceLE, Int.reduceLT, Int.reduceEq, Int.reduceAdd, Int.reduceMul, Int.reduceSub, Int.reduceNeg, Int.reduceNe, Tryd.TS, Tryd.EV]
  refine HIf_dec (fun h => ?_) (fun p1 => ?_)
  · simp -dsimp -implicitDefEqProofs (disch := omega) only [↓reduceIte, ↓gA, gB, refs, den, hasTy, Ty.cmp, Ty.depth, reduceCtorEq, Nat.reduceAdd, Nat.reduceSub, Nat.reduceMul, Nat.reduceEqDiff, Nat.reduceLT, Nat.reduceLeDiff, Nat.reduceMod, Nat.reduceDiv, Nat.reducePow, Nat.reduceBEq, Int.reduceToNat, Int.reduceLE, Int.reduceLT, Int.reduceEq, Int.reduceAdd, Int.reduceMul, Int.reduceSub, Int.reduceNeg, Int.reduceNe, Tryd.TS, Tryd.EV]
    rw [if_pos (by omega)]
  simp -dsimp -implicitDefEqProofs (disch := omega) only [↓reduceIte, ↓gA, gB, refs, den, hasTy, Ty.cmp, Ty.depth, reduceCtorEq, Nat.reduceAdd, Nat.reduceSub, Nat.reduceMul, Nat.reduceEqDiff, Nat.reduceLT, Nat.reduceLeDiff, Nat.reduceMod, Nat.reduceDiv, Nat.reducePow, Nat.reduceBEq, Int.reduceToNat, Int.reduceLE, Int.reduceLT, Int.reduceEq, Int.reduceAdd, Int.reduceMul, Int.reduceSub, Int.reduceNeg, Int.reduceNe, Tryd.TS, Tryd.EV]
  refine sdraw (id := 6) Tryd.hT (by kernel_rfl) [] [] [0, 1, 2, 3, 4, 5, 6] (by kernel_rfl) (by kernel_rfl) (by kernel_rfl) ?_; simp only [gK, ↓reduceIte, Nat.reduceEqDiff]
  simp -dsimp -implicitDefEqProofs (disch := omega) only [↓reduceIte, ↓gA, gB, refs, den, hasTy, Ty.cmp, Ty.depth, reduceCtorEq, Nat.reduceAdd, Nat.reduceSub, Nat.reduceMul, Nat.reduceEqDiff, Nat.reduceLT, Nat.reduceLeDiff, Nat.reduceMod, Nat.reduceDiv, Nat.reducePow, Nat.reduceBEq, Int.reduceToNat, Int.reduceLE, Int.reduceLT, Int.reduceEq, Int.reduceAdd, Int.reduceMul, Int.reduceSub, Int.reduceNeg, Int.reduceNe, Tryd.TS, Tryd.EV]
  refine HIf_dec (fun h => ?_) (fun q1 => ?_)
  · simp -dsimp -implicitDefEqProofs (disch := omega) only [↓reduceIte, ↓gA, gB, refs, den, hasTy, Ty.cmp, Ty.depth, reduceCtorEq, Nat.reduceAdd, Nat.reduceSub, Nat.reduceMul, Nat.reduceEqDiff, Nat.reduceLT, Nat.reduceLeDiff, Nat.reduceMod, Nat.reduceDiv, Nat.reducePow, Nat.reduceBEq, Int.reduceToNat, Int.reduceLE, Int.reduceLT, Int.reduceEq, Int.reduceAdd, Int.reduceMul, Int.reduceSub, Int.reduceNeg, Int.reduceNe, Tryd.TS, Tryd.EV]
    rw [if_neg (by omega), if_pos (by omega)]
  simp -dsimp -implicitDefEqProofs (disch := omega) only [↓reduceIte, ↓gA, gB, refs, den, hasTy, Ty.cmp, Ty.depth, reduceCtorEq, Nat.reduceAdd, Nat.reduceSub, Nat.reduceMul, Nat.reduceEqDiff, Nat.reduceLT, Nat.reduceLeDiff, Nat.reduceMod, Nat.reduceDiv, Nat.reducePow, Nat.reduceBEq, Int.reduceToNat, Int.reduceLE, Int.reduceLT, Int.reduceEq, Int.reduceAdd, Int.reduceMul, Int.reduceSub, Int.reduceNeg, Int.reduceNe, Tryd.TS, Tryd.EV]
  refine sunroll Tryd.hT ?_; simp -dsimp -implicitDefEqProofs (disch := omega) only [↓reduceIte, ↓gA, gB, refs, den, hasTy, Ty.cmp, Ty.depth, reduceCtorEq, Nat.reduceAdd, Nat.reduceSub, Nat.reduceMul, Nat.reduceEqDiff, Nat.reduceLT, Nat.reduceLeDiff, Nat.reduceMod, Nat.reduceDiv, Nat.reducePow, Nat.reduceBEq, Int.reduceToNat, Int.reduceLE, Int.reduceLT, Int.reduceEq, Int.reduceAdd, Int.reduceMul, Int.reduceSub, Int.reduceNeg, Int.reduceNe, Tryd.TS, Tryd.EV]
  refine sdraw (id := 4) Tryd.hT (by kernel_rfl) [] [] [0, 1, 2, 3, 4, 5, 6] (by kernel_rfl) (by kernel_rfl) (by kernel_rfl) ?_; simp only [gK, ↓reduceIte, Nat.reduceEqDiff]
  simp -dsimp -implicitDefEqProofs (disch := omega) only [↓reduceIte, ↓gA, gB, refs, den, hasTy, Ty.cmp, Ty.depth, reduceCtorEq, Nat.reduceAdd, Nat.reduceSub, Nat.reduceMul, Nat.reduceEqDiff, Nat.reduceLT, Nat.reduceLeDiff, Nat.reduceMod, Nat.reduceDiv, Nat.reducePow, Nat.reduceBEq, Int.reduceToNat, Int.reduceLE, Int.reduceLT, Int.reduceEq, Int.reduceAdd, Int.reduceMul, Int.reduceSub, Int.reduceNeg, Int.reduceNe, Tryd.TS, Tryd.EV]
  refine HIf_dec (fun h => ?_) (fun p2 => ?_)
  · simp -dsimp -implicitDefEqProofs (disch := omega) only [↓reduceIte, ↓gA, gB, refs, den, hasTy, Ty.cmp, Ty.depth, reduceCtorEq, Nat.reduceAdd, Nat.reduceSub, Nat.reduceMul, Nat.reduceEqDiff, Nat.reduceLT, Nat.reduceLeDiff, Nat.reduceMod, Nat.reduceDiv, Nat.reducePow, Nat.reduceBEq, Int.reduceToNat, Int.reduceLE, Int.reduceLT, Int.reduceEq, Int.reduceAdd, Int.reduceMul, Int.reduceSub, Int.reduceNeg, Int.reduceNe, Tryd.TS, Tryd.EV]
    rw [if_pos (by omega)]
  simp -dsimp -implicitDefEqProofs (disch := omega) only [↓reduceIte, ↓gA, gB, refs, den, hasTy, Ty.cmp, Ty.depth, reduceCtorEq, Nat.reduceAdd, Nat.reduceSub, Nat.reduceMul, Nat.reduceEqDiff, Nat.reduceLT, Nat.reduceLeDiff, Nat.reduceMod, Nat.reduceDiv, Nat.reducePow, Nat.reduceBEq, Int.reduceToNat, Int.reduceLE, Int.reduceLT, Int.reduceEq, Int.reduceAdd, Int.reduceMul, Int.reduceSub, Int.reduceNeg, Int.reduceNe, Tryd.TS, Tryd.EV]
  refine sdraw (id := 6) Tryd.hT (by kernel_rfl) [] [] [0, 1, 2, 3, 4, 5, 6] (by kernel_rfl) (by kernel_rfl) (by kernel_rfl) ?_; simp only [gK, ↓reduceIte, Nat.reduceEqDiff]
  simp -dsimp -implicitDefEqProofs (disch := omega) only [↓reduceIte, ↓gA, gB, refs, den, hasTy, Ty.cmp, Ty.depth, reduceCtorEq, Nat.reduceAdd, Nat.reduceSub, Nat.reduceMul, Nat.reduceEqDiff, Nat.reduceLT, Nat.reduceLeDiff, Nat.reduceMod, Nat.reduceDiv, Nat.reducePow, Nat.reduceBEq, Int.reduceToNat, Int.reduceLE, Int.reduceLT, Int.reduceEq, Int.reduceAdd, Int.reduceMul, Int.reduceSub, Int.reduceNeg, Int.reduceNe, Tryd.TS, Tryd.EV]
  refine HIf_dec (fun h => ?_) (fun q2 => ?_)
  · simp -dsimp -implicitDefEqProofs (disch := omega) only [↓reduceIte, ↓gA, gB, refs, den, hasTy, Ty.cmp, Ty.depth, reduceCtorEq, Nat.reduceAdd, Nat.reduceSub, Nat.reduceMul, Nat.reduceEqDiff, Nat.reduceLT, Nat.reduceLeDiff, Nat.reduceMod, Nat.reduceDiv, Nat.reducePow, Nat.reduceBEq, Int.reduceToNat, Int.reduceLE, Int.reduceLT, Int.reduceEq, Int.reduceAdd, Int.reduceMul, Int.reduceSub, Int.reduceNeg, Int.reduceNe, Tryd.TS, Tryd.EV]
    rw [if_neg (by omega), if_pos (by omega)]
  simp -dsimp -implicitDefEqProofs (disch := omega) only [↓reduceIte, ↓gA, gB, refs, den, hasTy, Ty.cmp, Ty.depth, reduceCtorEq, Nat.reduceAdd, Nat.reduceSub, Nat.reduceMul, Nat.reduceEqDiff, Nat.reduceLT, Nat.reduceLeDiff, Nat.reduceMod, Nat.reduceDiv, Nat.reducePow, Nat.reduceBEq, Int.reduceToNat, Int.reduceLE, Int.reduceLT, Int.reduceEq, Int.reduceAdd, Int.reduceMul, Int.reduceSub, Int.reduceNeg, Int.reduceNe, Tryd.TS, Tryd.EV]
  refine sunroll Tryd.hT ?_; simp -dsimp -implicitDefEqProofs (disch := omega) only [↓reduceIte, ↓gA, gB, refs, den, hasTy, Ty.cmp, Ty.depth, reduceCtorEq, Nat.reduceAdd, Nat.reduceSub, Nat.reduceMul, Nat.reduceEqDiff, Nat.reduceLT, Nat.reduceLeDiff, Nat.reduceMod, Nat.reduceDiv, Nat.reducePow, Nat.reduceBEq, Int.reduceToNat, Int.reduceLE, Int.reduceLT, Int.reduceEq, Int.reduceAdd, Int.reduceMul, Int.reduceSub, Int.reduceNeg, Int.reduceNe, Tryd.TS, Tryd.EV]
  refine sdraw (id := 4) Tryd.hT (by kernel_rfl) [] [] [0, 1, 2, 3, 4, 5, 6] (by kernel_rfl) (by kernel_rfl) (by kernel_rfl) ?_; simp only [gK, ↓reduceIte, Nat.reduceEqDiff]
  simp -dsimp -implicitDefEqProofs (disch := omega) only [↓reduceIte, ↓gA, gB, refs, den, hasTy, Ty.cmp, Ty.depth, reduceCtorEq, Nat.reduceAdd, Nat.reduceSub, Nat.reduceMul, Nat.reduceEqDiff, Nat.reduceLT, Nat.reduceLeDiff, Nat.reduceMod, Nat.reduceDiv, Nat.reducePow, Nat.reduceBEq, Int.reduceToNat, Int.reduceLE, Int.reduceLT, Int.reduceEq, Int.reduceAdd, Int.reduceMul, Int.reduceSub, Int.reduceNeg, Int.reduceNe, Tryd.TS, Tryd.EV]
  refine HIf_dec (fun h => ?_) (fun p3 => ?_)
  · simp -dsimp -implicitDefEqProofs (disch := omega) only [↓reduceIte, ↓gA, gB, refs, den, hasTy, Ty.cmp, Ty.depth, reduceCtorEq, Nat.reduceAdd, Nat.reduceSub, Nat.reduceMul, Nat.reduceEqDiff, Nat.reduceLT, Nat.reduceLeDiff, Nat.reduceMod, Nat.reduceDiv, Nat.reducePow, Nat.reduceBEq, Int.reduceToNat, Int.reduceLE, Int.reduceLT, Int.reduceEq, Int.reduceAdd, Int.reduceMul, Int.reduceSub, Int.reduceNeg, Int.reduceNe, Tryd.TS, Tryd.EV]
    rw [if_pos (by omega)]
  simp -dsimp -implicitDefEqProofs (disch := omega) only [↓reduceIte, ↓gA, gB, refs, den, hasTy, Ty.cmp, Ty.depth, reduceCtorEq, Nat.reduceAdd, Nat.reduceSub, Nat.reduceMul, Nat.reduceEqDiff, Nat.reduceLT, Nat.reduceLeDiff, Nat.reduceMod, Nat.reduceDiv, Nat.reducePow, Nat.reduceBEq, Int.reduceToNat, Int.reduceLE, Int.reduceLT, Int.reduceEq, Int.reduceAdd, Int.reduceMul, Int.reduceSub, Int.reduceNeg, Int.reduceNe, Tryd.TS, Tryd.EV]
  refine sdraw (id := 6) Tryd.hT (by kernel_rfl) [] [] [0, 1, 2, 3, 4, 5, 6] (by kernel_rfl) (by kernel_rfl) (by kernel_rfl) ?_; simp only [gK, ↓reduceIte, Nat.reduceEqDiff]
  simp -dsimp -implicitDefEqProofs (disch := omega) only [↓reduceIte, ↓gA, gB, refs, den, hasTy, Ty.cmp, Ty.depth, reduceCtorEq, Nat.reduceAdd, Nat.reduceSub, Nat.reduceMul, Nat.reduceEqDiff, Nat.reduceLT, Nat.reduceLeDiff, Nat.reduceMod, Nat.reduceDiv, Nat.reducePow, Nat.reduceBEq, Int.reduceToNat, Int.reduceLE, Int.reduceLT, Int.reduceEq, Int.reduceAdd, Int.reduceMul, Int.reduceSub, Int.reduceNeg, Int.reduceNe, Tryd.TS, Tryd.EV]
  refine HIf_dec (fun h => ?_) (fun q3 => ?_)
  · simp -dsimp -implicitDefEqProofs (disch := omega) only [↓reduceIte, ↓gA, gB, refs, den, hasTy, Ty.cmp, Ty.depth, reduceCtorEq, Nat.reduceAdd, Nat.reduceSub, Nat.reduceMul, Nat.reduceEqDiff, Nat.reduceLT, Nat.reduceLeDiff, Nat.reduceMod, Nat.reduceDiv, Nat.reducePow, Nat.reduceBEq, Int.reduceToNat, Int.reduceLE, Int.reduceLT, Int.reduceEq, Int.reduceAdd, Int.reduceMul, Int.reduceSub, Int.reduceNeg, Int.reduceNe, Tryd.TS, Tryd.EV]
    rw [if_neg (by omega), if_pos (by omega)]
  simp -dsimp -implicitDefEqProofs (disch := omega) only [↓reduceIte, ↓gA, gB, refs, den, hasTy, Ty.cmp, Ty.depth, reduceCtorEq, Nat.reduceAdd, Nat.reduceSub, Nat.reduceMul, Nat.reduceEqDiff, Nat.reduceLT, Nat.reduceLeDiff, Nat.reduceMod, Nat.reduceDiv, Nat.reducePow, Nat.reduceBEq, Int.reduceToNat, Int.reduceLE, Int.reduceLT, Int.reduceEq, Int.reduceAdd, Int.reduceMul, Int.reduceSub, Int.reduceNeg, Int.reduceNe, Tryd.TS, Tryd.EV]
  refine sunroll Tryd.hT ?_; simp -dsimp -implicitDefEqProofs (disch := omega) only [↓reduceIte, ↓gA, gB, refs, den, hasTy, Ty.cmp, Ty.depth, reduceCtorEq, Nat.reduceAdd, Nat.reduceSub, Nat.reduceMul, Nat.reduceEqDiff, Nat.reduceLT, Nat.reduceLeDiff, Nat.reduceMod, Nat.reduceDiv, Nat.reducePow, Nat.reduceBEq, Int.reduceToNat, Int.reduceLE, Int.reduceLT, Int.reduceEq, Int.reduceAdd, Int.reduceMul, Int.reduceSub, Int.reduceNeg, Int.reduceNe, Tryd.TS, Tryd.EV]
  rw [if_neg (by omega), if_neg (by omega)]
end Go.Proofs
/- Numbers of 256 bits: sums, differences, comparisons. -/
namespace Go.Proofs
open Go.SE

theorem u64_not {n : Nat} (h : n < 18446744073709551616) : bits .xor .u64 (if IntKind.u64.signed = true then -1 else IntKind.u64.max) (n : Int) = ((18446744073709551616 - 1 - n : Nat) : Int) := by
  have e : (if IntKind.u64.signed = true then (-1 : Int) else IntKind.u64.max) = ((2 ^ 64 - 1 : Nat) : Int) := by decide
  rw [e, u64_xor_nat _ _ (by decide) h]
  congr 1
  apply Nat.eq_of_testBit_eq
  intro i
  rw [Nat.testBit_xor, Nat.testBit_two_pow_sub_one, show 18446744073709551616 - 1 - n = 2 ^ 64 - (n + 1) by omega, Nat.testBit_two_pow_sub_succ (show n < 2 ^ 64 by omega)]
  by_cases hi : i < 64
  · simp [hi]
  · simp only [hi, decide_false, Bool.false_bne, Bool.false_and]
    exact Nat.testBit_lt_two_pow (Nat.lt_of_lt_of_le h (show 18446744073709551616 ≤ 2 ^ i from Nat.le_trans (show 18446744073709551616 ≤ 2 ^ 64 by decide) (Nat.pow_le_pow_right (by omega) (by omega))))

set_option maxHeartbeats 400000 in
theorem wnot (m : Nat) (hm : m < 115792089237316195423570985008687907853269984665640564039457584007913129639936) : SCall Tryd.prog 112 [(.arr 4 (.int .u64), u256 m)] (fun rs => rs = [.d (.arr 4 (.int .u64)) (u256 (115792089237316195423570985008687907853269984665640564039457584007913129639936 - 1 - m))]) := by
  obtain ⟨a0, a1, a2, a3, ha0, ha1, ha2, ha3, em, eu⟩ := u256_open m hm
  rw [eu]
  refine scall_intro (n := 15) (rl := [.cell 2 45]) (us := [45]) Tryd.hT Tryd.func112 rfl rfl rfl rfl rfl (Nat.le_of_ble_eq_true rfl) ?_
  intro w0 hL0
  simp -dsimp -implicitDefEqProofs (disch := omega) only [↓reduceIte, ↓gA, gB, refs, den, hasTy, Ty.cmp, Ty.depth, reduceCtorEq, Nat.reduceAdd, Nat.reduceSub, Nat.reduceMul, Nat.reduceEqDiff, Nat.reduceLT, Nat.reduceLeDiff, Nat.reduceMod, Nat.reduceDiv, Nat.reducePow, Nat.reduceBEq, Int.reduceToNat, Int.reduceLE, Int.reduceLT, Int.reduceEq, Int.reduceAdd, Int.reduceMul, Int.reduceSub, Int.reduceNeg, Int.reduceNe, Tryd.TS, Tryd.EV, rep4]
  refine sunroll Tryd.hT ?_; simp -dsimp -implicitDefEqProofs (disch := omega) only [↓reduceIte, ↓gA, gB, refs, den, hasTy, Ty.cmp, Ty.depth, reduceCtorEq, Nat.reduceAdd, Nat.reduceSub, Nat.reduceMul, Nat.reduceEqDiff, Nat.reduceLT, Nat.reduceLeDiff, Nat.reduceMod, Nat.reduceDiv, Nat.reducePow, Nat.reduceBEq, Int.reduceToNat, Int.reduceLE, Int.reduceLT, Int.reduceEq, Int.reduceAdd, Int.reduceMul, Int.reduceSub, Int.reduceNeg, Int.reduceNe, Tryd.TS, Tryd.EV, rep4]
  refine sunroll Tryd.hT ?_; simp -dsimp -implicitDefEqProofs (disch := omega) only [↓reduceIte, ↓gA, gB, refs, den, hasTy, Ty.cmp, Ty.depth, reduceCtorEq, Nat.reduceAdd, Nat.reduceSub, Nat.reduceMul, Nat.reduceEqDiff, Nat.reduceLT, Nat.reduceLeDiff, Nat.reduceMod, Nat.reduceDiv, Nat.reducePow, Nat.reduceBEq, Int.reduceToNat, Int.reduceLE, Int.reduceLT, Int.reduceEq, Int.reduceAdd, Int.reduceMul, Int.reduceSub, Int.reduceNeg, Int.reduceNe, Tryd.TS, Tryd.EV, rep4]
  refine sunroll Tryd.hT ?_; simp -dsimp -implicitDefEqProofs (disch := omega) only [↓reduceIte, ↓gA, gB, refs, den, hasTy, Ty.cmp, Ty.depth, reduceCtorEq, Nat.reduceAdd, Nat.reduceSub, Nat.reduceMul, Nat.reduceEqDiff, Nat.reduceLT, Nat.reduceLeDiff, Nat.reduceMod, Nat.reduceDiv, Nat.reducePow, Nat.reduceBEq, Int.reduceToNat, Int.reduceLE, Int.reduceLT, Int.reduceEq, Int.reduceAdd, Int.reduceMul, Int.reduceSub, Int.reduceNeg, Int.reduceNe, Tryd.TS, Tryd.EV, rep4]
  refine sunroll Tryd.hT ?_; simp -dsimp -implicitDefEqProofs (disch := omega) only [↓reduceIte, ↓gA, gB, refs, den, hasTy, Ty.cmp, Ty.depth, reduceCtorEq, Nat.reduceAdd, Nat.reduceSub, Nat.reduceMul, Nat.reduceEqDiff, Nat.reduceLT, Nat.reduceLeDiff, Nat.reduceMod, Nat.reduceDiv, Nat.reducePow, Nat.reduceBEq, Int.reduceToNat, Int.reduceLE, Int.reduceLT, Int.reduceEq, Int.reduceAdd, Int.reduceMul, Int.reduceSub, Int.reduceNeg, Int.reduceNe, Tryd.TS, Tryd.EV, rep4]
  refine sunroll Tryd.hT ?_; simp -dsimp -implicitDefEqProofs (disch := omega) only [↓reduceIte, ↓gA, gB, refs, den, hasTy, Ty.cmp, Ty.depth, reduceCtorEq, Nat.reduceAdd, Nat.reduceSub, Nat.reduceMul, Nat.reduceEqDiff, Nat.reduceLT, Nat.reduceLeDiff, Nat.reduceMod, Nat.reduceDiv, Nat.reducePow, Nat.reduceBEq, Int.reduceToNat, Int.reduceLE, Int.reduceLT, Int.reduceEq, Int.reduceAdd, Int.reduceMul, Int.reduceSub, Int.reduceNeg, Int.reduceNe, Tryd.TS, Tryd.EV, rep4]
  rw [u64_not ha0, u64_not ha1, u64_not ha2, u64_not ha3, u256_mk (n := 115792089237316195423570985008687907853269984665640564039457584007913129639936 - 1 - m) (by omega) (by omega) (by omega) (by omega) (by omega)]

theorem u256_zero : D.l [D.n 0, D.n 0, D.n 0, D.n 0] = u256 0 := rfl

set_option maxHeartbeats 400000 in
theorem wzeroRef (m : Nat) (hm : m < 115792089237316195423570985008687907853269984665640564039457584007913129639936) : SCall Tryd.prog 66 [(.arr 4 (.int .u64), u256 m)] (fun rs => rs = [.d .bool (.b (decide (m = 0)))]) := by
  refine scall_intro (n := 6) (rl := [.tmp 2]) (us := [4]) Tryd.hT Tryd.func66 rfl rfl rfl rfl rfl (Nat.le_of_ble_eq_true rfl) ?_
  intro w0 hL0
  simp -dsimp -implicitDefEqProofs (disch := omega) only [↓reduceIte, ↓gA, gB, refs, den, hasTy, Ty.cmp, Ty.depth, reduceCtorEq, Nat.reduceAdd, Nat.reduceSub, Nat.reduceMul, Nat.reduceEqDiff, Nat.reduceLT, Nat.reduceLeDiff, Nat.reduceMod, Nat.reduceDiv, Nat.reducePow, Nat.reduceBEq, Int.reduceToNat, Int.reduceLE, Int.reduceLT, Int.reduceEq, Int.reduceAdd, Int.reduceMul, Int.reduceSub, Int.reduceNeg, Int.reduceNe, Tryd.TS, Tryd.EV, rep4]
  rw [u256_zero, u256_inj hm (by omega)]
end Go.Proofs
/- math/bits: products and lengths. -/
namespace Go.Proofs
open Go.SE

theorem maskN (a : Nat) (ha : a < 18446744073709551616) : bits .and .u64 (a : Int) 4294967295 = ((a % 4294967296 : Nat) : Int) := by
  have h := bits_and_u64_nat a 4294967295 ha (by omega)
  have e : a &&& 4294967295 = a % 4294967296 := Nat.and_two_pow_sub_one_eq_mod a 32
  rw [e] at h
  exact h
theorem mulN (a b : Nat) : (a : Int) * (b : Int) = ((a * b : Nat) : Int) := (Int.natCast_mul a b).symm
theorem addN (a b : Nat) : (a : Int) + (b : Int) = ((a + b : Nat) : Int) := (Int.natCast_add a b).symm
theorem wrapN (a : Nat) (ha : a < 18446744073709551616) : IntKind.u64.wrap (a : Int) = (a : Int) := IntWalk.u64_in _ (by omega)
theorem wrapM (a : Nat) : IntKind.u64.wrap (a : Int) = ((a % 18446744073709551616 : Nat) : Int) := by rw [IntKind.wrap_u64]; omega
theorem shrN {a k : Nat} (hk : k ≤ 64) : (a : Int).fdiv (2 ^ min k IntKind.u64.bits) = ((a / 2 ^ k : Nat) : Int) := by
  rw [Int.fdiv_eq_ediv_of_nonneg _ (Int.pow_nonneg (by decide)), show min k IntKind.u64.bits = k from Nat.min_eq_left hk]
  norm_cast
theorem shr32 {a : Nat} : (a : Int).fdiv (2 ^ min 32 IntKind.u64.bits) = ((a / 4294967296 : Nat) : Int) := shrN (by omega)
theorem shr16 {a : Nat} : (a : Int).fdiv (2 ^ min 16 IntKind.u64.bits) = ((a / 65536 : Nat) : Int) := shrN (by omega)
theorem shr8 {a : Nat} : (a : Int).fdiv (2 ^ min 8 IntKind.u64.bits) = ((a / 256 : Nat) : Int) := shrN (by omega)

set_option maxHeartbeats 1000000 in
theorem mul64 (x y : Nat) (hx : x < 18446744073709551616) (hy : y < 18446744073709551616) {K : List RV → Prop} (h : ∀ s d : Nat, s + 18446744073709551616 * d = x * y → s < 18446744073709551616 → d < 18446744073709551616 → K [.d (.int .u64) (.n d), .d (.int .u64) (.n s)]) :
    SCall Tryd.prog 113 [(.int .u64, .n x), (.int .u64, .n y)] K := by
  obtain ⟨bd, bt, bw, hhi⟩ := Lib.mul64_hi x y hx hy
  have ba := Lib.half_mul_le (a := x / 4294967296) (b := y / 4294967296) (by omega) (by omega)
  have bb := Lib.half_mul_le (a := x / 4294967296) (b := y % 4294967296) (by omega) (by omega)
  have bc := Lib.half_mul_le (a := x % 4294967296) (b := y / 4294967296) (by omega) (by omega)
  have ba' : x / 4294967296 * (y / 4294967296) < 18446744073709551616 := by omega
  have bb' : x / 4294967296 * (y % 4294967296) < 18446744073709551616 := by omega
  have bc' : x % 4294967296 * (y / 4294967296) < 18446744073709551616 := by omega
  have bh1 : x / 4294967296 * (y / 4294967296) + (x / 4294967296 * (y % 4294967296) + x % 4294967296 * (y % 4294967296) / 4294967296) / 4294967296 < 18446744073709551616 := by omega
  have bh : x / 4294967296 * (y / 4294967296) + (x / 4294967296 * (y % 4294967296) + x % 4294967296 * (y % 4294967296) / 4294967296) / 4294967296 + ((x / 4294967296 * (y % 4294967296) + x % 4294967296 * (y % 4294967296) / 4294967296) % 4294967296 + x % 4294967296 * (y / 4294967296)) / 4294967296 < 18446744073709551616 := by omega
  refine scall_intro (n := 51) (rl := [.tmp 4, .tmp 5]) (us := [43, 43]) Tryd.hT Tryd.func113 rfl rfl rfl rfl rfl (Nat.le_of_ble_eq_true rfl) ?_
  intro w0 hL0
  simp -dsimp -implicitDefEqProofs (disch := omega) only [↓reduceIte, ↓gA, gB, refs, den, hasTy, Ty.cmp, Ty.depth, reduceCtorEq, Nat.reduceAdd, Nat.reduceSub, Nat.reduceMul, Nat.reduceEqDiff, Nat.reduceLT, Nat.reduceLeDiff, Nat.reduceMod, Nat.reduceDiv, Nat.reducePow, Nat.reduceBEq, Int.reduceToNat, Int.reduceLE, Int.reduceLT, Int.reduceEq, Int.reduceAdd, Int.reduceMul, Int.reduceSub, Int.reduceNeg, Int.reduceNe, Tryd.TS, Tryd.EV]
  simp only [maskN x hx, maskN y hy, shr32, mulN, addN, wrapN _ bd, wrapN _ bb', wrapN _ bt, maskN _ bt, wrapN _ bc', wrapN _ bw, wrapN _ ba', wrapN _ bh1, wrapN _ bh, wrapM (x * y)]
  rw [hhi]
  have hlt : x * y < 18446744073709551616 * 18446744073709551616 := Nat.mul_lt_mul'' hx hy
  exact h _ _ (Nat.mod_add_div _ _) (Nat.mod_lt _ (by omega)) (Nat.div_lt_of_lt_mul hlt)

/-- How many bits a number takes. -/
def bl (x : Nat) : Nat := if x = 0 then 0 else x.log2 + 1
theorem bl_iff {x k : Nat} : bl x = k + 1 ↔ 2 ^ k ≤ x ∧ x < 2 ^ (k + 1) := by
  unfold bl
  by_cases h : x = 0
  · subst h
    have := Nat.two_pow_pos k
    simp
  · rw [if_neg h, Nat.add_right_cancel_iff, Nat.log2_eq_iff h]
theorem bl_zero {x : Nat} : bl x = 0 ↔ x = 0 := by
  unfold bl; split <;> simp_all
theorem bl_div {x : Nat} (s : Nat) (h : 2 ^ s ≤ x) : bl x = s + bl (x / 2 ^ s) := by
  have hp := Nat.two_pow_pos s
  cases e : bl (x / 2 ^ s) with
  | zero =>
    rw [bl_zero] at e
    have := Nat.div_pos h hp
    omega
  | succ k =>
    rw [bl_iff] at e
    rw [show s + (k + 1) = (s + k) + 1 by omega, bl_iff]
    have h1 := (Nat.le_div_iff_mul_le hp).1 e.1
    have h2 := (Nat.div_lt_iff_lt_mul hp).1 e.2
    rw [← Nat.pow_add] at h1 h2
    exact ⟨by rw [Nat.add_comm]; exact h1, by rw [show s + k + 1 = k + 1 + s by omega]; exact h2⟩
theorem bl32 (x : Nat) (h : 4294967296 ≤ x) : bl x = 32 + bl (x / 4294967296) := bl_div 32 h
theorem bl16 (x : Nat) (h : 65536 ≤ x) : bl x = 16 + bl (x / 65536) := bl_div 16 h
theorem bl8 (x : Nat) (h : 256 ≤ x) : bl x = 8 + bl (x / 256) := bl_div 8 h
theorem bl_lt {x : Nat} : x < 2 ^ bl x := by
  cases e : bl x with
  | zero => rw [bl_zero] at e; subst e; decide
  | succ k => exact (bl_iff.1 e).2
theorem bl_le {x k : Nat} (h : x < 2 ^ k) : bl x ≤ k := by
  cases e : bl x with
  | zero => omega
  | succ j =>
    have := (bl_iff.1 e).1
    have : 2 ^ j < 2 ^ k := Nat.lt_of_le_of_lt this h
    have := (Nat.pow_lt_pow_iff_right (by omega : 1 < 2)).1 this
    omega

theorem tab_done {L : List UInt8} {x y : Nat} {a : Int} (hl : L.length = 256) (ht : (List.range 256).all (fun i => (L.getD i 0).toNat == bl i) = true) (hx : x < 256) (h0 : 0 ≤ a) (ha : a ≤ 56) (hy : a + bl x = y) :
    0 ≤ (x : Int) ∧ (x : Int) < ((⟨L.toArray⟩ : ByteArray).size : Int) ∧ [RV.d (.int .i64) (.n (IntKind.i64.wrap (a + IntKind.i64.wrap ((L.getD x 0).toNat : Int))))] = [RV.d (.int .i64) (.n (y : Int))] := by
  have hs : (⟨L.toArray⟩ : ByteArray).size = 256 := by rw [← hl]; rfl
  have h1 := List.all_eq_true.1 ht x (List.mem_range.2 hx)
  rw [beq_iff_eq] at h1
  have h2 : bl x ≤ 8 := bl_le (by omega)
  rw [h1, hs, IntWalk.i64_in ((bl x : Nat) : Int) (by omega), IntWalk.i64_in _ (by omega), hy]
  exact ⟨by omega, by omega, rfl⟩

set_option maxHeartbeats 1000000 in
theorem len64 (x : Nat) (hx : x < 18446744073709551616) : SCall Tryd.prog 114 [(.int .u64, .n x)] (fun rs => rs = [.d (.int .i64) (.n (bl x))]) := by
  refine scall_intro (n := 25) (rl := [.tmp 2]) (us := [3]) Tryd.hT Tryd.func114 rfl rfl rfl rfl rfl (Nat.le_of_ble_eq_true rfl) ?_
  intro w0 hL0
  simp -dsimp -implicitDefEqProofs (disch := omega) only [↓reduceIte, ↓gA, gB, refs, den, hasTy, Ty.cmp, Ty.depth, reduceCtorEq, Nat.reduceAdd, Nat.reduceSub, Nat.reduceMul, Nat.reduceEqDiff, Nat.reduceLT, Nat.reduceLeDiff, Nat.reduceMod, Nat.reduceDiv, Nat.reducePow, Nat.reduceBEq, Int.reduceToNat, Int.reduceLE, Int.reduceLT, Int.reduceEq, Int.reduceAdd, Int.reduceMul, Int.reduceSub, Int.reduceNeg, Int.reduceNe, Tryd.TS, Tryd.EV]
  refine HIf_dec (fun h1 => ?_) (fun h1 => ?_)
  · simp -dsimp -implicitDefEqProofs (disch := omega) only [↓reduceIte, ↓gA, gB, refs, den, hasTy, Ty.cmp, Ty.depth, reduceCtorEq, Nat.reduceAdd, Nat.reduceSub, Nat.reduceMul, Nat.reduceEqDiff, Nat.reduceLT, Nat.reduceLeDiff, Nat.reduceMod, Nat.reduceDiv, Nat.reducePow, Nat.reduceBEq, Int.reduceToNat, Int.reduceLE, Int.reduceLT, Int.reduceEq, Int.reduceAdd, Int.reduceMul, Int.reduceSub, Int.reduceNeg, Int.reduceNe, Tryd.TS, Tryd.EV, shr32]
    refine HIf_dec (fun h2 => ?_) (fun h2 => ?_)
    · simp -dsimp -implicitDefEqProofs (disch := omega) only [↓reduceIte, ↓gA, gB, refs, den, hasTy, Ty.cmp, Ty.depth, reduceCtorEq, Nat.reduceAdd, Nat.reduceSub, Nat.reduceMul, Nat.reduceEqDiff, Nat.reduceLT, Nat.reduceLeDiff, Nat.reduceMod, Nat.reduceDiv, Nat.reducePow, Nat.reduceBEq, Int.reduceToNat, Int.reduceLE, Int.reduceLT, Int.reduceEq, Int.reduceAdd, Int.reduceMul, Int.reduceSub, Int.reduceNeg, Int.reduceNe, Tryd.TS, Tryd.EV, shr16]
      refine HIf_dec (fun h3 => ?_) (fun h3 => ?_)
      · simp -dsimp -implicitDefEqProofs (disch := omega) only [↓reduceIte, ↓gA, gB, refs, den, hasTy, Ty.cmp, Ty.depth, reduceCtorEq, Nat.reduceAdd, Nat.reduceSub, Nat.reduceMul, Nat.reduceEqDiff, Nat.reduceLT, Nat.reduceLeDiff, Nat.reduceMod, Nat.reduceDiv, Nat.reducePow, Nat.reduceBEq, Int.reduceToNat, Int.reduceLE, Int.reduceLT, Int.reduceEq, Int.reduceAdd, Int.reduceMul, Int.reduceSub, Int.reduceNeg, Int.reduceNe, Tryd.TS, Tryd.EV, shr8]
        refine tab_done (by decide +kernel) (by decide +kernel) (by omega) (by omega) (by omega) ?_
        rw [bl32 x (by omega), bl16 (x / 4294967296) (by omega), bl8 (x / 4294967296 / 65536) (by omega)]
        omega
      · simp -dsimp -implicitDefEqProofs (disch := omega) only [↓reduceIte, ↓gA, gB, refs, den, hasTy, Ty.cmp, Ty.depth, reduceCtorEq, Nat.reduceAdd, Nat.reduceSub, Nat.reduceMul, Nat.reduceEqDiff, Nat.reduceLT, Nat.reduceLeDiff, Nat.reduceMod, Nat.reduceDiv, Nat.reducePow, Nat.reduceBEq, Int.reduceToNat, Int.reduceLE, Int.reduceLT, Int.reduceEq, Int.reduceAdd, Int.reduceMul, Int.reduceSub, Int.reduceNeg, Int.reduceNe, Tryd.TS, Tryd.EV]
        refine tab_done (by decide +kernel) (by decide +kernel) (by omega) (by omega) (by omega) ?_
        rw [bl32 x (by omega), bl16 (x / 4294967296) (by omega)]
        omega
    · simp -dsimp -implicitDefEqProofs (disch := omega) only [↓reduceIte, ↓gA, gB, refs, den, hasTy, Ty.cmp, Ty.depth, reduceCtorEq, Nat.reduceAdd, Nat.reduceSub, Nat.reduceMul, Nat.reduceEqDiff, Nat.reduceLT, Nat.reduceLeDiff, Nat.reduceMod, Nat.reduceDiv, Nat.reducePow, Nat.reduceBEq, Int.reduceToNat, Int.reduceLE, Int.reduceLT, Int.reduceEq, Int.reduceAdd, Int.reduceMul, Int.reduceSub, Int.reduceNeg, Int.reduceNe, Tryd.TS, Tryd.EV]
      refine HIf_dec (fun h3 => ?_) (fun h3 => ?_)
      · simp -dsimp -implicitDefEqProofs (disch := omega) only [↓reduceIte, ↓gA, gB, refs, den, hasTy, Ty.cmp, Ty.depth, reduceCtorEq, Nat.reduceAdd, Nat.reduceSub, Nat.reduceMul, Nat.reduceEqDiff, Nat.reduceLT, Nat.reduceLeDiff, Nat.reduceMod, Nat.reduceDiv, Nat.reducePow, Nat.reduceBEq, Int.reduceToNat, Int.reduceLE, Int.reduceLT, Int.reduceEq, Int.reduceAdd, Int.reduceMul, Int.reduceSub, Int.reduceNeg, Int.reduceNe, Tryd.TS, Tryd.EV, shr8]
        refine tab_done (by decide +kernel) (by decide +kernel) (by omega) (by omega) (by omega) ?_
        rw [bl32 x (by omega), bl8 (x / 4294967296) (by omega)]
        omega
      · simp -dsimp -implicitDefEqProofs (disch := omega) only [↓reduceIte, ↓gA, gB, refs, den, hasTy, Ty.cmp, Ty.depth, reduceCtorEq, Nat.reduceAdd, Nat.reduceSub, Nat.reduceMul, Nat.reduceEqDiff, Nat.reduceLT, Nat.reduceLeDiff, Nat.reduceMod, Nat.reduceDiv, Nat.reducePow, Nat.reduceBEq, Int.reduceToNat, Int.reduceLE, Int.reduceLT, Int.reduceEq, Int.reduceAdd, Int.reduceMul, Int.reduceSub, Int.reduceNeg, Int.reduceNe, Tryd.TS, Tryd.EV]
        refine tab_done (by decide +kernel) (by decide +kernel) (by omega) (by omega) (by omega) ?_
        rw [bl32 x (by omega)]
        omega
  · simp -dsimp -implicitDefEqProofs (disch := omega) only [↓reduceIte, ↓gA, gB, refs, den, hasTy, Ty.cmp, Ty.depth, reduceCtorEq, Nat.reduceAdd, Nat.reduceSub, Nat.reduceMul, Nat.reduceEqDiff, Nat.reduceLT, Nat.reduceLeDiff, Nat.reduceMod, Nat.reduceDiv, Nat.reducePow, Nat.reduceBEq, Int.reduceToNat, Int.reduceLE, Int.reduceLT, Int.reduceEq, Int.reduceAdd, Int.reduceMul, Int.reduceSub, Int.reduceNeg, Int.reduceNe, Tryd.TS, Tryd.EV]
    refine HIf_dec (fun h2 => ?_) (fun h2 => ?_)
    · simp -dsimp -implicitDefEqProofs (disch := omega) only [↓reduceIte, ↓gA, gB, refs, den, hasTy, Ty.cmp, Ty.depth, reduceCtorEq, Nat.reduceAdd, Nat.reduceSub, Nat.reduceMul, Nat.reduceEqDiff, Nat.reduceLT, Nat.reduceLeDiff, Nat.reduceMod, Nat.reduceDiv, Nat.reducePow, Nat.reduceBEq, Int.reduceToNat, Int.reduceLE, Int.reduceLT, Int.reduceEq, Int.reduceAdd, Int.reduceMul, Int.reduceSub, Int.reduceNeg, Int.reduceNe, Tryd.TS, Tryd.EV, shr16]
      refine HIf_dec (fun h3 => ?_) (fun h3 => ?_)
      · simp -dsimp -implicitDefEqProofs (disch := omega) only [↓reduceIte, ↓gA, gB, refs, den, hasTy, Ty.cmp, Ty.depth, reduceCtorEq, Nat.reduceAdd, Nat.reduceSub, Nat.reduceMul, Nat.reduceEqDiff, Nat.reduceLT, Nat.reduceLeDiff, Nat.reduceMod, Nat.reduceDiv, Nat.reducePow, Nat.reduceBEq, Int.reduceToNat, Int.reduceLE, Int.reduceLT, Int.reduceEq, Int.reduceAdd, Int.reduceMul, Int.reduceSub, Int.reduceNeg, Int.reduceNe, Tryd.TS, Tryd.EV, shr8]
        refine tab_done (by decide +kernel) (by decide +kernel) (by omega) (by omega) (by omega) ?_
        rw [bl16 x (by omega), bl8 (x / 65536) (by omega)]
        omega
      · simp -dsimp -implicitDefEqProofs (disch := omega) only [↓reduceIte, ↓gA, gB, refs, den, hasTy, Ty.cmp, Ty.depth, reduceCtorEq, Nat.reduceAdd, Nat.reduceSub, Nat.reduceMul, Nat.reduceEqDiff, Nat.reduceLT, Nat.reduceLeDiff, Nat.reduceMod, Nat.reduceDiv, Nat.reducePow, Nat.reduceBEq, Int.reduceToNat, Int.reduceLE, Int.reduceLT, Int.reduceEq, Int.reduceAdd, Int.reduceMul, Int.reduceSub, Int.reduceNeg, Int.reduceNe, Tryd.TS, Tryd.EV]
        refine tab_done (by decide +kernel) (by decide +kernel) (by omega) (by omega) (by omega) ?_
        rw [bl16 x (by omega)]
        omega
    · simp -dsimp -implicitDefEqProofs (disch := omega) only [↓reduceIte, ↓gA, gB, refs, den, hasTy, Ty.cmp, Ty.depth, reduceCtorEq, Nat.reduceAdd, Nat.reduceSub, Nat.reduceMul, Nat.reduceEqDiff, Nat.reduceLT, Nat.reduceLeDiff, Nat.reduceMod, Nat.reduceDiv, Nat.reducePow, Nat.reduceBEq, Int.reduceToNat, Int.reduceLE, Int.reduceLT, Int.reduceEq, Int.reduceAdd, Int.reduceMul, Int.reduceSub, Int.reduceNeg, Int.reduceNe, Tryd.TS, Tryd.EV]
      refine HIf_dec (fun h3 => ?_) (fun h3 => ?_)
      · simp -dsimp -implicitDefEqProofs (disch := omega) only [↓reduceIte, ↓gA, gB, refs, den, hasTy, Ty.cmp, Ty.depth, reduceCtorEq, Nat.reduceAdd, Nat.reduceSub, Nat.reduceMul, Nat.reduceEqDiff, Nat.reduceLT, Nat.reduceLeDiff, Nat.reduceMod, Nat.reduceDiv, Nat.reducePow, Nat.reduceBEq, Int.reduceToNat, Int.reduceLE, Int.reduceLT, Int.reduceEq, Int.reduceAdd, Int.reduceMul, Int.reduceSub, Int.reduceNeg, Int.reduceNe, Tryd.TS, Tryd.EV, shr8]
        refine tab_done (by decide +kernel) (by decide +kernel) (by omega) (by omega) (by omega) ?_
        rw [bl8 x (by omega)]
        omega
      · simp -dsimp -implicitDefEqProofs (disch := omega) only [↓reduceIte, ↓gA, gB, refs, den, hasTy, Ty.cmp, Ty.depth, reduceCtorEq, Nat.reduceAdd, Nat.reduceSub, Nat.reduceMul, Nat.reduceEqDiff, Nat.reduceLT, Nat.reduceLeDiff, Nat.reduceMod, Nat.reduceDiv, Nat.reducePow, Nat.reduceBEq, Int.reduceToNat, Int.reduceLE, Int.reduceLT, Int.reduceEq, Int.reduceAdd, Int.reduceMul, Int.reduceSub, Int.reduceNeg, Int.reduceNe, Tryd.TS, Tryd.EV]
        exact tab_done (by decide +kernel) (by decide +kernel) (by omega) (by omega) (by omega) (by omega)
end Go.Proofs
/- Numbers of 256 bits: bits, lengths, shifts. -/
namespace Go.Proofs
open Go.SE

theorem td64 {a : Nat} : (a : Int).tdiv 64 = ((a / 64 : Nat) : Int) := rfl
theorem tm64 {a : Nat} : (a : Int).tmod 64 = ((a % 64 : Nat) : Int) := rfl
theorem tdN {a b : Nat} : (a : Int).tdiv (b : Int) = ((a / b : Nat) : Int) := rfl
theorem tmN {a b : Nat} : (a : Int).tmod (b : Int) = ((a % b : Nat) : Int) := rfl

theorem u256_at (n : Nat) {j : Nat} (hj : j < 4) : D.at (u256 n) j = .n ((n / 2 ^ (64 * j) % 18446744073709551616 : Nat) : Int) := by
  match j, hj with
  | 0, _ => simp [u256, D.at, D.list]
  | 1, _ => rfl
  | 2, _ => rfl
  | 3, _ => rfl
theorem u256_list (n : Nat) : (u256 n).list.length = 4 := rfl

theorem and_one {a : Nat} (h : a < 18446744073709551616) : bits .and .u64 (a : Int) 1 = ((a % 2 : Nat) : Int) := by
  have := bits_and_u64_nat a 1 h (by omega)
  rw [Nat.and_one_is_mod] at this
  exact this

theorem limb_bit (n i : Nat) : n / 2 ^ (64 * (i / 64)) % 18446744073709551616 / 2 ^ (i % 64) % 2 = n / 2 ^ i % 2 := by
  have h1 : (18446744073709551616 : Nat) = 2 ^ (i % 64) * 2 ^ (64 - i % 64) := by rw [← Nat.pow_add, show i % 64 + (64 - i % 64) = 64 by omega]
  rw [h1, Nat.mod_mul_right_div_self, Nat.div_div_eq_div_mul, ← Nat.pow_add, show 64 * (i / 64) + i % 64 = i by omega]
  exact Nat.mod_mod_of_dvd _ (Nat.pow_dvd_pow 2 (show 1 ≤ 64 - i % 64 by omega))

theorem limb_lt (n k : Nat) (m : Nat) : n / 2 ^ k % 18446744073709551616 / 2 ^ m < 18446744073709551616 := Nat.lt_of_le_of_lt (Nat.div_le_self _ _) (Nat.mod_lt _ (by omega))

set_option maxHeartbeats 1000000 in
theorem wbitRef (n i : Nat) (hi : i < 256) : SCall Tryd.prog 111 [(.arr 4 (.int .u64), u256 n), (.int .i64, .n i)] (fun rs => rs = [.d .bool (.b (decide (n / 2 ^ i % 2 = 1)))]) := by
  refine scall_intro (n := 14) (rl := [.tmp 4]) (us := [4]) Tryd.hT Tryd.func111 rfl rfl rfl rfl rfl (Nat.le_of_ble_eq_true rfl) ?_
  intro w0 hL0
  have h4 : i / 64 < 4 := by omega
  simp -dsimp -implicitDefEqProofs (disch := omega) only [↓reduceIte, ↓gA, gB, refs, den, hasTy, Ty.cmp, Ty.depth, reduceCtorEq, Nat.reduceAdd, Nat.reduceSub, Nat.reduceMul, Nat.reduceEqDiff, Nat.reduceLT, Nat.reduceLeDiff, Nat.reduceMod, Nat.reduceDiv, Nat.reducePow, Nat.reduceBEq, Int.reduceToNat, Int.reduceLE, Int.reduceLT, Int.reduceEq, Int.reduceAdd, Int.reduceMul, Int.reduceSub, Int.reduceNeg, Int.reduceNe, Tryd.TS, Tryd.EV, td64, tm64, u256_at _ h4, u256_list, shrN (show i % 64 ≤ 64 by omega), and_one (limb_lt _ _ _), limb_bit]
  refine ⟨by omega, by omega, by omega, ?_⟩
  rw [show decide (((n / 2 ^ i % 2 : Nat) : Int) = 1) = decide (n / 2 ^ i % 2 = 1) from decide_eq_decide.2 (by generalize n / 2 ^ i = q; omega)]

theorem bl_u256 {n i : Nat} (h : n < 2 ^ (i + 1)) (hb : n / 2 ^ i % 2 = 1) : bl n = i + 1 := by
  refine bl_iff.2 ⟨?_, h⟩
  rcases Nat.lt_or_ge n (2 ^ i) with k | k
  · rw [Nat.div_eq_of_lt k] at hb; omega
  · exact k
theorem lt_of_bit {n i : Nat} (h : n < 2 ^ (i + 1)) (hb : ¬ n / 2 ^ i % 2 = 1) : n < 2 ^ i := by
  have hp := Nat.two_pow_pos i
  rw [Nat.pow_succ] at h
  have : n / 2 ^ i < 2 := Nat.div_lt_of_lt_mul h
  have : n / 2 ^ i = 0 := by generalize n / 2 ^ i = q at *; omega
  rcases (Nat.div_eq_zero_iff).1 this with k | k
  · omega
  · exact k

set_option maxHeartbeats 1000000 in
theorem wlenRef (n : Nat) (hn : n < 115792089237316195423570985008687907853269984665640564039457584007913129639936) : SCall Tryd.prog 116 [(.arr 4 (.int .u64), u256 n)] (fun rs => rs = [.d (.int .i64) (.n (bl n))]) := by
  refine scall_intro (n := 13) (rl := [.tmp 2]) (us := [3]) Tryd.hT Tryd.func116 rfl rfl rfl rfl rfl (Nat.le_of_ble_eq_true rfl) ?_
  intro w0 hL0
  simp -dsimp -implicitDefEqProofs (disch := omega) only [↓reduceIte, ↓gA, gB, refs, den, hasTy, Ty.cmp, Ty.depth, reduceCtorEq, Nat.reduceAdd, Nat.reduceSub, Nat.reduceMul, Nat.reduceEqDiff, Nat.reduceLT, Nat.reduceLeDiff, Nat.reduceMod, Nat.reduceDiv, Nat.reducePow, Nat.reduceBEq, Int.reduceToNat, Int.reduceLE, Int.reduceLT, Int.reduceEq, Int.reduceAdd, Int.reduceMul, Int.reduceSub, Int.reduceNeg, Int.reduceNe, Tryd.TS, Tryd.EV]
  refine sloop Tryd.hT (α := Nat) (fun k => ⟨13, [(3, .v (.d (.int .i64) (.n ((k : Int) - 1)))), (1, .v (.ptr 0 []))], [(0, ⟨.arr 4 (.int .u64), .d (.arr 4 (.int .u64)) (u256 n)⟩)], 1⟩) (fun k => k ≤ 256 ∧ n < 2 ^ k) (fun k => k) 256 ?_ ⟨Nat.le_refl _, hn⟩ ?_
  · refine sub_ren w0 hL0 [(0, 0)] rfl rfl (by simp [keysLt]) rfl ?_ ?_
    · simp [renTm, Go.SE.look, renTV, renSV]
    · simp [renOb, Go.SE.look, renSV]
  rintro k ⟨hk, hlt⟩
  simp -dsimp -implicitDefEqProofs (disch := omega) only [↓reduceIte, ↓gA, gB, refs, den, hasTy, Ty.cmp, Ty.depth, reduceCtorEq, Nat.reduceAdd, Nat.reduceSub, Nat.reduceMul, Nat.reduceEqDiff, Nat.reduceLT, Nat.reduceLeDiff, Nat.reduceMod, Nat.reduceDiv, Nat.reducePow, Nat.reduceBEq, Int.reduceToNat, Int.reduceLE, Int.reduceLT, Int.reduceEq, Int.reduceAdd, Int.reduceMul, Int.reduceSub, Int.reduceNeg, Int.reduceNe, Tryd.TS, Tryd.EV]
  refine HIf_dec (fun h => ?_) (fun h => ?_)
  · obtain ⟨i, rfl⟩ : ∃ i, k = i + 1 := ⟨k - 1, by omega⟩
    simp -dsimp -implicitDefEqProofs (disch := omega) only [↓reduceIte, ↓gA, gB, refs, den, hasTy, Ty.cmp, Ty.depth, reduceCtorEq, Nat.reduceAdd, Nat.reduceSub, Nat.reduceMul, Nat.reduceEqDiff, Nat.reduceLT, Nat.reduceLeDiff, Nat.reduceMod, Nat.reduceDiv, Nat.reducePow, Nat.reduceBEq, Int.reduceToNat, Int.reduceLE, Int.reduceLT, Int.reduceEq, Int.reduceAdd, Int.reduceMul, Int.reduceSub, Int.reduceNeg, Int.reduceNe, Tryd.TS, Tryd.EV, show (((i + 1 : Nat) : Int) - 1) = (i : Int) by omega]
    first | (with_reducible refine HCall_mono (wbitRef n i (by omega)) ?_; rintro rs rfl) | (with_reducible refine HCallF_mono (wbitRef n i (by omega)) (by first | rfl | simp [flatR, RV.flat, RV.isD, Ty.flat]) ?_) | (refine SCall.mono (wbitRef n i (by omega)) ?_; rintro rs rfl)
    simp -dsimp -implicitDefEqProofs (disch := omega) only [↓reduceIte, ↓gA, gB, refs, den, hasTy, Ty.cmp, Ty.depth, reduceCtorEq, Nat.reduceAdd, Nat.reduceSub, Nat.reduceMul, Nat.reduceEqDiff, Nat.reduceLT, Nat.reduceLeDiff, Nat.reduceMod, Nat.reduceDiv, Nat.reducePow, Nat.reduceBEq, Int.reduceToNat, Int.reduceLE, Int.reduceLT, Int.reduceEq, Int.reduceAdd, Int.reduceMul, Int.reduceSub, Int.reduceNeg, Int.reduceNe, Tryd.TS, Tryd.EV]
    refine HIf_dec (fun hb => ?_) (fun hb => ?_)
    · simp -dsimp -implicitDefEqProofs (disch := omega) only [↓reduceIte, ↓gA, gB, refs, den, hasTy, Ty.cmp, Ty.depth, reduceCtorEq, Nat.reduceAdd, Nat.reduceSub, Nat.reduceMul, Nat.reduceEqDiff, Nat.reduceLT, Nat.reduceLeDiff, Nat.reduceMod, Nat.reduceDiv, Nat.reducePow, Nat.reduceBEq, Int.reduceToNat, Int.reduceLE, Int.reduceLT, Int.reduceEq, Int.reduceAdd, Int.reduceMul, Int.reduceSub, Int.reduceNeg, Int.reduceNe, Tryd.TS, Tryd.EV]
      rw [bl_u256 hlt hb, show (((i + 1 : Nat) : Int) - 1 + 1) = ((i + 1 : Nat) : Int) by omega]
    · simp -dsimp -implicitDefEqProofs (disch := omega) only [↓reduceIte, ↓gA, gB, refs, den, hasTy, Ty.cmp, Ty.depth, reduceCtorEq, Nat.reduceAdd, Nat.reduceSub, Nat.reduceMul, Nat.reduceEqDiff, Nat.reduceLT, Nat.reduceLeDiff, Nat.reduceMod, Nat.reduceDiv, Nat.reducePow, Nat.reduceBEq, Int.reduceToNat, Int.reduceLE, Int.reduceLT, Int.reduceEq, Int.reduceAdd, Int.reduceMul, Int.reduceSub, Int.reduceNeg, Int.reduceNe, Tryd.TS, Tryd.EV]
      refine ⟨i, ⟨by omega, lt_of_bit hlt hb⟩, by omega, ?_⟩
      refine sub_ren w0 hL0 [(0, 0)] rfl rfl (by simp [keysLt]) rfl ?_ ?_
      · simp [renTm, Go.SE.look, renTV, renSV]
      · simp [renOb, Go.SE.look, renSV]
  · simp -dsimp -implicitDefEqProofs (disch := omega) only [↓reduceIte, ↓gA, gB, refs, den, hasTy, Ty.cmp, Ty.depth, reduceCtorEq, Nat.reduceAdd, Nat.reduceSub, Nat.reduceMul, Nat.reduceEqDiff, Nat.reduceLT, Nat.reduceLeDiff, Nat.reduceMod, Nat.reduceDiv, Nat.reducePow, Nat.reduceBEq, Int.reduceToNat, Int.reduceLE, Int.reduceLT, Int.reduceEq, Int.reduceAdd, Int.reduceMul, Int.reduceSub, Int.reduceNeg, Int.reduceNe, Tryd.TS, Tryd.EV]
    have : k = 0 := by omega
    subst this
    have : n = 0 := by omega
    subst this
    rfl

theorem or_pow {a r : Nat} (h : a / 2 ^ r % 2 = 0) : a ||| 2 ^ r = a + 2 ^ r := by
  have hp := Nat.two_pow_pos r
  have hs : a % 2 ^ r < 2 ^ r := Nat.mod_lt _ hp
  have e : 2 ^ r * (2 * (a / 2 ^ r / 2)) + a % 2 ^ r = a := by
    rw [show 2 * (a / 2 ^ r / 2) = a / 2 ^ r by omega, Nat.div_add_mod]
  have e1 : 2 ^ r * (2 * (a / 2 ^ r / 2) + 1) = 2 ^ r * (2 * (a / 2 ^ r / 2)) ||| 2 ^ r := by
    have : 2 * (a / 2 ^ r / 2) + 1 = 2 * (a / 2 ^ r / 2) ||| 1 := Nat.two_pow_add_eq_or_of_lt (i := 1) (by omega) _
    rw [this, Nat.mul_comm, ← Nat.shiftLeft_eq, Nat.shiftLeft_or_distrib, Nat.shiftLeft_eq, Nat.shiftLeft_eq, Nat.one_mul, Nat.mul_comm]
  have e2 : a + 2 ^ r = 2 ^ r * (2 * (a / 2 ^ r / 2) + 1) + a % 2 ^ r := by rw [Nat.mul_add, Nat.mul_one]; omega
  rw [e2, Nat.two_pow_add_eq_or_of_lt hs, e1]
  rw [Nat.or_assoc, Nat.or_comm (2 ^ r), ← Nat.or_assoc, ← Nat.two_pow_add_eq_or_of_lt hs, e]

theorem add_pow_lt {a r k : Nat} (hr : r < k) (ha : a < 2 ^ k) (h : a / 2 ^ r % 2 = 0) : a + 2 ^ r < 2 ^ k := by
  rw [← or_pow h]
  exact Nat.or_lt_two_pow ha (Nat.pow_lt_pow_right (by omega) hr)

theorem shl_one {r : Nat} (hr : r < 64) : IntKind.u64.wrap (1 * 2 ^ min r IntKind.u64.bits) = ((2 ^ r : Nat) : Int) := by
  rw [show min r IntKind.u64.bits = r from Nat.min_eq_left (by show r ≤ 64; omega), Int.one_mul]
  have : 2 ^ r < 2 ^ 64 := Nat.pow_lt_pow_right (by omega) hr
  rw [show ((2 : Int) ^ r) = ((2 ^ r : Nat) : Int) by norm_cast]
  generalize 2 ^ r = q at *
  exact IntWalk.u64_in _ (by omega)

theorem u256_set {N i : Nat} (hN : N < 115792089237316195423570985008687907853269984665640564039457584007913129639936) (hi : i < 256) (hb : N / 2 ^ i % 2 = 0) :
    D.l ((u256 N).list.set (i / 64) (.n (bits .or .u64 ((N / 2 ^ (64 * (i / 64)) % 18446744073709551616 : Nat) : Int) (IntKind.u64.wrap (1 * 2 ^ min (i % 64) IntKind.u64.bits))))) = u256 (N + 2 ^ i) := by
  have hlb := limb_bit N i
  rw [hb] at hlb
  have hL : N / 2 ^ (64 * (i / 64)) % 18446744073709551616 < 18446744073709551616 := Nat.mod_lt _ (by omega)
  have hlt := add_pow_lt (k := 64) (show i % 64 < 64 by omega) hL hlb
  have h2 : 2 ^ (i % 64) < 18446744073709551616 := Nat.pow_lt_pow_right (n := 64) (by omega) (by omega)
  rw [shl_one (by omega), u64_or_nat _ _ hL h2, or_pow hlb]
  have hpow : 2 ^ i = 2 ^ (64 * (i / 64)) * 2 ^ (i % 64) := by rw [← Nat.pow_add, Nat.div_add_mod]
  rw [hpow]
  generalize 2 ^ (i % 64) = r at *
  obtain ⟨a, b, c, d, ha, hb', hc, hd, en, eu⟩ := u256_open N hN
  rw [eu]
  obtain h | h | h | h : i / 64 = 0 ∨ i / 64 = 1 ∨ i / 64 = 2 ∨ i / 64 = 3 := by omega
  all_goals rw [h] at hlt hL ⊢
  all_goals simp only [D.list, List.set_cons_zero, List.set_cons_succ]
  · exact u256_mk (by simpa using hlt) hb' hc hd (by omega)
  · exact u256_mk ha hlt hc hd (by omega)
  · exact u256_mk ha hb' hlt hd (by omega)
  · exact u256_mk ha hb' hc hlt (by omega)
end Go.Proofs
/- Numbers of 256 bits: shifts by one. -/
namespace Go.Proofs
open Go.SE

theorem sr1 {a : Nat} : (a : Int).fdiv (2 ^ min 1 IntKind.u64.bits) = ((a / 2 : Nat) : Int) := shrN (by omega)
theorem sr63 {a : Nat} : (a : Int).fdiv (2 ^ min 63 IntKind.u64.bits) = ((a / 9223372036854775808 : Nat) : Int) := shrN (by omega)
theorem sl1 {a : Nat} : IntKind.u64.wrap ((a : Int) * 2 ^ min 1 IntKind.u64.bits) = ((a * 2 % 18446744073709551616 : Nat) : Int) := by
  rw [show (2 : Int) ^ min 1 IntKind.u64.bits = ((2 : Nat) : Int) from rfl, mulN, wrapM]
theorem sl63 {a : Nat} : IntKind.u64.wrap ((a : Int) * 2 ^ min 63 IntKind.u64.bits) = ((a % 2 * 9223372036854775808 : Nat) : Int) := by
  rw [show (2 : Int) ^ min 63 IntKind.u64.bits = ((9223372036854775808 : Nat) : Int) from rfl, mulN, wrapM]
  congr 1; omega
theorem or1 {a b : Nat} (ha : a < 18446744073709551616) : bits .or .u64 ((a / 2 : Nat) : Int) ((b % 2 * 9223372036854775808 : Nat) : Int) = ((a / 2 + b % 2 * 9223372036854775808 : Nat) : Int) := by
  rw [u64_or_nat _ _ (by omega) (by omega), Nat.or_comm]
  have := Nat.two_pow_add_eq_or_of_lt (i := 63) (b := a / 2) (by omega) (b % 2)
  rw [Nat.mul_comm (b % 2), show (9223372036854775808 : Nat) = 2 ^ 63 from rfl, ← this, Nat.add_comm]
theorem or2 {a b : Nat} (ha : a < 18446744073709551616) : bits .or .u64 ((b * 2 % 18446744073709551616 : Nat) : Int) ((a / 9223372036854775808 : Nat) : Int) = ((b * 2 % 18446744073709551616 + a / 9223372036854775808 : Nat) : Int) := by
  rw [u64_or_nat _ _ (by omega) (by omega)]
  have := Nat.two_pow_add_eq_or_of_lt (i := 1) (b := a / 9223372036854775808) (by omega) (b % 9223372036854775808)
  rw [show b * 2 % 18446744073709551616 = 2 ^ 1 * (b % 9223372036854775808) by omega, ← this]

theorem tdl : (1 : Int).tdiv 64 = 0 := by decide
theorem tml : (1 : Int).tmod 64 = 1 := by decide
theorem td0 : (0 : Int).tdiv 64 = 0 := by decide

set_option maxHeartbeats 1000000 in
theorem wshr1 (n : Nat) (hn : n < 115792089237316195423570985008687907853269984665640564039457584007913129639936) : SCall Tryd.prog 103 [(.arr 4 (.int .u64), u256 n), (.int .i64, .n 1)] (fun rs => rs = [.d (.arr 4 (.int .u64)) (u256 (n / 2))]) := by
  obtain ⟨a, b, c, d, ha, hb, hc, hd, en, eu⟩ := u256_open n hn
  rw [eu]
  refine scall_intro (n := 58) (rl := [.cell 4 45]) (us := [45]) Tryd.hT Tryd.func103 rfl rfl rfl rfl rfl (Nat.le_of_ble_eq_true rfl) ?_
  intro w0 hL0
  simp -dsimp -implicitDefEqProofs (disch := omega) only [↓reduceIte, ↓gA, gB, refs, den, hasTy, Ty.cmp, Ty.depth, reduceCtorEq, Nat.reduceAdd, Nat.reduceSub, Nat.reduceMul, Nat.reduceEqDiff, Nat.reduceLT, Nat.reduceLeDiff, Nat.reduceMod, Nat.reduceDiv, Nat.reducePow, Nat.reduceBEq, Int.reduceToNat, Int.reduceLE, Int.reduceLT, Int.reduceEq, Int.reduceAdd, Int.reduceMul, Int.reduceSub, Int.reduceNeg, Int.reduceNe, Tryd.TS, Tryd.EV, rep4]
  refine sunrollK [1, 2, 4, 5, 6] Tryd.hT ?_; simp -dsimp -implicitDefEqProofs (disch := omega) only [↓reduceIte, ↓gA, gB, refs, den, hasTy, Ty.cmp, Ty.depth, reduceCtorEq, Nat.reduceAdd, Nat.reduceSub, Nat.reduceMul, Nat.reduceEqDiff, Nat.reduceLT, Nat.reduceLeDiff, Nat.reduceMod, Nat.reduceDiv, Nat.reducePow, Nat.reduceBEq, Int.reduceToNat, Int.reduceLE, Int.reduceLT, Int.reduceEq, Int.reduceAdd, Int.reduceMul, Int.reduceSub, Int.reduceNeg, Int.reduceNe, Tryd.TS, Tryd.EV, rep4, tdl, tml]
  refine sdraw (id := 10) Tryd.hT (by kernel_rfl) [12] [] [0, 1, 2, 3, 4, 5, 6, 7, 8, 9, 10, 11, 12] (by kernel_rfl) (by kernel_rfl) (by kernel_rfl) ?_; simp only [gK, ↓reduceIte, Nat.reduceEqDiff]
  simp -dsimp -implicitDefEqProofs (disch := omega) only [↓reduceIte, ↓gA, gB, refs, den, hasTy, Ty.cmp, Ty.depth, reduceCtorEq, Nat.reduceAdd, Nat.reduceSub, Nat.reduceMul, Nat.reduceEqDiff, Nat.reduceLT, Nat.reduceLeDiff, Nat.reduceMod, Nat.reduceDiv, Nat.reducePow, Nat.reduceBEq, Int.reduceToNat, Int.reduceLE, Int.reduceLT, Int.reduceEq, Int.reduceAdd, Int.reduceMul, Int.reduceSub, Int.reduceNeg, Int.reduceNe, Tryd.TS, Tryd.EV, rep4, tdl, tml]
  refine sunrollK [1, 2, 4, 5, 6] Tryd.hT ?_; simp -dsimp -implicitDefEqProofs (disch := omega) only [↓reduceIte, ↓gA, gB, refs, den, hasTy, Ty.cmp, Ty.depth, reduceCtorEq, Nat.reduceAdd, Nat.reduceSub, Nat.reduceMul, Nat.reduceEqDiff, Nat.reduceLT, Nat.reduceLeDiff, Nat.reduceMod, Nat.reduceDiv, Nat.reducePow, Nat.reduceBEq, Int.reduceToNat, Int.reduceLE, Int.reduceLT, Int.reduceEq, Int.reduceAdd, Int.reduceMul, Int.reduceSub, Int.reduceNeg, Int.reduceNe, Tryd.TS, Tryd.EV, rep4, tdl, tml]
  refine sdraw (id := 10) Tryd.hT (by kernel_rfl) [12] [] [0, 1, 2, 3, 4, 5, 6, 7, 8, 9, 10, 11, 12] (by kernel_rfl) (by kernel_rfl) (by kernel_rfl) ?_; simp only [gK, ↓reduceIte, Nat.reduceEqDiff]
  simp -dsimp -implicitDefEqProofs (disch := omega) only [↓reduceIte, ↓gA, gB, refs, den, hasTy, Ty.cmp, Ty.depth, reduceCtorEq, Nat.reduceAdd, Nat.reduceSub, Nat.reduceMul, Nat.reduceEqDiff, Nat.reduceLT, Nat.reduceLeDiff, Nat.reduceMod, Nat.reduceDiv, Nat.reducePow, Nat.reduceBEq, Int.reduceToNat, Int.reduceLE, Int.reduceLT, Int.reduceEq, Int.reduceAdd, Int.reduceMul, Int.reduceSub, Int.reduceNeg, Int.reduceNe, Tryd.TS, Tryd.EV, rep4, tdl, tml]
  refine sunrollK [1, 2, 4, 5, 6] Tryd.hT ?_; simp -dsimp -implicitDefEqProofs (disch := omega) only [↓reduceIte, ↓gA, gB, refs, den, hasTy, Ty.cmp, Ty.depth, reduceCtorEq, Nat.reduceAdd, Nat.reduceSub, Nat.reduceMul, Nat.reduceEqDiff, Nat.reduceLT, Nat.reduceLeDiff, Nat.reduceMod, Nat.reduceDiv, Nat.reducePow, Nat.reduceBEq, Int.reduceToNat, Int.reduceLE, Int.reduceLT, Int.reduceEq, Int.reduceAdd, Int.reduceMul, Int.reduceSub, Int.reduceNeg, Int.reduceNe, Tryd.TS, Tryd.EV, rep4, tdl, tml]
  refine sdraw (id := 10) Tryd.hT (by kernel_rfl) [12] [] [0, 1, 2, 3, 4, 5, 6, 7, 8, 9, 10, 11, 12] (by kernel_rfl) (by kernel_rfl) (by kernel_rfl) ?_; simp only [gK, ↓reduceIte, Nat.reduceEqDiff]
  simp -dsimp -implicitDefEqProofs (disch := omega) only [↓reduceIte, ↓gA, gB, refs, den, hasTy, Ty.cmp, Ty.depth, reduceCtorEq, Nat.reduceAdd, Nat.reduceSub, Nat.reduceMul, Nat.reduceEqDiff, Nat.reduceLT, Nat.reduceLeDiff, Nat.reduceMod, Nat.reduceDiv, Nat.reducePow, Nat.reduceBEq, Int.reduceToNat, Int.reduceLE, Int.reduceLT, Int.reduceEq, Int.reduceAdd, Int.reduceMul, Int.reduceSub, Int.reduceNeg, Int.reduceNe, Tryd.TS, Tryd.EV, rep4, tdl, tml]
  refine sunrollK [1, 2, 4, 5, 6] Tryd.hT ?_; simp -dsimp -implicitDefEqProofs (disch := omega) only [↓reduceIte, ↓gA, gB, refs, den, hasTy, Ty.cmp, Ty.depth, reduceCtorEq, Nat.reduceAdd, Nat.reduceSub, Nat.reduceMul, Nat.reduceEqDiff, Nat.reduceLT, Nat.reduceLeDiff, Nat.reduceMod, Nat.reduceDiv, Nat.reducePow, Nat.reduceBEq, Int.reduceToNat, Int.reduceLE, Int.reduceLT, Int.reduceEq, Int.reduceAdd, Int.reduceMul, Int.reduceSub, Int.reduceNeg, Int.reduceNe, Tryd.TS, Tryd.EV, rep4, tdl, tml]
  refine sunrollK [1, 2, 4, 5, 6] Tryd.hT ?_; simp -dsimp -implicitDefEqProofs (disch := omega) only [↓reduceIte, ↓gA, gB, refs, den, hasTy, Ty.cmp, Ty.depth, reduceCtorEq, Nat.reduceAdd, Nat.reduceSub, Nat.reduceMul, Nat.reduceEqDiff, Nat.reduceLT, Nat.reduceLeDiff, Nat.reduceMod, Nat.reduceDiv, Nat.reducePow, Nat.reduceBEq, Int.reduceToNat, Int.reduceLE, Int.reduceLT, Int.reduceEq, Int.reduceAdd, Int.reduceMul, Int.reduceSub, Int.reduceNeg, Int.reduceNe, Tryd.TS, Tryd.EV, rep4, tdl, tml]
  rw [sr1, sr1, sr1, sr1, sl63, sl63, sl63, or1 ha, or1 hb, or1 hc, u256_mk (n := n / 2) (by omega) (by omega) (by omega) (by omega) (by omega)]

set_option maxHeartbeats 1000000 in
theorem wshl1 (n : Nat) (hn : n < 115792089237316195423570985008687907853269984665640564039457584007913129639936) : SCall Tryd.prog 122 [(.arr 4 (.int .u64), u256 n), (.int .i64, .n 1)] (fun rs => rs = [.d (.arr 4 (.int .u64)) (u256 (2 * n % 115792089237316195423570985008687907853269984665640564039457584007913129639936))]) := by
  obtain ⟨a, b, c, d, ha, hb, hc, hd, en, eu⟩ := u256_open n hn
  rw [eu]
  refine scall_intro (n := 57) (rl := [.cell 4 45]) (us := [45]) Tryd.hT Tryd.func122 rfl rfl rfl rfl rfl (Nat.le_of_ble_eq_true rfl) ?_
  intro w0 hL0
  simp -dsimp -implicitDefEqProofs (disch := omega) only [↓reduceIte, ↓gA, gB, refs, den, hasTy, Ty.cmp, Ty.depth, reduceCtorEq, Nat.reduceAdd, Nat.reduceSub, Nat.reduceMul, Nat.reduceEqDiff, Nat.reduceLT, Nat.reduceLeDiff, Nat.reduceMod, Nat.reduceDiv, Nat.reducePow, Nat.reduceBEq, Int.reduceToNat, Int.reduceLE, Int.reduceLT, Int.reduceEq, Int.reduceAdd, Int.reduceMul, Int.reduceSub, Int.reduceNeg, Int.reduceNe, Tryd.TS, Tryd.EV, rep4]
  refine sunrollK [1, 2, 4, 5, 6] Tryd.hT ?_; simp -dsimp -implicitDefEqProofs (disch := omega) only [↓reduceIte, ↓gA, gB, refs, den, hasTy, Ty.cmp, Ty.depth, reduceCtorEq, Nat.reduceAdd, Nat.reduceSub, Nat.reduceMul, Nat.reduceEqDiff, Nat.reduceLT, Nat.reduceLeDiff, Nat.reduceMod, Nat.reduceDiv, Nat.reducePow, Nat.reduceBEq, Int.reduceToNat, Int.reduceLE, Int.reduceLT, Int.reduceEq, Int.reduceAdd, Int.reduceMul, Int.reduceSub, Int.reduceNeg, Int.reduceNe, Tryd.TS, Tryd.EV, rep4, tdl, tml]
  refine sdraw (id := 10) Tryd.hT (by kernel_rfl) [12] [] [0, 1, 2, 3, 4, 5, 6, 7, 8, 9, 10, 11, 12] (by kernel_rfl) (by kernel_rfl) (by kernel_rfl) ?_; simp only [gK, ↓reduceIte, Nat.reduceEqDiff]
  simp -dsimp -implicitDefEqProofs (disch := omega) only [↓reduceIte, ↓gA, gB, refs, den, hasTy, Ty.cmp, Ty.depth, reduceCtorEq, Nat.reduceAdd, Nat.reduceSub, Nat.reduceMul, Nat.reduceEqDiff, Nat.reduceLT, Nat.reduceLeDiff, Nat.reduceMod, Nat.reduceDiv, Nat.reducePow, Nat.reduceBEq, Int.reduceToNat, Int.reduceLE, Int.reduceLT, Int.reduceEq, Int.reduceAdd, Int.reduceMul, Int.reduceSub, Int.reduceNeg, Int.reduceNe, Tryd.TS, Tryd.EV, rep4, tdl, tml]
  refine sunrollK [1, 2, 4, 5, 6] Tryd.hT ?_; simp -dsimp -implicitDefEqProofs (disch := omega) only [↓reduceIte, ↓gA, gB, refs, den, hasTy, Ty.cmp, Ty.depth, reduceCtorEq, Nat.reduceAdd, Nat.reduceSub, Nat.reduceMul, Nat.reduceEqDiff, Nat.reduceLT, Nat.reduceLeDiff, Nat.reduceMod, Nat.reduceDiv, Nat.reducePow, Nat.reduceBEq, Int.reduceToNat, Int.reduceLE, Int.reduceLT, Int.reduceEq, Int.reduceAdd, Int.reduceMul, Int.reduceSub, Int.reduceNeg, Int.reduceNe, Tryd.TS, Tryd.EV, rep4, tdl, tml]
  refine sdraw (id := 10) Tryd.hT (by kernel_rfl) [12] [] [0, 1, 2, 3, 4, 5, 6, 7, 8, 9, 10, 11, 12] (by kernel_rfl) (by kernel_rfl) (by kernel_rfl) ?_; simp only [gK, ↓reduceIte, Nat.reduceEqDiff]
  simp -dsimp -implicitDefEqProofs (disch := omega) only [↓reduceIte, ↓gA, gB, refs, den, hasTy, Ty.cmp, Ty.depth, reduceCtorEq, Nat.reduceAdd, Nat.reduceSub, Nat.reduceMul, Nat.reduceEqDiff, Nat.reduceLT, Nat.reduceLeDiff, Nat.reduceMod, Nat.reduceDiv, Nat.reducePow, Nat.reduceBEq, Int.reduceToNat, Int.reduceLE, Int.reduceLT, Int.reduceEq, Int.reduceAdd, Int.reduceMul, Int.reduceSub, Int.reduceNeg, Int.reduceNe, Tryd.TS, Tryd.EV, rep4, tdl, tml]
  refine sunrollK [1, 2, 4, 5, 6] Tryd.hT ?_; simp -dsimp -implicitDefEqProofs (disch := omega) only [↓reduceIte, ↓gA, gB, refs, den, hasTy, Ty.cmp, Ty.depth, reduceCtorEq, Nat.reduceAdd, Nat.reduceSub, Nat.reduceMul, Nat.reduceEqDiff, Nat.reduceLT, Nat.reduceLeDiff, Nat.reduceMod, Nat.reduceDiv, Nat.reducePow, Nat.reduceBEq, Int.reduceToNat, Int.reduceLE, Int.reduceLT, Int.reduceEq, Int.reduceAdd, Int.reduceMul, Int.reduceSub, Int.reduceNeg, Int.reduceNe, Tryd.TS, Tryd.EV, rep4, tdl, tml]
  refine sdraw (id := 10) Tryd.hT (by kernel_rfl) [12] [] [0, 1, 2, 3, 4, 5, 6, 7, 8, 9, 10, 11, 12] (by kernel_rfl) (by kernel_rfl) (by kernel_rfl) ?_; simp only [gK, ↓reduceIte, Nat.reduceEqDiff]
  simp -dsimp -implicitDefEqProofs (disch := omega) only [↓reduceIte, ↓gA, gB, refs, den, hasTy, Ty.cmp, Ty.depth, reduceCtorEq, Nat.reduceAdd, Nat.reduceSub, Nat.reduceMul, Nat.reduceEqDiff, Nat.reduceLT, Nat.reduceLeDiff, Nat.reduceMod, Nat.reduceDiv, Nat.reducePow, Nat.reduceBEq, Int.reduceToNat, Int.reduceLE, Int.reduceLT, Int.reduceEq, Int.reduceAdd, Int.reduceMul, Int.reduceSub, Int.reduceNeg, Int.reduceNe, Tryd.TS, Tryd.EV, rep4, tdl, tml]
  refine sunrollK [1, 2, 4, 5, 6] Tryd.hT ?_; simp -dsimp -implicitDefEqProofs (disch := omega) only [↓reduceIte, ↓gA, gB, refs, den, hasTy, Ty.cmp, Ty.depth, reduceCtorEq, Nat.reduceAdd, Nat.reduceSub, Nat.reduceMul, Nat.reduceEqDiff, Nat.reduceLT, Nat.reduceLeDiff, Nat.reduceMod, Nat.reduceDiv, Nat.reducePow, Nat.reduceBEq, Int.reduceToNat, Int.reduceLE, Int.reduceLT, Int.reduceEq, Int.reduceAdd, Int.reduceMul, Int.reduceSub, Int.reduceNeg, Int.reduceNe, Tryd.TS, Tryd.EV, rep4, tdl, tml]
  refine sunrollK [1, 2, 4, 5, 6] Tryd.hT ?_; simp -dsimp -implicitDefEqProofs (disch := omega) only [↓reduceIte, ↓gA, gB, refs, den, hasTy, Ty.cmp, Ty.depth, reduceCtorEq, Nat.reduceAdd, Nat.reduceSub, Nat.reduceMul, Nat.reduceEqDiff, Nat.reduceLT, Nat.reduceLeDiff, Nat.reduceMod, Nat.reduceDiv, Nat.reducePow, Nat.reduceBEq, Int.reduceToNat, Int.reduceLE, Int.reduceLT, Int.reduceEq, Int.reduceAdd, Int.reduceMul, Int.reduceSub, Int.reduceNeg, Int.reduceNe, Tryd.TS, Tryd.EV, rep4, tdl, tml]
  rw [sl1, sl1, sl1, sl1, sr63, sr63, sr63, or2 ha, or2 hb, or2 hc, u256_mk (n := 2 * n % 115792089237316195423570985008687907853269984665640564039457584007913129639936) (by omega) (by omega) (by omega) (by omega) (by omega)]

end Go.Proofs
/- Numbers of 256 bits: products. -/
namespace Go.Proofs
open Go.SE

def nl (p : List Nat) : D := .l (p.map fun (n : Nat) => .n (n : Int))
theorem nl_at (p : List Nat) (k : Nat) : D.at (nl p) k = .n ((p.getD k 0 : Nat) : Int) := by
  simp only [D.at, nl, D.list, List.getD_eq_getElem?_getD, List.getElem?_map]
  cases p[k]? with
  | none => rfl
  | some x => rfl
theorem nl_set (p : List Nat) (k v : Nat) : D.l ((nl p).list.set k (.n (v : Int))) = nl (p.set k v) := by
  simp only [nl, D.list, List.map_set]
theorem nl_len (p : List Nat) : (nl p).list.length = p.length := by simp [nl, D.list]

def valL : List Nat → Nat
  | [] => 0
  | x :: r => x + 18446744073709551616 * valL r
theorem valL_set : ∀ (p : List Nat) (k v : Nat), k < p.length → valL (p.set k v) + p.getD k 0 * 18446744073709551616 ^ k = valL p + v * 18446744073709551616 ^ k
  | [], k, v, h => by simp at h
  | x :: r, 0, v, _ => by simp [valL]; omega
  | x :: r, k + 1, v, h => by
    have ih := valL_set r k v (by simpa using h)
    have e := congrArg (18446744073709551616 * ·) ih
    simp only [Nat.mul_add] at e
    simp only [List.set_cons_succ, valL, List.getD_cons_succ, Nat.pow_succ]
    have e1 : r.getD k 0 * (18446744073709551616 ^ k * 18446744073709551616) = 18446744073709551616 * (r.getD k 0 * 18446744073709551616 ^ k) := by rw [← Nat.mul_assoc, Nat.mul_comm]
    have e2 : v * (18446744073709551616 ^ k * 18446744073709551616) = 18446744073709551616 * (v * 18446744073709551616 ^ k) := by rw [← Nat.mul_assoc, Nat.mul_comm]
    rw [e1, e2]
    omega

theorem mul_step {V V' pk s c c' x y K r P0 E J : Nat} (hK : K = E * J) (hset : V' + pk * K = V + s * K) (hs : s + 18446744073709551616 * c' = x * y + pk + c) (inv : V + c * K = P0 + x * (E * r)) :
    V' + c' * (K * 18446744073709551616) = P0 + x * (E * (r + J * y)) := by
  have h1 := congrArg (· * K) hs
  simp only [Nat.add_mul] at h1
  have e1 : c' * (K * 18446744073709551616) = 18446744073709551616 * c' * K := by rw [← Nat.mul_assoc, Nat.mul_comm, ← Nat.mul_assoc]
  have e2 : x * (E * (r + J * y)) = x * (E * r) + x * y * K := by
    rw [hK, Nat.mul_add, Nat.mul_add]
    congr 1
    rw [Nat.mul_assoc x y, Nat.mul_left_comm y, Nat.mul_comm y]
  rw [e1, e2]
  omega

theorem carry_lt {x y p c s c' : Nat} (hx : x < 18446744073709551616) (hy : y < 18446744073709551616) (hp : p < 18446744073709551616) (hc : c < 18446744073709551616) (h : s + 18446744073709551616 * c' = x * y + p + c) : c' < 18446744073709551616 := by
  have : x * y ≤ 18446744073709551615 * 18446744073709551615 := Nat.mul_le_mul (by omega) (by omega)
  omega

theorem mod_step (n j : Nat) : n % 2 ^ (64 * (j + 1)) = n % 2 ^ (64 * j) + 18446744073709551616 ^ j * (n / 2 ^ (64 * j) % 18446744073709551616) := by
  rw [show 64 * (j + 1) = 64 * j + 64 by omega, Nat.pow_add, Nat.mod_mul]
  congr 2
  rw [Nat.pow_mul]

structure MulI (p : List Nat) : Prop where
  len : p.length = 8
  lt : ∀ k, p.getD k 0 < 18446744073709551616

theorem MulI.set {p : List Nat} (h : MulI p) {k v : Nat} (hv : v < 18446744073709551616) : MulI (p.set k v) := by
  refine ⟨by simpa using h.len, fun j => ?_⟩
  rw [List.getD_eq_getElem?_getD, List.getElem?_set]
  split
  · split
    · simpa using hv
    · simp
  · have := h.lt j; rwa [List.getD_eq_getElem?_getD] at this

set_option maxHeartbeats 2000000 in
theorem wmul (m n : Nat) (hm : m < 115792089237316195423570985008687907853269984665640564039457584007913129639936) (hn : n < 115792089237316195423570985008687907853269984665640564039457584007913129639936) : SCall Tryd.prog 87 [(.arr 4 (.int .u64), u256 m), (.arr 4 (.int .u64), u256 n)] (fun rs => rs = [.d (.arr 4 (.int .u64)) (u256 (m * n / 115792089237316195423570985008687907853269984665640564039457584007913129639936)), .d (.arr 4 (.int .u64)) (u256 (m * n % 115792089237316195423570985008687907853269984665640564039457584007913129639936))]) := by
  refine scall_intro (n := 72) (rl := [.cell 4 45, .cell 5 45]) (us := [45, 45]) Tryd.hT Tryd.func87 rfl rfl rfl rfl rfl (Nat.le_of_ble_eq_true rfl) ?_
  intro w0 hL0
  simp -dsimp -implicitDefEqProofs (disch := omega) only [↓reduceIte, ↓gA, gB, refs, den, hasTy, Ty.cmp, Ty.depth, reduceCtorEq, Nat.reduceAdd, Nat.reduceSub, Nat.reduceMul, Nat.reduceEqDiff, Nat.reduceLT, Nat.reduceLeDiff, Nat.reduceMod, Nat.reduceDiv, Nat.reducePow, Nat.reduceBEq, Int.reduceToNat, Int.reduceLE, Int.reduceLT, Int.reduceEq, Int.reduceAdd, Int.reduceMul, Int.reduceSub, Int.reduceNeg, Int.reduceNe, Tryd.TS, Tryd.EV, rep4, rep8]
  refine sloop Tryd.hT (α := Nat × List Nat) (fun x => ⟨72, [(16, .v (.d (.int .i64) (.n x.1))), (15, .v (.d (.arr 4 (.int .u64)) (u256 m))), (2, .v (.ptr 0 [])), (3, .v (.ptr 1 [])), (4, .v (.ptr 2 [])), (5, .v (.ptr 3 [])), (6, .v (.ptr 4 []))],
      [(0, ⟨.arr 4 (.int .u64), .d (.arr 4 (.int .u64)) (u256 m)⟩), (1, ⟨.arr 4 (.int .u64), .d (.arr 4 (.int .u64)) (u256 n)⟩), (2, ⟨.arr 4 (.int .u64), .d (.arr 4 (.int .u64)) (.l [.n 0, .n 0, .n 0, .n 0])⟩), (3, ⟨.arr 4 (.int .u64), .d (.arr 4 (.int .u64)) (.l [.n 0, .n 0, .n 0, .n 0])⟩), (4, ⟨.arr 8 (.int .u64), .d (.arr 8 (.int .u64)) (nl x.2)⟩)], 5⟩)
    (fun x => x.1 ≤ 4 ∧ MulI x.2 ∧ (∀ k, x.1 + 4 ≤ k → x.2.getD k 0 = 0) ∧ valL x.2 = m % 2 ^ (64 * x.1) * n) (fun x => 4 - x.1) (0, [0, 0, 0, 0, 0, 0, 0, 0]) ?_ ?_ ?_
  · refine sub_ren w0 hL0 [(0, 0), (1, 1), (2, 2), (3, 3), (4, 4)] rfl rfl (by simp [keysLt]) rfl ?_ ?_
    · simp [renTm, Go.SE.look, renTV, renSV]
    · simp [renOb, Go.SE.look, renSV, nl]
  · refine ⟨by omega, ⟨rfl, fun k => ?_⟩, fun k hk => ?_, by simp [valL, Nat.mod_one]⟩
    · match k with
      | 0 | 1 | 2 | 3 | 4 | 5 | 6 | 7 => simp
      | k + 8 => simp
    · match k, hk with
      | 4, _ | 5, _ | 6, _ | 7, _ => simp
      | k + 8, _ => simp
  rintro ⟨i, p0⟩ ⟨hi, hI, hz, hv⟩
  simp only at hi hI hz hv
  simp -dsimp -implicitDefEqProofs (disch := omega) only [↓reduceIte, ↓gA, gB, refs, den, hasTy, Ty.cmp, Ty.depth, reduceCtorEq, Nat.reduceAdd, Nat.reduceSub, Nat.reduceMul, Nat.reduceEqDiff, Nat.reduceLT, Nat.reduceLeDiff, Nat.reduceMod, Nat.reduceDiv, Nat.reducePow, Nat.reduceBEq, Int.reduceToNat, Int.reduceLE, Int.reduceLT, Int.reduceEq, Int.reduceAdd, Int.reduceMul, Int.reduceSub, Int.reduceNeg, Int.reduceNe, Tryd.TS, Tryd.EV]
  refine HIf_dec (fun h => ?_) (fun h => ?_)
  · have hi4 : i < 4 := by omega
    simp -dsimp -implicitDefEqProofs (disch := omega) only [↓reduceIte, ↓gA, gB, refs, den, hasTy, Ty.cmp, Ty.depth, reduceCtorEq, Nat.reduceAdd, Nat.reduceSub, Nat.reduceMul, Nat.reduceEqDiff, Nat.reduceLT, Nat.reduceLeDiff, Nat.reduceMod, Nat.reduceDiv, Nat.reducePow, Nat.reduceBEq, Int.reduceToNat, Int.reduceLE, Int.reduceLT, Int.reduceEq, Int.reduceAdd, Int.reduceMul, Int.reduceSub, Int.reduceNeg, Int.reduceNe, Tryd.TS, Tryd.EV, u256_at m hi4, u256_list]
    repeat (refine And.intro (by omega) ?_)
    have hx : m / 2 ^ (64 * i) % 18446744073709551616 < 18446744073709551616 := Nat.mod_lt _ (by omega)
    have hstep := mod_step m i
    generalize m / 2 ^ (64 * i) % 18446744073709551616 = x at *
    refine sloop Tryd.hT (α := Nat × List Nat × Nat) (fun z => ⟨72, [(21, .v (.d (.int .i64) (.n z.1))), (20, .v (.d (.arr 4 (.int .u64)) (u256 n))), (7, .v (.d (.int .i64) (.n i))), (8, .v (.d (.int .u64) (.n x))), (9, .v (.d (.int .u64) (.n z.2.2))), (16, .v (.d (.int .i64) (.n i))), (15, .v (.d (.arr 4 (.int .u64)) (u256 m))), (2, .v (.ptr 0 [])), (3, .v (.ptr 1 [])), (4, .v (.ptr 2 [])), (5, .v (.ptr 3 [])), (6, .v (.ptr 4 []))],
      [(0, ⟨.arr 4 (.int .u64), .d (.arr 4 (.int .u64)) (u256 m)⟩), (1, ⟨.arr 4 (.int .u64), .d (.arr 4 (.int .u64)) (u256 n)⟩), (2, ⟨.arr 4 (.int .u64), .d (.arr 4 (.int .u64)) (.l [.n 0, .n 0, .n 0, .n 0])⟩), (3, ⟨.arr 4 (.int .u64), .d (.arr 4 (.int .u64)) (.l [.n 0, .n 0, .n 0, .n 0])⟩), (4, ⟨.arr 8 (.int .u64), .d (.arr 8 (.int .u64)) (nl z.2.1)⟩)], 5⟩)
      (fun z => z.1 ≤ 4 ∧ MulI z.2.1 ∧ z.2.2 < 18446744073709551616 ∧ (∀ k, i + 4 ≤ k → z.2.1.getD k 0 = 0) ∧ valL z.2.1 + z.2.2 * 18446744073709551616 ^ (i + z.1) = valL p0 + x * (18446744073709551616 ^ i * (n % 2 ^ (64 * z.1)))) (fun z => 4 - z.1) (0, p0, 0) ?_ ?_ ?_
    · refine sub_ren w0 hL0 [(0, 0), (1, 1), (2, 2), (3, 3), (4, 4)] rfl rfl (by simp [keysLt]) rfl ?_ ?_
      · simp [renTm, Go.SE.look, renTV, renSV]
      · simp [renOb, Go.SE.look, renSV]
    · exact ⟨by omega, hI, by simp, hz, by simp [Nat.mod_one]⟩
    rintro ⟨j, p, c⟩ ⟨hj, hP, hc, hzp, hV⟩
    simp only at hj hP hc hzp hV
    simp -dsimp -implicitDefEqProofs (disch := omega) only [↓reduceIte, ↓gA, gB, refs, den, hasTy, Ty.cmp, Ty.depth, reduceCtorEq, Nat.reduceAdd, Nat.reduceSub, Nat.reduceMul, Nat.reduceEqDiff, Nat.reduceLT, Nat.reduceLeDiff, Nat.reduceMod, Nat.reduceDiv, Nat.reducePow, Nat.reduceBEq, Int.reduceToNat, Int.reduceLE, Int.reduceLT, Int.reduceEq, Int.reduceAdd, Int.reduceMul, Int.reduceSub, Int.reduceNeg, Int.reduceNe, Tryd.TS, Tryd.EV]
    refine HIf_dec (fun hj4 => ?_) (fun hj4 => ?_)
    · have hj4' : j < 4 := by omega
      simp -dsimp -implicitDefEqProofs (disch := omega) only [↓reduceIte, ↓gA, gB, refs, den, hasTy, Ty.cmp, Ty.depth, reduceCtorEq, Nat.reduceAdd, Nat.reduceSub, Nat.reduceMul, Nat.reduceEqDiff, Nat.reduceLT, Nat.reduceLeDiff, Nat.reduceMod, Nat.reduceDiv, Nat.reducePow, Nat.reduceBEq, Int.reduceToNat, Int.reduceLE, Int.reduceLT, Int.reduceEq, Int.reduceAdd, Int.reduceMul, Int.reduceSub, Int.reduceNeg, Int.reduceNe, Tryd.TS, Tryd.EV, u256_at n hj4', u256_list]
      repeat (refine And.intro (by omega) ?_)
      have hy : n / 2 ^ (64 * j) % 18446744073709551616 < 18446744073709551616 := Nat.mod_lt _ (by omega)
      have hstepn := mod_step n j
      generalize n / 2 ^ (64 * j) % 18446744073709551616 = y at *
      refine mul64 x y hx hy (fun l h hlh hl hh => ?_)
      have hpk := hP.lt (i + j)
      have hlen := hP.len
      simp -dsimp -implicitDefEqProofs (disch := omega) only [↓reduceIte, ↓gA, gB, refs, den, hasTy, Ty.cmp, Ty.depth, reduceCtorEq, Nat.reduceAdd, Nat.reduceSub, Nat.reduceMul, Nat.reduceEqDiff, Nat.reduceLT, Nat.reduceLeDiff, Nat.reduceMod, Nat.reduceDiv, Nat.reducePow, Nat.reduceBEq, Int.reduceToNat, Int.reduceLE, Int.reduceLT, Int.reduceEq, Int.reduceAdd, Int.reduceMul, Int.reduceSub, Int.reduceNeg, Int.reduceNe, Tryd.TS, Tryd.EV, nl_at]
      repeat (refine And.intro (by omega) ?_)
      refine add64 l (p.getD (i + j) 0) 0 hl hpk (by omega) (fun s1 c1 e1 l1 m1 => ?_)
      simp -dsimp -implicitDefEqProofs (disch := omega) only [↓reduceIte, ↓gA, gB, refs, den, hasTy, Ty.cmp, Ty.depth, reduceCtorEq, Nat.reduceAdd, Nat.reduceSub, Nat.reduceMul, Nat.reduceEqDiff, Nat.reduceLT, Nat.reduceLeDiff, Nat.reduceMod, Nat.reduceDiv, Nat.reducePow, Nat.reduceBEq, Int.reduceToNat, Int.reduceLE, Int.reduceLT, Int.reduceEq, Int.reduceAdd, Int.reduceMul, Int.reduceSub, Int.reduceNeg, Int.reduceNe, Tryd.TS, Tryd.EV]
      refine add64 s1 c 0 l1 hc (by omega) (fun s2 c2 e2 l2 m2 => ?_)
      have htot : s2 + 18446744073709551616 * (h + c1 + c2) = x * y + p.getD (i + j) 0 + c := by omega
      have hct := carry_lt hx hy hpk hc htot
      simp -dsimp -implicitDefEqProofs (disch := omega) only [↓reduceIte, ↓gA, gB, refs, den, hasTy, Ty.cmp, Ty.depth, reduceCtorEq, Nat.reduceAdd, Nat.reduceSub, Nat.reduceMul, Nat.reduceEqDiff, Nat.reduceLT, Nat.reduceLeDiff, Nat.reduceMod, Nat.reduceDiv, Nat.reducePow, Nat.reduceBEq, Int.reduceToNat, Int.reduceLE, Int.reduceLT, Int.reduceEq, Int.reduceAdd, Int.reduceMul, Int.reduceSub, Int.reduceNeg, Int.reduceNe, Tryd.TS, Tryd.EV, show IntKind.u64.wrap (IntKind.u64.wrap ((h : Int) + (c1 : Int)) + (c2 : Int)) = ((h + c1 + c2 : Nat) : Int) by rw [IntWalk.u64_in ((h : Int) + c1) (by omega), IntWalk.u64_in _ (by omega)]; omega, nl_set, nl_len]
      repeat (refine And.intro (by omega) ?_)
      refine ⟨(j + 1, p.set (i + j) s2, h + c1 + c2), ⟨by omega, hP.set l2, hct, fun k hk => ?_, ?_⟩, by omega, ?_⟩
      · have := hzp k hk
        rw [List.getD_eq_getElem?_getD, List.getElem?_set, if_neg (by omega), ← List.getD_eq_getElem?_getD]
        exact this
      · have hset := valL_set p (i + j) s2 (by omega)
        have := mul_step (K := 18446744073709551616 ^ (i + j)) (E := 18446744073709551616 ^ i) (J := 18446744073709551616 ^ j) (Nat.pow_add _ _ _) hset htot hV
        rw [← Nat.pow_succ, ← hstepn] at this
        exact this
      · refine sub_ren w0 hL0 [(0, 0), (1, 1), (2, 2), (3, 3), (4, 4)] rfl rfl (by simp [keysLt]) rfl ?_ ?_
        · simp [renTm, Go.SE.look, renTV, renSV]
        · simp [renOb, Go.SE.look, renSV]
    · have : j = 4 := by omega
      subst this
      have hlen := hP.len
      simp -dsimp -implicitDefEqProofs (disch := omega) only [↓reduceIte, ↓gA, gB, refs, den, hasTy, Ty.cmp, Ty.depth, reduceCtorEq, Nat.reduceAdd, Nat.reduceSub, Nat.reduceMul, Nat.reduceEqDiff, Nat.reduceLT, Nat.reduceLeDiff, Nat.reduceMod, Nat.reduceDiv, Nat.reducePow, Nat.reduceBEq, Int.reduceToNat, Int.reduceLE, Int.reduceLT, Int.reduceEq, Int.reduceAdd, Int.reduceMul, Int.reduceSub, Int.reduceNeg, Int.reduceNe, Tryd.TS, Tryd.EV, nl_set, nl_len]
      repeat (refine And.intro (by omega) ?_)
      refine ⟨(i + 1, p.set (i + 4) c), ⟨by omega, hP.set hc, fun k hk => ?_, ?_⟩, by simp; omega, ?_⟩
      · rw [List.getD_eq_getElem?_getD, List.getElem?_set, if_neg (by simp at hk; omega), ← List.getD_eq_getElem?_getD]
        exact hzp k (by simp at hk; omega)
      · have hset := valL_set p (i + 4) c (by omega)
        rw [hzp (i + 4) (by omega), Nat.zero_mul, Nat.add_zero, hV, hv, Nat.mod_eq_of_lt (a := n) hn] at hset
        show valL (p.set (i + 4) c) = _
        rw [hset, hstep, Nat.add_mul]
        congr 1
        rw [← Nat.mul_assoc, Nat.mul_comm x]
      · refine sub_ren w0 hL0 [(0, 0), (1, 1), (2, 2), (3, 3), (4, 4)] rfl rfl (by simp [keysLt]) rfl ?_ ?_
        · simp [renTm, Go.SE.look, renTV, renSV]
        · simp [renOb, Go.SE.look, renSV]
  · have : i = 4 := by omega
    subst this
    have hlen := hI.len
    rw [Nat.mod_eq_of_lt (a := m) hm] at hv
    have hlt := hI.lt
    match p0, hlen with
    | [a0, a1, a2, a3, a4, a5, a6, a7], _ =>
    have q0 := hlt 0
    have q1 := hlt 1
    have q2 := hlt 2
    have q3 := hlt 3
    have q4 := hlt 4
    have q5 := hlt 5
    have q6 := hlt 6
    have q7 := hlt 7
    simp only [List.getD_cons_zero, List.getD_cons_succ] at q0 q1 q2 q3 q4 q5 q6 q7
    simp only [valL] at hv
    simp only [nl, List.map_cons, List.map_nil]
    simp -dsimp -implicitDefEqProofs (disch := omega) only [↓reduceIte, ↓gA, gB, refs, den, hasTy, Ty.cmp, Ty.depth, reduceCtorEq, Nat.reduceAdd, Nat.reduceSub, Nat.reduceMul, Nat.reduceEqDiff, Nat.reduceLT, Nat.reduceLeDiff, Nat.reduceMod, Nat.reduceDiv, Nat.reducePow, Nat.reduceBEq, Int.reduceToNat, Int.reduceLE, Int.reduceLT, Int.reduceEq, Int.reduceAdd, Int.reduceMul, Int.reduceSub, Int.reduceNeg, Int.reduceNe, Tryd.TS, Tryd.EV]
    refine sdraw (id := 18) Tryd.hT (by kernel_rfl) [2] [] [0, 1, 2] (by kernel_rfl) (by kernel_rfl) (by kernel_rfl) ?_; simp only [gK, ↓reduceIte, Nat.reduceEqDiff]
    simp -dsimp -implicitDefEqProofs (disch := omega) only [↓reduceIte, ↓gA, gB, refs, den, hasTy, Ty.cmp, Ty.depth, reduceCtorEq, Nat.reduceAdd, Nat.reduceSub, Nat.reduceMul, Nat.reduceEqDiff, Nat.reduceLT, Nat.reduceLeDiff, Nat.reduceMod, Nat.reduceDiv, Nat.reducePow, Nat.reduceBEq, Int.reduceToNat, Int.reduceLE, Int.reduceLT, Int.reduceEq, Int.reduceAdd, Int.reduceMul, Int.reduceSub, Int.reduceNeg, Int.reduceNe, Tryd.TS, Tryd.EV, Nat.min_self]
    refine sdraw (id := 19) Tryd.hT (by kernel_rfl) [2] [] [0, 1, 2] (by kernel_rfl) (by kernel_rfl) (by kernel_rfl) ?_; simp only [gK, ↓reduceIte, Nat.reduceEqDiff]
    simp -dsimp -implicitDefEqProofs (disch := omega) only [↓reduceIte, ↓gA, gB, refs, den, hasTy, Ty.cmp, Ty.depth, reduceCtorEq, Nat.reduceAdd, Nat.reduceSub, Nat.reduceMul, Nat.reduceEqDiff, Nat.reduceLT, Nat.reduceLeDiff, Nat.reduceMod, Nat.reduceDiv, Nat.reducePow, Nat.reduceBEq, Int.reduceToNat, Int.reduceLE, Int.reduceLT, Int.reduceEq, Int.reduceAdd, Int.reduceMul, Int.reduceSub, Int.reduceNeg, Int.reduceNe, Tryd.TS, Tryd.EV, Nat.min_self]
    rw [u256_mk (n := m * n % 115792089237316195423570985008687907853269984665640564039457584007913129639936) q0 q1 q2 q3 (by omega), u256_mk (n := m * n / 115792089237316195423570985008687907853269984665640564039457584007913129639936) q4 q5 q6 q7 (by omega)]
end Go.Proofs
/- Numbers of 256 bits: products, by the reference. -/
namespace Go.Proofs
open Go.SE
set_option maxHeartbeats 2000000 in
theorem wmulRef (m n : Nat) (hm : m < 115792089237316195423570985008687907853269984665640564039457584007913129639936) (hn : n < 115792089237316195423570985008687907853269984665640564039457584007913129639936) : SCall Tryd.prog 115 [(.arr 4 (.int .u64), u256 m), (.arr 4 (.int .u64), u256 n)] (fun rs => rs = [.d (.arr 4 (.int .u64)) (u256 (m * n / 115792089237316195423570985008687907853269984665640564039457584007913129639936)), .d (.arr 4 (.int .u64)) (u256 (m * n % 115792089237316195423570985008687907853269984665640564039457584007913129639936))]) := by
  refine scall_intro (n := 71) (rl := [.cell 4 45, .cell 5 45]) (us := [45, 45]) Tryd.hT Tryd.func115 rfl rfl rfl rfl rfl (Nat.le_of_ble_eq_true rfl) ?_
  intro w0 hL0
  simp -dsimp -implicitDefEqProofs (disch := omega) only [↓reduceIte, ↓gA, gB, refs, den, hasTy, Ty.cmp, Ty.depth, reduceCtorEq, Nat.reduceAdd, Nat.reduceSub, Nat.reduceMul, Nat.reduceEqDiff, Nat.reduceLT, Nat.reduceLeDiff, Nat.reduceMod, Nat.reduceDiv, Nat.reducePow, Nat.reduceBEq, Int.reduceToNat, Int.reduceLE, Int.reduceLT, Int.reduceEq, Int.reduceAdd, Int.reduceMul, Int.reduceSub, Int.reduceNeg, Int.reduceNe, Tryd.TS, Tryd.EV, rep4, rep8]
  refine sloop Tryd.hT (α := Nat × List Nat) (fun x => ⟨71, [(15, .v (.d (.int .i64) (.n x.1))), (2, .v (.ptr 0 [])), (3, .v (.ptr 1 [])), (4, .v (.ptr 2 [])), (5, .v (.ptr 3 [])), (6, .v (.ptr 4 []))],
      [(0, ⟨.arr 4 (.int .u64), .d (.arr 4 (.int .u64)) (u256 m)⟩), (1, ⟨.arr 4 (.int .u64), .d (.arr 4 (.int .u64)) (u256 n)⟩), (2, ⟨.arr 4 (.int .u64), .d (.arr 4 (.int .u64)) (.l [.n 0, .n 0, .n 0, .n 0])⟩), (3, ⟨.arr 4 (.int .u64), .d (.arr 4 (.int .u64)) (.l [.n 0, .n 0, .n 0, .n 0])⟩), (4, ⟨.arr 8 (.int .u64), .d (.arr 8 (.int .u64)) (nl x.2)⟩)], 5⟩)
    (fun x => x.1 ≤ 4 ∧ MulI x.2 ∧ (∀ k, x.1 + 4 ≤ k → x.2.getD k 0 = 0) ∧ valL x.2 = m % 2 ^ (64 * x.1) * n) (fun x => 4 - x.1) (0, [0, 0, 0, 0, 0, 0, 0, 0]) ?_ ?_ ?_
  · refine sub_ren w0 hL0 [(0, 0), (1, 1), (2, 2), (3, 3), (4, 4)] rfl rfl (by simp [keysLt]) rfl ?_ ?_
    · simp [renTm, Go.SE.look, renTV, renSV]
    · simp [renOb, Go.SE.look, renSV, nl]
  · refine ⟨by omega, ⟨rfl, fun k => ?_⟩, fun k hk => ?_, by simp [valL, Nat.mod_one]⟩
    · match k with
      | 0 | 1 | 2 | 3 | 4 | 5 | 6 | 7 => simp
      | k + 8 => simp
    · match k, hk with
      | 4, _ | 5, _ | 6, _ | 7, _ => simp
      | k + 8, _ => simp
  rintro ⟨i, p0⟩ ⟨hi, hI, hz, hv⟩
  simp only at hi hI hz hv
  simp -dsimp -implicitDefEqProofs (disch := omega) only [↓reduceIte, ↓gA, gB, refs, den, hasTy, Ty.cmp, Ty.depth, reduceCtorEq, Nat.reduceAdd, Nat.reduceSub, Nat.reduceMul, Nat.reduceEqDiff, Nat.reduceLT, Nat.reduceLeDiff, Nat.reduceMod, Nat.reduceDiv, Nat.reducePow, Nat.reduceBEq, Int.reduceToNat, Int.reduceLE, Int.reduceLT, Int.reduceEq, Int.reduceAdd, Int.reduceMul, Int.reduceSub, Int.reduceNeg, Int.reduceNe, Tryd.TS, Tryd.EV]
  refine HIf_dec (fun h => ?_) (fun h => ?_)
  · have hi4 : i < 4 := by omega
    simp -dsimp -implicitDefEqProofs (disch := omega) only [↓reduceIte, ↓gA, gB, refs, den, hasTy, Ty.cmp, Ty.depth, reduceCtorEq, Nat.reduceAdd, Nat.reduceSub, Nat.reduceMul, Nat.reduceEqDiff, Nat.reduceLT, Nat.reduceLeDiff, Nat.reduceMod, Nat.reduceDiv, Nat.reducePow, Nat.reduceBEq, Int.reduceToNat, Int.reduceLE, Int.reduceLT, Int.reduceEq, Int.reduceAdd, Int.reduceMul, Int.reduceSub, Int.reduceNeg, Int.reduceNe, Tryd.TS, Tryd.EV]
    have hx : m / 2 ^ (64 * i) % 18446744073709551616 < 18446744073709551616 := Nat.mod_lt _ (by omega)
    have hstep := mod_step m i
    have hma := u256_at m hi4
    generalize m / 2 ^ (64 * i) % 18446744073709551616 = x at *
    refine sloop Tryd.hT (α := Nat × List Nat × Nat) (fun z => ⟨71, [(18, .v (.d (.int .i64) (.n z.1))), (7, .v (.d (.int .i64) (.n i))), (8, .v (.d (.int .u64) (.n z.2.2))), (15, .v (.d (.int .i64) (.n i))), (2, .v (.ptr 0 [])), (3, .v (.ptr 1 [])), (4, .v (.ptr 2 [])), (5, .v (.ptr 3 [])), (6, .v (.ptr 4 []))],
      [(0, ⟨.arr 4 (.int .u64), .d (.arr 4 (.int .u64)) (u256 m)⟩), (1, ⟨.arr 4 (.int .u64), .d (.arr 4 (.int .u64)) (u256 n)⟩), (2, ⟨.arr 4 (.int .u64), .d (.arr 4 (.int .u64)) (.l [.n 0, .n 0, .n 0, .n 0])⟩), (3, ⟨.arr 4 (.int .u64), .d (.arr 4 (.int .u64)) (.l [.n 0, .n 0, .n 0, .n 0])⟩), (4, ⟨.arr 8 (.int .u64), .d (.arr 8 (.int .u64)) (nl z.2.1)⟩)], 5⟩)
      (fun z => z.1 ≤ 4 ∧ MulI z.2.1 ∧ z.2.2 < 18446744073709551616 ∧ (∀ k, i + 4 ≤ k → z.2.1.getD k 0 = 0) ∧ valL z.2.1 + z.2.2 * 18446744073709551616 ^ (i + z.1) = valL p0 + x * (18446744073709551616 ^ i * (n % 2 ^ (64 * z.1)))) (fun z => 4 - z.1) (0, p0, 0) ?_ ?_ ?_
    · refine sub_ren w0 hL0 [(0, 0), (1, 1), (2, 2), (3, 3), (4, 4)] rfl rfl (by simp [keysLt]) rfl ?_ ?_
      · simp [renTm, Go.SE.look, renTV, renSV]
      · simp [renOb, Go.SE.look, renSV]
    · exact ⟨by omega, hI, by simp, hz, by simp [Nat.mod_one]⟩
    rintro ⟨j, p, c⟩ ⟨hj, hP, hc, hzp, hV⟩
    simp only at hj hP hc hzp hV
    simp -dsimp -implicitDefEqProofs (disch := omega) only [↓reduceIte, ↓gA, gB, refs, den, hasTy, Ty.cmp, Ty.depth, reduceCtorEq, Nat.reduceAdd, Nat.reduceSub, Nat.reduceMul, Nat.reduceEqDiff, Nat.reduceLT, Nat.reduceLeDiff, Nat.reduceMod, Nat.reduceDiv, Nat.reducePow, Nat.reduceBEq, Int.reduceToNat, Int.reduceLE, Int.reduceLT, Int.reduceEq, Int.reduceAdd, Int.reduceMul, Int.reduceSub, Int.reduceNeg, Int.reduceNe, Tryd.TS, Tryd.EV]
    refine HIf_dec (fun hj4 => ?_) (fun hj4 => ?_)
    · have hj4' : j < 4 := by omega
      simp -dsimp -implicitDefEqProofs (disch := omega) only [↓reduceIte, ↓gA, gB, refs, den, hasTy, Ty.cmp, Ty.depth, reduceCtorEq, Nat.reduceAdd, Nat.reduceSub, Nat.reduceMul, Nat.reduceEqDiff, Nat.reduceLT, Nat.reduceLeDiff, Nat.reduceMod, Nat.reduceDiv, Nat.reducePow, Nat.reduceBEq, Int.reduceToNat, Int.reduceLE, Int.reduceLT, Int.reduceEq, Int.reduceAdd, Int.reduceMul, Int.reduceSub, Int.reduceNeg, Int.reduceNe, Tryd.TS, Tryd.EV]
      refine sdraw (id := 9) Tryd.hT (by kernel_rfl) [] [] [0, 1, 2, 3, 4, 5, 6, 7, 8, 9, 10, 11] (by kernel_rfl) (by kernel_rfl) (by kernel_rfl) ?_; simp only [gK, ↓reduceIte, Nat.reduceEqDiff]
      simp -dsimp -implicitDefEqProofs (disch := omega) only [↓reduceIte, ↓gA, gB, refs, den, hasTy, Ty.cmp, Ty.depth, reduceCtorEq, Nat.reduceAdd, Nat.reduceSub, Nat.reduceMul, Nat.reduceEqDiff, Nat.reduceLT, Nat.reduceLeDiff, Nat.reduceMod, Nat.reduceDiv, Nat.reducePow, Nat.reduceBEq, Int.reduceToNat, Int.reduceLE, Int.reduceLT, Int.reduceEq, Int.reduceAdd, Int.reduceMul, Int.reduceSub, Int.reduceNeg, Int.reduceNe, Tryd.TS, Tryd.EV, hma, u256_at n hj4', u256_list]
      repeat (refine And.intro (by omega) ?_)
      have hy : n / 2 ^ (64 * j) % 18446744073709551616 < 18446744073709551616 := Nat.mod_lt _ (by omega)
      have hstepn := mod_step n j
      generalize n / 2 ^ (64 * j) % 18446744073709551616 = y at *
      refine mul64 x y hx hy (fun l h hlh hl hh => ?_)
      have hpk := hP.lt (i + j)
      have hlen := hP.len
      simp -dsimp -implicitDefEqProofs (disch := omega) only [↓reduceIte, ↓gA, gB, refs, den, hasTy, Ty.cmp, Ty.depth, reduceCtorEq, Nat.reduceAdd, Nat.reduceSub, Nat.reduceMul, Nat.reduceEqDiff, Nat.reduceLT, Nat.reduceLeDiff, Nat.reduceMod, Nat.reduceDiv, Nat.reducePow, Nat.reduceBEq, Int.reduceToNat, Int.reduceLE, Int.reduceLT, Int.reduceEq, Int.reduceAdd, Int.reduceMul, Int.reduceSub, Int.reduceNeg, Int.reduceNe, Tryd.TS, Tryd.EV, nl_at]
      repeat (refine And.intro (by omega) ?_)
      refine add64 (p.getD (i + j) 0) l 0 hpk hl (by omega) (fun s1 c1 e1 l1 m1 => ?_)
      simp -dsimp -implicitDefEqProofs (disch := omega) only [↓reduceIte, ↓gA, gB, refs, den, hasTy, Ty.cmp, Ty.depth, reduceCtorEq, Nat.reduceAdd, Nat.reduceSub, Nat.reduceMul, Nat.reduceEqDiff, Nat.reduceLT, Nat.reduceLeDiff, Nat.reduceMod, Nat.reduceDiv, Nat.reducePow, Nat.reduceBEq, Int.reduceToNat, Int.reduceLE, Int.reduceLT, Int.reduceEq, Int.reduceAdd, Int.reduceMul, Int.reduceSub, Int.reduceNeg, Int.reduceNe, Tryd.TS, Tryd.EV]
      refine add64 s1 c 0 l1 hc (by omega) (fun s2 c2 e2 l2 m2 => ?_)
      have htot : s2 + 18446744073709551616 * (h + c1 + c2) = x * y + p.getD (i + j) 0 + c := by omega
      have hct := carry_lt hx hy hpk hc htot
      simp -dsimp -implicitDefEqProofs (disch := omega) only [↓reduceIte, ↓gA, gB, refs, den, hasTy, Ty.cmp, Ty.depth, reduceCtorEq, Nat.reduceAdd, Nat.reduceSub, Nat.reduceMul, Nat.reduceEqDiff, Nat.reduceLT, Nat.reduceLeDiff, Nat.reduceMod, Nat.reduceDiv, Nat.reducePow, Nat.reduceBEq, Int.reduceToNat, Int.reduceLE, Int.reduceLT, Int.reduceEq, Int.reduceAdd, Int.reduceMul, Int.reduceSub, Int.reduceNeg, Int.reduceNe, Tryd.TS, Tryd.EV, show IntKind.u64.wrap (IntKind.u64.wrap ((h : Int) + (c1 : Int)) + (c2 : Int)) = ((h + c1 + c2 : Nat) : Int) by rw [IntWalk.u64_in ((h : Int) + c1) (by omega), IntWalk.u64_in _ (by omega)]; omega, nl_set, nl_len]
      repeat (refine And.intro (by omega) ?_)
      refine ⟨(j + 1, p.set (i + j) s2, h + c1 + c2), ⟨by omega, hP.set l2, hct, fun k hk => ?_, ?_⟩, by omega, ?_⟩
      · have := hzp k hk
        rw [List.getD_eq_getElem?_getD, List.getElem?_set, if_neg (by omega), ← List.getD_eq_getElem?_getD]
        exact this
      · have hset := valL_set p (i + j) s2 (by omega)
        have := mul_step (K := 18446744073709551616 ^ (i + j)) (E := 18446744073709551616 ^ i) (J := 18446744073709551616 ^ j) (Nat.pow_add _ _ _) hset htot hV
        rw [← Nat.pow_succ, ← hstepn] at this
        exact this
      · refine sub_ren w0 hL0 [(0, 0), (1, 1), (2, 2), (3, 3), (4, 4)] rfl rfl (by simp [keysLt]) rfl ?_ ?_
        · simp [renTm, Go.SE.look, renTV, renSV]
        · simp [renOb, Go.SE.look, renSV]
    · have : j = 4 := by omega
      subst this
      have hlen := hP.len
      simp -dsimp -implicitDefEqProofs (disch := omega) only [↓reduceIte, ↓gA, gB, refs, den, hasTy, Ty.cmp, Ty.depth, reduceCtorEq, Nat.reduceAdd, Nat.reduceSub, Nat.reduceMul, Nat.reduceEqDiff, Nat.reduceLT, Nat.reduceLeDiff, Nat.reduceMod, Nat.reduceDiv, Nat.reducePow, Nat.reduceBEq, Int.reduceToNat, Int.reduceLE, Int.reduceLT, Int.reduceEq, Int.reduceAdd, Int.reduceMul, Int.reduceSub, Int.reduceNeg, Int.reduceNe, Tryd.TS, Tryd.EV, nl_set, nl_len]
      repeat (refine And.intro (by omega) ?_)
      refine ⟨(i + 1, p.set (i + 4) c), ⟨by omega, hP.set hc, fun k hk => ?_, ?_⟩, by simp; omega, ?_⟩
      · rw [List.getD_eq_getElem?_getD, List.getElem?_set, if_neg (by simp at hk; omega), ← List.getD_eq_getElem?_getD]
        exact hzp k (by simp at hk; omega)
      · have hset := valL_set p (i + 4) c (by omega)
        rw [hzp (i + 4) (by omega), Nat.zero_mul, Nat.add_zero, hV, hv, Nat.mod_eq_of_lt (a := n) hn] at hset
        show valL (p.set (i + 4) c) = _
        rw [hset, hstep, Nat.add_mul]
        congr 1
        rw [← Nat.mul_assoc, Nat.mul_comm x]
      · refine sub_ren w0 hL0 [(0, 0), (1, 1), (2, 2), (3, 3), (4, 4)] rfl rfl (by simp [keysLt]) rfl ?_ ?_
        · simp [renTm, Go.SE.look, renTV, renSV]
        · simp [renOb, Go.SE.look, renSV]
  · have : i = 4 := by omega
    subst this
    have hlen := hI.len
    rw [Nat.mod_eq_of_lt (a := m) hm] at hv
    have hlt := hI.lt
    match p0, hlen with
    | [a0, a1, a2, a3, a4, a5, a6, a7], _ =>
    have q0 := hlt 0
    have q1 := hlt 1
    have q2 := hlt 2
    have q3 := hlt 3
    have q4 := hlt 4
    have q5 := hlt 5
    have q6 := hlt 6
    have q7 := hlt 7
    simp only [List.getD_cons_zero, List.getD_cons_succ] at q0 q1 q2 q3 q4 q5 q6 q7
    simp only [valL] at hv
    simp only [nl, List.map_cons, List.map_nil]
    simp -dsimp -implicitDefEqProofs (disch := omega) only [↓reduceIte, ↓gA, gB, refs, den, hasTy, Ty.cmp, Ty.depth, reduceCtorEq, Nat.reduceAdd, Nat.reduceSub, Nat.reduceMul, Nat.reduceEqDiff, Nat.reduceLT, Nat.reduceLeDiff, Nat.reduceMod, Nat.reduceDiv, Nat.reducePow, Nat.reduceBEq, Int.reduceToNat, Int.reduceLE, Int.reduceLT, Int.reduceEq, Int.reduceAdd, Int.reduceMul, Int.reduceSub, Int.reduceNeg, Int.reduceNe, Tryd.TS, Tryd.EV]
    refine sdraw (id := 16) Tryd.hT (by kernel_rfl) [2] [] [0, 1, 2] (by kernel_rfl) (by kernel_rfl) (by kernel_rfl) ?_; simp only [gK, ↓reduceIte, Nat.reduceEqDiff]
    simp -dsimp -implicitDefEqProofs (disch := omega) only [↓reduceIte, ↓gA, gB, refs, den, hasTy, Ty.cmp, Ty.depth, reduceCtorEq, Nat.reduceAdd, Nat.reduceSub, Nat.reduceMul, Nat.reduceEqDiff, Nat.reduceLT, Nat.reduceLeDiff, Nat.reduceMod, Nat.reduceDiv, Nat.reducePow, Nat.reduceBEq, Int.reduceToNat, Int.reduceLE, Int.reduceLT, Int.reduceEq, Int.reduceAdd, Int.reduceMul, Int.reduceSub, Int.reduceNeg, Int.reduceNe, Tryd.TS, Tryd.EV, Nat.min_self]
    refine sdraw (id := 17) Tryd.hT (by kernel_rfl) [2] [] [0, 1, 2] (by kernel_rfl) (by kernel_rfl) (by kernel_rfl) ?_; simp only [gK, ↓reduceIte, Nat.reduceEqDiff]
    simp -dsimp -implicitDefEqProofs (disch := omega) only [↓reduceIte, ↓gA, gB, refs, den, hasTy, Ty.cmp, Ty.depth, reduceCtorEq, Nat.reduceAdd, Nat.reduceSub, Nat.reduceMul, Nat.reduceEqDiff, Nat.reduceLT, Nat.reduceLeDiff, Nat.reduceMod, Nat.reduceDiv, Nat.reducePow, Nat.reduceBEq, Int.reduceToNat, Int.reduceLE, Int.reduceLT, Int.reduceEq, Int.reduceAdd, Int.reduceMul, Int.reduceSub, Int.reduceNeg, Int.reduceNe, Tryd.TS, Tryd.EV, Nat.min_self]
    rw [u256_mk (n := m * n % 115792089237316195423570985008687907853269984665640564039457584007913129639936) q0 q1 q2 q3 (by omega), u256_mk (n := m * n / 115792089237316195423570985008687907853269984665640564039457584007913129639936) q4 q5 q6 q7 (by omega)]
end Go.Proofs
/- Numbers of 256 bits: division. -/
namespace Go.Proofs
open Go.SE

theorem u256_at0 (n : Nat) : D.at (u256 n) 0 = .n ((n % 18446744073709551616 : Nat) : Int) := rfl
theorem u256_at3 (n : Nat) : D.at (u256 n) 3 = .n ((n / 6277101735386680763835789423207666416102355444464034512896 % 18446744073709551616 : Nat) : Int) := rfl
theorem u256_or0 {n k : Nat} (hn : n < 115792089237316195423570985008687907853269984665640564039457584007913129639936) (h : n % 2 = 0) (hk : k < 2) : D.l ((u256 n).list.set 0 (.n (bits .or .u64 ((n % 18446744073709551616 : Nat) : Int) (k : Int)))) = u256 (n + k) := by
  have hL : n % 18446744073709551616 < 18446744073709551616 := Nat.mod_lt _ (by omega)
  rw [u64_or_nat _ _ hL (by omega)]
  have hor : n % 18446744073709551616 ||| k = n % 18446744073709551616 + k := by
    have := Nat.two_pow_add_eq_or_of_lt (i := 1) (b := k) (by omega) (n % 18446744073709551616 / 2)
    rw [show n % 18446744073709551616 = 2 ^ 1 * (n % 18446744073709551616 / 2) by omega, ← this]
  rw [hor]
  obtain ⟨a, b, c, d, ha, hb, hc, hd, en, eu⟩ := u256_open n hn
  rw [eu]
  simp only [D.list, List.set_cons_zero]
  exact u256_mk (by omega) hb hc hd (by omega)

theorem u256_or1 {n : Nat} (hn : n < 115792089237316195423570985008687907853269984665640564039457584007913129639936) (h : n % 2 = 0) : D.l ((u256 n).list.set 0 (.n (bits .or .u64 ((n % 18446744073709551616 : Nat) : Int) 1))) = u256 (n + 1) := u256_or0 (k := 1) hn h (by omega)
theorem div_limb (n k : Nat) : n / 2 ^ (64 * k) = 18446744073709551616 * (n / 2 ^ (64 * (k + 1))) + n / 2 ^ (64 * k) % 18446744073709551616 := by
  have : n / 2 ^ (64 * (k + 1)) = n / 2 ^ (64 * k) / 18446744073709551616 := by rw [show 64 * (k + 1) = 64 * k + 64 by omega, Nat.pow_add, ← Nat.div_div_eq_div_mul]
  rw [this]
  exact (Nat.div_add_mod _ _).symm

theorem limb_less {v b k : Nat} (h : v / 2 ^ (64 * (k + 1)) = b / 2 ^ (64 * (k + 1))) (hl : v / 2 ^ (64 * k) % 18446744073709551616 < b / 2 ^ (64 * k) % 18446744073709551616) : v < b := by
  have h1 := div_limb v k
  have h2 := div_limb b k
  have : v / 2 ^ (64 * k) < b / 2 ^ (64 * k) := by omega
  rcases Nat.lt_or_ge v b with hh | hh
  · exact hh
  · have := Nat.div_le_div_right (c := 2 ^ (64 * k)) hh
    omega
theorem limb_eq {v b k : Nat} (h : v / 2 ^ (64 * (k + 1)) = b / 2 ^ (64 * (k + 1))) (hl : v / 2 ^ (64 * k) % 18446744073709551616 = b / 2 ^ (64 * k) % 18446744073709551616) : v / 2 ^ (64 * k) = b / 2 ^ (64 * k) := by
  have h1 := div_limb v k
  have h2 := div_limb b k
  omega

/-- Where a division stands: the bits from i on are done. -/
structure DivI (hi lo b i Q r : Nat) : Prop where
  le : i ≤ 256
  eq : hi * 2 ^ (256 - i) + lo / 2 ^ i = Q * b + r
  lt : r < b

theorem DivI.q_lt {hi lo b i Q r : Nat} (h : DivI hi lo b i Q r) (hhi : hi < b) (hlo : lo < 115792089237316195423570985008687907853269984665640564039457584007913129639936) : 2 ^ i * Q < 115792089237316195423570985008687907853269984665640564039457584007913129639936 := by
  obtain ⟨h1, h2, h3⟩ := h
  have e : (115792089237316195423570985008687907853269984665640564039457584007913129639936 : Nat) = 2 ^ i * 2 ^ (256 - i) := by rw [← Nat.pow_add, show i + (256 - i) = 256 by omega]
  have hl : lo / 2 ^ i < 2 ^ (256 - i) := Nat.div_lt_of_lt_mul (by rw [← e]; exact hlo)
  have h4 : (hi + 1) * 2 ^ (256 - i) ≤ b * 2 ^ (256 - i) := Nat.mul_le_mul_right _ hhi
  rw [Nat.add_mul, Nat.one_mul] at h4
  have h5 : Q * b < 2 ^ (256 - i) * b := by rw [Nat.mul_comm (2 ^ (256 - i))]; omega
  have h6 : Q < 2 ^ (256 - i) := Nat.lt_of_mul_lt_mul_right h5
  rw [e]
  exact Nat.mul_lt_mul_of_pos_left h6 (Nat.two_pow_pos _)

theorem DivI.eq' {hi lo b k Q r : Nat} (h : DivI hi lo b (k + 1) Q r) : hi * 2 ^ (256 - k) + lo / 2 ^ k = 2 * (Q * b) + (2 * r + lo / 2 ^ k % 2) := by
  obtain ⟨h1, h2, h3⟩ := h
  have e1 : hi * 2 ^ (256 - k) = 2 * (hi * 2 ^ (256 - (k + 1))) := by
    rw [show 256 - k = (256 - (k + 1)) + 1 by omega, Nat.pow_succ]
    rw [Nat.mul_comm 2, Nat.mul_assoc]
  have e2 : lo / 2 ^ (k + 1) = lo / 2 ^ k / 2 := by rw [Nat.pow_succ, Nat.div_div_eq_div_mul]
  rw [e2] at h2
  omega

theorem DivI.less {hi lo b k Q r : Nat} (h : DivI hi lo b (k + 1) Q r) (hl : 2 * r + lo / 2 ^ k % 2 < b) : DivI hi lo b k (2 * Q) (2 * r + lo / 2 ^ k % 2) := by
  have e := h.eq'
  refine ⟨by have := h.le; omega, ?_, hl⟩
  rw [e, Nat.mul_assoc]
theorem DivI.more {hi lo b k Q r : Nat} (h : DivI hi lo b (k + 1) Q r) (hl : b ≤ 2 * r + lo / 2 ^ k % 2) : DivI hi lo b k (2 * Q + 1) (2 * r + lo / 2 ^ k % 2 - b) := by
  have e := h.eq'
  have := h.lt
  refine ⟨by have := h.le; omega, ?_, by omega⟩
  rw [e, Nat.add_mul, Nat.one_mul, Nat.mul_assoc]
  omega
theorem DivI.done {hi lo b Q r : Nat} (h : DivI hi lo b 0 Q r) : Q = (hi * 115792089237316195423570985008687907853269984665640564039457584007913129639936 + lo) / b ∧ r = (hi * 115792089237316195423570985008687907853269984665640564039457584007913129639936 + lo) % b := by
  obtain ⟨_, h2, h3⟩ := h
  have e : hi * 115792089237316195423570985008687907853269984665640564039457584007913129639936 + lo = Q * b + r := by rw [← h2]; simp
  rw [e, Nat.mul_comm Q, Nat.mul_add_div (by omega), Nat.mul_add_mod, Nat.div_eq_of_lt h3, Nat.mod_eq_of_lt h3]
  exact ⟨rfl, rfl⟩

set_option maxHeartbeats 2000000 in
theorem wdivRef (hi lo b : Nat) (hhi : hi < b) (hlo : lo < 115792089237316195423570985008687907853269984665640564039457584007913129639936) (hb : b < 115792089237316195423570985008687907853269984665640564039457584007913129639936) : SCall Tryd.prog 108 [(.arr 4 (.int .u64), u256 hi), (.arr 4 (.int .u64), u256 lo), (.arr 4 (.int .u64), u256 b)]
    (fun rs => rs = [.d (.arr 4 (.int .u64)) (u256 ((hi * 115792089237316195423570985008687907853269984665640564039457584007913129639936 + lo) / b)), .d (.arr 4 (.int .u64)) (u256 ((hi * 115792089237316195423570985008687907853269984665640564039457584007913129639936 + lo) % b)), .d .bool (.b true)]) := by
  refine scall_intro (n := 61) (rl := [.cell 6 45, .cell 7 45, .tmp 8]) (us := [45, 45, 4]) Tryd.hT Tryd.func108 rfl rfl rfl rfl rfl (Nat.le_of_ble_eq_true rfl) ?_
  intro w0 hL0
  simp -dsimp -implicitDefEqProofs (disch := omega) only [↓reduceIte, ↓gA, gB, refs, den, hasTy, Ty.cmp, Ty.depth, reduceCtorEq, Nat.reduceAdd, Nat.reduceSub, Nat.reduceMul, Nat.reduceEqDiff, Nat.reduceLT, Nat.reduceLeDiff, Nat.reduceMod, Nat.reduceDiv, Nat.reducePow, Nat.reduceBEq, Int.reduceToNat, Int.reduceLE, Int.reduceLT, Int.reduceEq, Int.reduceAdd, Int.reduceMul, Int.reduceSub, Int.reduceNeg, Int.reduceNe, Tryd.TS, Tryd.EV, rep4]
  first | (with_reducible refine HCall_mono (wcmpRef b hi (by omega) (by omega)) ?_; rintro rs rfl) | (with_reducible refine HCallF_mono (wcmpRef b hi (by omega) (by omega)) (by first | rfl | simp [flatR, RV.flat, RV.isD, Ty.flat]) ?_) | (refine SCall.mono (wcmpRef b hi (by omega) (by omega)) ?_; rintro rs rfl)
  rw [if_neg (show ¬ b < hi by omega), if_pos hhi]
  simp -dsimp -implicitDefEqProofs (disch := omega) only [↓reduceIte, ↓gA, gB, refs, den, hasTy, Ty.cmp, Ty.depth, reduceCtorEq, Nat.reduceAdd, Nat.reduceSub, Nat.reduceMul, Nat.reduceEqDiff, Nat.reduceLT, Nat.reduceLeDiff, Nat.reduceMod, Nat.reduceDiv, Nat.reducePow, Nat.reduceBEq, Int.reduceToNat, Int.reduceLE, Int.reduceLT, Int.reduceEq, Int.reduceAdd, Int.reduceMul, Int.reduceSub, Int.reduceNeg, Int.reduceNe, Tryd.TS, Tryd.EV, rep4]
  refine sloop Tryd.hT (α := Nat × Nat × Nat) (fun x => ⟨61, [(9, .v (.d (.int .i64) (.n ((x.1 : Int) - 1)))), (3, .v (.ptr 0 [])), (4, .v (.ptr 1 [])), (5, .v (.ptr 2 [])), (6, .v (.ptr 3 [])), (7, .v (.ptr 4 []))],
      [(0, ⟨.arr 4 (.int .u64), .d (.arr 4 (.int .u64)) (u256 hi)⟩), (1, ⟨.arr 4 (.int .u64), .d (.arr 4 (.int .u64)) (u256 lo)⟩), (2, ⟨.arr 4 (.int .u64), .d (.arr 4 (.int .u64)) (u256 b)⟩), (3, ⟨.arr 4 (.int .u64), .d (.arr 4 (.int .u64)) (u256 (2 ^ x.1 * x.2.1))⟩), (4, ⟨.arr 4 (.int .u64), .d (.arr 4 (.int .u64)) (u256 x.2.2)⟩)], 5⟩)
    (fun x => DivI hi lo b x.1 x.2.1 x.2.2) (fun x => x.1) (256, 0, hi) ?_ ⟨Nat.le_refl _, by simp only [Nat.sub_self, Nat.pow_zero, Nat.mul_one, Nat.zero_mul, Nat.zero_add]; rw [show (2 : Nat) ^ 256 = 115792089237316195423570985008687907853269984665640564039457584007913129639936 from rfl, Nat.div_eq_of_lt hlo]; rfl, hhi⟩ ?_
  · refine sub_ren w0 hL0 [(0, 0), (1, 1), (2, 2), (3, 3), (4, 4)] rfl rfl (by simp [keysLt]) rfl ?_ ?_
    · simp [renTm, Go.SE.look, renTV, renSV]
    · simp [renOb, Go.SE.look, renSV, u256_zero]
  rintro ⟨i, Q, r⟩ hI
  simp only at hI
  have hr := hI.lt
  have hq := hI.q_lt hhi hlo
  have hile := hI.le
  simp -dsimp -implicitDefEqProofs (disch := omega) only [↓reduceIte, ↓gA, gB, refs, den, hasTy, Ty.cmp, Ty.depth, reduceCtorEq, Nat.reduceAdd, Nat.reduceSub, Nat.reduceMul, Nat.reduceEqDiff, Nat.reduceLT, Nat.reduceLeDiff, Nat.reduceMod, Nat.reduceDiv, Nat.reducePow, Nat.reduceBEq, Int.reduceToNat, Int.reduceLE, Int.reduceLT, Int.reduceEq, Int.reduceAdd, Int.reduceMul, Int.reduceSub, Int.reduceNeg, Int.reduceNe, Tryd.TS, Tryd.EV]
  refine HIf_dec (fun h => ?_) (fun h => ?_)
  · obtain ⟨k, rfl⟩ : ∃ k, i = k + 1 := ⟨i - 1, by omega⟩
    rw [show (((k + 1 : Nat) : Int) - 1) = (k : Int) by omega]
    simp -dsimp -implicitDefEqProofs (disch := omega) only [↓reduceIte, ↓gA, gB, refs, den, hasTy, Ty.cmp, Ty.depth, reduceCtorEq, Nat.reduceAdd, Nat.reduceSub, Nat.reduceMul, Nat.reduceEqDiff, Nat.reduceLT, Nat.reduceLeDiff, Nat.reduceMod, Nat.reduceDiv, Nat.reducePow, Nat.reduceBEq, Int.reduceToNat, Int.reduceLE, Int.reduceLT, Int.reduceEq, Int.reduceAdd, Int.reduceMul, Int.reduceSub, Int.reduceNeg, Int.reduceNe, Tryd.TS, Tryd.EV]
    first | (with_reducible refine HCall_mono (wbitRef r 255 (by omega)) ?_; rintro rs rfl) | (with_reducible refine HCallF_mono (wbitRef r 255 (by omega)) (by first | rfl | simp [flatR, RV.flat, RV.isD, Ty.flat]) ?_) | (refine SCall.mono (wbitRef r 255 (by omega)) ?_; rintro rs rfl)
    simp -dsimp -implicitDefEqProofs (disch := omega) only [↓reduceIte, ↓gA, gB, refs, den, hasTy, Ty.cmp, Ty.depth, reduceCtorEq, Nat.reduceAdd, Nat.reduceSub, Nat.reduceMul, Nat.reduceEqDiff, Nat.reduceLT, Nat.reduceLeDiff, Nat.reduceMod, Nat.reduceDiv, Nat.reducePow, Nat.reduceBEq, Int.reduceToNat, Int.reduceLE, Int.reduceLT, Int.reduceEq, Int.reduceAdd, Int.reduceMul, Int.reduceSub, Int.reduceNeg, Int.reduceNe, Tryd.TS, Tryd.EV]
    first | (with_reducible refine HCall_mono (waddRef r r (by omega) (by omega)) ?_; rintro rs rfl) | (with_reducible refine HCallF_mono (waddRef r r (by omega) (by omega)) (by first | rfl | simp [flatR, RV.flat, RV.isD, Ty.flat]) ?_) | (refine SCall.mono (waddRef r r (by omega) (by omega)) ?_; rintro rs rfl)
    simp -dsimp -implicitDefEqProofs (disch := omega) only [↓reduceIte, ↓gA, gB, refs, den, hasTy, Ty.cmp, Ty.depth, reduceCtorEq, Nat.reduceAdd, Nat.reduceSub, Nat.reduceMul, Nat.reduceEqDiff, Nat.reduceLT, Nat.reduceLeDiff, Nat.reduceMod, Nat.reduceDiv, Nat.reducePow, Nat.reduceBEq, Int.reduceToNat, Int.reduceLE, Int.reduceLT, Int.reduceEq, Int.reduceAdd, Int.reduceMul, Int.reduceSub, Int.reduceNeg, Int.reduceNe, Tryd.TS, Tryd.EV]
    first | (with_reducible refine HCall_mono (wbitRef lo k (by omega)) ?_; rintro rs rfl) | (with_reducible refine HCallF_mono (wbitRef lo k (by omega)) (by first | rfl | simp [flatR, RV.flat, RV.isD, Ty.flat]) ?_) | (refine SCall.mono (wbitRef lo k (by omega)) ?_; rintro rs rfl)
    have hk4 : k / 64 < 4 := by omega
    have hclear : 2 ^ (k + 1) * Q / 2 ^ k % 2 = 0 := by
      rw [Nat.pow_succ, Nat.mul_assoc, Nat.mul_div_cancel_left _ (Nat.two_pow_pos k)]; omega
    have hset := u256_set hq (show k < 256 by omega) hclear
    have hqe : 2 ^ (k + 1) * Q + 2 ^ k = 2 ^ k * (2 * Q + 1) := by rw [Nat.mul_add, Nat.mul_one, Nat.pow_succ, Nat.mul_assoc]
    have hqe2 : 2 ^ (k + 1) * Q = 2 ^ k * (2 * Q) := by rw [Nat.pow_succ, Nat.mul_assoc]
    have hbit2 : lo / 2 ^ k % 2 < 2 := Nat.mod_lt _ (by omega)
    refine HIf_dec (a := ()) (b := ()) (fun hbit => ?_) (fun hbit => ?_)
    all_goals first
      | (simp -dsimp -implicitDefEqProofs (disch := omega) only [↓reduceIte, ↓gA, gB, refs, den, hasTy, Ty.cmp, Ty.depth, reduceCtorEq, Nat.reduceAdd, Nat.reduceSub, Nat.reduceMul, Nat.reduceEqDiff, Nat.reduceLT, Nat.reduceLeDiff, Nat.reduceMod, Nat.reduceDiv, Nat.reducePow, Nat.reduceBEq, Int.reduceToNat, Int.reduceLE, Int.reduceLT, Int.reduceEq, Int.reduceAdd, Int.reduceMul, Int.reduceSub, Int.reduceNeg, Int.reduceNe, Tryd.TS, Tryd.EV, u256_at0, u256_list, u256_or1 (n := (r + r) % 115792089237316195423570985008687907853269984665640564039457584007913129639936) (Nat.mod_lt _ (by omega)) (by omega)]
         rw [show (r + r) % 115792089237316195423570985008687907853269984665640564039457584007913129639936 + 1 = (2 * r + lo / 2 ^ k % 2) % 115792089237316195423570985008687907853269984665640564039457584007913129639936 by omega])
      | (simp -dsimp -implicitDefEqProofs (disch := omega) only [↓reduceIte, ↓gA, gB, refs, den, hasTy, Ty.cmp, Ty.depth, reduceCtorEq, Nat.reduceAdd, Nat.reduceSub, Nat.reduceMul, Nat.reduceEqDiff, Nat.reduceLT, Nat.reduceLeDiff, Nat.reduceMod, Nat.reduceDiv, Nat.reducePow, Nat.reduceBEq, Int.reduceToNat, Int.reduceLE, Int.reduceLT, Int.reduceEq, Int.reduceAdd, Int.reduceMul, Int.reduceSub, Int.reduceNeg, Int.reduceNe, Tryd.TS, Tryd.EV]
         rw [show (r + r) % 115792089237316195423570985008687907853269984665640564039457584007913129639936 = (2 * r + lo / 2 ^ k % 2) % 115792089237316195423570985008687907853269984665640564039457584007913129639936 by omega])
    all_goals refine HIf_dec (fun hov => ?_) (fun hov => ?_)
    · have hge : b ≤ 2 * r + lo / 2 ^ k % 2 := by omega
      simp -dsimp -implicitDefEqProofs (disch := omega) only [↓reduceIte, ↓gA, gB, refs, den, hasTy, Ty.cmp, Ty.depth, reduceCtorEq, Nat.reduceAdd, Nat.reduceSub, Nat.reduceMul, Nat.reduceEqDiff, Nat.reduceLT, Nat.reduceLeDiff, Nat.reduceMod, Nat.reduceDiv, Nat.reducePow, Nat.reduceBEq, Int.reduceToNat, Int.reduceLE, Int.reduceLT, Int.reduceEq, Int.reduceAdd, Int.reduceMul, Int.reduceSub, Int.reduceNeg, Int.reduceNe, Tryd.TS, Tryd.EV]
      first | (with_reducible refine HCall_mono (wsubRef ((2 * r + lo / 2 ^ k % 2) % 115792089237316195423570985008687907853269984665640564039457584007913129639936) b (Nat.mod_lt _ (by omega)) hb) ?_; rintro rs rfl) | (with_reducible refine HCallF_mono (wsubRef ((2 * r + lo / 2 ^ k % 2) % 115792089237316195423570985008687907853269984665640564039457584007913129639936) b (Nat.mod_lt _ (by omega)) hb) (by first | rfl | simp [flatR, RV.flat, RV.isD, Ty.flat]) ?_) | (refine SCall.mono (wsubRef ((2 * r + lo / 2 ^ k % 2) % 115792089237316195423570985008687907853269984665640564039457584007913129639936) b (Nat.mod_lt _ (by omega)) hb) ?_; rintro rs rfl)
      rw [show ((2 * r + lo / 2 ^ k % 2) % 115792089237316195423570985008687907853269984665640564039457584007913129639936 + 115792089237316195423570985008687907853269984665640564039457584007913129639936 - b) % 115792089237316195423570985008687907853269984665640564039457584007913129639936 = 2 * r + lo / 2 ^ k % 2 - b by omega]
      simp -dsimp -implicitDefEqProofs (disch := omega) only [↓reduceIte, ↓gA, gB, refs, den, hasTy, Ty.cmp, Ty.depth, reduceCtorEq, Nat.reduceAdd, Nat.reduceSub, Nat.reduceMul, Nat.reduceEqDiff, Nat.reduceLT, Nat.reduceLeDiff, Nat.reduceMod, Nat.reduceDiv, Nat.reducePow, Nat.reduceBEq, Int.reduceToNat, Int.reduceLE, Int.reduceLT, Int.reduceEq, Int.reduceAdd, Int.reduceMul, Int.reduceSub, Int.reduceNeg, Int.reduceNe, Tryd.TS, Tryd.EV]
      refine sdraw (id := 13) Tryd.hT (by kernel_rfl) [9] [] [0, 1, 2, 3, 4, 5, 6, 7, 8, 9] (by kernel_rfl) (by kernel_rfl) (by kernel_rfl) ?_; simp only [gK, ↓reduceIte, Nat.reduceEqDiff]
      simp -dsimp -implicitDefEqProofs (disch := omega) only [↓reduceIte, ↓gA, gB, refs, den, hasTy, Ty.cmp, Ty.depth, reduceCtorEq, Nat.reduceAdd, Nat.reduceSub, Nat.reduceMul, Nat.reduceEqDiff, Nat.reduceLT, Nat.reduceLeDiff, Nat.reduceMod, Nat.reduceDiv, Nat.reducePow, Nat.reduceBEq, Int.reduceToNat, Int.reduceLE, Int.reduceLT, Int.reduceEq, Int.reduceAdd, Int.reduceMul, Int.reduceSub, Int.reduceNeg, Int.reduceNe, Tryd.TS, Tryd.EV, td64, tm64, u256_at _ hk4, u256_list, hset]
      repeat (refine And.intro (by omega) ?_)
      refine ⟨(k, 2 * Q + 1, 2 * r + lo / 2 ^ k % 2 - b), hI.more hge, Nat.lt_succ_self k, ?_⟩
      refine sub_ren w0 hL0 [(0, 0), (1, 1), (2, 2), (3, 3), (4, 4)] rfl rfl (by simp [keysLt]) rfl ?_ ?_
      · simp [renTm, Go.SE.look, renTV, renSV]
      · simp [renOb, Go.SE.look, renSV, hqe]
    · simp -dsimp -implicitDefEqProofs (disch := omega) only [↓reduceIte, ↓gA, gB, refs, den, hasTy, Ty.cmp, Ty.depth, reduceCtorEq, Nat.reduceAdd, Nat.reduceSub, Nat.reduceMul, Nat.reduceEqDiff, Nat.reduceLT, Nat.reduceLeDiff, Nat.reduceMod, Nat.reduceDiv, Nat.reducePow, Nat.reduceBEq, Int.reduceToNat, Int.reduceLE, Int.reduceLT, Int.reduceEq, Int.reduceAdd, Int.reduceMul, Int.reduceSub, Int.reduceNeg, Int.reduceNe, Tryd.TS, Tryd.EV]
      first | (with_reducible refine HCall_mono (wcmpRef ((2 * r + lo / 2 ^ k % 2) % 115792089237316195423570985008687907853269984665640564039457584007913129639936) b (Nat.mod_lt _ (by omega)) hb) ?_; rintro rs rfl) | (with_reducible refine HCallF_mono (wcmpRef ((2 * r + lo / 2 ^ k % 2) % 115792089237316195423570985008687907853269984665640564039457584007913129639936) b (Nat.mod_lt _ (by omega)) hb) (by first | rfl | simp [flatR, RV.flat, RV.isD, Ty.flat]) ?_) | (refine SCall.mono (wcmpRef ((2 * r + lo / 2 ^ k % 2) % 115792089237316195423570985008687907853269984665640564039457584007913129639936) b (Nat.mod_lt _ (by omega)) hb) ?_; rintro rs rfl)
      simp -dsimp -implicitDefEqProofs (disch := omega) only [↓reduceIte, ↓gA, gB, refs, den, hasTy, Ty.cmp, Ty.depth, reduceCtorEq, Nat.reduceAdd, Nat.reduceSub, Nat.reduceMul, Nat.reduceEqDiff, Nat.reduceLT, Nat.reduceLeDiff, Nat.reduceMod, Nat.reduceDiv, Nat.reducePow, Nat.reduceBEq, Int.reduceToNat, Int.reduceLE, Int.reduceLT, Int.reduceEq, Int.reduceAdd, Int.reduceMul, Int.reduceSub, Int.reduceNeg, Int.reduceNe, Tryd.TS, Tryd.EV]
      have hT : (2 * r + lo / 2 ^ k % 2) % 115792089237316195423570985008687907853269984665640564039457584007913129639936 = 2 * r + lo / 2 ^ k % 2 := by omega
      refine HIf_dec (fun hc => ?_) (fun hc => ?_)
      · have hge : b ≤ 2 * r + lo / 2 ^ k % 2 := by
          rw [hT] at hc
          split at hc <;> omega
        simp -dsimp -implicitDefEqProofs (disch := omega) only [↓reduceIte, ↓gA, gB, refs, den, hasTy, Ty.cmp, Ty.depth, reduceCtorEq, Nat.reduceAdd, Nat.reduceSub, Nat.reduceMul, Nat.reduceEqDiff, Nat.reduceLT, Nat.reduceLeDiff, Nat.reduceMod, Nat.reduceDiv, Nat.reducePow, Nat.reduceBEq, Int.reduceToNat, Int.reduceLE, Int.reduceLT, Int.reduceEq, Int.reduceAdd, Int.reduceMul, Int.reduceSub, Int.reduceNeg, Int.reduceNe, Tryd.TS, Tryd.EV]
        first | (with_reducible refine HCall_mono (wsubRef ((2 * r + lo / 2 ^ k % 2) % 115792089237316195423570985008687907853269984665640564039457584007913129639936) b (Nat.mod_lt _ (by omega)) hb) ?_; rintro rs rfl) | (with_reducible refine HCallF_mono (wsubRef ((2 * r + lo / 2 ^ k % 2) % 115792089237316195423570985008687907853269984665640564039457584007913129639936) b (Nat.mod_lt _ (by omega)) hb) (by first | rfl | simp [flatR, RV.flat, RV.isD, Ty.flat]) ?_) | (refine SCall.mono (wsubRef ((2 * r + lo / 2 ^ k % 2) % 115792089237316195423570985008687907853269984665640564039457584007913129639936) b (Nat.mod_lt _ (by omega)) hb) ?_; rintro rs rfl)
        rw [show ((2 * r + lo / 2 ^ k % 2) % 115792089237316195423570985008687907853269984665640564039457584007913129639936 + 115792089237316195423570985008687907853269984665640564039457584007913129639936 - b) % 115792089237316195423570985008687907853269984665640564039457584007913129639936 = 2 * r + lo / 2 ^ k % 2 - b by omega]
        simp -dsimp -implicitDefEqProofs (disch := omega) only [↓reduceIte, ↓gA, gB, refs, den, hasTy, Ty.cmp, Ty.depth, reduceCtorEq, Nat.reduceAdd, Nat.reduceSub, Nat.reduceMul, Nat.reduceEqDiff, Nat.reduceLT, Nat.reduceLeDiff, Nat.reduceMod, Nat.reduceDiv, Nat.reducePow, Nat.reduceBEq, Int.reduceToNat, Int.reduceLE, Int.reduceLT, Int.reduceEq, Int.reduceAdd, Int.reduceMul, Int.reduceSub, Int.reduceNeg, Int.reduceNe, Tryd.TS, Tryd.EV]
        refine sdraw (id := 13) Tryd.hT (by kernel_rfl) [9] [] [0, 1, 2, 3, 4, 5, 6, 7, 8, 9] (by kernel_rfl) (by kernel_rfl) (by kernel_rfl) ?_; simp only [gK, ↓reduceIte, Nat.reduceEqDiff]
        simp -dsimp -implicitDefEqProofs (disch := omega) only [↓reduceIte, ↓gA, gB, refs, den, hasTy, Ty.cmp, Ty.depth, reduceCtorEq, Nat.reduceAdd, Nat.reduceSub, Nat.reduceMul, Nat.reduceEqDiff, Nat.reduceLT, Nat.reduceLeDiff, Nat.reduceMod, Nat.reduceDiv, Nat.reducePow, Nat.reduceBEq, Int.reduceToNat, Int.reduceLE, Int.reduceLT, Int.reduceEq, Int.reduceAdd, Int.reduceMul, Int.reduceSub, Int.reduceNeg, Int.reduceNe, Tryd.TS, Tryd.EV, td64, tm64, u256_at _ hk4, u256_list, hset]
        repeat (refine And.intro (by omega) ?_)
        refine ⟨(k, 2 * Q + 1, 2 * r + lo / 2 ^ k % 2 - b), hI.more hge, Nat.lt_succ_self k, ?_⟩
        refine sub_ren w0 hL0 [(0, 0), (1, 1), (2, 2), (3, 3), (4, 4)] rfl rfl (by simp [keysLt]) rfl ?_ ?_
        · simp [renTm, Go.SE.look, renTV, renSV]
        · simp [renOb, Go.SE.look, renSV, hqe]
      · have hlt : 2 * r + lo / 2 ^ k % 2 < b := by
          rw [hT] at hc
          split at hc
          · assumption
          · split at hc <;> omega
        simp -dsimp -implicitDefEqProofs (disch := omega) only [↓reduceIte, ↓gA, gB, refs, den, hasTy, Ty.cmp, Ty.depth, reduceCtorEq, Nat.reduceAdd, Nat.reduceSub, Nat.reduceMul, Nat.reduceEqDiff, Nat.reduceLT, Nat.reduceLeDiff, Nat.reduceMod, Nat.reduceDiv, Nat.reducePow, Nat.reduceBEq, Int.reduceToNat, Int.reduceLE, Int.reduceLT, Int.reduceEq, Int.reduceAdd, Int.reduceMul, Int.reduceSub, Int.reduceNeg, Int.reduceNe, Tryd.TS, Tryd.EV]
        refine ⟨(k, 2 * Q, 2 * r + lo / 2 ^ k % 2), hI.less hlt, Nat.lt_succ_self k, ?_⟩
        refine sub_ren w0 hL0 [(0, 0), (1, 1), (2, 2), (3, 3), (4, 4)] rfl rfl (by simp [keysLt]) rfl ?_ ?_
        · simp [renTm, Go.SE.look, renTV, renSV]
        · simp [renOb, Go.SE.look, renSV, hqe2, hT]
    · have hge : b ≤ 2 * r + lo / 2 ^ k % 2 := by omega
      simp -dsimp -implicitDefEqProofs (disch := omega) only [↓reduceIte, ↓gA, gB, refs, den, hasTy, Ty.cmp, Ty.depth, reduceCtorEq, Nat.reduceAdd, Nat.reduceSub, Nat.reduceMul, Nat.reduceEqDiff, Nat.reduceLT, Nat.reduceLeDiff, Nat.reduceMod, Nat.reduceDiv, Nat.reducePow, Nat.reduceBEq, Int.reduceToNat, Int.reduceLE, Int.reduceLT, Int.reduceEq, Int.reduceAdd, Int.reduceMul, Int.reduceSub, Int.reduceNeg, Int.reduceNe, Tryd.TS, Tryd.EV]
      first | (with_reducible refine HCall_mono (wsubRef ((2 * r + lo / 2 ^ k % 2) % 115792089237316195423570985008687907853269984665640564039457584007913129639936) b (Nat.mod_lt _ (by omega)) hb) ?_; rintro rs rfl) | (with_reducible refine HCallF_mono (wsubRef ((2 * r + lo / 2 ^ k % 2) % 115792089237316195423570985008687907853269984665640564039457584007913129639936) b (Nat.mod_lt _ (by omega)) hb) (by first | rfl | simp [flatR, RV.flat, RV.isD, Ty.flat]) ?_) | (refine SCall.mono (wsubRef ((2 * r + lo / 2 ^ k % 2) % 115792089237316195423570985008687907853269984665640564039457584007913129639936) b (Nat.mod_lt _ (by omega)) hb) ?_; rintro rs rfl)
      rw [show ((2 * r + lo / 2 ^ k % 2) % 115792089237316195423570985008687907853269984665640564039457584007913129639936 + 115792089237316195423570985008687907853269984665640564039457584007913129639936 - b) % 115792089237316195423570985008687907853269984665640564039457584007913129639936 = 2 * r + lo / 2 ^ k % 2 - b by omega]
      simp -dsimp -implicitDefEqProofs (disch := omega) only [↓reduceIte, ↓gA, gB, refs, den, hasTy, Ty.cmp, Ty.depth, reduceCtorEq, Nat.reduceAdd, Nat.reduceSub, Nat.reduceMul, Nat.reduceEqDiff, Nat.reduceLT, Nat.reduceLeDiff, Nat.reduceMod, Nat.reduceDiv, Nat.reducePow, Nat.reduceBEq, Int.reduceToNat, Int.reduceLE, Int.reduceLT, Int.reduceEq, Int.reduceAdd, Int.reduceMul, Int.reduceSub, Int.reduceNeg, Int.reduceNe, Tryd.TS, Tryd.EV]
      refine sdraw (id := 13) Tryd.hT (by kernel_rfl) [9] [] [0, 1, 2, 3, 4, 5, 6, 7, 8, 9] (by kernel_rfl) (by kernel_rfl) (by kernel_rfl) ?_; simp only [gK, ↓reduceIte, Nat.reduceEqDiff]
      simp -dsimp -implicitDefEqProofs (disch := omega) only [↓reduceIte, ↓gA, gB, refs, den, hasTy, Ty.cmp, Ty.depth, reduceCtorEq, Nat.reduceAdd, Nat.reduceSub, Nat.reduceMul, Nat.reduceEqDiff, Nat.reduceLT, Nat.reduceLeDiff, Nat.reduceMod, Nat.reduceDiv, Nat.reducePow, Nat.reduceBEq, Int.reduceToNat, Int.reduceLE, Int.reduceLT, Int.reduceEq, Int.reduceAdd, Int.reduceMul, Int.reduceSub, Int.reduceNeg, Int.reduceNe, Tryd.TS, Tryd.EV, td64, tm64, u256_at _ hk4, u256_list, hset]
      repeat (refine And.intro (by omega) ?_)
      refine ⟨(k, 2 * Q + 1, 2 * r + lo / 2 ^ k % 2 - b), hI.more hge, Nat.lt_succ_self k, ?_⟩
      refine sub_ren w0 hL0 [(0, 0), (1, 1), (2, 2), (3, 3), (4, 4)] rfl rfl (by simp [keysLt]) rfl ?_ ?_
      · simp [renTm, Go.SE.look, renTV, renSV]
      · simp [renOb, Go.SE.look, renSV, hqe]
    · simp -dsimp -implicitDefEqProofs (disch := omega) only [↓reduceIte, ↓gA, gB, refs, den, hasTy, Ty.cmp, Ty.depth, reduceCtorEq, Nat.reduceAdd, Nat.reduceSub, Nat.reduceMul, Nat.reduceEqDiff, Nat.reduceLT, Nat.reduceLeDiff, Nat.reduceMod, Nat.reduceDiv, Nat.reducePow, Nat.reduceBEq, Int.reduceToNat, Int.reduceLE, Int.reduceLT, Int.reduceEq, Int.reduceAdd, Int.reduceMul, Int.reduceSub, Int.reduceNeg, Int.reduceNe, Tryd.TS, Tryd.EV]
      first | (with_reducible refine HCall_mono (wcmpRef ((2 * r + lo / 2 ^ k % 2) % 115792089237316195423570985008687907853269984665640564039457584007913129639936) b (Nat.mod_lt _ (by omega)) hb) ?_; rintro rs rfl) | (with_reducible refine HCallF_mono (wcmpRef ((2 * r + lo / 2 ^ k % 2) % 115792089237316195423570985008687907853269984665640564039457584007913129639936) b (Nat.mod_lt _ (by omega)) hb) (by first | rfl | simp [flatR, RV.flat, RV.isD, Ty.flat]) ?_) | (refine SCall.mono (wcmpRef ((2 * r + lo / 2 ^ k % 2) % 115792089237316195423570985008687907853269984665640564039457584007913129639936) b (Nat.mod_lt _ (by omega)) hb) ?_; rintro rs rfl)
      simp -dsimp -implicitDefEqProofs (disch := omega) only [↓reduceIte, ↓gA, gB, refs, den, hasTy, Ty.cmp, Ty.depth, reduceCtorEq, Nat.reduceAdd, Nat.reduceSub, Nat.reduceMul, Nat.reduceEqDiff, Nat.reduceLT, Nat.reduceLeDiff, Nat.reduceMod, Nat.reduceDiv, Nat.reducePow, Nat.reduceBEq, Int.reduceToNat, Int.reduceLE, Int.reduceLT, Int.reduceEq, Int.reduceAdd, Int.reduceMul, Int.reduceSub, Int.reduceNeg, Int.reduceNe, Tryd.TS, Tryd.EV]
      have hT : (2 * r + lo / 2 ^ k % 2) % 115792089237316195423570985008687907853269984665640564039457584007913129639936 = 2 * r + lo / 2 ^ k % 2 := by omega
      refine HIf_dec (fun hc => ?_) (fun hc => ?_)
      · have hge : b ≤ 2 * r + lo / 2 ^ k % 2 := by
          rw [hT] at hc
          split at hc <;> omega
        simp -dsimp -implicitDefEqProofs (disch := omega) only [↓reduceIte, ↓gA, gB, refs, den, hasTy, Ty.cmp, Ty.depth, reduceCtorEq, Nat.reduceAdd, Nat.reduceSub, Nat.reduceMul, Nat.reduceEqDiff, Nat.reduceLT, Nat.reduceLeDiff, Nat.reduceMod, Nat.reduceDiv, Nat.reducePow, Nat.reduceBEq, Int.reduceToNat, Int.reduceLE, Int.reduceLT, Int.reduceEq, Int.reduceAdd, Int.reduceMul, Int.reduceSub, Int.reduceNeg, Int.reduceNe, Tryd.TS, Tryd.EV]
        first | (with_reducible refine HCall_mono (wsubRef ((2 * r + lo / 2 ^ k % 2) % 115792089237316195423570985008687907853269984665640564039457584007913129639936) b (Nat.mod_lt _ (by omega)) hb) ?_; rintro rs rfl) | (with_reducible refine HCallF_mono (wsubRef ((2 * r + lo / 2 ^ k % 2) % 115792089237316195423570985008687907853269984665640564039457584007913129639936) b (Nat.mod_lt _ (by omega)) hb) (by first | rfl | simp [flatR, RV.flat, RV.isD, Ty.flat]) ?_) | (refine SCall.mono (wsubRef ((2 * r + lo / 2 ^ k % 2) % 115792089237316195423570985008687907853269984665640564039457584007913129639936) b (Nat.mod_lt _ (by omega)) hb) ?_; rintro rs rfl)
        rw [show ((2 * r + lo / 2 ^ k % 2) % 115792089237316195423570985008687907853269984665640564039457584007913129639936 + 115792089237316195423570985008687907853269984665640564039457584007913129639936 - b) % 115792089237316195423570985008687907853269984665640564039457584007913129639936 = 2 * r + lo / 2 ^ k % 2 - b by omega]
        simp -dsimp -implicitDefEqProofs (disch := omega) only [↓reduceIte, ↓gA, gB, refs, den, hasTy, Ty.cmp, Ty.depth, reduceCtorEq, Nat.reduceAdd, Nat.reduceSub, Nat.reduceMul, Nat.reduceEqDiff, Nat.reduceLT, Nat.reduceLeDiff, Nat.reduceMod, Nat.reduceDiv, Nat.reducePow, Nat.reduceBEq, Int.reduceToNat, Int.reduceLE, Int.reduceLT, Int.reduceEq, Int.reduceAdd, Int.reduceMul, Int.reduceSub, Int.reduceNeg, Int.reduceNe, Tryd.TS, Tryd.EV]
        refine sdraw (id := 13) Tryd.hT (by kernel_rfl) [9] [] [0, 1, 2, 3, 4, 5, 6, 7, 8, 9] (by kernel_rfl) (by kernel_rfl) (by kernel_rfl) ?_; simp only [gK, ↓reduceIte, Nat.reduceEqDiff]
        simp -dsimp -implicitDefEqProofs (disch := omega) only [↓reduceIte, ↓gA, gB, refs, den, hasTy, Ty.cmp, Ty.depth, reduceCtorEq, Nat.reduceAdd, Nat.reduceSub, Nat.reduceMul, Nat.reduceEqDiff, Nat.reduceLT, Nat.reduceLeDiff, Nat.reduceMod, Nat.reduceDiv, Nat.reducePow, Nat.reduceBEq, Int.reduceToNat, Int.reduceLE, Int.reduceLT, Int.reduceEq, Int.reduceAdd, Int.reduceMul, Int.reduceSub, Int.reduceNeg, Int.reduceNe, Tryd.TS, Tryd.EV, td64, tm64, u256_at _ hk4, u256_list, hset]
        repeat (refine And.intro (by omega) ?_)
        refine ⟨(k, 2 * Q + 1, 2 * r + lo / 2 ^ k % 2 - b), hI.more hge, Nat.lt_succ_self k, ?_⟩
        refine sub_ren w0 hL0 [(0, 0), (1, 1), (2, 2), (3, 3), (4, 4)] rfl rfl (by simp [keysLt]) rfl ?_ ?_
        · simp [renTm, Go.SE.look, renTV, renSV]
        · simp [renOb, Go.SE.look, renSV, hqe]
      · have hlt : 2 * r + lo / 2 ^ k % 2 < b := by
          rw [hT] at hc
          split at hc
          · assumption
          · split at hc <;> omega
        simp -dsimp -implicitDefEqProofs (disch := omega) only [↓reduceIte, ↓gA, gB, refs, den, hasTy, Ty.cmp, Ty.depth, reduceCtorEq, Nat.reduceAdd, Nat.reduceSub, Nat.reduceMul, Nat.reduceEqDiff, Nat.reduceLT, Nat.reduceLeDiff, Nat.reduceMod, Nat.reduceDiv, Nat.reducePow, Nat.reduceBEq, Int.reduceToNat, Int.reduceLE, Int.reduceLT, Int.reduceEq, Int.reduceAdd, Int.reduceMul, Int.reduceSub, Int.reduceNeg, Int.reduceNe, Tryd.TS, Tryd.EV]
        refine ⟨(k, 2 * Q, 2 * r + lo / 2 ^ k % 2), hI.less hlt, Nat.lt_succ_self k, ?_⟩
        refine sub_ren w0 hL0 [(0, 0), (1, 1), (2, 2), (3, 3), (4, 4)] rfl rfl (by simp [keysLt]) rfl ?_ ?_
        · simp [renTm, Go.SE.look, renTV, renSV]
        · simp [renOb, Go.SE.look, renSV, hqe2, hT]
  · have : i = 0 := by omega
    subst this
    obtain ⟨rfl, rfl⟩ := hI.done
    simp -dsimp -implicitDefEqProofs (disch := omega) only [↓reduceIte, ↓gA, gB, refs, den, hasTy, Ty.cmp, Ty.depth, reduceCtorEq, Nat.reduceAdd, Nat.reduceSub, Nat.reduceMul, Nat.reduceEqDiff, Nat.reduceLT, Nat.reduceLeDiff, Nat.reduceMod, Nat.reduceDiv, Nat.reducePow, Nat.reduceBEq, Int.reduceToNat, Int.reduceLE, Int.reduceLT, Int.reduceEq, Int.reduceAdd, Int.reduceMul, Int.reduceSub, Int.reduceNeg, Int.reduceNe, Tryd.TS, Tryd.EV]
    refine sdrawT Tryd.hT (by kernel_rfl) [] (.alt 0 (.alt 1 (.alt 2 (.alt 3 (.alt 4 .nil .nil) .nil) .nil) (.alt 2 (.alt 1 (.alt 3 (.alt 4 .nil .nil) .nil) .nil) .nil)) (.alt 1 (.alt 0 (.alt 2 (.alt 3 (.alt 4 .nil .nil) .nil) .nil) .nil) .nil)) (by kernel_rfl) ?_; simp only [tr_alt, tr_nil, tr_nil', pickF, mem1, List.getElem?_toArray, List.getElem?_cons_zero, List.getElem?_cons_succ]
    simp -dsimp -implicitDefEqProofs (disch := omega) only [↓reduceIte, ↓gA, gB, refs, den, hasTy, Ty.cmp, Ty.depth, reduceCtorEq, Nat.reduceAdd, Nat.reduceSub, Nat.reduceMul, Nat.reduceEqDiff, Nat.reduceLT, Nat.reduceLeDiff, Nat.reduceMod, Nat.reduceDiv, Nat.reducePow, Nat.reduceBEq, Int.reduceToNat, Int.reduceLE, Int.reduceLT, Int.reduceEq, Int.reduceAdd, Int.reduceMul, Int.reduceSub, Int.reduceNeg, Int.reduceNe, Tryd.TS, Tryd.EV]
    rw [show 2 ^ 0 * ((hi * 115792089237316195423570985008687907853269984665640564039457584007913129639936 + lo) / b) = (hi * 115792089237316195423570985008687907853269984665640564039457584007913129639936 + lo) / b by omega]
    simp only [and_self]
end Go.Proofs
