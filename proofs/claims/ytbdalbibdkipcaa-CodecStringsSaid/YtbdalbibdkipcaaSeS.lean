/- A law: what its arguments read as, and that its row holds if its text comes to true. -/
import Derived.Test.YtbdalbibdkipcaaSeR
import Derived.ProofKit
import Derived.SizedLaws
set_option linter.unusedVariables false
set_option linter.unusedSimpArgs false
set_option linter.constructorNameAsVariable false
namespace Go.SE
open Go.RowKit (Below)
open Go.ChangeShapes

/-! data that values can be -/
def Fit : Ty → D → Prop
  | .bool, x => ∃ b, x = .b b
  | .int k, x => ∃ n, x = .n n ∧ k.min ≤ n ∧ n ≤ k.max
  | .str, x => ∃ s, x = .s s ∧ s.size ≤ 9223372036854775807
  | .sl e, x => ∃ l, x = .l l ∧ l.length ≤ 9223372036854775807 ∧ ∀ y ∈ l, Fit e y
  | .arr n e, x => ∃ l, x = .l l ∧ l.length = n ∧ ∀ y ∈ l, Fit e y
  | .nil, x => x = .l []
  | .cons a b, x => ∃ y l, x = .l (y :: l) ∧ Fit a y ∧ Fit b (.l l)
  | .ptr, _ => False

theorem Fit.i64 {x : D} (h : Fit (.int .i64) x) : ∃ n : Int, x = .n n ∧ -9223372036854775808 ≤ n ∧ n ≤ 9223372036854775807 := by
  obtain ⟨n, rfl, h1, h2⟩ := h
  simp [IntKind.min, IntKind.signed, IntKind.bits] at h1
  simp [IntKind.max, IntKind.signed, IntKind.bits] at h2
  exact ⟨n, rfl, by omega, by omega⟩
theorem Fit.i32 {x : D} (h : Fit (.int .i32) x) : ∃ n : Int, x = .n n ∧ -2147483648 ≤ n ∧ n ≤ 2147483647 := by
  obtain ⟨n, rfl, h1, h2⟩ := h
  simp [IntKind.min, IntKind.signed, IntKind.bits] at h1
  simp [IntKind.max, IntKind.signed, IntKind.bits] at h2
  exact ⟨n, rfl, by omega, by omega⟩
theorem Fit.u64 {x : D} (h : Fit (.int .u64) x) : ∃ n : Nat, x = .n n ∧ n < 18446744073709551616 := by
  obtain ⟨n, rfl, h1, h2⟩ := h
  simp [IntKind.min, IntKind.signed] at h1
  simp [IntKind.max, IntKind.signed, IntKind.bits] at h2
  exact ⟨n.toNat, by rw [show ((n.toNat : Nat) : Int) = n by omega], by omega⟩
theorem Fit.u32 {x : D} (h : Fit (.int .u32) x) : ∃ n : Nat, x = .n n ∧ n < 4294967296 := by
  obtain ⟨n, rfl, h1, h2⟩ := h
  simp [IntKind.min, IntKind.signed] at h1
  simp [IntKind.max, IntKind.signed, IntKind.bits] at h2
  exact ⟨n.toNat, by rw [show ((n.toNat : Nat) : Int) = n by omega], by omega⟩
theorem Fit.u16 {x : D} (h : Fit (.int .u16) x) : ∃ n : Nat, x = .n n ∧ n < 65536 := by
  obtain ⟨n, rfl, h1, h2⟩ := h
  simp [IntKind.min, IntKind.signed] at h1
  simp [IntKind.max, IntKind.signed, IntKind.bits] at h2
  exact ⟨n.toNat, by rw [show ((n.toNat : Nat) : Int) = n by omega], by omega⟩
theorem Fit.u8 {x : D} (h : Fit (.int .u8) x) : ∃ n : Nat, x = .n n ∧ n < 256 := by
  obtain ⟨n, rfl, h1, h2⟩ := h
  simp [IntKind.min, IntKind.signed] at h1
  simp [IntKind.max, IntKind.signed, IntKind.bits] at h2
  exact ⟨n.toNat, by rw [show ((n.toNat : Nat) : Int) = n by omega], by omega⟩

/-- Rows' elements take a cell or more. -/
def Ty.row : Ty → Bool
  | .sl e => e.row && decide (0 < e.size)
  | .arr _ e => e.row
  | .cons a b => a.row && b.row
  | .ptr => false
  | _ => true

section
variable {H : Type} {enc : TypeId × Value → H} {P : Program} {w : World}

theorem TyOk.cellsOf {t : Ty} {u : TypeId} (h : TyOk P t u) : P.cellsOf u = t.size := by
  obtain ⟨i, hi, hs, _⟩ := h.info
  simp [Program.cellsOf, hi, hs]

theorem readL_build {p : List Value → D → Prop} {F : D → Prop} {sz : Nat} : ∀ (n : Nat) (cs : List Value), cs.length = n * sz → (∀ i, i < n → ∃ d, p ((cs.drop (i * sz)).take sz) d ∧ F d) →
    ∃ ds, ds.length = n ∧ ReadL p sz cs ds ∧ ∀ y ∈ ds, F y
  | 0, cs, hl, _ => ⟨[], rfl, List.eq_nil_of_length_eq_zero (by simpa using hl), by simp⟩
  | n + 1, cs, hl, h => by
    obtain ⟨d, h1, h2⟩ := h 0 (by omega)
    have hl2 : (cs.drop sz).length = n * sz := by rw [List.length_drop, hl, Nat.add_mul]; omega
    obtain ⟨ds, k1, k2, k3⟩ := readL_build (p := p) (F := F) n (cs.drop sz) hl2 (fun i hi => by
      obtain ⟨d, h1, h2⟩ := h (i + 1) (by omega)
      refine ⟨d, ?_, h2⟩
      rw [List.drop_drop, show sz + i * sz = (i + 1) * sz by rw [Nat.add_mul]; omega]
      exact h1)
    refine ⟨d :: ds, by simp [k1], ⟨by simpa using h1, k2⟩, ?_⟩
    intro y hy
    rcases List.mem_cons.1 hy with rfl | hy
    · exact h2
    · exact k3 y hy

theorem trod_array {t e : TypeId} {n : Nat} {base : Nat} {sp : Nat → Bool} {held : Bool} {fuel : Nat} {cs : List Value} {x : DataW H × List MemPlace} (ht : P.underlying t = some (.array n e)) (h : DataW.trod enc P w base sp held fuel t cs = some x) :
    ∃ (xs : List (DataW H × List MemPlace)) (m : Nat), fuel = m + 1 ∧ cs.length = P.cellsOf t ∧ xs.length = n ∧ ∀ i, i < n → DataW.trod enc P w base sp held m e ((cs.drop (i * P.cellsOf e)).take (P.cellsOf e)) = xs[i]? := by
  cases fuel with
  | zero => simp [DataW.trod] at h
  | succ m =>
    unfold DataW.trod at h
    rw [ht] at h
    split at h <;> simp_all
    obtain ⟨hl, xs, hp, hd⟩ := h
    exact ⟨xs, by simpa using mapM_some_length hp, fun i hi => mapM_some_get hp i i (by simp [hi])⟩

mutual
theorem rd_trod : ∀ {ty : Ty} {t : TypeId} {fuel : Nat} {cs : List Value} {x : DataW H × List MemPlace}, TyOk P ty t → ty.row = true → DataW.trod enc P w 0 (fun _ => true) true fuel t cs = some x →
    ∃ d, Rd w (fun _ => True) ty cs d ∧ Fit ty d
  | .bool, t, fuel, cs, x, ht, _, h => by
    obtain ⟨b, rfl, _⟩ := DataW.trod_bool ht.1 h
    exact ⟨.b b, ⟨b, rfl, rfl⟩, b, rfl⟩
  | .int k, t, fuel, cs, x, ht, _, h => by
    obtain ⟨n, rfl, _, hw⟩ := DataW.trod_int ht.1 h
    simp only [Lit.wf, Bool.and_eq_true, decide_eq_true_eq] at hw
    exact ⟨.n n, ⟨n, rfl, rfl⟩, n, rfl, hw⟩
  | .str, t, fuel, cs, x, ht, _, h => by
    obtain ⟨s, rfl, _, hw⟩ := DataW.trod_string ht.1 h
    exact ⟨.s s, ⟨s, rfl, rfl⟩, s, rfl, hw⟩
  | .ptr, t, fuel, cs, x, ht, hr, h => by cases hr
  | .nil, t, fuel, cs, x, ht, _, h => by
    obtain ⟨⟨fs, hu, _, _⟩, _⟩ := id ht
    obtain ⟨xs, m, _, _, hl, _⟩ := DataW.trod_struct hu h
    rw [ht.cellsOf] at hl
    exact ⟨.l [], ⟨List.eq_nil_of_length_eq_zero hl, rfl⟩, rfl⟩
  | .arr n e, t, fuel, cs, x, ht, hr, h => by
    obtain ⟨⟨u, hu, hte⟩, _⟩ := id ht
    obtain ⟨xs, m, _, hl, hxl, hx⟩ := trod_array hu h
    rw [ht.cellsOf] at hl
    rw [hte.cellsOf] at hx
    obtain ⟨ds, h1, h2, h3⟩ := readL_build (p := Rd w (fun _ => True) e) (F := Fit e) n cs hl (fun i hi => by
      have hxi := hx i hi
      rw [List.getElem?_eq_getElem (by omega)] at hxi
      exact rd_trod hte hr hxi)
    exact ⟨.l ds, ⟨ds, rfl, h1, h2⟩, ds, rfl, h1, h3⟩
  | .sl e, t, fuel, cs, x, ht, hr, h => by
    obtain ⟨⟨u, hu, hte⟩, _⟩ := id ht
    simp only [Ty.row, Bool.and_eq_true, decide_eq_true_eq] at hr
    rcases DataW.trod_slice hu h with ⟨rfl, _⟩ | ⟨a, len, cap, elems, rest, m, _, rfl, _, _, hle, hcm, hel, hx, hsp, _⟩
    · exact ⟨.l [], ⟨[], rfl, none, 0, rfl, Nat.le_refl _, .inl rfl⟩, [], rfl, by simp, by simp⟩
    · rw [hte.cellsOf] at hx
      obtain ⟨hrl, hrx⟩ := hsp rfl
      rw [hte.cellsOf] at hrx
      have all : ∀ i, i < cap → ∃ row y, w.cells? 0 (a.add (i * e.size)) e.size = some row ∧ DataW.trod enc P w 0 (fun _ => true) true m u row = some y := by
        intro i hi
        have : ∃ y, (w.cells? 0 (a.add (i * e.size)) e.size).bind (DataW.trod enc P w 0 (fun _ => true) true m u) = some y := by
          by_cases hil : i < len
          · exact ⟨elems[i]'(by omega), by rw [hx i hil, List.getElem?_eq_getElem (by omega)]⟩
          · have := hrx (i - len) (by omega)
            rw [show len + (i - len) = i by omega] at this
            exact ⟨rest[i - len]'(by omega), by rw [this, List.getElem?_eq_getElem (by omega)]⟩
        obtain ⟨y, hy⟩ := this
        obtain ⟨row, h1, h2⟩ := Option.bind_eq_some_iff.1 hy
        exact ⟨row, y, h1, h2⟩
      by_cases hcap : cap = 0
      · have hl0 : len = 0 := by omega
        subst hl0
        exact ⟨.l [], ⟨[], rfl, some a, cap, rfl, Nat.zero_le _, .inl hcap⟩, [], rfl, by simp, by simp⟩
      · have hblk : ∃ c el fr, w.heap[a.block]? = some (.cells c el fr) ∧ a.spot = none := by
          obtain ⟨row, y, h1, _⟩ := all 0 (by omega)
          obtain ⟨_, k1, k2⟩ := World.cells?_some h1
          have hv0 := k2 0 hr.2
          rw [List.getElem?_eq_getElem (by omega)] at hv0
          have ea : (a.add (0 * e.size)).add 0 = a := by simp [Addr.add]
          rw [ea] at hv0
          unfold World.cell? at hv0
          split at hv0
          · rename_i c el fr hh
            split at hv0
            · cases hv0
            · rename_i hsp
              refine ⟨c, el, fr, hh, ?_⟩
              simpa using hsp
          · cases hv0
        obtain ⟨c, el, fr, hh, hspot⟩ := hblk
        obtain ⟨g, o, s⟩ := a
        simp only at hh hspot
        subst hspot
        have cellOf : ∀ i j, i < cap → j < e.size → ∃ row y, w.cells? 0 (Addr.add ⟨g, o, none⟩ (i * e.size)) e.size = some row ∧ DataW.trod enc P w 0 (fun _ => true) true m u row = some y ∧ row.length = e.size ∧ ∀ j, j < e.size → c[o + i * e.size + j]? = row[j]? := by
          intro i j hi hj
          obtain ⟨row, y, h1, h2⟩ := all i hi
          obtain ⟨_, k1, k2⟩ := World.cells?_some h1
          refine ⟨row, y, h1, h2, k1, fun j hj => ?_⟩
          rw [← k2 j hj, Addr.add_lit, Addr.add_lit]
          simp [World.cell?, hh]
        have hbound : o + cap * e.size ≤ c.size := by
          obtain ⟨row, y, _, _, k1, k2⟩ := cellOf (cap - 1) (e.size - 1) (by omega) (by omega)
          have h3 := k2 (e.size - 1) (by omega)
          rw [List.getElem?_eq_getElem (by omega)] at h3
          have := (Array.getElem?_eq_some_iff.1 h3).1
          have h2 : (cap - 1) * e.size + e.size = cap * e.size := by rw [← Nat.succ_mul]; congr 1; omega
          omega
        have hmul : len * e.size ≤ cap * e.size := Nat.mul_le_mul_right _ hle
        obtain ⟨ds, h1, h2, h3⟩ := readL_build (p := Rd w (fun _ => True) e) (F := Fit e) (sz := e.size) len ((c.toList.drop o).take (len * e.size)) (by rw [List.length_take, List.length_drop, Array.length_toList]; omega) (fun i hi => by
          obtain ⟨row, y, _, k2, m1, m2⟩ := cellOf i 0 (by omega) hr.2
          have hrow : ((((c.toList.drop o).take (len * e.size)).drop (i * e.size)).take e.size) = row := by
            have hmi : i * e.size + e.size ≤ len * e.size := by rw [← Nat.succ_mul]; exact Nat.mul_le_mul_right _ hi
            apply List.ext_getElem?
            intro j
            by_cases hj : j < e.size
            · rw [List.getElem?_take, if_pos hj, List.getElem?_drop, List.getElem?_take, if_pos (by omega), List.getElem?_drop, ← m2 j hj, Array.getElem?_toList]
              congr 1; omega
            · rw [List.getElem?_eq_none (by rw [List.length_take]; omega), List.getElem?_eq_none (by omega)]
          rw [hrow]
          exact rd_trod hte hr.1 k2)
        refine ⟨.l ds, ⟨ds, rfl, some ⟨g, o, none⟩, cap, by rw [h1], by omega, .inr ⟨g, o, c, el, fr, rfl, trivial, hh, hbound, by rw [h1]; exact h2⟩⟩, ds, rfl, ?_, h3⟩
        have : cap ≤ 9223372036854775807 := hcm
        omega
  | .cons a b, t, fuel, cs, x, ht, hr, h => by
    obtain ⟨⟨fs, f, r, hu, hfs, _, _, _, hoff, hta, hfb⟩, _⟩ := id ht
    simp only [Ty.row, Bool.and_eq_true] at hr
    obtain ⟨xs, m, _, _, hl, hxl, hx⟩ := DataW.trod_struct hu h
    have get : ∀ (i : Nat) (g : Field), (f :: r)[i]? = some g → ∃ y, DataW.trod enc P w 0 (fun _ => true) true m g.type ((cs.drop g.offset).take (P.cellsOf g.type)) = some y := by
      intro i g hg
      have hgi : fs[i]? = some g := by rw [← Array.getElem?_toList, hfs]; exact hg
      have hlt := (Array.getElem?_eq_some_iff.1 hgi).1
      exact ⟨xs[i]'(by omega), by rw [hx i g hgi, List.getElem?_eq_getElem (by omega)]⟩
    obtain ⟨y, hy⟩ := get 0 f rfl
    rw [hta.cellsOf, hoff, List.drop_zero] at hy
    obtain ⟨d, hd1, hd2⟩ := rd_trod hta hr.1 hy
    obtain ⟨ds, hs1, hs2⟩ := rd_fields (cs := cs) (m := m) hfb hr.2 (fun g hg => by
      obtain ⟨i, hi⟩ := List.getElem?_of_mem hg
      exact get (i + 1) g (by simpa using hi)) (by rw [hl, ht.cellsOf]; rfl)
    exact ⟨.l (d :: ds), ⟨d, ds, rfl, hd1, hs1⟩, d, ds, rfl, hd2, hs2⟩
theorem rd_fields : ∀ {ty : Ty} {r : List Field} {off : Nat} {cs : List Value} {m : Nat}, FOk P ty r off → ty.row = true →
    (∀ g ∈ r, ∃ y, DataW.trod enc P w 0 (fun _ => true) true m g.type ((cs.drop g.offset).take (P.cellsOf g.type)) = some y) → cs.length = off + ty.size →
    ∃ ds, Rd w (fun _ => True) ty (cs.drop off) (.l ds) ∧ Fit ty (.l ds)
  | .nil, [], off, cs, m, _, _, _, hl => ⟨[], ⟨by simp only [Ty.size] at hl; exact List.drop_of_length_le (by omega), rfl⟩, rfl⟩
  | .cons a b, f :: r, off, cs, m, hf, hr, hg, hl => by
    obtain ⟨_, _, hoff, hta, hfb⟩ := hf
    simp only [Ty.row, Bool.and_eq_true] at hr
    obtain ⟨y, hy⟩ := hg f (by simp)
    rw [hta.cellsOf, hoff] at hy
    obtain ⟨d, hd1, hd2⟩ := rd_trod hta hr.1 hy
    obtain ⟨ds, hs1, hs2⟩ := rd_fields (cs := cs) (m := m) hfb hr.2 (fun g hgr => hg g (by simp [hgr])) (by simp only [Ty.size] at hl; omega)
    refine ⟨d :: ds, ⟨d, ds, rfl, hd1, ?_⟩, d, ds, rfl, hd2, hs2⟩
    rw [List.drop_drop]; exact hs1
  | .nil, _ :: _, _, _, _, hf, _, _, _ => hf.elim
  | .cons _ _, [], _, _, _, hf, _, _, _ => hf.elim
  | .bool, _, _, _, _, hf, _, _, _ => hf.elim
  | .int _, _, _, _, _, hf, _, _, _ => hf.elim
  | .str, _, _, _, _, hf, _, _, _ => hf.elim
  | .sl _, _, _, _, _, hf, _, _, _ => hf.elim
  | .arr _ _, _, _, _, _, hf, _, _, _ => hf.elim
  | .ptr, _, _, _, _, hf, _, _, _ => hf.elim
end

theorem agg_okWide {ty : Ty} {t : TypeId} {base : Nat} {v : Value} (ht : TyOk P ty t) (hr : ty.row = true) (h : Value.okWide P w .any base t v) : vAgg v = ty.agg := by
  cases ty with
  | ptr => cases hr
  | arr n e => obtain ⟨⟨u, hu, _⟩, _⟩ := ht; simp only [Value.okWide, hu] at h; obtain ⟨cs, rfl, _⟩ := h; rfl
  | nil => obtain ⟨⟨fs, hu, _⟩, _⟩ := ht; simp only [Value.okWide, hu] at h; obtain ⟨cs, rfl, _⟩ := h; rfl
  | cons a b => obtain ⟨⟨fs, f, r, hu, _⟩, _⟩ := ht; simp only [Value.okWide, hu] at h; obtain ⟨cs, rfl, _⟩ := h; rfl
  | bool => have hu := ht.1; simp only [Value.okWide, hu, Cell.okWide] at h; cases v <;> simp_all [Cell.ok, vAgg, Ty.agg]
  | int k => have hu := ht.1; simp only [Value.okWide, hu, Cell.okWide] at h; cases v <;> simp_all [Cell.ok, vAgg, Ty.agg]
  | str => have hu := ht.1; simp only [Value.okWide, hu, Cell.okWide] at h; cases v <;> simp_all [Cell.ok, vAgg, Ty.agg]
  | sl e => obtain ⟨⟨u, hu, _⟩, _⟩ := ht; simp only [Value.okWide, hu, Cell.okWide] at h; cases v <;> simp_all [Cell.ok, vAgg, Ty.agg]

/-! the law -/

def FitL : List Ty → List D → Prop
  | [], [] => True
  | t :: ts, x :: xs => Fit t x ∧ FitL ts xs
  | _, _ => False

def tysOf (T : Tab) : List TypeId → Option (List Ty)
  | [] => some []
  | u :: us => match Go.SE.look T u, tysOf T us with | some t, some l => some (t :: l) | _, _ => none

def zipA : List Ty → List D → List (Ty × D)
  | t :: ts, x :: xs => (t, x) :: zipA ts xs
  | _, _ => []

theorem args_read {T : Tab} (hT : T.Ok P) {base : Nat} : ∀ {us : List TypeId} {tys : List Ty} {vs : List Value} {ds : List (DataW H)} {p : List MemPlace}, tysOf T us = some tys → tys.all Ty.row = true → DataW.TrodAll enc P w 0 (fun _ => true) true us vs ds p →
    (∀ (j : Nat) t v, us[j]? = some t → vs[j]? = some v → Value.okWide P w .any base t v) → ∃ xs, ArgsOk w (fun _ => True) (zipA tys xs) vs ∧ FitL tys xs
  | [], tys, vs, ds, p, ht, _, h, _ => by
    simp only [tysOf, Option.some.injEq] at ht
    subst ht
    obtain ⟨rfl, _, _⟩ := trodAll_nil h
    exact ⟨[], trivial, trivial⟩
  | u :: us, tys, vs, ds, p, ht, hr, h, hv => by
    simp only [tysOf] at ht
    split at ht
    · rename_i t l h1 h2
      simp only [Option.some.injEq] at ht
      subst ht
      simp only [List.all_cons, Bool.and_eq_true] at hr
      obtain ⟨v, vs', d, ds', a, b, rfl, rfl, rfl, k1, k2⟩ := trodAll_cons h
      obtain ⟨fuel, k1⟩ := k1
      obtain ⟨x, hx1, hx2⟩ := rd_trod (hT u t h1).1 hr.1 k1
      obtain ⟨xs, hy1, hy2⟩ := args_read hT h2 hr.2 k2 (fun j t v ht hv' => hv (j + 1) t v (by simpa using ht) (by simpa using hv'))
      exact ⟨x :: xs, ⟨⟨hx1, agg_okWide (hT u t h1).1 hr.1 (hv 0 u v rfl rfl)⟩, hy1⟩, hx2, hy2⟩
    · cases ht

theorem trodAll_stays (hl : laidOutB P = true) {W' : World} {sp : Nat → Bool} : ∀ {us : List TypeId} {vs : List Value} {ds : List (DataW H)} {p : List MemPlace}, (us.all fun t => P.readableRec t && decide (t < P.types.size)) = true → DataW.TrodAll enc P w 0 (fun _ => true) true us vs ds p →
    (∀ x ∈ p, w.sameAt W' x) → (∀ x ∈ p, sp x.block = true) → DataW.TrodAll enc P W' 0 sp true us vs ds p
  | [], vs, ds, p, _, h, _, _ => by
    obtain ⟨rfl, rfl, rfl⟩ := trodAll_nil h
    rfl
  | u :: us, vs, ds, p, hr, h, hs, hsp => by
    simp only [List.all_cons, Bool.and_eq_true, decide_eq_true_eq] at hr
    obtain ⟨v, vs', d, ds', a, b, rfl, rfl, rfl, k1, k2⟩ := trodAll_cons h
    exact ⟨a, b, WideElems.Trod_stays hl hr.1.1 hr.1.2 k1 (fun x hx => hs x (List.mem_append_left _ hx)) (fun x hx => hsp x (List.mem_append_left _ hx)),
      trodAll_stays hl hr.2 k2 (fun x hx => hs x (List.mem_append_right _ hx)) (fun x hx => hsp x (List.mem_append_right _ hx)), rfl⟩

/-- A law whose text comes to true for all data that meet Q: what its row says. -/
theorem law_postQ {T : Tab} (hT : T.Ok P) (hl : laidOutB P = true) {f : FuncId} {fn : Func} {s : ChangeSpec} {apart fresh handsOn again : Bool} {tb : TypeId} {tys : List Ty} {Q : List D → Prop}
    (hpar : tysOf T fn.params.toList = some tys) (hrow : tys.all Ty.row = true) (hrec : (fn.params.toList.all fun t => P.readableRec t && decide (t < P.types.size)) = true)
    (hres : fn.resultTypes = #[tb]) (htb : P.underlying tb = some .bool) (hvars : s.vars = [])
    (hfn : ∀ (ds : List (DataW H)), ds.length = fn.params.toList.length → (s.fn H ds).results = [.lit (.bool true)] ∧ (s.fn H ds).args = ds ∧ (s.fn H ds).vars = [])
    (hbody : Callable P f) (hcall : ∀ xs, FitL tys xs → Q xs → SCall P f (zipA tys xs) (fun rs => rs = [.d .bool (.b true)]))
    {base : Nat} {args : Array Value} {ds gs : List (DataW H)} {before : List MemPlace}
    (hval : ∀ (j : Nat) t v, fn.params[j]? = some t → args[j]? = some v → Value.okWide P w .any base t v)
    (hW : DataW.Whole enc P fn.params.toList s.vars apart w args.toList ds gs before)
    (hQ : ∀ xs p, DataW.TrodAll enc P w 0 (fun _ => true) true fn.params.toList args.toList ds p → FitL tys xs → ArgsOk w (fun _ => True) (zipA tys xs) args.toList → Q xs) :
    Calls P f args w fun e W' => ∃ v, e = .returned v ∧ s.post enc P fn apart fresh handsOn again w args v W' := by
  have hW' := hW
  obtain ⟨p, q, hA, hV, rfl, hfz, hnd⟩ := hW
  rw [hvars] at hV
  obtain ⟨rfl, rfl⟩ := trodVars_none hV
  simp only [List.append_nil] at hW' hfz hnd
  obtain ⟨xs, hx1, hx2⟩ := args_read hT hpar hrow hA (fun j t v h1 h2 => hval j t v (by simpa using h1) (by simpa using h2))
  have hc := ((hcall xs hx2 (hQ xs _ hA hx2 hx1)).body hx1 hbody).2 w (fun _ => False) args.toList (by simp) (by
    have : (fun b : Nat => ¬ (fun _ : Nat => False) b) = fun _ => True := by funext b; simp
    rw [this]; exact hx1)
  rw [Array.toArray_toList] at hc
  refine hc.mono ?_
  rintro e W' ⟨v, rs, rfl, hb, ⟨vals, bs, rfl, hl1, hl2, hrv, _⟩, rfl⟩
  match vals, bs, hl1, hl2 with
  | [v0], [b0], _, _ =>
    have h0 := hrv 0 _ v0 b0 rfl rfl rfl
    have hv0 : v0 = .bool true := by
      cases b0 with
      | some q => exact h0.elim
      | none =>
        obtain ⟨x, h1, h2⟩ := RdV.bool h0
        cases h2
        exact h1
    subst hv0
    refine ⟨.bool true, rfl, ?_⟩
    have hlen : ∀ {us : List TypeId} {vs : List Value} {ds : List (DataW H)} {p : List MemPlace}, DataW.TrodAll enc P w 0 (fun _ => true) true us vs ds p → ds.length = us.length := by
      intro us
      induction us with
      | nil => intro vs ds p h; obtain ⟨_, rfl, _⟩ := trodAll_nil h; rfl
      | cons u us ih => intro vs ds p h; obtain ⟨v, vs', d, ds', a, b, rfl, rfl, rfl, k1, k2⟩ := trodAll_cons h; simp [ih k2]
    obtain ⟨f1, f2, f3⟩ := hfn ds (hlen hA)
    have hlt : ∀ x ∈ p, x.block < w.heap.size := hW'.lt
    have hsame : ∀ x ∈ p, w.sameAt W' x := fun x hx => hb.same (hlt x hx)
    have hargs : ∀ sp : Nat → Bool, (∀ x ∈ p, sp x.block = true) → DataW.TrodAll enc P W' 0 sp true fn.params.toList args.toList ds p := fun sp hsp => trodAll_stays hl hrec hA hsame hsp
    have hok : ∀ (j : Nat) (t : TypeId) (r : Value), fn.resultTypes[j]? = some t → ((Value.bool true).resultList fn.resultTypes.size)[j]? = some r → Value.okWide P W' .any 0 t r :=
      RowKit.ok_one hres rfl (RowKit.okWide_bool_mk htb true)
    have hres' : ∀ (b : Nat) (sp : Nat → Bool) (hd : Bool), DataW.TrodAll enc P W' b sp hd fn.resultTypes.toList ((Value.bool true).resultList fn.resultTypes.size) [.lit (.bool true)] [] := by
      intro b sp hd
      rw [hres]
      exact ⟨[], [], RowKit.shut_bool htb true, rfl, rfl⟩
    have hold : ∀ x ∈ p, (fun b => decide (b < w.heap.size)) x.block = true := fun x hx => by simpa using hlt x hx
    refine ⟨ds, [], p, [], p, [], hW', ?_, ?_, ?_, World.keptBut_mono (fun x hx => ⟨hx, .inr (by simpa using hx)⟩) (hb.frame (· ∈ p)), fun _ => ⟨hok, ?_⟩⟩
    · rw [List.append_nil, f1]; exact hres' _ _ _
    · rw [List.append_nil, f2]; exact hargs _ hold
    · rw [List.append_nil, f3, hvars]; rfl
    · refine ⟨_, [], ([] ++ p) ++ [], ⟨[] ++ p, [], trodAll_append (hargs _ (fun _ _ => rfl)) (hres' _ _ _), by rw [hvars]; rfl, rfl, ?_, ?_⟩, ?_⟩
      · intro b off hp
        rw [hb.frozen (p := ⟨b, off, none⟩) (hlt (.cell b off) (by simpa using hp))]
        exact hfz b off (by simpa using hp)
      · intro ha
        simpa using hnd ha
      · intro x hx _
        simpa using hx


/-- A law whose text comes to true for all data: what its row says. -/
theorem law_post {T : Tab} (hT : T.Ok P) (hl : laidOutB P = true) {f : FuncId} {fn : Func} {s : ChangeSpec} {apart fresh handsOn again : Bool} {tb : TypeId} {tys : List Ty}
    (hpar : tysOf T fn.params.toList = some tys) (hrow : tys.all Ty.row = true) (hrec : (fn.params.toList.all fun t => P.readableRec t && decide (t < P.types.size)) = true)
    (hres : fn.resultTypes = #[tb]) (htb : P.underlying tb = some .bool) (hvars : s.vars = [])
    (hfn : ∀ (ds : List (DataW H)), ds.length = fn.params.toList.length → (s.fn H ds).results = [.lit (.bool true)] ∧ (s.fn H ds).args = ds ∧ (s.fn H ds).vars = [])
    (hbody : Callable P f) (hcall : ∀ xs, FitL tys xs → SCall P f (zipA tys xs) (fun rs => rs = [.d .bool (.b true)]))
    {base : Nat} {args : Array Value} {ds gs : List (DataW H)} {before : List MemPlace}
    (hval : ∀ (j : Nat) t v, fn.params[j]? = some t → args[j]? = some v → Value.okWide P w .any base t v)
    (hW : DataW.Whole enc P fn.params.toList s.vars apart w args.toList ds gs before) :
    Calls P f args w fun e W' => ∃ v, e = .returned v ∧ s.post enc P fn apart fresh handsOn again w args v W' :=
  law_postQ (Q := fun _ => True) hT hl hpar hrow hrec hres htb hvars hfn hbody (fun xs h _ => hcall xs h) hval hW (fun _ _ _ _ _ => trivial)

/-! sizes -/

/-- No argument is longer than the address space bears. -/
def TopL : Ty → D → Prop
  | .sl _, x => x.list.length ≤ 140737488351232
  | .str, x => x.str.size ≤ 140737488351232
  | _, _ => True
def TopLs : List Ty → List D → Prop
  | t :: ts, x :: xs => TopL t x ∧ TopLs ts xs
  | _, _ => True

theorem topl {T : Tab} (hT : T.Ok P) : ∀ {us : List TypeId} {tys : List Ty} {vs : List Value} {ds : List (DataW H)} {p : List MemPlace} {xs : List D}, tysOf T us = some tys →
    (us.all fun t => match P.underlying t with | some (.slice e) => decide (0 < P.bytesOf e) | _ => true) = true →
    DataW.TrodAll enc P w 0 (fun _ => true) true us vs ds p → (DataW.weightsEach P us ds).all (· ≤ reachBytes) = true → ArgsOk w (fun _ => True) (zipA tys xs) vs → FitL tys xs → TopLs tys xs
  | [], tys, vs, ds, p, xs, ht, _, h, _, _, _ => by
    simp only [tysOf, Option.some.injEq] at ht
    subst ht
    cases xs <;> trivial
  | u :: us, tys, vs, ds, p, xs, ht, hb, h, hz, ha, hf => by
    simp only [tysOf] at ht
    split at ht
    · rename_i t l h1 h2
      simp only [Option.some.injEq] at ht
      subst ht
      obtain ⟨v, vs', d, ds', a, b, rfl, rfl, rfl, k1, k2⟩ := trodAll_cons h
      obtain ⟨fuel, k1⟩ := k1
      match xs, hf with
      | x :: xs, hf =>
        obtain ⟨⟨ha1, _⟩, ha2⟩ := ha
        simp only [List.all_cons, Bool.and_eq_true] at hb
        have hz2 : (DataW.weightsEach P us ds').all (· ≤ reachBytes) = true := by
          simp only [DataW.weightsEach, List.all_append, Bool.and_eq_true] at hz
          exact hz.2
        refine ⟨?_, topl hT h2 hb.2 k2 hz2 ha2 hf.2⟩
        have hty := (hT u t h1).1
        cases t with
        | sl e =>
          obtain ⟨⟨ue, hu, _⟩, _⟩ := id hty
          obtain ⟨l, rfl, a', cap, hcs, _⟩ := ha1
          have hb1 := hb.1
          rw [hu] at hb1
          simp only [decide_eq_true_eq] at hb1
          rcases DataW.trod_slice hu k1 with ⟨e1, _⟩ | ⟨a2, len, cap2, elems, rest, m, _, e1, e2, _, _, _, hel, _⟩
          · rw [hcs] at e1
            simp only [List.cons.injEq, Value.slice.injEq] at e1
            show l.length ≤ _
            omega
          · rw [hcs] at e1
            simp only [List.cons.injEq, Value.slice.injEq] at e1
            have ed : d = .slice (elems.map (·.1)) (rest.map (·.1)) := congrArg Prod.fst e2
            have := sized_slice hz (j := 0) (t := u) (e := ue) rfl (by rw [ed]; rfl) hu
            simp only [List.length_map] at this
            have hr : reachBytes = 140737488351232 := rfl
            show l.length ≤ _
            have h3 : elems.length * 1 ≤ (elems.length + rest.length) * P.bytesOf ue := Nat.mul_le_mul (by omega) hb1
            omega
        | str =>
          obtain ⟨s, hcs, rfl⟩ := ha1
          obtain ⟨s2, e1, e2, _⟩ := DataW.trod_string hty.1 k1
          rw [hcs] at e1
          simp only [List.cons.injEq, Value.string.injEq] at e1
          have ed : d = .lit (.string s2.data.toList) := congrArg Prod.fst e2
          have := sized_string hz (j := 0) (t := u) rfl (by rw [ed]; rfl)
          have hr : reachBytes = 140737488351232 := rfl
          show s.size ≤ _
          rw [e1.1]
          rw [Array.length_toList] at this
          exact this
        | _ => trivial
    · cases ht

theorem weights_left (f : Nat → Bool) : ∀ (us : List TypeId) (ds gs : List (DataW H)), (DataW.weightsEach P us (ds ++ gs)).all f = true → (DataW.weightsEach P us ds).all f = true
  | [], _, _, _ => by simp [DataW.weightsEach]
  | _ :: _, [], _, _ => by simp [DataW.weightsEach]
  | u :: us, d :: ds, gs, h => by
    simp only [List.cons_append, DataW.weightsEach, List.all_append, Bool.and_eq_true] at h ⊢
    exact ⟨h.1, weights_left f us ds gs h.2⟩

end
end Go.SE
