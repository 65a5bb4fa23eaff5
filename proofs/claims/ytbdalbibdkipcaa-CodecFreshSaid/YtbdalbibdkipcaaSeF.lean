/- The operations on memory: reading. -/
import Derived.Test.YtbdalbibdkipcaaSeE
set_option linter.unusedVariables false
set_option linter.unusedSimpArgs false
set_option linter.constructorNameAsVariable false
namespace Go.SE
open Go.RowKit (Below)

/-- A symbolic value as data of a type. -/
def den (σ : St) : Ty → SV → Option D
  | t, .d u x => if u = t then some x else none
  | .sl _, .nil => some (.l [])
  | .sl e, .ref o p off len =>
    match look σ.ob o with
    | some ob => match ob.c.get p with
      | some (.d (.arr _ e') x) => if e' = e then some (.l ((x.list.drop off).take len)) else none
      | _ => none
    | none => none
  | .cons a b, .acons x y => if b.isSt then (match den σ a x, den σ b y with | some dx, some dy => some (.l (dx :: dy.list)) | _, _ => none) else none
  | .nil, .anil => some (.l [])
  | _, _ => none

def refs : SV → List Nat
  | .ref o _ _ _ => [o]
  | .acons a b => refs a ++ refs b
  | _ => []

def hasTy (σ : St) : Ty → SV → Prop
  | t, .d u _ => u = t
  | .sl _, .nil => True
  | .sl e, .ref o p _ _ => match look σ.ob o with
    | some ob => match ob.t.sub p with | some (.arr _ e') => e' = e | _ => False
    | none => False
  | .ptr, .ptr _ _ => True
  | .ptr, .vp _ _ => True
  | .nil, .anil => True
  | .cons a b, .acons x y => hasTy σ a x ∧ hasTy σ b y
  | _, _ => False

def dels (ob : List (Nat × Ob)) : List Nat → List (Nat × Ob)
  | [] => ob
  | k :: l => dels (del ob k) l

theorem look_dels : ∀ (l : List Nat) (ob : List (Nat × Ob)) (j : Nat), look (dels ob l) j = if j ∈ l then none else look ob j
  | [], ob, j => by simp [dels]
  | k :: l, ob, j => by
    rw [dels, look_dels l, look_del]
    by_cases h1 : j ∈ l
    · simp [h1]
    · by_cases h2 : j = k
      · simp [h2]
      · simp [h1, h2]

def slen : SV → Option Nat
  | .nil => some 0
  | .ref _ _ _ n => some n
  | .d (.sl _) x => some x.list.length
  | _ => none

def Ty.cnt : Ty → Nat
  | .arr n _ => n
  | _ => 0

theorem take_drop_take_drop {α : Type} (l : List α) {b T o m : Nat} (h : o + m ≤ T) : (((l.drop b).take T).drop o).take m = (l.drop (b + o)).take m := by
  rw [List.drop_take, List.take_take, Nat.min_eq_left (by omega), List.drop_drop]

section
variable {P : Program} {w0 : Base} {om : Om} {σ : St} {a : Act} {w : World}

theorem R0.dels (h : R0 w0 om σ a w) : ∀ (l : List Nat) (ob : List (Nat × Ob)), R0 w0 om { σ with ob := ob } a w → R0 w0 om { σ with ob := SE.dels ob l } a w
  | [], _, k => k
  | x :: l, ob, k => by
    have := k.drop x
    exact R0.dels h l _ this

theorem hasTy_ok (h : R0 w0 om σ a w) {M : Nat → Prop} : ∀ {x : SV} {t t' : Ty} {cs : List Value}, CV w om M t' x cs → hasTy σ t x → CV w om M t x cs
  | .d u x, t, t', cs, ⟨h1, h2⟩, ht => by
    have h3 : u = t := by cases t <;> exact ht
    subst h1; subst h3; exact ⟨rfl, h2⟩
  | .nil, t, t', cs, ⟨_, h2⟩, ht => by
    cases t <;> first | exact ht.elim | exact ⟨⟨_, rfl⟩, h2⟩
  | .ref o p off len, t, t', cs, ⟨e, v, h1, h2, hr⟩, ht => by
    cases t with
    | sl e2 =>
      simp only [hasTy] at ht
      split at ht
      · rename_i ob hl
        obtain ⟨pl, ho, _⟩ := h.ob _ _ hl
        obtain ⟨τ, pl2, n, cap, k1, k2, k3⟩ := hr
        rw [ho] at k1
        simp only [Option.some.injEq, Prod.mk.injEq] at k1
        obtain ⟨rfl, rfl⟩ := k1
        rw [k2] at ht
        subst ht
        exact ⟨e, v, rfl, h2, ob.t, pl, n, cap, ho, k2, k3⟩
      · exact ht.elim
    | _ => exact ht.elim
  | .ptr o p, t, t', cs, ⟨v, h1, h2⟩, ht => by
    cases t <;> first | exact ht.elim | exact ⟨v, rfl, h2⟩
  | .vp u x, t, t', cs, ⟨h1, h2⟩, ht => by
    cases t <;> first | exact ht.elim | exact ⟨rfl, h2⟩
  | .anil, t, t', cs, ⟨h1, h2⟩, ht => by
    cases t <;> first | exact ht.elim | exact ⟨rfl, h2⟩
  | .acons x y, t, t', cs, ⟨ta, tb, h1, h2, h3⟩, ht => by
    cases t with
    | cons a b =>
      have k1 := hasTy_ok h h2 ht.1
      have k2 := hasTy_ok h h3 ht.2
      have e1 : ta.size = a.size := by rw [← h2.length, k1.length]
      exact ⟨a, b, rfl, by rw [← e1]; exact k1, by rw [← e1]; exact k2⟩
    | _ => exact ht.elim

theorem Val1.ty (h : R0 w0 om σ a w) {M : Nat → Prop} {x : SV} {t : Ty} {v : Value} (hv : Val1 w om M x v) (ht : hasTy σ t x) : CV w om M t x v.cells.toList ∧ vAgg v = t.agg := by
  obtain ⟨t', h1, h2⟩ := hv
  have h3 := hasTy_ok h h1 ht
  refine ⟨h3, ?_⟩
  rw [h2]
  cases x with
  | d u x => rw [← h1.1, ← h3.1]
  | nil => obtain ⟨⟨e, rfl⟩, _⟩ := h1; obtain ⟨⟨e', rfl⟩, _⟩ := h3; rfl
  | ref o p off len => obtain ⟨_, _, rfl, _⟩ := h1; obtain ⟨_, _, rfl, _⟩ := h3; rfl
  | ptr o p => obtain ⟨_, rfl, _⟩ := h1; obtain ⟨_, rfl, _⟩ := h3; rfl
  | vp u x => obtain ⟨rfl, _⟩ := h1; obtain ⟨rfl, _⟩ := h3; rfl
  | anil => obtain ⟨rfl, _⟩ := h1; obtain ⟨rfl, _⟩ := h3; rfl
  | acons p q => obtain ⟨_, _, rfl, _⟩ := h1; obtain ⟨_, _, rfl, _⟩ := h3; rfl

/-- What is known of a slice value: where it lies, and what it reads as. -/
theorem den_ok (h : R0 w0 om σ a w) {S : Nat → Prop} (hS : ∀ b, ¬ Mb σ.ob om b → S b) : ∀ {x : SV} {t t' : Ty} {cs : List Value} {d : D}, CV w om (Mb σ.ob om) t' x cs → den σ t x = some d →
    (∀ o ∈ refs x, ∀ t q, om o = some (t, some q) → S q.b) → Rd w S t cs d
  | .d u x, t, t', cs, d, ⟨h1, h2⟩, hd, _ => by
    simp only [den] at hd
    split at hd
    · rename_i e
      subst e; subst h1
      simp only [Option.some.injEq] at hd
      subst hd
      exact h2.mono (fun b o hb ho => ⟨hS b hb, ho⟩)
    · cases hd
  | .nil, t, t', cs, d, ⟨_, b, h2⟩, hd, _ => by
    cases t <;> simp only [den, Option.some.injEq, reduceCtorEq] at hd
    subst hd; subst h2
    exact ⟨[], rfl, b, 0, rfl, Nat.le_refl _, .inl rfl⟩
  | .ref o p off len, t, t', cs, d, ⟨e, v, h1, h2, hr⟩, hd, hrs => by
    cases t <;> simp only [den, reduceCtorEq] at hd
    rename_i e2
    split at hd
    · rename_i ob hl
      split at hd
      · rename_i n' e' x hg
        split at hd
        · rename_i ee
          subst ee
          simp only [Option.some.injEq] at hd
          subst hd
          obtain ⟨pl, ho, hob⟩ := h.ob _ _ hl
          obtain ⟨τ, pl2, n, cap, k1, k2, k3, k4, k5, k6⟩ := hr
          rw [ho] at k1
          simp only [Option.some.injEq, Prod.mk.injEq] at k1
          obtain ⟨rfl, rfl⟩ := k1
          subst h2
          rcases k6 with ⟨rfl, b, rfl⟩ | ⟨q, rfl, k6⟩
          · have : len = 0 := by omega
            subst this
            exact ⟨[], by simp, b, 0, rfl, Nat.le_refl _, .inl rfl⟩
          · obtain ⟨_, c, el, fr, hh, hu, hroom, hcv⟩ := hob
            obtain ⟨A, hA, hcA, hle⟩ := CV.get hcv k3 hg
            rw [k2] at hA
            simp only [Option.some.injEq] at hA
            subst hA
            obtain ⟨hty, hrd⟩ := hcA
            simp only [Ty.arr.injEq] at hty
            obtain ⟨rfl, rfl⟩ := hty
            obtain ⟨ds, rfl, hdl, hrl⟩ := hrd
            obtain ⟨hv, hcap⟩ := k6
            subst hv
            have hlen : ((ds.drop off).take len).length = len := by simp; omega
            refine ⟨(ds.drop off).take len, rfl, _, cap, by rw [hlen], by omega, .inr ⟨q.b, _, c, el, fr, rfl, hrs o (by simp [refs]) _ q ho, hh, ?_, ?_⟩⟩
            · have hr1 := hroom.1
              by_cases hp : p = []
              · subst hp
                simp only [if_true] at hcap
                simp only [Ty.sub, Option.some.injEq] at k2
                have := (hroom.2 _ _ k2).2
                simp only [Ty.offs, Nat.add_zero]
                have : (off + cap) * e'.size ≤ q.C * e'.size := Nat.mul_le_mul_right _ hcap
                rw [Nat.add_mul] at this
                omega
              · simp only [hp, if_false] at hcap
                have : (off + cap) * e'.size ≤ n' * e'.size := Nat.mul_le_mul_right _ hcap
                rw [Nat.add_mul] at this
                simp only [Ty.size] at hle
                omega
            · rw [hlen]
              have h5 := ReadL.take len (ReadL.drop off hrl)
              simp only [Ty.size] at h5 hle
              have h6 : (off + len) * e'.size ≤ n' * e'.size := Nat.mul_le_mul_right _ (by omega)
              rw [Nat.add_mul] at h6
              rw [take_drop_take_drop _ (by omega), take_drop_take_drop _ (by omega)] at h5
              rw [Nat.add_assoc q.base] at *
              exact ReadL.mono (fun _ _ q => Rd.mono (fun b o hb ho => ⟨hS b hb, ho⟩) q) (by simpa [Nat.add_assoc] using h5)
        · cases hd
      · cases hd
    · cases hd
  | .ptr o p, t, t', cs, d, _, hd, _ => by cases t <;> simp [den] at hd
  | .vp u x, t, t', cs, d, _, hd, _ => by cases t <;> simp [den] at hd
  | .anil, t, t', cs, d, ⟨_, h2⟩, hd, _ => by
    cases t <;> simp only [den, Option.some.injEq, reduceCtorEq] at hd
    subst hd; exact ⟨h2, rfl⟩
  | .acons x y, t, t', cs, d, ⟨ta, tb, h1, h2, h3⟩, hd, hrs => by
    cases t <;> simp only [den, reduceCtorEq] at hd
    rename_i A B
    split at hd
    · rename_i hst
      split at hd
      · rename_i dx dy ex ey
        simp only [Option.some.injEq] at hd
        subst hd
        have k1 := den_ok h hS h2 ex (fun o ho => hrs o (by simp [refs, ho]))
        have k2 := den_ok h hS h3 ey (fun o ho => hrs o (by simp [refs, ho]))
        have e1 : ta.size = A.size := by rw [← h2.length, k1.length]
        refine ⟨dx, dy.list, rfl, by rw [← e1]; exact k1, ?_⟩
        have e2 : D.l dy.list = dy := by
          cases B with
          | nil => obtain ⟨_, rfl⟩ := k2; rfl
          | cons _ _ => obtain ⟨_, _, rfl, _⟩ := k2; rfl
          | _ => simp [Ty.isSt] at hst
        rw [e2, ← e1]; exact k2
      · cases hd
    · cases hd

/-- Where a pointer leads. -/
theorem ptr_place (h : R0 w0 om σ a w) {M : Nat → Prop} {o : Nat} {p : List Step} {v : Value} {ob : Ob} (hv : Val1 w om M (.ptr o p) v) (hl : look σ.ob o = some ob) :
    ∃ q u c el fr, v = .pointer (some ⟨q.b, q.base + ob.t.offs p, none⟩) ∧ om o = some (ob.t, some q) ∧ ob.t.sub p = some u ∧ ob.t.okp p ∧ w.heap[q.b]? = some (.cells c el fr) ∧ Unfrozen c.size fr ∧ Room ob.t q c.size ∧
      CV w om (Mb σ.ob om) ob.t ob.c ((c.toList.drop q.base).take ob.t.size) := by
  obtain ⟨t, ⟨v', rfl, hc, t', q, u, k1, k2, k3, k4⟩, ha⟩ := hv
  obtain ⟨pl, ho, hob⟩ := h.ob _ _ hl
  rw [ho] at k1
  simp only [Option.some.injEq, Prod.mk.injEq] at k1
  obtain ⟨rfl, rfl⟩ := k1
  obtain ⟨_, c, el, fr, hh, hu, hroom, hcv⟩ := hob
  subst k4
  refine ⟨q, u, c, el, fr, ?_, ho, k2, k3, hh, hu, hroom, hcv⟩
  cases v <;> simp_all [Value.cells, vAgg, Ty.agg]

/-- Where a slice of an object lies. -/
theorem ref_place (h : R0 w0 om σ a w) {M : Nat → Prop} {o : Nat} {p : List Step} {off len : Nat} {v : Value} {ob : Ob} (hv : Val1 w om M (.ref o p off len) v) (hl : look σ.ob o = some ob) :
    ∃ e n cap, ob.t.sub p = some (.arr n e) ∧ ob.t.okp p ∧ off + len ≤ n ∧ len ≤ cap ∧
      ((cap = 0 ∧ ∃ b, v = .slice b 0 0) ∨
       ∃ q c el fr, om o = some (ob.t, some q) ∧ v = .slice (some ⟨q.b, q.base + ob.t.offs p + off * e.size, none⟩) len cap ∧ off + cap ≤ (if p = [] then q.C else n) ∧
         w.heap[q.b]? = some (.cells c el fr) ∧ Unfrozen c.size fr ∧ Room ob.t q c.size ∧ CV w om (Mb σ.ob om) ob.t ob.c ((c.toList.drop q.base).take ob.t.size)) := by
  obtain ⟨t, ⟨e, v', rfl, hc, t', pl, n, cap, k1, k2, k3, k4, k5, k6⟩, ha⟩ := hv
  obtain ⟨pl', ho, hob⟩ := h.ob _ _ hl
  rw [ho] at k1
  simp only [Option.some.injEq, Prod.mk.injEq] at k1
  obtain ⟨rfl, rfl⟩ := k1
  refine ⟨e, n, cap, k2, k3, k4, k5, ?_⟩
  have hv : v = v' := by
    cases v <;> simp_all [Value.cells, vAgg, Ty.agg]
  subst hv
  rcases k6 with k6 | ⟨q, rfl, k6⟩
  · exact .inl k6
  · obtain ⟨_, c, el, fr, hh, hu, hroom, hcv⟩ := hob
    exact .inr ⟨q, c, el, fr, ho, k6.1, k6.2, hh, hu, hroom, hcv⟩

/-! reading -/

def sLoad (T : Tab) (u : TypeId) (x : SV) (σ : St) (K : SV → Prop) : Prop :=
  match x with
  | .ptr o p => match look σ.ob o with
    | some ob => match ob.c.get p, look T u with
      | some s, some t => ob.t.sub p = some t ∧ K s
      | _, _ => False
    | none => False
  | .vp t y => look T u = some t ∧ K (.d t y)
  | _ => False

theorem vp_place {M : Nat → Prop} {t : Ty} {y : D} {v : Value} (hv : Val1 w om M (.vp t y) v) : ∃ g o c el fr, v = .pointer (some ⟨g, o, none⟩) ∧ ¬ M g ∧ w.heap[g]? = some (.cells c el fr) ∧ o + t.size ≤ c.size ∧ Rd w (fun b => ¬ M b) t ((c.toList.drop o).take t.size) y := by
  obtain ⟨t', ⟨rfl, g, o, c, el, fr, hc, k⟩, ha⟩ := hv
  refine ⟨g, o, c, el, fr, ?_, k⟩
  cases v <;> simp_all [Value.cells, vAgg, Ty.agg]

theorem sLoad_sound {T : Tab} (hT : T.Ok P) {o : Oper} {u : TypeId} {x : Operand} {K : St → Prop} {s : SV} (ho : o.op = .load u x) (h : R0 w0 om σ a w) (hd : dstOk o.dst σ.nt)
    (hx : ev1 σ x = some s) (hs : sLoad T u s σ (fun s => K (σ.put o.dst (.v s)))) : VStep P w0 o a w K := by
  have hv := h.ev1 hx
  unfold sLoad at hs
  split at hs
  · rename_i b p
    split at hs
    · rename_i ob hl
      split at hs
      · rename_i s' t hg ht
        obtain ⟨hsub, hK⟩ := hs
        obtain ⟨q, u', c, el, fr, ev, ho', hsub', hok, hh, hu, hroom, hcv⟩ := ptr_place h hv hl
        obtain ⟨A, hA, hcA, hle⟩ := CV.get hcv hok hg
        rw [hsub] at hA
        simp only [Option.some.injEq] at hA
        subst hA
        have hr1 := hroom.1
        have hce : (((c.toList.drop q.base).take ob.t.size).drop (ob.t.offs p)).take t.size = (c.toList.drop (q.base + ob.t.offs p)).take t.size := take_drop_take_drop _ hle
        rw [hce] at hcA
        obtain ⟨v, hrun, hvc, hva⟩ := run_loadVar (P := P) hh (hT u t ht).1 (o := q.base + ob.t.offs p) (by omega) (fun v hv => hcA.one v hv)
        have hrun' : ∀ w', Below w.heap.size w w' → (loadVar u ⟨q.b, q.base + ob.t.offs p, none⟩).run P w' = .ok v w' := by
          intro w' hw'
          obtain ⟨v', k1, k2, k3⟩ := run_loadVar (P := P) (Below.hp hw' hh) (hT u t ht).1 (o := q.base + ob.t.offs p) (by omega) (fun v hv => hcA.one v hv)
          rw [k1, val_det (k2.trans hvc.symm) (k3.trans hva.symm)]
        exact wp_val h hd (v := v) (x := .v s') (fun w' hw' => by simp [execOp, ho, ev, Instr.loadAt, Instr.sureAddr, hrun' w' hw']) ⟨t, by rw [hvc]; exact hcA, hva⟩ hK
      · exact hs.elim
    · exact hs.elim
  · rename_i t y
    obtain ⟨ht, hK⟩ := hs
    obtain ⟨g, b, c, el, fr, ev, hM, hh, hle, hr⟩ := vp_place hv
    obtain ⟨v, hrun, hvc, hva⟩ := run_loadVar (P := P) hh (hT u t ht).1 hle (fun v hv => hr.one v hv)
    have hrun' : ∀ w', Below w.heap.size w w' → (loadVar u ⟨g, b, none⟩).run P w' = .ok v w' := by
      intro w' hw'
      obtain ⟨v', k1, k2, k3⟩ := run_loadVar (P := P) (Below.hp hw' hh) (hT u t ht).1 hle (fun v hv => hr.one v hv)
      rw [k1, val_det (k2.trans hvc.symm) (k3.trans hva.symm)]
    exact wp_val h hd (v := v) (x := .v (.d t y)) (fun w' hw' => by simp [execOp, ho, ev, Instr.loadAt, Instr.sureAddr, hrun' w' hw']) ⟨t, ⟨rfl, by rw [hvc]; exact hr⟩, hva⟩ hK
  · exact hs.elim

theorem Ty.sub1_f_size {P : Program} {t a : Ty} {i : Nat} (h : t.sub1 (.f i) = some a) : ∀ {u : TypeId}, TyOk P t u → ∃ fs f, P.underlying u = some (.struct fs) ∧ fs[i]? = some f ∧ f.offset = t.offF i ∧ TyOk P a f.type ∧ 0 < a.size := by
  have key : ∀ {t : Ty} {i : Nat} {fs : List Field} {off : Nat}, t.subF i = some a → FOk P t fs off → ∃ f, fs[i]? = some f ∧ f.offset = off + t.offF i ∧ TyOk P a f.type ∧ 0 < a.size := by
    intro t
    induction t with
    | cons x y _ ih =>
      intro i fs off h hf
      cases fs with
      | nil => cases hf
      | cons g r =>
        obtain ⟨h1, _, h2, h3, h4⟩ := hf
        cases i with
        | zero => simp only [Ty.subF, Option.some.injEq] at h; subst h; exact ⟨g, by simp, by simp [Ty.offF, h2], h3, h1⟩
        | succ i =>
          obtain ⟨f, k1, k2, k3⟩ := ih (i := i) h h4
          exact ⟨f, by simpa using k1, by simp [Ty.offF, k2, Nat.add_assoc], k3⟩
    | _ => intro i fs off h; simp [Ty.subF] at h
  intro u hu
  cases t with
  | cons x y =>
    obtain ⟨⟨fs, f, r, hun, hf, hs, hz, hn, ho, hta, htb⟩, _⟩ := hu
    obtain ⟨g, k1, k2, k3⟩ := key (t := .cons x y) (fs := f :: r) (off := 0) h ⟨hz, hn, ho, hta, by simpa using htb⟩
    exact ⟨fs, g, hun, by rw [← Array.getElem?_toList, hf]; exact k1, by simpa using k2, k3⟩
  | _ => simp [Ty.sub1, Ty.subF] at h

def sFieldAddr (T : Tab) (u : TypeId) (x : SV) (i : Nat) (σ : St) (K : SV → Prop) : Prop :=
  match x with
  | .ptr o p => match look σ.ob o, look T u with
    | some ob, some t => ob.t.sub p = some t ∧ (t.subF i).isSome = true ∧ K (.ptr o (p ++ [.f i]))
    | _, _ => False
  | .vp t y => match look T u with
    | some t' => t' = t ∧ (match t.subF i with | some b => K (.vp b (y.at i)) | none => False)
    | none => False
  | _ => False

theorem Ty.ok1_f (t : Ty) (i : Nat) : t.ok1 (.f i) := by cases t <;> trivial

theorem sFieldAddr_sound {T : Tab} (hT : T.Ok P) {o : Oper} {u : TypeId} {x : Operand} {i : Nat} {K : St → Prop} {s : SV} (ho : o.op = .fieldAddr u x i) (h : R0 w0 om σ a w) (hd : dstOk o.dst σ.nt)
    (hx : ev1 σ x = some s) (hs : sFieldAddr T u s i σ (fun s => K (σ.put o.dst (.v s)))) : VStep P w0 o a w K := by
  have hv := h.ev1 hx
  unfold sFieldAddr at hs
  split at hs
  · rename_i b p
    split at hs
    · rename_i ob t hl ht
      obtain ⟨hsub, hf, hK⟩ := hs
      obtain ⟨q, u', c, el, fr, ev, ho', hsub', hok, hh, hu, hroom, hcv⟩ := ptr_place h hv hl
      cases hsf : t.subF i with
      | none => simp [hsf] at hf
      | some b' =>
        obtain ⟨fs, f, k1, k2, k3, k4, k5⟩ := Ty.sub1_f_size (P := P) (t := t) (i := i) (by simpa [Ty.sub1] using hsf) (hT u t ht).1
        have hne : ¬ (b'.size = 0) := by omega
        have hs2 : ob.t.sub (p ++ [.f i]) = some b' := by rw [Ty.sub_snoc hsub]; simpa [Ty.sub1] using hsf
        refine wp_val h hd (v := .pointer (some ⟨q.b, q.base + ob.t.offs (p ++ [.f i]), none⟩)) (x := .v (.ptr b (p ++ [.f i]))) ?_ ?_ hK
        · intro w' hw'; simp [execOp, ho, ev, Instr.fieldAt, run_underlying k1, k2, Instr.sureAddr, fieldPlace, k4.sizeOf, hne, k3, Ty.offs_snoc hsub, Ty.off1, Addr.add_lit, Nat.add_assoc]
        · exact ⟨.ptr, ⟨_, rfl, rfl, ob.t, q, b', ho', hs2, Ty.okp_snoc hsub hok (Ty.ok1_f t i), rfl⟩, rfl⟩
    · exact hs.elim
  · rename_i t y
    split at hs
    · rename_i t' ht
      obtain ⟨rfl, hs⟩ := hs
      split at hs
      · rename_i b' hsf
        obtain ⟨fs, f, k1, k2, k3, k4, k5⟩ := Ty.sub1_f_size (P := P) (t := t') (i := i) (by simpa [Ty.sub1] using hsf) (hT u t' ht).1
        have hne : ¬ (b'.size = 0) := by omega
        obtain ⟨g, b, c, el, fr, ev, hM, hh, hle, hr⟩ := vp_place hv
        have hf := hr.fld hsf
        refine wp_val h hd (v := .pointer (some ⟨g, b + t'.offF i, none⟩)) (x := .v (.vp b' (y.at i))) ?_ ?_ hs
        · intro w' hw'; simp [execOp, ho, ev, Instr.fieldAt, run_underlying k1, k2, Instr.sureAddr, fieldPlace, k4.sizeOf, hne, k3, Addr.add_lit]
        · refine ⟨.ptr, ⟨rfl, g, b + t'.offF i, c, el, fr, rfl, hM, hh, by omega, ?_⟩, rfl⟩
          have := hf.1
          rw [take_drop_take_drop _ hf.2] at this
          exact this
      · exact hs.elim
    · exact hs.elim
  · exact hs.elim

/-! indexes -/

def sIndexAddr (T : Tab) (u : TypeId) (x : SV) (i : D) (σ : St) (K : SV → Prop) : Prop :=
  match look T u with
  | some (.arr n e) =>
    match x with
    | .ptr o p => match look σ.ob o with
      | some ob => ob.t.sub p = some (.arr n e) ∧ 0 ≤ i.int ∧ i.int < n ∧ K (.ptr o (p ++ [.ix i.int.toNat]))
      | none => False
    | .vp t y => t = .arr n e ∧ 0 ≤ i.int ∧ i.int < n ∧ K (.vp e (y.at i.int.toNat))
    | _ => False
  | some (.sl e) =>
    match x with
    | .ref o p off len => match look σ.ob o with
      | some ob => (match ob.t.sub p with | some (.arr _ e') => e' = e | _ => False) ∧ 0 ≤ i.int ∧ i.int < len ∧ K (.ptr o (p ++ [.ix (off + i.int.toNat)]))
      | none => False
    | .d t y => t = .sl e ∧ 0 ≤ i.int ∧ i.int < y.list.length ∧ K (.vp e (y.at i.int.toNat))
    | _ => False
  | _ => False

theorem mul_le_of_lt {i n s : Nat} (h : i < n) : i * s + s ≤ n * s := by rw [← Nat.succ_mul]; exact Nat.mul_le_mul_right _ h

theorem sIndexAddr_sound {T : Tab} (hT : T.Ok P) {o : Oper} {u : TypeId} {x y : Operand} {K : St → Prop} {s : SV} {k : IntKind} {i : D} (ho : o.op = .indexAddr u x y) (h : R0 w0 om σ a w) (hd : dstOk o.dst σ.nt)
    (hx : ev1 σ x = some s) (hy : ev1 σ y = some (.d (.int k) i)) (hs : sIndexAddr T u s i σ (fun s => K (σ.put o.dst (.v s)))) : VStep P w0 o a w K := by
  have hv := h.ev1 hx
  obtain ⟨j, ej, rfl⟩ := (h.ev1 hy).data.int
  simp only [sIndexAddr, D.int] at hs
  split at hs
  · rename_i n e ht
    obtain ⟨⟨ue, hu, hte⟩, _⟩ := (hT u _ ht).1
    split at hs
    · rename_i b p
      split at hs
      · rename_i ob hl
        obtain ⟨hsub, h0, h1, hK⟩ := hs
        obtain ⟨q, u', c, el, fr, evx, ho', hsub', hok, hh, hun, hroom, hcv⟩ := ptr_place h hv hl
        have h1' : j.toNat < n := by omega
        refine wp_val h hd (v := .pointer (some ⟨q.b, q.base + ob.t.offs (p ++ [.ix j.toNat]), none⟩)) (x := .v (.ptr b (p ++ [.ix j.toNat]))) ?_ ?_ hK
        · intro w' hw'; simp [execOp, ho, evx, ej, Instr.indexAt, asIntOf, run_underlying hu, Instr.sureAddr, h0, h1, hte.sizeOf, Ty.offs_snoc hsub, Ty.off1, Addr.add_lit, Nat.add_assoc]
        · exact ⟨.ptr, ⟨_, rfl, rfl, ob.t, q, e, ho', by rw [Ty.sub_snoc hsub]; rfl, Ty.okp_snoc hsub hok h1', rfl⟩, rfl⟩
      · exact hs.elim
    · rename_i t z
      obtain ⟨rfl, h0, h1, hK⟩ := hs
      obtain ⟨g, b, c, el, fr, evx, hM, hh, hle, hr⟩ := vp_place hv
      have h1' : j.toNat < n := by omega
      have hmul := mul_le_of_lt (s := e.size) h1'
      refine wp_val h hd (v := .pointer (some ⟨g, b + j.toNat * e.size, none⟩)) (x := .v (.vp e (z.at j.toNat))) ?_ ?_ hK
      · intro w' hw'; simp [execOp, ho, evx, ej, Instr.indexAt, asIntOf, run_underlying hu, Instr.sureAddr, h0, h1, hte.sizeOf, Addr.add_lit]
      · obtain ⟨ds, rfl, hn, hrl⟩ := hr
        have h3 := ReadL.at hrl (i := j.toNat) (by omega)
        simp only [Ty.size] at hle h3
        rw [take_drop_take_drop _ hmul] at h3
        exact ⟨.ptr, ⟨rfl, g, _, c, el, fr, rfl, hM, hh, by omega, h3⟩, rfl⟩
    · exact hs.elim
  · rename_i e ht
    obtain ⟨⟨ue, hu, hte⟩, _⟩ := (hT u _ ht).1
    split at hs
    · rename_i b p off len
      split at hs
      · rename_i ob hl
        obtain ⟨hty, h0, h1, hK⟩ := hs
        obtain ⟨e0, n, cap, hsub, hok, hlen, hcap, hpl⟩ := ref_place h hv hl
        rw [hsub] at hty
        subst hty
        have h1' : j.toNat < len := by omega
        rcases hpl with ⟨hc0, _⟩ | ⟨q, c, el, fr, ho', evx, hcap2, hh, hun, hroom, hcv⟩
        · omega
        · refine wp_val h hd (v := .pointer (some ⟨q.b, q.base + ob.t.offs (p ++ [.ix (off + j.toNat)]), none⟩)) (x := .v (.ptr b (p ++ [.ix (off + j.toNat)]))) ?_ ?_ hK
          · intro w' hw'; simp [execOp, ho, evx, ej, Instr.indexAt, asIntOf, run_underlying hu, h0, h1, hte.sizeOf, Ty.offs_snoc hsub, Ty.off1, Addr.add_lit, Nat.add_mul, Nat.add_assoc]
          · exact ⟨.ptr, ⟨_, rfl, rfl, ob.t, q, e0, ho', by rw [Ty.sub_snoc hsub]; rfl, Ty.okp_snoc hsub hok (show off + j.toNat < n by omega), rfl⟩, rfl⟩
      · exact hs.elim
    · rename_i t z
      obtain ⟨rfl, h0, h1, hK⟩ := hs
      obtain ⟨ds, b, cap, rfl, evx, hcap, hr⟩ := hv.data.sl
      simp only [D.list] at h1
      have h1' : j.toNat < ds.length := by omega
      rcases hr with hr | ⟨g, o', c, el, fr, rfl, hM, hh, hle, hrl⟩
      · omega
      · have hmul := mul_le_of_lt (s := e.size) h1'
        have hmul2 : ds.length * e.size ≤ cap * e.size := Nat.mul_le_mul_right _ hcap
        refine wp_val h hd (v := .pointer (some ⟨g, o' + j.toNat * e.size, none⟩)) (x := .v (.vp e ((D.l ds).at j.toNat))) ?_ ?_ hK
        · intro w' hw'; simp [execOp, ho, evx, ej, Instr.indexAt, asIntOf, run_underlying hu, h0, h1, hte.sizeOf, Addr.add_lit]
        · have h3 := ReadL.at hrl (i := j.toNat) (by omega)
          rw [take_drop_take_drop _ hmul] at h3
          exact ⟨.ptr, ⟨rfl, g, _, c, el, fr, rfl, hM, hh, by omega, h3⟩, rfl⟩
    · exact hs.elim
  · exact hs.elim

def sIndex (T : Tab) (u : TypeId) (x : SV) (i : D) (K : SV → Prop) : Prop :=
  match look T u, x with
  | some (.arr n e), .d t y => t = .arr n e ∧ 0 ≤ i.int ∧ i.int < n ∧ K (.d e (y.at i.int.toNat))
  | some .str, .d t y => t = .str ∧ 0 ≤ i.int ∧ i.int < y.str.size ∧ K (.d (.int .u8) (.n (y.str.data.toList.getD i.int.toNat 0).toNat))
  | _, _ => False

theorem sIndex_sound {T : Tab} (hT : T.Ok P) {o : Oper} {u : TypeId} {x y : Operand} {K : St → Prop} {s : SV} {k : IntKind} {i : D} (ho : o.op = .index u x y) (h : R0 w0 om σ a w) (hd : dstOk o.dst σ.nt)
    (hx : ev1 σ x = some s) (hy : ev1 σ y = some (.d (.int k) i)) (hs : sIndex T u s i (fun s => K (σ.put o.dst (.v s)))) : VStep P w0 o a w K := by
  have hv := h.ev1 hx
  obtain ⟨j, ej, rfl⟩ := (h.ev1 hy).data.int
  simp only [sIndex, D.int] at hs
  split at hs
  · rename_i n e t z ht
    obtain ⟨rfl, h0, h1, hK⟩ := hs
    obtain ⟨⟨ue, hu, hte⟩, _⟩ := (hT u _ ht).1
    obtain ⟨cs, evx, hr⟩ := hv.data.agg rfl
    have hl := hr.length
    simp only [Array.length_toList, Ty.size] at hl
    have h1' : j.toNat < n := by omega
    have hmul := mul_le_of_lt (s := e.size) h1'
    obtain ⟨ds, rfl, hn, hrl⟩ := hr
    have h3 := ReadL.at hrl (i := j.toNat) (by omega)
    obtain ⟨v, pv, cv, av⟩ := run_part (P := P) hte (cs := cs) (off := j.toNat * e.size) (by omega) (fun v hv => h3.one v hv)
    refine wp_val h hd (v := v) (x := .v (.d e ((D.l ds).at j.toNat))) ?_ ⟨e, ⟨rfl, by rw [cv]; exact h3⟩, av⟩ hK
    intro w' hw'; simp [execOp, ho, evx, ej, Instr.index, asIntOf, run_underlying hu, h0, h1, hte.sizeOf, pv]
  · rename_i t z ht
    obtain ⟨rfl, h0, h1, hK⟩ := hs
    obtain ⟨z, evx, rfl⟩ := hv.data.str
    have hu := (hT u _ ht).1.1
    simp only [D.str] at h1 hK
    have h1' : j.toNat < z.size := by omega
    refine wp_val h hd (v := .int .u8 (z.data.toList.getD j.toNat 0).toNat) (x := .v (.d (.int .u8) (.n _))) ?_ (Val1.of (RdV.mk_int _ _)) hK
    have hg : z[j.toNat]? = some (z.data.toList.getD j.toNat 0) := by
      rw [getElem?_pos z j.toNat h1']
      congr 1
      have h2 : j.toNat < z.data.size := h1'
      simp only [List.getD_eq_getElem?_getD, Array.getElem?_toList, Array.getElem?_eq_getElem h2]
      rfl
    intro w' hw'; simp [execOp, ho, evx, ej, Instr.index, asIntOf, run_underlying hu, h0, hg]
  · exact hs.elim

def sField (T : Tab) (u : TypeId) (x : SV) (i : Nat) (σ : St) (K : SV → Prop) : Prop :=
  match look T u, x.stepF i with
  | some t, some s => hasTy σ t x ∧ K s
  | _, _ => False

theorem sField_sound {T : Tab} (hT : T.Ok P) {o : Oper} {u : TypeId} {x : Operand} {i : Nat} {K : St → Prop} {s : SV} (ho : o.op = .field u x i) (h : R0 w0 om σ a w) (hd : dstOk o.dst σ.nt)
    (hx : ev1 σ x = some s) (hs : sField T u s i σ (fun s => K (σ.put o.dst (.v s)))) : VStep P w0 o a w K := by
  have hv := h.ev1 hx
  unfold sField at hs
  split at hs
  · rename_i t s' ht hsf
    obtain ⟨hty, hK⟩ := hs
    obtain ⟨hcv, hag⟩ := hv.ty h hty
    obtain ⟨b, hb, hcb, hle⟩ := CV.fld hcv hsf
    obtain ⟨fs, f, k1, k2, k3, k4, k5⟩ := Ty.sub1_f_size (P := P) (t := t) (i := i) (by simpa [Ty.sub1] using hb) (hT u t ht).1
    have hagg : t.agg = true := by cases t <;> simp_all [Ty.subF, Ty.agg]
    rw [hagg] at hag
    cases hva : a.eval x <;> simp [hva, vAgg] at hag
    rename_i cs
    rw [hva] at hcv hcb
    simp only [Value.cells] at hcv hcb
    have hl := hcv.length
    simp only [Array.length_toList] at hl
    obtain ⟨v, pv, cv, av⟩ := run_part (P := P) k4 (cs := cs) (off := t.offF i) (by omega) (fun v hv => hcb.one v hv)
    refine wp_val h hd (v := v) (x := .v s') ?_ ⟨b, by rw [cv]; exact hcb, av⟩ hK
    intro w' hw'; simp [execOp, ho, hva, Instr.field, run_underlying k1, k2, asAgg, k3, pv]
  · exact hs.elim

def sExtract (x : Option TV) (i : Nat) (K : SV → Prop) : Prop :=
  match x with
  | some (.tup xs) => match xs[i]? with | some s => K s | none => False
  | _ => False

theorem sExtract_sound {o : Oper} {x : Operand} {i : Nat} {K : St → Prop} (ho : o.op = .extract x i) (h : R0 w0 om σ a w) (hd : dstOk o.dst σ.nt)
    (hs : sExtract (ev σ x) i (fun s => K (σ.put o.dst (.v s)))) : VStep P w0 o a w K := by
  unfold sExtract at hs
  split at hs
  · rename_i xs hx
    split at hs
    · rename_i s hi
      obtain ⟨vs, ev', hl, hp⟩ := h.ev hx
      have hlt : i < xs.length := (List.getElem?_eq_some_iff.1 hi).1
      have hv : vs[i]? = some (vs[i]'(by omega)) := by simp
      refine wp_val h hd (v := vs[i]'(by omega)) (x := .v s) ?_ (hp i _ _ hi hv) hs
      intro w' hw'; simp [execOp, ho, ev', Instr.extract, hv]
    · exact hs.elim
  · exact hs.elim

theorem sPick_sound {o : Oper} {c x y : Operand} {K : St → Prop} {b : D} (ho : o.op = .pick c x y) (h : R0 w0 om σ a w) (hd : dstOk o.dst σ.nt)
    (hc : ev1 σ c = some (.d .bool b)) (hs : sIf b.bool (match ev σ x with | some v => K (σ.put o.dst v) | none => False) (match ev σ y with | some v => K (σ.put o.dst v) | none => False)) : VStep P w0 o a w K := by
  obtain ⟨p, ep, rfl⟩ := (h.ev1 hc).data.bool
  simp only [D.bool] at hs
  cases p with
  | true =>
    have := hs.1 rfl
    split at this
    · rename_i v hv; exact wp_val h hd (v := a.eval x) (x := v) (fun w' hw' => by simp [execOp, ho, ep, asBool]) (h.ev hv) this
    · exact this.elim
  | false =>
    have := hs.2 rfl
    split at this
    · rename_i v hv; exact wp_val h hd (v := a.eval y) (x := v) (fun w' hw' => by simp [execOp, ho, ep, asBool]) (h.ev hv) this
    · exact this.elim

theorem sNil_sound {o : Oper} {x : Operand} {K : St → Prop} {s : SV} (ho : o.op = .nilCheck x) (h : R0 w0 om σ a w) (hd : dstOk o.dst σ.nt)
    (hx : ev1 σ x = some s) (hs : match s with | .ptr b p => (look σ.ob b).isSome = true ∧ K (σ.put o.dst (.v (.ptr b p))) | .vp t y => K (σ.put o.dst (.v (.vp t y))) | _ => False) : VStep P w0 o a w K := by
  have hv := h.ev1 hx
  cases s with
  | ptr b p =>
    obtain ⟨hl, hK⟩ := hs
    obtain ⟨ob, hl⟩ := Option.isSome_iff_exists.1 hl
    obtain ⟨q, u', c, el, fr, evx, _⟩ := ptr_place h hv hl
    exact wp_val h hd (v := a.eval x) (x := .v (.ptr b p)) (fun w' hw' => by simp [execOp, ho, evx]) hv hK
  | vp t y =>
    obtain ⟨g, o', c, el, fr, evx, _⟩ := vp_place hv
    exact wp_val h hd (v := a.eval x) (x := .v (.vp t y)) (fun w' hw' => by simp [execOp, ho, evx]) hv hs
  | _ => exact hs.elim

end
end Go.SE
