/- The operations on memory: composites, make, append, copy. -/
import Derived.Test.YtbdalbibdkipcaaSeH
set_option linter.unusedVariables false
set_option linter.unusedSimpArgs false
set_option linter.constructorNameAsVariable false
namespace Go.SE
open Go.RowKit (Below)
open Go.Lib

section
variable {P : Program} {w0 : Base} {om : Om} {σ : St} {a : Act} {w : World}

/-! what a slice brings along -/

structure Src (P : Program) (w : World) (S : Nat → Prop) (e : Ty) (v : Value) (ds : List D) (news : List Value) : Prop where
  len : news.length = ds.length * e.size
  rd : ReadL (Rd w S e) e.size news ds
  first : ∀ w' : World, w'.heap = w.heap → ∀ n, n ≤ ds.length → (Builtin.firstCells e.size n v).run P w' = .ok (news.take (n * e.size)).toArray w'
  lenOf : ∀ w' : World, (Builtin.lenOf v).run P w' = .ok ds.length w'

theorem src_of_row {S : Nat → Prop} {e : Ty} {ds : List D} {b : Option Addr} {cap : Nat} (hle : ds.length ≤ cap)
    (hr : cap = 0 ∨ ∃ g o c el fr, b = some ⟨g, o, none⟩ ∧ w.heap[g]? = some (.cells c el fr) ∧ o + cap * e.size ≤ c.size ∧ ReadL (Rd w S e) e.size ((c.toList.drop o).take (ds.length * e.size)) ds) :
    ∃ news, Src P w S e (.slice b ds.length cap) ds news := by
  rcases hr with hc | ⟨g, o, c, el, fr, rfl, hh, hb, hrl⟩
  · have : ds = [] := List.eq_nil_of_length_eq_zero (by omega)
    subst this
    refine ⟨[], by simp, rfl, ?_, ?_⟩
    · intro w' _ n hn
      have : n = 0 := by simpa using hn
      subst this
      cases b <;> simp [Builtin.firstCells, loadCells, loadCellsFrom]
    · intro w'; simp [Builtin.lenOf]
  · have hm : ds.length * e.size ≤ cap * e.size := Nat.mul_le_mul_right _ hle
    refine ⟨(c.toList.drop o).take (ds.length * e.size), by simp; omega, hrl, ?_, ?_⟩
    · intro w' hw' n hn
      have hn2 : n * e.size ≤ ds.length * e.size := Nat.mul_le_mul_right _ hn
      have hc := cells_at (w := w') (by rw [hw']; exact hh) (o := o) (n := n * e.size) (by omega)
      have := run_firstCells_some (P := P) w' e.size n ⟨g, o, none⟩ ds.length cap _ (by simp; omega) hc
      rw [this, List.take_take, Nat.min_eq_left hn2]
    · intro w'; simp [Builtin.lenOf]

theorem den_src (h : R0 w0 om σ a w) {e : Ty} {y : SV} {v : Value} {d : D} (hv : Val1 w om (Mb σ.ob om) y v) (hd : den σ (.sl e) y = some d) :
    ∃ ds news b cap, d = .l ds ∧ v = .slice b ds.length cap ∧ Src P w (fun b => ¬ Mb σ.ob om b) e v ds news := by
  cases y with
  | d t x =>
    simp only [den] at hd
    split at hd
    · rename_i et
      subst et
      simp only [Option.some.injEq] at hd
      subst hd
      obtain ⟨ds, b, cap, rfl, rfl, hle, hr⟩ := hv.data.sl
      obtain ⟨news, hs⟩ := src_of_row (P := P) (w := w) (S := fun b => ¬ Mb σ.ob om b) (b := b) hle (by
        rcases hr with hr | ⟨g, o, c, el, fr, h1, _, h3, h4, h5⟩
        · exact .inl hr
        · exact .inr ⟨g, o, c, el, fr, h1, h3, h4, h5⟩)
      exact ⟨ds, news, b, cap, rfl, rfl, hs⟩
    · cases hd
  | nil =>
    simp only [den, Option.some.injEq] at hd
    subst hd
    obtain ⟨t, ⟨⟨e', rfl⟩, b, hc⟩, ha⟩ := hv
    have : v = .slice b 0 0 := by cases v <;> simp_all [Value.cells, vAgg, Ty.agg]
    subst this
    obtain ⟨news, hs⟩ := src_of_row (P := P) (w := w) (S := fun b => ¬ Mb σ.ob om b) (e := e) (ds := []) (b := b) (cap := 0) (Nat.le_refl _) (.inl rfl)
    exact ⟨[], news, b, 0, rfl, rfl, hs⟩
  | ref o p off len =>
    simp only [den] at hd
    split at hd
    · rename_i ob hl
      split at hd
      · rename_i n' e' x hg
        split at hd
        · rename_i ee
          subst ee
          simp only [Option.some.injEq] at hd
          subst hd
          obtain ⟨e0, n, cap, hsub, hok, hlen, hcap, hpl⟩ := ref_place h hv hl
          rcases hpl with ⟨rfl, b, rfl⟩ | ⟨q, c, el, fr, ho', rfl, hcap2, hh, hun, hroom, hcv⟩
          · have : len = 0 := by omega
            subst this
            obtain ⟨news, hs⟩ := src_of_row (P := P) (w := w) (S := fun b => ¬ Mb σ.ob om b) (e := e') (ds := []) (b := b) (cap := 0) (Nat.le_refl _) (.inl rfl)
            exact ⟨[], news, b, 0, by simp, rfl, hs⟩
          · obtain ⟨A, hA, hcA, hle⟩ := CV.get hcv hok hg
            rw [hsub] at hA
            simp only [Option.some.injEq] at hA
            subst hA
            obtain ⟨hty, hrd⟩ := hcA
            simp only [Ty.arr.injEq] at hty
            obtain ⟨rfl, rfl⟩ := hty
            obtain ⟨ds, rfl, hdl, hrl⟩ := hrd
            have hlen2 : ((ds.drop off).take len).length = len := by simp; omega
            have hb : q.base + ob.t.offs p + off * e'.size + cap * e'.size ≤ c.size := by
              have hr1 := hroom.1
              by_cases hp : p = []
              · subst hp
                simp only [if_true] at hcap2
                simp only [Ty.sub, Option.some.injEq] at hsub
                have := (hroom.2 _ _ hsub).2
                simp only [Ty.offs, Nat.add_zero]
                have : (off + cap) * e'.size ≤ q.C * e'.size := Nat.mul_le_mul_right _ hcap2
                rw [Nat.add_mul] at this
                omega
              · simp only [hp, if_false] at hcap2
                have : (off + cap) * e'.size ≤ n' * e'.size := Nat.mul_le_mul_right _ hcap2
                rw [Nat.add_mul] at this
                simp only [Ty.size] at hle
                omega
            have hrl2 : ReadL (Rd w (fun b => ¬ Mb σ.ob om b) e') e'.size ((c.toList.drop (q.base + ob.t.offs p + off * e'.size)).take (((ds.drop off).take len).length * e'.size)) ((ds.drop off).take len) := by
              rw [hlen2]
              have h5 := ReadL.take len (ReadL.drop off hrl)
              simp only [Ty.size] at h5 hle
              have h6 : (off + len) * e'.size ≤ n' * e'.size := Nat.mul_le_mul_right _ (by omega)
              rw [Nat.add_mul] at h6
              rw [take_drop_take_drop _ (by omega), take_drop_take_drop _ (by omega)] at h5
              simpa [Nat.add_assoc] using h5
            obtain ⟨news, hs⟩ := src_of_row (P := P) (w := w) (S := fun b => ¬ Mb σ.ob om b) (e := e') (ds := (ds.drop off).take len) (b := some ⟨q.b, q.base + ob.t.offs p + off * e'.size, none⟩) (cap := cap) (by omega)
              (.inr ⟨q.b, _, c, el, fr, rfl, hh, hb, hrl2⟩)
            rw [hlen2] at hs
            exact ⟨(ds.drop off).take len, news, _, cap, rfl, by rw [hlen2], hs⟩
        · cases hd
      · cases hd
    · cases hd
  | ptr _ _ => simp [den] at hd
  | vp _ _ => simp [den] at hd
  | anil => simp [den] at hd
  | acons _ _ => simp [den] at hd

theorem str_src {S : Nat → Prop} (s : ByteArray) : Src P w S (.int .u8) (.string s) (bytesD s) (s.data.toList.map fun b => .int .u8 b.toNat) := by
  refine ⟨by simp [bytesD, Ty.size], by simpa [Ty.size, bytesD] using readL_bytes s.data.toList, ?_, ?_⟩
  · intro w' _ n hn
    simp only [Builtin.firstCells, Sem.run_pure, Ty.size, Nat.mul_one]
    congr 1
    apply Array.ext'
    simp only [Array.toList_map, ByteArray.data_extract, Array.toList_extract, List.extract_eq_take_drop, List.drop_zero, Nat.sub_zero, List.map_take]
  · intro w'; simp [Builtin.lenOf, bytesD]

/-! append -/

theorem run_append_room' {t ty u e : TypeId} {i : TypeInfo} {du : TypeDesc} (ht : P.underlying t = some (.slice e)) (hu : P.underlying u = some du) (hdu : (∃ v, du = .slice v) ∨ du = .string) (hi : P.info? e = some i)
    {g o n cap m : Nat} {cur : Array Value} {el : TypeId} {fr : Nat × Nat} {x : Value} {news : List Value} (hg : w.heap[g]? = some (.cells cur el fr)) (hun : Unfrozen cur.size fr) (hlo : (Builtin.lenOf x).run P w = .ok m w)
    (hf : (Builtin.firstCells i.size m x).run P w = .ok news.toArray w) (h1 : ∀ v ∈ news, v.oneCell' = true) (hroom : n + m ≤ cap) (hfit : o + n * i.size + news.length ≤ cur.size) :
    (Builtin.append_ #[t, u] ty #[.slice (some ⟨g, o, none⟩) n cap, x]).run P w = .ok (.slice (some ⟨g, o, none⟩) (n + m) cap) (w.setRow g (splice cur.toList (o + n * i.size) news).toArray) := by
  have hst := run_storeCells_un (P := P) (g := g) (o + n * i.size) news 0 cur w hg hun (by simpa using hfit) h1
  simp only [Nat.add_zero] at hst
  rcases hdu with ⟨v, rfl⟩ | rfl <;> simp [Builtin.append_, run_underlying ht, run_underlying hu, sizeOf, typeInfo, hi, hlo, hroom, hf, Addr.add_lit, hst]

theorem run_append_none {t ty u e : TypeId} {i : TypeInfo} {du : TypeDesc} (ht : P.underlying t = some (.slice e)) (hu : P.underlying u = some du) (hdu : (∃ v, du = .slice v) ∨ du = .string) (hi : P.info? e = some i)
    {b : Option Addr} {x : Value} (hlo : (Builtin.lenOf x).run P w = .ok 0 w) (hf : (Builtin.firstCells i.size 0 x).run P w = .ok #[] w) :
    (Builtin.append_ #[t, u] ty #[.slice b 0 0, x]).run P w = .ok (.slice b 0 0) w := by
  rcases hdu with ⟨v, rfl⟩ | rfl <;> cases b <;> simp [Builtin.append_, run_underlying ht, run_underlying hu, sizeOf, typeInfo, hi, hlo, hf, storeCells]

theorem run_append_grow' {t ty u e : TypeId} {i : TypeInfo} {z : Value} {du : TypeDesc} (ht : P.underlying t = some (.slice e)) (hu : P.underlying u = some du) (hdu : (∃ v, du = .slice v) ∨ du = .string) (hi : P.info? e = some i) (hz : i.zero = some z)
    {b : Option Addr} {n cap m : Nat} {x : Value} {olds news : List Value} (hlo : (Builtin.lenOf x).run P w = .ok m w)
    (hfo : (Builtin.firstCells i.size n (.slice b n cap)).run P w.drew = .ok olds.toArray w.drew) (hf : (Builtin.firstCells i.size m x).run P w.drew = .ok news.toArray w.drew)
    (hg : cap < n + m) (h63 : n + m ≤ 140737488355328) (hb : (n + m) * i.bytes ≤ 140737488355328) :
    (Builtin.append_ #[t, u] ty #[.slice b n cap, x]).run P w =
      .ok (.slice (some ⟨w.heap.size, 0, none⟩) (n + m) (grownCap w (n + m) cap e)) (w.drew.alloc (.cells (olds ++ news ++ (Builtin.zeroCells z.cells (grownCap w (n + m) cap e - (n + m))).toList).toArray e)) := by
  have hn : ¬ (n + m ≤ cap) := by omega
  have h63' : ¬ (9223372036854775807 < ((n : Int) + (m : Int))) := by omega
  have h48 := growslice_fits hg hb
  have h48' : ¬ (281474976710656 < Builtin.nextslicecap (n + m) cap * i.bytes) := by omega
  have key : ∀ X : Array Value, olds.toArray ++ (news.toArray ++ X) = (olds ++ (news ++ X.toList)).toArray := by
    intro X; apply Array.ext'; simp
  rcases hdu with ⟨v, rfl⟩ | rfl <;>
    (simp [Builtin.append_, run_underlying ht, run_underlying hu, sizeOf, typeInfo, zeroValue, hi, hz, hlo, hn, h63', h48', Question.forced, hfo, hf, newRow, grownCap]
     rw [key])

/-- The elements that are appended. -/
def srcD (T : Tab) (σ : St) (e : Ty) (u : TypeId) (y : SV) : Option (List D) :=
  match look T u with
  | some (.sl e') => if e' = e then (match den σ (.sl e) y with | some d => some d.list | none => none) else none
  | some .str => if e = .int .u8 then (match y with | .d .str s => some (bytesD s.str) | _ => none) else none
  | _ => none

theorem srcD_ok {T : Tab} (hT : T.Ok P) (h : R0 w0 om σ a w) {e : Ty} {u : TypeId} {y : SV} {v : Value} {ds : List D} (hv : Val1 w om (Mb σ.ob om) y v) (hs : srcD T σ e u y = some ds) :
    ∃ news du, P.underlying u = some du ∧ ((∃ v, du = .slice v) ∨ du = .string) ∧ Src P w (fun b => ¬ Mb σ.ob om b) e v ds news := by
  unfold srcD at hs
  split at hs
  · rename_i e' ht
    obtain ⟨⟨ue, hu, _⟩, _⟩ := (hT u _ ht).1
    split at hs
    · rename_i he
      subst he
      split at hs
      · rename_i d hd
        simp only [Option.some.injEq] at hs
        subst hs
        obtain ⟨ds, news, b, cap, rfl, rfl, hsrc⟩ := den_src (P := P) h hv hd
        exact ⟨news, _, hu, .inl ⟨_, rfl⟩, hsrc⟩
      · cases hs
    · cases hs
  · rename_i ht
    have hu := (hT u _ ht).1.1
    split at hs
    · rename_i he
      subst he
      split at hs
      · rename_i s
        simp only [Option.some.injEq] at hs
        subst hs
        obtain ⟨z, rfl, rfl⟩ := hv.data.str
        exact ⟨_, _, hu, .inr rfl, str_src z⟩
      · cases hs
    · cases hs
  · cases hs

def sAppend (T : Tab) (t u : TypeId) (x y : SV) (σ : St) (K : St → SV → Prop) : Prop :=
  match look T t with
  | some (.sl e) =>
    match srcD T σ e u y with
    | some ds =>
      match x with
      | .nil => ds.length ≤ 140737488355328 ∧ ds.length * e.bytes ≤ 140737488355328 ∧ K { σ with ob := (σ.nx, ⟨.arr ds.length e, .d (.arr ds.length e) (.l ds)⟩) :: σ.ob, nx := σ.nx + 1 } (.ref σ.nx [] 0 ds.length)
      | .ref o [] off len =>
        match look σ.ob o with
        | some ob => match ob.c with
          | .d (.arr N e') c => e' = e ∧ off + len = N ∧ len + ds.length ≤ 140737488355328 ∧ (len + ds.length) * e.bytes ≤ 140737488355328 ∧
              K { σ with ob := (σ.nx, ⟨.arr (len + ds.length) e, .d (.arr (len + ds.length) e) (.l (c.list.drop off ++ ds))⟩) :: del σ.ob o, nx := σ.nx + 1 } (.ref σ.nx [] 0 (len + ds.length))
          | _ => False
        | none => False
      | _ => False
    | none => False
  | _ => False

theorem readL_lens {S : Nat → Prop} {e : Ty} {cs : List Value} {ds : List D} (h : ReadL (Rd w S e) e.size cs ds) : cs.length = ds.length * e.size := ReadL.length (fun _ _ k => Rd.length k) h

theorem sAppend_sound {T : Tab} (hT : T.Ok P) {o : Oper} {t u : TypeId} {x y : Operand} {Q : Exit → Act → World → Prop} {K : St → Prop} {s r : SV} (ho : o.op = .call { callee := .builtin .append, args := #[x, y], argTypes := #[t, u] }) (h : R0 w0 om σ a w) (hd : dstOk o.dst σ.nt)
    (hx : ev1 σ x = some s) (hy : ev1 σ y = some r) (hs : sAppend T t u s r σ (fun σ s => K (σ.put o.dst (.v s)))) : o.wp P a w (After w0 K) Q := by
  have hv := h.ev1 hx
  have hw := h.ev1 hy
  unfold sAppend at hs
  have exec : ∀ {v : Value} {w' : World}, (Builtin.append_ #[t, u] o.type #[a.eval x, a.eval y]).run P w = .ok v w' → (execOp a.eval o).run P w = .ok (.value v) w' := by
    intro v w' hr
    simp [execOp, ho, resolve, invoke, builtin, hr]
  split at hs
  · rename_i e ht
    obtain ⟨⟨ue, hu, hte⟩, _⟩ := (hT t _ ht).1
    obtain ⟨i, hi, his, hib, z, hz, hzc, _⟩ := hte.info
    have hzs : z.cells.size = e.size := by
      have := congrArg List.length hzc
      rw [Ty.zeroCells_length] at this; simpa using this
    split at hs
    · rename_i ds hds
      obtain ⟨news, du, hdu, hnint, hsrc⟩ := srcD_ok (P := P) hT h hw hds
      have hnews : ∀ w' : World, w'.heap = w.heap → (Builtin.firstCells i.size ds.length (a.eval y)).run P w' = .ok news.toArray w' := by
        intro w' hw'
        have := hsrc.first w' hw' ds.length (Nat.le_refl _)
        rw [List.take_of_length_le (by rw [hsrc.len]; exact Nat.le_refl _)] at this
        rw [his]; exact this
      have hone : ∀ v ∈ news, v.oneCell' = true := ReadL.one (fun _ _ k => Rd.one k) hsrc.rd
      have hlo := hsrc.lenOf w
      -- a new row of olds and news
      have grow : ∀ {σ1 : St} (h1 : R0 w0 om σ1 a w) (hM : ∀ b, Mo σ1.ob om b → Mo σ.ob om b) (hnt : σ1.nt = σ.nt) {b : Option Addr} {n cap : Nat} {olds : List Value} {od : List D} (_ : a.eval x = .slice b n cap) (_ : cap < n + ds.length) (_ : od.length = n)
          (_ : ReadL (Rd w (fun b => ¬ Mb σ.ob om b) e) e.size olds od) (_ : (Builtin.firstCells i.size n (.slice b n cap)).run P w.drew = .ok olds.toArray w.drew) (_ : n + ds.length ≤ 140737488355328) (_ : (n + ds.length) * e.bytes ≤ 140737488355328)
          (_ : K ({ σ1 with ob := (σ1.nx, ⟨.arr (n + ds.length) e, .d (.arr (n + ds.length) e) (.l (od ++ ds))⟩) :: σ1.ob, nx := σ1.nx + 1 }.put o.dst (.v (.ref σ1.nx [] 0 (n + ds.length))))), o.wp P a w (After w0 K) Q := by
        intro σ1 h1 hM hnt b n cap olds od evx hcap hod hrl hfo hlim hlimb hK
        have hbb : (n + ds.length) * i.bytes ≤ 140737488355328 := Nat.le_trans (Nat.mul_le_mul_left _ hib) hlimb
        have hrun := run_append_grow' (P := P) (w := w) (ty := o.type) hu hdu hnint hi hz (b := b) (n := n) (cap := cap) hlo hfo (hnews _ rfl) hcap hlim hbb
        have hge := grownCap_ge w (n + ds.length) cap ue
        have hol := readL_lens hrl
        have hnl := hsrc.len
        generalize hG : grownCap w (n + ds.length) cap ue = G at *
        have hzl : (Builtin.zeroCells z.cells (G - (n + ds.length))).toList.length = (G - (n + ds.length)) * e.size := by simp [size_zeroCells, hzs]
        have htot : (olds ++ news ++ (Builtin.zeroCells z.cells (G - (n + ds.length))).toList).length = G * e.size := by
          rw [List.length_append, List.length_append, hol, hnl, hzl, ← Nat.add_mul, ← Nat.add_mul]; congr 1; omega
        have hmul : (n + ds.length) * e.size ≤ G * e.size := Nat.mul_le_mul_right _ hge
        have hM' : ∀ b o, ¬ Mb σ.ob om b → w.heap[b]? = some o → ¬ Mb σ1.ob om b ∧ w.heap[b]? = some o := Mb.lift rfl fun b o hb ho => ⟨fun hc => hb (hM b hc), ho⟩
        obtain ⟨om', hR, hself, _, _⟩ := h1.alloc (w' := w.drew.alloc (.cells (olds ++ news ++ (Builtin.zeroCells z.cells (G - (n + ds.length))).toList).toArray ue)) (olds ++ news ++ (Builtin.zeroCells z.cells (G - (n + ds.length))).toList).toArray ue (0, 0)
          ⟨.arr (n + ds.length) e, .d (.arr (n + ds.length) e) (.l (od ++ ds))⟩ G rfl rfl rfl rfl (by intro j _ hh; simp at hh)
          (by
            have hsz : (olds ++ news ++ (Builtin.zeroCells z.cells (G - (n + ds.length))).toList).toArray.size = G * e.size := htot
            rw [hsz]
            refine ⟨by simp only [Ty.size]; omega, ?_⟩
            intro k e' he
            simp only [Ty.arr.injEq] at he
            obtain ⟨rfl, rfl⟩ := he
            exact ⟨hge, by show 0 + G * e.size ≤ G * e.size; omega⟩)
          (by
            refine ⟨rfl, od ++ ds, rfl, by simp [hod], ?_⟩
            rw [List.toList_toArray]
            simp only [Ty.size]
            rw [List.take_append_of_le_length (by rw [List.length_append, hol, hnl, ← Nat.add_mul, hod]; exact Nat.le_refl _), List.take_of_length_le (by rw [List.length_append, hol, hnl, ← Nat.add_mul, hod]; exact Nat.le_refl _)]
            exact ReadL.append (fun _ _ k => Rd.length k) (ReadL.mono (fun _ _ k => Rd.mono hM' k) hrl) (ReadL.mono (fun _ _ k => Rd.mono hM' k) hsrc.rd))
        refine wp_world hR (by simpa [hnt] using hd) (v := .slice (some ⟨w.heap.size, 0, none⟩) (n + ds.length) G) (x := .v (.ref σ1.nx [] 0 (n + ds.length))) (exec (by rw [evx]; exact hrun)) ?_ hK
        exact ⟨.sl e, ⟨e, _, rfl, rfl, _, _, n + ds.length, _, hself, rfl, trivial, by omega, hge, .inr ⟨_, rfl, by simp [Ty.offs], by simp⟩⟩, rfl⟩
      split at hs
      · obtain ⟨hl1, hl2, hK⟩ := hs
        obtain ⟨b, cap, evx⟩ := slen_ok hv (n := 0) rfl
        have hcap : cap = 0 := by
          obtain ⟨t', ⟨_, b', hc⟩, _⟩ := hv
          rw [evx] at hc; simp [Value.cells] at hc; exact hc.2
        subst hcap
        by_cases hm : ds.length = 0
        · have hde : ds = [] := List.eq_nil_of_length_eq_zero hm
          subst hde
          obtain ⟨om', hR, hself, _⟩ := h.nilRow e
          have hne : news = [] := List.eq_nil_of_length_eq_zero (by rw [hsrc.len]; simp)
          subst hne
          have hrun := run_append_none (P := P) (w := w) (ty := o.type) hu hdu hnint hi (b := b) hlo (by simpa using hnews w rfl)
          refine wp_world hR hd (v := .slice b 0 0) (x := .v (.ref σ.nx [] 0 0)) (exec (by rw [evx]; exact hrun)) ?_ hK
          exact ⟨.sl e, ⟨e, _, rfl, rfl, _, _, 0, 0, hself, rfl, trivial, by omega, by omega, .inl ⟨rfl, b, rfl⟩⟩, rfl⟩
        · refine grow (σ1 := σ) h (fun _ h => h) rfl (b := b) (n := 0) (cap := 0) (olds := []) (od := []) evx (by omega) rfl rfl ?_ (by omega) (by simpa using hl2) (by simpa using hK)
          cases b <;> simp [Builtin.firstCells, loadCells, loadCellsFrom]
      · rename_i b off len
        split at hs
        · rename_i ob hl
          split at hs
          · rename_i N e' c hc0
            obtain ⟨rfl, hN, hl1, hl2, hK⟩ := hs
            obtain ⟨e0, n, cap, hsub, hok, hlen, hcap, hpl⟩ := ref_place h hv hl
            simp only [Ty.sub, Option.some.injEq] at hsub
            rcases hpl with ⟨rfl, b', evx⟩ | ⟨q, cc, el, fr, ho', evx, hcap2, hh, hun, hroom, hcv⟩
            · have hl0 : len = 0 := by omega
              subst hl0
              have hcdrop : c.list.drop off = [] := by
                obtain ⟨pl, hpo, hpl⟩ := h.ob _ _ hl
                have hcl : c.list.length = N := by
                  cases pl with
                  | none =>
                    obtain ⟨_, h2⟩ := hpl
                    rw [hc0] at h2
                    obtain ⟨h3, h4⟩ := h2
                    rw [← h3] at h4
                    obtain ⟨ds', rfl, h5, _⟩ := h4
                    exact h5
                  | some q =>
                    obtain ⟨_, _, _, _, _, _, _, h2⟩ := hpl
                    rw [hc0] at h2
                    obtain ⟨h3, h4⟩ := h2
                    rw [← h3] at h4
                    obtain ⟨ds', rfl, h5, _⟩ := h4
                    exact h5
                exact List.drop_of_length_le (by omega)
              have h1 := h.drop b
              have hM : ∀ b1, Mo (del σ.ob b) om b1 → Mo σ.ob om b1 := by
                rintro b1 ⟨k, y', t', q', k1, k2, k3⟩
                rw [look_del] at k1
                split at k1
                · cases k1
                · exact ⟨k, y', t', q', k1, k2, k3⟩
              by_cases hm : ds.length = 0
              · have hde : ds = [] := List.eq_nil_of_length_eq_zero hm
                subst hde
                obtain ⟨om', hR, hself, _⟩ := h1.nilRow e'
                have hne : news = [] := List.eq_nil_of_length_eq_zero (by rw [hsrc.len]; simp)
                subst hne
                have hrun := run_append_none (P := P) (w := w) (ty := o.type) hu hdu hnint hi (b := b') hlo (by simpa using hnews w rfl)
                refine wp_world hR hd (v := .slice b' 0 0) (x := .v (.ref σ.nx [] 0 0)) (exec (by rw [evx]; exact hrun)) ?_ (by simpa [hcdrop] using hK)
                exact ⟨.sl e', ⟨e', _, rfl, rfl, _, _, 0, 0, hself, rfl, trivial, by omega, by omega, .inl ⟨rfl, b', rfl⟩⟩, rfl⟩
              · refine grow (σ1 := { σ with ob := del σ.ob b }) h1 hM rfl (b := b') (n := 0) (cap := 0) (olds := []) (od := []) evx (by omega) rfl rfl ?_ (by omega) (by simpa using hl2) (by simpa [hcdrop] using hK)
                cases b' <;> simp [Builtin.firstCells, loadCells, loadCellsFrom]
            · simp only [if_true] at hcap2
              rw [hc0] at hcv
              obtain ⟨hty, hrd⟩ := hcv
              rw [hsub] at hty hrd hroom
              simp only [Ty.arr.injEq] at hty
              obtain ⟨rfl, rfl⟩ := hty
              obtain ⟨cl, rfl, hcl, hrl⟩ := hrd
              simp only [D.list] at hK
              simp only [Ty.offs, Nat.add_zero] at evx
              have hr1 := hroom.1
              have hr2 := (hroom.2 _ _ rfl).2
              have hC := (hroom.2 _ _ rfl).1
              simp only [Ty.size] at hrl hr1
              have hod : (cl.drop off).length = len := by simp; omega
              have hm1 : off * e'.size + len * e'.size = N * e'.size := by rw [← Nat.add_mul, hN]
              have hrl2 : ReadL (Rd w (fun b => ¬ Mb σ.ob om b) e') e'.size ((cc.toList.drop (q.base + off * e'.size)).take (len * e'.size)) (cl.drop off) := by
                have h5 := ReadL.drop off hrl
                rw [List.drop_take, List.drop_drop] at h5
                rw [show N * e'.size - off * e'.size = len * e'.size by omega] at h5
                exact h5
              by_cases hroomy : len + ds.length ≤ cap
              · -- there is room
                have hmul : (off + cap) * e'.size ≤ q.C * e'.size := Nat.mul_le_mul_right _ hcap2
                have hmul2 : (len + ds.length) * e'.size ≤ cap * e'.size := Nat.mul_le_mul_right _ hroomy
                rw [Nat.add_mul] at hmul hmul2
                have hnl := hsrc.len
                have hrun := run_append_room' (P := P) (w := w) (ty := o.type) hu hdu hnint hi (g := q.b) (o := q.base + off * e'.size) (n := len) (cap := cap) hh hun hlo (hnews w rfl) hone hroomy (by rw [his, hnl]; omega)
                rw [his] at hrun
                have hspl : (splice cc.toList (q.base + off * e'.size + len * e'.size) news).length = cc.size := by
                  rw [splice_length (by rw [hnl]; simp; omega)]; simp
                obtain ⟨om', hR, hself, _⟩ := h.turn (w' := w.setRow q.b (splice cc.toList (q.base + off * e'.size + len * e'.size) news).toArray) hl ho' hh (splice cc.toList (q.base + off * e'.size + len * e'.size) news).toArray (.arr (len + ds.length) e') (.d (.arr (len + ds.length) e') (.l (cl.drop off ++ ds))) ⟨q.b, q.base + off * e'.size, q.C - off⟩ rfl
                  (setRow_heap w q.b cc _ el fr hh) (fun b hb => setRow_other w q.b b _ hb) (by simp [World.setRow]) rfl rfl rfl (by simp [hspl])
                  (by
                    have hm3 : off * e'.size + (q.C - off) * e'.size = q.C * e'.size := by rw [← Nat.add_mul]; congr 1; omega
                    refine ⟨by simp only [Ty.size, Nat.add_mul]; omega, ?_⟩
                    intro k e2 he2
                    simp only [Ty.arr.injEq] at he2
                    obtain ⟨rfl, rfl⟩ := he2
                    exact ⟨by simp only; omega, by simp only; omega⟩)
                  (by
                    refine ⟨rfl, _, rfl, by simp; omega, ?_⟩
                    rw [List.toList_toArray, splice_at (T := (Ty.arr (len + ds.length) e').size) (by simp only [Ty.size, Nat.add_mul, hnl]; omega) (by simp [Ty.size, Nat.add_mul]; omega)]
                    have hsp : splice ((cc.toList.drop (q.base + off * e'.size)).take ((len + ds.length) * e'.size)) (len * e'.size) news = (cc.toList.drop (q.base + off * e'.size)).take (len * e'.size) ++ news := by
                      have hd0 : ((cc.toList.drop (q.base + off * e'.size)).take ((len + ds.length) * e'.size)).drop (len * e'.size + news.length) = [] :=
                        List.drop_of_length_le (by rw [List.length_take, hnl, ← Nat.add_mul]; omega)
                      simp only [splice]
                      rw [hd0, List.append_nil, List.take_take, Nat.min_eq_left (by rw [Nat.add_mul]; omega)]
                    simp only [Ty.size]
                    rw [hsp]
                    exact ReadL.append (fun _ _ k => Rd.length k) hrl2 hsrc.rd)
                refine wp_world hR hd (v := .slice (some ⟨q.b, q.base + off * e'.size, none⟩) (len + ds.length) cap) (x := .v (.ref σ.nx [] 0 (len + ds.length))) (exec (by rw [evx]; exact hrun)) ?_ hK
                exact ⟨.sl e', ⟨e', _, rfl, rfl, _, _, len + ds.length, cap, hself, rfl, trivial, by omega, hroomy, .inr ⟨_, rfl, by simp [Ty.offs], by simp; omega⟩⟩, rfl⟩
              · have h1 := h.drop b
                have hM : ∀ b1, Mo (del σ.ob b) om b1 → Mo σ.ob om b1 := by
                  rintro b1 ⟨k, y', t', q', k1, k2, k3⟩
                  rw [look_del] at k1
                  split at k1
                  · cases k1
                  · exact ⟨k, y', t', q', k1, k2, k3⟩
                refine grow (σ1 := { σ with ob := del σ.ob b }) h1 hM rfl (b := some ⟨q.b, q.base + off * e'.size, none⟩) (n := len) (cap := cap) (olds := (cc.toList.drop (q.base + off * e'.size)).take (len * e'.size)) (od := cl.drop off) evx (by omega) hod hrl2 ?_ hl1 hl2 hK
                have := run_firstCells_some (P := P) w.drew i.size len ⟨q.b, q.base + off * e'.size, none⟩ len cap ((cc.toList.drop (q.base + off * e'.size)).take (len * e'.size)) (by rw [his]; simp; omega) (cells_at (w := w.drew) (n := len * e'.size) hh (by omega))
                rw [this]
          · exact hs.elim
        · exact hs.elim
      · exact hs.elim
    · exact hs.elim
  · exact hs.elim

end
end Go.SE
