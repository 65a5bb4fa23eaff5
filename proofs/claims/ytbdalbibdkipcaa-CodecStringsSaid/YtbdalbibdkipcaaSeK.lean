/- The operations on memory: slice literals, copy; least and greatest. -/
import Derived.Test.YtbdalbibdkipcaaSeJ
set_option linter.unusedVariables false
set_option linter.unusedSimpArgs false
set_option linter.constructorNameAsVariable false
namespace Go.SE
open Go.RowKit (Below)
open Go.Lib

section
variable {P : Program} {w0 : Base} {om : Om} {σ : St} {a : Act} {w : World}

theorem den_refs : ∀ {t : Ty} {x : SV} {d : D}, den σ t x = some d → ∀ o ∈ refs x, ∃ ob, look σ.ob o = some ob
  | t, .ref o p off len, d, h, k, hk => by
    simp only [refs, List.mem_singleton] at hk
    subst hk
    cases t <;> simp only [den, reduceCtorEq] at h
    split at h
    · rename_i ob hl; exact ⟨ob, hl⟩
    · cases h
  | t, .acons x y, d, h, k, hk => by
    cases t <;> simp only [den, reduceCtorEq] at h
    split at h
    · split at h
      · rename_i dx dy hx hy
        simp only [refs, List.mem_append] at hk
        rcases hk with hk | hk
        · exact den_refs hx k hk
        · exact den_refs hy k hk
      · cases h
    · cases h
  | _, .d _ _, _, _, _, hk => by simp [refs] at hk
  | _, .nil, _, _, _, hk => by simp [refs] at hk
  | _, .ptr _ _, _, _, _, hk => by simp [refs] at hk
  | _, .vp _ _, _, _, _, hk => by simp [refs] at hk
  | _, .anil, _, _, _, hk => by simp [refs] at hk

theorem Mo_dels {l : List Nat} {b : Nat} (h : Mo (dels σ.ob l) om b) : Mo σ.ob om b := by
  obtain ⟨o, x, t, q, h1, h2, h3⟩ := h
  rw [look_dels] at h1
  split at h1
  · cases h1
  · exact ⟨o, x, t, q, h1, h2, h3⟩

theorem Mb_dels {l : List Nat} {b : Nat} (h : Mb (dels σ.ob l) om b) : Mb σ.ob om b := h.imp id Mo_dels

/-- Behind the objects that go, their blocks are nobody's. -/
theorem dels_free (h : R0 w0 om σ a w) {l : List Nat} (hl : ∀ o ∈ l, ∃ ob, look σ.ob o = some ob) : ∀ o ∈ l, ∀ t q, om o = some (t, some q) → ¬ Mb (dels σ.ob l) om q.b := by
  intro o ho t q hq hb
  obtain ⟨ob, hob⟩ := hl o ho
  rcases hb with hb | ⟨o', x', t', q', h1, h2, h3⟩
  · have hlt := w0.low _ (by rw [← h.hF]; exact hb)
    have := (Mo.lt h.ob ⟨o, ob, t, q, hob, hq, rfl⟩).1
    omega
  rw [look_dels] at h1
  split at h1
  · cases h1
  · rename_i hn
    have := h.apart _ _ _ _ _ _ _ _ h1 hob h2 hq h3
    subst this
    exact hn ho

/-- A value as data that nothing changes any more. -/
theorem den_frozen (h : R0 w0 om σ a w) {l : List Nat} {t t' : Ty} {x : SV} {cs : List Value} {d : D} (hv : CV w om (Mb σ.ob om) t' x cs) (hd : den σ t x = some d) (hs : ∀ o ∈ refs x, o ∈ l) (hl : ∀ o ∈ l, ∃ ob, look σ.ob o = some ob) :
    Rd w (fun b => ¬ Mb (dels σ.ob l) om b) t cs d :=
  den_ok h (fun b hb hc => hb (Mb_dels hc)) hv hd (fun o ho t q hq => dels_free h hl o (hs o ho) t q hq)

def bldS (σ : St) (e : Ty) (n : Nat) : List (Nat × Operand) → List D → List Nat → (List D → List Nat → Prop) → Prop
  | [], ds, rs, K => K ds rs
  | (i, x) :: l, ds, rs, K => match ev1 σ x with
    | some s => match den σ e s with
      | some y => i < n ∧ bldS σ e n l (ds.set i y) (refs s ++ rs) K
      | none => False
    | none => False

theorem bldS_ok (h : R0 w0 om σ a w) {e : Ty} {n : Nat} :
    ∀ {l : List (Nat × Operand)} {ds : List D} {rs : List Nat} {K : List D → List Nat → Prop} {cells : Array Value}, ds.length = n → bldS σ e n l ds rs K → (∀ o ∈ rs, ∃ ob, look σ.ob o = some ob) →
      ∃ ds' rs', K ds' rs' ∧ ds'.length = n ∧ (∀ o ∈ rs, o ∈ rs') ∧ (∀ o ∈ rs', ∃ ob, look σ.ob o = some ob) ∧
        (ReadL (Rd w (fun b => ¬ Mb (dels σ.ob rs') om b) e) e.size cells.toList ds →
          ∃ cells', Instr.fill (fun i => some (i * e.size, e.size)) cells (l.map fun x => (x.1, a.eval x.2)) = some cells' ∧ ReadL (Rd w (fun b => ¬ Mb (dels σ.ob rs') om b) e) e.size cells'.toList ds')
  | [], ds, rs, K, cells, hn, hb, hrs => ⟨ds, rs, hb, hn, fun _ h => h, hrs, fun hr => ⟨cells, rfl, hr⟩⟩
  | (i, x) :: l, ds, rs, K, cells, hn, hb, hrs => by
    simp only [bldS] at hb
    split at hb
    · rename_i s hx
      split at hb
      · rename_i y hy
        obtain ⟨hi, hb⟩ := hb
        obtain ⟨t', hcv, _⟩ := h.ev1 hx
        have hls := hcv.length
        obtain ⟨ds', rs', h1, h2, h3, h4, h5⟩ := bldS_ok h (l := l) (ds := ds.set i y) (rs := refs s ++ rs) (K := K) (cells := (splice cells.toList (i * e.size) (a.eval x).cells.toList).toArray) (by simpa using hn) hb
          (by intro o ho; simp only [List.mem_append] at ho; rcases ho with ho | ho; exact den_refs hy o ho; exact hrs o ho)
        refine ⟨ds', rs', h1, h2, fun o ho => h3 o (by simp [ho]), h4, ?_⟩
        intro hr
        have hfz := den_frozen h (l := rs') hcv hy (fun o ho => h3 o (by simp [ho])) h4
        have hlf := hfz.length
        simp only [Array.length_toList] at hlf
        have hcl := readL_lens hr
        simp only [Array.length_toList] at hcl
        have hmul := mul_le_of_lt (s := e.size) (show i < ds.length by omega)
        have hset := ReadL.set (fun _ _ q => Rd.length q) i hr (by omega) hfz
        obtain ⟨cells', k1, k2⟩ := h5 (by
          rw [List.toList_toArray]
          have : splice cells.toList (i * e.size) (a.eval x).cells.toList = cells.toList.take (i * e.size) ++ (a.eval x).cells.toList ++ cells.toList.drop (i * e.size + e.size) := by simp [splice, hlf]
          rw [this]; exact hset)
        refine ⟨cells', ?_, k2⟩
        rw [List.map_cons, fill_one (off := i * e.size) (sz := e.size) rfl hlf (by omega)]
        exact k1
      · exact hb.elim
    · exact hb.elim

def sBuildS (T : Tab) (t : TypeId) (n : Nat) (parts : List (Nat × Operand)) (σ : St) (K : St → SV → Prop) : Prop :=
  match look T t with
  | some (.sl e) => n * e.size ≤ 16777216 ∧ bldS σ e n parts (List.replicate n e.zeroD) [] fun ds rs =>
      K { σ with ob := (σ.nx, ⟨.arr n e, .d (.arr n e) (.l ds)⟩) :: dels σ.ob rs, nx := σ.nx + 1 } (.ref σ.nx [] 0 n)
  | _ => False

theorem sBuildS_grow {T : Tab} (hT : T.Ok P) {o : Oper} {t : TypeId} {n : Nat} {parts : Array (Nat × Operand)} {Q : Exit → Act → World → Prop} {K : St → Prop} (ho : o.op = .buildSlice t n parts) (h : R0 w0 om σ a w) (hd : dstOk o.dst σ.nt)
    (hs : sBuildS T t n parts.toList σ (fun σ s => K (σ.put o.dst (.v s)))) : o.wp P a w (fun a' w' => Below w.heap.size w w' ∧ After w0 K a' w') Q := by
  unfold sBuildS at hs
  split at hs
  · rename_i e ht
    obtain ⟨hlim, hb⟩ := hs
    obtain ⟨⟨⟨ue, hu, hte⟩, _⟩, hwf⟩ := hT t _ ht
    obtain ⟨z, hz, hzc, _⟩ := hte.zeroValue w
    have hwfe : e.wf = true := by simpa [Ty.wf] using hwf
    have hzs : z.cells.size = e.size := by rw [← Array.length_toList, hzc, Ty.zeroCells_length]
    obtain ⟨ds, rs, hK, hdl, _, hrs, hfill⟩ := bldS_ok h (cells := madeCells z.cells (n * e.size)) (by simp) hb (by simp)
    have hmr := made_rd (w := w) (S := fun b => ¬ Mb (dels σ.ob rs) om b) hwfe hzc (n := n * e.size) (m := n) (Nat.le_refl _)
    rw [List.take_of_length_le (by simp [size_madeCells])] at hmr
    obtain ⟨cells, k1, k2⟩ := hfill hmr
    have hcl := readL_lens k2
    simp only [Array.length_toList] at hcl
    have h1 : R0 w0 om { σ with ob := dels σ.ob rs } a w := h.dels rs σ.ob h
    obtain ⟨om', hR, hself, _, _⟩ := h1.alloc (w' := w.alloc (.cells cells ue)) cells ue (0, 0) ⟨.arr n e, .d (.arr n e) (.l ds)⟩ n rfl rfl rfl rfl (by intro j _ hh; simp at hh)
      (by
        rw [hcl, hdl]
        refine ⟨by simp [Ty.size], ?_⟩
        intro k e' he
        simp only [Ty.arr.injEq] at he
        obtain ⟨rfl, rfl⟩ := he
        exact ⟨Nat.le_refl _, by show 0 + n * e.size ≤ n * e.size; omega⟩)
      ⟨rfl, ds, rfl, hdl, by rw [List.take_of_length_le (by simp [hcl, hdl, Ty.size])]; exact k2⟩
    have hrun : (Instr.buildSlice t n (parts.map fun x => (x.1, a.eval x.2))).run P w = .ok (.slice (some ⟨w.heap.size, 0, none⟩) n n) (w.alloc (.cells cells ue)) := by
      have hl2 : ¬ (16777216 < n * e.size) := by omega
      by_cases hn : n * e.size = 0
      · have hm0 : madeCells z.cells (n * e.size) = #[] := by apply Array.eq_empty_of_size_eq_zero; rw [size_madeCells, hn]
        rw [hm0] at k1
        simp [Instr.buildSlice, run_underlying hu, hte.sizeOf, hn, newRow, Array.range_zero', k1]
      · have : (Array.range (n * e.size)).map (z.cells[· % z.cells.size]!) = madeCells z.cells (n * e.size) := rfl
        simp [Instr.buildSlice, run_underlying hu, hte.sizeOf, hn, hl2, hz, newRow, this, k1]
    refine wp_worldG hR ((Below.refl _ w).alloc (Nat.le_refl _) _) hd (v := .slice (some ⟨w.heap.size, 0, none⟩) n n) (x := .v (.ref σ.nx [] 0 n)) (by simp [execOp, ho, hrun]) ?_ hK
    exact ⟨.sl e, ⟨e, _, rfl, rfl, _, _, n, n, hself, rfl, trivial, by omega, Nat.le_refl _, .inr ⟨_, rfl, by simp [Ty.offs], by simp⟩⟩, rfl⟩
  · exact hs.elim

theorem sBuildS_sound {T : Tab} (hT : T.Ok P) {o : Oper} {t : TypeId} {n : Nat} {parts : Array (Nat × Operand)} {Q : Exit → Act → World → Prop} {K : St → Prop} (ho : o.op = .buildSlice t n parts) (h : R0 w0 om σ a w) (hd : dstOk o.dst σ.nt)
    (hs : sBuildS T t n parts.toList σ (fun σ s => K (σ.put o.dst (.v s)))) : o.wp P a w (After w0 K) Q :=
  wp_second (sBuildS_grow hT ho h hd hs)

/-! copy -/

def sCopy (T : Tab) (t u : TypeId) (x y : SV) (σ : St) (K : St → SV → Prop) : Prop :=
  match look T t with
  | some (.sl e) =>
    match srcD T σ e u y with
    | some ds =>
      match slen x with
      | some len => sIf (decide (min ds.length len = 0)) (K σ (.d (.int .i64) (.n 0)))
        (match x with
         | .ref o p off len => match look σ.ob o with
           | some ob => match ob.c.get p with
             | some (.d (.arr N e') c) => e' = e ∧ (match ob.c.put p (.d (.arr N e) (.l (c.list.take off ++ ds.take (min ds.length len) ++ c.list.drop (off + min ds.length len)))) with
               | some c' => K { σ with ob := upd σ.ob o ⟨ob.t, c'⟩ } (.d (.int .i64) (.n (min ds.length len : Nat)))
               | none => False)
             | _ => False
           | none => False
         | _ => False)
      | none => False
    | none => False
  | _ => False

theorem ReadL.splice {p : List Value → D → Prop} {sz : Nat} (hp : ∀ cs d, p cs d → cs.length = sz) {cs ns : List Value} {ds es : List D} (h : ReadL p sz cs ds) (k : ReadL p sz ns es) {i : Nat} (hi : i + es.length ≤ ds.length) :
    ReadL p sz (SE.splice cs (i * sz) ns) (ds.take i ++ es ++ ds.drop (i + es.length)) := by
  have hl := ReadL.length hp k
  have h1 := ReadL.take i h
  have h2 := ReadL.drop (i + es.length) h
  rw [Nat.add_mul, ← hl] at h2
  exact ReadL.append hp (ReadL.append hp h1 k) h2

theorem sCopy_sound {T : Tab} (hT : T.Ok P) {o : Oper} {t u : TypeId} {x y : Operand} {Q : Exit → Act → World → Prop} {K : St → Prop} {s r : SV} (ho : o.op = .call { callee := .builtin .copy, args := #[x, y], argTypes := #[t, u] }) (h : R0 w0 om σ a w) (hd : dstOk o.dst σ.nt)
    (hx : ev1 σ x = some s) (hy : ev1 σ y = some r) (hs : sCopy T t u s r σ (fun σ s => K (σ.put o.dst (.v s)))) : o.wp P a w (After w0 K) Q := by
  have hv := h.ev1 hx
  have hw := h.ev1 hy
  unfold sCopy at hs
  have exec : ∀ {v : Value} {w' : World}, (Builtin.copy_ #[t, u] o.type #[a.eval x, a.eval y]).run P w = .ok v w' → (execOp a.eval o).run P w = .ok (.value v) w' := by
    intro v w' hr
    simp [execOp, ho, resolve, invoke, builtin, hr]
  split at hs
  · rename_i e ht
    obtain ⟨⟨ue, hu, hte⟩, _⟩ := (hT t _ ht).1
    split at hs
    · rename_i ds hds
      obtain ⟨news, du, hdu, hnint, hsrc⟩ := srcD_ok (P := P) hT h hw hds
      have hlo := hsrc.lenOf w
      split at hs
      · rename_i len hlen
        obtain ⟨b, cap, evx⟩ := slen_ok hv hlen
        by_cases hz : min ds.length len = 0
        · have hK := hs.1 (by simp [hz])
          have hz' : Nat.min ds.length len = 0 := hz
          have hf := hsrc.first w rfl 0 (Nat.zero_le _)
          simp only [Nat.zero_mul, List.take_zero] at hf
          refine wp_world h hd (v := .int .i64 0) (x := .v (.d (.int .i64) (.n 0))) (exec ?_) (Val1.of (RdV.mk_int _ _)) hK
          rw [evx]
          cases b <;> simp [Builtin.copy_, run_underlying hu, hlo, hz', hte.sizeOf, hf, storeCells, goInt]
        · replace hs := hs.2 (by simp [hz])
          split at hs
          · rename_i b' p off len'
            simp only [slen, Option.some.injEq] at hlen
            subst hlen
            split at hs
            · rename_i ob hl
              split at hs
              · rename_i N e' c hg
                obtain ⟨rfl, hs⟩ := hs
                split at hs
                · rename_i c' hput
                  obtain ⟨e0, n, cap', hsub, hok, hle, hcap, hpl⟩ := ref_place h hv hl
                  rcases hpl with ⟨rfl, b2, evx2⟩ | ⟨q, cc, el, fr, ho', evx2, hcap2, hh, hun, hroom, hcv⟩
                  · have : len' = 0 := by omega
                    subst this; simp at hz
                  · obtain ⟨A, hA, hcA, hleA⟩ := CV.get hcv hok hg
                    rw [hsub] at hA
                    simp only [Option.some.injEq] at hA
                    subst hA
                    obtain ⟨hty, hrd⟩ := hcA
                    simp only [Ty.arr.injEq] at hty
                    obtain ⟨rfl, rfl⟩ := hty
                    obtain ⟨cl, rfl, hcl, hrl⟩ := hrd
                    simp only [D.list] at hput
                    generalize hm : min ds.length len' = m at *
                    have hmds : m ≤ ds.length := by omega
                    have hml : m ≤ len' := by omega
                    have hf := hsrc.first w rfl m hmds
                    have hm' : Nat.min ds.length len' = m := hm
                    have hnl : (news.take (m * e'.size)).length = m * e'.size := by
                      rw [List.length_take, hsrc.len, Nat.min_eq_left (Nat.mul_le_mul_right _ hmds)]
                    have hmulN : (off + m) * e'.size ≤ N * e'.size := Nat.mul_le_mul_right _ (by omega)
                    rw [Nat.add_mul] at hmulN
                    simp only [Ty.size] at hleA hrl
                    have hr1 := hroom.1
                    have hone : ∀ v ∈ news.take (m * e'.size), v.oneCell' = true := fun v hv => ReadL.one (fun _ _ k => Rd.one k) hsrc.rd v (List.mem_of_mem_take hv)
                    have hst := run_storeCells_un (P := P) (g := q.b) (q.base + ob.t.offs p + off * e'.size) (news.take (m * e'.size)) 0 cc w hh hun (by rw [hnl]; omega) hone
                    simp only [Nat.add_zero] at hst
                    have hes : (ds.take m).length = m := by simp; omega
                    have hspl := ReadL.splice (fun _ _ k => Rd.length k) hrl (ReadL.take m hsrc.rd) (i := off) (by rw [hes]; omega)
                    rw [hes] at hspl
                    have hcvn : CV w om (Mb σ.ob om) (.arr N e') (.d (.arr N e') (.l (cl.take off ++ ds.take m ++ cl.drop (off + m)))) (SE.splice (((cc.toList.drop q.base).take ob.t.size).drop (ob.t.offs p) |>.take (N * e'.size)) (off * e'.size) (news.take (m * e'.size))) :=
                      ⟨rfl, _, rfl, by simp; omega, hspl⟩
                    have hcvput := CV.put hcv hok hput hsub hcvn
                    have hrowlen : ((cc.toList.drop q.base).take ob.t.size).length = ob.t.size := by simp; omega
                    rw [splice_splice (by rw [hrowlen]; exact hleA) (by rw [hnl]; omega)] at hcvput
                    have hsl : (SE.splice cc.toList (q.base + ob.t.offs p + off * e'.size) (news.take (m * e'.size))).length = cc.size := by
                      rw [splice_length (by rw [hnl]; simp; omega)]; simp
                    have hR := h.write (w' := w.setRow q.b (SE.splice cc.toList (q.base + ob.t.offs p + off * e'.size) (news.take (m * e'.size))).toArray) hl ho' hh (SE.splice cc.toList (q.base + ob.t.offs p + off * e'.size) (news.take (m * e'.size))).toArray c'
                      (setRow_heap w q.b cc _ el fr hh) (fun b hb => setRow_other w q.b b _ hb) (by simp [World.setRow]) rfl rfl rfl (by simp [hsl])
                      (by
                        rw [List.toList_toArray, Nat.add_assoc q.base, splice_at (by rw [hnl]; omega) (by simp; omega)]
                        exact hcvput)
                    refine wp_world hR hd (v := .int .i64 m) (x := .v (.d (.int .i64) (.n (m : Nat)))) (exec ?_) (Val1.of (RdV.mk_int _ _)) hs
                    rw [evx2]
                    simp [Builtin.copy_, run_underlying hu, hlo, hm', hte.sizeOf, hf, hst, goInt]
                · exact hs.elim
              · exact hs.elim
            · exact hs.elim
          · exact hs.elim
      · exact hs.elim
    · exact hs.elim
  · exact hs.elim

theorem sMin_sound {o : Oper} {ts : Array TypeId} {x y : Operand} {K : St → Prop} {k k' : IntKind} {l c : D} (ho : o.op = .call { callee := .builtin .min, args := #[x, y], argTypes := ts }) (h : R0 w0 om σ a w) (hd : dstOk o.dst σ.nt)
    (hx : ev1 σ x = some (.d (.int k) l)) (hy : ev1 σ y = some (.d (.int k') c)) (hs : K (σ.put o.dst (.v (.d (.int k) (.n (if c.int < l.int then c.int else l.int)))))) : VStep P w0 o a w K := by
  obtain ⟨n, en, rfl⟩ := (h.ev1 hx).data.int
  obtain ⟨m, em, rfl⟩ := (h.ev1 hy).data.int
  exact wp_val h hd (v := .int k (if m < n then m else n)) (x := .v (.d (.int k) (.n _))) (fun w' hw' => by simp [execOp, ho, resolve, invoke, builtin, en, em, Builtin.min_, Builtin.min2]) (Val1.of (RdV.mk_int _ _)) hs

theorem sMax_sound {o : Oper} {ts : Array TypeId} {x y : Operand} {K : St → Prop} {k k' : IntKind} {l c : D} (ho : o.op = .call { callee := .builtin .max, args := #[x, y], argTypes := ts }) (h : R0 w0 om σ a w) (hd : dstOk o.dst σ.nt)
    (hx : ev1 σ x = some (.d (.int k) l)) (hy : ev1 σ y = some (.d (.int k') c)) (hs : K (σ.put o.dst (.v (.d (.int k) (.n (if l.int < c.int then c.int else l.int)))))) : VStep P w0 o a w K := by
  obtain ⟨n, en, rfl⟩ := (h.ev1 hx).data.int
  obtain ⟨m, em, rfl⟩ := (h.ev1 hy).data.int
  exact wp_val h hd (v := .int k (if n < m then m else n)) (x := .v (.d (.int k) (.n _))) (fun w' hw' => by simp [execOp, ho, resolve, invoke, builtin, en, em, Builtin.max_, Builtin.max2]) (Val1.of (RdV.mk_int _ _)) hs

end
end Go.SE
