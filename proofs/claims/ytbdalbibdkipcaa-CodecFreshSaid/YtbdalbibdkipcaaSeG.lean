/- The operations on memory: lengths, slices, conversions, stores, new variables. -/
import Derived.Test.YtbdalbibdkipcaaSeF
import Derived.Laws.BytesArg
import Derived.Lib.ConvBytes
import Derived.Laws.MakeOwn
set_option linter.unusedVariables false
set_option linter.unusedSimpArgs false
set_option linter.constructorNameAsVariable false
namespace Go.SE
open Go.RowKit (Below)

section
variable {P : Program} {w0 : Base} {om : Om} {σ : St} {a : Act} {w : World}

theorem slen_ok {M : Nat → Prop} {x : SV} {v : Value} {n : Nat} (hv : Val1 w om M x v) (h : slen x = some n) : ∃ b cap, v = .slice b n cap := by
  cases x with
  | d t y =>
    cases t <;> simp only [slen, Option.some.injEq, reduceCtorEq] at h
    obtain ⟨ds, b, cap, rfl, rfl, _⟩ := hv.data.sl
    simp only [D.list] at h
    subst h; exact ⟨b, cap, rfl⟩
  | nil =>
    simp only [slen, Option.some.injEq] at h
    subst h
    obtain ⟨t, ⟨⟨e, rfl⟩, b, hc⟩, ha⟩ := hv
    exact ⟨b, 0, by cases v <;> simp_all [Value.cells, vAgg, Ty.agg]⟩
  | ref o p off len =>
    simp only [slen, Option.some.injEq] at h
    subst h
    obtain ⟨t, ⟨e, v', rfl, hc, t', pl, n, cap, k1, k2, k3, k4, k5, k6⟩, ha⟩ := hv
    have hv : v = v' := by cases v <;> simp_all [Value.cells, vAgg, Ty.agg]
    subst hv
    rcases k6 with ⟨rfl, b, rfl⟩ | ⟨q, _, rfl, _⟩
    · have : len = 0 := by omega
      subst this; exact ⟨b, 0, rfl⟩
    · exact ⟨_, cap, rfl⟩
  | _ => simp [slen] at h

def sLen (T : Tab) (u : TypeId) (x : SV) (K : SV → Prop) : Prop :=
  match look T u with
  | some .str => match x with | .d .str y => K (.d (.int .i64) (.n y.str.size)) | _ => False
  | some (.arr n _) => K (.d (.int .i64) (.n n))
  | some (.sl _) => match slen x with | some n => K (.d (.int .i64) (.n n)) | none => False
  | _ => False

theorem sLen_sound {T : Tab} (hT : T.Ok P) {o : Oper} {u : TypeId} {x : Operand} {K : St → Prop} {s : SV} (ho : o.op = .call { callee := .builtin .len, args := #[x], argTypes := #[u] }) (h : R0 w0 om σ a w) (hd : dstOk o.dst σ.nt)
    (hx : ev1 σ x = some s) (hs : sLen T u s (fun s => K (σ.put o.dst (.v s)))) : VStep P w0 o a w K := by
  have hv := h.ev1 hx
  unfold sLen at hs
  have fin : ∀ n : Nat, (∀ w', (Builtin.len_ #[u] o.type #[a.eval x]).run P w' = .ok (goInt n) w') → K (σ.put o.dst (.v (.d (.int .i64) (.n n)))) → VStep P w0 o a w K := by
    intro n hr hK
    exact wp_val h hd (v := .int .i64 n) (x := .v (.d (.int .i64) (.n n))) (fun w' hw' => by simp [execOp, ho, resolve, invoke, builtin, hr, goInt]) (Val1.of (RdV.mk_int _ _)) hK
  split at hs
  · rename_i ht
    split at hs
    · rename_i y
      obtain ⟨z, ez, rfl⟩ := hv.data.str
      exact fin _ (fun w' => by rw [ez]; simp [Builtin.len_, run_underlying (hT u _ ht).1.1, D.str]) hs
    · exact hs.elim
  · rename_i n e ht
    obtain ⟨⟨ue, hu, _⟩, _⟩ := (hT u _ ht).1
    exact fin n (fun w' => by simp [Builtin.len_, run_underlying hu]) hs
  · rename_i e ht
    obtain ⟨⟨ue, hu, _⟩, _⟩ := (hT u _ ht).1
    split at hs
    · rename_i n hn
      obtain ⟨b, cap, ev'⟩ := slen_ok hv hn
      exact fin n (fun w' => by rw [ev']; simp [Builtin.len_, run_underlying hu]) hs
    · exact hs.elim
  · exact hs.elim

/-! slices -/

/-- The bounds of a slice expression: low, high. -/
def sBounds (n : Nat) (lo hi : Option D) (K : Nat → Nat → Prop) : Prop :=
  match lo, hi with
  | none, none => K 0 n
  | some l, none => 0 ≤ l.int ∧ l.int ≤ n ∧ K l.int.toNat n
  | none, some h => 0 ≤ h.int ∧ h.int ≤ n ∧ K 0 h.int.toNat
  | some l, some h => 0 ≤ l.int ∧ l.int ≤ h.int ∧ h.int ≤ n ∧ K l.int.toNat h.int.toNat

def opInt (σ : St) : Option Operand → Option (Option D)
  | none => some none
  | some x => match ev1 σ x with
    | some (.d (.int _) y) => some (some y)
    | _ => none

theorem opInt_ok (h : R0 w0 om σ a w) {x : Option Operand} {y : Option D} (hx : opInt σ x = some y) : (x = none ∧ y = none) ∨ ∃ k n, x.map a.eval = some (.int k n) ∧ y = some (.n n) := by
  cases x with
  | none => simp only [opInt, Option.some.injEq] at hx; exact .inl ⟨rfl, hx.symm⟩
  | some x =>
    simp only [opInt] at hx
    split at hx
    · rename_i k y' he
      simp only [Option.some.injEq] at hx
      subst hx
      obtain ⟨n, en, rfl⟩ := (h.ev1 he).data.int
      exact .inr ⟨k, n, by simp [en], rfl⟩
    · cases hx

theorem run_bounds (h : R0 w0 om σ a w) (isSlice : Bool) {lo hi : Option Operand} {l' h' : Option D} (hlo : opInt σ lo = some l') (hhi : opInt σ hi = some h') {n cap : Nat} (hc : n ≤ cap) {K : Nat → Nat → Prop} (hs : sBounds n l' h' K) :
    ∃ l r, (∀ w, (Instr.sliceBounds isSlice n cap (lo.map a.eval) (hi.map a.eval) none).run P w = .ok (l, r, cap) w) ∧ l ≤ r ∧ r ≤ n ∧ K l r := by
  rcases opInt_ok h hlo with ⟨rfl, rfl⟩ | ⟨k1, l, el, rfl⟩ <;> rcases opInt_ok h hhi with ⟨rfl, rfl⟩ | ⟨k2, r, er, rfl⟩
  · exact ⟨0, n, by simp [Instr.sliceBounds], Nat.zero_le _, Nat.le_refl _, hs⟩
  · obtain ⟨h1, h2, hK⟩ := hs
    simp only [D.int] at h1 h2 hK
    refine ⟨0, r.toNat, ?_, Nat.zero_le _, by omega, hK⟩
    have : r ≤ (cap : Int) := by omega
    intro w; simp [Instr.sliceBounds, Instr.sliceBound, er, asIntOf, h1, this]
  · obtain ⟨h1, h2, hK⟩ := hs
    simp only [D.int] at h1 h2 hK
    refine ⟨l.toNat, n, ?_, by omega, Nat.le_refl _, hK⟩
    intro w; simp [Instr.sliceBounds, Instr.sliceBound, el, asIntOf, h1, h2]
  · obtain ⟨h1, h2, h3, hK⟩ := hs
    simp only [D.int] at h1 h2 h3 hK
    refine ⟨l.toNat, r.toNat, ?_, by omega, by omega, hK⟩
    have h4 : 0 ≤ r := by omega
    have h5 : r ≤ (cap : Int) := by omega
    have h6 : ¬ (max r 0 < l) := by omega
    intro w; simp [Instr.sliceBounds, Instr.sliceBound, el, er, asIntOf, h1, h4, h5]
    intro h7; exact absurd h7 h6

def sSlice (T : Tab) (u : TypeId) (x : SV) (lo hi : Option D) (σ : St) (K : SV → Prop) : Prop :=
  match look T u with
  | some .str => match x with
    | .d .str y => sBounds y.str.size lo hi fun l h => K (.d .str (.s (y.str.extract l h)))
    | _ => False
  | some (.arr n e) => match x with
    | .ptr o p => match look σ.ob o with
      | some ob => ob.t.sub p = some (.arr n e) ∧ sBounds n lo hi fun l h => K (.ref o p l (h - l))
      | none => False
    | .vp t y => t = .arr n e ∧ sBounds n lo hi fun l h => K (.d (.sl e) (.l ((y.list.drop l).take (h - l))))
    | _ => False
  | some (.sl e) => match x with
    | .ref o p off len => match look σ.ob o with
      | some ob => (match ob.t.sub p with | some (.arr _ e') => e' = e | _ => False) ∧ sBounds len lo hi fun l h => K (.ref o p (off + l) (h - l))
      | none => False
    | .d t y => t = .sl e ∧ sBounds y.list.length lo hi fun l h => K (.d (.sl e) (.l ((y.list.drop l).take (h - l))))
    | .nil => sBounds 0 lo hi fun _ _ => K .nil
    | _ => False
  | _ => False

theorem sSlice_sound {T : Tab} (hT : T.Ok P) {o : Oper} {u : TypeId} {x : Operand} {lo hi : Option Operand} {l' h' : Option D} {K : St → Prop} {s : SV} (ho : o.op = .slice u x lo hi none) (h : R0 w0 om σ a w) (hd : dstOk o.dst σ.nt)
    (hx : ev1 σ x = some s) (hlo : opInt σ lo = some l') (hhi : opInt σ hi = some h') (hs : sSlice T u s l' h' σ (fun s => K (σ.put o.dst (.v s)))) : VStep P w0 o a w K := by
  have hv := h.ev1 hx
  unfold sSlice at hs
  have fin : ∀ {v : Value} {s' : SV}, (∀ w, (Instr.sliceAt u (a.eval x) (lo.map a.eval) (hi.map a.eval) none).run P w = .ok v w) → Val1 w om (Mb σ.ob om) s' v → K (σ.put o.dst (.v s')) → VStep P w0 o a w K := by
    intro v s' hr hv' hK
    exact wp_val h hd (v := v) (x := .v s') (fun w' hw' => by simp [execOp, ho, hr]) hv' hK
  split at hs
  · rename_i ht
    have hu := (hT u _ ht).1.1
    split at hs
    · rename_i y
      obtain ⟨z, ez, rfl⟩ := hv.data.str
      obtain ⟨l, r, hr, h1, h2, hK⟩ := run_bounds (P := P) h false hlo hhi (Nat.le_refl _) hs
      refine fin (v := .string (z.extract l r)) ?_ (Val1.of (RdV.mk_str _)) hK
      simp only [D.str] at hr
      intro w
      rw [ez]
      simp [Instr.sliceAt, Instr.slice, run_underlying hu, hr]
    · exact hs.elim
  · rename_i n e ht
    obtain ⟨⟨ue, hu, hte⟩, _⟩ := (hT u _ ht).1
    split at hs
    · rename_i b p
      split at hs
      · rename_i ob hl
        obtain ⟨hsub, hs⟩ := hs
        obtain ⟨l, r, hr, h1, h2, hK⟩ := run_bounds (P := P) h false hlo hhi (Nat.le_refl _) hs
        obtain ⟨q, u', c, el, fr, evx, ho', hsub', hok, hh, hun, hroom, hcv⟩ := ptr_place h hv hl
        refine fin (v := .slice (some (if n = l then ⟨q.b, q.base + ob.t.offs p, none⟩ else ⟨q.b, q.base + ob.t.offs p + l * e.size, none⟩)) (r - l) (n - l)) ?_ ?_ hK
        · intro w; rw [evx]
          simp [Instr.sliceAt, run_underlying hu, Instr.sureAddr, hr, hte.sizeOf, Addr.add_lit]
        · refine ⟨.sl e, ⟨e, _, rfl, rfl, ob.t, some q, n, n - l, ho', hsub, hok, by omega, by omega, ?_⟩, rfl⟩
          by_cases hnl : n = l
          · left
            have e1 : r - l = 0 := by omega
            have e2 : n - l = 0 := by omega
            exact ⟨by omega, some (if n = l then ⟨q.b, q.base + ob.t.offs p, none⟩ else ⟨q.b, q.base + ob.t.offs p + l * e.size, none⟩), by rw [e1, e2]⟩
          · right
            refine ⟨q, rfl, by simp [hnl], ?_⟩
            by_cases hp : p = []
            · subst hp
              simp only [Ty.sub, Option.some.injEq] at hsub
              have := (hroom.2 _ _ hsub).1
              simp; omega
            · simp only [hp, if_false]; omega
      · exact hs.elim
    · rename_i t y
      obtain ⟨rfl, hs⟩ := hs
      obtain ⟨l, r, hr, h1, h2, hK⟩ := run_bounds (P := P) h false hlo hhi (Nat.le_refl _) hs
      obtain ⟨g, b, c, el, fr, evx, hM, hh, hle, hrd⟩ := vp_place hv
      obtain ⟨ds, rfl, hn, hrl⟩ := hrd
      simp only [D.list] at hK
      refine fin (v := .slice (some (if n = l then ⟨g, b, none⟩ else ⟨g, b + l * e.size, none⟩)) (r - l) (n - l)) ?_ (Val1.of ?_) hK
      · intro w; rw [evx]
        simp [Instr.sliceAt, run_underlying hu, Instr.sureAddr, hr, hte.sizeOf, Addr.add_lit]
      · have hlen : ((ds.drop l).take (r - l)).length = r - l := by simp; omega
        refine ⟨⟨(ds.drop l).take (r - l), rfl, _, n - l, by rw [hlen]; rfl, by omega, ?_⟩, rfl⟩
        by_cases hnl : n = l
        · left; omega
        · right
          have hm : (l + (n - l)) * e.size = n * e.size := by congr 1; omega
          rw [Nat.add_mul] at hm
          simp only [Ty.size] at hle
          refine ⟨g, b + l * e.size, c, el, fr, by simp [hnl], hM, hh, by omega, ?_⟩
          rw [hlen]
          have h5 := ReadL.take (r - l) (ReadL.drop l hrl)
          have h6 : (l + (r - l)) * e.size ≤ n * e.size := Nat.mul_le_mul_right _ (by omega)
          rw [Nat.add_mul] at h6
          simp only [Ty.size] at h5
          rw [take_drop_take_drop _ (by omega)] at h5
          exact h5
    · exact hs.elim
  · rename_i e ht
    obtain ⟨⟨ue, hu, hte⟩, _⟩ := (hT u _ ht).1
    split at hs
    · rename_i b p off len
      split at hs
      · rename_i ob hl
        obtain ⟨hty, hs⟩ := hs
        obtain ⟨e0, n, cap, hsub, hok, hlen, hcap, hpl⟩ := ref_place h hv hl
        rw [hsub] at hty
        subst hty
        obtain ⟨pl, hpl0, _⟩ := h.ob _ _ hl
        obtain ⟨l, r, hr, h1, h2, hK⟩ := run_bounds (P := P) h true hlo hhi hcap hs
        rcases hpl with ⟨rfl, b', evx⟩ | ⟨q, c, el, fr, ho', evx, hcap2, hh, hun, hroom, hcv⟩
        · have hl0 : len = 0 := by omega
          subst hl0
          refine fin (v := .slice b' 0 0) ?_ ?_ hK
          · have e1 : l = 0 := by omega
            have e2 : r = 0 := by omega
            subst e1; subst e2
            rw [evx]
            simp [Instr.sliceAt, Instr.slice, run_underlying hu, hr, hte.sizeOf]
          · exact ⟨.sl e0, ⟨e0, _, rfl, rfl, ob.t, pl, n, 0, hpl0, hsub, hok, by omega, by omega, .inl ⟨rfl, b', rfl⟩⟩, rfl⟩
        · refine fin (v := .slice (if cap = l then some ⟨q.b, q.base + ob.t.offs p + off * e0.size, none⟩ else some ⟨q.b, q.base + ob.t.offs p + off * e0.size + l * e0.size, none⟩) (r - l) (cap - l)) ?_ ?_ hK
          · intro w; rw [evx]
            by_cases hcl : cap = l
            · subst hcl; simp [Instr.sliceAt, Instr.slice, run_underlying hu, hr, hte.sizeOf, Addr.add_lit]
            · simp [Instr.sliceAt, Instr.slice, run_underlying hu, hr, hte.sizeOf, Addr.add_lit, hcl]
          · refine ⟨.sl e0, ⟨e0, _, rfl, rfl, ob.t, some q, n, cap - l, ho', hsub, hok, by omega, by omega, ?_⟩, rfl⟩
            by_cases hcl : cap = l
            · left
              have e1 : r - l = 0 := by omega
              have e2 : cap - l = 0 := by omega
              exact ⟨by omega, (if cap = l then some ⟨q.b, q.base + ob.t.offs p + off * e0.size, none⟩ else some ⟨q.b, q.base + ob.t.offs p + off * e0.size + l * e0.size, none⟩), by rw [e1, e2]⟩
            · right
              refine ⟨q, rfl, by simp [hcl, Nat.add_mul, Nat.add_assoc], ?_⟩
              split at hcap2 <;> rename_i hp <;> simp only [hp, if_true, if_false] <;> omega
      · exact hs.elim
    · rename_i t y
      obtain ⟨rfl, hs⟩ := hs
      obtain ⟨ds, b, cap, rfl, evx, hcap, hrd⟩ := hv.data.sl
      simp only [D.list] at hs
      obtain ⟨l, r, hr, h1, h2, hK⟩ := run_bounds (P := P) h true hlo hhi hcap hs
      have hlen : ((ds.drop l).take (r - l)).length = r - l := by simp; omega
      refine fin (v := .slice (if cap = l then b else b.map (·.add (l * e.size))) (r - l) (cap - l)) ?_ (Val1.of ?_) hK
      · intro w; rw [evx]
        simp [Instr.sliceAt, Instr.slice, run_underlying hu, hr, hte.sizeOf]
      · refine ⟨⟨(ds.drop l).take (r - l), rfl, _, cap - l, by rw [hlen]; rfl, by omega, ?_⟩, rfl⟩
        by_cases hcl : cap = l
        · left; omega
        · right
          rcases hrd with hc0 | ⟨g, o', c, el, fr, rfl, hM, hh, hle, hrl⟩
          · omega
          · have hm : (l + (cap - l)) * e.size = cap * e.size := by congr 1; omega
            rw [Nat.add_mul] at hm
            refine ⟨g, o' + l * e.size, c, el, fr, by simp [hcl, Addr.add_lit], hM, hh, by omega, ?_⟩
            rw [hlen]
            have h5 := ReadL.take (r - l) (ReadL.drop l hrl)
            have h6 : (l + (r - l)) * e.size ≤ ds.length * e.size := Nat.mul_le_mul_right _ (by omega)
            rw [Nat.add_mul] at h6
            rw [take_drop_take_drop _ (by omega)] at h5
            exact h5
    · obtain ⟨b, cap, evx⟩ := slen_ok hv (n := 0) rfl
      obtain ⟨l, r, hr, h1, h2, hK⟩ := run_bounds (P := P) h true hlo hhi (Nat.zero_le cap) hs
      have e1 : l = 0 := by omega
      have e2 : r = 0 := by omega
      subst e1; subst e2
      obtain ⟨t, ⟨⟨e', rfl⟩, b', hc⟩, ha⟩ := hv
      have hcap : cap = 0 := by rw [evx] at hc; simp [Value.cells] at hc; exact hc.2
      subst hcap
      refine fin (v := .slice b 0 0) (s' := .nil) ?_ ⟨.sl e, ⟨⟨e, rfl⟩, b, rfl⟩, rfl⟩ hK
      intro w; rw [evx]
      simp [Instr.sliceAt, Instr.slice, run_underlying hu, hr, hte.sizeOf]
    · exact hs.elim
  · exact hs.elim

end
end Go.SE
