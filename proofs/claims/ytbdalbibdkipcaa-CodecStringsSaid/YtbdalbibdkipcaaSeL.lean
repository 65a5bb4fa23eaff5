/- Calls: contracts, and what a caller knows behind one. -/
import Derived.Test.YtbdalbibdkipcaaSeK
set_option linter.unusedVariables false
set_option linter.unusedSimpArgs false
set_option linter.constructorNameAsVariable false
namespace Go.SE
open Go.RowKit (Below)

/-- A result: data, or a fresh row that the caller owns. -/
inductive RV where
  | d (t : Ty) (x : D) | own (e : Ty) (ds : List D)

def ArgsOk (w : World) (S : Nat → Prop) : List (Ty × D) → List Value → Prop
  | [], [] => True
  | (t, d) :: l, v :: vs => RdV w S t v d ∧ ArgsOk w S l vs
  | _, _ => False

def RVok (B : Nat) (w : World) (N : Nat → Prop) (r : RV) (v : Value) (b : Option Pl) : Prop :=
  match r, b with
  | .d t x, none => RdV w (fun g => ¬ N g) t v x
  | .own _ ds, none => ds = [] ∧ ∃ a, v = .slice a 0 0
  | .own e ds, some q => B ≤ q.b ∧ ds.length ≤ q.C ∧ (∃ cap, v = .slice (some ⟨q.b, q.base, none⟩) ds.length cap ∧ ds.length ≤ cap ∧ cap ≤ q.C) ∧
      ∃ c el fr, w.heap[q.b]? = some (.cells c el fr) ∧ Unfrozen c.size fr ∧ q.base + q.C * e.size ≤ c.size ∧ ReadL (Rd w (fun g => ¬ N g) e) e.size ((c.toList.drop q.base).take (ds.length * e.size)) ds
  | _, _ => False

def tupV : List Value → Value
  | [v] => v
  | vs => .tuple vs.toArray

def OwnB (bs : List (Option Pl)) : Nat → Prop := fun g => ∃ q : Pl, some q ∈ bs ∧ q.b = g

def RetOk (B : Nat) (w : World) (F : Nat → Prop) (v : Value) (rs : List RV) : Prop :=
  ∃ (vals : List Value) (bs : List (Option Pl)), v = tupV vals ∧ vals.length = rs.length ∧ bs.length = rs.length ∧
    (∀ (i : Nat) (r : RV) (v : Value) (b : Option Pl), rs[i]? = some r → vals[i]? = some v → bs[i]? = some b → RVok B w (fun g => F g ∨ OwnB bs g) r v b) ∧
    (∀ (i j : Nat) (q q' : Pl), bs[i]? = some (some q) → bs[j]? = some (some q') → q.b = q'.b → i = j)

def Callable (P : Program) (f : FuncId) : Prop := ∃ fn, P.funcs[f]? = some fn ∧ (fn.name == "runtime.NumGoroutine") = false ∧ fn.body.isNone = false

/-- The contract of a function that neither writes to what was there nor keeps it: called with these data, it comes to results of which K holds. -/
def SBody (P : Program) (f : FuncId) (args : List (Ty × D)) (K : List RV → Prop) : Prop :=
  Callable P f ∧ ∀ (w : World) (F : Nat → Prop) (vs : List Value), (∀ b, F b → b < w.heap.size) → ArgsOk w (fun b => ¬ F b) args vs →
    Calls P f vs.toArray w fun e w' => ∃ v rs, e = .returned v ∧ Below w.heap.size w w' ∧ RetOk w.heap.size w' F v rs ∧ K rs

def RV.flat : RV → Bool
  | .d t _ => t.flat
  | .own e _ => e.flat

def RV.isD : RV → Bool
  | .d _ _ => true
  | .own _ _ => false

/-- The contract of a function that the machine itself stands in for: it comes to flat data at once. -/
def SExt (P : Program) (f : FuncId) (args : List (Ty × D)) (K : List RV → Prop) : Prop :=
  ∃ rs : List RV, K rs ∧ rs.all RV.flat = true ∧ rs.all RV.isD = true ∧ ∀ (w : World) (S : Nat → Prop) (vs : List Value), ArgsOk w S args vs →
    ∃ vals : List Value, (callFunc f vs.toArray).run P w = .ok (.value (tupV vals)) w ∧ vals.length = rs.length ∧
      ∀ (i : Nat) (r : RV) (v : Value), rs[i]? = some r → vals[i]? = some v → RVok 0 w (fun _ => False) r v none

def SCall (P : Program) (f : FuncId) (args : List (Ty × D)) (K : List RV → Prop) : Prop := SBody P f args K ∨ SExt P f args K

@[congr] theorem SCall_congr {P : Program} {f : FuncId} {l l' : List (Ty × D)} {K : List RV → Prop} (h : l = l') : SCall P f l K = SCall P f l' K := by rw [h]

theorem SCall.mono {P : Program} {f : FuncId} {l : List (Ty × D)} {K K' : List RV → Prop} (h : SCall P f l K) (hk : ∀ rs, K rs → K' rs) : SCall P f l K' := by
  rcases h with h | ⟨rs, h1, h2⟩
  · exact .inl ⟨h.1, fun w F vs hF ha => (h.2 w F vs hF ha).mono fun _ _ ⟨v, rs, h1, h2, h3, h4⟩ => ⟨v, rs, h1, h2, h3, hk rs h4⟩⟩
  · exact .inr ⟨rs, hk rs h1, h2⟩

theorem SCall.body {P : Program} {f : FuncId} {l : List (Ty × D)} {K : List RV → Prop} (h : SCall P f l K) {w : World} {S : Nat → Prop} {vs : List Value} (ha : ArgsOk w S l vs) (hc : Callable P f) : SBody P f l K := by
  rcases h with h | ⟨rs, _, _, _, h⟩
  · exact h
  · obtain ⟨vals, h1, _⟩ := h w S vs ha
    obtain ⟨fn, hf, hn, hb⟩ := hc
    have hn' : ¬ fn.name = "runtime.NumGoroutine" := by simpa using hn
    have hb' : ¬ fn.body = none := by intro e; simp [e] at hb
    simp [callFunc, hf, hn', hb'] at h1

def sArgs (T : Tab) (σ : St) : List Operand → List TypeId → Option (List (Ty × D))
  | [], _ => some []
  | x :: xs, u :: us =>
    match ev1 σ x, look T u with
    | some s, some t => match den σ t s, sArgs T σ xs us with
      | some d, some l => some ((t, d) :: l)
      | _, _ => none
    | _, _ => none
  | _ :: _, [] => none

def aRefs (σ : St) : List Operand → List Nat
  | [] => []
  | x :: xs => (match ev1 σ x with | some s => refs s | none => []) ++ aRefs σ xs

def newObs : Nat → List RV → List (Nat × Ob)
  | _, [] => []
  | n, .d _ _ :: rs => newObs (n + 1) rs
  | n, .own e ds :: rs => (n, ⟨.arr ds.length e, .d (.arr ds.length e) (.l ds)⟩) :: newObs (n + 1) rs
def newSVs : Nat → List RV → List SV
  | _, [] => []
  | n, .d t x :: rs => .d t x :: newSVs (n + 1) rs
  | n, .own _ ds :: rs => .ref n [] 0 ds.length :: newSVs (n + 1) rs
def tvOf : List SV → TV
  | [x] => .v x
  | xs => .tup xs

def app {α : Type} : List α → List α → List α
  | [], l => l
  | x :: xs, l => x :: app xs l
theorem app_eq {α : Type} (x l : List α) : app x l = x ++ l := by induction x with
  | nil => rfl
  | cons a x ih => simp [app, ih]

/-- The caller's state behind a call. -/
def retSt (σ : St) (rf : List Nat) (rs : List RV) (dst : Option Nat) : St :=
  (if rs.all RV.flat then { σ with ob := app (newObs σ.nx rs) σ.ob, nx := σ.nx + rs.length } else { σ with ob := app (newObs σ.nx rs) (dels σ.ob rf), nx := σ.nx + rs.length }).put dst (tvOf (newSVs σ.nx rs))

section
variable {P : Program} {w0 : Base} {om : Om} {σ : St} {a : Act} {w : World}

theorem Rd.ofFlat {w : World} {S S' : Nat → Prop} : ∀ {t : Ty} {cs : List Value} {d : D}, t.flat = true → Rd w S t cs d → Rd w S' t cs d
  | .bool, _, _, _, h => h
  | .int _, _, _, _, h => h
  | .str, _, _, _, h => h
  | .arr n e, _, _, hf, ⟨ds, h1, h2, h3⟩ => ⟨ds, h1, h2, ReadL.mono (fun _ _ k => Rd.ofFlat (by simpa [Ty.flat] using hf) k) h3⟩
  | .nil, _, _, _, h => h
  | .cons a b, _, _, hf, ⟨x, xs, h1, h2, h3⟩ => by
    simp only [Ty.flat, Bool.and_eq_true] at hf
    exact ⟨x, xs, h1, Rd.ofFlat hf.1 h2, Rd.ofFlat hf.2 h3⟩
  | .sl _, _, _, hf, _ => by simp [Ty.flat] at hf
  | .ptr, _, _, hf, _ => by simp [Ty.flat] at hf

theorem sArgs_ok {T : Tab} (h : R0 w0 om σ a w) {rf : List Nat} (hrf : ∀ o ∈ rf, ∃ ob, look σ.ob o = some ob) : ∀ {xs : List Operand} {us : List TypeId} {l : List (Ty × D)}, sArgs T σ xs us = some l → (∀ o ∈ aRefs σ xs, o ∈ rf) →
    ArgsOk w (fun b => ¬ Mb (dels σ.ob rf) om b) l (xs.map a.eval)
  | [], _, l, hs, _ => by simp only [sArgs, Option.some.injEq] at hs; subst hs; trivial
  | x :: xs, u :: us, l, hs, hr => by
    simp only [sArgs] at hs
    split at hs
    · rename_i s t hx ht
      split at hs
      · rename_i d l' hd hl
        simp only [Option.some.injEq] at hs
        subst hs
        obtain ⟨t', hcv, ha⟩ := h.ev1 hx
        have hrd := den_frozen h (l := rf) hcv hd (fun o ho => hr o (by simp [aRefs, hx, ho])) hrf
        refine ⟨⟨hrd, ?_⟩, sArgs_ok h hrf hl (fun o ho => hr o (by simp [aRefs, ho]))⟩
        have key : ∀ {t : Ty} {s : SV} {t' : Ty} {cs : List Value}, CV w om (Mb σ.ob om) t' s cs → den σ t s = some d → t'.agg = t.agg := by
          intro t s t' cs hcv hd
          cases s with
          | d u y => simp only [den] at hd; split at hd
                     · rename_i e; subst e; obtain ⟨rfl, _⟩ := hcv; rfl
                     · cases hd
          | nil => obtain ⟨⟨e, rfl⟩, _⟩ := hcv; cases t <;> simp [den] at hd; rfl
          | ref _ _ _ _ => obtain ⟨_, _, rfl, _⟩ := hcv; cases t <;> simp [den] at hd; rfl
          | ptr _ _ => cases t <;> simp [den] at hd
          | vp _ _ => cases t <;> simp [den] at hd
          | anil => obtain ⟨rfl, _⟩ := hcv; cases t <;> simp [den] at hd; rfl
          | acons _ _ => obtain ⟨_, _, rfl, _⟩ := hcv; cases t <;> simp [den] at hd; rfl
        rw [ha]; exact key hcv hd
      · cases hs
    · cases hs
  | _ :: _, [], l, hs, _ => by simp [sArgs] at hs

theorem aRefs_look {T : Tab} : ∀ {xs : List Operand} {us : List TypeId} {l : List (Ty × D)}, sArgs T σ xs us = some l → ∀ o ∈ aRefs σ xs, ∃ ob, look σ.ob o = some ob
  | [], _, _, _, o, ho => by simp [aRefs] at ho
  | x :: xs, u :: us, l, hs, o, ho => by
    simp only [sArgs] at hs
    split at hs
    · rename_i s t hx ht
      split at hs
      · rename_i d l' hd hl
        simp only [aRefs, hx, List.mem_append] at ho
        rcases ho with ho | ho
        · exact den_refs hd o ho
        · exact aRefs_look hl o ho
      · cases hs
    · cases hs
  | _ :: _, [], _, hs, _, _ => by simp [sArgs] at hs

theorem look_newObs : ∀ (rs : List RV) (n o : Nat), look (newObs n rs) o = if o < n then none else match rs[o - n]? with | some (.own e ds) => some ⟨.arr ds.length e, .d (.arr ds.length e) (.l ds)⟩ | _ => none
  | [], n, o => by simp [newObs, look]
  | .d t x :: rs, n, o => by
    rw [newObs, look_newObs rs]
    by_cases h1 : o < n
    · simp [h1, show o < n + 1 by omega]
    · by_cases h2 : o = n
      · subst h2; simp
      · rw [if_neg (by omega), if_neg h1, show o - n = (o - (n + 1)) + 1 by omega]; simp
  | .own e ds :: rs, n, o => by
    rw [newObs, look, look_newObs rs]
    by_cases h1 : o < n
    · simp [h1, show ¬ n = o by omega, show o < n + 1 by omega]
    · by_cases h2 : n = o
      · subst h2; simp
      · rw [if_neg h2, if_neg (by omega), if_neg h1, show o - n = (o - (n + 1)) + 1 by omega]; simp

theorem look_app {α : Type} (x l : List (Nat × α)) (o : Nat) : look (app x l) o = match look x o with | some y => some y | none => look l o := by
  induction x with
  | nil => simp [app, look]
  | cons p x ih =>
    obtain ⟨k, y⟩ := p
    simp only [app, look]
    split
    · rfl
    · exact ih

theorem newSVs_get : ∀ (rs : List RV) (n i : Nat), (newSVs n rs)[i]? = match rs[i]? with | some (.d t x) => some (.d t x) | some (.own _ ds) => some (.ref (n + i) [] 0 ds.length) | none => none
  | [], n, i => by simp [newSVs]
  | .d t x :: rs, n, 0 => by simp [newSVs]
  | .own e ds :: rs, n, 0 => by simp [newSVs]
  | .d t x :: rs, n, i + 1 => by
    simp only [newSVs, List.getElem?_cons_succ]
    rw [newSVs_get rs, show n + 1 + i = n + (i + 1) by omega]
  | .own e ds :: rs, n, i + 1 => by
    simp only [newSVs, List.getElem?_cons_succ]
    rw [newSVs_get rs, show n + 1 + i = n + (i + 1) by omega]

theorem newSVs_length : ∀ (rs : List RV) (n : Nat), (newSVs n rs).length = rs.length
  | [], _ => rfl
  | .d _ _ :: rs, n => by simp [newSVs, newSVs_length rs]
  | .own _ _ :: rs, n => by simp [newSVs, newSVs_length rs]

/-- The results of a call come into the caller's hands. 'w' the world before, 'w1' behind; the footprints of what came back avoid the caller's objects. -/
theorem R0.adopt (h : R0 w0 om σ a w) {w1 : World} (hB : Below w.heap.size w w1) {rs : List RV} {vals : List Value} {bs : List (Option Pl)} (hl1 : vals.length = rs.length) (hl2 : bs.length = rs.length)
    (hrv : ∀ (i : Nat) (r : RV) (v : Value) (b : Option Pl), rs[i]? = some r → vals[i]? = some v → bs[i]? = some b → RVok w.heap.size w1 (fun g => Mb σ.ob om g ∨ OwnB bs g) r v b)
    (hdis : ∀ (i j : Nat) (q q' : Pl), bs[i]? = some (some q) → bs[j]? = some (some q') → q.b = q'.b → i = j) :
    ∃ om', R0 w0 om' { σ with ob := app (newObs σ.nx rs) σ.ob, nx := σ.nx + rs.length } a w1 ∧
      ∀ (i : Nat) (x : SV) (v : Value), (newSVs σ.nx rs)[i]? = some x → vals[i]? = some v → Val1 w1 om' (Mb (app (newObs σ.nx rs) σ.ob) om') x v := by
  let om' : Om := { om with tab := fun o => if o < σ.nx then om o else match rs[o - σ.nx]?, bs[o - σ.nx]? with | some (.own e ds), some b => some (.arr ds.length e, b) | _, _ => none }
  have hlt : ∀ o x, om o = some x → o < σ.nx := by
    intro o x ho
    rcases Nat.lt_or_ge o σ.nx with k | k
    · exact k
    · rw [h.fresh o k] at ho; cases ho
  have hold : ∀ o, o < σ.nx → om' o = om o := fun o ho => by show (if o < σ.nx then om o else _) = _; rw [if_pos ho]
  have hnew : ∀ (i : Nat) (e : Ty) (ds : List D) (b : Option Pl), rs[i]? = some (.own e ds) → bs[i]? = some b → om' (σ.nx + i) = some (.arr ds.length e, b) := by
    intro i e ds b h1 h2
    show (if σ.nx + i < σ.nx then _ else _) = _
    rw [if_neg (by omega), show σ.nx + i - σ.nx = i by omega, h1, h2]
  have hkeep : ∀ o x, om o = some x → om' o = some x := fun o x ho => by rw [hold o (hlt o x ho)]; exact ho
  have hlookold : ∀ o, o < σ.nx → look (app (newObs σ.nx rs) σ.ob) o = look σ.ob o := by
    intro o ho; rw [look_app, look_newObs, if_pos ho]
  have hlooknone : ∀ o, σ.nx ≤ o → look σ.ob o = none := by
    intro o ho
    cases hl : look σ.ob o with
    | none => rfl
    | some y => obtain ⟨pl, h1, _⟩ := h.ob _ _ hl; have := hlt _ _ h1; omega
  have hlooknew : ∀ o y, σ.nx ≤ o → look (app (newObs σ.nx rs) σ.ob) o = some y → ∃ e ds, rs[o - σ.nx]? = some (.own e ds) ∧ y = ⟨.arr ds.length e, .d (.arr ds.length e) (.l ds)⟩ := by
    intro o y ho hy
    rw [look_app, look_newObs, if_neg (by omega)] at hy
    split at hy
    · rename_i z hz
      split at hz
      · rename_i e ds hr
        simp only [Option.some.injEq] at hz hy
        exact ⟨e, ds, hr, by rw [← hy, ← hz]⟩
      · cases hz
    · rw [hlooknone o ho] at hy; cases hy
  have hbs : ∀ (i : Nat) (r : RV), rs[i]? = some r → ∃ b v, bs[i]? = some b ∧ vals[i]? = some v := by
    intro i r hr
    have : i < rs.length := (List.getElem?_eq_some_iff.1 hr).1
    exact ⟨bs[i]'(by omega), vals[i]'(by omega), by simp, by simp⟩
  -- which blocks are the objects'
  have hMo : ∀ g, Mo (app (newObs σ.nx rs) σ.ob) om' g → Mo σ.ob om g ∨ (OwnB bs g ∧ w.heap.size ≤ g) := by
    rintro g ⟨o, y, t, q, h1, h2, h3⟩
    by_cases ho : o < σ.nx
    · rw [hlookold o ho] at h1; rw [hold o ho] at h2; exact .inl ⟨o, y, t, q, h1, h2, h3⟩
    · obtain ⟨e, ds, hr, _⟩ := hlooknew o y (by omega) h1
      obtain ⟨b, v, hb, hv⟩ := hbs _ _ hr
      have := hnew _ _ _ _ hr hb
      rw [show σ.nx + (o - σ.nx) = o by omega, h2] at this
      simp only [Option.some.injEq, Prod.mk.injEq] at this
      obtain ⟨_, rfl⟩ := this
      have hok := hrv _ _ _ _ hr hv hb
      subst h3
      exact .inr ⟨⟨q, List.mem_of_getElem? hb, rfl⟩, hok.1⟩
  have hM : ∀ b x, ¬ Mb σ.ob om b → w.heap[b]? = some x → ¬ Mb (app (newObs σ.nx rs) σ.ob) om' b ∧ w1.heap[b]? = some x := by
    refine Mb.lift rfl ?_
    intro b x h1 h2
    have hbl := (Array.getElem?_eq_some_iff.1 h2).1
    refine ⟨fun hc => ?_, by rw [hB.block b hbl]; exact h2⟩
    rcases hMo b hc with k | k
    · exact h1 k
    · omega
  have hM2 : ∀ b (x : Obj), ¬ (Mb σ.ob om b ∨ OwnB bs b) → w1.heap[b]? = some x → ¬ Mb (app (newObs σ.nx rs) σ.ob) om' b ∧ w1.heap[b]? = some x := by
    intro b x h1 h2
    refine ⟨?_, h2⟩
    rintro (hc | hc)
    · exact h1 (.inl (.inl hc))
    · rcases hMo b hc with k | k
      · exact h1 (.inl (.inr k))
      · exact h1 (.inr k.1)
  refine ⟨om', ?_, ?_⟩
  · refine h.step (hB.mono h.below.size) rfl hM hkeep ?_ ?_ ?_
    · intro o y hy
      by_cases ho : o < σ.nx
      · rw [hlookold o ho] at hy
        obtain ⟨pl, h1, h2⟩ := h.ob o y hy
        refine ⟨pl, hkeep _ _ h1, ?_⟩
        cases pl with
        | none => exact ⟨h2.1, h2.2.mono hM hkeep⟩
        | some q =>
          obtain ⟨h3, c, el, fr, h4, h5, h6, h7⟩ := h2
          have hbl := (Array.getElem?_eq_some_iff.1 h4).1
          exact ⟨h3, c, el, fr, by rw [hB.block _ hbl]; exact h4, h5, h6, h7.mono hM hkeep⟩
      · obtain ⟨e, ds, hr, rfl⟩ := hlooknew o y (by omega) hy
        obtain ⟨b, v, hb, hv⟩ := hbs _ _ hr
        have hom := hnew _ _ _ _ hr hb
        rw [show σ.nx + (o - σ.nx) = o by omega] at hom
        have hok := hrv _ _ _ _ hr hv hb
        refine ⟨b, hom, ?_⟩
        cases b with
        | none =>
          obtain ⟨rfl, _⟩ := hok
          exact ⟨⟨e, rfl⟩, rfl, [], rfl, rfl, rfl⟩
        | some q =>
          obtain ⟨k1, k2, _, c, el, fr, k3, k4, k5, k6⟩ := hok
          have hmul : ds.length * e.size ≤ q.C * e.size := Nat.mul_le_mul_right _ k2
          refine ⟨Nat.le_trans h.below.size k1, c, el, fr, k3, k4, ⟨by simp only [Ty.size]; omega, ?_⟩, rfl, ds, rfl, rfl, ReadL.mono (fun _ _ k => Rd.mono hM2 k) k6⟩
          intro k e' he
          simp only [Ty.arr.injEq] at he
          obtain ⟨rfl, rfl⟩ := he
          exact ⟨k2, k5⟩
    · intro o o' y y' t t' q q' h1 h2 h3 h4 h5
      by_cases ho : o < σ.nx <;> by_cases ho' : o' < σ.nx
      · rw [hlookold o ho] at h1; rw [hlookold o' ho'] at h2; rw [hold o ho] at h3; rw [hold o' ho'] at h4
        exact h.apart _ _ _ _ _ _ _ _ h1 h2 h3 h4 h5
      · exfalso
        rw [hlookold o ho] at h1; rw [hold o ho] at h3
        have := (Mo.lt h.ob ⟨o, y, t, q, h1, h3, rfl⟩).2
        obtain ⟨e, ds, hr, rfl⟩ := hlooknew o' y' (by omega) h2
        obtain ⟨b, v, hb, hv⟩ := hbs _ _ hr
        have hom := hnew _ _ _ _ hr hb
        rw [show σ.nx + (o' - σ.nx) = o' by omega, h4] at hom
        simp only [Option.some.injEq, Prod.mk.injEq] at hom
        obtain ⟨_, rfl⟩ := hom
        have := (hrv _ _ _ _ hr hv hb).1
        omega
      · exfalso
        rw [hlookold o' ho'] at h2; rw [hold o' ho'] at h4
        have := (Mo.lt h.ob ⟨o', y', t', q', h2, h4, rfl⟩).2
        obtain ⟨e, ds, hr, rfl⟩ := hlooknew o y (by omega) h1
        obtain ⟨b, v, hb, hv⟩ := hbs _ _ hr
        have hom := hnew _ _ _ _ hr hb
        rw [show σ.nx + (o - σ.nx) = o by omega, h3] at hom
        simp only [Option.some.injEq, Prod.mk.injEq] at hom
        obtain ⟨_, rfl⟩ := hom
        have := (hrv _ _ _ _ hr hv hb).1
        omega
      · obtain ⟨e, ds, hr, rfl⟩ := hlooknew o y (by omega) h1
        obtain ⟨b, v, hb, hv⟩ := hbs _ _ hr
        have hom := hnew _ _ _ _ hr hb
        rw [show σ.nx + (o - σ.nx) = o by omega, h3] at hom
        simp only [Option.some.injEq, Prod.mk.injEq] at hom
        obtain ⟨_, rfl⟩ := hom
        obtain ⟨e', ds', hr', rfl⟩ := hlooknew o' y' (by omega) h2
        obtain ⟨b', v', hb', hv'⟩ := hbs _ _ hr'
        have hom' := hnew _ _ _ _ hr' hb'
        rw [show σ.nx + (o' - σ.nx) = o' by omega, h4] at hom'
        simp only [Option.some.injEq, Prod.mk.injEq] at hom'
        obtain ⟨_, rfl⟩ := hom'
        have := hdis _ _ _ _ hb hb' h5
        omega
    · intro o ho
      show (if o < σ.nx then _ else _) = none
      rw [if_neg (by omega), List.getElem?_eq_none (show rs.length ≤ o - σ.nx by omega)]
  · intro i x v hx hv
    rw [newSVs_get] at hx
    split at hx
    · rename_i t y hr
      simp only [Option.some.injEq] at hx
      subst hx
      obtain ⟨b, v', hb, hv'⟩ := hbs _ _ hr
      rw [hv] at hv'
      simp only [Option.some.injEq] at hv'
      subst hv'
      have hok := hrv _ _ _ _ hr hv hb
      cases b with
      | none => exact Val1.of (RdV.mono hM2 hok)
      | some q => exact hok.elim
    · rename_i e ds hr
      simp only [Option.some.injEq] at hx
      subst hx
      obtain ⟨b, v', hb, hv'⟩ := hbs _ _ hr
      rw [hv] at hv'
      simp only [Option.some.injEq] at hv'
      subst hv'
      have hok := hrv _ _ _ _ hr hv hb
      have hom := hnew _ _ _ _ hr hb
      cases b with
      | none =>
        obtain ⟨rfl, b, rfl⟩ := hok
        exact ⟨.sl e, ⟨e, _, rfl, rfl, _, _, 0, 0, hom, rfl, trivial, by simp, by simp, .inl ⟨rfl, b, rfl⟩⟩, rfl⟩
      | some q =>
        obtain ⟨k1, k2, ⟨cap, rfl, k3, k4⟩, _⟩ := hok
        exact ⟨.sl e, ⟨e, _, rfl, rfl, _, _, ds.length, cap, hom, rfl, trivial, by omega, k3, .inr ⟨q, rfl, by simp [Ty.offs], by simpa using k4⟩⟩, rfl⟩
    · cases hx

end
end Go.SE
