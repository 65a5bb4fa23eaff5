/- Merged: SeLa SeLb SeLc SeM SeN SeO SeP SeQ SeR SeT Tb. -/
import Derived.Orders
import Derived.Scope
import Derived.IntWalk
import Derived.KernelRfl
import Derived.Test.YtmafojaagmneoaaDoorProg
import Derived.Test.YtmafojaagmneoaaDoorMSg0
set_option linter.unusedVariables false
set_option linter.unusedSimpArgs false
set_option linter.constructorNameAsVariable false
/- Calls with objects that are lent: contracts, and what the caller has of them. -/
namespace Go.SE
open Go.RowKit (Below)

theorem tv_ok {w : World} {om : Om} {M : Nat → Prop} {xs : List SV} {vals : List Value} (hl : xs.length = vals.length) (h : ∀ (i : Nat) (x : SV) (v : Value), xs[i]? = some x → vals[i]? = some v → Val1 w om M x v) : TVok w om M (tvOf xs) (tupV vals) := by
  match xs, vals with
  | [], [] => exact ⟨[], rfl, rfl, fun i x y hx _ => by simp at hx⟩
  | [x], [v] => exact h 0 x v rfl rfl
  | x :: y :: xs, v :: u :: vals => exact ⟨v :: u :: vals, rfl, by simpa using hl.symm, fun i p q hp hq => h i p q hp hq⟩

def names : SV → List Nat
  | .ref o _ _ _ | .ptr o _ => [o]
  | .acons a b | .fnv _ a b => app (names a) (names b)
  | _ => []
/-- A value under other names. -/
def renB (f : Nat → Nat) : SV → SV
  | .ref o p off len => .ref (f o) p off len
  | .ptr o p => .ptr (f o) p
  | .acons a b => .acons (renB f a) (renB f b)
  | .fnv g a b => .fnv g (renB f a) (renB f b)
  | v => v
/-- Without slices of data, and without pointers to data. -/
def flatSV : SV → Bool
  | .d t _ => t.flat
  | .vp _ _ => false
  | .acons a b | .fnv _ a b => flatSV a && flatSV b
  | _ => true

theorem CV.ren {w w' : World} {om om' : Om} {M M' : Nat → Prop} {f : Nat → Nat} (h : ∀ b o, ¬ M b → w.heap[b]? = some o → ¬ M' b ∧ w'.heap[b]? = some o) :
    ∀ {v : SV} {t : Ty} {cs : List Value}, (∀ o ∈ names v, ∀ y, om o = some y → om' (f o) = some y) → CV w om M t v cs → CV w' om' M' t (renB f v) cs
  | .d _ _, _, _, _, ⟨e, k⟩ => ⟨e, k.mono h⟩
  | .nil, _, _, _, k => k
  | .ref o _ _ _, _, _, hn, ⟨e, v, h1, h2, t, pl, n, cap, h3, r⟩ => ⟨e, v, h1, h2, t, pl, n, cap, hn o (by simp [names]) _ h3, r⟩
  | .ptr o _, _, _, hn, ⟨v, h1, h2, t, q, u, h3, r⟩ => ⟨v, h1, h2, t, q, u, hn o (by simp [names]) _ h3, r⟩
  | .vp _ _, _, _, _, ⟨e, g, o, c, el, fr, h1, h2, h3, h4, h5⟩ => ⟨e, g, o, c, el, fr, h1, (h g _ h2 h3).1, (h g _ h2 h3).2, h4, h5.mono h⟩
  | .anil, _, _, _, k => k
  | .acons _ _, _, _, hn, ⟨ta, tb, e, h1, h2⟩ => ⟨ta, tb, e, CV.ren h (fun o ho => hn o (by simp [names, app_eq, ho])) h1, CV.ren h (fun o ho => hn o (by simp [names, app_eq, ho])) h2⟩
  | .fnv _ _ _, _, _, hn, ⟨e, vs, us, ta, tb, h1, h2, h3, h4, h5⟩ => ⟨e, vs, us, ta, tb, h1, h2, h3, CV.ren h (fun o ho => hn o (by simp [names, app_eq, ho])) h4, CV.ren h (fun o ho => hn o (by simp [names, app_eq, ho])) h5⟩

theorem CV.toFlat {w : World} {om : Om} {M M' : Nat → Prop} : ∀ {v : SV} {t : Ty} {cs : List Value}, flatSV v = true → CV w om M t v cs → CV w om M' t v cs
  | .d _ _, _, _, hf, ⟨e, k⟩ => by subst e; exact ⟨rfl, Rd.ofFlat hf k⟩
  | .nil, _, _, _, k => k
  | .ref _ _ _ _, _, _, _, k => k
  | .ptr _ _, _, _, _, k => k
  | .vp _ _, _, _, hf, _ => by simp [flatSV] at hf
  | .anil, _, _, _, k => k
  | .acons _ _, _, _, hf, ⟨ta, tb, e, h1, h2⟩ => by
    simp only [flatSV, Bool.and_eq_true] at hf
    exact ⟨ta, tb, e, CV.toFlat hf.1 h1, CV.toFlat hf.2 h2⟩
  | .fnv _ _ _, _, _, hf, ⟨e, vs, us, ta, tb, h1, h2, h3, h4, h5⟩ => by
    simp only [flatSV, Bool.and_eq_true] at hf
    exact ⟨e, vs, us, ta, tb, h1, h2, h3, CV.toFlat hf.1 h4, CV.toFlat hf.2 h5⟩

def enumO : Nat → List Ob → List (Nat × Ob)
  | _, [] => []
  | n, x :: l => (n, x) :: enumO (n + 1) l
theorem look_enumO : ∀ (l : List Ob) (n o : Nat), look (enumO n l) o = if o < n then none else l[o - n]?
  | [], n, o => by simp [enumO, look]
  | x :: l, n, o => by
    rw [enumO, look, look_enumO l]
    by_cases h1 : o < n
    · simp [h1, show ¬ n = o by omega, show o < n + 1 by omega]
    · by_cases h2 : n = o
      · subst h2; simp
      · rw [if_neg h2, if_neg (by omega), if_neg h1, show o - n = (o - (n + 1)) + 1 by omega]; simp

/-- What a call with lent objects finds. -/
structure PreOk (w : World) (om : Om) (ob : List (Nat × Ob)) (nx : Nat) (xs : List SV) (vs : List Value) : Prop where
  low : ∀ b, Mb ob om b → b < w.heap.size
  glob : GOk w (Mb ob om)
  len : xs.length = vs.length
  args : ∀ (i : Nat) (x : SV) (v : Value), xs[i]? = some x → vs[i]? = some v → Val1 w om (Mb ob om) x v
  objs : ∀ o x, look ob o = some x → ObOk (fun _ => True) w om (Mb ob om) o x
  apart : ∀ o o' x x' t t' q q', look ob o = some x → look ob o' = some x' → om o = some (t, some q) → om o' = some (t', some q') → q.b = q'.b → o = o'
  fresh : ∀ o, nx ≤ o → om o = none
  dis : ∀ b, om.F b → ¬ Mo ob om b
/-- What a call with lent objects leaves. -/
structure PostOk (w0 w : World) (om0 : Om) (ob0 : List (Nat × Ob)) (om : Om) (ob : List (Nat × Ob)) (nx : Nat) (xs : List SV) (v : Value) : Prop where
  below : BelX w0.heap.size (Mo ob0 om0) w0 w
  hF : om.F = om0.F
  keep : ∀ o y, om0 o = some y → om o = some y
  objs : ∀ o x, look ob o = some x → ObOk (fun b => w0.heap.size ≤ b ∨ Mo ob0 om0 b) w om (Mb ob om) o x
  apart : ∀ o o' x x' t t' q q', look ob o = some x → look ob o' = some x' → om o = some (t, some q) → om o' = some (t', some q') → q.b = q'.b → o = o'
  fresh : ∀ o, nx ≤ o → om o = none
  res : ∃ vals, v = tupV vals ∧ xs.length = vals.length ∧ ∀ (i : Nat) (x : SV) (u : Value), xs[i]? = some x → vals[i]? = some u → Val1 w om (Mb ob om) x u

/-- The contract of a function to which objects are lent (named by their place in the row): what comes back, what the objects are then. -/
def SCallP (P : Program) (f : FuncId) (xs : List SV) (obs : List Ob) (K : List SV → List (Nat × Ob) → Nat → Prop) : Prop :=
  Callable P f ∧ ∀ (w : World) (om : Om) (vs : List Value), PreOk w om (enumO 0 obs) obs.length xs vs →
    Calls P f vs.toArray w fun e w' => ∃ v om' ob' nx' rs, e = .returned v ∧ PostOk w w' om (enumO 0 obs) om' ob' nx' rs v ∧ K rs ob' nx'
theorem SCallP.mono {P : Program} {f : FuncId} {xs : List SV} {obs : List Ob} {K K' : List SV → List (Nat × Ob) → Nat → Prop} (h : SCallP P f xs obs K) (hk : ∀ rs ob n, K rs ob n → K' rs ob n) : SCallP P f xs obs K' :=
  ⟨h.1, fun w om vs hp => (h.2 w om vs hp).mono fun _ _ ⟨v, om', ob', nx', rs, h1, h2, h3⟩ => ⟨v, om', ob', nx', rs, h1, h2, hk _ _ _ h3⟩⟩

/-- The caller's name of the callee's i. -/
def nam : List Nat → Nat → Nat → Nat
  | [], b, i => b + i
  | x :: _, _, 0 => x
  | _ :: L, b, i + 1 => nam L b i
def pos : List Nat → Nat → Nat
  | [], _ => 0
  | x :: L, o => if x = o then 0 else pos L o + 1
theorem nam_lt : ∀ {L : List Nat} {b i o : Nat}, L[i]? = some o → nam L b i = o
  | x :: L, b, 0, o, h => by simpa [nam] using h
  | x :: L, b, i + 1, o, h => nam_lt (L := L) (by simpa using h)
  | [], _, _, _, h => by simp at h
theorem nam_ge : ∀ {L : List Nat} {b i : Nat}, L.length ≤ i → nam L b i = b + (i - L.length)
  | [], b, i, _ => by simp [nam]
  | x :: L, b, 0, h => by simp at h
  | x :: L, b, i + 1, h => by
    have := nam_ge (L := L) (b := b) (i := i) (by simpa using h)
    rw [nam, this]; simp
theorem pos_ok : ∀ {L : List Nat} {o : Nat}, o ∈ L → L[pos L o]? = some o
  | x :: L, o, h => by
    simp only [pos]
    split
    · rename_i e; subst e; rfl
    · rename_i e
      have := pos_ok (L := L) (o := o) (by rcases List.mem_cons.1 h with h | h; exact absurd h.symm e; exact h)
      simpa using this

def renObs (f : Nat → Nat) : List (Nat × Ob) → List (Nat × Ob)
  | [] => []
  | (i, x) :: l => (f i, ⟨x.t, renB f x.c⟩) :: renObs f l
theorem look_renObs {f : Nat → Nat} : ∀ {l : List (Nat × Ob)} {o : Nat} {x : Ob}, look (renObs f l) o = some x → ∃ i y, look l i = some y ∧ o = f i ∧ x = ⟨y.t, renB f y.c⟩
  | [], _, _, h => by simp [renObs, look] at h
  | (i, z) :: l, o, x, h => by
    simp only [renObs, look] at h
    split at h
    · rename_i e
      simp only [Option.some.injEq] at h
      exact ⟨i, z, by simp [look], e.symm, h.symm⟩
    · rename_i e
      obtain ⟨j, y, h1, h2, h3⟩ := look_renObs h
      refine ⟨j, y, ?_, h2, h3⟩
      have : i ≠ j := by rintro rfl; exact e h2.symm
      simp [look, this, h1]
def mapS (f : Nat → Nat) : List SV → List SV
  | [] => []
  | x :: l => renB f x :: mapS f l
theorem mapS_length (f : Nat → Nat) : ∀ l, (mapS f l).length = l.length
  | [] => rfl
  | x :: l => by simp [mapS, mapS_length f l]
theorem mapS_get (f : Nat → Nat) : ∀ (l : List SV) (i : Nat), (mapS f l)[i]? = (l[i]?).map (renB f)
  | [], i => by simp [mapS]
  | x :: l, 0 => by simp [mapS]
  | x :: l, i + 1 => by simpa [mapS] using mapS_get f l i

def mem1 (x : Nat) : List Nat → Bool
  | [] => false
  | y :: l => if x = y then true else mem1 x l
def nodup1 : List Nat → Bool
  | [] => true
  | x :: l => if mem1 x l then false else nodup1 l
def inB : List Nat → List Nat → Bool
  | [], _ => true
  | x :: l, L => if mem1 x L then inB l L else false
def apB : List Nat → List Nat → Bool
  | [], _ => true
  | x :: l, L => if mem1 x L then false else apB l L
theorem mem1_iff {x : Nat} : ∀ {l : List Nat}, mem1 x l = true ↔ x ∈ l
  | [] => by simp [mem1]
  | y :: l => by
    simp only [mem1]
    split
    · rename_i e; simp [e]
    · rename_i e; rw [mem1_iff]; simp [e]
theorem nodup1_ok : ∀ {l : List Nat}, nodup1 l = true → l.Nodup
  | [], _ => List.nodup_nil
  | x :: l, h => by
    simp only [nodup1] at h
    split at h
    · cases h
    · rename_i hm
      rw [mem1_iff] at hm
      exact List.nodup_cons.2 ⟨hm, nodup1_ok h⟩
theorem inB_ok : ∀ {l L : List Nat}, inB l L = true → ∀ x ∈ l, x ∈ L
  | [], _, _, _, hx => by cases hx
  | y :: l, L, h, x, hx => by
    simp only [inB] at h
    split at h
    · rename_i hm
      rcases List.mem_cons.1 hx with rfl | hx
      · exact mem1_iff.1 hm
      · exact inB_ok h x hx
    · cases h
theorem apB_ok : ∀ {l L : List Nat}, apB l L = true → ∀ x ∈ l, x ∉ L
  | [], _, _, _, hx => by cases hx
  | y :: l, L, h, x, hx => by
    simp only [apB] at h
    split at h
    · cases h
    · rename_i hm
      rcases List.mem_cons.1 hx with rfl | hx
      · exact fun k => hm (mem1_iff.2 k)
      · exact apB_ok h x hx
def namesL : List SV → List Nat
  | [] => []
  | x :: l => app (names x) (namesL l)
theorem namesL_mem : ∀ {l : List SV} {i : Nat} {x : SV} {o : Nat}, l[i]? = some x → o ∈ names x → o ∈ namesL l
  | y :: l, 0, x, o, h, ho => by simp only [List.getElem?_cons_zero, Option.some.injEq] at h; subst h; simp [namesL, app_eq, ho]
  | y :: l, i + 1, x, o, h, ho => by simp only [List.getElem?_cons_succ] at h; simp [namesL, app_eq, namesL_mem h ho]
  | [], _, _, _, h, _ => by simp at h
/-- The objects that are lent, under the callee's names. -/
def obsAt (ob : List (Nat × Ob)) (L0 : List Nat) : List Nat → Option (List Ob)
  | [] => some []
  | o :: L => match look ob o with
    | some x => if inB (names x.c) L0 then (match obsAt ob L0 L with | some l => some (⟨x.t, renB (pos L0) x.c⟩ :: l) | none => none) else none
    | none => none
theorem obsAt_ok {ob : List (Nat × Ob)} {L0 : List Nat} : ∀ {L : List Nat} {obs : List Ob}, obsAt ob L0 L = some obs → obs.length = L.length ∧
    ∀ (i o : Nat), L[i]? = some o → ∃ x, look ob o = some x ∧ obs[i]? = some (Ob.mk x.t (renB (pos L0) x.c)) ∧ ∀ k ∈ names x.c, k ∈ L0
  | [], obs, h => by simp only [obsAt, Option.some.injEq] at h; subst h; exact ⟨rfl, fun i o k => by simp at k⟩
  | o :: L, obs, h => by
    simp only [obsAt] at h
    split at h
    · rename_i x hx
      split at h
      · rename_i hin
        split at h
        · rename_i l hl
          simp only [Option.some.injEq] at h
          subst h
          obtain ⟨h1, h2⟩ := obsAt_ok hl
          refine ⟨by simp [h1], ?_⟩
          intro i o' ho
          cases i with
          | zero => simp only [List.getElem?_cons_zero, Option.some.injEq] at ho; subst ho; exact ⟨x, hx, by simp, inB_ok hin⟩
          | succ i => simpa using h2 i o' (by simpa using ho)
        · cases h
      · cases h
    · cases h
/-- The names that are met from some on. -/
def reach (ob : List (Nat × Ob)) : Nat → List Nat → List Nat → List Nat
  | 0, _, acc => acc
  | _ + 1, [], acc => acc
  | n + 1, o :: l, acc => if mem1 o acc then reach ob n l acc else match look ob o with
    | some x => reach ob n (app (names x.c) l) (app acc [o])
    | none => reach ob n l (app acc [o])
def flatOb : List (Nat × Ob) → Bool
  | [] => true
  | (_, x) :: l => if flatSV x.c then flatOb l else false
def flatL : List SV → Bool
  | [] => true
  | x :: l => if flatSV x then flatL l else false
theorem flatOb_ok : ∀ {l : List (Nat × Ob)}, flatOb l = true → ∀ o x, look l o = some x → flatSV x.c = true
  | [], _, o, x, h => by simp [look] at h
  | (k, y) :: l, hf, o, x, h => by
    simp only [flatOb] at hf
    split at hf
    · rename_i hy
      simp only [look] at h
      split at h
      · simp only [Option.some.injEq] at h; subst h; exact hy
      · exact flatOb_ok hf o x h
    · cases hf
theorem flatL_ok : ∀ {l : List SV}, flatL l = true → ∀ (i : Nat) x, l[i]? = some x → flatSV x = true
  | [], _, i, x, h => by simp at h
  | y :: l, hf, i, x, h => by
    simp only [flatL] at hf
    split at hf
    · rename_i hy
      cases i with
      | zero => simp only [List.getElem?_cons_zero, Option.some.injEq] at h; subst h; exact hy
      | succ i => exact flatL_ok hf i x (by simpa using h)
    · cases hf
/-- The caller's state behind a call with lent objects L; 'rd' the rows that were handed on as data. -/
def retP (σ : St) (L rd : List Nat) (rs : List SV) (ob : List (Nat × Ob)) (n : Nat) (dst : Option Nat) : St :=
  (if flatL rs && flatOb ob then { σ with ob := app (renObs (nam L σ.nx) ob) (dels σ.ob L), nx := σ.nx + (n - L.length) }
    else { σ with ob := app (renObs (nam L σ.nx) ob) (dels (dels σ.ob L) rd), nx := σ.nx + (n - L.length) }).put dst (tvOf (mapS (nam L σ.nx) rs))
def pCall (P : Program) (f : FuncId) (σ : St) (ss : List SV) (rd : List Nat) (dst : Option Nat) (K : St → Prop) (L : List Nat) : Prop :=
  match obsAt σ.ob L L with
  | some obs => (nodup1 L && apB rd L && inB (namesL ss) L) = true ∧ SCallP P f (mapS (pos L) ss) obs (fun rs ob n => K (retP σ L rd rs ob n dst))
  | none => False
end Go.SE
/- A call with lent objects, in the caller's hands. -/
namespace Go.SE
open Go.RowKit (Below)

section
variable {P : Program} {w0 : Base} {om : Om} {σ : St} {a : Act} {w : World}

/-- What the caller's objects and the lent ones are to the callee. -/
def omC (om : Om) (σ : St) (L rd : List Nat) : Om := ⟨fun i => match L[i]? with | some o => om o | none => none, fun b => Mb (dels (dels σ.ob L) rd) om b⟩

theorem omC_at {L rd : List Nat} {i o : Nat} (h : L[i]? = some o) : omC om σ L rd i = om o := by
  show (match L[i]? with | some o => om o | none => none) = _
  rw [h]

theorem moC_iff {L rd : List Nat} {obs : List Ob} (ho : obsAt σ.ob L L = some obs) (b : Nat) :
    Mo (enumO 0 obs) (omC om σ L rd) b ↔ ∃ o x t q, o ∈ L ∧ look σ.ob o = some x ∧ om o = some (t, some q) ∧ q.b = b := by
  obtain ⟨hl, hat⟩ := obsAt_ok ho
  constructor
  · rintro ⟨i, x, t, q, h1, h2, h3⟩
    rw [look_enumO, if_neg (by omega), Nat.sub_zero] at h1
    have hi : i < L.length := by rw [← hl]; exact (List.getElem?_eq_some_iff.1 h1).1
    have hLi : L[i]? = some L[i] := List.getElem?_eq_getElem hi
    obtain ⟨y, hy, _, _⟩ := hat i L[i] hLi
    rw [omC_at hLi] at h2
    exact ⟨L[i], y, t, q, List.getElem_mem hi, hy, h2, h3⟩
  · rintro ⟨o, x, t, q, hm, h1, h2, h3⟩
    obtain ⟨i, hi, rfl⟩ := List.getElem_of_mem hm
    have hLi : L[i]? = some L[i] := List.getElem?_eq_getElem hi
    obtain ⟨y, hy, hob, _⟩ := hat i L[i] hLi
    exact ⟨i, _, t, q, by rw [look_enumO, if_neg (by omega), Nat.sub_zero]; exact hob, by rw [omC_at hLi]; exact h2, h3⟩

theorem mbC_iff {L rd : List Nat} {obs : List Ob} (ho : obsAt σ.ob L L = some obs) (hap : ∀ x ∈ rd, x ∉ L) (b : Nat) :
    Mb (enumO 0 obs) (omC om σ L rd) b ↔ Mb (dels σ.ob rd) om b := by
  constructor
  · rintro (h | h)
    · rcases h with h | ⟨o, x, t, q, h1, h2, h3⟩
      · exact .inl h
      · rw [look_dels] at h1
        split at h1
        · cases h1
        · rename_i hn
          rw [look_dels] at h1
          split at h1
          · cases h1
          · exact .inr ⟨o, x, t, q, by rw [look_dels, if_neg hn]; exact h1, h2, h3⟩
    · obtain ⟨o, x, t, q, hm, h1, h2, h3⟩ := (moC_iff ho b).1 h
      exact .inr ⟨o, x, t, q, by rw [look_dels, if_neg (fun k => hap o k hm)]; exact h1, h2, h3⟩
  · rintro (h | ⟨o, x, t, q, h1, h2, h3⟩)
    · exact .inl (.inl h)
    · rw [look_dels] at h1
      split at h1
      · cases h1
      · rename_i hn
        by_cases hm : o ∈ L
        · exact .inr ((moC_iff ho b).2 ⟨o, x, t, q, hm, h1, h2, h3⟩)
        · exact .inl (.inr ⟨o, x, t, q, by rw [look_dels, if_neg hn, look_dels, if_neg hm]; exact h1, h2, h3⟩)

theorem om_look (h : R0 w0 om σ a w) {o : Nat} {x : Ob} (hx : look σ.ob o = some x) : ∃ pl, om o = some (x.t, pl) := by
  obtain ⟨pl, h1, _⟩ := h.ob o x hx
  exact ⟨pl, h1⟩
theorem om_lt (h : R0 w0 om σ a w) {o : Nat} {y : Ty × Option Pl} (hy : om o = some y) : o < σ.nx := by
  rcases Nat.lt_or_ge o σ.nx with k | k
  · exact k
  · rw [h.fresh o k] at hy; cases hy

theorem preOk (h : R0 w0 om σ a w) {L rd : List Nat} {obs : List Ob} {ss : List SV} {vs : List Value} (ho : obsAt σ.ob L L = some obs) (hnd : L.Nodup) (hap : ∀ x ∈ rd, x ∉ L)
    (hin : ∀ x ∈ namesL ss, x ∈ L) (hlen : ss.length = vs.length) (hargs : ∀ (i : Nat) (x : SV) (v : Value), ss[i]? = some x → vs[i]? = some v → Val1 w om (Mb (dels σ.ob rd) om) x v) :
    PreOk w (omC om σ L rd) (enumO 0 obs) obs.length (mapS (pos L) ss) vs := by
  obtain ⟨hl, hat⟩ := obsAt_ok ho
  have hsub : ∀ b, Mb (dels σ.ob rd) om b → Mb σ.ob om b := fun b hb => Mb_dels hb
  have hpos : ∀ o ∈ L, ∀ y, om o = some y → omC om σ L rd (pos L o) = some y := fun o hm y hy => by rw [omC_at (pos_ok hm)]; exact hy
  have hM : ∀ b (x : Obj), ¬ Mb σ.ob om b → w.heap[b]? = some x → ¬ Mb (enumO 0 obs) (omC om σ L rd) b ∧ w.heap[b]? = some x :=
    fun b x hb hx => ⟨fun k => hb (hsub b ((mbC_iff ho hap b).1 k)), hx⟩
  have hM2 : ∀ b (x : Obj), ¬ Mb (dels σ.ob rd) om b → w.heap[b]? = some x → ¬ Mb (enumO 0 obs) (omC om σ L rd) b ∧ w.heap[b]? = some x :=
    fun b x hb hx => ⟨fun k => hb ((mbC_iff ho hap b).1 k), hx⟩
  have hidx : ∀ {i : Nat} {x : Ob}, look (enumO 0 obs) i = some x → ∃ o y, L[i]? = some o ∧ look σ.ob o = some y ∧ x = ⟨y.t, renB (pos L) y.c⟩ ∧ ∀ k ∈ names y.c, k ∈ L := by
    intro i x hx
    rw [look_enumO, if_neg (by omega), Nat.sub_zero] at hx
    have hi : i < L.length := by rw [← hl]; exact (List.getElem?_eq_some_iff.1 hx).1
    have hLi : L[i]? = some L[i] := List.getElem?_eq_getElem hi
    obtain ⟨y, hy, hob, hn⟩ := hat i L[i] hLi
    rw [hob] at hx
    exact ⟨L[i], y, hLi, hy, (Option.some.inj hx).symm, hn⟩
  refine ⟨?_, ?_, by rw [mapS_length]; exact hlen, ?_, ?_, ?_, ?_, ?_⟩
  · intro b hb
    rcases hsub b ((mbC_iff ho hap b).1 hb) with k | k
    · have h1 := w0.low b (by rw [← h.hF]; exact k)
      have h2 := h.below.size
      omega
    · exact (Mo.lt h.ob k).2
  · exact (h.dels rd _ h).glob.mono fun b o hb hx => ⟨fun k => hb ((mbC_iff ho hap b).1 k), hx⟩
  · intro i x v hx hv
    rw [mapS_get, Option.map_eq_some_iff] at hx
    obtain ⟨y, hy, rfl⟩ := hx
    obtain ⟨t, hcv, ha⟩ := hargs i y v hy hv
    exact ⟨t, CV.ren hM2 (fun o hn => hpos o (hin o (namesL_mem hy hn))) hcv, ha⟩
  · intro i x hx
    obtain ⟨o, y, hLi, hy, rfl, hn⟩ := hidx hx
    obtain ⟨pl, h1, h2⟩ := h.ob o y hy
    refine ⟨pl, by rw [omC_at hLi]; exact h1, ?_⟩
    cases pl with
    | none => exact ⟨h2.1, CV.ren hM (fun o ho => hpos o (hn o ho)) h2.2⟩
    | some q =>
      obtain ⟨_, c, el, fr, h4, h5, h6, h7⟩ := h2
      exact ⟨trivial, c, el, fr, h4, h5, h6, CV.ren hM (fun o ho => hpos o (hn o ho)) h7⟩
  · intro i j x x' t t' q q' h1 h2 h3 h4 h5
    obtain ⟨o, y, hLi, hy, _, _⟩ := hidx h1
    obtain ⟨o', y', hLj, hy', _, _⟩ := hidx h2
    rw [omC_at hLi] at h3
    rw [omC_at hLj] at h4
    have e := h.apart _ _ _ _ _ _ _ _ hy hy' h3 h4 h5
    subst e
    have hi := (List.getElem?_eq_some_iff.1 hLi).1
    exact (List.getElem?_inj hi hnd).1 (hLi.trans hLj.symm)
  · intro i hi
    show (match L[i]? with | some o => om o | none => none) = none
    rw [List.getElem?_eq_none (by omega)]
  · rintro b hb hm
    obtain ⟨o, x, t, q, hmL, h1, h2, h3⟩ := (moC_iff ho b).1 hm
    rcases hb with hb | ⟨o', x', t', q', k1, k2, k3⟩
    · rw [← h3, h.hF] at hb
      exact (Mo.lt h.ob ⟨o, x, t, q, h1, h2, rfl⟩).1.notF hb
    · rw [look_dels] at k1
      split at k1
      · cases k1
      · rw [look_dels] at k1
        split at k1
        · cases k1
        · rename_i hno
          have e := h.apart _ _ _ _ _ _ _ _ k1 h1 k2 h2 (k3.trans h3.symm)
          subst e
          exact hno hmL

/-- What came back comes into the caller's hands. 'rd2': the rows that go. -/
theorem adoptP (h : R0 w0 om σ a w) {L rd rd2 : List Nat} {obs : List Ob} (ho : obsAt σ.ob L L = some obs) (hnd : L.Nodup) (hap : ∀ x ∈ rd, x ∉ L) {w1 : World} {om1 : Om} {ob1 : List (Nat × Ob)} {n1 : Nat} {rs : List SV} {v : Value}
    (hp : PostOk w w1 (omC om σ L rd) (enumO 0 obs) om1 ob1 n1 rs v) (hrd : rd2 = rd ∨ (rd2 = [] ∧ flatL rs = true ∧ flatOb ob1 = true)) :
    ∃ om', R0 w0 om' { σ with ob := app (renObs (nam L σ.nx) ob1) (dels (dels σ.ob L) rd2), nx := σ.nx + (n1 - L.length) } a w1 ∧
      TVok w1 om' (Mb (app (renObs (nam L σ.nx) ob1) (dels (dels σ.ob L) rd2)) om') (tvOf (mapS (nam L σ.nx) rs)) v := by
  obtain ⟨hl, hat⟩ := obsAt_ok ho
  let om' : Om := ⟨fun o => if o < σ.nx then om o else om1 (o - σ.nx + L.length), om.F⟩
  let ob' := app (renObs (nam L σ.nx) ob1) (dels (dels σ.ob L) rd2)
  have hold : ∀ o, o < σ.nx → om' o = om o := fun o hlt => by show (if o < σ.nx then om o else _) = _; rw [if_pos hlt]
  have hkeep : ∀ o y, om o = some y → om' o = some y := fun o y hy => by rw [hold o (om_lt h hy)]; exact hy
  have hnam : ∀ i y, om1 i = some y → om' (nam L σ.nx i) = some y := by
    intro i y hy
    rcases Nat.lt_or_ge i L.length with hi | hi
    · have hLi : L[i]? = some L[i] := List.getElem?_eq_getElem hi
      rw [nam_lt hLi]
      obtain ⟨x, hx, _, _⟩ := hat i L[i] hLi
      obtain ⟨pl, hpl⟩ := om_look h hx
      have h1 : omC om σ L rd i = some (x.t, pl) := by rw [omC_at hLi]; exact hpl
      have h2 := hp.keep i _ h1
      rw [hy] at h2
      cases h2
      exact hkeep _ _ hpl
    · rw [nam_ge hi]
      show (if σ.nx + (i - L.length) < σ.nx then _ else om1 (σ.nx + (i - L.length) - σ.nx + L.length)) = _
      rw [if_neg (by omega), show σ.nx + (i - L.length) - σ.nx + L.length = i by omega]
      exact hy
  -- the objects' rows
  have hlk : ∀ o x, look ob' o = some x → (∃ i y pl, look ob1 i = some y ∧ o = nam L σ.nx i ∧ x = ⟨y.t, renB (nam L σ.nx) y.c⟩ ∧ om1 i = some (y.t, pl) ∧ om' o = some (y.t, pl)) ∨ (look σ.ob o = some x ∧ o ∉ L ∧ o ∉ rd2) := by
    intro o x hx
    have hx' : look (app (renObs (nam L σ.nx) ob1) (dels (dels σ.ob L) rd2)) o = some x := hx
    rw [look_app] at hx'
    split at hx'
    · rename_i z hz
      simp only [Option.some.injEq] at hx'
      subst hx'
      obtain ⟨i, y, h1, h2, h3⟩ := look_renObs hz
      obtain ⟨pl, h4, _⟩ := hp.objs i y h1
      exact .inl ⟨i, y, pl, h1, h2, h3, h4, by rw [h2]; exact hnam i _ h4⟩
    · rw [look_dels] at hx'
      split at hx'
      · cases hx'
      · rename_i hn2
        rw [look_dels] at hx'
        split at hx'
        · cases hx'
        · rename_i hn
          exact .inr ⟨hx', hn, hn2⟩
  have hX : ∀ b, Mo (enumO 0 obs) (omC om σ L rd) b → w0.own b ∧ Mo σ.ob om b := by
    intro b hb
    obtain ⟨o, x, t, q, _, h1, h2, h3⟩ := (moC_iff ho b).1 hb
    have hm : Mo σ.ob om b := ⟨o, x, t, q, h1, h2, h3⟩
    exact ⟨(Mo.lt h.ob hm).1, hm⟩
  have hMo1 : ∀ b, Mo ob1 om1 b → w.heap.size ≤ b ∨ Mo (enumO 0 obs) (omC om σ L rd) b := by
    rintro b ⟨i, x, t, q, h1, h2, h3⟩
    obtain ⟨pl, h4, h5⟩ := hp.objs i x h1
    rw [h2] at h4
    cases h4
    rw [← h3]
    exact h5.1
  have hMo' : ∀ b, Mo ob' om' b → Mo ob1 om1 b ∨ ∃ o x t q, look σ.ob o = some x ∧ om o = some (t, some q) ∧ q.b = b ∧ o ∉ L ∧ o ∉ rd2 := by
    rintro b ⟨o, x, t, q, h1, h2, h3⟩
    rcases hlk o x h1 with ⟨i, y, pl, k1, k2, k3, k4, k5⟩ | ⟨k1, k2, k3⟩
    · rw [h2] at k5
      simp only [Option.some.injEq, Prod.mk.injEq] at k5
      obtain ⟨e1, e2⟩ := k5
      subst e1; subst e2
      exact .inl ⟨i, y, _, q, k1, k4, h3⟩
    · obtain ⟨pl, hpl⟩ := om_look h k1
      have := hkeep _ _ hpl
      rw [h2] at this
      simp only [Option.some.injEq, Prod.mk.injEq] at this
      obtain ⟨e1, e2⟩ := this
      subst e1; subst e2
      exact .inr ⟨o, x, _, q, k1, hpl, h3, k2, k3⟩
  have hM0 : ∀ b (y : Obj), ¬ Mb σ.ob om b → w.heap[b]? = some y → ¬ Mb ob' om' b ∧ w1.heap[b]? = some y := by
    intro b y h1 h2
    have hbl := (Array.getElem?_eq_some_iff.1 h2).1
    have hnX : ¬ Mo (enumO 0 obs) (omC om σ L rd) b := fun k => h1 (.inr (hX b k).2)
    refine ⟨?_, by rw [hp.below.block b hbl hnX]; exact h2⟩
    rintro (k | k)
    · exact h1 (.inl k)
    · rcases hMo' b k with k | ⟨o, x, t, q, k1, k2, k3, _⟩
      · rcases hMo1 b k with k | k
        · omega
        · exact hnX k
      · exact h1 (.inr ⟨o, x, t, q, k1, k2, k3⟩)
  have hcv : ∀ {s : SV} {t : Ty} {cs : List Value}, CV w1 om1 (Mb ob1 om1) t s cs → (rd2 = rd ∨ flatSV s = true) → CV w1 om' (Mb ob' om') t (renB (nam L σ.nx) s) cs := by
    intro s t cs hs hf
    rcases hf with hf | hf
    · refine CV.ren ?_ (fun o _ => hnam o) hs
      intro b y h1 h2
      refine ⟨?_, h2⟩
      rintro (k | k)
      · exact h1 (.inl (by rw [hp.hF]; exact .inl k))
      · rcases hMo' b k with k | ⟨o, x, t, q, k1, k2, k3, k4, k5⟩
        · exact h1 (.inr k)
        · refine h1 (.inl ?_)
          rw [hp.hF]
          refine .inr ⟨o, x, t, q, ?_, k2, k3⟩
          rw [look_dels, if_neg (by rw [← hf]; exact k5), look_dels, if_neg k4]
          exact k1
    · exact CV.ren (M := fun _ => True) (fun b y h1 _ => absurd trivial h1) (fun o _ => hnam o) (CV.toFlat hf hs)
  have hflat : ∀ {o : Nat} {x : Ob}, look ob1 o = some x → rd2 = rd ∨ flatSV x.c = true := fun {o x} hx => hrd.imp id (fun k => flatOb_ok k.2.2 o x hx)
  have hblk : ∀ k, k < w0.heap.size → ¬ w0.X k → w1.heap[k]? = w.heap[k]? := by
    intro k hk hx
    refine hp.below.block k (by have := h.below.size; omega) (fun hc => ?_)
    exact (hX k hc).1.ne hk hx rfl
  refine ⟨om', ?_, ?_⟩
  · refine ⟨⟨hp.below.os.trans h.below.os, hp.below.tape.trans h.below.tape, hp.below.output.trans h.below.output, Nat.le_trans h.below.size hp.below.size, fun k hk hx => (hblk k hk hx).trans (h.below.block k hk hx)⟩, h.hF, h.defers, h.nt, ?_, ?_, ?_, ?_, fun o y hy => hkeep o y (h.keep o y hy)⟩
    · exact fun t v hv => (h.tm t v hv).mono hM0 hkeep
    · intro o x hx
      rcases hlk o x hx with ⟨i, y, pl, k1, k2, k3, k4, k5⟩ | ⟨k1, k2, k3⟩
      · obtain ⟨pl', m1, m2⟩ := hp.objs i y k1
        rw [k4] at m1
        cases m1
        subst k3
        refine ⟨pl, k5, ?_⟩
        cases pl with
        | none => exact ⟨m2.1, hcv m2.2 (hflat k1)⟩
        | some q =>
          obtain ⟨m3, c, el, fr, m4, m5, m6, m7⟩ := m2
          refine ⟨?_, c, el, fr, m4, m5, m6, hcv m7 (hflat k1)⟩
          rcases m3 with m3 | m3
          · exact .inl (Nat.le_trans h.below.size m3)
          · exact (hX _ m3).1
      · obtain ⟨pl, m1, m2⟩ := h.ob o x k1
        refine ⟨pl, hkeep _ _ m1, ?_⟩
        cases pl with
        | none => exact ⟨m2.1, m2.2.mono hM0 hkeep⟩
        | some q =>
          obtain ⟨m3, c, el, fr, m4, m5, m6, m7⟩ := m2
          have hbl := (Array.getElem?_eq_some_iff.1 m4).1
          have hnX : ¬ Mo (enumO 0 obs) (omC om σ L rd) q.b := by
            intro hc
            obtain ⟨o', x', t', q', hmL, g1, g2, g3⟩ := (moC_iff ho q.b).1 hc
            have := h.apart _ _ _ _ _ _ _ _ k1 g1 m1 g2 g3.symm
            subst this
            exact k2 hmL
          exact ⟨m3, c, el, fr, by rw [hp.below.block _ hbl hnX]; exact m4, m5, m6, m7.mono hM0 hkeep⟩
    · intro o o' x x' t t' q q' h1 h2 h3 h4 h5
      have old : ∀ {o : Nat} {x : Ob} {t : Ty} {q : Pl}, look σ.ob o = some x → o ∉ L → om' o = some (t, some q) → om o = some (t, some q) ∧ q.b < w.heap.size ∧ ¬ Mo (enumO 0 obs) (omC om σ L rd) q.b := by
        intro o x t q k1 k2 k3
        obtain ⟨pl, hpl⟩ := om_look h k1
        have := hkeep _ _ hpl
        rw [k3] at this
        cases this
        refine ⟨hpl, (Mo.lt h.ob ⟨o, x, _, q, k1, hpl, rfl⟩).2, ?_⟩
        intro hc
        obtain ⟨o', x', t', q', hmL, g1, g2, g3⟩ := (moC_iff ho q.b).1 hc
        have := h.apart _ _ _ _ _ _ _ _ k1 g1 hpl g2 g3.symm
        subst this
        exact k2 hmL
      have new : ∀ {o : Nat} {i : Nat} {y : Ob} {pl : Option Pl} {t : Ty} {q : Pl}, look ob1 i = some y → om1 i = some (y.t, pl) → om' o = some (y.t, pl) → om' o = some (t, some q) → om1 i = some (t, some q) ∧ (w.heap.size ≤ q.b ∨ Mo (enumO 0 obs) (omC om σ L rd) q.b) := by
        intro o i y pl t q k1 k2 k3 k4
        rw [k3] at k4
        cases k4
        exact ⟨k2, hMo1 _ ⟨i, y, _, q, k1, k2, rfl⟩⟩
      rcases hlk o x h1 with ⟨i, y, pl, k1, k2, k3, k4, k5⟩ | ⟨k1, k2, k3⟩ <;> rcases hlk o' x' h2 with ⟨i', y', pl', k1', k2', k3', k4', k5'⟩ | ⟨k1', k2', k3'⟩
      · obtain ⟨g1, _⟩ := new k1 k4 k5 h3
        obtain ⟨g1', _⟩ := new k1' k4' k5' h4
        have := hp.apart _ _ _ _ _ _ _ _ k1 k1' g1 g1' h5
        rw [k2, k2', this]
      · obtain ⟨_, g2⟩ := new k1 k4 k5 h3
        obtain ⟨_, g2', g3'⟩ := old k1' k2' h4
        rw [h5] at g2
        rcases g2 with g2 | g2
        · omega
        · exact absurd g2 g3'
      · obtain ⟨_, g2⟩ := new k1' k4' k5' h4
        obtain ⟨_, g2', g3'⟩ := old k1 k2 h3
        rw [← h5] at g2
        rcases g2 with g2 | g2
        · omega
        · exact absurd g2 g3'
      · exact h.apart _ _ _ _ _ _ _ _ k1 k1' (old k1 k2 h3).1 (old k1' k2' h4).1 h5
    · intro o hge
      have hge' : σ.nx + (n1 - L.length) ≤ o := hge
      show (if o < σ.nx then om o else om1 (o - σ.nx + L.length)) = none
      rw [if_neg (by omega)]
      exact hp.fresh _ (by omega)
  · obtain ⟨vals, rfl, hlen, hres⟩ := hp.res
    refine tv_ok (by rw [mapS_length]; exact hlen) ?_
    intro i x u hx hu
    rw [mapS_get, Option.map_eq_some_iff] at hx
    obtain ⟨y, hy, rfl⟩ := hx
    obtain ⟨t, k1, k2⟩ := hres i y u hy hu
    exact ⟨t, hcv k1 (hrd.imp id (fun k => flatL_ok k.2.1 i y hy)), k2⟩

/-- A call with lent objects. -/
theorem pCall_sound {o : Oper} {g : FuncId} {ss : List SV} {vs : List Value} {rd L : List Nat} {Q : Exit → Act → World → Prop} {K : St → Prop} (hex : (execOp a.eval o).run P w = (callFunc g vs.toArray).run P w)
    (h : R0 w0 om σ a w) (hd : dstOk o.dst σ.nt) (hlen : ss.length = vs.length) (hargs : ∀ (i : Nat) (x : SV) (v : Value), ss[i]? = some x → vs[i]? = some v → Val1 w om (Mb (dels σ.ob rd) om) x v)
    (hs : pCall P g σ ss rd o.dst K L) : o.wp P a w (After w0 K) Q := by
  unfold pCall at hs
  split at hs
  · rename_i obs hobs
    obtain ⟨hb, ⟨fn, hf, hn, hbody⟩, hrun⟩ := hs
    simp only [Bool.and_eq_true] at hb
    obtain ⟨⟨hnd, hap⟩, hin⟩ := hb
    have hpre := preOk h hobs (nodup1_ok hnd) (apB_ok hap) (inB_ok hin) hlen hargs
    have hent : (callFunc g vs.toArray).run P w = .ok (.enter g vs.toArray) w := by
      have hn' : ¬ fn.name = "runtime.NumGoroutine" := by simpa using hn
      have hb' : ¬ fn.body = none := by intro e; simp [e] at hbody
      simp [callFunc, hf, hn', hb']
    unfold Oper.wp
    rw [hex, hent, Oper.upon_enter]
    refine (hrun w _ vs hpre).mono ?_
    rintro e w1 ⟨v, om1, ob1, n1, rs, rfl, hp, hK⟩
    unfold retP at hK
    by_cases hfl : (flatL rs && flatOb ob1) = true
    · rw [if_pos hfl] at hK
      simp only [Bool.and_eq_true] at hfl
      obtain ⟨om', hR, hv⟩ := adoptP (rd2 := []) h hobs (nodup1_ok hnd) (apB_ok hap) hp (.inr ⟨rfl, hfl⟩)
      exact ⟨_, ⟨om', hR.put o.dst _ _ (fun d e => by rw [e] at hd; exact hd) hv⟩, hK⟩
    · rw [if_neg hfl] at hK
      obtain ⟨om', hR, hv⟩ := adoptP (rd2 := rd) h hobs (nodup1_ok hnd) (apB_ok hap) hp (.inl rfl)
      exact ⟨_, ⟨om', hR.put o.dst _ _ (fun d e => by rw [e] at hd; exact hd) hv⟩, hK⟩
  · exact hs.elim
end
end Go.SE
/- What is handed on to a call; function values. -/
namespace Go.SE
open Go.RowKit (Below)

/-- One argument: slices are data (their rows are read), pointers lend what they lead to; 'raw': slices are lent, too. -/
def pArg (T : Tab) (σ : St) (raw : Bool) (u : TypeId) (s : SV) : Option (SV × List Nat) :=
  if raw = true then some (s, []) else match look T u with
  | some t => match den σ t s with | some d => some (.d t d, refs s) | none => none
  | none => some (s, [])
def pArgs (T : Tab) (σ : St) (raw : Bool) : List Operand → List TypeId → Option (List SV × List Nat)
  | [], _ => some ([], [])
  | x :: xs, u :: us => match ev1 σ x with
    | some s => match pArg T σ raw u s with
      | some (s', r) => match pArgs T σ raw xs us with
        | some (ss, rd) => some (s' :: ss, app r rd)
        | none => none
      | none => none
    | none => none
  | _ :: _, [] => none
/-- Functions whose arguments are data. -/
def allT (T : Tab) : List TypeId → Bool
  | [] => true
  | u :: us => match look T u with | some _ => allT T us | none => false
def growF (T : Tab) (f : FuncId) (us : List TypeId) : Bool := if mem1 f mutTab then false else allT T us

/-- What a function value holds: one cell each. -/
def oneSV : SV → Bool
  | .d t _ => !t.agg
  | .anil | .acons _ _ => false
  | _ => true
def sHeld (σ : St) : List Operand → Option SV
  | [] => some .anil
  | x :: xs => match ev1 σ x with
    | some s => if oneSV s = true then (match sHeld σ xs with | some r => some (.acons s r) | none => none) else none
    | none => none
def svL : SV → List SV
  | .acons a b => a :: svL b
  | _ => []
def isRow : SV → Bool
  | .acons _ b => isRow b
  | .anil => true
  | _ => false

section
variable {P : Program} {w0 : Base} {om : Om} {σ : St} {a : Act} {w : World}

theorem pArgs_ok {T : Tab} {raw : Bool} (h : R0 w0 om σ a w) {rf : List Nat} (hrf : ∀ o ∈ rf, ∃ ob, look σ.ob o = some ob) : ∀ {xs : List Operand} {us : List TypeId} {ss : List SV} {rd : List Nat}, pArgs T σ raw xs us = some (ss, rd) → (∀ o ∈ rd, o ∈ rf) →
    ss.length = xs.length ∧ ∀ (i : Nat) (x : SV) (v : Value), ss[i]? = some x → (xs.map a.eval)[i]? = some v → Val1 w om (Mb (dels σ.ob rf) om) x v
  | [], _, ss, rd, hs, _ => by
    simp only [pArgs, Option.some.injEq, Prod.mk.injEq] at hs
    obtain ⟨rfl, _⟩ := hs
    exact ⟨rfl, fun i x v hx => by simp at hx⟩
  | x :: xs, u :: us, ss, rd, hs, hr => by
    simp only [pArgs] at hs
    split at hs
    · rename_i s hx
      split at hs
      · rename_i s' r hp
        split at hs
        · rename_i ss' rd' hps
          simp only [Option.some.injEq, Prod.mk.injEq] at hs
          obtain ⟨rfl, rfl⟩ := hs
          obtain ⟨h1, h2⟩ := pArgs_ok h hrf hps (fun o ho => hr o (by simp [app_eq, ho]))
          refine ⟨by simp [h1], ?_⟩
          intro i y v hy hv
          cases i with
          | succ i => exact h2 i y v (by simpa using hy) (by simpa using hv)
          | zero =>
            simp only [List.getElem?_cons_zero, Option.some.injEq, List.map_cons] at hy hv
            subst hy; subst hv
            have hraw : Val1 w om (Mb (dels σ.ob rf) om) s (a.eval x) := Val1.mono (fun b o hb ho => ⟨fun hc => hb (Mb_dels hc), ho⟩) (fun _ _ k => k) (h.ev1 hx)
            unfold pArg at hp
            split at hp
            · simp only [Option.some.injEq, Prod.mk.injEq] at hp
              obtain ⟨rfl, _⟩ := hp
              exact hraw
            · split at hp
              · rename_i t ht
                split at hp
                · rename_i d hd
                  simp only [Option.some.injEq, Prod.mk.injEq] at hp
                  obtain ⟨rfl, rfl⟩ := hp
                  have hl : sArgs T σ [x] [u] = some [(t, d)] := by simp [sArgs, hx, ht, hd]
                  have := sArgs_ok h hrf hl (fun o ho => hr o (by simp only [aRefs, hx, List.append_nil] at ho; simp [app_eq, ho]))
                  exact Val1.of this.1
                · cases hp
              · simp only [Option.some.injEq, Prod.mk.injEq] at hp
                obtain ⟨rfl, _⟩ := hp
                exact hraw
        · cases hs
      · cases hs
    · cases hs
  | _ :: _, [], _, _, hs, _ => by simp [pArgs] at hs

theorem pArgs_refs {T : Tab} {raw : Bool} : ∀ {xs : List Operand} {us : List TypeId} {ss : List SV} {rd : List Nat}, pArgs T σ raw xs us = some (ss, rd) → ∀ o ∈ rd, ∃ ob, look σ.ob o = some ob
  | [], _, ss, rd, hs, o, ho => by
    simp only [pArgs, Option.some.injEq, Prod.mk.injEq] at hs
    obtain ⟨_, rfl⟩ := hs
    cases ho
  | x :: xs, u :: us, ss, rd, hs, o, ho => by
    simp only [pArgs] at hs
    split at hs
    · rename_i s hx
      split at hs
      · rename_i s' r hp
        split at hs
        · rename_i ss' rd' hps
          simp only [Option.some.injEq, Prod.mk.injEq] at hs
          obtain ⟨rfl, rfl⟩ := hs
          rw [app_eq, List.mem_append] at ho
          rcases ho with ho | ho
          · unfold pArg at hp
            split at hp
            · simp only [Option.some.injEq, Prod.mk.injEq] at hp
              obtain ⟨_, rfl⟩ := hp
              cases ho
            · split at hp
              · split at hp
                · rename_i d hd
                  simp only [Option.some.injEq, Prod.mk.injEq] at hp
                  obtain ⟨_, rfl⟩ := hp
                  exact den_refs hd o ho
                · cases hp
              · simp only [Option.some.injEq, Prod.mk.injEq] at hp
                obtain ⟨_, rfl⟩ := hp
                cases ho
          · exact pArgs_refs hps o ho
        · cases hs
      · cases hs
    · cases hs
  | _ :: _, [], _, _, hs, _, _ => by simp [pArgs] at hs

theorem sHeld_ok (h : R0 w0 om σ a w) : ∀ {xs : List Operand} {s : SV}, sHeld σ xs = some s → isRow s = true ∧ ∃ t : Ty, t.ones = true ∧ CV w om (Mb σ.ob om) t s (xs.map a.eval)
  | [], s, hs => by
    simp only [sHeld, Option.some.injEq] at hs
    subst hs
    exact ⟨rfl, .nil, rfl, rfl, rfl⟩
  | x :: xs, s, hs => by
    simp only [sHeld] at hs
    split at hs
    · rename_i y hx
      split at hs
      · rename_i hone
        split at hs
        · rename_i r hr
          simp only [Option.some.injEq] at hs
          subst hs
          obtain ⟨h0, t, h1, h2⟩ := sHeld_ok h hr
          obtain ⟨t', hcv, ha⟩ := h.ev1 hx
          have hag : t'.agg = false := by
            cases y with
            | d u z => obtain ⟨rfl, _⟩ := hcv; simpa [oneSV] using hone
            | nil => obtain ⟨⟨e, rfl⟩, _⟩ := hcv; rfl
            | ref _ _ _ _ => obtain ⟨_, _, rfl, _⟩ := hcv; rfl
            | ptr _ _ => obtain ⟨_, rfl, _⟩ := hcv; rfl
            | vp _ _ => obtain ⟨rfl, _⟩ := hcv; rfl
            | fnv _ _ _ => obtain ⟨rfl, _⟩ := hcv; rfl
            | anil => simp [oneSV] at hone
            | acons _ _ => simp [oneSV] at hone
          have hsz := one_of_notAgg hag
          have hv : (a.eval x).cells.toList = [a.eval x] := by
            rw [hag] at ha
            cases hval : a.eval x <;> rw [hval] at ha <;> simp_all [vAgg, Value.cells]
          rw [hv] at hcv
          refine ⟨h0, .cons t' t, by simp [Ty.ones, hag, h1], t', t, rfl, ?_, ?_⟩
          · rw [hsz]; simpa using hcv
          · rw [hsz]; simpa using h2
        · cases hs
      · cases hs
    · cases hs

/-- The values of a row that a function value holds. -/
theorem row_vals {M : Nat → Prop} : ∀ {s : SV} {t : Ty} {vs : List Value}, t.ones = true → isRow s = true → CV w om M t s vs → (svL s).length = vs.length ∧ ∀ (i : Nat) (x : SV) (v : Value), (svL s)[i]? = some x → vs[i]? = some v → Val1 w om M x v
  | .anil, t, vs, ho, _, h => by
    obtain ⟨rfl, rfl⟩ := h
    exact ⟨rfl, fun i x v hx => by simp [svL] at hx⟩
  | .acons x y, t, vs, ho, hi, h => by
    obtain ⟨ta, tb, rfl, h1, h2⟩ := h
    simp only [Ty.ones, Bool.and_eq_true, Bool.not_eq_true'] at ho
    have hsz := one_of_notAgg ho.1
    rw [hsz] at h1 h2
    have hl := h1.length
    rw [hsz] at hl
    match vs, hl with
    | v :: vs, _ =>
      simp only [List.take_succ_cons, List.take_zero, List.drop_succ_cons, List.drop_zero] at h1 h2
      obtain ⟨k1, k2⟩ := row_vals (s := y) ho.2 hi h2
      refine ⟨by simp [svL, k1], ?_⟩
      intro i z u hz hu
      cases i with
      | succ i => exact k2 i z u (by simpa [svL] using hz) (by simpa using hu)
      | zero =>
        simp only [svL, List.getElem?_cons_zero, Option.some.injEq] at hz hu
        subst hz; subst hu
        have hc := h1.one v (by simp)
        exact ⟨ta, by rw [cells_of_one hc]; exact h1, by rw [isAgg_of_one hc, ho.1]⟩
  | .d _ _, _, _, _, hi, _ | .nil, _, _, _, hi, _ | .ref _ _ _ _, _, _, _, hi, _ | .ptr _ _, _, _, _, hi, _ | .vp _ _, _, _, _, hi, _ | .fnv _ _ _, _, _, _, hi, _ => by simp [isRow] at hi
end
end Go.SE
/- Code: operations in a row, branches, blocks, calls, returns. -/
namespace Go.SE
open Go.RowKit (Below)

section
variable {P : Program} {w0 : Base} {om : Om} {σ : St} {a : Act} {w : World}

theorem RVok.flat {B : Nat} {N N' : Nat → Prop} {r : RV} {v : Value} {b : Option Pl} (hf : r.flat = true) (h : RVok B w N r v b) : RVok B w N' r v b := by
  cases r with
  | d t x => cases b with
    | none => exact ⟨Rd.ofFlat hf h.1, h.2⟩
    | some q => exact h.elim
  | own e ds => cases b with
    | none => exact h
    | some q =>
      obtain ⟨h1, h2, h3, c, el, fr, h4, h5, h6, h7⟩ := h
      exact ⟨h1, h2, h3, c, el, fr, h4, h5, h6, ReadL.mono (fun _ _ k => Rd.ofFlat hf k) h7⟩

theorem sCall_grow {T : Tab} {o : Oper} {f : FuncId} {xs : Array Operand} {us : Array TypeId} {Q : Exit → Act → World → Prop} {K : St → Prop} {l : List (Ty × D)} (ho : o.op = .call { callee := .value (.func f), args := xs, argTypes := us }) (h : R0 w0 om σ a w) (hd : dstOk o.dst σ.nt)
    (ha : sArgs T σ xs.toList us.toList = some l) (hs : SCall P f l (fun rs => K (retSt σ (aRefs σ xs.toList) rs o.dst))) : o.wp P a w (fun a' w' => Below w.heap.size w w' ∧ After w0 K a' w') Q := by
  have hrl := aRefs_look (σ := σ) ha
  have hargs := sArgs_ok h (rf := aRefs σ xs.toList) hrl ha (fun o ho => ho)
  have fin : ∀ {w1 : World} {vals : List Value} {bs : List (Option Pl)} {rs : List RV} {σ1 : St} (_ : Below w.heap.size w w1) (_ : vals.length = rs.length) (_ : bs.length = rs.length) (_ : ∀ (i j : Nat) (q q' : Pl), bs[i]? = some (some q) → bs[j]? = some (some q') → q.b = q'.b → i = j) (_ : R0 w0 om σ1 a w) (_ : σ1.nt = σ.nt)
      (_ : ∀ (i : Nat) (r : RV) (v : Value) (b : Option Pl), rs[i]? = some r → vals[i]? = some v → bs[i]? = some b → RVok w.heap.size w1 (fun g => Mb σ1.ob om g ∨ OwnB bs g) r v b)
      (_ : K ({ σ1 with ob := app (newObs σ1.nx rs) σ1.ob, nx := σ1.nx + rs.length }.put o.dst (tvOf (newSVs σ1.nx rs)))), After w0 K (a.put o.dst (tupV vals)) w1 := by
    intro w1 vals bs rs σ1 hB hl1 hl2 hdis h1 hnt hrv' hK
    obtain ⟨om', hR, hvals⟩ := h1.adopt hB hl1 hl2 hrv' hdis
    refine ⟨_, ⟨om', hR.put o.dst _ _ (fun d e => ?_) (tv_ok (by rw [newSVs_length, hl1]) hvals)⟩, hK⟩
    rw [e] at hd
    show d < σ1.nt
    rw [hnt]; exact hd
  rcases hs with hs | ⟨rs, hK, hfl, hisd, hs⟩
  rotate_left
  · obtain ⟨vals, hrun, hl, hrv⟩ := hs w _ (xs.toList.map a.eval) hargs
    have hex : (execOp a.eval o).run P w = .ok (.value (tupV vals)) w := by
      rw [← Array.toList_map, Array.toArray_toList] at hrun
      simp [execOp, ho, resolve, Deferred.ofValue, Act.eval, invoke, hrun]
    unfold Oper.wp
    rw [hex, Oper.upon_value]
    refine ⟨Below.refl _ _, ?_⟩
    unfold retSt at hK
    rw [if_pos hfl] at hK
    refine fin (bs := List.replicate rs.length none) (Below.refl _ _) hl (by simp) (fun i j q q' h1 _ _ => ?_) h rfl (fun i r v b hr hv hb => ?_) hK
    · rw [List.getElem?_replicate] at h1; split at h1 <;> simp at h1
    · have hbn : b = none := by
        rw [List.getElem?_replicate] at hb; split at hb <;> simp_all
      subst hbn
      have h1 := hrv i r v hr hv
      have h2 := List.all_eq_true.1 hfl r (List.mem_of_getElem? hr)
      have h3 := List.all_eq_true.1 hisd r (List.mem_of_getElem? hr)
      cases r with
      | d t x => exact RVok.flat h2 h1
      | own e ds => simp [RV.isD] at h3
  obtain ⟨⟨fn, hf, hn, hb⟩, hs⟩ := hs
  have hex : (execOp a.eval o).run P w = .ok (.enter f (xs.map a.eval)) w := by
    have hn' : ¬ fn.name = "runtime.NumGoroutine" := by simpa using hn
    have hb' : ¬ fn.body = none := by intro e; simp [e] at hb
    simp [execOp, ho, resolve, Deferred.ofValue, Act.eval, invoke, callFunc, hf, hn', hb']
  have hF : ∀ b, Mb (dels σ.ob (aRefs σ xs.toList)) om b → b < w.heap.size := by
    rintro b (hb | hb)
    · have := w0.low b (by rw [← h.hF]; exact hb)
      have := h.below.size
      omega
    · exact (Mo.lt h.ob (Mo_dels hb)).2
  unfold Oper.wp
  rw [hex, Oper.upon_enter]
  have hc := hs w _ (xs.toList.map a.eval) hF (h.dels _ _ h).glob hargs
  rw [← Array.toList_map, Array.toArray_toList] at hc
  refine hc.mono ?_
  rintro e w1 ⟨v, rs, rfl, hB, ⟨vals, bs, rfl, hl1, hl2, hrv, hdis⟩, hK⟩
  refine ⟨hB, ?_⟩
  unfold retSt at hK
  by_cases hfl : rs.all RV.flat = true
  · rw [if_pos hfl] at hK
    refine fin hB hl1 hl2 hdis h rfl (fun i r v b hr hv hb => ?_) hK
    exact RVok.flat (List.all_eq_true.1 hfl r (List.mem_of_getElem? hr)) (hrv i r v b hr hv hb)
  · rw [if_neg hfl] at hK
    exact fin hB hl1 hl2 hdis (h.dels _ _ h) rfl hrv hK

theorem sCall_sound {T : Tab} {o : Oper} {f : FuncId} {xs : Array Operand} {us : Array TypeId} {Q : Exit → Act → World → Prop} {K : St → Prop} {l : List (Ty × D)} (ho : o.op = .call { callee := .value (.func f), args := xs, argTypes := us }) (h : R0 w0 om σ a w) (hd : dstOk o.dst σ.nt)
    (ha : sArgs T σ xs.toList us.toList = some l) (hs : SCall P f l (fun rs => K (retSt σ (aRefs σ xs.toList) rs o.dst))) : o.wp P a w (After w0 K) Q :=
  Oper.wp_mono (fun _ _ h => h.2) (sCall_grow ho h hd ha hs)

/-! one operation -/

def tyIf (T : Tab) (t : Ty) (u : TypeId) : Prop :=
  match t with
  | .int _ | .str => True
  | t => look T u = some t

/-- A call of a function by its name. -/
def sCallF (P : Program) (T : Tab) (f : FuncId) (xs : List Operand) (us : List TypeId) (σ : St) (dst : Option Nat) (K : St → Prop) : Prop :=
  if growF T f us = true then (match sArgs T σ xs us with
    | some l => SCall P f l (fun rs => K (retSt σ (aRefs σ xs) rs dst))
    | none => False)
  else match pArgs T σ (mem1 f mutTab) xs us with
    | some (ss, rd) => pCall P f σ ss rd dst K (reach σ.ob 64 (namesL ss) [])
    | none => False
/-- A call of a function value. -/
def sCallV (P : Program) (T : Tab) (t : Nat) (xs : List Operand) (us : List TypeId) (σ : St) (dst : Option Nat) (K : St → Prop) : Prop :=
  match look σ.tm t with
  | some (.v (.fnv f A B)) => (isRow A && isRow B) = true ∧ (match pArgs T σ (mem1 f mutTab) xs us with
    | some (ss, rd) => pCall P f σ (app (svL A) (app ss (svL B))) rd dst K (reach σ.ob 64 (namesL (app (svL A) (app ss (svL B)))) [])
    | none => False)
  | _ => False

theorem sCallF_sound {T : Tab} {o : Oper} {f : FuncId} {xs : Array Operand} {us : Array TypeId} {Q : Exit → Act → World → Prop} {K : St → Prop} (ho : o.op = .call { callee := .value (.func f), args := xs, argTypes := us }) (h : R0 w0 om σ a w) (hd : dstOk o.dst σ.nt)
    (hs : sCallF P T f xs.toList us.toList σ o.dst K) : o.wp P a w (After w0 K) Q := by
  unfold sCallF at hs
  split at hs
  · split at hs
    · rename_i l ha; exact sCall_sound ho h hd ha hs
    · exact hs.elim
  · split at hs
    · rename_i ss rd hp
      have hrf := pArgs_refs hp
      obtain ⟨h1, h2⟩ := pArgs_ok h hrf hp (fun o ho => ho)
      refine pCall_sound (vs := xs.toList.map a.eval) ?_ h hd (by simpa using h1) h2 hs
      rw [← Array.toList_map, Array.toArray_toList]
      simp [execOp, ho, resolve, Deferred.ofValue, Act.eval, invoke]
    · exact hs.elim

theorem sCallV_sound {T : Tab} {o : Oper} {t : Nat} {xs : Array Operand} {us : Array TypeId} {Q : Exit → Act → World → Prop} {K : St → Prop} (ho : o.op = .call { callee := .value (.tmp t), args := xs, argTypes := us }) (h : R0 w0 om σ a w) (hd : dstOk o.dst σ.nt)
    (hs : sCallV P T t xs.toList us.toList σ o.dst K) : o.wp P a w (After w0 K) Q := by
  unfold sCallV at hs
  split at hs
  · rename_i f A B hl
    obtain ⟨hrow, hs⟩ := hs
    simp only [Bool.and_eq_true] at hrow
    split at hs
    · rename_i ss rd hp
      have hrf := pArgs_refs hp
      obtain ⟨h1, h2⟩ := pArgs_ok h hrf hp (fun o ho => ho)
      obtain ⟨tt, ⟨htt, vs, us', ta, tb, hc, oa, ob, ka, kb⟩, hag⟩ := (h.tm t _ hl : Val1 _ _ _ _ _)
      rw [htt] at hag
      have hv : a.tmps.getD t undef = .func (.func f) vs.toArray us'.toArray := by
        generalize a.tmps.getD t undef = v at hc hag
        cases v <;> simp_all [Value.cells, vAgg, Ty.agg]
      have hM : ∀ b (x : Obj), ¬ Mb σ.ob om b → w.heap[b]? = some x → ¬ Mb (dels σ.ob rd) om b ∧ w.heap[b]? = some x := fun b x hb hx => ⟨fun k => hb (Mb_dels k), hx⟩
      obtain ⟨ra1, ra2⟩ := row_vals oa hrow.1 (ka.mono hM (fun _ _ k => k))
      obtain ⟨rb1, rb2⟩ := row_vals ob hrow.2 (kb.mono hM (fun _ _ k => k))
      refine pCall_sound (vs := vs ++ (xs.toList.map a.eval ++ us')) ?_ h hd ?_ ?_ hs
      · have hx : (vs ++ (xs.toList.map a.eval ++ us')).toArray = (vs.toArray ++ xs.map a.eval) ++ us'.toArray := by
          apply Array.toList_inj.1; simp
        rw [hx]
        simp [execOp, ho, resolve, Deferred.ofValue, Act.eval, hv, invoke]
      · simp only [app_eq, List.length_append, List.length_map]
        rw [ra1, rb1, h1]
      · intro i x v hx hv
        rw [app_eq, app_eq] at hx
        rcases Nat.lt_or_ge i vs.length with hi | hi
        · rw [List.getElem?_append_left (by omega)] at hx hv
          exact ra2 i x v hx hv
        · rw [List.getElem?_append_right (by omega)] at hx hv
          rw [ra1] at hx
          rcases Nat.lt_or_ge (i - vs.length) xs.toList.length with hj | hj
          · rw [List.getElem?_append_left (by omega)] at hx
            rw [List.getElem?_append_left (by simpa using hj)] at hv
            exact h2 _ x v hx hv
          · rw [List.getElem?_append_right (by omega)] at hx
            rw [List.getElem?_append_right (by simpa using hj)] at hv
            rw [h1] at hx
            simp only [List.length_map] at hv
            exact rb2 _ x v hx hv
    · exact hs.elim
  · exact hs.elim

def sOp (P : Program) (T : Tab) (o : Oper) (σ : St) (K : St → Prop) : Prop :=
  dstOk o.dst σ.nt ∧
  match o.op with
  | .move x | .assign x => match ev σ x with | some v => K (σ.put o.dst v) | none => False
  | .binOp op xT x y _ => match ev1 σ x, ev1 σ y with
    | some (.d t dx), some (.d t' dy) => tyIf T t xT ∧ sBin op t dx t' dy (fun s => K (σ.put o.dst (.v s)))
    | _, _ => False
  | .unOp op _ x => match ev1 σ x with | some (.d t dx) => sUn op t dx (fun s => K (σ.put o.dst (.v s))) | _ => False
  | .convert u d x => match ev1 σ x with | some s => sConv T u d s σ (fun σ s => K (σ.put o.dst (.v s))) | none => False
  | .pick c x y => match ev1 σ c with
    | some (.d .bool b) => sIf b.bool (match ev σ x with | some v => K (σ.put o.dst v) | none => False) (match ev σ y with | some v => K (σ.put o.dst v) | none => False)
    | _ => False
  | .alloc u => sAlloc T u σ (fun σ s => K (σ.put o.dst (.v s)))
  | .box u x => match ev1 σ x with | some s => sBox T u s σ (fun σ s => K (σ.put o.dst (.v s))) | none => False
  | .build t parts => sBuild T t parts.toList σ (fun s => K (σ.put o.dst (.v s)))
  | .buildSlice t n parts => sBuildS T t n parts.toList σ (fun σ s => K (σ.put o.dst (.v s)))
  | .load u x => match ev1 σ x with | some s => sLoad T u s σ (fun s => K (σ.put o.dst (.v s))) | none => False
  | .store u x y => match ev1 σ x, ev1 σ y with | some s, some r => sStore T u s r σ (fun σ => K (σ.put o.dst .u)) | _, _ => False
  | .nilCheck x => match ev1 σ x with
    | some (.ptr b p) => (look σ.ob b).isSome = true ∧ K (σ.put o.dst (.v (.ptr b p)))
    | some (.vp t y) => K (σ.put o.dst (.v (.vp t y)))
    | _ => False
  | .sliceToArrayPointer d x => match ev1 σ x with | some s => sArr T d s σ (fun s => K (σ.put o.dst (.v s))) | none => False
  | .makeSlice t x y => match ev1 σ x, ev1 σ y with
    | some (.d (.int _) l), some (.d (.int _) c) => sMake T t l c σ (fun σ s => K (σ.put o.dst (.v s)))
    | _, _ => False
  | .slice u x lo hi none => match ev1 σ x, opInt σ lo, opInt σ hi with
    | some s, some l, some h => sSlice T u s l h σ (fun s => K (σ.put o.dst (.v s)))
    | _, _, _ => False
  | .fieldAddr u x i => match ev1 σ x with | some s => sFieldAddr T u s i σ (fun s => K (σ.put o.dst (.v s))) | none => False
  | .field u x i => match ev1 σ x with | some s => sField T u s i σ (fun s => K (σ.put o.dst (.v s))) | none => False
  | .indexAddr u x y => match ev1 σ x, ev1 σ y with | some s, some (.d (.int _) i) => sIndexAddr T u s i σ (fun s => K (σ.put o.dst (.v s))) | _, _ => False
  | .index u x y => match ev1 σ x, ev1 σ y with | some s, some (.d (.int _) i) => sIndex T u s i (fun s => K (σ.put o.dst (.v s))) | _, _ => False
  | .extract x i => sExtract (ev σ x) i (fun s => K (σ.put o.dst (.v s)))
  | .call { callee := .builtin .len, args := ⟨[x]⟩, argTypes := ⟨[u]⟩ } => match ev1 σ x with | some s => sLen T u s (fun s => K (σ.put o.dst (.v s))) | none => False
  | .call { callee := .builtin .append, args := ⟨[x, y]⟩, argTypes := ⟨[t, u]⟩ } => match ev1 σ x, ev1 σ y with | some s, some r => sAppend T t u s r σ (fun σ s => K (σ.put o.dst (.v s))) | _, _ => False
  | .call { callee := .builtin .copy, args := ⟨[x, y]⟩, argTypes := ⟨[t, u]⟩ } => match ev1 σ x, ev1 σ y with | some s, some r => sCopy T t u s r σ (fun σ s => K (σ.put o.dst (.v s))) | _, _ => False
  | .call { callee := .builtin .min, args := ⟨[x, y]⟩, argTypes := _ } => match ev1 σ x, ev1 σ y with
    | some (.d (.int k) l), some (.d (.int _) c) => K (σ.put o.dst (.v (.d (.int k) (.n (if c.int < l.int then c.int else l.int)))))
    | _, _ => False
  | .call { callee := .builtin .max, args := ⟨[x, y]⟩, argTypes := _ } => match ev1 σ x, ev1 σ y with
    | some (.d (.int k) l), some (.d (.int _) c) => K (σ.put o.dst (.v (.d (.int k) (.n (if l.int < c.int then c.int else l.int)))))
    | _, _ => False
  | .call { callee := .value (.func f), args := xs, argTypes := us } => sCallF P T f xs.toList us.toList σ o.dst K
  | .call { callee := .value (.tmp t), args := xs, argTypes := us } => sCallV P T t xs.toList us.toList σ o.dst K
  | .makeFunc (.func f) x y => match sHeld σ x.toList, sHeld σ y.toList with
    | some A, some B => K (σ.put o.dst (.v (.fnv f A B)))
    | _, _ => False
  | _ => False

@[congr] theorem sOp_congr {P : Program} {T : Tab} {o : Oper} {σ σ' : St} {K : St → Prop} (h : σ = σ') : sOp P T o σ K = sOp P T o σ' K := by rw [h]

theorem sOp_sound {T : Tab} (hT : T.Ok P) {o : Oper} {Q : Exit → Act → World → Prop} {K : St → Prop} (h : R w0 σ a w) (hs : sOp P T o σ K) : o.wp P a w (After w0 K) Q := by
  obtain ⟨om, h⟩ := h
  obtain ⟨hd, hs⟩ := hs
  split at hs
  · rename_i x ho
    split at hs
    · rename_i v hv; exact (wp_move (.inl ho) h hd hv hs).wp
    · exact hs.elim
  · rename_i x ho
    split at hs
    · rename_i v hv; exact (wp_move (.inr ho) h hd hv hs).wp
    · exact hs.elim
  · rename_i op xT x y yT ho
    split at hs
    · rename_i t dx t' dy hx hy
      refine (sBin_sound ho h hd hx hy (fun ht => ?_) hs.2).wp
      have h1 := hs.1
      cases t <;> simp [Ty.agg] at ht <;> exact (hT _ _ h1).1
    · exact hs.elim
  · rename_i op xT x ho
    split at hs
    · rename_i t dx hx; exact (sUn_sound ho h hd hx hs).wp
    · exact hs.elim
  · rename_i u d x ho
    split at hs
    · rename_i s hx; exact sConv_sound hT ho h hd hx hs
    · exact hs.elim
  · rename_i c x y ho
    split at hs
    · rename_i b hc; exact (sPick_sound ho h hd hc hs).wp
    · exact hs.elim
  · rename_i u ho; exact sAlloc_sound hT ho h hd hs
  · rename_i u x ho
    split at hs
    · rename_i s hx; exact sBox_sound ho h hd hx hs
    · exact hs.elim
  · rename_i t parts ho; exact sBuild_sound hT ho h hd hs
  · rename_i t n parts ho; exact sBuildS_sound hT ho h hd hs
  · rename_i u x ho
    split at hs
    · rename_i s hx; exact (sLoad_sound hT ho h hd hx hs).wp
    · exact hs.elim
  · rename_i u x y ho
    split at hs
    · rename_i s r hx hy; exact sStore_sound hT ho h hd hx hy hs
    · exact hs.elim
  · rename_i x ho
    split at hs
    · rename_i b p hx; exact (sNil_sound (s := .ptr b p) ho h hd hx hs).wp
    · rename_i t y hx; exact (sNil_sound (s := .vp t y) ho h hd hx hs).wp
    · exact hs.elim
  · rename_i d x ho
    split at hs
    · rename_i s hx; exact (sArr_sound hT ho h hd hx hs).wp
    · exact hs.elim
  · rename_i t x y ho
    split at hs
    · rename_i k l k' c hx hy; exact sMake_sound hT ho h hd hx hy hs
    · exact hs.elim
  · rename_i u x lo hi ho
    split at hs
    · rename_i s l r hx hlo hhi; exact (sSlice_sound hT ho h hd hx hlo hhi hs).wp
    · exact hs.elim
  · rename_i u x i ho
    split at hs
    · rename_i s hx; exact (sFieldAddr_sound hT ho h hd hx hs).wp
    · exact hs.elim
  · rename_i u x i ho
    split at hs
    · rename_i s hx; exact (sField_sound hT ho h hd hx hs).wp
    · exact hs.elim
  · rename_i u x y ho
    split at hs
    · rename_i s k i hx hy; exact (sIndexAddr_sound hT ho h hd hx hy hs).wp
    · exact hs.elim
  · rename_i u x y ho
    split at hs
    · rename_i s k i hx hy; exact (sIndex_sound hT ho h hd hx hy hs).wp
    · exact hs.elim
  · rename_i x i ho; exact (sExtract_sound ho h hd hs).wp
  · rename_i x u ho
    split at hs
    · rename_i s hx; exact (sLen_sound hT ho h hd hx hs).wp
    · exact hs.elim
  · rename_i x y t u ho
    split at hs
    · rename_i s r hx hy; exact sAppend_sound hT ho h hd hx hy hs
    · exact hs.elim
  · rename_i x y t u ho
    split at hs
    · rename_i s r hx hy; exact sCopy_sound hT ho h hd hx hy hs
    · exact hs.elim
  · rename_i x y ts ho
    split at hs
    · rename_i k l k' c hx hy; exact (sMin_sound ho h hd hx hy hs).wp
    · exact hs.elim
  · rename_i x y ts ho
    split at hs
    · rename_i k l k' c hx hy; exact (sMax_sound ho h hd hx hy hs).wp
    · exact hs.elim
  · rename_i f xs us ho
    exact sCallF_sound ho h hd hs
  · rename_i t xs us ho
    exact sCallV_sound ho h hd hs
  · rename_i f x y ho
    split at hs
    · rename_i A B hA hB
      obtain ⟨_, ta, h1, h2⟩ := sHeld_ok h hA
      obtain ⟨_, tb, h3, h4⟩ := sHeld_ok h hB
      refine (wp_val h hd (v := .func (.func f) (x.map a.eval) (y.map a.eval)) (x := .v (.fnv f A B)) (fun w' _ => by simp [execOp, ho, Instr.makeFunc]) ?_ hs).wp
      refine ⟨.ptr, ⟨rfl, x.toList.map a.eval, y.toList.map a.eval, ta, tb, ?_, h1, h3, h2, h4⟩, rfl⟩
      simp only [Value.cells]
      rw [← Array.toList_map, ← Array.toList_map, Array.toArray_toList, Array.toArray_toList]
    · exact hs.elim
  · exact hs.elim

end
end Go.SE
/- Code: rows of operations, branches, blocks; a function's contract by its text. -/
namespace Go.SE
open Go.RowKit (Below)

def gdst (ops : Array Oper) (j : Nat) : Option Nat := (ops[j]?).bind (·.dst)
def St.setB (σ : St) (t : Nat) (b : Bool) : St := { σ with tm := (t, .v (.d .bool (.b b))) :: σ.tm }

def sSkip (o : Oper) (σ : St) (K : St → Prop) : Prop := dstOk o.dst σ.nt ∧ K (σ.put o.dst .u)
@[congr] theorem sSkip_congr {o : Oper} {σ σ' : St} {K : St → Prop} (h : σ = σ') : sSkip o σ K = sSkip o σ' K := by rw [h]

def sOps (P : Program) (T : Tab) (ops : Array Oper) : List Oper → St → (St → Prop) → Prop
  | [], σ, K => K σ
  | o :: l, σ, K =>
    match o.guard with
    | none => sOp P T o σ (fun σ => sOps P T ops l σ K)
    | some (j, want) =>
      match gdst ops j with
      | some t => match look σ.tm t with
        | some (.v (.d .bool x)) => sIf x.bool
          (if want then sOp P T o (σ.setB t true) (fun σ => sOps P T ops l σ K) else sSkip o (σ.setB t true) (fun σ => sOps P T ops l σ K))
          (if want then sSkip o (σ.setB t false) (fun σ => sOps P T ops l σ K) else sOp P T o (σ.setB t false) (fun σ => sOps P T ops l σ K))
        | some .u => sSkip o σ (fun σ => sOps P T ops l σ K)
        | _ => False
      | none => False
@[congr] theorem sOps_congr {P : Program} {T : Tab} {ops : Array Oper} {l : List Oper} {σ σ' : St} {K : St → Prop} (h : σ = σ') : sOps P T ops l σ K = sOps P T ops l σ' K := by rw [h]

def conc (w0 : Base) (Q : Exit → St → Prop) : Exit → Act → World → Prop := fun e a w => ∃ σ, R w0 σ a w ∧ Q e σ

/-- Within a loop, at a round's beginning. -/
def LoopAt (P : Program) (c : Code) (Q : Exit → Act → World → Prop) (a : Act) (w : World) : Prop :=
  ∀ (b : Frame) (k : List Item) (cs : List Frame), ∃ e a' w', Q e a' w' ∧ Arrives P (lone (b.at a (.code c :: .inLoop c :: k)) cs w) b k cs e a' w'

theorem loopAt_step {P : Program} {c : Code} {Q : Exit → Act → World → Prop} {a : Act} {w : World} (h : c.wp P (Exit.then (fun a w => LoopAt P c Q a w) Q) a w) : LoopAt P c Q a w := by
  intro b k cs
  obtain ⟨e, a₁, w₁, hq, harr⟩ := h b (.inLoop c :: k) cs
  cases e with
  | normal =>
    obtain ⟨e₂, a₂, w₂, hq₂, harr₂⟩ := hq b k cs
    exact ⟨e₂, a₂, w₂, hq₂, .of_steps (Steps.trans harr (.one step_inLoop)) harr₂⟩
  | exit id => exact ⟨_, a₁, w₁, hq, .pass (x := .inLoop c) rfl (fun _ _ => .inl (by simp)) harr⟩
  | goto l => exact ⟨_, a₁, w₁, hq, .pass (x := .inLoop c) rfl (fun _ _ => .inl (by simp)) harr⟩
  | ret => exact ⟨_, a₁, w₁, hq, .pass (x := .inLoop c) rfl (fun _ _ => .inl (by simp)) harr⟩
  | panic ch => exact ⟨_, a₁, w₁, hq, .pass (x := .inLoop c) rfl (fun _ _ => .inl (by simp)) harr⟩
  | outgrown => exact ⟨_, a₁, w₁, hq, .pass (x := .inLoop c) rfl (fun _ _ => .inl (by simp)) harr⟩

def SLoop (P : Program) (w0 : Base) (c : Code) (Q : Exit → St → Prop) (σ : St) : Prop := ∀ a w, R w0 σ a w → LoopAt P c (conc w0 Q) a w
@[congr] theorem SLoop_congr {P : Program} {w0 : Base} {c : Code} {Q : Exit → St → Prop} {σ σ' : St} (h : σ = σ') : SLoop P w0 c Q σ = SLoop P w0 c Q σ' := by rw [h]

def SDraw (P : Program) (w0 : Base) (id : Nat) (ops : Array Oper) (Q : Exit → St → Prop) (σ : St) : Prop := ∀ a w, R w0 σ a w → (Code.region id ops true).wp P (conc w0 Q) a w
@[congr] theorem SDraw_congr {P : Program} {w0 : Base} {id : Nat} {ops : Array Oper} {Q : Exit → St → Prop} {σ σ' : St} (h : σ = σ') : SDraw P w0 id ops Q σ = SDraw P w0 id ops Q σ' := by rw [h]

def sThen (K : St → Prop) (Q : Exit → St → Prop) : Exit → St → Prop
  | .normal, σ => K σ
  | e, σ => Q e σ
@[congr] theorem sThen_congr {K : St → Prop} {Q : Exit → St → Prop} {e e' : Exit} {σ σ' : St} (he : e = e') (h : σ = σ') : sThen K Q e σ = sThen K Q e' σ' := by rw [he, h]
theorem sThen_normal {K : St → Prop} {Q : Exit → St → Prop} {σ : St} : sThen K Q .normal σ = K σ := rfl
theorem sThen_ret {K : St → Prop} {Q : Exit → St → Prop} {σ : St} : sThen K Q .ret σ = Q .ret σ := rfl
theorem sThen_exit {K : St → Prop} {Q : Exit → St → Prop} {i : Nat} {σ : St} : sThen K Q (.exit i) σ = Q (.exit i) σ := rfl

def sBlock (id : Nat) (Q : Exit → St → Prop) : Exit → St → Prop
  | .exit i, σ => if i = id then Q .normal σ else Q (.exit i) σ
  | e, σ => Q e σ
@[congr] theorem sBlock_congr {id : Nat} {Q : Exit → St → Prop} {e e' : Exit} {σ σ' : St} (he : e = e') (h : σ = σ') : sBlock id Q e σ = sBlock id Q e' σ' := by rw [he, h]
theorem sBlock_normal {id : Nat} {Q : Exit → St → Prop} {σ : St} : sBlock id Q .normal σ = Q .normal σ := rfl
theorem sBlock_ret {id : Nat} {Q : Exit → St → Prop} {σ : St} : sBlock id Q .ret σ = Q .ret σ := rfl
theorem sBlock_exit {id i : Nat} {Q : Exit → St → Prop} {σ : St} : sBlock id Q (.exit i) σ = if i = id then Q .normal σ else Q (.exit i) σ := rfl

/-- Within the reach of labels that no jump goes to. -/
def sScope (Q : Exit → St → Prop) : Exit → St → Prop
  | .goto _, _ => False
  | e, σ => Q e σ
@[congr] theorem sScope_congr {Q : Exit → St → Prop} {e e' : Exit} {σ σ' : St} (he : e = e') (h : σ = σ') : sScope Q e σ = sScope Q e' σ' := by rw [he, h]
theorem sScope_normal {Q : Exit → St → Prop} {σ : St} : sScope Q .normal σ = Q .normal σ := rfl
theorem sScope_ret {Q : Exit → St → Prop} {σ : St} : sScope Q .ret σ = Q .ret σ := rfl
theorem sScope_exit {Q : Exit → St → Prop} {i : Nat} {σ : St} : sScope Q (.exit i) σ = Q (.exit i) σ := rfl

def swp (P : Program) (T : Tab) (w0 : Base) : Code → (Exit → St → Prop) → St → Prop
  | .skip, Q, σ => Q .normal σ
  | .label _, Q, σ => Q .normal σ
  | .region id ops draw, Q, σ => if draw then SDraw P w0 id ops Q σ else sOps P T ops ops.toList σ (fun σ => Q .normal σ)
  | .seq x y, Q, σ => swp P T w0 x (sThen (fun σ => swp P T w0 y Q σ) Q) σ
  | .cond (.tmp t) x y, Q, σ => match look σ.tm t with
    | some (.v (.d .bool b)) => sIf b.bool (swp P T w0 x Q (σ.setB t true)) (swp P T w0 y Q (σ.setB t false))
    | _ => False
  | .cond (.const (.bool b)) x y, Q, σ => if b then swp P T w0 x Q σ else swp P T w0 y Q σ
  | .block id c, Q, σ => swp P T w0 c (sBlock id Q) σ
  | .loop c, Q, σ => SLoop P w0 c Q σ
  | .scope c, Q, σ => swp P T w0 c (sScope Q) σ
  | .exit id, Q, σ => Q (.exit id) σ
  | .ret, Q, σ => Q .ret σ
  | _, _, _ => False
@[congr] theorem swp_congr {P : Program} {T : Tab} {w0 : Base} {c : Code} {Q : Exit → St → Prop} {σ σ' : St} (h : σ = σ') : swp P T w0 c Q σ = swp P T w0 c Q σ' := by rw [h]

section
variable {P : Program} {w0 : Base} {σ : St} {a : Act} {w : World}

theorem R.setB (h : R w0 σ a w) {t : Nat} {b : Bool} (hl : look σ.tm t = some (.v (.d .bool (.b b)))) : R w0 (σ.setB t b) a w := by
  obtain ⟨om, h⟩ := h
  refine ⟨om, h.below, h.hF, h.defers, h.nt, ?_, h.ob, h.apart, h.fresh, h.keep⟩
  intro u y hy
  simp only [St.setB, look] at hy
  by_cases e : t = u
  · subst e
    simp only [if_true, Option.some.injEq] at hy
    subst hy
    exact h.tm t _ hl
  · simp only [e, if_false] at hy
    exact h.tm u y hy

theorem R.boolAt (h : R w0 σ a w) {t : Nat} {x : D} (hl : look σ.tm t = some (.v (.d .bool x))) : ∃ b, x = .b b ∧ a.tmps.getD t undef = .bool b := by
  obtain ⟨om, h⟩ := h
  obtain ⟨b, e, hx⟩ := (h.tm t _ hl : Val1 _ _ _ _ _).data.bool
  exact ⟨b, hx, e⟩

theorem R.put0 {dst : Option Nat} (h : R w0 σ a w) (hd : dstOk dst σ.nt) : R w0 (σ.put dst .u) (a.put dst undef) w := by
  obtain ⟨om, h⟩ := h
  exact ⟨om, h.put0 hd⟩

theorem getD_some {tm : Array Value} {t : Nat} {v : Value} (h : tm.getD t undef = v) (hv : v ≠ undef) : tm[t]? = some v := by
  rw [Array.getD_eq_getD_getElem?] at h
  cases hq : tm[t]? with
  | none => simp [hq] at h; exact absurd h.symm hv
  | some u => simp [hq] at h; rw [h]

theorem sOps_sound {T : Tab} (hT : T.Ok P) {ops : Array Oper} {Q : Exit → Act → World → Prop} {K : St → Prop} (hQ : ∀ a w, After w0 K a w → Q .normal a w) :
    ∀ {l : List Oper} {k : Nat} {σ : St} {a : Act} {w : World}, ops.toList.drop k = l → R w0 σ a w → sOps P T ops l σ K → wpOps P ops Q (List.range' k l.length) a w
  | [], k, σ, a, w, _, h, hs => by
    simp only [List.length_nil, List.range'_zero, wpOps]
    exact hQ a w ⟨σ, h, hs⟩
  | o :: l, k, σ, a, w, hk, h, hs => by
    have ho : ops[k]? = some o := by
      rw [← Array.getElem?_toList]
      have := congrArg (·[0]?) hk
      simpa using this
    have hk' : ops.toList.drop (k + 1) = l := by
      have := congrArg (List.drop 1) hk
      simpa [List.drop_drop] using this
    simp only [List.length_cons, List.range'_succ, wpOps, ho]
    have run : ∀ {σ : St}, R w0 σ a w → sOp P T o σ (fun σ => sOps P T ops l σ K) → o.wp P a w (wpOps P ops Q (List.range' (k + 1) l.length)) Q := by
      intro σ h hs
      have := sOp_sound (Q := Q) hT h hs
      exact Oper.wp_mono (fun a w ⟨σ, h, hs⟩ => sOps_sound hT hQ hk' h hs) this
    have skp : ∀ {σ : St}, R w0 σ a w → sSkip o σ (fun σ => sOps P T ops l σ K) → wpOps P ops Q (List.range' (k + 1) l.length) (a.put o.dst undef) w := by
      intro σ h hs
      exact sOps_sound hT hQ hk' (h.put0 hs.1) hs.2
    simp only [sOps] at hs
    split at hs
    · rename_i hg
      simp only [Region.wanted, hg, if_true]
      exact .inl (run h hs)
    · rename_i j want hg
      split at hs
      · rename_i t ht
        have hy : ∀ b, a.tmps.getD t undef = .bool b → yielded ops a.tmps j = some b := by
          intro b hb
          have := getD_some hb (by simp [undef])
          unfold gdst at ht
          simp [yielded, ht, this]
        split at hs
        · rename_i x hl
          obtain ⟨b, rfl, hb⟩ := h.boolAt hl
          have hyb := hy b hb
          simp only [Region.wanted, hg, hyb]
          cases b with
          | true =>
            have h1 := hs.1 rfl
            cases want with
            | true => simp only [if_true] at h1; simp only [BEq.rfl, if_true]; exact .inl (run (h.setB hl) h1)
            | false => simp only [Bool.false_eq_true, if_false] at h1; simp only [show ((some true : Option Bool) == some false) = false from rfl, Bool.false_eq_true, if_false]; exact skp (h.setB hl) h1
          | false =>
            have h1 := hs.2 rfl
            cases want with
            | true => simp only [if_true] at h1; simp only [show ((some false : Option Bool) == some true) = false from rfl, Bool.false_eq_true, if_false]; exact skp (h.setB hl) h1
            | false => simp only [Bool.false_eq_true, if_false] at h1; simp only [BEq.rfl, if_true]; exact .inl (run (h.setB hl) h1)
        · rename_i hl
          have hu : a.tmps.getD t undef = undef := by
            obtain ⟨om, h⟩ := h
            exact h.tm t _ hl
          have : (yielded ops a.tmps j == some want) = false := by
            have hy0 : yielded ops a.tmps j = none := by
              unfold gdst at ht
              simp only [yielded, ht, Option.bind_some]
              rw [Array.getD_eq_getD_getElem?] at hu
              cases hq : a.tmps[t]? with
              | none => rfl
              | some u => simp [hq] at hu; subst hu; rfl
            rw [hy0]; rfl
          simp only [Region.wanted, hg, this, Bool.false_eq_true, if_false]
          exact skp h hs
        · exact hs.elim
      · exact hs.elim

theorem conc_mono {Q Q' : Exit → St → Prop} (h : ∀ e σ, Q e σ → Q' e σ) : ∀ e a w, conc w0 Q e a w → conc w0 Q' e a w := fun e _ _ ⟨σ, hr, hq⟩ => ⟨σ, hr, h e σ hq⟩

theorem swp_sound {T : Tab} (hT : T.Ok P) : ∀ {c : Code} {Q : Exit → St → Prop} {σ : St} {a : Act} {w : World}, R w0 σ a w → swp P T w0 c Q σ → c.wp P (conc w0 Q) a w
  | .skip, Q, σ, a, w, h, hs => wp_skip ⟨σ, h, hs⟩
  | .label _, Q, σ, a, w, h, hs => wp_label ⟨σ, h, hs⟩
  | .exit _, Q, σ, a, w, h, hs => wp_exit ⟨σ, h, hs⟩
  | .ret, Q, σ, a, w, h, hs => wp_ret ⟨σ, h, hs⟩
  | .region id ops true, Q, σ, a, w, h, hs => by
    simp only [swp, if_true] at hs
    exact hs a w h
  | .region id ops false, Q, σ, a, w, h, hs => by
    simp only [swp, Bool.false_eq_true, if_false] at hs
    refine wp_region ?_
    have := sOps_sound hT (Q := conc w0 Q) (K := fun σ => Q .normal σ) (fun a w h => h) (l := ops.toList) (k := 0) (by simp) h hs
    rw [List.range_eq_range']
    simpa using this
  | .seq x y, Q, σ, a, w, h, hs => by
    refine wp_seq ?_
    refine wp_mono (swp_sound hT h hs) ?_
    rintro e a w ⟨σ, hr, hq⟩
    cases e with
    | normal => exact swp_sound hT hr hq
    | _ => exact ⟨σ, hr, hq⟩
  | .cond (.tmp t) x y, Q, σ, a, w, h, hs => by
    simp only [swp] at hs
    split at hs
    · rename_i x' hl
      obtain ⟨b, rfl, hb⟩ := h.boolAt hl
      cases b with
      | true => exact wp_cond_true hb (swp_sound hT (h.setB hl) (hs.1 rfl))
      | false => exact wp_cond_false hb (swp_sound hT (h.setB hl) (hs.2 rfl))
    · exact hs.elim
  | .cond (.const (.bool true)) x y, Q, σ, a, w, h, hs => by
    simp only [swp, if_true] at hs
    exact wp_cond_true rfl (swp_sound hT h hs)
  | .cond (.const (.bool false)) x y, Q, σ, a, w, h, hs => by
    simp only [swp, Bool.false_eq_true, if_false] at hs
    exact wp_cond_false rfl (swp_sound hT h hs)
  | .block id c, Q, σ, a, w, h, hs => by
    refine wp_block ?_
    refine wp_mono (swp_sound hT h hs) ?_
    rintro e a w ⟨σ, hr, hq⟩
    cases e with
    | exit i =>
      simp only [sBlock] at hq
      simp only [Exit.inBlock]
      split at hq
      · rename_i e; rw [if_pos e]; exact ⟨σ, hr, hq⟩
      · rename_i e; rw [if_neg e]; exact ⟨σ, hr, hq⟩
    | _ => exact ⟨σ, hr, hq⟩
  | .loop c, Q, σ, a, w, h, hs => fun b k cs => by
    obtain ⟨e, a', w', hq, harr⟩ := hs a w h b k cs
    exact ⟨e, a', w', hq, .of_steps (.one step_loop) harr⟩
  | .rangeFunc .., _, _, _, _, _, hs => hs.elim
  | .scope c, Q, σ, a, w, h, hs => by
    refine wp_scope_straight ?_
    refine wp_mono (swp_sound hT h hs) ?_
    rintro e a w ⟨σ, hr, hq⟩
    cases e with
    | goto l => exact hq.elim
    | _ => exact ⟨σ, hr, hq⟩
  | .goto _, _, _, _, _, _, hs => hs.elim
  | .refuse _, _, _, _, _, _, hs => hs.elim
  | .cond (.global _) _ _, _, _, _, _, _, hs => hs.elim
  | .cond (.func _) _ _, _, _, _, _, _, hs => hs.elim
  | .cond (.const v) x y, Q, σ, a, w, h, hs => by
    cases v with
    | bool b =>
      cases b with
      | true => simp only [swp, if_true] at hs; exact wp_cond_true rfl (swp_sound hT h hs)
      | false => simp only [swp, Bool.false_eq_true, if_false] at hs; exact wp_cond_false rfl (swp_sound hT h hs)
    | _ => exact hs.elim

end
end Go.SE
/- A function's contract by its text: the beginning, the end, loops. -/
namespace Go.SE
open Go.RowKit (Below)

def memB (x : Nat) : List Nat → Bool
  | [] => false
  | y :: l => if x = y then true else memB x l
def nodupB : List Nat → Bool
  | [] => true
  | x :: l => if memB x l then false else nodupB l
theorem memB_iff {x : Nat} {l : List Nat} : memB x l = true ↔ x ∈ l := by
  induction l with
  | nil => simp [memB]
  | cons y l ih => simp only [memB]; split <;> simp_all
theorem nodupB_ok {l : List Nat} (h : nodupB l = true) : l.Nodup := by
  induction l with
  | nil => simp
  | cons x l ih =>
    simp only [nodupB] at h
    split at h
    · cases h
    · rename_i hm
      rw [memB_iff] at hm
      exact List.nodup_cons.2 ⟨hm, ih h⟩

def rv1 (T : Tab) (σ : St) (u : TypeId) (s : SV) : Option RV :=
  match look T u with
  | some (.sl e) => match s with
    | .ref o [] off len => match look σ.ob o with
      | some ob => match ob.c with
        | .d (.arr _ e') x => if e' = e then some (.own e ((x.list.drop off).take len)) else none
        | _ => none
      | none => none
    | .nil => some (.own e [])
    | s => (den σ (.sl e) s).map (RV.d (.sl e))
  | some t => (den σ t s).map (RV.d t)
  | none => none

def resSV (T : Tab) (σ : St) : ResultVar → Option SV
  | .tmp t => match look σ.tm t with | some (.v s) => some s | _ => none
  | .cell t u => match look σ.tm t with
    | some (.v (.ptr o p)) => match look σ.ob o, look T u with
      | some ob, some τ => if ob.t.sub p = some τ then ob.c.get p else none
      | _, _ => none
    | _ => none

def rvs (T : Tab) (σ : St) : List ResultVar → List TypeId → Option (List RV × List Nat)
  | [], _ => some ([], [])
  | r :: l, u :: us => match resSV T σ r with
    | some s => match rv1 T σ u s, rvs T σ l us with
      | some x, some (xs, ns) => some (x :: xs, app (refs s) ns)
      | _, _ => none
    | none => none
  | _ :: _, [] => none

def sRet (T : Tab) (rl : List ResultVar) (us : List TypeId) (σ : St) (K : List RV → Prop) : Prop :=
  match rvs T σ rl us with
  | some (rs, ns) => nodupB ns = true ∧ K rs
  | none => False

def sExit (T : Tab) (rl : List ResultVar) (us : List TypeId) (K : List RV → Prop) : Exit → St → Prop
  | .normal, σ | .ret, σ => sRet T rl us σ K
  | _, _ => False
@[congr] theorem sExit_congr {T : Tab} {rl : List ResultVar} {us : List TypeId} {K : List RV → Prop} {e e' : Exit} {σ σ' : St} (he : e = e') (h : σ = σ') : sExit T rl us K e σ = sExit T rl us K e' σ' := by rw [he, h]
theorem sExit_ret {T : Tab} {rl : List ResultVar} {us : List TypeId} {K : List RV → Prop} {σ : St} : sExit T rl us K .ret σ = sRet T rl us σ K := rfl
theorem sExit_normal {T : Tab} {rl : List ResultVar} {us : List TypeId} {K : List RV → Prop} {σ : St} : sExit T rl us K .normal σ = sRet T rl us σ K := rfl

def resRun (a : Act) : ResultVar → Sem Value
  | .tmp t => pure (a.tmps.getD t undef)
  | .cell t u => do loadVar u (← asAddr (a.tmps.getD t undef))

def pTm : Nat → List (Ty × D) → List (Nat × TV)
  | _, [] => []
  | n, (t, d) :: l => (n, .v (.d t d)) :: pTm (n + 1) l

section
variable {P : Program} {w0 : Base} {om : Om} {σ : St} {a : Act} {w : World}

theorem rv_one (h : R0 w0 om σ a w) (hX : ∀ b, ¬ w0.X b) {T : Tab} {u : TypeId} {s : SV} {v : Value} {r : RV} (hv : Val1 w om (Mb σ.ob om) s v) (hr : rv1 T σ u s = some r) :
    ∃ b : Option Pl, (∀ o ∈ refs s, ∃ ob, look σ.ob o = some ob) ∧ (∀ q, b = some q → ∃ o t q0 ob, o ∈ refs s ∧ look σ.ob o = some ob ∧ om o = some (t, some q0) ∧ q.b = q0.b) ∧
      ∀ N : Nat → Prop, (∀ g, N g → Mb σ.ob om g) → ((∃ t x, r = .d t x) → ∀ o ∈ refs s, ∀ t q, om o = some (t, some q) → ¬ N q.b) → RVok w0.heap.size w N r v b := by
  have data : ∀ {t : Ty}, (den σ t s).map (RV.d t) = some r → ∃ b : Option Pl, (∀ o ∈ refs s, ∃ ob, look σ.ob o = some ob) ∧ (∀ q, b = some q → ∃ o t q0 ob, o ∈ refs s ∧ look σ.ob o = some ob ∧ om o = some (t, some q0) ∧ q.b = q0.b) ∧
      ∀ N : Nat → Prop, (∀ g, N g → Mb σ.ob om g) → ((∃ t x, r = .d t x) → ∀ o ∈ refs s, ∀ t q, om o = some (t, some q) → ¬ N q.b) → RVok w0.heap.size w N r v b := by
    intro t hd
    rw [Option.map_eq_some_iff] at hd
    obtain ⟨d, hd, rfl⟩ := hd
    refine ⟨none, den_refs hd, by simp, ?_⟩
    intro N hN hR
    obtain ⟨t', hcv, ha⟩ := hv
    refine ⟨den_ok h (fun b hb hc => hb (hN b hc)) hcv hd (hR ⟨t, d, rfl⟩), ?_⟩
    rw [ha]
    cases s with
    | d u y => simp only [den] at hd; split at hd
               · rename_i e; subst e; obtain ⟨rfl, _⟩ := hcv; rfl
               · cases hd
    | nil => obtain ⟨⟨e, rfl⟩, _⟩ := hcv; cases t <;> simp [den] at hd; rfl
    | ref _ _ _ _ => obtain ⟨_, _, rfl, _⟩ := hcv; cases t <;> simp [den] at hd; rfl
    | ptr _ _ => cases t <;> simp [den] at hd
    | vp _ _ => cases t <;> simp [den] at hd
    | fnv _ _ _ => cases t <;> simp [den] at hd
    | anil => obtain ⟨rfl, _⟩ := hcv; cases t <;> simp [den] at hd; rfl
    | acons _ _ => obtain ⟨_, _, rfl, _⟩ := hcv; cases t <;> simp [den] at hd; rfl
  unfold rv1 at hr
  split at hr
  · rename_i e ht
    split at hr
    · rename_i o off len
      split at hr
      · rename_i ob hl
        split at hr
        · rename_i n' e' x hc0
          split at hr
          · rename_i he
            subst he
            simp only [Option.some.injEq] at hr
            subst hr
            obtain ⟨e0, n, cap, hsub, hok, hle, hcap, hpl⟩ := ref_place h hv hl
            simp only [Ty.sub, Option.some.injEq] at hsub
            rcases hpl with ⟨rfl, b', rfl⟩ | ⟨q, cc, el, fr, ho', rfl, hcap2, hh, hun, hroom, hcv⟩
            · have : len = 0 := by omega
              subst this
              exact ⟨none, by intro k hk; simp only [refs, List.mem_singleton] at hk; subst hk; exact ⟨ob, hl⟩, by simp, fun N _ _ => ⟨by simp, b', rfl⟩⟩
            · simp only [if_true] at hcap2
              rw [hc0] at hcv
              obtain ⟨hty, hrd⟩ := hcv
              rw [hsub] at hty hrd hroom
              simp only [Ty.arr.injEq] at hty
              obtain ⟨rfl, rfl⟩ := hty
              obtain ⟨cl, rfl, hcl, hrl⟩ := hrd
              simp only [Ty.size] at hrl
              have hr1 := hroom.1
              have hr2 := (hroom.2 _ _ rfl).2
              have hC := (hroom.2 _ _ rfl).1
              simp only [Ty.size] at hr1
              have hlen2 : ((cl.drop off).take len).length = len := by simp; omega
              refine ⟨some ⟨q.b, q.base + off * e'.size, q.C - off⟩, by intro k hk; simp only [refs, List.mem_singleton] at hk; subst hk; exact ⟨ob, hl⟩, ?_, ?_⟩
              · intro q' hq'
                simp only [Option.some.injEq] at hq'
                subst hq'
                exact ⟨o, ob.t, q, ob, by simp [refs], hl, ho', rfl⟩
              · intro N hN _
                have hB : w0.heap.size ≤ q.b := (Mo.lt h.ob ⟨o, ob, ob.t, q, hl, ho', rfl⟩).1.elim id (fun k => absurd k (hX _))
                have hmC : off * e'.size + (q.C - off) * e'.size = q.C * e'.size := by rw [← Nat.add_mul]; congr 1; omega
                have hmN : (off + len) * e'.size ≤ n' * e'.size := Nat.mul_le_mul_right _ hle
                rw [Nat.add_mul] at hmN
                refine ⟨hB, by simp only [D.list, hlen2]; omega, ⟨cap, ?_, by simp only [D.list, hlen2]; omega, by simp only; omega⟩, cc, el, fr, hh, hun, by simp only; omega, ?_⟩
                · simp only [D.list, hlen2, Ty.offs, hsub, Nat.add_zero]
                · simp only [D.list, hlen2]
                  have h5 := ReadL.take len (ReadL.drop off hrl)
                  rw [take_drop_take_drop _ (by omega)] at h5
                  exact ReadL.mono (fun _ _ k => Rd.mono (fun b o hb ho => ⟨fun hc => hb (hN b hc), ho⟩) k) h5
          · cases hr
        · cases hr
      · cases hr
    · simp only [Option.some.injEq] at hr
      subst hr
      obtain ⟨b, cap, rfl⟩ := slen_ok hv (n := 0) rfl
      have hcap : cap = 0 := by
        obtain ⟨t', ⟨_, b', hc⟩, _⟩ := hv
        simp [Value.cells] at hc; exact hc.2
      subst hcap
      exact ⟨none, by intro k hk; simp [refs] at hk, by simp, fun N _ _ => ⟨rfl, b, rfl⟩⟩
    · exact data hr
  · exact data hr
  · cases hr

theorem rvs_ok (h : R0 w0 om σ a w) (hX : ∀ b, ¬ w0.X b) {T : Tab} (hT : T.Ok P) : ∀ {rl : List ResultVar} {us : List TypeId} {rs : List RV} {ns : List Nat}, rvs T σ rl us = some (rs, ns) →
    ∃ (ss : List SV) (vals : List Value) (bs : List (Option Pl)),
      (rl.mapM (resRun a)).run P w = .ok vals w ∧
      ns = ss.flatMap refs ∧ ss.length = rs.length ∧ vals.length = rs.length ∧ bs.length = rs.length ∧
      ∀ (i : Nat) (s : SV) (r : RV) (v : Value) (b : Option Pl), ss[i]? = some s → rs[i]? = some r → vals[i]? = some v → bs[i]? = some b →
        (∀ o ∈ refs s, ∃ ob, look σ.ob o = some ob) ∧ (∀ q, b = some q → ∃ o t q0 ob, o ∈ refs s ∧ look σ.ob o = some ob ∧ om o = some (t, some q0) ∧ q.b = q0.b) ∧
        ∀ N : Nat → Prop, (∀ g, N g → Mb σ.ob om g) → ((∃ t x, r = .d t x) → ∀ o ∈ refs s, ∀ t q, om o = some (t, some q) → ¬ N q.b) → RVok w0.heap.size w N r v b
  | [], us, rs, ns, hr => by
    simp only [rvs, Option.some.injEq, Prod.mk.injEq] at hr
    obtain ⟨rfl, rfl⟩ := hr
    exact ⟨[], [], [], by simp, rfl, rfl, rfl, rfl, fun i s r v b hs => by simp at hs⟩
  | r :: l, u :: us, rs, ns, hr => by
    simp only [rvs] at hr
    split at hr
    · rename_i s hs
      split at hr
      · rename_i x xs ns' hx hxs
        simp only [Option.some.injEq, Prod.mk.injEq] at hr
        obtain ⟨rfl, rfl⟩ := hr
        obtain ⟨ss, vals, bs, h1, h2, h3, h4, h5, h6⟩ := rvs_ok h hX hT hxs
        have hv : ∃ v, (resRun a r).run P w = .ok v w ∧ Val1 w om (Mb σ.ob om) s v := by
          cases r with
          | tmp t =>
            simp only [resSV] at hs
            split at hs
            · rename_i s' hl
              simp only [Option.some.injEq] at hs
              subst hs
              exact ⟨_, rfl, h.tm t _ hl⟩
            · cases hs
          | cell t u' =>
            simp only [resSV] at hs
            split at hs
            · rename_i o p hl
              split at hs
              · rename_i ob τ hlo hlt
                split at hs
                · rename_i hsub
                  obtain ⟨q, u2, c, el, fr, ev, ho', hsub', hok, hh, hu, hroom, hcv⟩ := ptr_place h (h.tm t _ hl : Val1 _ _ _ _ _) hlo
                  obtain ⟨A, hA, hcA, hle⟩ := CV.get hcv hok hs
                  rw [hsub] at hA
                  simp only [Option.some.injEq] at hA
                  subst hA
                  have hr1 := hroom.1
                  have hce : (((c.toList.drop q.base).take ob.t.size).drop (ob.t.offs p)).take τ.size = (c.toList.drop (q.base + ob.t.offs p)).take τ.size := take_drop_take_drop _ hle
                  rw [hce] at hcA
                  obtain ⟨v, hrun, hvc, hva⟩ := run_loadVar (P := P) hh (hT u' τ hlt).1 (o := q.base + ob.t.offs p) (by omega) (fun v hv => hcA.one v hv)
                  refine ⟨v, ?_, τ, by rw [hvc]; exact hcA, hva⟩
                  simp [resRun, ev, asAddr, hrun]
                · cases hs
              · cases hs
            · cases hs
        obtain ⟨v, hrun, hval⟩ := hv
        obtain ⟨b, hb0, hb1, hb2⟩ := rv_one h hX hval hx
        refine ⟨s :: ss, v :: vals, b :: bs, ?_, ?_, by simp [h3], by simp [h4], by simp [h5], ?_⟩
        · rw [List.mapM_cons]
          simp only [Sem.run_bind, hrun, Result.andThen_ok, h1, Sem.run_pure]
        · rw [app_eq, h2]; rfl
        · intro i s' r' v' b' g1 g2 g3 g4
          cases i with
          | zero =>
            simp only [List.getElem?_cons_zero, Option.some.injEq] at g1 g2 g3 g4
            subst g1; subst g2; subst g3; subst g4
            exact ⟨hb0, hb1, hb2⟩
          | succ i => exact h6 i s' r' v' b' (by simpa using g1) (by simpa using g2) (by simpa using g3) (by simpa using g4)
      · cases hr
    · cases hr
  | _ :: _, [], _, _, hr => by simp [rvs] at hr

theorem flatMap_disjoint {ss : List SV} (hn : (ss.flatMap refs).Nodup) : ∀ {i j : Nat} {s s' : SV} {o : Nat}, ss[i]? = some s → ss[j]? = some s' → o ∈ refs s → o ∈ refs s' → i = j := by
  induction ss with
  | nil => intro i j s s' o h; simp at h
  | cons x ss ih =>
    simp only [List.flatMap_cons] at hn
    rw [List.nodup_append] at hn
    obtain ⟨_, h2, h3⟩ := hn
    intro i j s s' o hi hj ho ho'
    cases i with
    | zero =>
      cases j with
      | zero => rfl
      | succ j =>
        simp only [List.getElem?_cons_zero, List.getElem?_cons_succ, Option.some.injEq] at hi hj
        subst hi
        exact absurd rfl (h3 o ho o (List.mem_flatMap.2 ⟨s', List.mem_of_getElem? hj, ho'⟩))
    | succ i =>
      cases j with
      | zero =>
        simp only [List.getElem?_cons_zero, List.getElem?_cons_succ, Option.some.injEq] at hi hj
        subst hj
        exact absurd rfl (h3 o ho' o (List.mem_flatMap.2 ⟨s, List.mem_of_getElem? hi, ho⟩))
      | succ j =>
        simp only [List.getElem?_cons_succ] at hi hj
        rw [ih h2 hi hj ho ho']

theorem results_eq (fn : Func) (a : Act) : results fn a.tmps = (do let vs ← fn.results.mapM (resRun a); pure (if h : vs.size = 1 then vs[0] else .tuple vs)) := by
  unfold results
  congr 1

theorem sRet_sound {T : Tab} (hT : T.Ok P) {fn : Func} {rl : List ResultVar} {us : List TypeId} {K : List RV → Prop} (hrl : fn.results.toList = rl) (h : R0 w0 om σ a w) (hX : ∀ b, ¬ w0.X b) (hs : sRet T rl us σ K) :
    ∃ v rs, (results fn a.tmps).run P w = .ok v w ∧ RetOk w0.heap.size w w0.F v rs ∧ K rs := by
  unfold sRet at hs
  split at hs
  · rename_i rs ns hr
    obtain ⟨hnd, hK⟩ := hs
    obtain ⟨ss, vals, bs, h1, rfl, h3, h4, h5, h6⟩ := rvs_ok h hX hT hr
    have hnd := nodupB_ok hnd
    have hs : ∀ {i : Nat}, i < rs.length → ∃ s r v b, ss[i]? = some s ∧ rs[i]? = some r ∧ vals[i]? = some v ∧ bs[i]? = some b := by
      intro i hi
      exact ⟨ss[i]'(by omega), rs[i]'(by omega), vals[i]'(by omega), bs[i]'(by omega), by simp, by simp, by simp, by simp⟩
    have hown : ∀ {g : Nat}, OwnB bs g → ∃ (i : Nat) (s : SV) (o : Nat) (t : Ty) (q0 : Pl) (ob : Ob), ss[i]? = some s ∧ o ∈ refs s ∧ look σ.ob o = some ob ∧ om o = some (t, some q0) ∧ g = q0.b ∧ (∃ e ds, rs[i]? = some (.own e ds)) := by
      rintro g ⟨q, hq, rfl⟩
      obtain ⟨i, hi, hiq⟩ := List.getElem_of_mem hq
      have hil : i < rs.length := by omega
      obtain ⟨s, r, v, b, g1, g2, g3, g4⟩ := hs hil
      have hbq : b = some q := by rw [List.getElem?_eq_getElem hi, hiq] at g4; exact (Option.some.inj g4).symm
      subst hbq
      obtain ⟨_, k1, k2⟩ := h6 i s r v _ g1 g2 g3 g4
      obtain ⟨o, t, q0, ob, m1, m2, m3, m4⟩ := k1 q rfl
      refine ⟨i, s, o, t, q0, ob, g1, m1, m2, m3, m4, ?_⟩
      have := k2 (fun _ => False) (by simp) (by simp)
      cases r with
      | d t x => exact this.elim
      | own e ds => exact ⟨e, ds, g2⟩
    have hN : ∀ g, (w0.F g ∨ OwnB bs g) → Mb σ.ob om g := by
      rintro g (k | k)
      · exact .inl (by rw [h.hF]; exact k)
      · obtain ⟨i, s, o, t, q0, ob, _, _, m2, m3, rfl, _⟩ := hown k
        exact .inr ⟨o, ob, t, q0, m2, m3, rfl⟩
    refine ⟨tupV vals, rs, ?_, ⟨vals, bs, rfl, h4, h5, ?_, ?_⟩, hK⟩
    · rw [results_eq, Array.mapM_eq_mapM_toList, hrl]
      simp only [Sem.run_bind, Sem.run_map, h1, Result.andThen_ok, Sem.run_pure, List.size_toArray]
      match vals with
      | [] => rfl
      | [v] => rfl
      | v :: u :: l => simp [tupV]
    · intro i r v b g2 g3 g4
      obtain ⟨s, r', v', b', g1, g2', g3', g4'⟩ := hs (List.getElem?_eq_some_iff.1 g2).1
      rw [g2] at g2'; rw [g3] at g3'; rw [g4] at g4'
      cases g2'; cases g3'; cases g4'
      obtain ⟨hlk, _, hfin⟩ := h6 i s r v b g1 g2 g3 g4
      refine hfin _ hN ?_
      rintro ⟨t, x, rfl⟩ o ho t' q hq hc
      rcases hc with hc | hc
      · obtain ⟨ob, hob⟩ := hlk o ho
        exact (Mo.lt h.ob ⟨o, ob, t', q, hob, hq, rfl⟩).1.notF hc
      · obtain ⟨ob, hob⟩ := hlk o ho
        obtain ⟨j, s', o', t2, q0, ob', g1', m1, m2, m3, m4, e, ds, hj⟩ := hown hc
        have := h.apart _ _ _ _ _ _ _ _ hob m2 hq m3 m4
        subst this
        have := flatMap_disjoint hnd g1 g1' ho m1
        subst this
        rw [g2] at hj; cases hj
    · intro i j q q' hi hj hb
      have li : i < rs.length := by have := (List.getElem?_eq_some_iff.1 hi).1; omega
      have lj : j < rs.length := by have := (List.getElem?_eq_some_iff.1 hj).1; omega
      obtain ⟨s, r, v, b, g1, g2, g3, g4⟩ := hs li
      obtain ⟨s', r', v', b', g1', g2', g3', g4'⟩ := hs lj
      obtain ⟨o, t, q0, ob, m1, m2, m3, m4⟩ := (h6 i s r v _ g1 g2 g3 hi).2.1 q rfl
      obtain ⟨o', t', q0', ob', m1', m2', m3', m4'⟩ := (h6 j s' r' v' _ g1' g2' g3' hj).2.1 q' rfl
      have := h.apart _ _ _ _ _ _ _ _ m2 m2' m3 m3' (by rw [← m4, ← m4', hb])
      subst this
      exact flatMap_disjoint hnd g1 g1' m1 m1'
  · exact hs.elim

end
end Go.SE
/- A function's contract by its text: the beginning, loops, one state as another. -/
namespace Go.SE
open Go.RowKit (Below)

section
variable {P : Program}

theorem argsOk_get {w : World} {S : Nat → Prop} : ∀ {l : List (Ty × D)} {vs : List Value}, ArgsOk w S l vs → l.length = vs.length ∧ ∀ (n : Nat) t x, look (pTm n l) t = some x → ∃ i τ d v, t = n + i ∧ x = .v (.d τ d) ∧ vs[i]? = some v ∧ RdV w S τ v d
  | [], [], _ => ⟨rfl, fun n t x h => by simp [pTm, look] at h⟩
  | (τ, d) :: l, v :: vs, h => by
    obtain ⟨h1, h2⟩ := h
    obtain ⟨k1, k2⟩ := argsOk_get h2
    refine ⟨by simp [k1], ?_⟩
    intro n t x hx
    simp only [pTm, look] at hx
    split at hx
    · rename_i e
      simp only [Option.some.injEq] at hx
      exact ⟨0, τ, d, v, e.symm, hx.symm, rfl, h1⟩
    · obtain ⟨i, τ', d', v', e, ex, hv, hr⟩ := k2 (n + 1) t x hx
      exact ⟨i + 1, τ', d', v', by omega, ex, by simpa using hv, hr⟩
  | [], _ :: _, h => h.elim
  | _ :: _, [], h => h.elim

/-- A contract, by the function's text. -/
theorem scall_intro {T : Tab} (hT : T.Ok P) {f : FuncId} {fn : Func} {c : Code} {rl : List ResultVar} {us : List TypeId} {n : Nat} (hf : P.funcs[f]? = some fn) (hb : fn.body = some c) (hn : (fn.name == "runtime.NumGoroutine") = false)
    (hrl : fn.results.toList = rl) (_ : fn.resultTypes.toList = us) (hnt : fn.ntmps = n) {args : List (Ty × D)} (hlen : args.length ≤ n) {K : List RV → Prop}
    (h : ∀ w0 : Base, Lent w0 0 → swp P T w0 c (sExit T rl us K) ⟨n, pTm 0 args, [], 0⟩) : SCall P f args K := by
  refine .inl ⟨⟨fn, hf, hn, by rw [hb]; rfl⟩, ?_⟩
  intro w F vs hF hG ha
  obtain ⟨hl, hg⟩ := argsOk_get ha
  let w0 : Base := { w with F := F, low := hF, X := fun _ => False, dis := fun _ _ k => k, om := fun _ => none, glob := hG.mono fun b o hb ho => ⟨fun k => k.elim hb id, ho⟩ }
  refine calls_of_wp hf hb ?_
  have hR : R w0 ⟨n, pTm 0 args, [], 0⟩ { tmps := vs.toArray ++ Array.replicate (fn.ntmps - vs.toArray.size) undef, defers := [] } w := by
    refine ⟨⟨fun _ => none, F⟩, BelX.refl _ _ _, rfl, rfl, ?_, ?_, ?_, ?_, fun _ _ => rfl, fun _ _ k => by cases k⟩
    · simp; omega
    · intro t v hv
      obtain ⟨i, τ, d, x, rfl, rfl, hx, hr⟩ := hg 0 t v hv
      have hi : i < vs.length := (List.getElem?_eq_some_iff.1 hx).1
      have : (vs.toArray ++ Array.replicate (fn.ntmps - vs.toArray.size) undef).getD (0 + i) undef = x := by
        rw [Array.getD_eq_getD_getElem?, Nat.zero_add, Array.getElem?_append_left (by simpa using hi)]
        simp [hx]
      rw [this]
      refine Val1.of (RdV.mono ?_ hr)
      intro b o hb ho
      refine ⟨?_, ho⟩
      rintro (hc | ⟨o, y, t, q, k1, _⟩)
      · exact hb hc
      · simp [look] at k1
    · intro o x hx; simp [look] at hx
    · intro o o' x x' t t' q q' hx; simp [look] at hx
  refine wp_mono (swp_sound hT hR (h w0 (fun _ _ => rfl))) ?_
  rintro e a' w' ⟨σ, ⟨om, hr⟩, hq⟩
  have fin : sRet T rl us σ K → bodyPost P fn (fun e w' => ∃ v rs, e = .returned v ∧ Below w.heap.size w w' ∧ RetOk w.heap.size w' F v rs ∧ K rs) .ret a' w' := by
    intro hs
    obtain ⟨v, rs, h1, h2, h3⟩ := sRet_sound (fn := fn) hT hrl hr (fun _ k => k) hs
    exact ⟨hr.defers, v, h1, v, rs, rfl, hr.below.below (fun _ k => k), h2, h3⟩
  cases e with
  | normal => exact fin hq
  | ret => exact fin hq
  | _ => exact hq.elim

/-! one state as another -/

def Sub (w0 : Base) (σ σ' : St) : Prop := ∀ a w, R w0 σ a w → R w0 σ' a w

theorem Sub.refl (w0 : Base) (σ : St) : Sub w0 σ σ := fun _ _ h => h
theorem Sub.trans {w0 : Base} {σ σ' σ'' : St} (h : Sub w0 σ σ') (k : Sub w0 σ' σ'') : Sub w0 σ σ'' := fun a w hr => k a w (h a w hr)

/-- A loop: an invariant over states that are told by a value 'x', and a number that each round lowers. -/
theorem sloop {T : Tab} (hT : T.Ok P) {w0 : Base} {c : Code} {Q : Exit → St → Prop} {σ : St} {α : Type} (I : α → St) (J : α → Prop) (μ : α → Nat) (x0 : α) (h0 : Sub w0 σ (I x0)) (j0 : J x0)
    (round : ∀ x, J x → swp P T w0 c (sThen (fun σ => ∃ y, J y ∧ μ y < μ x ∧ Sub w0 σ (I y)) Q) (I x)) : SLoop P w0 c Q σ := by
  have key : ∀ n x, μ x = n → J x → SLoop P w0 c Q (I x) := by
    intro n
    induction n using Nat.strongRecOn with
    | _ n ih =>
      intro x hn hj a w hr
      refine loopAt_step (wp_mono (swp_sound hT hr (round x hj)) ?_)
      rintro e a' w' ⟨σ', hr', hq⟩
      cases e with
      | normal =>
        obtain ⟨y, hy, hlt, hsub⟩ := hq
        exact ih (μ y) (by omega) y rfl hy a' w' (hsub a' w' hr')
      | _ => exact ⟨σ', hr', hq⟩
  exact fun a w hr => key _ x0 rfl j0 a w (h0 a w hr)

/-- One round, and the loop again. -/
theorem sround {T : Tab} (hT : T.Ok P) {w0 : Base} {c : Code} {Q : Exit → St → Prop} {σ : St} (h : swp P T w0 c (sThen (fun σ => SLoop P w0 c Q σ) Q) σ) : SLoop P w0 c Q σ := by
  intro a w hr
  refine loopAt_step (wp_mono (swp_sound hT hr h) ?_)
  rintro e a' w' ⟨σ', hr', hq⟩
  cases e with
  | normal => exact hq a' w' hr'
  | _ => exact ⟨σ', hr', hq⟩

/-- Behind a state that says less. -/
theorem swp_sub {T : Tab} (hT : T.Ok P) {w0 : Base} {c : Code} {Q : Exit → St → Prop} {σ σ' : St} (h : Sub w0 σ σ') (k : SLoop P w0 c Q σ') : SLoop P w0 c Q σ := fun a w hr => k a w (h a w hr)

/-- A nil slice is a row without elements. -/
theorem sub_nilRow (w0 : Base) {σ : St} (t : Nat) (e : Ty) (hl : look σ.tm t = some (.v .nil)) :
    Sub w0 σ ⟨σ.nt, (t, .v (.ref σ.nx [] 0 0)) :: σ.tm, (σ.nx, ⟨.arr 0 e, .d (.arr 0 e) (.l [])⟩) :: σ.ob, σ.nx + 1⟩ := by
  rintro a w ⟨om, h⟩
  obtain ⟨om', hR, hself, hkp⟩ := h.nilRow e
  refine ⟨om', hR.below, hR.hF, hR.defers, hR.nt, ?_, hR.ob, hR.apart, hR.fresh, hR.keep⟩
  intro u y hy
  simp only [look] at hy
  split at hy
  · rename_i ee
    subst ee
    simp only [Option.some.injEq] at hy
    subst hy
    have hv : Val1 _ _ _ SV.nil _ := h.tm t _ hl
    obtain ⟨b, cap, ev⟩ := slen_ok hv (n := 0) rfl
    have hcap : cap = 0 := by
      obtain ⟨t', ⟨_, b', hc⟩, _⟩ := hv
      rw [ev] at hc; simp [Value.cells] at hc; exact hc.2
    subst hcap
    rw [ev]
    exact ⟨.sl e, ⟨e, _, rfl, rfl, _, _, 0, 0, hself, rfl, trivial, by omega, by omega, .inl ⟨rfl, b, rfl⟩⟩, rfl⟩
  · exact hR.tm u y hy

/-! the same under other names, with some of it forgotten -/

def renSV (r : List (Nat × Nat)) : SV → SV → Prop
  | .d t x, .d t' x' => t = t' ∧ x = x'
  | .nil, .nil => True
  | .ref o p off len, .ref o' p' off' len' => look r o' = some o ∧ p = p' ∧ off = off' ∧ len = len'
  | .ptr o p, .ptr o' p' => look r o' = some o ∧ p = p'
  | .vp t x, .vp t' x' => t = t' ∧ x = x'
  | .anil, .anil => True
  | .acons a b, .acons a' b' => renSV r a a' ∧ renSV r b b'
  | .fnv f a b, .fnv f' a' b' => f = f' ∧ renSV r a a' ∧ renSV r b b'
  | _, _ => False

def renTV (r : List (Nat × Nat)) : TV → TV → Prop
  | .v x, .v y => renSV r x y
  | .u, .u => True
  | _, _ => False

def renTm (r : List (Nat × Nat)) (tm : List (Nat × TV)) : List (Nat × TV) → Prop
  | [] => True
  | (t, v) :: l => (match look tm t with | some u => renTV r u v | none => False) ∧ renTm r tm l

def renOb (r : List (Nat × Nat)) (ob : List (Nat × Ob)) : List (Nat × Ob) → Prop
  | [] => True
  | (o, x) :: l => (match look r o with
    | some k => (match look ob k with | some y => y.t = x.t ∧ renSV r y.c x.c | none => False)
    | none => False) ∧ renOb r ob l

def keysLt (n : Nat) : List (Nat × Nat) → Prop
  | [] => True
  | (o, _) :: l => o < n ∧ keysLt n l

def valsB : List (Nat × Nat) → List Nat
  | [] => []
  | (_, k) :: l => k :: valsB l

theorem renSV_ok {r : List (Nat × Nat)} {w : World} {om om' : Om} {M M' : Nat → Prop} (hM : ∀ b o, ¬ M b → w.heap[b]? = some o → ¬ M' b ∧ w.heap[b]? = some o) (hom : ∀ o o', look r o' = some o → om' o' = om o) :
    ∀ {x y : SV} {t : Ty} {cs : List Value}, renSV r x y → CV w om M t x cs → CV w om' M' t y cs
  | .d _ _, .d _ _, t, cs, ⟨h1, h2⟩, ⟨h3, h4⟩ => by subst h1; subst h2; exact ⟨h3, h4.mono hM⟩
  | .nil, .nil, _, _, _, h => h
  | .ref o p off len, .ref o' p' off' len', t, cs, ⟨h1, h2, h3, h4⟩, ⟨e, v, k1, k2, t', pl, n, cap, k3, k4⟩ => by
    subst h2; subst h3; subst h4
    exact ⟨e, v, k1, k2, t', pl, n, cap, by rw [hom _ _ h1]; exact k3, k4⟩
  | .ptr o p, .ptr o' p', t, cs, ⟨h1, h2⟩, ⟨v, k1, k2, t', q, u, k3, k4⟩ => by
    subst h2
    exact ⟨v, k1, k2, t', q, u, by rw [hom _ _ h1]; exact k3, k4⟩
  | .vp _ _, .vp _ _, t, cs, ⟨h1, h2⟩, ⟨h3, g, o, c, el, fr, k1, k2, k3, k4, k5⟩ => by
    subst h1; subst h2
    exact ⟨h3, g, o, c, el, fr, k1, (hM g _ k2 k3).1, k3, k4, k5.mono hM⟩
  | .anil, .anil, _, _, _, h => h
  | .acons a b, .acons a' b', t, cs, ⟨h1, h2⟩, ⟨ta, tb, k1, k2, k3⟩ => ⟨ta, tb, k1, renSV_ok hM hom h1 k2, renSV_ok hM hom h2 k3⟩
  | .fnv f a b, .fnv f' a' b', t, cs, ⟨h0, h1, h2⟩, ⟨e, vs, us, ta, tb, k1, k2, k3, k4, k5⟩ => by
    subst h0
    exact ⟨e, vs, us, ta, tb, k1, k2, k3, renSV_ok hM hom h1 k4, renSV_ok hM hom h2 k5⟩
  | .d _ _, .nil, _, _, h, _ | .d _ _, .ref _ _ _ _, _, _, h, _ | .d _ _, .ptr _ _, _, _, h, _ | .d _ _, .vp _ _, _, _, h, _ | .d _ _, .anil, _, _, h, _ | .d _ _, .acons _ _, _, _, h, _ | .d _ _, .fnv _ _ _, _, _, h, _ => h.elim
  | .nil, .d _ _, _, _, h, _ | .nil, .ref _ _ _ _, _, _, h, _ | .nil, .ptr _ _, _, _, h, _ | .nil, .vp _ _, _, _, h, _ | .nil, .anil, _, _, h, _ | .nil, .acons _ _, _, _, h, _ | .nil, .fnv _ _ _, _, _, h, _ => h.elim
  | .ref _ _ _ _, .d _ _, _, _, h, _ | .ref _ _ _ _, .nil, _, _, h, _ | .ref _ _ _ _, .ptr _ _, _, _, h, _ | .ref _ _ _ _, .vp _ _, _, _, h, _ | .ref _ _ _ _, .anil, _, _, h, _ | .ref _ _ _ _, .acons _ _, _, _, h, _ | .ref _ _ _ _, .fnv _ _ _, _, _, h, _ => h.elim
  | .ptr _ _, .d _ _, _, _, h, _ | .ptr _ _, .nil, _, _, h, _ | .ptr _ _, .ref _ _ _ _, _, _, h, _ | .ptr _ _, .vp _ _, _, _, h, _ | .ptr _ _, .anil, _, _, h, _ | .ptr _ _, .acons _ _, _, _, h, _ | .ptr _ _, .fnv _ _ _, _, _, h, _ => h.elim
  | .vp _ _, .d _ _, _, _, h, _ | .vp _ _, .nil, _, _, h, _ | .vp _ _, .ref _ _ _ _, _, _, h, _ | .vp _ _, .ptr _ _, _, _, h, _ | .vp _ _, .anil, _, _, h, _ | .vp _ _, .acons _ _, _, _, h, _ | .vp _ _, .fnv _ _ _, _, _, h, _ => h.elim
  | .anil, .d _ _, _, _, h, _ | .anil, .nil, _, _, h, _ | .anil, .ref _ _ _ _, _, _, h, _ | .anil, .ptr _ _, _, _, h, _ | .anil, .vp _ _, _, _, h, _ | .anil, .acons _ _, _, _, h, _ | .anil, .fnv _ _ _, _, _, h, _ => h.elim
  | .acons _ _, .d _ _, _, _, h, _ | .acons _ _, .nil, _, _, h, _ | .acons _ _, .ref _ _ _ _, _, _, h, _ | .acons _ _, .ptr _ _, _, _, h, _ | .acons _ _, .vp _ _, _, _, h, _ | .acons _ _, .anil, _, _, h, _ | .acons _ _, .fnv _ _ _, _, _, h, _ => h.elim
  | .fnv _ _ _, .d _ _, _, _, h, _ | .fnv _ _ _, .nil, _, _, h, _ | .fnv _ _ _, .ref _ _ _ _, _, _, h, _ | .fnv _ _ _, .ptr _ _, _, _, h, _ | .fnv _ _ _, .vp _ _, _, _, h, _ | .fnv _ _ _, .anil, _, _, h, _ | .fnv _ _ _, .acons _ _, _, _, h, _ => h.elim

theorem look_renTm {r : List (Nat × Nat)} {tm : List (Nat × TV)} : ∀ {l : List (Nat × TV)} {t : Nat} {v : TV}, renTm r tm l → look l t = some v → ∃ u, look tm t = some u ∧ renTV r u v
  | [], _, _, _, hl => by simp [look] at hl
  | (k, y) :: l, t, v, h, hl => by
    simp only [look] at hl
    split at hl
    · rename_i e
      subst e
      simp only [Option.some.injEq] at hl
      subst hl
      have h1 := h.1
      split at h1
      · rename_i u hu; exact ⟨u, hu, h1⟩
      · exact h1.elim
    · exact look_renTm h.2 hl

theorem look_renOb {r : List (Nat × Nat)} {ob : List (Nat × Ob)} : ∀ {l : List (Nat × Ob)} {o : Nat} {x : Ob}, renOb r ob l → look l o = some x → ∃ k y, look r o = some k ∧ look ob k = some y ∧ y.t = x.t ∧ renSV r y.c x.c
  | [], _, _, _, hl => by simp [look] at hl
  | (k, y) :: l, o, x, h, hl => by
    simp only [look] at hl
    split at hl
    · rename_i e
      subst e
      simp only [Option.some.injEq] at hl
      subst hl
      have h1 := h.1
      split at h1
      · rename_i k' hk
        split at h1
        · rename_i z hz; exact ⟨k', z, hk, hz, h1⟩
        · exact h1.elim
      · exact h1.elim
    · exact look_renOb h.2 hl

theorem mem_valsB {r : List (Nat × Nat)} : ∀ {o k : Nat}, look r o = some k → k ∈ valsB r := by
  induction r with
  | nil => intro o k h; simp [look] at h
  | cons p r ih =>
    intro o k h
    obtain ⟨a, b⟩ := p
    simp only [look] at h
    split at h
    · simp only [Option.some.injEq] at h; subst h; simp [valsB]
    · simp [valsB, ih h]

theorem look_inj {r : List (Nat × Nat)} (hn : (valsB r).Nodup) : ∀ {o o' k : Nat}, look r o = some k → look r o' = some k → o = o' := by
  induction r with
  | nil => intro o o' k h; simp [look] at h
  | cons p r ih =>
    obtain ⟨a, b⟩ := p
    simp only [valsB, List.nodup_cons] at hn
    intro o o' k h h'
    simp only [look] at h h'
    split at h <;> split at h'
    · rename_i e1 e2; rw [← e1, ← e2]
    · simp only [Option.some.injEq] at h; subst h; exact absurd (mem_valsB h') hn.1
    · simp only [Option.some.injEq] at h'; subst h'; exact absurd (mem_valsB h) hn.1
    · exact ih hn.2 h h'

theorem keysLt_look {r : List (Nat × Nat)} {n : Nat} (h : keysLt n r) : ∀ {o k : Nat}, look r o = some k → o < n := by
  induction r with
  | nil => intro o k h; simp [look] at h
  | cons p r ih =>
    obtain ⟨a, b⟩ := p
    intro o k hl
    simp only [look] at hl
    split at hl
    · rename_i e; subst e; exact h.1
    · exact ih h.2 hl

/-- The first names are kept. -/
def idUp (r : List (Nat × Nat)) : Nat → Bool
  | 0 => true
  | k + 1 => (match look r k with | some j => Nat.beq j k | none => false) && idUp r k
theorem idUp_ok {r : List (Nat × Nat)} : ∀ {k : Nat}, idUp r k = true → ∀ o, o < k → look r o = some o
  | 0, _, o, ho => absurd ho (Nat.not_lt_zero o)
  | k + 1, h, o, ho => by
    simp only [idUp, Bool.and_eq_true] at h
    rcases Nat.lt_or_ge o k with hl | hl
    · exact idUp_ok h.2 o hl
    · have e : o = k := by omega
      subst e
      have h1 := h.1
      split at h1
      · rename_i j hj
        rw [hj, Nat.eq_of_beq_eq_true h1]
      · cases h1
/-- The state σ under the names of σ' ('r': what a name of σ' is in σ), some of it forgotten. -/
theorem sub_ren (w0 : Base) {k : Nat} (hz : Lent w0 k) {σ σ' : St} (r : List (Nat × Nat)) (hid : idUp r k = true) (hnt : σ.nt = σ'.nt) (hk : keysLt σ'.nx r) (hn : nodupB (valsB r) = true) (htm : renTm r σ.tm σ'.tm) (hob : renOb r σ.ob σ'.ob) : Sub w0 σ σ' := by
  rintro a w ⟨om, h⟩
  let om' : Om := { om with tab := fun o => match look r o with | some k => om k | none => none }
  have hom : ∀ o o', look r o' = some o → om' o' = om o := by
    intro o o' hl
    show (match look r o' with | some k => om k | none => none) = _
    rw [hl]
  have hnone : ∀ o', look r o' = none → om' o' = none := by
    intro o' hl
    show (match look r o' with | some k => om k | none => none) = _
    rw [hl]
  have hlook : ∀ o x, look σ'.ob o = some x → ∃ k y, look r o = some k ∧ look σ.ob k = some y ∧ y.t = x.t ∧ renSV r y.c x.c := fun o x hx => look_renOb hob hx
  have hMo : ∀ b, Mo σ'.ob om' b → Mo σ.ob om b := by
    rintro b ⟨o, x, t, q, h1, h2, h3⟩
    obtain ⟨k, y, k1, k2, _⟩ := hlook o x h1
    rw [hom _ _ k1] at h2
    exact ⟨k, y, t, q, k2, h2, h3⟩
  have hM : ∀ b o, ¬ Mb σ.ob om b → w.heap[b]? = some o → ¬ Mb σ'.ob om' b ∧ w.heap[b]? = some o := Mb.lift rfl fun b o h1 h2 => ⟨fun hb => h1 (hMo b hb), h2⟩
  refine ⟨om', h.below, h.hF, h.defers, by rw [h.nt, hnt], ?_, ?_, ?_, ?_, ?_⟩
  · intro t v hv
    obtain ⟨u, hu, hr⟩ := look_renTm htm hv
    have hb := h.tm t u hu
    cases u with
    | v x =>
      cases v with
      | v y => obtain ⟨τ, k1, k2⟩ := hb; exact ⟨τ, renSV_ok hM hom hr k1, k2⟩
      | _ => exact hr.elim
    | u => cases v with
      | u => exact hb
      | _ => exact hr.elim
    | tup xs => cases v <;> exact hr.elim
  · intro o x hx
    obtain ⟨k, y, k1, k2, k3, k4⟩ := hlook o x hx
    obtain ⟨pl, h1, h2⟩ := h.ob k y k2
    refine ⟨pl, by rw [hom _ _ k1, ← k3]; exact h1, ?_⟩
    rw [← k3]
    cases pl with
    | none => exact ⟨h2.1, renSV_ok hM hom k4 h2.2⟩
    | some q => obtain ⟨m1, c, el, fr, m2, m3, m4, m5⟩ := h2; exact ⟨m1, c, el, fr, m2, m3, m4, renSV_ok hM hom k4 m5⟩
  · intro o o' x x' t t' q q' h1 h2 h3 h4 h5
    obtain ⟨k, y, k1, k2, _⟩ := hlook o x h1
    obtain ⟨k', y', k1', k2', _⟩ := hlook o' x' h2
    rw [hom _ _ k1] at h3
    rw [hom _ _ k1'] at h4
    have := h.apart _ _ _ _ _ _ _ _ k2 k2' h3 h4 h5
    subst this
    exact look_inj (nodupB_ok hn) k1 k1'
  · intro o ho
    cases hl : look r o with
    | none => exact hnone o hl
    | some k => have := keysLt_look hk hl; omega
  · intro o y hy
    have ho : o < k := by
      rcases Nat.lt_or_ge o k with hl | hl
      · exact hl
      · rw [hz o hl] at hy; cases hy
    rw [hom o o (idUp_ok hid o ho)]
    exact h.keep o y hy

end
end Go.SE
/- The operations' equations, one for each shape: what 'simp only' turns. -/
namespace Go.SE
universe u
/-- What 'simp' shall not enter: a later argument's type names it. -/
def Hold {α : Sort u} (_ : α) : Type := Unit
def HLoop (P : Program) (w0 : Base) (c : Code) (Q : Exit → St → Prop) (σ : St) (_ : Hold c) (_ : Hold Q) : Prop := SLoop P w0 c Q σ
def HDraw (P : Program) (w0 : Base) (id : Nat) (ops : Array Oper) (Q : Exit → St → Prop) (σ : St) (_ : Hold ops) (_ : Hold Q) : Prop := SDraw P w0 id ops Q σ
def HCall (P : Program) (f : FuncId) (l : List (Ty × D)) (K : List RV → Prop) (_ : Hold K) : Prop := SCall P f l K
def HCallP (P : Program) (f : FuncId) (xs : List SV) (obs : List Ob) (K : List SV → List (Nat × Ob) → Nat → Prop) (_ : Hold K) : Prop := SCallP P f xs obs K
def HIf (b : Bool) (t f : Prop) (_ : Hold t) (_ : Hold f) : Prop := sIf b t f
def HSwp (P : Program) (T : Tab) (w0 : Base) (c : Code) (Q : Exit → St → Prop) (σ : St) (_ : Hold c) (_ : Hold Q) : Prop := swp P T w0 c Q σ
theorem HIf_true {t f : Prop} : HIf true t f () () = t := sIf_true
theorem HIf_false {t f : Prop} : HIf false t f () () = f := sIf_false
theorem HIf_mk {c : Bool} {t f : Prop} {a : Hold t} {b : Hold f} (h1 : c = true → t) (h2 : c = false → f) : HIf c t f a b := ⟨h1, h2⟩
/-- At a branch: a proposition, and its contrary. -/
theorem HIf_dec {p : Prop} [Decidable p] {t f : Prop} {a : Hold t} {b : Hold f} (h1 : p → t) (h2 : ¬ p → f) : HIf (decide p) t f a b := ⟨fun h => h1 (of_decide_eq_true h), fun h => h2 (of_decide_eq_false h)⟩
theorem HIf_ndec {p : Prop} [Decidable p] {t f : Prop} {a : Hold t} {b : Hold f} (h1 : ¬ p → t) (h2 : p → f) : HIf (!decide p) t f a b := ⟨fun h => h1 (by simpa using h), fun h => h2 (by simpa using h)⟩

def keepT (tm : List (Nat × TV)) : List Nat → List (Nat × TV)
  | [] => []
  | k :: ks => match Go.SE.look tm k with | some v => (k, v) :: keepT tm ks | none => keepT tm ks
theorem keepT_look {tm : List (Nat × TV)} {t : Nat} {v : TV} : ∀ {ks : List Nat}, Go.SE.look (keepT tm ks) t = some v → Go.SE.look tm t = some v
  | [], h => by simp [keepT, Go.SE.look] at h
  | k :: ks, h => by
    simp only [keepT] at h
    split at h
    · rename_i u hu
      simp only [Go.SE.look] at h
      split at h
      · rename_i e; subst e; rw [hu, h]
      · exact keepT_look h
    · exact keepT_look h
theorem R.keep {w0 : Base} {σ : St} {a : Act} {w : World} (h : R w0 σ a w) (ks : List Nat) : R w0 ⟨σ.nt, keepT σ.tm ks, σ.ob, σ.nx⟩ a w := by
  obtain ⟨om, h⟩ := h
  exact ⟨om, h.below, h.hF, h.defers, h.nt, fun t v hv => h.tm t v (keepT_look hv), h.ob, h.apart, h.fresh, h.keep⟩
theorem sunrollK {P : Program} {T : Tab} (ks : List Nat) (hT : T.Ok P) {w0 : Base} {c : Code} {Q : Exit → St → Prop} {σ : St} {a : Hold c} {b : Hold Q} (h : swp P T w0 c (sThen (fun σ => HLoop P w0 c Q σ () ()) Q) ⟨σ.nt, keepT σ.tm ks, σ.ob, σ.nx⟩) : HLoop P w0 c Q σ a b :=
  fun a w hr => sround hT h a w (hr.keep ks)

theorem HCall_mono {P : Program} {f : FuncId} {l : List (Ty × D)} {K K' : List RV → Prop} (h : SCall P f l K) (hk : ∀ rs, K rs → K' rs) : HCall P f l K' () := SCall.mono h hk

theorem HCallP_mono {P : Program} {f : FuncId} {xs : List SV} {obs : List Ob} {K K' : List SV → List (Nat × Ob) → Nat → Prop} (h : SCallP P f xs obs K) (hk : ∀ rs ob n, K rs ob n → K' rs ob n) : HCallP P f xs obs K' () := SCallP.mono h hk

theorem sunroll {P : Program} {T : Tab} (hT : T.Ok P) {w0 : Base} {c : Code} {Q : Exit → St → Prop} {σ : St} {a : Hold c} {b : Hold Q} (h : swp P T w0 c (sThen (fun σ => HLoop P w0 c Q σ () ()) Q) σ) : HLoop P w0 c Q σ a b := sround hT h

section
variable {P : Program} {T : Tab} {σ : St} {K : St → Prop} {dst : Option Nat} {ty : TypeId} {pos : String} {aft : Array Edge} {g : Option (Nat × Bool)}

theorem e_move {x : Operand} : sOp P T ⟨dst, .move x, ty, pos, aft, g⟩ σ K = (dstOk dst σ.nt ∧ match ev σ x with | some v => K (σ.put dst v) | none => False) := rfl
theorem e_assign {x : Operand} : sOp P T ⟨dst, .assign x, ty, pos, aft, g⟩ σ K = (dstOk dst σ.nt ∧ match ev σ x with | some v => K (σ.put dst v) | none => False) := rfl
theorem e_bin {op : BinOp} {xT yT : TypeId} {x y : Operand} : sOp P T ⟨dst, .binOp op xT x y yT, ty, pos, aft, g⟩ σ K = (dstOk dst σ.nt ∧ match ev1 σ x, ev1 σ y with
    | some (.d t dx), some (.d t' dy) => tyIf T t xT ∧ sBin op t dx t' dy (fun s => K (σ.put dst (.v s)))
    | _, _ => False) := rfl
theorem e_un {op : UnOp} {xT : TypeId} {x : Operand} : sOp P T ⟨dst, .unOp op xT x, ty, pos, aft, g⟩ σ K = (dstOk dst σ.nt ∧ match ev1 σ x with | some (.d t dx) => sUn op t dx (fun s => K (σ.put dst (.v s))) | _ => False) := rfl
theorem e_conv {u d : TypeId} {x : Operand} : sOp P T ⟨dst, .convert u d x, ty, pos, aft, g⟩ σ K = (dstOk dst σ.nt ∧ match ev1 σ x with | some s => sConv T u d s σ (fun σ s => K (σ.put dst (.v s))) | none => False) := rfl
theorem e_pick {c x y : Operand} : sOp P T ⟨dst, .pick c x y, ty, pos, aft, g⟩ σ K = (dstOk dst σ.nt ∧ match ev1 σ c with
    | some (.d .bool b) => HIf b.bool (match ev σ x with | some v => K (σ.put dst v) | none => False) (match ev σ y with | some v => K (σ.put dst v) | none => False) () ()
    | _ => False) := rfl
theorem e_alloc {u : TypeId} : sOp P T ⟨dst, .alloc u, ty, pos, aft, g⟩ σ K = (dstOk dst σ.nt ∧ sAlloc T u σ (fun σ s => K (σ.put dst (.v s)))) := rfl
theorem e_box {u : TypeId} {x : Operand} : sOp P T ⟨dst, .box u x, ty, pos, aft, g⟩ σ K = (dstOk dst σ.nt ∧ match ev1 σ x with | some s => sBox T u s σ (fun σ s => K (σ.put dst (.v s))) | none => False) := rfl
theorem e_build {t : TypeId} {l : List (Nat × Operand)} : sOp P T ⟨dst, .build t l.toArray, ty, pos, aft, g⟩ σ K = (dstOk dst σ.nt ∧ sBuild T t l σ (fun s => K (σ.put dst (.v s)))) := rfl
theorem e_buildS {t : TypeId} {n : Nat} {l : List (Nat × Operand)} : sOp P T ⟨dst, .buildSlice t n l.toArray, ty, pos, aft, g⟩ σ K = (dstOk dst σ.nt ∧ sBuildS T t n l σ (fun σ s => K (σ.put dst (.v s)))) := rfl
theorem e_load {u : TypeId} {x : Operand} : sOp P T ⟨dst, .load u x, ty, pos, aft, g⟩ σ K = (dstOk dst σ.nt ∧ match ev1 σ x with | some s => sLoad T u s σ (fun s => K (σ.put dst (.v s))) | none => False) := rfl
theorem e_store {u : TypeId} {x y : Operand} : sOp P T ⟨dst, .store u x y, ty, pos, aft, g⟩ σ K = (dstOk dst σ.nt ∧ match ev1 σ x, ev1 σ y with | some s, some r => sStore T u s r σ (fun σ => K (σ.put dst .u)) | _, _ => False) := rfl
theorem e_nil {x : Operand} : sOp P T ⟨dst, .nilCheck x, ty, pos, aft, g⟩ σ K = (dstOk dst σ.nt ∧ match ev1 σ x with
    | some (.ptr b p) => (look σ.ob b).isSome = true ∧ K (σ.put dst (.v (.ptr b p)))
    | some (.vp t y) => K (σ.put dst (.v (.vp t y)))
    | _ => False) := rfl
theorem e_arr {d : TypeId} {x : Operand} : sOp P T ⟨dst, .sliceToArrayPointer d x, ty, pos, aft, g⟩ σ K = (dstOk dst σ.nt ∧ match ev1 σ x with | some s => sArr T d s σ (fun s => K (σ.put dst (.v s))) | none => False) := rfl
theorem e_make {t : TypeId} {x y : Operand} : sOp P T ⟨dst, .makeSlice t x y, ty, pos, aft, g⟩ σ K = (dstOk dst σ.nt ∧ match ev1 σ x, ev1 σ y with
    | some (.d (.int _) l), some (.d (.int _) c) => sMake T t l c σ (fun σ s => K (σ.put dst (.v s)))
    | _, _ => False) := rfl
theorem e_slice {u : TypeId} {x : Operand} {lo hi : Option Operand} : sOp P T ⟨dst, .slice u x lo hi none, ty, pos, aft, g⟩ σ K = (dstOk dst σ.nt ∧ match ev1 σ x, opInt σ lo, opInt σ hi with
    | some s, some l, some h => sSlice T u s l h σ (fun s => K (σ.put dst (.v s)))
    | _, _, _ => False) := rfl
theorem e_fieldAddr {u : TypeId} {x : Operand} {i : Nat} : sOp P T ⟨dst, .fieldAddr u x i, ty, pos, aft, g⟩ σ K = (dstOk dst σ.nt ∧ match ev1 σ x with | some s => sFieldAddr T u s i σ (fun s => K (σ.put dst (.v s))) | none => False) := rfl
theorem e_field {u : TypeId} {x : Operand} {i : Nat} : sOp P T ⟨dst, .field u x i, ty, pos, aft, g⟩ σ K = (dstOk dst σ.nt ∧ match ev1 σ x with | some s => sField T u s i σ (fun s => K (σ.put dst (.v s))) | none => False) := rfl
theorem e_indexAddr {u : TypeId} {x y : Operand} : sOp P T ⟨dst, .indexAddr u x y, ty, pos, aft, g⟩ σ K = (dstOk dst σ.nt ∧ match ev1 σ x, ev1 σ y with | some s, some (.d (.int _) i) => sIndexAddr T u s i σ (fun s => K (σ.put dst (.v s))) | _, _ => False) := rfl
theorem e_index {u : TypeId} {x y : Operand} : sOp P T ⟨dst, .index u x y, ty, pos, aft, g⟩ σ K = (dstOk dst σ.nt ∧ match ev1 σ x, ev1 σ y with | some s, some (.d (.int _) i) => sIndex T u s i (fun s => K (σ.put dst (.v s))) | _, _ => False) := rfl
theorem e_extract {x : Operand} {i : Nat} : sOp P T ⟨dst, .extract x i, ty, pos, aft, g⟩ σ K = (dstOk dst σ.nt ∧ sExtract (ev σ x) i (fun s => K (σ.put dst (.v s)))) := rfl
theorem e_len {x : Operand} {u : TypeId} : sOp P T ⟨dst, .call { callee := .builtin .len, args := #[x], argTypes := #[u] }, ty, pos, aft, g⟩ σ K = (dstOk dst σ.nt ∧ match ev1 σ x with | some s => sLen T u s (fun s => K (σ.put dst (.v s))) | none => False) := rfl
theorem e_append {x y : Operand} {t u : TypeId} : sOp P T ⟨dst, .call { callee := .builtin .append, args := #[x, y], argTypes := #[t, u] }, ty, pos, aft, g⟩ σ K = (dstOk dst σ.nt ∧ match ev1 σ x, ev1 σ y with | some s, some r => sAppend T t u s r σ (fun σ s => K (σ.put dst (.v s))) | _, _ => False) := rfl
theorem e_copy {x y : Operand} {t u : TypeId} : sOp P T ⟨dst, .call { callee := .builtin .copy, args := #[x, y], argTypes := #[t, u] }, ty, pos, aft, g⟩ σ K = (dstOk dst σ.nt ∧ match ev1 σ x, ev1 σ y with | some s, some r => sCopy T t u s r σ (fun σ s => K (σ.put dst (.v s))) | _, _ => False) := rfl
theorem e_min {x y : Operand} {us : Array TypeId} : sOp P T ⟨dst, .call { callee := .builtin .min, args := #[x, y], argTypes := us }, ty, pos, aft, g⟩ σ K = (dstOk dst σ.nt ∧ match ev1 σ x, ev1 σ y with
    | some (.d (.int k) l), some (.d (.int _) c) => K (σ.put dst (.v (.d (.int k) (.n (if c.int < l.int then c.int else l.int)))))
    | _, _ => False) := rfl
theorem e_max {x y : Operand} {us : Array TypeId} : sOp P T ⟨dst, .call { callee := .builtin .max, args := #[x, y], argTypes := us }, ty, pos, aft, g⟩ σ K = (dstOk dst σ.nt ∧ match ev1 σ x, ev1 σ y with
    | some (.d (.int k) l), some (.d (.int _) c) => K (σ.put dst (.v (.d (.int k) (.n (if l.int < c.int then c.int else l.int)))))
    | _, _ => False) := rfl
theorem e_call {f : FuncId} {xs : List Operand} {us : List TypeId} : sOp P T ⟨dst, .call { callee := .value (.func f), args := xs.toArray, argTypes := us.toArray }, ty, pos, aft, g⟩ σ K = (dstOk dst σ.nt ∧ match growF T f us with
    | true => (match sArgs T σ xs us with
      | some l => HCall P f l (fun rs => K (retSt σ (aRefs σ xs) rs dst)) ()
      | none => False)
    | false => (match pArgs T σ (mem1 f mutTab) xs us with
      | some (ss, rd) => pCall P f σ ss rd dst K (reach σ.ob 64 (namesL ss) [])
      | none => False)) := by
  show (_ ∧ sCallF P T f xs us σ dst K) = _
  unfold sCallF
  cases growF T f us <;> rfl
theorem e_callV {t : Nat} {xs : List Operand} {us : List TypeId} : sOp P T ⟨dst, .call { callee := .value (.tmp t), args := xs.toArray, argTypes := us.toArray }, ty, pos, aft, g⟩ σ K = (dstOk dst σ.nt ∧ match look σ.tm t with
    | some (.v (.fnv f A B)) => (isRow A && isRow B) = true ∧ (match pArgs T σ (mem1 f mutTab) xs us with
      | some (ss, rd) => pCall P f σ (app (svL A) (app ss (svL B))) rd dst K (reach σ.ob 64 (namesL (app (svL A) (app ss (svL B)))) [])
      | none => False)
    | _ => False) := rfl
theorem e_makeFunc {f : FuncId} {x y : List Operand} : sOp P T ⟨dst, .makeFunc (.func f) x.toArray y.toArray, ty, pos, aft, g⟩ σ K = (dstOk dst σ.nt ∧ match sHeld σ x, sHeld σ y with
    | some A, some B => K (σ.put dst (.v (.fnv f A B)))
    | _, _ => False) := rfl
theorem pCall_held {f : FuncId} {ss : List SV} {rd L : List Nat} : pCall P f σ ss rd dst K L = match obsAt σ.ob L L with
    | some obs => (nodup1 L && apB rd L && inB (namesL ss) L) = true ∧ HCallP P f (mapS (SE.pos L) ss) obs (fun rs ob n => K (retP σ L rd rs ob n dst)) ()
    | none => False := rfl

theorem e_region {w0 : Base} {id : Nat} {l : List Oper} {Q : Exit → St → Prop} : swp P T w0 (.region id l.toArray false) Q σ = sOps P T l.toArray l σ (fun σ => Q .normal σ) := rfl
theorem e_draw {w0 : Base} {id : Nat} {ops : Array Oper} {Q : Exit → St → Prop} : swp P T w0 (.region id ops true) Q σ = HDraw P w0 id ops Q σ () () := rfl
theorem e_seq {w0 : Base} {x y : Code} {Q : Exit → St → Prop} : swp P T w0 (.seq x y) Q σ = swp P T w0 x (sThen (fun σ => swp P T w0 y Q σ) Q) σ := rfl
theorem e_skip {w0 : Base} {Q : Exit → St → Prop} : swp P T w0 .skip Q σ = Q .normal σ := rfl
theorem e_label {w0 : Base} {i : Nat} {Q : Exit → St → Prop} : swp P T w0 (.label i) Q σ = Q .normal σ := rfl
theorem e_exit {w0 : Base} {i : Nat} {Q : Exit → St → Prop} : swp P T w0 (.exit i) Q σ = Q (.exit i) σ := rfl
theorem e_ret {w0 : Base} {Q : Exit → St → Prop} : swp P T w0 .ret Q σ = Q .ret σ := rfl
theorem e_block {w0 : Base} {i : Nat} {c : Code} {Q : Exit → St → Prop} : swp P T w0 (.block i c) Q σ = swp P T w0 c (sBlock i Q) σ := rfl
theorem e_loop {w0 : Base} {c : Code} {Q : Exit → St → Prop} : swp P T w0 (.loop c) Q σ = HLoop P w0 c Q σ () () := rfl
theorem e_cond {w0 : Base} {t : Nat} {x y : Code} {Q : Exit → St → Prop} : swp P T w0 (.cond (.tmp t) x y) Q σ = match look σ.tm t with
    | some (.v (.d .bool b)) => HIf b.bool (swp P T w0 x Q (σ.setB t true)) (swp P T w0 y Q (σ.setB t false)) () ()
    | _ => False := rfl

variable {ops : Array Oper} {l : List Oper} {op : Op}
theorem o_nil : sOps P T ops [] σ K = K σ := rfl
theorem o_plain : sOps P T ops (⟨dst, op, ty, pos, aft, none⟩ :: l) σ K = sOp P T ⟨dst, op, ty, pos, aft, none⟩ σ (fun σ => sOps P T ops l σ K) := rfl
theorem o_guard {j : Nat} {want : Bool} : sOps P T ops (⟨dst, op, ty, pos, aft, some (j, want)⟩ :: l) σ K =
    match gdst ops j with
    | some t => match look σ.tm t with
      | some (.v (.d .bool x)) => HIf x.bool
        (if want then sOp P T ⟨dst, op, ty, pos, aft, some (j, want)⟩ (σ.setB t true) (fun σ => sOps P T ops l σ K) else sSkip ⟨dst, op, ty, pos, aft, some (j, want)⟩ (σ.setB t true) (fun σ => sOps P T ops l σ K))
        (if want then sSkip ⟨dst, op, ty, pos, aft, some (j, want)⟩ (σ.setB t false) (fun σ => sOps P T ops l σ K) else sOp P T ⟨dst, op, ty, pos, aft, some (j, want)⟩ (σ.setB t false) (fun σ => sOps P T ops l σ K)) () ()
      | some .u => sSkip ⟨dst, op, ty, pos, aft, some (j, want)⟩ σ (fun σ => sOps P T ops l σ K)
      | _ => False
    | none => False := rfl
theorem gdst_zero {o : Oper} {l : List Oper} : gdst (o :: l).toArray 0 = o.dst := rfl
theorem gdst_succ {o : Oper} {l : List Oper} {n : Nat} : gdst (o :: l).toArray (n + 1) = gdst l.toArray n := by simp [gdst]
theorem o_skip {o : Oper} : sSkip o σ K = (dstOk o.dst σ.nt ∧ K (σ.put o.dst .u)) := rfl

theorem ev_tmp {nt nx : Nat} {tm : List (Nat × TV)} {ob : List (Nat × Ob)} {t : Nat} : ev ⟨nt, tm, ob, nx⟩ (.tmp t) = look tm t := rfl
theorem ev_int {k : IntKind} {n : Int} : ev σ (.const (.int k n)) = some (.v (.d (.int k) (.n n))) := rfl
theorem ev_bool {b : Bool} : ev σ (.const (.bool b)) = some (.v (.d .bool (.b b))) := rfl
theorem ev_str {s : ByteArray} : ev σ (.const (.string s)) = some (.v (.d .str (.s s))) := rfl
theorem ev_sl : ev σ (.const (.slice none 0 0)) = some (.v .nil) := rfl
theorem ev1_tmp {nt nx : Nat} {tm : List (Nat × TV)} {ob : List (Nat × Ob)} {t : Nat} : ev1 ⟨nt, tm, ob, nx⟩ (.tmp t) = match look tm t with | some (.v s) => some s | _ => none := rfl
theorem ev1_int {k : IntKind} {n : Int} : ev1 σ (.const (.int k n)) = some (.d (.int k) (.n n)) := rfl
theorem ev1_bool {b : Bool} : ev1 σ (.const (.bool b)) = some (.d .bool (.b b)) := rfl
theorem ev1_str {s : ByteArray} : ev1 σ (.const (.string s)) = some (.d .str (.s s)) := rfl
theorem ev1_sl : ev1 σ (.const (.slice none 0 0)) = some .nil := rfl
theorem put_some {nt nx : Nat} {tm : List (Nat × TV)} {ob : List (Nat × Ob)} {t : Nat} {v : TV} : St.put ⟨nt, tm, ob, nx⟩ (some t) v = ⟨nt, (t, v) :: tm, ob, nx⟩ := rfl
theorem put_none {v : TV} : St.put σ none v = σ := rfl
theorem setB_mk {nt nx : Nat} {tm : List (Nat × TV)} {ob : List (Nat × Ob)} {t : Nat} {b : Bool} : St.setB ⟨nt, tm, ob, nx⟩ t b = ⟨nt, (t, .v (.d .bool (.b b))) :: tm, ob, nx⟩ := rfl
theorem dst_none {n : Nat} : dstOk none n = True := rfl
theorem dst_some {n d : Nat} : dstOk (some d) n = (d < n) := rfl
end
section
variable {T : Tab} {t u : TypeId} {x y : SV} {σ : St} {K : St → SV → Prop}
theorem sCopy_held : sCopy T t u x y σ K = match Go.SE.look T t with
  | some (.sl e) =>
    match srcD T σ e u y with
    | some ds =>
      match slen x with
      | some len => HIf (decide (min ds.length len = 0)) (K σ (.d (.int .i64) (.n 0)))
        (match x with
         | .ref o p off len => match Go.SE.look σ.ob o with
           | some ob => match ob.c.get p with
             | some (.d (.arr N e') c) => e' = e ∧ (match ob.c.put p (.d (.arr N e) (.l (c.list.take off ++ ds.take (min ds.length len) ++ c.list.drop (off + min ds.length len)))) with
               | some c' => K { σ with ob := upd σ.ob o ⟨ob.t, c'⟩ } (.d (.int .i64) (.n (min ds.length len : Nat)))
               | none => False)
             | _ => False
           | none => False
         | _ => False) () ()
      | none => False
    | none => False
  | _ => False := rfl
end
section
variable {k k' : IntKind} {x y : D} {K : SV → Prop} {t' : Ty} {e : Ty} {n : Nat} {a b : Ty}
theorem b_add : sBin .add (.int k) x (.int k') y K = (k = k' ∧ K (.d (.int k) (.n (k.wrap (x.int + y.int))))) := rfl
theorem b_sub : sBin .sub (.int k) x (.int k') y K = (k = k' ∧ K (.d (.int k) (.n (k.wrap (x.int - y.int))))) := rfl
theorem b_mul : sBin .mul (.int k) x (.int k') y K = (k = k' ∧ K (.d (.int k) (.n (k.wrap (x.int * y.int))))) := rfl
theorem b_and : sBin .and (.int k) x (.int k') y K = (k = k' ∧ K (.d (.int k) (.n (bits .and k x.int y.int)))) := rfl
theorem b_or : sBin .or (.int k) x (.int k') y K = (k = k' ∧ K (.d (.int k) (.n (bits .or k x.int y.int)))) := rfl
theorem b_xor : sBin .xor (.int k) x (.int k') y K = (k = k' ∧ K (.d (.int k) (.n (bits .xor k x.int y.int)))) := rfl
theorem b_andNot : sBin .andNot (.int k) x (.int k') y K = (k = k' ∧ K (.d (.int k) (.n (bits .andNot k x.int y.int)))) := rfl
theorem b_shl : sBin .shl (.int k) x (.int k') y K = (0 ≤ y.int ∧ K (.d (.int k) (.n (k.wrap (x.int * 2 ^ min y.int.toNat k.bits))))) := rfl
theorem b_shr : sBin .shr (.int k) x (.int k') y K = (0 ≤ y.int ∧ K (.d (.int k) (.n (x.int.fdiv (2 ^ min y.int.toNat k.bits))))) := rfl
theorem b_quo : sBin .quo (.int k) x (.int k') y K = (k = k' ∧ y.int ≠ 0 ∧ K (.d (.int k) (.n (k.wrap (x.int.tdiv y.int))))) := rfl
theorem b_rem : sBin .rem (.int k) x (.int k') y K = (k = k' ∧ y.int ≠ 0 ∧ K (.d (.int k) (.n (x.int.tmod y.int)))) := rfl
theorem b_eql : sBin .eql (.int k) x (.int k') y K = (k = k' ∧ K (.d .bool (.b (decide (x.int = y.int))))) := rfl
theorem b_neq : sBin .neq (.int k) x (.int k') y K = (k = k' ∧ K (.d .bool (.b (!decide (x.int = y.int))))) := rfl
theorem b_lss : sBin .lss (.int k) x (.int k') y K = (k = k' ∧ K (.d .bool (.b (decide (x.int < y.int))))) := rfl
theorem b_leq : sBin .leq (.int k) x (.int k') y K = (k = k' ∧ K (.d .bool (.b (decide (x.int ≤ y.int))))) := rfl
theorem b_gtr : sBin .gtr (.int k) x (.int k') y K = (k = k' ∧ K (.d .bool (.b (decide (y.int < x.int))))) := rfl
theorem b_geq : sBin .geq (.int k) x (.int k') y K = (k = k' ∧ K (.d .bool (.b (decide (y.int ≤ x.int))))) := rfl
theorem b_seql : sBin .eql .str x .str y K = K (.d .bool (.b (x.str.toList == y.str.toList))) := rfl
theorem b_sneq : sBin .neq .str x .str y K = K (.d .bool (.b (!(x.str.toList == y.str.toList)))) := rfl
theorem b_sadd : sBin .add .str x .str y K = (x.str.size + y.str.size ≤ 9223372036854775807 ∧ K (.d .str (.s (x.str ++ y.str)))) := rfl
theorem b_beql : sBin .eql .bool x .bool y K = (Ty.bool = .bool ∧ Ty.cmp .bool = true ∧ Ty.depth .bool < 100 ∧ K (.d .bool (.b (x.bool == y.bool)))) := rfl
theorem b_bneq : sBin .neq .bool x .bool y K = (Ty.bool = .bool ∧ Ty.cmp .bool = true ∧ Ty.depth .bool < 100 ∧ K (.d .bool (.b (!(x.bool == y.bool))))) := rfl
theorem b_aeql : sBin .eql (.arr n e) x t' y K = (Ty.arr n e = t' ∧ Ty.cmp (.arr n e) = true ∧ Ty.depth (.arr n e) < 100 ∧ K (.d .bool (.b (deq (.arr n e) x y)))) := rfl
theorem b_aneq : sBin .neq (.arr n e) x t' y K = (Ty.arr n e = t' ∧ Ty.cmp (.arr n e) = true ∧ Ty.depth (.arr n e) < 100 ∧ K (.d .bool (.b (!deq (.arr n e) x y)))) := rfl
theorem b_ceql : sBin .eql (.cons a b) x t' y K = (Ty.cons a b = t' ∧ Ty.cmp (.cons a b) = true ∧ Ty.depth (.cons a b) < 100 ∧ K (.d .bool (.b (deq (.cons a b) x y)))) := rfl
theorem b_cneq : sBin .neq (.cons a b) x t' y K = (Ty.cons a b = t' ∧ Ty.cmp (.cons a b) = true ∧ Ty.depth (.cons a b) < 100 ∧ K (.d .bool (.b (!deq (.cons a b) x y)))) := rfl
end
def rep : Nat → D → List D
  | 0, _ => []
  | n + 1, x => x :: rep n x
theorem rep_zero {x : D} : rep 0 x = [] := rfl
theorem rep_succ {n : Nat} {x : D} : rep (n + 1) x = x :: rep n x := rfl
theorem rep_eq (n : Nat) (x : D) : List.replicate n x = rep n x := by induction n with
  | zero => rfl
  | succ n ih => rw [List.replicate_succ, ih, rep]
theorem sBuildS_held {T : Tab} {t : TypeId} {n : Nat} {parts : List (Nat × Operand)} {σ : St} {K : St → SV → Prop} : sBuildS T t n parts σ K = match Go.SE.look T t with
  | some (.sl e) => n * e.size ≤ 16777216 ∧ bldS σ e n parts (rep n e.zeroD) [] fun ds rs =>
      K { σ with ob := (σ.nx, ⟨.arr n e, .d (.arr n e) (.l ds)⟩) :: dels σ.ob rs, nx := σ.nx + 1 } (.ref σ.nx [] 0 n)
  | _ => False := by
  simp only [← rep_eq]; rfl
theorem retSt_mk {nt nx : Nat} {tm : List (Nat × TV)} {ob : List (Nat × Ob)} {rf : List Nat} {rs : List RV} {dst : Option Nat} :
    retSt ⟨nt, tm, ob, nx⟩ rf rs dst = (if rs.all RV.flat = true then ⟨nt, tm, app (newObs nx rs) ob, nx + rs.length⟩ else ⟨nt, tm, app (newObs nx rs) (dels ob rf), nx + rs.length⟩ : St).put dst (tvOf (newSVs nx rs)) := by
  unfold retSt
  split <;> rfl
theorem tv_one {x : SV} : tvOf [x] = .v x := rfl
theorem tv_nil : tvOf [] = .tup [] := rfl
theorem tv_two {x y : SV} {l : List SV} : tvOf (x :: y :: l) = .tup (x :: y :: l) := rfl
theorem rf_d {t : Ty} {x : D} : RV.flat (.d t x) = t.flat := rfl
theorem rf_own {t : Ty} {x : List D} : RV.flat (.own t x) = t.flat := rfl
theorem no_d {n : Nat} {t : Ty} {x : D} {rs : List RV} : newObs n (.d t x :: rs) = newObs (n + 1) rs := rfl
theorem no_own {n : Nat} {e : Ty} {ds : List D} {rs : List RV} : newObs n (.own e ds :: rs) = (n, ⟨.arr ds.length e, .d (.arr ds.length e) (.l ds)⟩) :: newObs (n + 1) rs := rfl
theorem no_nil {n : Nat} : newObs n [] = [] := rfl
theorem ns_d {n : Nat} {t : Ty} {x : D} {rs : List RV} : newSVs n (.d t x :: rs) = .d t x :: newSVs (n + 1) rs := rfl
theorem ns_own {n : Nat} {e : Ty} {ds : List D} {rs : List RV} : newSVs n (.own e ds :: rs) = .ref n [] 0 ds.length :: newSVs (n + 1) rs := rfl
theorem ns_nil {n : Nat} : newSVs n [] = [] := rfl
theorem fl_bool : Ty.flat .bool = true := rfl
theorem fl_int {k : IntKind} : Ty.flat (.int k) = true := rfl
theorem fl_str : Ty.flat .str = true := rfl
theorem fl_nil : Ty.flat .nil = true := rfl
theorem fl_arr {n : Nat} {e : Ty} : Ty.flat (.arr n e) = e.flat := rfl
theorem fl_sl {e : Ty} : Ty.flat (.sl e) = false := rfl
theorem fl_ptr : Ty.flat .ptr = false := rfl
theorem fl_cons {a b : Ty} : Ty.flat (.cons a b) = (a.flat && b.flat) := rfl
theorem s1_f {t : Ty} {i : Nat} : Ty.sub1 t (.f i) = t.subF i := by cases t <;> rfl
theorem s1_ix {n : Nat} {e : Ty} {i : Nat} : Ty.sub1 (.arr n e) (.ix i) = some e := rfl
theorem s1_win {n : Nat} {e : Ty} {o m : Nat} : Ty.sub1 (.arr n e) (.win o m) = some (.arr m e) := rfl
theorem ok_ix {n : Nat} {e : Ty} {i : Nat} : Ty.ok1 (.arr n e) (.ix i) = (i < n) := rfl
theorem ok_f {t : Ty} {i : Nat} : Ty.ok1 t (.f i) = True := by cases t <;> rfl
theorem sub_nil {t : Ty} : Ty.sub t [] = some t := by cases t <;> rfl
theorem sub_cons {t : Ty} {s : Step} {p : List Step} : Ty.sub t (s :: p) = (t.sub1 s).bind (·.sub p) := by cases t <;> rfl
theorem get_nil {v : SV} : SV.get v [] = some v := by cases v <;> rfl
theorem get_cons {v : SV} {s : Step} {p : List Step} : SV.get v (s :: p) = (v.step1 s).bind (·.get p) := by cases v <;> rfl
theorem put_nil {c v : SV} : SV.put c [] v = some v := by cases c <;> rfl
theorem put_cons {c v : SV} {s : Step} {p : List Step} : SV.put c (s :: p) v = (c.step1 s).bind fun u => (u.put p v).bind fun u' => c.set1 s u' := by cases c <;> rfl
theorem sf_d {t : Ty} {x : D} {i : Nat} : SV.stepF (.d t x) i = (t.subF i).map fun a => .d a (x.at i) := by cases i <;> rfl
theorem sf_zero {a b : SV} : SV.stepF (.acons a b) 0 = some a := rfl
theorem sf_succ {a b : SV} {i : Nat} : SV.stepF (.acons a b) (i + 1) = b.stepF i := rfl
theorem subF_zero {a b : Ty} : Ty.subF (.cons a b) 0 = some a := rfl
theorem subF_succ {a b : Ty} {i : Nat} : Ty.subF (.cons a b) (i + 1) = b.subF i := rfl
theorem st1_f {v : SV} {i : Nat} : SV.step1 v (.f i) = v.stepF i := by cases v <;> rfl
theorem st1_ix {n : Nat} {e : Ty} {x : D} {i : Nat} : SV.step1 (.d (.arr n e) x) (.ix i) = some (.d e (x.at i)) := rfl
theorem st1_win {n : Nat} {e : Ty} {x : D} {o m : Nat} : SV.step1 (.d (.arr n e) x) (.win o m) = some (.d (.arr m e) (.l ((x.list.drop o).take m))) := rfl
theorem se_f {c v : SV} {i : Nat} : SV.set1 c (.f i) v = c.setF i v := by cases c <;> rfl
theorem se_ix {n : Nat} {e a : Ty} {x y : D} {i : Nat} : SV.set1 (.d (.arr n e) x) (.ix i) (.d a y) = if a = e then some (.d (.arr n e) (.l (x.list.set i y))) else none := rfl
theorem deq_self : ∀ (t : Ty) (x : D), deq t x x = true
  | .bool, x => by simp [deq]
  | .int _, x => by simp [deq]
  | .str, x => by simp [deq]
  | .arr n e, x => by simp only [deq, List.all_eq_true]; exact fun i _ => deq_self e _
  | .cons a b, x => by simp only [deq, Bool.and_eq_true]; exact ⟨deq_self a _, deq_self b _⟩
  | .sl _, x => rfl
  | .nil, x => rfl
  | .ptr, x => rfl
theorem z_arr {n : Nat} {e : Ty} : Ty.zeroSV (.arr n e) = .d (.arr n e) (.l (List.replicate n e.zeroD)) := rfl
theorem z_int {k : IntKind} : Ty.zeroSV (.int k) = .d (.int k) (.n 0) := rfl
theorem z_bool : Ty.zeroSV .bool = .d .bool (.b false) := rfl
theorem z_str : Ty.zeroSV .str = .d .str (.s .empty) := rfl
theorem z_sl {e : Ty} : Ty.zeroSV (.sl e) = .nil := rfl
theorem z_nil : Ty.zeroSV .nil = .anil := rfl
theorem z_cons {a b : Ty} : Ty.zeroSV (.cons a b) = if (a.flat && b.flat) = true then .d (.cons a b) (Ty.cons a b).zeroD else .acons a.zeroSV b.zeroSV := rfl
theorem at_zero {x : D} {l : List D} : D.at (.l (x :: l)) 0 = x := rfl
theorem at_succ {x : D} {l : List D} {n : Nat} : D.at (.l (x :: l)) (n + 1) = D.at (.l l) n := rfl
theorem cast_lit {n : Nat} : ((no_index (OfNat.ofNat n : Nat) : Nat) : Int) = (OfNat.ofNat n : Int) := rfl
theorem tn_add (a b : Nat) : ((a : Int) + (b : Int)).toNat = a + b := by omega
theorem D.int_n {x : Int} : D.int (.n x) = x := rfl
theorem D.bool_b {x : Bool} : D.bool (.b x) = x := rfl
theorem D.str_s {x : ByteArray} : D.str (.s x) = x := rfl
theorem D.list_l {x : List D} : D.list (.l x) = x := rfl
theorem hasTy_d {σ : St} {t u : Ty} {x : D} : hasTy σ t (.d u x) = (u = t) := by cases t <;> rfl
theorem den_d {σ : St} {t u : Ty} {x : D} : den σ t (.d u x) = if u = t then some x else none := by cases t <;> rfl
theorem gpre : type_of% (And.intro @e_move (And.intro @e_assign (And.intro @e_bin (And.intro @e_un (And.intro @e_conv (And.intro @e_pick (And.intro @e_alloc (And.intro @e_box (And.intro @e_build (And.intro @e_buildS (And.intro @e_load (And.intro @e_store (And.intro @e_nil (And.intro @e_arr (And.intro @e_make (And.intro @e_slice (And.intro @e_fieldAddr (And.intro @e_field (And.intro @e_indexAddr (And.intro @e_index (And.intro @e_extract (And.intro @e_len (And.intro @e_append (And.intro @e_copy (And.intro @e_min (And.intro @e_max (And.intro @e_call (And.intro @e_region (And.intro @e_draw (And.intro @e_seq (And.intro @e_skip (And.intro @e_label (And.intro @e_exit (And.intro @e_ret (And.intro @e_block (And.intro @e_loop (And.intro @e_cond (And.intro @o_nil (And.intro @o_plain (And.intro @o_guard (And.intro @o_skip (And.intro @sThen_normal (And.intro @sThen_ret (And.intro @sThen_exit (And.intro @sBlock_normal (And.intro @sBlock_ret (And.intro @sBlock_exit (And.intro @sExit_ret (And.intro @sExit_normal (And.intro @b_add (And.intro @b_sub (And.intro @b_mul (And.intro @b_and (And.intro @b_or (And.intro @b_xor (And.intro @b_andNot (And.intro @b_shl (And.intro @b_shr (And.intro @b_quo (And.intro @b_rem (And.intro @b_eql (And.intro @b_neq (And.intro @b_lss (And.intro @b_leq (And.intro @b_gtr (And.intro @b_geq (And.intro @b_seql (And.intro @b_sneq (And.intro @b_sadd (And.intro @b_beql (And.intro @b_bneq (And.intro @b_aeql (And.intro @b_aneq (And.intro @b_ceql (And.intro @b_cneq (And.intro @sUn.eq_def (And.intro @sConv.eq_def (And.intro @sLen.eq_def (And.intro @sBounds.eq_def (And.intro @sSlice.eq_def (And.intro @sMake.eq_def (And.intro @sAppend.eq_def (And.intro @sLoad.eq_def (And.intro @sStore.eq_def (And.intro @sIndexAddr.eq_def (And.intro @sIndex.eq_def (And.intro @sFieldAddr.eq_def (And.intro @sField.eq_def (And.intro @sExtract.eq_def (And.intro @sAlloc.eq_def (And.intro @sBox.eq_def (And.intro @sArr.eq_def (And.intro @sCopy_held (And.intro @sBuildS_held (And.intro @sBuild.eq_def (And.intro @sRet.eq_def (And.intro @HIf_true (@HIf_false)))))))))))))))))))))))))))))))))))))))))))))))))))))))))))))))))))))))))))))))))))))))))))))))))) := And.intro @e_move (And.intro @e_assign (And.intro @e_bin (And.intro @e_un (And.intro @e_conv (And.intro @e_pick (And.intro @e_alloc (And.intro @e_box (And.intro @e_build (And.intro @e_buildS (And.intro @e_load (And.intro @e_store (And.intro @e_nil (And.intro @e_arr (And.intro @e_make (And.intro @e_slice (And.intro @e_fieldAddr (And.intro @e_field (And.intro @e_indexAddr (And.intro @e_index (And.intro @e_extract (And.intro @e_len (And.intro @e_append (And.intro @e_copy (And.intro @e_min (And.intro @e_max (And.intro @e_call (And.intro @e_region (And.intro @e_draw (And.intro @e_seq (And.intro @e_skip (And.intro @e_label (And.intro @e_exit (And.intro @e_ret (And.intro @e_block (And.intro @e_loop (And.intro @e_cond (And.intro @o_nil (And.intro @o_plain (And.intro @o_guard (And.intro @o_skip (And.intro @sThen_normal (And.intro @sThen_ret (And.intro @sThen_exit (And.intro @sBlock_normal (And.intro @sBlock_ret (And.intro @sBlock_exit (And.intro @sExit_ret (And.intro @sExit_normal (And.intro @b_add (And.intro @b_sub (And.intro @b_mul (And.intro @b_and (And.intro @b_or (And.intro @b_xor (And.intro @b_andNot (And.intro @b_shl (And.intro @b_shr (And.intro @b_quo (And.intro @b_rem (And.intro @b_eql (And.intro @b_neq (And.intro @b_lss (And.intro @b_leq (And.intro @b_gtr (And.intro @b_geq (And.intro @b_seql (And.intro @b_sneq (And.intro @b_sadd (And.intro @b_beql (And.intro @b_bneq (And.intro @b_aeql (And.intro @b_aneq (And.intro @b_ceql (And.intro @b_cneq (And.intro @sUn.eq_def (And.intro @sConv.eq_def (And.intro @sLen.eq_def (And.intro @sBounds.eq_def (And.intro @sSlice.eq_def (And.intro @sMake.eq_def (And.intro @sAppend.eq_def (And.intro @sLoad.eq_def (And.intro @sStore.eq_def (And.intro @sIndexAddr.eq_def (And.intro @sIndex.eq_def (And.intro @sFieldAddr.eq_def (And.intro @sField.eq_def (And.intro @sExtract.eq_def (And.intro @sAlloc.eq_def (And.intro @sBox.eq_def (And.intro @sArr.eq_def (And.intro @sCopy_held (And.intro @sBuildS_held (And.intro @sBuild.eq_def (And.intro @sRet.eq_def (And.intro @HIf_true (@HIf_false)))))))))))))))))))))))))))))))))))))))))))))))))))))))))))))))))))))))))))))))))))))))))))))))))
theorem gpost : type_of% (And.intro @gdst_zero (And.intro @gdst_succ (And.intro @ev_tmp (And.intro @ev_int (And.intro @ev_bool (And.intro @ev_str (And.intro @ev_sl (And.intro @ev1_tmp (And.intro @ev1_int (And.intro @ev1_bool (And.intro @ev1_str (And.intro @ev1_sl (And.intro @put_some (And.intro @put_none (And.intro @setB_mk (And.intro @dst_none (And.intro @dst_some (And.intro @D.int_n (And.intro @D.bool_b (And.intro @D.str_s (And.intro @D.list_l (And.intro @hasTy_d (And.intro @den_d (And.intro @HIf_true (And.intro @HIf_false (And.intro @sub_nil (And.intro @sub_cons (And.intro @s1_f (And.intro @s1_ix (And.intro @s1_win (And.intro @ok_ix (And.intro @ok_f (And.intro @subF_zero (And.intro @subF_succ (And.intro @sf_d (And.intro @sf_zero (And.intro @sf_succ (And.intro @get_nil (And.intro @get_cons (And.intro @put_nil (And.intro @put_cons (And.intro @st1_f (And.intro @st1_ix (And.intro @st1_win (And.intro @se_f (And.intro @se_ix (And.intro @tn_add (And.intro @deq_self (And.intro @z_arr (And.intro @z_int (And.intro @z_bool (And.intro @z_str (And.intro @z_sl (And.intro @z_nil (And.intro @z_cons (And.intro @at_zero (And.intro @at_succ (And.intro @cast_lit (And.intro @rep_zero (And.intro @rep_succ (And.intro @retSt_mk (And.intro @tv_one (And.intro @tv_nil (And.intro @tv_two (And.intro @rf_d (And.intro @rf_own (And.intro @no_d (And.intro @no_own (And.intro @no_nil (And.intro @ns_d (And.intro @ns_own (And.intro @ns_nil (And.intro @fl_bool (And.intro @fl_int (And.intro @fl_str (And.intro @fl_nil (And.intro @fl_arr (And.intro @fl_sl (And.intro @fl_ptr (@fl_cons)))))))))))))))))))))))))))))))))))))))))))))))))))))))))))))))))))))))))))))))) := And.intro @gdst_zero (And.intro @gdst_succ (And.intro @ev_tmp (And.intro @ev_int (And.intro @ev_bool (And.intro @ev_str (And.intro @ev_sl (And.intro @ev1_tmp (And.intro @ev1_int (And.intro @ev1_bool (And.intro @ev1_str (And.intro @ev1_sl (And.intro @put_some (And.intro @put_none (And.intro @setB_mk (And.intro @dst_none (And.intro @dst_some (And.intro @D.int_n (And.intro @D.bool_b (And.intro @D.str_s (And.intro @D.list_l (And.intro @hasTy_d (And.intro @den_d (And.intro @HIf_true (And.intro @HIf_false (And.intro @sub_nil (And.intro @sub_cons (And.intro @s1_f (And.intro @s1_ix (And.intro @s1_win (And.intro @ok_ix (And.intro @ok_f (And.intro @subF_zero (And.intro @subF_succ (And.intro @sf_d (And.intro @sf_zero (And.intro @sf_succ (And.intro @get_nil (And.intro @get_cons (And.intro @put_nil (And.intro @put_cons (And.intro @st1_f (And.intro @st1_ix (And.intro @st1_win (And.intro @se_f (And.intro @se_ix (And.intro @tn_add (And.intro @deq_self (And.intro @z_arr (And.intro @z_int (And.intro @z_bool (And.intro @z_str (And.intro @z_sl (And.intro @z_nil (And.intro @z_cons (And.intro @at_zero (And.intro @at_succ (And.intro @cast_lit (And.intro @rep_zero (And.intro @rep_succ (And.intro @retSt_mk (And.intro @tv_one (And.intro @tv_nil (And.intro @tv_two (And.intro @rf_d (And.intro @rf_own (And.intro @no_d (And.intro @no_own (And.intro @no_nil (And.intro @ns_d (And.intro @ns_own (And.intro @ns_nil (And.intro @fl_bool (And.intro @fl_int (And.intro @fl_str (And.intro @fl_nil (And.intro @fl_arr (And.intro @fl_sl (And.intro @fl_ptr (@fl_cons)))))))))))))))))))))))))))))))))))))))))))))))))))))))))))))))))))))))))))))))
theorem agg_arr {n : Nat} {e : Ty} : Ty.agg (.arr n e) = true := rfl
theorem agg_cons {a b : Ty} : Ty.agg (.cons a b) = true := rfl
theorem agg_nil : Ty.agg .nil = true := rfl
theorem stp_arr {n : Nat} {e : Ty} {i : Nat} : Ty.stp (.arr n e) i = .ix i := rfl
theorem stp_cons {a b : Ty} {i : Nat} : Ty.stp (.cons a b) i = .f i := rfl
theorem stp_nil {i : Nat} : Ty.stp .nil i = .f i := rfl
theorem e_scope {P : Program} {T : Tab} {w0 : Base} {c : Code} {Q : Exit → St → Prop} {σ : St} : swp P T w0 (.scope c) Q σ = swp P T w0 c (sScope Q) σ := rfl
theorem tn_lit {a n : Nat} : ((a : Int) + (no_index (OfNat.ofNat n : Int))).toNat = a + OfNat.ofNat n := by
  show ((a : Int) + (n : Int)).toNat = a + n
  omega
theorem gmore : type_of% (And.intro @e_scope (And.intro @sScope_normal (And.intro @sScope_ret (And.intro @sScope_exit (And.intro @agg_arr (And.intro @agg_cons (And.intro @agg_nil (And.intro @stp_arr (And.intro @stp_cons (And.intro @stp_nil (@tn_lit))))))))))) := And.intro @e_scope (And.intro @sScope_normal (And.intro @sScope_ret (And.intro @sScope_exit (And.intro @agg_arr (And.intro @agg_cons (And.intro @agg_nil (And.intro @stp_arr (And.intro @stp_cons (And.intro @stp_nil (@tn_lit))))))))))
theorem len_rev {α : Type} {l₁ l₂ : List α} : l₁.length + l₂.length = (l₁ ++ l₂).length := List.length_append.symm
theorem gall : type_of% (And.intro @eq_self.{1} (And.intro @Int.toNat_natCast (And.intro @Int.toNat_zero (And.intro @decide_true (And.intro @decide_false (And.intro @Bool.not_true (And.intro @Bool.not_false (And.intro @true_and (And.intro @and_true (And.intro @Bool.false_eq_true (And.intro @Option.isSome_some.{0} (And.intro @Option.some.injEq.{0} (And.intro @Option.bind_some.{0, 0} (And.intro @Option.map_some.{0, 0} (And.intro @tyIf.eq_def (And.intro @slen.eq_def (And.intro @opInt.eq_def (And.intro @srcD.eq_def (And.intro @rv1.eq_def (And.intro @resSV.eq_def (And.intro @List.cons_append.{0} (And.intro @List.nil_append.{0} (And.intro @List.append_nil.{0} (And.intro @List.length_cons.{0} (And.intro @List.length_nil.{0} (And.intro @BEq.rfl.{0} (And.intro @IntWalk.i64_in (And.intro @IntWalk.u64_in (And.intro @IntWalk.u32_in (And.intro @IntWalk.u16_in (And.intro @IntWalk.u8_in (And.intro @List.drop_zero.{0} (And.intro @List.set_cons_zero.{0} (And.intro @List.set_cons_succ.{0} (And.intro @List.take_succ_cons.{0} (And.intro @List.take_zero.{0} (And.intro @Nat.zero_add (And.intro @Nat.mul_one (And.intro @len_rev (And.intro @List.take_length.{0} (And.intro @List.take_nil.{0} (And.intro @List.drop_nil.{0} (And.intro @List.drop_succ_cons.{0} (And.intro @List.replicate_zero.{0} (And.intro @List.all_cons.{0} (And.intro @List.all_nil.{0} (And.intro @Bool.and_true (And.intro @Bool.true_and (And.intro @Bool.and_self (And.intro @List.getElem?_cons_zero.{0} (And.intro @List.getElem?_cons_succ.{0} (And.intro @Bool.false_and (@Bool.and_false))))))))))))))))))))))))))))))))))))))))))))))))))))) := And.intro @eq_self.{1} (And.intro @Int.toNat_natCast (And.intro @Int.toNat_zero (And.intro @decide_true (And.intro @decide_false (And.intro @Bool.not_true (And.intro @Bool.not_false (And.intro @true_and (And.intro @and_true (And.intro @Bool.false_eq_true (And.intro @Option.isSome_some.{0} (And.intro @Option.some.injEq.{0} (And.intro @Option.bind_some.{0, 0} (And.intro @Option.map_some.{0, 0} (And.intro @tyIf.eq_def (And.intro @slen.eq_def (And.intro @opInt.eq_def (And.intro @srcD.eq_def (And.intro @rv1.eq_def (And.intro @resSV.eq_def (And.intro @List.cons_append.{0} (And.intro @List.nil_append.{0} (And.intro @List.append_nil.{0} (And.intro @List.length_cons.{0} (And.intro @List.length_nil.{0} (And.intro @BEq.rfl.{0} (And.intro @IntWalk.i64_in (And.intro @IntWalk.u64_in (And.intro @IntWalk.u32_in (And.intro @IntWalk.u16_in (And.intro @IntWalk.u8_in (And.intro @List.drop_zero.{0} (And.intro @List.set_cons_zero.{0} (And.intro @List.set_cons_succ.{0} (And.intro @List.take_succ_cons.{0} (And.intro @List.take_zero.{0} (And.intro @Nat.zero_add (And.intro @Nat.mul_one (And.intro @len_rev (And.intro @List.take_length.{0} (And.intro @List.take_nil.{0} (And.intro @List.drop_nil.{0} (And.intro @List.drop_succ_cons.{0} (And.intro @List.replicate_zero.{0} (And.intro @List.all_cons.{0} (And.intro @List.all_nil.{0} (And.intro @Bool.and_true (And.intro @Bool.true_and (And.intro @Bool.and_self (And.intro @List.getElem?_cons_zero.{0} (And.intro @List.getElem?_cons_succ.{0} (And.intro @Bool.false_and (@Bool.and_false))))))))))))))))))))))))))))))))))))))))))))))))))))
theorem nm_d {t : Ty} {x : D} : names (.d t x) = [] := rfl
theorem rb_d {t : Ty} {x : D} {f : Nat → Nat} : renB f (.d t x) = (.d t x) := rfl
theorem fs_d {t : Ty} {x : D} : flatSV (.d t x) = t.flat := rfl
theorem os_d {t : Ty} {x : D} : oneSV (.d t x) = (!t.agg) := rfl
theorem nm_nil  : names .nil = [] := rfl
theorem rb_nil  {f : Nat → Nat} : renB f .nil = .nil := rfl
theorem fs_nil  : flatSV .nil = true := rfl
theorem os_nil  : oneSV .nil = true := rfl
theorem nm_ref {o : Nat} {p : List Step} {a n : Nat} : names (.ref o p a n) = [o] := rfl
theorem rb_ref {o : Nat} {p : List Step} {a n : Nat} {f : Nat → Nat} : renB f (.ref o p a n) = .ref (f o) p a n := rfl
theorem fs_ref {o : Nat} {p : List Step} {a n : Nat} : flatSV (.ref o p a n) = true := rfl
theorem os_ref {o : Nat} {p : List Step} {a n : Nat} : oneSV (.ref o p a n) = true := rfl
theorem nm_ptr {o : Nat} {p : List Step} : names (.ptr o p) = [o] := rfl
theorem rb_ptr {o : Nat} {p : List Step} {f : Nat → Nat} : renB f (.ptr o p) = .ptr (f o) p := rfl
theorem fs_ptr {o : Nat} {p : List Step} : flatSV (.ptr o p) = true := rfl
theorem os_ptr {o : Nat} {p : List Step} : oneSV (.ptr o p) = true := rfl
theorem nm_vp {t : Ty} {x : D} : names (.vp t x) = [] := rfl
theorem rb_vp {t : Ty} {x : D} {f : Nat → Nat} : renB f (.vp t x) = (.vp t x) := rfl
theorem fs_vp {t : Ty} {x : D} : flatSV (.vp t x) = false := rfl
theorem os_vp {t : Ty} {x : D} : oneSV (.vp t x) = true := rfl
theorem nm_anil  : names .anil = [] := rfl
theorem rb_anil  {f : Nat → Nat} : renB f .anil = .anil := rfl
theorem fs_anil  : flatSV .anil = true := rfl
theorem os_anil  : oneSV .anil = false := rfl
theorem nm_acons {x y : SV} : names (.acons x y) = app (names x) (names y) := rfl
theorem rb_acons {x y : SV} {f : Nat → Nat} : renB f (.acons x y) = .acons (renB f x) (renB f y) := rfl
theorem fs_acons {x y : SV} : flatSV (.acons x y) = (flatSV x && flatSV y) := rfl
theorem os_acons {x y : SV} : oneSV (.acons x y) = false := rfl
theorem nm_fnv {g : Nat} {x y : SV} : names (.fnv g x y) = app (names x) (names y) := rfl
theorem rb_fnv {g : Nat} {x y : SV} {f : Nat → Nat} : renB f (.fnv g x y) = .fnv g (renB f x) (renB f y) := rfl
theorem fs_fnv {g : Nat} {x y : SV} : flatSV (.fnv g x y) = (flatSV x && flatSV y) := rfl
theorem os_fnv {g : Nat} {x y : SV} : oneSV (.fnv g x y) = true := rfl
theorem na_nil {b i : Nat} : nam [] b i = b + i := rfl
theorem na_zero {x b : Nat} {l : List Nat} : nam (x :: l) b 0 = x := rfl
theorem na_succ {x b i : Nat} {l : List Nat} : nam (x :: l) b (i + 1) = nam l b i := rfl
theorem ps_nil {o : Nat} : pos [] o = 0 := rfl
theorem ps_cons {x o : Nat} {l : List Nat} : pos (x :: l) o = if x = o then 0 else pos l o + 1 := rfl
theorem ro_nil {f : Nat → Nat} : renObs f [] = [] := rfl
theorem ro_cons {f : Nat → Nat} {i : Nat} {t : Ty} {c : SV} {l : List (Nat × Ob)} : renObs f ((i, ⟨t, c⟩) :: l) = (f i, ⟨t, renB f c⟩) :: renObs f l := rfl
theorem ms_nil {f : Nat → Nat} : mapS f [] = [] := rfl
theorem ms_cons {f : Nat → Nat} {x : SV} {l : List SV} : mapS f (x :: l) = renB f x :: mapS f l := rfl
theorem m1_nil {x : Nat} : mem1 x [] = false := rfl
theorem m1_cons {x y : Nat} {l : List Nat} : mem1 x (y :: l) = if x = y then true else mem1 x l := rfl
theorem n1_nil : nodup1 [] = true := rfl
theorem n1_cons {x : Nat} {l : List Nat} : nodup1 (x :: l) = if mem1 x l = true then false else nodup1 l := rfl
theorem in_nil {L : List Nat} : inB [] L = true := rfl
theorem in_cons {x : Nat} {l L : List Nat} : inB (x :: l) L = if mem1 x L = true then inB l L else false := rfl
theorem ap_nil {L : List Nat} : apB [] L = true := rfl
theorem ap_cons {x : Nat} {l L : List Nat} : apB (x :: l) L = if mem1 x L = true then false else apB l L := rfl
theorem nl_nil : namesL [] = [] := rfl
theorem nl_cons {x : SV} {l : List SV} : namesL (x :: l) = app (names x) (namesL l) := rfl
theorem oa_nil {ob : List (Nat × Ob)} {L : List Nat} : obsAt ob L [] = some [] := rfl
theorem oa_cons {ob : List (Nat × Ob)} {L l : List Nat} {o : Nat} : obsAt ob L (o :: l) = match Go.SE.look ob o with
  | some x => if inB (names x.c) L = true then (match obsAt ob L l with | some l => some (⟨x.t, renB (pos L) x.c⟩ :: l) | none => none) else none
  | none => none := rfl
theorem re_nil {ob : List (Nat × Ob)} {n : Nat} {acc : List Nat} : reach ob (n + 1) [] acc = acc := rfl
theorem re_cons {ob : List (Nat × Ob)} {n o : Nat} {l acc : List Nat} : reach ob (n + 1) (o :: l) acc = if mem1 o acc = true then reach ob n l acc else match Go.SE.look ob o with
  | some x => reach ob n (app (names x.c) l) (app acc [o])
  | none => reach ob n l (app acc [o]) := rfl
theorem fo_nil : flatOb [] = true := rfl
theorem fo_cons {o : Nat} {t : Ty} {c : SV} {l : List (Nat × Ob)} : flatOb ((o, ⟨t, c⟩) :: l) = if flatSV c = true then flatOb l else false := rfl
theorem fll_nil : flatL [] = true := rfl
theorem fll_cons {x : SV} {l : List SV} : flatL (x :: l) = if flatSV x = true then flatL l else false := rfl
theorem rp_mk {nt nx : Nat} {tm : List (Nat × TV)} {ob ob2 : List (Nat × Ob)} {L rd : List Nat} {rs : List SV} {n : Nat} {dst : Option Nat} : retP ⟨nt, tm, ob, nx⟩ L rd rs ob2 n dst = (match flatL rs && flatOb ob2 with
    | true => (⟨nt, tm, app (renObs (nam L nx) ob2) (dels ob L), nx + (n - L.length)⟩ : St).put dst (tvOf (mapS (nam L nx) rs))
    | false => (⟨nt, tm, app (renObs (nam L nx) ob2) (dels (dels ob L) rd), nx + (n - L.length)⟩ : St).put dst (tvOf (mapS (nam L nx) rs))) := by
  unfold retP
  cases flatL rs && flatOb ob2 <;> rfl
theorem pa_raw {T : Tab} {σ : St} {u : TypeId} {s : SV} : pArg T σ true u s = some (s, []) := rfl
theorem pa_val {T : Tab} {σ : St} {u : TypeId} {s : SV} : pArg T σ false u s = match Go.SE.look T u with
  | some t => match den σ t s with | some d => some (.d t d, refs s) | none => none
  | none => some (s, []) := rfl
theorem pas_nil {T : Tab} {σ : St} {r : Bool} {us : List TypeId} : pArgs T σ r [] us = some ([], []) := rfl
theorem pas_cons {T : Tab} {σ : St} {r : Bool} {x : Operand} {xs : List Operand} {u : TypeId} {us : List TypeId} : pArgs T σ r (x :: xs) (u :: us) = match ev1 σ x with
  | some s => match pArg T σ r u s with
    | some (s', r') => match pArgs T σ r xs us with
      | some (ss, rd) => some (s' :: ss, app r' rd)
      | none => none
    | none => none
  | none => none := rfl
theorem al_nil {T : Tab} : allT T [] = true := rfl
theorem al_cons {T : Tab} {u : TypeId} {us : List TypeId} : allT T (u :: us) = match Go.SE.look T u with | some _ => allT T us | none => false := rfl
theorem gr_mk {T : Tab} {f : FuncId} {us : List TypeId} : growF T f us = match mem1 f mutTab with | true => false | false => allT T us := by
  unfold growF
  cases mem1 f mutTab <;> rfl
theorem sh_nil {σ : St} : sHeld σ [] = some .anil := rfl
theorem sh_cons {σ : St} {x : Operand} {xs : List Operand} : sHeld σ (x :: xs) = match ev1 σ x with
  | some s => if oneSV s = true then (match sHeld σ xs with | some r => some (.acons s r) | none => none) else none
  | none => none := rfl
theorem sl_anil : svL .anil = [] := rfl
theorem sl_acons {x y : SV} : svL (.acons x y) = x :: svL y := rfl
theorem ir_anil : isRow .anil = true := rfl
theorem ir_acons {x y : SV} : isRow (.acons x y) = isRow y := rfl
theorem ev_fn {σ : St} {f : FuncId} : ev σ (.func f) = some (.v (.fnv f .anil .anil)) := rfl
theorem ev1_fn {σ : St} {f : FuncId} : ev1 σ (.func f) = some (.fnv f .anil .anil) := rfl
theorem ap2_nil {l : List Nat} : app [] l = l := rfl
theorem gp : type_of% (And.intro @nm_d (And.intro @rb_d (And.intro @fs_d (And.intro @os_d (And.intro @nm_nil (And.intro @rb_nil (And.intro @fs_nil (And.intro @os_nil (And.intro @nm_ref (And.intro @rb_ref (And.intro @fs_ref (And.intro @os_ref (And.intro @nm_ptr (And.intro @rb_ptr (And.intro @fs_ptr (And.intro @os_ptr (And.intro @nm_vp (And.intro @rb_vp (And.intro @fs_vp (And.intro @os_vp (And.intro @nm_anil (And.intro @rb_anil (And.intro @fs_anil (And.intro @os_anil (And.intro @nm_acons (And.intro @rb_acons (And.intro @fs_acons (And.intro @os_acons (And.intro @nm_fnv (And.intro @rb_fnv (And.intro @fs_fnv (And.intro @os_fnv (And.intro @na_nil (And.intro @na_zero (And.intro @na_succ (And.intro @ps_nil (And.intro @ps_cons (And.intro @ro_nil (And.intro @ro_cons (And.intro @ms_nil (And.intro @ms_cons (And.intro @m1_nil (And.intro @m1_cons (And.intro @n1_nil (And.intro @n1_cons (And.intro @in_nil (And.intro @in_cons (And.intro @ap_nil (And.intro @ap_cons (And.intro @nl_nil (And.intro @nl_cons (And.intro @oa_nil (And.intro @oa_cons (And.intro @re_nil (And.intro @re_cons (And.intro @fo_nil (And.intro @fo_cons (And.intro @fll_nil (And.intro @fll_cons (And.intro @rp_mk (And.intro @pa_raw (And.intro @pa_val (And.intro @pas_nil (And.intro @pas_cons (And.intro @al_nil (And.intro @al_cons (And.intro @gr_mk (And.intro @sh_nil (And.intro @sh_cons (And.intro @sl_anil (And.intro @sl_acons (And.intro @ir_anil (And.intro @ir_acons (And.intro @ev_fn (And.intro @ev1_fn (And.intro @e_callV (And.intro @e_makeFunc (And.intro @pCall_held @mut_eq)))))))))))))))))))))))))))))))))))))))))))))))))))))))))))))))))))))))))))))) :=
  (And.intro @nm_d (And.intro @rb_d (And.intro @fs_d (And.intro @os_d (And.intro @nm_nil (And.intro @rb_nil (And.intro @fs_nil (And.intro @os_nil (And.intro @nm_ref (And.intro @rb_ref (And.intro @fs_ref (And.intro @os_ref (And.intro @nm_ptr (And.intro @rb_ptr (And.intro @fs_ptr (And.intro @os_ptr (And.intro @nm_vp (And.intro @rb_vp (And.intro @fs_vp (And.intro @os_vp (And.intro @nm_anil (And.intro @rb_anil (And.intro @fs_anil (And.intro @os_anil (And.intro @nm_acons (And.intro @rb_acons (And.intro @fs_acons (And.intro @os_acons (And.intro @nm_fnv (And.intro @rb_fnv (And.intro @fs_fnv (And.intro @os_fnv (And.intro @na_nil (And.intro @na_zero (And.intro @na_succ (And.intro @ps_nil (And.intro @ps_cons (And.intro @ro_nil (And.intro @ro_cons (And.intro @ms_nil (And.intro @ms_cons (And.intro @m1_nil (And.intro @m1_cons (And.intro @n1_nil (And.intro @n1_cons (And.intro @in_nil (And.intro @in_cons (And.intro @ap_nil (And.intro @ap_cons (And.intro @nl_nil (And.intro @nl_cons (And.intro @oa_nil (And.intro @oa_cons (And.intro @re_nil (And.intro @re_cons (And.intro @fo_nil (And.intro @fo_cons (And.intro @fll_nil (And.intro @fll_cons (And.intro @rp_mk (And.intro @pa_raw (And.intro @pa_val (And.intro @pas_nil (And.intro @pas_cons (And.intro @al_nil (And.intro @al_cons (And.intro @gr_mk (And.intro @sh_nil (And.intro @sh_cons (And.intro @sl_anil (And.intro @sl_acons (And.intro @ir_anil (And.intro @ir_acons (And.intro @ev_fn (And.intro @ev1_fn (And.intro @e_callV (And.intro @e_makeFunc (And.intro @pCall_held @mut_eq))))))))))))))))))))))))))))))))))))))))))))))))))))))))))))))))))))))))))))))
end Go.SE
/- Regions that draw their order: walked once, in one order that is checked. -/
namespace Go.SE
open Go.RowKit (Below)

/-! which operations only read -/

def pureO (T : Tab) (o : Oper) : Bool :=
  match o.op with
  | .move _ | .assign _ | .binOp .. | .unOp .. | .pick .. | .load .. | .nilCheck _ | .sliceToArrayPointer .. | .slice _ _ _ _ none | .fieldAddr .. | .field .. | .indexAddr .. | .index .. | .extract .. | .build .. | .makeFunc (.func _) _ _ => true
  | .convert _ d _ => match Go.SE.look T d with | some (.sl _) => false | _ => true
  | .call { callee := .builtin .len, .. } | .call { callee := .builtin .min, .. } | .call { callee := .builtin .max, .. } => true
  | _ => false
/-- Operations that change nothing of what was there. -/
def growO (T : Tab) (o : Oper) : Bool :=
  match o.op with
  | .call { callee := .value (.func f), argTypes := us, .. } => growF T f us.toList
  | .buildSlice .. | .makeSlice .. | .alloc _ | .box .. => true
  | _ => false

/-- Operations that do not look at the memory. -/
def freeO (o : Oper) : Bool :=
  match o.op with
  | .move _ | .assign _ | .extract .. => true
  | _ => false

section
variable {P : Program} {w0 : Base} {σ : St} {a : Act} {w : World}

theorem freeO_run {o : Oper} {v : Value} (hf : freeO o = true) (h : (execOp a.eval o).run P w = .ok (.value v) w) (w' : World) : (execOp a.eval o).run P w' = .ok (.value v) w' := by
  unfold freeO at hf
  split at hf
  · rename_i x ho; simp [execOp, ho] at h ⊢; exact h
  · rename_i x ho; simp [execOp, ho] at h ⊢; exact h
  · rename_i x i ho
    simp only [execOp, ho] at h ⊢
    cases hx : a.eval x with
    | tuple vs =>
      simp only [hx, Instr.extract] at h ⊢
      cases hi : vs[i]? with
      | none => simp [hi] at h
      | some u => simp [hi] at h ⊢; exact h
    | _ => simp [hx, Instr.extract] at h
  · cases hf

theorem sOp_pure {T : Tab} (hT : T.Ok P) {o : Oper} {K : St → Prop} (h : R w0 σ a w) (hp : pureO T o = true) (hs : sOp P T o σ K) : VStep P w0 o a w K := by
  obtain ⟨om, h⟩ := h
  obtain ⟨hd, hs⟩ := hs
  split at hs
  · rename_i x ho
    split at hs
    · rename_i v hv; exact wp_move (.inl ho) h hd hv hs
    · exact hs.elim
  · rename_i x ho
    split at hs
    · rename_i v hv; exact wp_move (.inr ho) h hd hv hs
    · exact hs.elim
  · rename_i op xT x y yT ho
    split at hs
    · rename_i t dx t' dy hx hy
      refine sBin_sound ho h hd hx hy (fun ht => ?_) hs.2
      have h1 := hs.1
      cases t <;> simp [Ty.agg] at ht <;> exact (hT _ _ h1).1
    · exact hs.elim
  · rename_i op xT x ho
    split at hs
    · rename_i t dx hx; exact sUn_sound ho h hd hx hs
    · exact hs.elim
  · rename_i u d x ho
    split at hs
    · rename_i s hx
      refine sConv_pure hT ho h hd hx hs ?_
      intro e he
      simp [pureO, ho, he] at hp
    · exact hs.elim
  · rename_i c x y ho
    split at hs
    · rename_i b hc; exact sPick_sound ho h hd hc hs
    · exact hs.elim
  · rename_i u ho; simp [pureO, ho] at hp
  · rename_i u x ho; simp [pureO, ho] at hp
  · rename_i t parts ho; exact sBuild_pure hT ho h hd hs
  · rename_i t n parts ho; simp [pureO, ho] at hp
  · rename_i u x ho
    split at hs
    · rename_i s hx; exact sLoad_sound hT ho h hd hx hs
    · exact hs.elim
  · rename_i u x y ho; simp [pureO, ho] at hp
  · rename_i x ho
    split at hs
    · rename_i b p hx; exact sNil_sound (s := .ptr b p) ho h hd hx hs
    · rename_i t y hx; exact sNil_sound (s := .vp t y) ho h hd hx hs
    · exact hs.elim
  · rename_i d x ho
    split at hs
    · rename_i s hx; exact sArr_sound hT ho h hd hx hs
    · exact hs.elim
  · rename_i t x y ho; simp [pureO, ho] at hp
  · rename_i u x lo hi ho
    split at hs
    · rename_i s l r hx hlo hhi; exact sSlice_sound hT ho h hd hx hlo hhi hs
    · exact hs.elim
  · rename_i u x i ho
    split at hs
    · rename_i s hx; exact sFieldAddr_sound hT ho h hd hx hs
    · exact hs.elim
  · rename_i u x i ho
    split at hs
    · rename_i s hx; exact sField_sound hT ho h hd hx hs
    · exact hs.elim
  · rename_i u x y ho
    split at hs
    · rename_i s k i hx hy; exact sIndexAddr_sound hT ho h hd hx hy hs
    · exact hs.elim
  · rename_i u x y ho
    split at hs
    · rename_i s k i hx hy; exact sIndex_sound hT ho h hd hx hy hs
    · exact hs.elim
  · rename_i x i ho; exact sExtract_sound ho h hd hs
  · rename_i x u ho
    split at hs
    · rename_i s hx; exact sLen_sound hT ho h hd hx hs
    · exact hs.elim
  · rename_i x y t u ho; simp [pureO, ho] at hp
  · rename_i x y t u ho; simp [pureO, ho] at hp
  · rename_i x y ts ho
    split at hs
    · rename_i k l k' c hx hy; exact sMin_sound ho h hd hx hy hs
    · exact hs.elim
  · rename_i x y ts ho
    split at hs
    · rename_i k l k' c hx hy; exact sMax_sound ho h hd hx hy hs
    · exact hs.elim
  · rename_i f xs us ho; simp [pureO, ho] at hp
  · rename_i t xs us ho; simp [pureO, ho] at hp
  · rename_i f x y ho
    split at hs
    · rename_i A B hA hB
      obtain ⟨_, ta, h1, h2⟩ := sHeld_ok h hA
      obtain ⟨_, tb, h3, h4⟩ := sHeld_ok h hB
      refine wp_val h hd (v := .func (.func f) (x.map a.eval) (y.map a.eval)) (x := .v (.fnv f A B)) (fun w' _ => by simp [execOp, ho, Instr.makeFunc]) ?_ hs
      refine ⟨.ptr, ⟨rfl, x.toList.map a.eval, y.toList.map a.eval, ta, tb, ?_, h1, h3, h2, h4⟩, rfl⟩
      simp only [Value.cells]
      rw [← Array.toList_map, ← Array.toList_map, Array.toArray_toList, Array.toArray_toList]
    · exact hs.elim
  · exact hs.elim

theorem sOp_grow {T : Tab} (hT : T.Ok P) {o : Oper} {Q : Exit → Act → World → Prop} {K : St → Prop} (h : R w0 σ a w) (hg : growO T o = true) (hs : sOp P T o σ K) :
    o.wp P a w (fun a' w' => Below w.heap.size w w' ∧ After w0 K a' w') Q := by
  obtain ⟨om, h⟩ := h
  obtain ⟨hd, hs⟩ := hs
  have hcase : (∃ f xs us, o.op = .call { callee := .value (.func f), args := xs, argTypes := us } ∧ growF T f us.toList = true) ∨ (∃ t n parts, o.op = .buildSlice t n parts) ∨ (∃ t x y, o.op = .makeSlice t x y) ∨ (∃ u, o.op = .alloc u) ∨ (∃ u x, o.op = .box u x) := by
    unfold growO at hg
    split at hg
    · rename_i f _ us ho; exact .inl ⟨f, _, us, ho, hg⟩
    · rename_i ho; exact .inr (.inl ⟨_, _, _, ho⟩)
    · rename_i ho; exact .inr (.inr (.inl ⟨_, _, _, ho⟩))
    · rename_i ho; exact .inr (.inr (.inr (.inl ⟨_, ho⟩)))
    · rename_i ho; exact .inr (.inr (.inr (.inr ⟨_, _, ho⟩)))
    · cases hg
  rcases hcase with ⟨f, xs, us, ho, hgr⟩ | ⟨t, n, parts, ho⟩ | ⟨t, x, y, ho⟩ | ⟨u, ho⟩ | ⟨u, x, ho⟩
  · rw [ho] at hs
    simp only [sCallF, hgr, if_true] at hs
    split at hs
    · rename_i l ha
      exact sCall_grow ho h hd ha hs
    · exact hs.elim
  · rw [ho] at hs
    exact sBuildS_grow hT ho h hd hs
  · rw [ho] at hs
    simp only at hs
    split at hs
    · rename_i k l k' c hx hy; exact sMake_grow hT ho h hd hx hy hs
    · exact hs.elim
  · rw [ho] at hs
    exact sAlloc_grow hT ho h hd hs
  · rw [ho] at hs
    simp only at hs
    split at hs
    · rename_i s hx; exact sBox_grow ho h hd hx hs
    · exact hs.elim

end

/-! what may come up -/

section
variable {P : Program} {ops : Array Oper} {Q : Exit → Act → World → Prop} {md : Region.Mode} {ds : List Nat}

/-- It comes to the value v; at most the heap grows. -/
def YV (P : Program) (r : Sem Next) (v : Value) (w : World) : Prop :=
  r.run P w = .ok (.value v) w ∨ ∃ f args, r.run P w = .ok (.enter f args) w ∧ Calls P f args w (fun e w' => e = .returned v ∧ Below w.heap.size w w')

def YG (P : Program) (fr : Bool) (ops : Array Oper) (w : World) (o : Oper) (v : Value) (a : Act) : Prop :=
  (Region.wanted o (yielded ops a.tmps) = true ∧ ∀ w', (fr = true ∨ Below w.heap.size w w') → YV P (execOp a.eval o) v w') ∨
  (Region.wanted o (yielded ops a.tmps) = false ∧ v = undef)

theorem YG.grow {fr : Bool} {w w' : World} {o : Oper} {v : Value} {a : Act} (hw : fr = true ∨ Below w.heap.size w w') (h : YG P fr ops w o v a) : YG P fr ops w' o v a :=
  h.imp (fun ⟨h1, h2⟩ => ⟨h1, fun w2 hw2 => h2 w2 (by
    rcases hw with hw | hw
    · exact .inl hw
    · rcases hw2 with hw2 | hw2
      · exact .inl hw2
      · exact .inr (hw.trans (hw2.mono hw.size)))⟩) id

theorem YG.wpOp {fr : Bool} {i : Nat} {o : Oper} {v : Value} {a : Act} (hi : ops[i]? = some o) {w : World} (hy : YG P fr ops w o v a)
    {K : Act → World → Prop} (h : ∀ w', Below w.heap.size w w' → K (a.put o.dst v) w') : wpOp P ops Q i K a w := by
  unfold Go.wpOp
  simp only [hi]
  rcases hy with ⟨hw, hv⟩ | ⟨hw, rfl⟩
  · rw [hw, if_pos rfl]
    refine .inl ?_
    unfold Oper.wp
    rcases hv w (.inr (Below.refl _ _)) with hv | ⟨f, args, hv, hc⟩
    · rw [hv]; exact h w (Below.refl _ _)
    · rw [hv, Oper.upon_enter]
      refine hc.mono ?_
      rintro e w' ⟨rfl, hb⟩
      exact h w' hb
  · simp only [hw, Bool.false_eq_true, if_false]; exact h w (Below.refl _ _)

theorem YG.of_same {fr : Bool} {w : World} {o : Oper} {v : Value} {a a' : Act} (hy : YG P fr ops w o v a) (he : execOp a'.eval o = execOp a.eval o)
    (hw : Region.wanted o (yielded ops a'.tmps) = Region.wanted o (yielded ops a.tmps)) : YG P fr ops w o v a' := by
  unfold YG at *
  rw [he, hw]
  exact hy

theorem wpOp_putG {fr : Bool} {j : Nat} {oi oj : Oper} {v : Value} (hj : ops[j]? = some oj) (hap : oi.apart ops oj = true)
    (hsi : ∀ cs b, oi.op ≠ .select cs b) (hsj : ∀ cs b, oj.op ≠ .select cs b)
    (hQ : ∀ c a w, Q (.panic c) (a.put oi.dst v) w → Q (.panic c) a w) {K : Act → World → Prop} {a : Act} {w : World}
    (hy : YG P fr ops w oi v a) (h : wpOp P ops Q j K (a.put oi.dst v) w) :
    wpOp P ops Q j (fun a' w' => YG P fr ops w oi v a' ∧ K (a'.put oi.dst v) w') a w := by
  obtain ⟨h1, h2, h3⟩ := Oper.apart_spec hap
  have keep : ∀ (a : Act), YG P fr ops w oi v a → ∀ u, YG P fr ops w oi v (a.put oj.dst u) := fun a hy u =>
    hy.of_same (execOp_put oi hsi a oj.dst u h3) (wanted_put oi a oj.dst u h3)
  have keepD : ∀ d, YG P fr ops w oi v { a with defers := d :: a.defers } := fun d => hy.of_same rfl rfl
  unfold wpOp at *
  simp only [hj] at *
  rw [wanted_put oj a oi.dst v h1] at h
  split
  · rename_i hw
    simp only [hw, if_true] at h
    rcases h with h | ⟨hasks, hlets⟩
    case inr => exact .inr ⟨by unfold Oper.asks at *; rw [execOp_put oj hsj a oi.dst v h1] at hasks; exact hasks, hlets⟩
    refine .inl ?_
    unfold Oper.wp at *
    rw [execOp_put oj hsj a oi.dst v h1] at h
    generalize (execOp a.eval oj).run P w = r at *
    cases r with
    | ok n w' =>
      cases n <;> simp only [Oper.upon] at h ⊢
      case value u => exact ⟨keep a hy u, by rw [← Act.put_comm a v u h2]; exact h⟩
      case skip => exact ⟨keep a hy _, by rw [← Act.put_comm a v undef h2]; exact h⟩
      case defer d =>
        refine ⟨keep _ (keepD d) _, ?_⟩
        rw [← Act.put_comm _ v undef h2, ← Act.put_defers]
        exact h
      case enter f args =>
        refine Calls.mono h fun e w'' he => ?_
        cases e with
        | returned u => exact ⟨keep a hy u, by rw [← Act.put_comm a v u h2]; exact he⟩
        | panicked c => exact hQ _ _ _ he
        | outgrown => exact he
      case row row args => exact Rows.mono h fun u w'' he => ⟨keep a hy u, by rw [← Act.put_comm a v u h2]; exact he⟩
    | halt x w' =>
      cases x <;> simp only [Oper.upon] at h ⊢
      case panic u => exact hQ _ _ _ h
  · rename_i hw
    simp only [hw] at h
    exact ⟨keep a hy _, by rw [← Act.put_comm a v undef h2]; exact h⟩

/-- Whatever order is picked; what is not of ds changes nothing of what was there. -/
def wpAnyG (P : Program) (md : Region.Mode) (ops : Array Oper) (Q : Exit → Act → World → Prop) (ds : List Nat) : Nat → Array Bool → Act → World → Prop
  | 0, listed, a, w => ∀ w1, Below w.heap.size w w1 → Region.ready md ops listed = [] ∧ Q .normal a w1
  | fuel + 1, listed, a, w => ∀ w1, Below w.heap.size w w1 → (Region.ready md ops listed = [] → Q .normal a w1) ∧
    ∀ i ∈ Region.ready md ops listed, wpOp P ops Q i (fun a' w' => (i ∉ ds → Below w1.heap.size w1 w') ∧ wpAnyG P md ops Q ds fuel (listed.setIfInBounds i true) a' w') a w1

theorem Below.then {a b c : World} (h : Below a.heap.size a b) (k : Below b.heap.size b c) : Below a.heap.size a c := h.trans (k.mono h.size)

theorem wpAnyG_grow {fuel : Nat} {listed : Array Bool} {a : Act} {w w' : World} (h : wpAnyG P md ops Q ds fuel listed a w) (hw : Below w.heap.size w w') : wpAnyG P md ops Q ds fuel listed a w' := by
  cases fuel with
  | zero => exact fun w1 h1 => h w1 (Below.then hw h1)
  | succ f => exact fun w1 h1 => h w1 (Below.then hw h1)

theorem wpAny_of_G : ∀ (fuel : Nat) (listed : Array Bool) (a : Act) (w : World), wpAnyG P md ops Q ds fuel listed a w → wpAny P md ops Q fuel listed a w
  | 0, _, _, w, h => h w (Below.refl _ _)
  | fuel + 1, _, _, w, h => ⟨(h w (Below.refl _ _)).1, fun i hi => wpOp_mono (fun a' w' h' => wpAny_of_G fuel _ a' w' h'.2) ((h w (Below.refl _ _)).2 i hi)⟩

def reachO (md : Region.Mode) (ops : Array Oper) (i : Nat) : Nat → Nat → Bool
  | 0, _ => false
  | f + 1, d => match ops[d]? with
    | some o => o.after.any fun e => Region.binds md e && (e.on == i || reachO md ops i f e.on)
    | none => false

def ClosedL (md : Region.Mode) (ops : Array Oper) (listed : Array Bool) : Prop :=
  ∀ j o, ops[j]? = some o → listed.getD j false = true → ∀ e ∈ o.after, Region.binds md e = true → listed.getD e.on false = true

theorem reach_not {listed : Array Bool} (hc : ClosedL md ops listed) {i : Nat} (hi : listed.getD i false = false) : ∀ (f d : Nat), reachO md ops i f d = true → listed.getD d false = false
  | 0, _, h => by simp [reachO] at h
  | f + 1, d, h => by
    cases hl : listed.getD d false with
    | false => rfl
    | true =>
      exfalso
      simp only [reachO] at h
      split at h
      · rename_i o ho
        obtain ⟨e, he, hb⟩ := Array.any_eq_true'.1 h
        simp only [Bool.and_eq_true, Bool.or_eq_true, beq_iff_eq] at hb
        have h1 := hc d o ho hl e he hb.1
        rcases hb.2 with h2 | h2
        · rw [h2, hi] at h1; cases h1
        · rw [reach_not hc hi f _ h2] at h1; cases h1
      · cases h

theorem reach_unready {listed : Array Bool} (hc : ClosedL md ops listed) {i : Nat} (hi : listed.getD i false = false) {f d : Nat} (h : reachO md ops i f d = true) : d ∉ Region.ready md ops listed := by
  intro hr
  obtain ⟨_, o, ho, hall⟩ := mem_ready.1 hr
  cases f with
  | zero => simp [reachO] at h
  | succ f =>
    simp only [reachO, ho] at h
    obtain ⟨e, he, hb⟩ := Array.any_eq_true'.1 h
    simp only [Bool.and_eq_true, Bool.or_eq_true, beq_iff_eq] at hb
    have h1 := hall e he hb.1
    rcases hb.2 with h2 | h2
    · rw [h2, hi] at h1; cases h1
    · rw [reach_not hc hi f _ h2] at h1; cases h1

theorem ClosedL.set {listed : Array Bool} (hc : ClosedL md ops listed) {j : Nat} (hj : j ∈ Region.ready md ops listed) : ClosedL md ops (listed.setIfInBounds j true) := by
  intro k o ho hk e he hb
  by_cases hkj : j = k
  · subst hkj
    obtain ⟨_, o', ho', hall⟩ := mem_ready.1 hj
    rw [ho] at ho'
    simp only [Option.some.injEq] at ho'
    subst ho'
    exact getD_set_true (hall e he hb)
  · rw [getD_set_ne false hkj] at hk
    exact getD_set_true (hc k o ho hk e he hb)

theorem getD_unlisted {listed : Array Bool} {i : Nat} (h : listed.getD i true = false) : listed.getD i false = false := by
  rcases Nat.lt_or_ge i listed.size with h' | h'
  · simpa [h'] using h
  · simp [Array.getElem?_eq_none h'] at h

theorem wpAnyG_first {fr : Bool} {i : Nat} {oi : Oper} {v : Value} (hi : ops[i]? = some oi) (hsel : ∀ (j : Nat) (o : Oper) cs b, ops[j]? = some o → o.op ≠ .select cs b)
    (hQ : ∀ c a w, Q (.panic c) (a.put oi.dst v) w → Q (.panic c) a w) :
    ∀ (fuel : Nat) (listed : Array Bool) (a : Act) (w : World), (fr = true ∨ ∀ d ∈ ds, listed.getD d true = true ∨ reachO md ops i ops.size d = true) → ClosedL md ops listed →
      (∀ j oj, ops[j]? = some oj → j ≠ i → listed.getD j true = false → (∀ e ∈ oj.after, Region.binds md e = true → e.on ≠ i) → oi.apart ops oj = true) →
      i ∈ Region.ready md ops listed → YG P fr ops w oi v a →
      wpAnyG P md ops Q ds fuel (listed.setIfInBounds i true) (a.put oi.dst v) w → wpAnyG P md ops Q ds (fuel + 1) listed a w := by
  intro fuel
  induction fuel with
  | zero =>
    intro listed a w hds hc _ hr hy H w1 hw1
    refine ⟨fun h => (by rw [h] at hr; cases hr), fun j hj => ?_⟩
    by_cases hji : j = i
    · subst hji; exact (hy.grow (.inr hw1)).wpOp hi fun w2 hw2 => ⟨fun _ => hw2, wpAnyG_grow H (Below.then hw1 hw2)⟩
    · have := ready_mono hj hji
      rw [(H w (Below.refl _ _)).1] at this
      cases this
  | succ fuel ih =>
    intro listed a w hds hc hfree hr hy H w1 hw1
    have hy1 := hy.grow (fr := fr) (.inr hw1)
    refine ⟨fun h => (by rw [h] at hr; cases hr), fun j hj => ?_⟩
    by_cases hji : j = i
    · subst hji; exact hy1.wpOp hi fun w2 hw2 => ⟨fun _ => hw2, wpAnyG_grow H (Below.then hw1 hw2)⟩
    · have h1 := (H w1 hw1).2 j (ready_mono hj hji)
      obtain ⟨hjun, oj, hoj, hall⟩ := mem_ready.1 hj
      have hiu : listed.getD i false = false := getD_unlisted (mem_ready.1 hr).1
      have hjds : fr = true ∨ j ∉ ds := hds.imp id fun hds => fun hd => (hds j hd).elim (fun e => by rw [hjun] at e; cases e) (fun e => reach_unready hc hiu e hj)
      have hds' : fr = true ∨ ∀ d ∈ ds, (listed.setIfInBounds j true).getD d true = true ∨ reachO md ops i ops.size d = true := hds.imp id fun hds => fun d hd => (hds d hd).imp (fun e => by
        by_cases hjd : j = d
        · subst hjd; rw [hjun] at e; cases e
        · rw [getD_set_ne true hjd]; exact e) id
      have hnot : ∀ e ∈ oj.after, Region.binds md e = true → e.on ≠ i := fun e he hb heq => by
        have h1 := hall e he hb
        rw [heq, hiu] at h1
        cases h1
      have h2 := wpOp_putG hoj (hfree j oj hoj hji hjun hnot) (fun cs b => hsel i oi cs b hi) (fun cs b => hsel j oj cs b hoj) hQ hy1 h1
      have hfree' : ∀ k ok, ops[k]? = some ok → k ≠ i → (listed.setIfInBounds j true).getD k true = false →
          (∀ e ∈ ok.after, Region.binds md e = true → e.on ≠ i) → oi.apart ops ok = true := fun k ok hk hki hun hno => by
        refine hfree k ok hk hki ?_ hno
        by_cases hjk : j = k
        · subst hjk; exact hjun
        · rw [getD_set_ne true hjk] at hun; exact hun
      refine wpOp_mono (fun a' w' h3 => ⟨h3.2.1, ih (listed.setIfInBounds j true) a' w' hds' (hc.set hj) hfree' (ready_mono hr (Ne.symm hji)) (h3.1.grow (hjds.imp id h3.2.1)) ?_⟩) h2
      rw [Array.setIfInBounds_comm _ _ hji]
      exact h3.2.2

end

/-! a call that comes to flat data -/

theorem readL_det {p q : List Value → D → Prop} {sz : Nat} (h : ∀ cs cs' d, p cs d → q cs' d → cs = cs') : ∀ {ds : List D} {cs cs' : List Value}, ReadL p sz cs ds → ReadL q sz cs' ds → cs = cs'
  | [], _, _, h1, h2 => by simp only [ReadL] at h1 h2; rw [h1, h2]
  | d :: ds, cs, cs', h1, h2 => by
    have k1 := h _ _ _ h1.1 h2.1
    have k2 := readL_det h h1.2 h2.2
    rw [← List.take_append_drop sz cs, ← List.take_append_drop sz cs', k1, k2]
theorem Rd.det {w w' : World} {S S' : Nat → Prop} : ∀ {t : Ty} {cs cs' : List Value} {d : D}, t.flat = true → Rd w S t cs d → Rd w' S' t cs' d → cs = cs'
  | .bool, _, _, _, _, ⟨x, h1, h2⟩, ⟨y, h3, h4⟩ => by subst h2; cases h4; rw [h1, h3]
  | .int _, _, _, _, _, ⟨x, h1, h2⟩, ⟨y, h3, h4⟩ => by subst h2; cases h4; rw [h1, h3]
  | .str, _, _, _, _, ⟨x, h1, h2⟩, ⟨y, h3, h4⟩ => by subst h2; cases h4; rw [h1, h3]
  | .arr n e, _, _, _, hf, ⟨ds, h1, _, h3⟩, ⟨ds', k1, _, k3⟩ => by
    subst h1; cases k1
    exact readL_det (p := Rd w S e) (q := Rd w' S' e) (fun _ _ _ a b => Rd.det (t := e) (by simpa [Ty.flat] using hf) a b) h3 k3
  | .nil, _, _, _, _, ⟨h1, _⟩, ⟨h2, _⟩ => by rw [h1, h2]
  | .cons a b, cs, cs', _, hf, ⟨x, xs, h1, h2, h3⟩, ⟨y, ys, k1, k2, k3⟩ => by
    subst h1
    cases k1
    simp only [Ty.flat, Bool.and_eq_true] at hf
    have e1 := Rd.det hf.1 h2 k2
    have e2 := Rd.det hf.2 h3 k3
    rw [← List.take_append_drop a.size cs, ← List.take_append_drop a.size cs', e1, e2]
  | .sl _, _, _, _, hf, _, _ => by simp [Ty.flat] at hf
  | .ptr, _, _, _, hf, _, _ => by simp [Ty.flat] at hf

theorem Rd.flatAny {w w' : World} {S S' : Nat → Prop} : ∀ {t : Ty} {cs : List Value} {d : D}, t.flat = true → Rd w S t cs d → Rd w' S' t cs d
  | .bool, _, _, _, h => h
  | .int _, _, _, _, h => h
  | .str, _, _, _, h => h
  | .arr n e, _, _, hf, ⟨ds, h1, h2, h3⟩ => ⟨ds, h1, h2, ReadL.mono (fun _ _ k => Rd.flatAny (t := e) (by simpa [Ty.flat] using hf) k) h3⟩
  | .nil, _, _, _, h => h
  | .cons a b, _, _, hf, ⟨x, xs, h1, h2, h3⟩ => by
    simp only [Ty.flat, Bool.and_eq_true] at hf
    exact ⟨x, xs, h1, Rd.flatAny hf.1 h2, Rd.flatAny hf.2 h3⟩
  | .sl _, _, _, hf, _ => by simp [Ty.flat] at hf
  | .ptr, _, _, hf, _ => by simp [Ty.flat] at hf

def flatR (rs : List RV) : Bool := rs.all fun r => r.flat && r.isD
theorem vals_det {B B' : Nat} {w w' : World} {N N' : Nat → Prop} : ∀ {rs : List RV} {vals vals' : List Value}, flatR rs = true → vals.length = rs.length → vals'.length = rs.length →
    (∀ (i : Nat) (r : RV) (v : Value), rs[i]? = some r → vals[i]? = some v → RVok B w N r v none) → (∀ (i : Nat) (r : RV) (v : Value), rs[i]? = some r → vals'[i]? = some v → RVok B' w' N' r v none) → vals = vals'
  | [], [], [], _, _, _, _, _ => rfl
  | r :: rs, v :: vals, v' :: vals', hf, h1, h2, h3, h4 => by
    simp only [flatR, List.all_cons, Bool.and_eq_true] at hf
    have k := vals_det (rs := rs) (vals := vals) (vals' := vals') (by simpa [flatR] using hf.2) (by simpa using h1) (by simpa using h2)
      (fun i r v a b => h3 (i + 1) r v (by simpa using a) (by simpa using b)) (fun i r v a b => h4 (i + 1) r v (by simpa using a) (by simpa using b))
    have a := h3 0 r v rfl rfl
    have b := h4 0 r v' rfl rfl
    cases r with
    | own e ds => simp [RV.isD] at hf
    | d t x =>
      have e : v = v' := val_det (Rd.det hf.1.1 a.1 b.1) (by rw [a.2, b.2])
      rw [k, e]
  | [], _ :: _, _, _, h, _, _, _ | [], [], _ :: _, _, _, h, _, _ => by simp at h
  | _ :: _, [], _, _, h, _, _, _ | _ :: _, _ :: _, [], _, _, h, _, _ => by simp at h

/-- A call whose results are these data. -/
def sFlat (P : Program) (T : Tab) (o : Oper) (σ : St) (K : St → Prop) : Prop :=
  dstOk o.dst σ.nt ∧ match o.op with
  | .call { callee := .value (.func f), args := xs, argTypes := us } => growF T f us.toList = true ∧ (match sArgs T σ xs.toList us.toList with
    | some l => ∃ rs0, flatR rs0 = true ∧ SCall P f l (fun rs => rs = rs0) ∧ K (retSt σ (aRefs σ xs.toList) rs0 o.dst)
    | none => False)
  | _ => False

section
variable {P : Program} {w0 : Base} {σ : St} {a : Act} {w : World}

theorem R.grow (h : R w0 σ a w) {w' : World} (hw : Below w.heap.size w w') : R w0 σ a w' := by
  obtain ⟨om, h⟩ := h
  have hM : ∀ b (x : Obj), ¬ Mb σ.ob om b → w.heap[b]? = some x → ¬ Mb σ.ob om b ∧ w'.heap[b]? = some x := fun b x h1 h2 => ⟨h1, Below.hp hw h2⟩
  refine ⟨om, h.step (nx' := σ.nx) (BelX.of (hw.mono h.below.size)) rfl hM (fun _ _ k => k) ?_ h.apart h.fresh⟩
  intro o x hx
  obtain ⟨pl, h1, h2⟩ := h.ob o x hx
  refine ⟨pl, h1, ?_⟩
  cases pl with
  | none => exact ⟨h2.1, h2.2.mono hM (fun _ _ k => k)⟩
  | some q =>
    obtain ⟨h3, c, el, fr, h4, h5, h6, h7⟩ := h2
    exact ⟨h3, c, el, fr, Below.hp hw h4, h5, h6, h7.mono hM (fun _ _ k => k)⟩

/-- Its value is the same in every world that has grown. -/
theorem sFlat_val {T : Tab} {o : Oper} {K : St → Prop} (h : R w0 σ a w) (hs : sFlat P T o σ K) : ∃ v, (∀ w', Below w.heap.size w w' → YV P (execOp a.eval o) v w') ∧ After w0 K (a.put o.dst v) w := by
  obtain ⟨hd, hs⟩ := hs
  split at hs
  · rename_i f xs us ho
    obtain ⟨hg, hs⟩ := hs
    split at hs
    · rename_i l ha
      obtain ⟨rs, hfl, hc, hK⟩ := hs
      -- one world: what comes back
      have one : ∀ w', Below w.heap.size w w' → ∃ vals : List Value, YV P (execOp a.eval o) (tupV vals) w' ∧ vals.length = rs.length ∧ ∃ w'' N B, ∀ (i : Nat) (r : RV) (v : Value), rs[i]? = some r → vals[i]? = some v → RVok B w'' N r v none := by
        intro w' hw'
        obtain ⟨om, h'⟩ := h.grow hw'
        have hrl := aRefs_look (σ := σ) ha
        have hargs := sArgs_ok h' (rf := aRefs σ xs.toList) hrl ha (fun o ho => ho)
        rcases hc with hc | ⟨rs', hK', _, _, hx⟩
        · obtain ⟨⟨fn, hf, hn, hb⟩, hs2⟩ := hc
          have hn' : ¬ fn.name = "runtime.NumGoroutine" := by simpa using hn
          have hb' : ¬ fn.body = none := by intro e; simp [e] at hb
          have hex : (execOp a.eval o).run P w' = .ok (.enter f (xs.map a.eval)) w' := by
            simp [execOp, ho, resolve, Deferred.ofValue, Act.eval, invoke, callFunc, hf, hn', hb']
          have hF : ∀ b, Mb (dels σ.ob (aRefs σ xs.toList)) om b → b < w'.heap.size := by
            rintro b (hb | hb)
            · have := w0.low b (by rw [← h'.hF]; exact hb)
              have := h'.below.size
              omega
            · exact (Mo.lt h'.ob (Mo_dels hb)).2
          have hcl := hs2 w' _ (xs.toList.map a.eval) hF (h'.dels _ _ h').glob hargs
          rw [← Array.toList_map, Array.toArray_toList] at hcl
          -- the values that come back, once
          obtain ⟨e, w'', fr, ⟨v, rs1, rfl, hB, ⟨vals, bs, rfl, hl1, hl2, hrv, _⟩, rfl⟩, _⟩ := hcl []
          have hnone : ∀ (i : Nat) (b : Option Pl), bs[i]? = some b → b = none := by
            intro i b hb
            have hi : i < rs1.length := by rw [← hl2]; exact (List.getElem?_eq_some_iff.1 hb).1
            have hr1 : rs1[i]? = some rs1[i] := List.getElem?_eq_getElem hi
            have hv1 : vals[i]? = some (vals[i]'(by omega)) := List.getElem?_eq_getElem (by omega)
            have k := hrv i _ _ b hr1 hv1 hb
            have hfr := List.all_eq_true.1 hfl _ (List.getElem_mem hi)
            simp only [Bool.and_eq_true] at hfr
            cases hri : rs1[i] with
            | own e ds => rw [hri] at hfr; simp [RV.isD] at hfr
            | d t x =>
              rw [hri] at k
              cases b with
              | none => rfl
              | some q => exact k.elim
          have hrv0 : ∀ (i : Nat) (r : RV) (v : Value), rs1[i]? = some r → vals[i]? = some v → RVok w'.heap.size w'' (fun g => Mb (dels σ.ob (aRefs σ xs.toList)) om g ∨ OwnB bs g) r v none := by
            intro i r v hr hv
            have hi : i < rs1.length := (List.getElem?_eq_some_iff.1 hr).1
            have hb : bs[i]? = some (bs[i]'(by omega)) := List.getElem?_eq_getElem (by omega)
            have := hrv i r v _ hr hv hb
            rw [hnone i _ hb] at this
            exact this
          refine ⟨vals, .inr ⟨f, xs.map a.eval, hex, ?_⟩, hl1, w'', _, _, hrv0⟩
          have hcl2 := hs2 w' _ (xs.toList.map a.eval) hF (h'.dels _ _ h').glob hargs
          rw [← Array.toList_map, Array.toArray_toList] at hcl2
          refine hcl2.mono ?_
          rintro e3 w3 ⟨v3, rs3, rfl, hB3, ⟨vals3, bs3, rfl, hl13, hl23, hrv3, _⟩, rfl⟩
          refine ⟨?_, hB3⟩
          have hnone3 : ∀ (i : Nat) (b : Option Pl), bs3[i]? = some b → b = none := by
            intro i b hb
            have hi : i < rs3.length := by rw [← hl23]; exact (List.getElem?_eq_some_iff.1 hb).1
            have hr1 : rs3[i]? = some rs3[i] := List.getElem?_eq_getElem hi
            have hv1 : vals3[i]? = some (vals3[i]'(by omega)) := List.getElem?_eq_getElem (by omega)
            have k := hrv3 i _ _ b hr1 hv1 hb
            have hfr := List.all_eq_true.1 hfl _ (List.getElem_mem hi)
            simp only [Bool.and_eq_true] at hfr
            cases hri : rs3[i] with
            | own e ds => rw [hri] at hfr; simp [RV.isD] at hfr
            | d t x =>
              rw [hri] at k
              cases b with
              | none => rfl
              | some q => exact k.elim
          have hrv30 : ∀ (i : Nat) (r : RV) (v : Value), rs3[i]? = some r → vals3[i]? = some v → RVok w'.heap.size w3 (fun g => Mb (dels σ.ob (aRefs σ xs.toList)) om g ∨ OwnB bs3 g) r v none := by
            intro i r v hr hv
            have hi : i < rs3.length := (List.getElem?_eq_some_iff.1 hr).1
            have hb : bs3[i]? = some (bs3[i]'(by omega)) := List.getElem?_eq_getElem (by omega)
            have := hrv3 i r v _ hr hv hb
            rw [hnone3 i _ hb] at this
            exact this
          rw [vals_det hfl hl13 hl1 hrv30 hrv0]
        · subst hK'
          obtain ⟨vals, hrun, hl, hrv⟩ := hx w' _ (xs.toList.map a.eval) hargs
          refine ⟨vals, .inl ?_, hl, w', _, 0, hrv⟩
          rw [← Array.toList_map, Array.toArray_toList] at hrun
          simp [execOp, ho, resolve, Deferred.ofValue, Act.eval, invoke, hrun]
      obtain ⟨vals, hy, hl, w2, N, B, hrv⟩ := one w (Below.refl _ _)
      refine ⟨tupV vals, ?_, ?_⟩
      · intro w' hw'
        obtain ⟨vals', hy', hl', w2', N', B', hrv'⟩ := one w' hw'
        rw [vals_det hfl hl hl' hrv hrv']
        exact hy'
      · obtain ⟨om, h'⟩ := h
        have hfa : rs.all RV.flat = true := by
          rw [List.all_eq_true]
          intro r hr
          have := List.all_eq_true.1 hfl r hr
          simp only [Bool.and_eq_true] at this
          exact this.1
        unfold retSt at hK
        rw [if_pos hfa] at hK
        obtain ⟨om', hR, hvals⟩ := h'.adopt (rs := rs) (vals := vals) (bs := List.replicate rs.length none) (Below.refl _ _) hl (by simp) (fun i r v b hr hv hb => by
            have hbn : b = none := by
              rw [List.getElem?_replicate] at hb; split at hb <;> simp_all
            subst hbn
            have h1 := hrv i r v hr hv
            have h2 := List.all_eq_true.1 hfl r (List.mem_of_getElem? hr)
            simp only [Bool.and_eq_true] at h2
            cases r with
            | d t x => exact ⟨Rd.flatAny h2.1 h1.1, h1.2⟩
            | own e ds => simp [RV.isD] at h2) (fun i j q q' h1 _ _ => by
            rw [List.getElem?_replicate] at h1; split at h1 <;> simp at h1)
        refine ⟨_, ⟨om', hR.put o.dst _ _ (fun d e => ?_) (tv_ok (by rw [newSVs_length, hl]) hvals)⟩, hK⟩
        rw [e] at hd
        exact hd
    · exact hs.elim
  · exact hs.elim

def sOpB (P : Program) (T : Tab) (b : Bool) (o : Oper) (σ : St) (K : St → Prop) : Prop :=
  match b with
  | true => sFlat P T o σ K
  | false => sOp P T o σ K
theorem sOpB_t {T : Tab} {o : Oper} {K : St → Prop} (h : sOpB P T true o σ K) : sFlat P T o σ K := h
theorem sOpB_f {T : Tab} {o : Oper} {K : St → Prop} (h : sOpB P T false o σ K) : sOp P T o σ K := h
theorem sFlat_sOp {T : Tab} {o : Oper} {K : St → Prop} (hs : sFlat P T o σ K) : sOp P T o σ K := by
  obtain ⟨hd, hs⟩ := hs
  split at hs
  · rename_i f xs us ho
    obtain ⟨hg, hs⟩ := hs
    refine ⟨hd, ?_⟩
    rw [ho]
    show sCallF P T f xs.toList us.toList σ o.dst K
    unfold sCallF
    rw [if_pos hg]
    split at hs
    · rename_i l ha
      obtain ⟨rs0, _, hc, hK⟩ := hs
      have hfin : SCall P f l (fun rs => K (retSt σ (aRefs σ xs.toList) rs o.dst)) := hc.mono fun rs e => by subst e; exact hK
      first | exact hfin | (rw [ha]; exact hfin) | (simp only [ha]; exact hfin)
    · exact hs.elim
  · exact hs.elim
theorem sOpB_sOp {T : Tab} {b : Bool} {o : Oper} {K : St → Prop} (hs : sOpB P T b o σ K) : sOp P T o σ K := by
  cases b with
  | true => exact sFlat_sOp hs
  | false => exact hs
end

/-! the check, and the walk -/

def ordB (T : Tab) (ops : Array Oper) (ds fs : List Nat) : List Nat → Array Bool → Bool
  | [], listed => (Region.ready .any ops listed).isEmpty
  | i :: l, listed =>
    (match ops[i]? with
     | some o => bif mem1 i fs then (Region.ready .any ops listed).contains i && Region.free .any ops listed i && ds.all (fun d => listed.getD d true || reachO .any ops i ops.size d)
        else bif pureO T o then (Region.ready .any ops listed).contains i && Region.free .any ops listed i && (freeO o || ds.all (fun d => listed.getD d true || reachO .any ops i ops.size d))
        else Region.ready .any ops listed == [i] && (ds.contains i || growO T o)
     | none => false) && ordB T ops ds fs l (listed.setIfInBounds i true)

def pickF (ops : Array Oper) (fs : List Nat) : List Nat → List (Bool × Oper)
  | [] => []
  | i :: l => match ops[i]? with | some o => (mem1 i fs, o) :: pickF ops fs l | none => pickF ops fs l
def sOpsF (P : Program) (T : Tab) (ops : Array Oper) : List (Bool × Oper) → St → (St → Prop) → Prop
  | [], σ, K => K σ
  | (fl, o) :: l, σ, K =>
    match o.guard with
    | none => sOpB P T fl o σ (fun σ => sOpsF P T ops l σ K)
    | some (j, want) =>
      match gdst ops j with
      | some t => match look σ.tm t with
        | some (.v (.d .bool x)) => sIf x.bool
          (if want then sOpB P T fl o (σ.setB t true) (fun σ => sOpsF P T ops l σ K) else sSkip o (σ.setB t true) (fun σ => sOpsF P T ops l σ K))
          (if want then sSkip o (σ.setB t false) (fun σ => sOpsF P T ops l σ K) else sOpB P T fl o (σ.setB t false) (fun σ => sOpsF P T ops l σ K))
        | some .u => sSkip o σ (fun σ => sOpsF P T ops l σ K)
        | _ => False
      | none => False
@[congr] theorem sOpsF_congr {P : Program} {T : Tab} {ops : Array Oper} {l : List (Bool × Oper)} {σ σ' : St} {K : St → Prop} (h : σ = σ') : sOpsF P T ops l σ K = sOpsF P T ops l σ' K := by rw [h]
@[congr] theorem sOpB_congr {P : Program} {T : Tab} {b : Bool} {o : Oper} {σ σ' : St} {K : St → Prop} (h : σ = σ') : sOpB P T b o σ K = sOpB P T b o σ' K := by rw [h]

def QN (w0 : Base) (K : St → Prop) : Exit → Act → World → Prop
  | .normal => After w0 K
  | _ => fun _ _ => False

section
variable {P : Program} {w0 : Base} {σ : St} {a : Act} {w : World}

theorem sOps_cons {T : Tab} {ops : Array Oper} {fl : Bool} {o : Oper} {l : List (Bool × Oper)} {K : St → Prop} (h : R w0 σ a w) (hs : sOpsF P T ops ((fl, o) :: l) σ K) :
    (Region.wanted o (yielded ops a.tmps) = true ∧ ∃ σ', R w0 σ' a w ∧ sOpB P T fl o σ' (fun σ => sOpsF P T ops l σ K)) ∨
    (Region.wanted o (yielded ops a.tmps) = false ∧ ∃ σ', R w0 σ' a w ∧ sSkip o σ' (fun σ => sOpsF P T ops l σ K)) := by
  simp only [sOpsF] at hs
  split at hs
  · rename_i hg
    exact .inl ⟨by simp [Region.wanted, hg], σ, h, hs⟩
  · rename_i j want hg
    split at hs
    · rename_i t ht
      have hy : ∀ b, a.tmps.getD t undef = .bool b → yielded ops a.tmps j = some b := by
        intro b hb
        have := getD_some hb (by simp [undef])
        unfold gdst at ht
        simp [yielded, ht, this]
      split at hs
      · rename_i x hl
        obtain ⟨b, rfl, hb⟩ := h.boolAt hl
        have hyb := hy b hb
        simp only [Region.wanted, hg, hyb]
        cases b with
        | true =>
          have h1 := hs.1 rfl
          cases want with
          | true => simp only [if_true] at h1; exact .inl ⟨rfl, _, h.setB hl, h1⟩
          | false => simp only [Bool.false_eq_true, if_false] at h1; exact .inr ⟨rfl, _, h.setB hl, h1⟩
        | false =>
          have h1 := hs.2 rfl
          cases want with
          | true => simp only [if_true] at h1; exact .inr ⟨rfl, _, h.setB hl, h1⟩
          | false => simp only [Bool.false_eq_true, if_false] at h1; exact .inl ⟨rfl, _, h.setB hl, h1⟩
      · rename_i hl
        have hu : a.tmps.getD t undef = undef := by
          obtain ⟨om, h⟩ := h
          exact h.tm t _ hl
        have hy0 : yielded ops a.tmps j = none := by
          unfold gdst at ht
          simp only [yielded, ht, Option.bind_some]
          rw [Array.getD_eq_getD_getElem?] at hu
          cases hq : a.tmps[t]? with
          | none => rfl
          | some u => simp [hq] at hu; subst hu; rfl
        exact .inr ⟨by simp [Region.wanted, hg, hy0], σ, h, hs⟩
      · exact hs.elim
    · exact hs.elim

theorem ord_sim {T : Tab} (hT : T.Ok P) {ops : Array Oper} {ds fs : List Nat} (hsel : Region.noSelect ops = true) {K : St → Prop} : ∀ (l : List Nat) (listed : Array Bool) {σ : St} {a : Act} {w : World},
    ordB T ops ds fs l listed = true → ClosedL .any ops listed → R w0 σ a w → sOpsF P T ops (pickF ops fs l) σ K → wpAnyG P .any ops (QN w0 K) ds l.length listed a w
  | [], listed, σ, a, w, hB, hc, h, hs => by
    simp only [ordB, List.isEmpty_iff] at hB
    exact fun w1 hw1 => ⟨hB, σ, h.grow hw1, hs⟩
  | i :: l, listed, σ, a, w, hB, hc, h, hs => by
    simp only [ordB, Bool.and_eq_true] at hB
    obtain ⟨h1, h2⟩ := hB
    split at h1
    · rename_i o ho
      simp only [pickF, ho] at hs
      cases hm : mem1 i fs with
      | true =>
        simp only [hm, cond_true, Bool.and_eq_true, List.all_eq_true, Bool.or_eq_true] at h1
        rw [hm] at hs
        have hcons := sOps_cons h hs
        have hready : i ∈ Region.ready .any ops listed := by simpa using h1.1.1
        have key : ∃ v, YG P false ops w o v a ∧ After w0 (fun σ => sOpsF P T ops (pickF ops fs l) σ K) (a.put o.dst v) w := by
          rcases hcons with ⟨hw, σ', hr, hop⟩ | ⟨hw, σ', hr, hsk⟩
          · obtain ⟨v, hrun, hK⟩ := sFlat_val hr (sOpB_t hop)
            exact ⟨v, .inl ⟨hw, fun w' hw' => hrun w' (hw'.resolve_left (by simp))⟩, hK⟩
          · exact ⟨undef, .inr ⟨hw, rfl⟩, _, hr.put0 hsk.1, hsk.2⟩
        obtain ⟨v, hy, σ2, hr2, hs2⟩ := key
        exact wpAnyG_first ho (Region.noSelect_spec hsel) (fun _ _ _ h => h) l.length listed a w (.inr h1.2) hc (Region.free_spec ho h1.1.2) hready hy
          (ord_sim hT hsel l _ h2 (hc.set hready) hr2 hs2)
      | false =>
      simp only [hm, cond_false] at h1
      rw [hm] at hs
      cases hp : pureO T o with
      | true =>
        have hcons := sOps_cons h hs
        simp only [hp, cond_true, Bool.and_eq_true, List.all_eq_true, Bool.or_eq_true] at h1
        have hready : i ∈ Region.ready .any ops listed := by simpa using h1.1.1
        have key : ∃ v, YG P (freeO o) ops w o v a ∧ After w0 (fun σ => sOpsF P T ops (pickF ops fs l) σ K) (a.put o.dst v) w := by
          rcases hcons with ⟨hw, σ', hr, hop⟩ | ⟨hw, σ', hr, hsk⟩
          · obtain ⟨v, hrun, hK⟩ := sOp_pure hT hr hp (sOpB_f hop)
            refine ⟨v, .inl ⟨hw, fun w' hw' => .inl ?_⟩, hK⟩
            rcases hw' with hw' | hw'
            · exact freeO_run hw' (hrun w (Below.refl _ _)) w'
            · exact hrun w' hw'
          · exact ⟨undef, .inr ⟨hw, rfl⟩, _, hr.put0 hsk.1, hsk.2⟩
        obtain ⟨v, hy, σ2, hr2, hs2⟩ := key
        exact wpAnyG_first ho (Region.noSelect_spec hsel) (fun _ _ _ h => h) l.length listed a w h1.2 hc (Region.free_spec ho h1.1.2) hready hy
          (ord_sim hT hsel l _ h2 (hc.set hready) hr2 hs2)
      | false =>
        simp only [hp, cond_false, Bool.and_eq_true, beq_iff_eq] at h1
        have hready : i ∈ Region.ready .any ops listed := by rw [h1.1]; simp
        have hcl := hc.set hready
        show wpAnyG P .any ops (QN w0 K) ds (l.length + 1) listed a w
        intro w1 hw1
        have hcons := sOps_cons (h.grow hw1) hs
        refine ⟨fun e => (by rw [e] at hready; cases hready), fun j hj => ?_⟩
        rw [h1.1] at hj
        simp only [List.mem_singleton] at hj
        subst hj
        unfold wpOp
        simp only [ho]
        rcases hcons with ⟨hw, σ', hr, hop⟩ | ⟨hw, σ', hr, hsk⟩
        · rw [hw, if_pos rfl]
          refine .inl ?_
          by_cases hds : ds.contains j = true
          · refine Oper.wp_mono ?_ (sOp_sound hT hr (sOpB_f hop))
            rintro a' w' ⟨σ2, hr2, hs2⟩
            exact ⟨fun hn => absurd (by simpa using hds) hn, ord_sim hT hsel l _ h2 hcl hr2 hs2⟩
          · have hg : growO T o = true := by
              have := h1.2
              simp only [Bool.or_eq_true] at this
              exact this.resolve_left hds
            refine Oper.wp_mono ?_ (sOp_grow hT hr hg (sOpB_f hop))
            rintro a' w' ⟨hb, σ2, hr2, hs2⟩
            exact ⟨fun _ => hb, ord_sim hT hsel l _ h2 hcl hr2 hs2⟩
        · rw [hw, if_neg (by simp)]
          exact ⟨fun _ => Below.refl _ _, ord_sim hT hsel l _ h2 hcl (hr.put0 hsk.1) hsk.2⟩
    · cases h1

theorem closed_begin {ops : Array Oper} {n : Nat} : ClosedL .any ops (Array.replicate n false) := by
  intro j o _ hj
  rw [Array.getD_eq_getD_getElem?, Array.getElem?_replicate] at hj
  split at hj <;> simp at hj

/-- A region that draws its order: walked in the order l. -/
theorem sdraw {T : Tab} (hT : T.Ok P) (hm : P.follows .mixedOrders = true) {id : Nat} {ops : Array Oper} (ds fs l : List Nat) (hsel : Region.noSelect ops = true) (hlen : ops.size = l.length)
    (hB : ordB T ops ds fs l (Array.replicate ops.size false) = true) {Q : Exit → St → Prop} {σ : St} (h : sOpsF P T ops (pickF ops fs l) σ (fun σ => Q .normal σ)) : SDraw P w0 id ops Q σ := by
  intro a w hr
  have hr' : R w0 σ a { w with drawn := w.drawn + 1 } := by
    obtain ⟨om, hr⟩ := hr
    exact ⟨om, hr.world rfl rfl rfl rfl⟩
  have h1 := ord_sim (K := fun σ => Q .normal σ) hT hsel l _ hB closed_begin hr' h
  rw [← hlen] at h1
  have h2 := wp_region_any (id := id) hm (wpAny_of_G _ _ _ _ h1)
  refine wp_mono h2 ?_
  intro e a w hq
  cases e with
  | normal => exact hq
  | _ => exact hq.elim

/-! every order, one by one -/
end

/-- Orders as a tree: first 'i', then 't'; or what 'r' tells. -/
inductive OT where
  | nil
  | alt (i : Nat) (t r : OT)

def OT.heads : OT → List Nat
  | .nil => []
  | .alt i _ r => i :: r.heads

/-- The tree meets every choice. -/
def OT.ok (ops : Array Oper) : OT → Bool → Nat → Array Bool → Bool
  | .nil, first, _, listed => !first || (Region.ready .any ops listed).isEmpty
  | .alt i t r, first, fuel, listed =>
    (match fuel with
     | 0 => false
     | f + 1 => (!first || (OT.alt i t r).heads == Region.ready .any ops listed) && (ops[i]?).isSome && t.ok ops true f (listed.setIfInBounds i true)) && r.ok ops false fuel listed

def sTree (P : Program) (T : Tab) (ops : Array Oper) (fs : List Nat) : OT → Bool → St → (St → Prop) → Prop
  | .nil, first, σ, K => if first then K σ else True
  | .alt i t r, _, σ, K => sOpsF P T ops (pickF ops fs [i]) σ (fun σ => sTree P T ops fs t true σ K) ∧ sTree P T ops fs r false σ K

section
variable {P : Program} {w0 : Base}

theorem sOps_one {T : Tab} (hT : T.Ok P) {ops : Array Oper} {fl : Bool} {i : Nat} {o : Oper} (ho : ops[i]? = some o) {K' K : St → Prop} {σ : St} {a : Act} {w : World} {X : Act → World → Prop} (hX : ∀ a w, After w0 K' a w → X a w) (h : R w0 σ a w) (hs : sOpsF P T ops [(fl, o)] σ K') :
    wpOp P ops (QN w0 K) i X a w := by
  unfold wpOp
  simp only [ho]
  rcases sOps_cons h hs with ⟨hw, σ', hr, hop⟩ | ⟨hw, σ', hr, hsk⟩
  · rw [hw, if_pos rfl]
    exact .inl (Oper.wp_mono hX (sOp_sound hT hr (sOpB_sOp hop)))
  · rw [hw, if_neg (by simp)]
    exact hX _ _ ⟨_, hr.put0 hsk.1, hsk.2⟩

theorem tree_sim {T : Tab} (hT : T.Ok P) {ops : Array Oper} {fs : List Nat} {K : St → Prop} : ∀ (t : OT) (fuel : Nat) (listed : Array Bool) {σ : St} {a : Act} {w : World}, R w0 σ a w →
    (t.ok ops true fuel listed = true → sTree P T ops fs t true σ K → wpAny P .any ops (QN w0 K) fuel listed a w) ∧
    (t.ok ops false fuel listed = true → sTree P T ops fs t false σ K → ∀ i ∈ t.heads, ∃ f, fuel = f + 1 ∧ wpOp P ops (QN w0 K) i (wpAny P .any ops (QN w0 K) f (listed.setIfInBounds i true)) a w)
  | .nil, fuel, listed, σ, a, w, h => by
    refine ⟨fun hb hs => ?_, fun _ _ i hi => by simp [OT.heads] at hi⟩
    simp only [OT.ok, Bool.not_true, Bool.false_or, List.isEmpty_iff] at hb
    simp only [sTree, if_true] at hs
    cases fuel with
    | zero => exact ⟨hb, σ, h, hs⟩
    | succ f => exact ⟨fun _ => ⟨σ, h, hs⟩, fun i hi => by rw [hb] at hi; cases hi⟩
  | .alt i t r, fuel, listed, σ, a, w, h => by
    have key : ∀ first, (OT.alt i t r).ok ops first fuel listed = true → sTree P T ops fs (.alt i t r) first σ K → ∀ j ∈ (OT.alt i t r).heads, ∃ f, fuel = f + 1 ∧ wpOp P ops (QN w0 K) j (wpAny P .any ops (QN w0 K) f (listed.setIfInBounds j true)) a w := by
      intro first hb hs j hj
      simp only [OT.ok, Bool.and_eq_true] at hb
      simp only [sTree] at hs
      rcases List.mem_cons.1 hj with rfl | hj
      · have hb1 := hb.1
        split at hb1
        · cases hb1
        · rename_i f
          simp only [Bool.and_eq_true] at hb1
          obtain ⟨o, ho⟩ := Option.isSome_iff_exists.1 hb1.1.2
          simp only [pickF, ho] at hs
          exact ⟨f, rfl, sOps_one hT ho (fun a w ⟨σ2, hr2, hs2⟩ => (tree_sim hT t f _ hr2).1 hb1.2 hs2) h hs.1⟩
      · exact (tree_sim hT r fuel listed h).2 hb.2 hs.2 j hj
    refine ⟨fun hb hs => ?_, fun hb hs => key false hb hs⟩
    have k := key true hb hs
    obtain ⟨f, rfl, _⟩ := k i (by simp [OT.heads])
    simp only [OT.ok, Bool.and_eq_true, Bool.not_true, Bool.false_or, beq_iff_eq] at hb
    refine ⟨fun e => ?_, fun j hj => ?_⟩
    · have := hb.1.1.1; rw [e] at this; simp [OT.heads] at this
    · rw [← hb.1.1.1] at hj
      obtain ⟨f', e, hw⟩ := k j hj
      obtain rfl : f = f' := by omega
      exact hw

/-- A region that draws its order: walked in every order. -/
theorem sdrawT {T : Tab} (hT : T.Ok P) (hm : P.follows .mixedOrders = true) {id : Nat} {ops : Array Oper} (fs : List Nat) (t : OT) (hB : t.ok ops true ops.size (Array.replicate ops.size false) = true) {Q : Exit → St → Prop} {σ : St}
    (h : sTree P T ops fs t true σ (fun σ => Q .normal σ)) : SDraw P w0 id ops Q σ := by
  intro a w hr
  have hr' : R w0 σ a { w with drawn := w.drawn + 1 } := by
    obtain ⟨om, hr⟩ := hr
    exact ⟨om, hr.world rfl rfl rfl rfl⟩
  have h2 := wp_region_any (id := id) hm ((tree_sim hT t ops.size _ hr').1 hB h)
  refine wp_mono h2 ?_
  intro e a w hq
  cases e with
  | normal => exact hq
  | _ => exact hq.elim
def OT.isNil : OT → Bool
  | .nil => true
  | _ => false

/-- The tree meets every choice, but for what may be taken first. -/
def OT.okG (T : Tab) (ops : Array Oper) (ds fs : List Nat) : OT → Bool → Nat → Array Bool → Bool
  | .nil, first, _, listed => !first || (Region.ready .any ops listed).isEmpty
  | .alt i t r, first, fuel, listed =>
    (match fuel with
     | 0 => false
     | f + 1 => (match ops[i]? with
       | none => false
       | some o => bif first && (mem1 i fs || pureO T o) && r.isNil then (Region.ready .any ops listed).contains i && Region.free .any ops listed i && ((!mem1 i fs && freeO o) || ds.all (fun d => listed.getD d true || reachO .any ops i ops.size d))
          else (!first || (OT.alt i t r).heads == Region.ready .any ops listed) && (ds.contains i || growO T o || pureO T o)) && t.okG T ops ds fs true f (listed.setIfInBounds i true)) && r.okG T ops ds fs false fuel listed

theorem sOps_oneG {T : Tab} (hT : T.Ok P) {ops : Array Oper} {ds : List Nat} {fl : Bool} {i : Nat} {o : Oper} (ho : ops[i]? = some o) (hg : (ds.contains i || growO T o || pureO T o) = true) {K' K : St → Prop} {σ : St} {a : Act} {w : World} {X : Act → World → Prop} (hX : ∀ a w, After w0 K' a w → X a w) (h : R w0 σ a w) (hs : sOpsF P T ops [(fl, o)] σ K') :
    wpOp P ops (QN w0 K) i (fun a' w' => (i ∉ ds → Below w.heap.size w w') ∧ X a' w') a w := by
  unfold wpOp
  simp only [ho]
  rcases sOps_cons h hs with ⟨hw, σ', hr, hop⟩ | ⟨hw, σ', hr, hsk⟩
  · rw [hw, if_pos rfl]
    refine .inl ?_
    have hop := sOpB_sOp hop
    cases hd : ds.contains i with
    | true => exact Oper.wp_mono (fun a' w' h => ⟨fun hn => absurd (by simpa using hd) hn, hX _ _ h⟩) (sOp_sound hT hr hop)
    | false =>
      cases hgr : growO T o with
      | true => exact Oper.wp_mono (fun a' w' h => ⟨fun _ => h.1, hX _ _ h.2⟩) (sOp_grow hT hr hgr hop)
      | false =>
        have hp : pureO T o = true := by simp only [hd, hgr, Bool.false_or] at hg; exact hg
        obtain ⟨v, hrun, hK⟩ := sOp_pure hT hr hp hop
        unfold Oper.wp
        rw [hrun w (Below.refl _ _), Oper.upon_value]
        exact ⟨fun _ => Below.refl _ _, hX _ _ hK⟩
  · rw [hw, if_neg (by simp)]
    exact ⟨fun _ => Below.refl _ _, hX _ _ ⟨_, hr.put0 hsk.1, hsk.2⟩⟩

theorem treeG_sim {T : Tab} (hT : T.Ok P) {ops : Array Oper} {ds fs : List Nat} (hsel : Region.noSelect ops = true) {K : St → Prop} : ∀ (t : OT) (fuel : Nat) (listed : Array Bool) {σ : St} {a : Act} {w : World}, ClosedL .any ops listed → R w0 σ a w →
    (t.okG T ops ds fs true fuel listed = true → sTree P T ops fs t true σ K → wpAnyG P .any ops (QN w0 K) ds fuel listed a w) ∧
    (t.okG T ops ds fs false fuel listed = true → sTree P T ops fs t false σ K → (∀ i ∈ t.heads, i ∈ Region.ready .any ops listed) → ∀ i ∈ t.heads, ∃ f, fuel = f + 1 ∧ wpOp P ops (QN w0 K) i (fun a' w' => (i ∉ ds → Below w.heap.size w w') ∧ wpAnyG P .any ops (QN w0 K) ds f (listed.setIfInBounds i true) a' w') a w)
  | .nil, fuel, listed, σ, a, w, hc, h => by
    refine ⟨fun hb hs => ?_, fun _ _ _ i hi => by simp [OT.heads] at hi⟩
    simp only [OT.okG, Bool.not_true, Bool.false_or, List.isEmpty_iff] at hb
    simp only [sTree, if_true] at hs
    cases fuel with
    | zero => exact fun w1 hw1 => ⟨hb, σ, h.grow hw1, hs⟩
    | succ f => exact fun w1 hw1 => ⟨fun _ => ⟨σ, h.grow hw1, hs⟩, fun i hi => by rw [hb] at hi; cases hi⟩
  | .alt i t r, fuel, listed, σ, a, w, hc, h => by
    have key : ∀ first (w : World), R w0 σ a w → (∀ j ∈ (OT.alt i t r).heads, j ∈ Region.ready .any ops listed) → (first && (match ops[i]? with | some o => (mem1 i fs || pureO T o) | none => false) && r.isNil) = false → (OT.alt i t r).okG T ops ds fs first fuel listed = true → sTree P T ops fs (.alt i t r) first σ K → ∀ j ∈ (OT.alt i t r).heads, ∃ f, fuel = f + 1 ∧ wpOp P ops (QN w0 K) j (fun a' w' => (j ∉ ds → Below w.heap.size w w') ∧ wpAnyG P .any ops (QN w0 K) ds f (listed.setIfInBounds j true) a' w') a w := by
      intro first w h hrd hnp hb hs j hj
      simp only [OT.okG, Bool.and_eq_true] at hb
      simp only [sTree] at hs
      rcases List.mem_cons.1 hj with rfl | hj
      · have hb1 := hb.1
        split at hb1
        · cases hb1
        · rename_i f
          split at hb1
          · simp at hb1
          · rename_i o ho
            simp only [ho] at hnp
            simp only [hnp, cond_false, Bool.and_eq_true] at hb1
            simp only [pickF, ho] at hs
            exact ⟨f, rfl, sOps_oneG hT ho hb1.1.2 (fun a w ⟨σ2, hr2, hs2⟩ => (treeG_sim hT hsel t f _ (hc.set (hrd j (by simp [OT.heads]))) hr2).1 hb1.2 hs2) h hs.1⟩
      · exact (treeG_sim hT hsel r fuel listed hc h).2 hb.2 hs.2 (fun k hk => hrd k (List.mem_cons_of_mem _ hk)) j hj
    refine ⟨fun hb hs => ?_, fun hb hs hrd => key false w h hrd (by simp) hb hs⟩
    cases hnp : (true && (match ops[i]? with | some o => (mem1 i fs || pureO T o) | none => false) && r.isNil) with
    | false =>
      have hrd : (OT.alt i t r).heads = Region.ready .any ops listed := by
        have hb1 := hb
        simp only [OT.okG, Bool.and_eq_true] at hb1
        have hb2 := hb1.1
        split at hb2
        · cases hb2
        · split at hb2
          · simp at hb2
          · rename_i o ho
            simp only [ho] at hnp
            simp only [hnp, cond_false, Bool.and_eq_true, Bool.not_true, Bool.false_or, beq_iff_eq] at hb2
            exact hb2.1.1
      have k := fun w h => key true w h (fun j hj => by rw [hrd] at hj; exact hj) hnp hb hs
      obtain ⟨f, rfl, _⟩ := k w h i (by simp [OT.heads])
      intro w1 hw1
      refine ⟨fun e => ?_, fun j hj => ?_⟩
      · rw [e] at hrd; simp [OT.heads] at hrd
      · rw [← hrd] at hj
        obtain ⟨f', e, hw⟩ := k w1 (h.grow hw1) j hj
        obtain rfl : f = f' := by omega
        exact hw
    | true =>
      simp only [OT.okG, Bool.and_eq_true] at hb
      have hb1 := hb.1
      split at hb1
      · cases hb1
      · rename_i f
        split at hb1
        · simp at hb1
        · rename_i o ho
          simp only [ho] at hnp
          simp only [hnp, cond_true, Bool.and_eq_true, Bool.or_eq_true, List.all_eq_true] at hb1
          have hready : i ∈ Region.ready .any ops listed := by simpa using hb1.1.1.1
          simp only [sTree, pickF, ho] at hs
          cases hm : mem1 i fs with
          | true =>
            rw [hm] at hs
            have hds : ∀ d ∈ ds, listed.getD d true = true ∨ reachO .any ops i ops.size d = true := by
              have h3 := hb1.1.2
              rw [hm] at h3
              simpa using h3
            have key : ∃ v, YG P false ops w o v a ∧ After w0 (fun σ => sTree P T ops fs t true σ K) (a.put o.dst v) w := by
              rcases sOps_cons h hs.1 with ⟨hw, σ', hr, hop⟩ | ⟨hw, σ', hr, hsk⟩
              · obtain ⟨v, hrun, hK⟩ := sFlat_val hr (sOpB_t hop)
                exact ⟨v, .inl ⟨hw, fun w' hw' => hrun w' (hw'.resolve_left (by simp))⟩, hK⟩
              · exact ⟨undef, .inr ⟨hw, rfl⟩, _, hr.put0 hsk.1, hsk.2⟩
            obtain ⟨v, hy, σ2, hr2, hs2⟩ := key
            exact wpAnyG_first ho (Region.noSelect_spec hsel) (fun _ _ _ h => h) f listed a w (.inr hds) hc (Region.free_spec ho hb1.1.1.2) hready hy
              ((treeG_sim hT hsel t f _ (hc.set hready) hr2).1 hb1.2 hs2)
          | false =>
            rw [hm] at hs
            have hp : pureO T o = true := by
              rw [hm] at hnp
              simp at hnp
              exact hnp.1
            have hds : freeO o = true ∨ ∀ d ∈ ds, listed.getD d true = true ∨ reachO .any ops i ops.size d = true := by
              have h3 := hb1.1.2
              rw [hm] at h3
              simpa using h3
            have key : ∃ v, YG P (freeO o) ops w o v a ∧ After w0 (fun σ => sTree P T ops fs t true σ K) (a.put o.dst v) w := by
              rcases sOps_cons h hs.1 with ⟨hw, σ', hr, hop⟩ | ⟨hw, σ', hr, hsk⟩
              · obtain ⟨v, hrun, hK⟩ := sOp_pure hT hr hp (sOpB_f hop)
                refine ⟨v, .inl ⟨hw, fun w' hw' => .inl ?_⟩, hK⟩
                rcases hw' with hw' | hw'
                · exact freeO_run hw' (hrun w (Below.refl _ _)) w'
                · exact hrun w' hw'
              · exact ⟨undef, .inr ⟨hw, rfl⟩, _, hr.put0 hsk.1, hsk.2⟩
            obtain ⟨v, hy, σ2, hr2, hs2⟩ := key
            exact wpAnyG_first ho (Region.noSelect_spec hsel) (fun _ _ _ h => h) f listed a w hds hc (Region.free_spec ho hb1.1.1.2) hready hy
              ((treeG_sim hT hsel t f _ (hc.set hready) hr2).1 hb1.2 hs2)

/-- A region that draws its order: walked in every order of what isn't free to be taken first; behind it, one state for all. -/
theorem sdrawM {T : Tab} (hT : T.Ok P) (hm : P.follows .mixedOrders = true) {id : Nat} {ops : Array Oper} (ds fs : List Nat) (t : OT) (σ' : St) (hsel : Region.noSelect ops = true) (hB : t.okG T ops ds fs true ops.size (Array.replicate ops.size false) = true) {Q : Exit → St → Prop} {σ : St}
    (h : sTree P T ops fs t true σ (fun σ => Sub w0 σ σ')) (hk : Q .normal σ') : SDraw P w0 id ops Q σ := by
  intro a w hr
  have hr' : R w0 σ a { w with drawn := w.drawn + 1 } := by
    obtain ⟨om, hr⟩ := hr
    exact ⟨om, hr.world rfl rfl rfl rfl⟩
  have h2 := wp_region_any (id := id) hm (wpAny_of_G _ _ _ _ ((treeG_sim hT hsel t ops.size _ closed_begin hr').1 hB h))
  refine wp_mono h2 ?_
  intro e a w hq
  cases e with
  | normal => obtain ⟨σ2, hr2, hs⟩ := hq; exact ⟨σ', hs a w hr2, hk⟩
  | _ => exact hq.elim
theorem tr_nil {T : Tab} {ops : Array Oper} {fs : List Nat} {σ : St} {K : St → Prop} : sTree P T ops fs .nil true σ K = K σ := rfl
theorem tr_nil' {T : Tab} {ops : Array Oper} {fs : List Nat} {σ : St} {K : St → Prop} : sTree P T ops fs .nil false σ K = True := rfl
theorem tr_alt {T : Tab} {ops : Array Oper} {fs : List Nat} {i : Nat} {t r : OT} {b : Bool} {σ : St} {K : St → Prop} : sTree P T ops fs (.alt i t r) b σ K = (sOpsF P T ops (pickF ops fs [i]) σ (fun σ => sTree P T ops fs t true σ K) ∧ sTree P T ops fs r false σ K) := rfl
end
def HCallF (P : Program) (f : FuncId) (l : List (Ty × D)) (K : List RV → Prop) (_ : Hold K) : Prop := ∃ rs0, flatR rs0 = true ∧ SCall P f l (fun rs => rs = rs0) ∧ K rs0
theorem HCallF_mono {P : Program} {f : FuncId} {l : List (Ty × D)} {K : List RV → Prop} {rs0 : List RV} (h : SCall P f l (fun rs => rs = rs0)) (hf : flatR rs0 = true) (hk : K rs0) : HCallF P f l K () := ⟨rs0, hf, h, hk⟩
section
variable {P : Program} {T : Tab} {σ : St} {K : St → Prop} {dst : Option Nat} {ty : TypeId} {pos : String} {aft : Array Edge} {g : Option (Nat × Bool)} {ops : Array Oper} {l : List (Bool × Oper)} {op : Op}
theorem e_flat {f : FuncId} {xs : List Operand} {us : List TypeId} : sFlat P T ⟨dst, .call { callee := .value (.func f), args := xs.toArray, argTypes := us.toArray }, ty, pos, aft, g⟩ σ K = (dstOk dst σ.nt ∧ growF T f us = true ∧ match sArgs T σ xs us with
    | some l => HCallF P f l (fun rs => K (retSt σ (aRefs σ xs) rs dst)) ()
    | none => False) := rfl
theorem of_nil : sOpsF P T ops [] σ K = K σ := rfl
theorem of_plain : sOpsF P T ops ((false, ⟨dst, op, ty, pos, aft, none⟩) :: l) σ K = sOp P T ⟨dst, op, ty, pos, aft, none⟩ σ (fun σ => sOpsF P T ops l σ K) := rfl
theorem of_flat : sOpsF P T ops ((true, ⟨dst, op, ty, pos, aft, none⟩) :: l) σ K = sFlat P T ⟨dst, op, ty, pos, aft, none⟩ σ (fun σ => sOpsF P T ops l σ K) := rfl
theorem of_guard {fl : Bool} {j : Nat} {want : Bool} : sOpsF P T ops ((fl, ⟨dst, op, ty, pos, aft, some (j, want)⟩) :: l) σ K =
    match gdst ops j with
    | some t => match Go.SE.look σ.tm t with
      | some (.v (.d .bool x)) => HIf x.bool
        (if want then sOpB P T fl ⟨dst, op, ty, pos, aft, some (j, want)⟩ (σ.setB t true) (fun σ => sOpsF P T ops l σ K) else sSkip ⟨dst, op, ty, pos, aft, some (j, want)⟩ (σ.setB t true) (fun σ => sOpsF P T ops l σ K))
        (if want then sSkip ⟨dst, op, ty, pos, aft, some (j, want)⟩ (σ.setB t false) (fun σ => sOpsF P T ops l σ K) else sOpB P T fl ⟨dst, op, ty, pos, aft, some (j, want)⟩ (σ.setB t false) (fun σ => sOpsF P T ops l σ K)) () ()
      | some .u => sSkip ⟨dst, op, ty, pos, aft, some (j, want)⟩ σ (fun σ => sOpsF P T ops l σ K)
      | _ => False
    | none => False := rfl
theorem ob_true {o : Oper} : sOpB P T true o σ K = sFlat P T o σ K := rfl
theorem ob_false {o : Oper} : sOpB P T false o σ K = sOp P T o σ K := rfl
end
theorem gf : type_of% (And.intro @e_flat (And.intro @of_nil (And.intro @of_plain (And.intro @of_flat (And.intro @of_guard (And.intro @ob_true @ob_false)))))) := And.intro @e_flat (And.intro @of_nil (And.intro @of_plain (And.intro @of_flat (And.intro @of_guard (And.intro @ob_true @ob_false)))))
end Go.SE
/- A contract with lent objects, by the function's text. -/
namespace Go.SE
open Go.RowKit (Below)

def qTm : Nat → List SV → List (Nat × TV)
  | _, [] => []
  | n, x :: l => (n, .v x) :: qTm (n + 1) l
def resSVs (T : Tab) (σ : St) : List ResultVar → Option (List SV)
  | [] => some []
  | r :: l => match resSV T σ r with
    | some s => match resSVs T σ l with | some ss => some (s :: ss) | none => none
    | none => none
def rangeN : Nat → Nat → List Nat
  | _, 0 => []
  | n, k + 1 => n :: rangeN (n + 1) k
def contN (ob : List (Nat × Ob)) : List Nat → List Nat
  | [] => []
  | o :: l => match look ob o with | some x => app (names x.c) (contN ob l) | none => contN ob l
def idL : Nat → List Nat → Nat → Bool
  | _, _, 0 => true
  | n, x :: L, k + 1 => if x = n then idL (n + 1) L k else false
  | _, [], _ + 1 => false
def obsPr (ob : List (Nat × Ob)) (L0 : List Nat) : List Nat → Option (List (Nat × Ob))
  | [] => some []
  | o :: L => match look ob o with
    | some x => if inB (names x.c) L0 = true then (match obsPr ob L0 L with | some l => some ((pos L0 o, ⟨x.t, renB (pos L0) x.c⟩) :: l) | none => none) else none
    | none => obsPr ob L0 L
/-- What a call with k lent objects ends with: results and objects under names of their own. -/
def exitL (K : List SV → List (Nat × Ob) → Nat → Prop) (σ : St) (k : Nat) (rs : List SV) (L : List Nat) : Prop :=
  match obsPr σ.ob L L with
  | some ob => (nodup1 L && inB (namesL rs) L && idL 0 L k) = true ∧ K (mapS (pos L) rs) ob L.length
  | none => False
def sRetP (T : Tab) (rl : List ResultVar) (k : Nat) (σ : St) (K : List SV → List (Nat × Ob) → Nat → Prop) : Prop :=
  match resSVs T σ rl with
  | some rs => exitL K σ k rs (reach σ.ob 64 (app (contN σ.ob (rangeN 0 k)) (namesL rs)) (rangeN 0 k))
  | none => False
def sExitP (T : Tab) (rl : List ResultVar) (k : Nat) (K : List SV → List (Nat × Ob) → Nat → Prop) : Exit → St → Prop
  | .normal, σ | .ret, σ => sRetP T rl k σ K
  | _, _ => False
@[congr] theorem sExitP_congr {T : Tab} {rl : List ResultVar} {k : Nat} {K : List SV → List (Nat × Ob) → Nat → Prop} {e e' : Exit} {σ σ' : St} (he : e = e') (h : σ = σ') : sExitP T rl k K e σ = sExitP T rl k K e' σ' := by rw [he, h]

section
variable {P : Program} {w0 : Base} {om : Om} {σ : St} {a : Act} {w : World}

theorem qTm_get : ∀ {l : List SV} {n t : Nat} {x : TV}, look (qTm n l) t = some x → ∃ i s, t = n + i ∧ x = .v s ∧ l[i]? = some s
  | [], n, t, x, h => by simp [qTm, look] at h
  | s :: l, n, t, x, h => by
    simp only [qTm, look] at h
    split at h
    · rename_i e
      simp only [Option.some.injEq] at h
      exact ⟨0, s, e.symm, h.symm, rfl⟩
    · obtain ⟨i, s', e, hx, hl⟩ := qTm_get h
      exact ⟨i + 1, s', by omega, hx, by simpa using hl⟩

theorem idL_ok : ∀ {k n : Nat} {L : List Nat}, idL n L k = true → ∀ i, i < k → L[i]? = some (n + i)
  | 0, _, _, _, i, hi => absurd hi (Nat.not_lt_zero i)
  | k + 1, n, x :: L, h, i, hi => by
    simp only [idL] at h
    split at h
    · rename_i e
      cases i with
      | zero => simp [e]
      | succ i =>
        have := idL_ok h i (by omega)
        simp only [List.getElem?_cons_succ, this]
        congr 1
        omega
    · cases h
  | _ + 1, _, [], h, _, _ => by simp [idL] at h

theorem obsPr_ok {ob : List (Nat × Ob)} {L0 : List Nat} : ∀ {L : List Nat} {l : List (Nat × Ob)}, obsPr ob L0 L = some l → (∀ o ∈ L, o ∈ L0) →
    ∀ i x, look l i = some x → ∃ o y, L0[i]? = some o ∧ look ob o = some y ∧ x = ⟨y.t, renB (pos L0) y.c⟩ ∧ ∀ k ∈ names y.c, k ∈ L0
  | [], l, h, _, i, x, hx => by simp only [obsPr, Option.some.injEq] at h; subst h; simp [look] at hx
  | o :: L, l, h, hin, i, x, hx => by
    simp only [obsPr] at h
    split at h
    · rename_i y hy
      split at h
      · rename_i hn
        split at h
        · rename_i l' hl
          simp only [Option.some.injEq] at h
          subst h
          simp only [look] at hx
          split at hx
          · rename_i e
            simp only [Option.some.injEq] at hx
            subst e
            exact ⟨o, y, pos_ok (hin o (by simp)), hy, hx.symm, inB_ok hn⟩
          · exact obsPr_ok hl (fun o ho => hin o (by simp [ho])) i x hx
        · cases h
      · cases h
    · exact obsPr_ok h (fun o ho => hin o (by simp [ho])) i x hx

theorem resSVs_ok (h : R0 w0 om σ a w) {T : Tab} (hT : T.Ok P) : ∀ {rl : List ResultVar} {ss : List SV}, resSVs T σ rl = some ss →
    ∃ vals : List Value, (rl.mapM (resRun a)).run P w = .ok vals w ∧ ss.length = vals.length ∧ ∀ (i : Nat) (s : SV) (v : Value), ss[i]? = some s → vals[i]? = some v → Val1 w om (Mb σ.ob om) s v
  | [], ss, hs => by
    simp only [resSVs, Option.some.injEq] at hs
    subst hs
    exact ⟨[], by simp, rfl, fun i s v hx => by simp at hx⟩
  | r :: l, ss, hs => by
    simp only [resSVs] at hs
    split at hs
    · rename_i s hr
      split at hs
      · rename_i ss' hl
        simp only [Option.some.injEq] at hs
        subst hs
        obtain ⟨vals, h1, h2, h3⟩ := resSVs_ok h hT hl
        have hv : ∃ v, (resRun a r).run P w = .ok v w ∧ Val1 w om (Mb σ.ob om) s v := by
          cases r with
          | tmp t =>
            simp only [resSV] at hr
            split at hr
            · rename_i s' hl
              simp only [Option.some.injEq] at hr
              subst hr
              exact ⟨_, rfl, h.tm t _ hl⟩
            · cases hr
          | cell t u' =>
            simp only [resSV] at hr
            split at hr
            · rename_i o p hl
              split at hr
              · rename_i ob τ hlo hlt
                split at hr
                · rename_i hsub
                  obtain ⟨q, u2, c, el, fr, ev, ho', hsub', hok, hh, hu, hroom, hcv⟩ := ptr_place h (h.tm t _ hl : Val1 _ _ _ _ _) hlo
                  obtain ⟨A, hA, hcA, hle⟩ := CV.get hcv hok hr
                  rw [hsub] at hA
                  simp only [Option.some.injEq] at hA
                  subst hA
                  have hr1 := hroom.1
                  have hce : (((c.toList.drop q.base).take ob.t.size).drop (ob.t.offs p)).take τ.size = (c.toList.drop (q.base + ob.t.offs p)).take τ.size := take_drop_take_drop _ hle
                  rw [hce] at hcA
                  obtain ⟨v, hrun, hvc, hva⟩ := run_loadVar (P := P) hh (hT u' τ hlt).1 (o := q.base + ob.t.offs p) (by omega) (fun v hv => hcA.one v hv)
                  refine ⟨v, ?_, τ, by rw [hvc]; exact hcA, hva⟩
                  simp [resRun, ev, asAddr, hrun]
                · cases hr
              · cases hr
            · cases hr
        obtain ⟨v, hrun, hval⟩ := hv
        refine ⟨v :: vals, ?_, by simp [h2], ?_⟩
        · rw [List.mapM_cons]
          simp only [Sem.run_bind, hrun, Result.andThen_ok, h1, Sem.run_pure]
        · intro i s' v' g1 g2
          cases i with
          | zero =>
            simp only [List.getElem?_cons_zero, Option.some.injEq] at g1 g2
            subst g1; subst g2
            exact hval
          | succ i => exact h3 i s' v' (by simpa using g1) (by simpa using g2)
      · cases hs
    · cases hs

/-- A contract with lent objects, by the function's text. -/
theorem scallP_intro {T : Tab} (hT : T.Ok P) {f : FuncId} {fn : Func} {c : Code} {rl : List ResultVar} {us : List TypeId} {n : Nat} (hf : P.funcs[f]? = some fn) (hb : fn.body = some c) (hn : (fn.name == "runtime.NumGoroutine") = false)
    (hrl : fn.results.toList = rl) (_ : fn.resultTypes.toList = us) (hnt : fn.ntmps = n) {xs : List SV} (hlen : xs.length ≤ n) {obs : List Ob} {K : List SV → List (Nat × Ob) → Nat → Prop}
    (h : ∀ w0 : Base, Lent w0 obs.length → swp P T w0 c (sExitP T rl obs.length K) ⟨n, qTm 0 xs, enumO 0 obs, obs.length⟩) : SCallP P f xs obs K := by
  refine ⟨⟨fn, hf, hn, by rw [hb]; rfl⟩, ?_⟩
  intro w om vs hp
  let w0 : Base := { w with F := om.F, low := fun b hb => hp.low b (.inl hb), X := Mo (enumO 0 obs) om, dis := hp.dis, om := om.tab, glob := hp.glob }
  refine calls_of_wp hf hb ?_
  have hl := hp.len
  have hR : R w0 ⟨n, qTm 0 xs, enumO 0 obs, obs.length⟩ { tmps := vs.toArray ++ Array.replicate (fn.ntmps - vs.toArray.size) undef, defers := [] } w := by
    refine ⟨om, BelX.refl _ _ _, rfl, rfl, ?_, ?_, ?_, hp.apart, hp.fresh, fun _ _ k => k⟩
    · simp; omega
    · intro t v hv
      obtain ⟨i, s, rfl, rfl, hs⟩ := qTm_get hv
      have hi : i < vs.length := by rw [← hl]; exact (List.getElem?_eq_some_iff.1 hs).1
      have : (vs.toArray ++ Array.replicate (fn.ntmps - vs.toArray.size) undef).getD (0 + i) undef = vs[i] := by
        rw [Array.getD_eq_getD_getElem?, Nat.zero_add, Array.getElem?_append_left (by simpa using hi)]
        simp [hi]
      rw [this]
      exact hp.args i s vs[i] hs (List.getElem?_eq_getElem hi)
    · intro o x hx
      obtain ⟨pl, h1, h2⟩ := hp.objs o x hx
      refine ⟨pl, h1, ?_⟩
      cases pl with
      | none => exact h2
      | some q => exact ⟨.inr ⟨o, x, x.t, q, hx, h1, rfl⟩, h2.2⟩
  refine wp_mono (swp_sound hT hR (h w0 hp.fresh)) ?_
  rintro e a' w' ⟨σ, ⟨om', hr⟩, hq⟩
  have fin : sRetP T rl obs.length σ K → bodyPost P fn (fun e w' => ∃ v om' ob' nx' rs, e = .returned v ∧ PostOk w w' om (enumO 0 obs) om' ob' nx' rs v ∧ K rs ob' nx') .ret a' w' := by
    intro hs
    unfold sRetP at hs
    split at hs
    · rename_i rs hrs
      generalize reach σ.ob 64 (app (contN σ.ob (rangeN 0 obs.length)) (namesL rs)) (rangeN 0 obs.length) = L at hs
      unfold exitL at hs
      split at hs
      · rename_i ob1 hob1
        obtain ⟨hbl, hK⟩ := hs
        simp only [Bool.and_eq_true] at hbl
        obtain ⟨⟨hnd, hin⟩, hid⟩ := hbl
        obtain ⟨vals, k1, k2, k3⟩ := resSVs_ok hr hT hrs
        have hat := obsPr_ok hob1 (fun o ho => ho)
        let om1 : Om := ⟨fun i => match L[i]? with | some o => om' o | none => none, om'.F⟩
        have hom1 : ∀ {i o : Nat}, L[i]? = some o → om1 i = om' o := by
          intro i o ho
          show (match L[i]? with | some o => om' o | none => none) = _
          rw [ho]
        have hpos : ∀ o ∈ L, ∀ y, om' o = some y → om1 (pos L o) = some y := fun o hm y hy => by rw [hom1 (pos_ok hm)]; exact hy
        have hMo : ∀ b, Mo ob1 om1 b → Mo σ.ob om' b := by
          rintro b ⟨i, x, t, q, g1, g2, g3⟩
          obtain ⟨o, y, m1, m2, _, _⟩ := hat i x g1
          rw [hom1 m1] at g2
          exact ⟨o, y, t, q, m2, g2, g3⟩
        have hM : ∀ b (x : Obj), ¬ Mb σ.ob om' b → w'.heap[b]? = some x → ¬ Mb ob1 om1 b ∧ w'.heap[b]? = some x := fun b x g1 g2 => ⟨fun k => g1 (k.imp id (hMo b)), g2⟩
        refine ⟨hr.defers, tupV vals, ?_, tupV vals, om1, ob1, L.length, mapS (pos L) rs, rfl, ⟨hr.below, hr.hF, ?_, ?_, ?_, ?_, ?_⟩, hK⟩
        · rw [results_eq, Array.mapM_eq_mapM_toList, hrl]
          simp only [Sem.run_bind, Sem.run_map, k1, Result.andThen_ok, Sem.run_pure, List.size_toArray]
          match vals with
          | [] => rfl
          | [v] => rfl
          | v :: u :: l => simp [tupV]
        · intro o y hy
          have hlt : o < obs.length := by
            rcases Nat.lt_or_ge o obs.length with g | g
            · exact g
            · rw [hp.fresh o g] at hy; cases hy
          have := idL_ok hid o hlt
          rw [Nat.zero_add] at this
          rw [hom1 this]
          exact hr.keep o y hy
        · intro i x hx
          obtain ⟨o, y, m1, m2, rfl, m4⟩ := hat i x hx
          obtain ⟨pl, g1, g2⟩ := hr.ob o y m2
          refine ⟨pl, by rw [hom1 m1]; exact g1, ?_⟩
          cases pl with
          | none => exact ⟨g2.1, CV.ren hM (fun k hk => hpos k (m4 k hk)) g2.2⟩
          | some q =>
            obtain ⟨g3, c', el, fr, g4, g5, g6, g7⟩ := g2
            exact ⟨g3, c', el, fr, g4, g5, g6, CV.ren hM (fun k hk => hpos k (m4 k hk)) g7⟩
        · intro i j x x' t t' q q' g1 g2 g3 g4 g5
          obtain ⟨o, y, m1, m2, _, _⟩ := hat i x g1
          obtain ⟨o', y', m1', m2', _, _⟩ := hat j x' g2
          rw [hom1 m1] at g3
          rw [hom1 m1'] at g4
          have e := hr.apart _ _ _ _ _ _ _ _ m2 m2' g3 g4 g5
          subst e
          exact (List.getElem?_inj (List.getElem?_eq_some_iff.1 m1).1 (nodup1_ok hnd)).1 (m1.trans m1'.symm)
        · intro i hi
          show (match L[i]? with | some o => om' o | none => none) = none
          rw [List.getElem?_eq_none hi]
        · refine ⟨vals, rfl, by rw [mapS_length]; exact k2, ?_⟩
          intro i x u hx hu
          rw [mapS_get, Option.map_eq_some_iff] at hx
          obtain ⟨y, hy, rfl⟩ := hx
          obtain ⟨t, g1, g2⟩ := k3 i y u hy hu
          exact ⟨t, CV.ren hM (fun k hk => hpos k (inB_ok hin k (namesL_mem hy hk))) g1, g2⟩
      · exact hs.elim
    · exact hs.elim
  cases e with
  | normal => exact fin hq
  | ret => exact fin hq
  | _ => exact hq.elim
end
theorem xp_ret {T : Tab} {rl : List ResultVar} {k : Nat} {K : List SV → List (Nat × Ob) → Nat → Prop} {σ : St} : sExitP T rl k K .ret σ = sRetP T rl k σ K := rfl
theorem xp_normal {T : Tab} {rl : List ResultVar} {k : Nat} {K : List SV → List (Nat × Ob) → Nat → Prop} {σ : St} : sExitP T rl k K .normal σ = sRetP T rl k σ K := rfl
theorem xp_mk {T : Tab} {rl : List ResultVar} {k : Nat} {K : List SV → List (Nat × Ob) → Nat → Prop} {σ : St} : sRetP T rl k σ K = match resSVs T σ rl with
  | some rs => exitL K σ k rs (reach σ.ob 64 (app (contN σ.ob (rangeN 0 k)) (namesL rs)) (rangeN 0 k))
  | none => False := rfl
theorem xl_mk {K : List SV → List (Nat × Ob) → Nat → Prop} {σ : St} {k : Nat} {rs : List SV} {L : List Nat} : exitL K σ k rs L = match obsPr σ.ob L L with
  | some ob => (nodup1 L && inB (namesL rs) L && idL 0 L k) = true ∧ K (mapS (pos L) rs) ob L.length
  | none => False := rfl
theorem qt_nil {n : Nat} : qTm n [] = [] := rfl
theorem qt_cons {n : Nat} {x : SV} {l : List SV} : qTm n (x :: l) = (n, .v x) :: qTm (n + 1) l := rfl
theorem rs_nil {T : Tab} {σ : St} : resSVs T σ [] = some [] := rfl
theorem rs_cons {T : Tab} {σ : St} {r : ResultVar} {l : List ResultVar} : resSVs T σ (r :: l) = match resSV T σ r with
    | some s => match resSVs T σ l with | some ss => some (s :: ss) | none => none
    | none => none := rfl
theorem rn_zero {n : Nat} : rangeN n 0 = [] := rfl
theorem rn_succ {n k : Nat} : rangeN n (k + 1) = n :: rangeN (n + 1) k := rfl
theorem cn_nil {ob : List (Nat × Ob)} : contN ob [] = [] := rfl
theorem cn_cons {ob : List (Nat × Ob)} {o : Nat} {l : List Nat} : contN ob (o :: l) = match Go.SE.look ob o with | some x => app (names x.c) (contN ob l) | none => contN ob l := rfl
theorem il_zero {n : Nat} {L : List Nat} : idL n L 0 = true := by cases L <;> rfl
theorem il_succ {n k x : Nat} {L : List Nat} : idL n (x :: L) (k + 1) = if x = n then idL (n + 1) L k else false := rfl
theorem op_nil {ob : List (Nat × Ob)} {L0 : List Nat} : obsPr ob L0 [] = some [] := rfl
theorem op_cons {ob : List (Nat × Ob)} {L0 : List Nat} {o : Nat} {L : List Nat} : obsPr ob L0 (o :: L) = match Go.SE.look ob o with
    | some x => if inB (names x.c) L0 = true then (match obsPr ob L0 L with | some l => some ((pos L0 o, ⟨x.t, renB (pos L0) x.c⟩) :: l) | none => none) else none
    | none => obsPr ob L0 L := rfl
theorem en_nil {n : Nat} : enumO n [] = [] := rfl
theorem en_cons {n : Nat} {x : Ob} {l : List Ob} : enumO n (x :: l) = (n, x) :: enumO (n + 1) l := rfl
theorem rsv_tmp {T : Tab} {σ : St} {t : Nat} : resSV T σ (.tmp t) = match Go.SE.look σ.tm t with | some (.v s) => some s | _ => none := rfl
theorem rsv_cell {T : Tab} {σ : St} {t : Nat} {u : TypeId} : resSV T σ (.cell t u) = match Go.SE.look σ.tm t with
    | some (.v (.ptr o p)) => (match Go.SE.look σ.ob o, Go.SE.look T u with
      | some ob, some τ => if ob.t.sub p = some τ then ob.c.get p else none
      | _, _ => none)
    | _ => none := rfl
theorem gx : type_of% (And.intro @xp_ret (And.intro @xp_normal (And.intro @xp_mk (And.intro @xl_mk (And.intro @qt_nil (And.intro @qt_cons (And.intro @rs_nil (And.intro @rs_cons (And.intro @rn_zero (And.intro @rn_succ (And.intro @cn_nil (And.intro @cn_cons (And.intro @il_zero (And.intro @il_succ (And.intro @op_nil (And.intro @op_cons (And.intro @en_nil (And.intro @en_cons (And.intro @rsv_tmp @rsv_cell))))))))))))))))))) :=
  (And.intro @xp_ret (And.intro @xp_normal (And.intro @xp_mk (And.intro @xl_mk (And.intro @qt_nil (And.intro @qt_cons (And.intro @rs_nil (And.intro @rs_cons (And.intro @rn_zero (And.intro @rn_succ (And.intro @cn_nil (And.intro @cn_cons (And.intro @il_zero (And.intro @il_succ (And.intro @op_nil (And.intro @op_cons (And.intro @en_nil (And.intro @en_cons (And.intro @rsv_tmp @rsv_cell)))))))))))))))))))
theorem gA : type_of% (And.intro gpre (And.intro gmore (And.intro gf (And.intro @bldS.eq_1 (And.intro @bldS.eq_2 (And.intro @bld.eq_1 @bld.eq_2)))))) :=
  (And.intro gpre (And.intro gmore (And.intro gf (And.intro @bldS.eq_1 (And.intro @bldS.eq_2 (And.intro @bld.eq_1 @bld.eq_2))))))
theorem gB : type_of% (And.intro gp (And.intro gx (And.intro gpost (And.intro gall (And.intro @keepT.eq_1 (And.intro @keepT.eq_2 (And.intro @del.eq_1 (And.intro @del.eq_2 (And.intro @upd.eq_1 (And.intro @upd.eq_2 (And.intro @dels.eq_1 (And.intro @dels.eq_2 (And.intro @sArgs.eq_1 (And.intro @sArgs.eq_2 (And.intro @sArgs.eq_3 (And.intro @aRefs.eq_1 (And.intro @aRefs.eq_2 (And.intro @rvs.eq_1 (And.intro @rvs.eq_2 (And.intro @rvs.eq_3 (And.intro @nodupB.eq_1 (And.intro @nodupB.eq_2 (And.intro @memB.eq_1 (And.intro @memB.eq_2 (And.intro @app.eq_1 (And.intro @app.eq_2 (And.intro @pTm.eq_1 (And.intro @pTm.eq_2 (And.intro @Ty.bytes.eq_1 (And.intro @Ty.bytes.eq_2 (And.intro @Ty.bytes.eq_3 (And.intro @Ty.bytes.eq_4 (And.intro @Ty.bytes.eq_5 (And.intro @Ty.bytes.eq_6 (And.intro @Ty.bytes.eq_7 (And.intro @Ty.bytes.eq_8 (And.intro @kbytes.eq_1 (And.intro @kbytes.eq_2 (And.intro @kbytes.eq_3 (And.intro @kbytes.eq_4 (And.intro @kbytes.eq_5 (And.intro @kbytes.eq_6 (And.intro @kbytes.eq_7 (And.intro @kbytes.eq_8 (And.intro @Ty.zeroD.eq_1 (And.intro @Ty.zeroD.eq_2 (And.intro @Ty.zeroD.eq_3 (And.intro @Ty.zeroD.eq_4 (And.intro @Ty.zeroD.eq_5 (And.intro @Ty.zeroD.eq_6 (And.intro @Ty.zeroD.eq_7 (And.intro @Ty.zeroD.eq_8 (And.intro @Ty.size.eq_1 (And.intro @Ty.size.eq_2 (And.intro @Ty.size.eq_3 (And.intro @Ty.size.eq_4 (And.intro @Ty.size.eq_5 (And.intro @Ty.size.eq_6 (And.intro @Ty.size.eq_7 (And.intro @Ty.size.eq_8 (And.intro @Go.SE.look.eq_1 @Go.SE.look.eq_2))))))))))))))))))))))))))))))))))))))))))))))))))))))))))))) :=
  (And.intro gp (And.intro gx (And.intro gpost (And.intro gall (And.intro @keepT.eq_1 (And.intro @keepT.eq_2 (And.intro @del.eq_1 (And.intro @del.eq_2 (And.intro @upd.eq_1 (And.intro @upd.eq_2 (And.intro @dels.eq_1 (And.intro @dels.eq_2 (And.intro @sArgs.eq_1 (And.intro @sArgs.eq_2 (And.intro @sArgs.eq_3 (And.intro @aRefs.eq_1 (And.intro @aRefs.eq_2 (And.intro @rvs.eq_1 (And.intro @rvs.eq_2 (And.intro @rvs.eq_3 (And.intro @nodupB.eq_1 (And.intro @nodupB.eq_2 (And.intro @memB.eq_1 (And.intro @memB.eq_2 (And.intro @app.eq_1 (And.intro @app.eq_2 (And.intro @pTm.eq_1 (And.intro @pTm.eq_2 (And.intro @Ty.bytes.eq_1 (And.intro @Ty.bytes.eq_2 (And.intro @Ty.bytes.eq_3 (And.intro @Ty.bytes.eq_4 (And.intro @Ty.bytes.eq_5 (And.intro @Ty.bytes.eq_6 (And.intro @Ty.bytes.eq_7 (And.intro @Ty.bytes.eq_8 (And.intro @kbytes.eq_1 (And.intro @kbytes.eq_2 (And.intro @kbytes.eq_3 (And.intro @kbytes.eq_4 (And.intro @kbytes.eq_5 (And.intro @kbytes.eq_6 (And.intro @kbytes.eq_7 (And.intro @kbytes.eq_8 (And.intro @Ty.zeroD.eq_1 (And.intro @Ty.zeroD.eq_2 (And.intro @Ty.zeroD.eq_3 (And.intro @Ty.zeroD.eq_4 (And.intro @Ty.zeroD.eq_5 (And.intro @Ty.zeroD.eq_6 (And.intro @Ty.zeroD.eq_7 (And.intro @Ty.zeroD.eq_8 (And.intro @Ty.size.eq_1 (And.intro @Ty.size.eq_2 (And.intro @Ty.size.eq_3 (And.intro @Ty.size.eq_4 (And.intro @Ty.size.eq_5 (And.intro @Ty.size.eq_6 (And.intro @Ty.size.eq_7 (And.intro @Ty.size.eq_8 (And.intro @Go.SE.look.eq_1 @Go.SE.look.eq_2)))))))))))))))))))))))))))))))))))))))))))))))))))))))))))))
theorem gK : type_of% (And.intro @pickF.eq_1 (And.intro @pickF.eq_2 (And.intro @mem1.eq_1 (And.intro @mem1.eq_2 (And.intro @List.getElem?_toArray.{0} (And.intro @List.getElem?_cons_zero.{0} @List.getElem?_cons_succ.{0})))))) := And.intro @pickF.eq_1 (And.intro @pickF.eq_2 (And.intro @mem1.eq_1 (And.intro @mem1.eq_2 (And.intro @List.getElem?_toArray.{0} (And.intro @List.getElem?_cons_zero.{0} @List.getElem?_cons_succ.{0})))))
end Go.SE
/- The seat's types. -/
namespace Go.Proofs
open Go.SE

def Tryd.Tb : Tab := [(2, (.int .i64)), (3, (.int .i64)), (4, .bool), (5, (.int .u8)), (9, .str), (12, (.int .u64)), (21, (.int .i32)), (22, (.int .u32)), (23, (.sl (.cons (.cons (.arr 32 (.int .u8)) (.cons (.int .u32) .nil)) (.cons (.int .u32) (.cons (.sl (.sl (.int .u8))) .nil))))), (24, (.sl (.cons (.int .i64) (.cons (.sl (.int .u8)) .nil)))), (25, (.cons (.int .u32) (.cons (.sl (.cons (.cons (.arr 32 (.int .u8)) (.cons (.int .u32) .nil)) (.cons (.int .u32) (.cons (.sl (.sl (.int .u8))) .nil)))) (.cons (.sl (.cons (.int .i64) (.cons (.sl (.int .u8)) .nil))) (.cons (.int .u32) .nil))))), (26, (.cons (.int .u32) (.cons (.sl (.cons (.cons (.arr 32 (.int .u8)) (.cons (.int .u32) .nil)) (.cons (.int .u32) (.cons (.sl (.sl (.int .u8))) .nil)))) (.cons (.sl (.cons (.int .i64) (.cons (.sl (.int .u8)) .nil))) (.cons (.int .u32) .nil))))), (27, (.sl (.int .u8))), (28, (.cons (.int .i64) (.cons (.sl (.int .u8)) .nil))), (29, (.cons (.int .i64) (.cons (.sl (.int .u8)) .nil))), (32, (.arr 32 (.int .u8))), (33, (.arr 32 (.int .u8))), (34, (.int .i64)), (37, (.cons (.arr 32 (.int .u8)) (.cons (.int .u32) .nil))), (38, (.cons (.arr 32 (.int .u8)) (.cons (.int .u32) .nil))), (39, (.sl (.sl (.int .u8)))), (40, (.cons (.cons (.arr 32 (.int .u8)) (.cons (.int .u32) .nil)) (.cons (.int .u32) (.cons (.sl (.sl (.int .u8))) .nil)))), (41, (.cons (.cons (.arr 32 (.int .u8)) (.cons (.int .u32) .nil)) (.cons (.int .u32) (.cons (.sl (.sl (.int .u8))) .nil)))), (43, (.int .u64)), (44, (.arr 4 (.int .u64))), (45, (.arr 4 (.int .u64))), (49, (.cons (.arr 4 (.int .u64)) (.cons (.arr 4 (.int .u64)) .nil))), (50, (.cons (.arr 4 (.int .u64)) (.cons (.arr 4 (.int .u64)) .nil))), (66, (.cons (.cons (.arr 32 (.int .u8)) (.cons (.int .u32) .nil)) (.cons (.cons (.int .i64) (.cons (.sl (.int .u8)) .nil)) (.cons (.int .i64) (.cons .bool .nil))))), (67, (.cons (.cons (.arr 32 (.int .u8)) (.cons (.int .u32) .nil)) (.cons (.cons (.int .i64) (.cons (.sl (.int .u8)) .nil)) (.cons (.int .i64) (.cons .bool .nil))))), (68, (.sl (.cons (.cons (.arr 32 (.int .u8)) (.cons (.int .u32) .nil)) (.cons (.cons (.int .i64) (.cons (.sl (.int .u8)) .nil)) (.cons (.int .i64) (.cons .bool .nil)))))), (102, (.sl (.arr 32 (.int .u8)))), (103, (.int .u64)), (109, (.arr 8 (.int .u32))), (111, (.arr 64 (.int .u8))), (117, (.arr 8 (.int .u64))), (119, (.sl (.int .u64))), (123, (.int .u16)), (124, (.arr 64 (.int .u32)))]
theorem Tryd.ev_g0 {σ : St} : ev σ (.global 0) = some (.v (.vp (.arr 8 (.int .u32)) gdat0)) := rfl
theorem Tryd.ev1_g0 {σ : St} : ev1 σ (.global 0) = some (.vp (.arr 8 (.int .u32)) gdat0) := rfl
theorem Tryd.ev_g1 {σ : St} : ev σ (.global 1) = some (.v (.vp (.arr 64 (.int .u32)) gdat1)) := rfl
theorem Tryd.ev1_g1 {σ : St} : ev1 σ (.global 1) = some (.vp (.arr 64 (.int .u32)) gdat1) := rfl
theorem Tryd.EV : type_of% (And.intro @Tryd.ev_g0 (And.intro @Tryd.ev1_g0 (And.intro @Tryd.ev_g1 @Tryd.ev1_g1))) := (And.intro @Tryd.ev_g0 (And.intro @Tryd.ev1_g0 (And.intro @Tryd.ev_g1 @Tryd.ev1_g1)))
theorem Tryd.hT : Tryd.Tb.Ok Tryd.prog := Tab.ok_of (by kernel_rfl)
theorem Tryd.TS : Go.SE.look Tryd.Tb 2 = some (.int .i64) ∧
  Go.SE.look Tryd.Tb 3 = some (.int .i64) ∧
  Go.SE.look Tryd.Tb 4 = some .bool ∧
  Go.SE.look Tryd.Tb 5 = some (.int .u8) ∧
  Go.SE.look Tryd.Tb 9 = some .str ∧
  Go.SE.look Tryd.Tb 12 = some (.int .u64) ∧
  Go.SE.look Tryd.Tb 21 = some (.int .i32) ∧
  Go.SE.look Tryd.Tb 22 = some (.int .u32) ∧
  Go.SE.look Tryd.Tb 23 = some (.sl (.cons (.cons (.arr 32 (.int .u8)) (.cons (.int .u32) .nil)) (.cons (.int .u32) (.cons (.sl (.sl (.int .u8))) .nil)))) ∧
  Go.SE.look Tryd.Tb 24 = some (.sl (.cons (.int .i64) (.cons (.sl (.int .u8)) .nil))) ∧
  Go.SE.look Tryd.Tb 25 = some (.cons (.int .u32) (.cons (.sl (.cons (.cons (.arr 32 (.int .u8)) (.cons (.int .u32) .nil)) (.cons (.int .u32) (.cons (.sl (.sl (.int .u8))) .nil)))) (.cons (.sl (.cons (.int .i64) (.cons (.sl (.int .u8)) .nil))) (.cons (.int .u32) .nil)))) ∧
  Go.SE.look Tryd.Tb 26 = some (.cons (.int .u32) (.cons (.sl (.cons (.cons (.arr 32 (.int .u8)) (.cons (.int .u32) .nil)) (.cons (.int .u32) (.cons (.sl (.sl (.int .u8))) .nil)))) (.cons (.sl (.cons (.int .i64) (.cons (.sl (.int .u8)) .nil))) (.cons (.int .u32) .nil)))) ∧
  Go.SE.look Tryd.Tb 27 = some (.sl (.int .u8)) ∧
  Go.SE.look Tryd.Tb 28 = some (.cons (.int .i64) (.cons (.sl (.int .u8)) .nil)) ∧
  Go.SE.look Tryd.Tb 29 = some (.cons (.int .i64) (.cons (.sl (.int .u8)) .nil)) ∧
  Go.SE.look Tryd.Tb 32 = some (.arr 32 (.int .u8)) ∧
  Go.SE.look Tryd.Tb 33 = some (.arr 32 (.int .u8)) ∧
  Go.SE.look Tryd.Tb 34 = some (.int .i64) ∧
  Go.SE.look Tryd.Tb 37 = some (.cons (.arr 32 (.int .u8)) (.cons (.int .u32) .nil)) ∧
  Go.SE.look Tryd.Tb 38 = some (.cons (.arr 32 (.int .u8)) (.cons (.int .u32) .nil)) ∧
  Go.SE.look Tryd.Tb 39 = some (.sl (.sl (.int .u8))) ∧
  Go.SE.look Tryd.Tb 40 = some (.cons (.cons (.arr 32 (.int .u8)) (.cons (.int .u32) .nil)) (.cons (.int .u32) (.cons (.sl (.sl (.int .u8))) .nil))) ∧
  Go.SE.look Tryd.Tb 41 = some (.cons (.cons (.arr 32 (.int .u8)) (.cons (.int .u32) .nil)) (.cons (.int .u32) (.cons (.sl (.sl (.int .u8))) .nil))) ∧
  Go.SE.look Tryd.Tb 43 = some (.int .u64) ∧
  Go.SE.look Tryd.Tb 44 = some (.arr 4 (.int .u64)) ∧
  Go.SE.look Tryd.Tb 45 = some (.arr 4 (.int .u64)) ∧
  Go.SE.look Tryd.Tb 49 = some (.cons (.arr 4 (.int .u64)) (.cons (.arr 4 (.int .u64)) .nil)) ∧
  Go.SE.look Tryd.Tb 50 = some (.cons (.arr 4 (.int .u64)) (.cons (.arr 4 (.int .u64)) .nil)) ∧
  Go.SE.look Tryd.Tb 66 = some (.cons (.cons (.arr 32 (.int .u8)) (.cons (.int .u32) .nil)) (.cons (.cons (.int .i64) (.cons (.sl (.int .u8)) .nil)) (.cons (.int .i64) (.cons .bool .nil)))) ∧
  Go.SE.look Tryd.Tb 67 = some (.cons (.cons (.arr 32 (.int .u8)) (.cons (.int .u32) .nil)) (.cons (.cons (.int .i64) (.cons (.sl (.int .u8)) .nil)) (.cons (.int .i64) (.cons .bool .nil)))) ∧
  Go.SE.look Tryd.Tb 68 = some (.sl (.cons (.cons (.arr 32 (.int .u8)) (.cons (.int .u32) .nil)) (.cons (.cons (.int .i64) (.cons (.sl (.int .u8)) .nil)) (.cons (.int .i64) (.cons .bool .nil))))) ∧
  Go.SE.look Tryd.Tb 102 = some (.sl (.arr 32 (.int .u8))) ∧
  Go.SE.look Tryd.Tb 103 = some (.int .u64) ∧
  Go.SE.look Tryd.Tb 109 = some (.arr 8 (.int .u32)) ∧
  Go.SE.look Tryd.Tb 111 = some (.arr 64 (.int .u8)) ∧
  Go.SE.look Tryd.Tb 117 = some (.arr 8 (.int .u64)) ∧
  Go.SE.look Tryd.Tb 119 = some (.sl (.int .u64)) ∧
  Go.SE.look Tryd.Tb 123 = some (.int .u16) ∧
  Go.SE.look Tryd.Tb 124 = some (.arr 64 (.int .u32)) ∧
  Go.SE.look Tryd.Tb 1 = none ∧
  Go.SE.look Tryd.Tb 15 = none ∧
  Go.SE.look Tryd.Tb 16 = none ∧
  Go.SE.look Tryd.Tb 17 = none ∧
  Go.SE.look Tryd.Tb 20 = none ∧
  Go.SE.look Tryd.Tb 30 = none ∧
  Go.SE.look Tryd.Tb 31 = none ∧
  Go.SE.look Tryd.Tb 36 = none ∧
  Go.SE.look Tryd.Tb 42 = none ∧
  Go.SE.look Tryd.Tb 46 = none ∧
  Go.SE.look Tryd.Tb 48 = none ∧
  Go.SE.look Tryd.Tb 52 = none ∧
  Go.SE.look Tryd.Tb 53 = none ∧
  Go.SE.look Tryd.Tb 54 = none ∧
  Go.SE.look Tryd.Tb 55 = none ∧
  Go.SE.look Tryd.Tb 56 = none ∧
  Go.SE.look Tryd.Tb 57 = none ∧
  Go.SE.look Tryd.Tb 58 = none ∧
  Go.SE.look Tryd.Tb 59 = none ∧
  Go.SE.look Tryd.Tb 60 = none ∧
  Go.SE.look Tryd.Tb 61 = none ∧
  Go.SE.look Tryd.Tb 62 = none ∧
  Go.SE.look Tryd.Tb 63 = none ∧
  Go.SE.look Tryd.Tb 64 = none ∧
  Go.SE.look Tryd.Tb 65 = none ∧
  Go.SE.look Tryd.Tb 70 = none ∧
  Go.SE.look Tryd.Tb 71 = none ∧
  Go.SE.look Tryd.Tb 73 = none ∧
  Go.SE.look Tryd.Tb 74 = none ∧
  Go.SE.look Tryd.Tb 75 = none ∧
  Go.SE.look Tryd.Tb 76 = none ∧
  Go.SE.look Tryd.Tb 77 = none ∧
  Go.SE.look Tryd.Tb 78 = none ∧
  Go.SE.look Tryd.Tb 79 = none ∧
  Go.SE.look Tryd.Tb 80 = none ∧
  Go.SE.look Tryd.Tb 81 = none ∧
  Go.SE.look Tryd.Tb 82 = none ∧
  Go.SE.look Tryd.Tb 83 = none ∧
  Go.SE.look Tryd.Tb 84 = none ∧
  Go.SE.look Tryd.Tb 85 = none ∧
  Go.SE.look Tryd.Tb 86 = none ∧
  Go.SE.look Tryd.Tb 87 = none ∧
  Go.SE.look Tryd.Tb 88 = none ∧
  Go.SE.look Tryd.Tb 89 = none ∧
  Go.SE.look Tryd.Tb 90 = none ∧
  Go.SE.look Tryd.Tb 91 = none ∧
  Go.SE.look Tryd.Tb 92 = none ∧
  Go.SE.look Tryd.Tb 93 = none ∧
  Go.SE.look Tryd.Tb 94 = none ∧
  Go.SE.look Tryd.Tb 95 = none ∧
  Go.SE.look Tryd.Tb 97 = none ∧
  Go.SE.look Tryd.Tb 98 = none ∧
  Go.SE.look Tryd.Tb 100 = none ∧
  Go.SE.look Tryd.Tb 101 = none ∧
  Go.SE.look Tryd.Tb 104 = none ∧
  Go.SE.look Tryd.Tb 105 = none ∧
  Go.SE.look Tryd.Tb 106 = none ∧
  Go.SE.look Tryd.Tb 107 = none ∧
  Go.SE.look Tryd.Tb 108 = none ∧
  Go.SE.look Tryd.Tb 110 = none ∧
  Go.SE.look Tryd.Tb 113 = none ∧
  Go.SE.look Tryd.Tb 115 = none ∧
  Go.SE.look Tryd.Tb 116 = none ∧
  Go.SE.look Tryd.Tb 118 = none ∧
  Go.SE.look Tryd.Tb 120 = none ∧
  Go.SE.look Tryd.Tb 121 = none ∧
  Go.SE.look Tryd.Tb 122 = none ∧
  Go.SE.look Tryd.Tb 125 = none ∧
  Go.SE.look Tryd.Tb 126 = none ∧
  Go.SE.look Tryd.Tb 127 = none ∧
  Go.SE.look Tryd.Tb 133 = none ∧
  Go.SE.look Tryd.Tb 136 = none ∧
  Go.SE.look Tryd.Tb 137 = none :=
  ⟨rfl, rfl, rfl, rfl, rfl, rfl, rfl, rfl, rfl, rfl, rfl, rfl, rfl, rfl, rfl, rfl, rfl, rfl, rfl, rfl, rfl, rfl, rfl, rfl, rfl, rfl, rfl, rfl, rfl, rfl, rfl, rfl, rfl, rfl, rfl, rfl, rfl, rfl, rfl, rfl, rfl, rfl, rfl, rfl, rfl, rfl, rfl, rfl, rfl, rfl, rfl, rfl, rfl, rfl, rfl, rfl, rfl, rfl, rfl, rfl, rfl, rfl, rfl, rfl, rfl, rfl, rfl, rfl, rfl, rfl, rfl, rfl, rfl, rfl, rfl, rfl, rfl, rfl, rfl, rfl, rfl, rfl, rfl, rfl, rfl, rfl, rfl, rfl, rfl, rfl, rfl, rfl, rfl, rfl, rfl, rfl, rfl, rfl, rfl, rfl, rfl, rfl, rfl, rfl, rfl, rfl, rfl, rfl, rfl, rfl, rfl, rfl⟩
end Go.Proofs
