/- A function's contract by its text: the beginning, loops, one state as another. -/
import Derived.Test.YtbdalbibdkipcaaSeO
set_option linter.unusedVariables false
set_option linter.unusedSimpArgs false
set_option linter.constructorNameAsVariable false
namespace Go.SE
open Go.RowKit (Below)

section
variable {P : Program}

theorem argsOk_get {w : World} {S : Nat → Prop} : ∀ {l : List (Ty × D)} {vs : List Value}, ArgsOk w S l vs → l.length = vs.length ∧ ∀ (n : Nat) t x, look (pTm n l) t = some x → ∃ i τ d v, t = n + i ∧ x = .v (.d τ d) ∧ vs[i]? = some v ∧ RdV w S τ v d
  | [], [], _ => ⟨rfl, fun n t x h => by simp [pTm, look] at h⟩
  | (τ, d) :: l, v :: vs, h => by
    obtain ⟨h1, h2⟩ := h
    obtain ⟨k1, k2⟩ := argsOk_get h2
    refine ⟨by simp [k1], ?_⟩
    intro n t x hx
    simp only [pTm, look] at hx
    split at hx
    · rename_i e
      simp only [Option.some.injEq] at hx
      exact ⟨0, τ, d, v, e.symm, hx.symm, rfl, h1⟩
    · obtain ⟨i, τ', d', v', e, ex, hv, hr⟩ := k2 (n + 1) t x hx
      exact ⟨i + 1, τ', d', v', by omega, ex, by simpa using hv, hr⟩
  | [], _ :: _, h => h.elim
  | _ :: _, [], h => h.elim

/-- A contract, by the function's text. -/
theorem scall_intro {T : Tab} (hT : T.Ok P) {f : FuncId} {fn : Func} {c : Code} {rl : List ResultVar} {us : List TypeId} {n : Nat} (hf : P.funcs[f]? = some fn) (hb : fn.body = some c) (hn : (fn.name == "runtime.NumGoroutine") = false)
    (hrl : fn.results.toList = rl) (_ : fn.resultTypes.toList = us) (hnt : fn.ntmps = n) {args : List (Ty × D)} (hlen : args.length ≤ n) {K : List RV → Prop}
    (h : ∀ w0 : Base, swp P T w0 c (sExit T rl us K) ⟨n, pTm 0 args, [], 0⟩) : SCall P f args K := by
  refine .inl ⟨⟨fn, hf, hn, by rw [hb]; rfl⟩, ?_⟩
  intro w F vs hF ha
  obtain ⟨hl, hg⟩ := argsOk_get ha
  let w0 : Base := { w with F := F, low := hF }
  refine calls_of_wp hf hb ?_
  have hR : R w0 ⟨n, pTm 0 args, [], 0⟩ { tmps := vs.toArray ++ Array.replicate (fn.ntmps - vs.toArray.size) undef, defers := [] } w := by
    refine ⟨⟨fun _ => none, F⟩, Below.refl _ _, rfl, rfl, ?_, ?_, ?_, ?_, fun _ _ => rfl⟩
    · simp; omega
    · intro t v hv
      obtain ⟨i, τ, d, x, rfl, rfl, hx, hr⟩ := hg 0 t v hv
      have hi : i < vs.length := (List.getElem?_eq_some_iff.1 hx).1
      have : (vs.toArray ++ Array.replicate (fn.ntmps - vs.toArray.size) undef).getD (0 + i) undef = x := by
        rw [Array.getD_eq_getD_getElem?, Nat.zero_add, Array.getElem?_append_left (by simpa using hi)]
        simp [hx]
      rw [this]
      refine Val1.of (RdV.mono ?_ hr)
      intro b o hb ho
      refine ⟨?_, ho⟩
      rintro (hc | ⟨o, y, t, q, k1, _⟩)
      · exact hb hc
      · simp [look] at k1
    · intro o x hx; simp [look] at hx
    · intro o o' x x' t t' q q' hx; simp [look] at hx
  refine wp_mono (swp_sound hT hR (h w0)) ?_
  rintro e a' w' ⟨σ, ⟨om, hr⟩, hq⟩
  have fin : sRet T rl us σ K → bodyPost P fn (fun e w' => ∃ v rs, e = .returned v ∧ Below w.heap.size w w' ∧ RetOk w.heap.size w' F v rs ∧ K rs) .ret a' w' := by
    intro hs
    obtain ⟨v, rs, h1, h2, h3⟩ := sRet_sound (fn := fn) hT hrl hr hs
    exact ⟨hr.defers, v, h1, v, rs, rfl, hr.below, h2, h3⟩
  cases e with
  | normal => exact fin hq
  | ret => exact fin hq
  | _ => exact hq.elim

/-! one state as another -/

def Sub (w0 : Base) (σ σ' : St) : Prop := ∀ a w, R w0 σ a w → R w0 σ' a w

theorem Sub.refl (w0 : Base) (σ : St) : Sub w0 σ σ := fun _ _ h => h
theorem Sub.trans {w0 : Base} {σ σ' σ'' : St} (h : Sub w0 σ σ') (k : Sub w0 σ' σ'') : Sub w0 σ σ'' := fun a w hr => k a w (h a w hr)

/-- A loop: an invariant over states that are told by a value 'x', and a number that each round lowers. -/
theorem sloop {T : Tab} (hT : T.Ok P) {w0 : Base} {c : Code} {Q : Exit → St → Prop} {σ : St} {α : Type} (I : α → St) (J : α → Prop) (μ : α → Nat) (x0 : α) (h0 : Sub w0 σ (I x0)) (j0 : J x0)
    (round : ∀ x, J x → swp P T w0 c (sThen (fun σ => ∃ y, J y ∧ μ y < μ x ∧ Sub w0 σ (I y)) Q) (I x)) : SLoop P w0 c Q σ := by
  have key : ∀ n x, μ x = n → J x → SLoop P w0 c Q (I x) := by
    intro n
    induction n using Nat.strongRecOn with
    | _ n ih =>
      intro x hn hj a w hr
      refine loopAt_step (wp_mono (swp_sound hT hr (round x hj)) ?_)
      rintro e a' w' ⟨σ', hr', hq⟩
      cases e with
      | normal =>
        obtain ⟨y, hy, hlt, hsub⟩ := hq
        exact ih (μ y) (by omega) y rfl hy a' w' (hsub a' w' hr')
      | _ => exact ⟨σ', hr', hq⟩
  exact fun a w hr => key _ x0 rfl j0 a w (h0 a w hr)

/-- One round, and the loop again. -/
theorem sround {T : Tab} (hT : T.Ok P) {w0 : Base} {c : Code} {Q : Exit → St → Prop} {σ : St} (h : swp P T w0 c (sThen (fun σ => SLoop P w0 c Q σ) Q) σ) : SLoop P w0 c Q σ := by
  intro a w hr
  refine loopAt_step (wp_mono (swp_sound hT hr h) ?_)
  rintro e a' w' ⟨σ', hr', hq⟩
  cases e with
  | normal => exact hq a' w' hr'
  | _ => exact ⟨σ', hr', hq⟩

/-- Behind a state that says less. -/
theorem swp_sub {T : Tab} (hT : T.Ok P) {w0 : Base} {c : Code} {Q : Exit → St → Prop} {σ σ' : St} (h : Sub w0 σ σ') (k : SLoop P w0 c Q σ') : SLoop P w0 c Q σ := fun a w hr => k a w (h a w hr)

/-- A nil slice is a row without elements. -/
theorem sub_nilRow (w0 : Base) {σ : St} (t : Nat) (e : Ty) (hl : look σ.tm t = some (.v .nil)) :
    Sub w0 σ ⟨σ.nt, (t, .v (.ref σ.nx [] 0 0)) :: σ.tm, (σ.nx, ⟨.arr 0 e, .d (.arr 0 e) (.l [])⟩) :: σ.ob, σ.nx + 1⟩ := by
  rintro a w ⟨om, h⟩
  obtain ⟨om', hR, hself, _⟩ := h.nilRow e
  refine ⟨om', hR.below, hR.hF, hR.defers, hR.nt, ?_, hR.ob, hR.apart, hR.fresh⟩
  intro u y hy
  simp only [look] at hy
  split at hy
  · rename_i ee
    subst ee
    simp only [Option.some.injEq] at hy
    subst hy
    have hv : Val1 _ _ _ SV.nil _ := h.tm t _ hl
    obtain ⟨b, cap, ev⟩ := slen_ok hv (n := 0) rfl
    have hcap : cap = 0 := by
      obtain ⟨t', ⟨_, b', hc⟩, _⟩ := hv
      rw [ev] at hc; simp [Value.cells] at hc; exact hc.2
    subst hcap
    rw [ev]
    exact ⟨.sl e, ⟨e, _, rfl, rfl, _, _, 0, 0, hself, rfl, trivial, by omega, by omega, .inl ⟨rfl, b, rfl⟩⟩, rfl⟩
  · exact hR.tm u y hy

/-! the same under other names, with some of it forgotten -/

def renSV (r : List (Nat × Nat)) : SV → SV → Prop
  | .d t x, .d t' x' => t = t' ∧ x = x'
  | .nil, .nil => True
  | .ref o p off len, .ref o' p' off' len' => look r o' = some o ∧ p = p' ∧ off = off' ∧ len = len'
  | .ptr o p, .ptr o' p' => look r o' = some o ∧ p = p'
  | .vp t x, .vp t' x' => t = t' ∧ x = x'
  | .anil, .anil => True
  | .acons a b, .acons a' b' => renSV r a a' ∧ renSV r b b'
  | _, _ => False

def renTV (r : List (Nat × Nat)) : TV → TV → Prop
  | .v x, .v y => renSV r x y
  | .u, .u => True
  | _, _ => False

def renTm (r : List (Nat × Nat)) (tm : List (Nat × TV)) : List (Nat × TV) → Prop
  | [] => True
  | (t, v) :: l => (match look tm t with | some u => renTV r u v | none => False) ∧ renTm r tm l

def renOb (r : List (Nat × Nat)) (ob : List (Nat × Ob)) : List (Nat × Ob) → Prop
  | [] => True
  | (o, x) :: l => (match look r o with
    | some k => (match look ob k with | some y => y.t = x.t ∧ renSV r y.c x.c | none => False)
    | none => False) ∧ renOb r ob l

def keysLt (n : Nat) : List (Nat × Nat) → Prop
  | [] => True
  | (o, _) :: l => o < n ∧ keysLt n l

def valsB : List (Nat × Nat) → List Nat
  | [] => []
  | (_, k) :: l => k :: valsB l

theorem renSV_ok {r : List (Nat × Nat)} {w : World} {om om' : Om} {M M' : Nat → Prop} (hM : ∀ b o, ¬ M b → w.heap[b]? = some o → ¬ M' b ∧ w.heap[b]? = some o) (hom : ∀ o o', look r o' = some o → om' o' = om o) :
    ∀ {x y : SV} {t : Ty} {cs : List Value}, renSV r x y → CV w om M t x cs → CV w om' M' t y cs
  | .d _ _, .d _ _, t, cs, ⟨h1, h2⟩, ⟨h3, h4⟩ => by subst h1; subst h2; exact ⟨h3, h4.mono hM⟩
  | .nil, .nil, _, _, _, h => h
  | .ref o p off len, .ref o' p' off' len', t, cs, ⟨h1, h2, h3, h4⟩, ⟨e, v, k1, k2, t', pl, n, cap, k3, k4⟩ => by
    subst h2; subst h3; subst h4
    exact ⟨e, v, k1, k2, t', pl, n, cap, by rw [hom _ _ h1]; exact k3, k4⟩
  | .ptr o p, .ptr o' p', t, cs, ⟨h1, h2⟩, ⟨v, k1, k2, t', q, u, k3, k4⟩ => by
    subst h2
    exact ⟨v, k1, k2, t', q, u, by rw [hom _ _ h1]; exact k3, k4⟩
  | .vp _ _, .vp _ _, t, cs, ⟨h1, h2⟩, ⟨h3, g, o, c, el, fr, k1, k2, k3, k4, k5⟩ => by
    subst h1; subst h2
    exact ⟨h3, g, o, c, el, fr, k1, (hM g _ k2 k3).1, k3, k4, k5.mono hM⟩
  | .anil, .anil, _, _, _, h => h
  | .acons a b, .acons a' b', t, cs, ⟨h1, h2⟩, ⟨ta, tb, k1, k2, k3⟩ => ⟨ta, tb, k1, renSV_ok hM hom h1 k2, renSV_ok hM hom h2 k3⟩
  | .d _ _, .nil, _, _, h, _ | .d _ _, .ref _ _ _ _, _, _, h, _ | .d _ _, .ptr _ _, _, _, h, _ | .d _ _, .vp _ _, _, _, h, _ | .d _ _, .anil, _, _, h, _ | .d _ _, .acons _ _, _, _, h, _ => h.elim
  | .nil, .d _ _, _, _, h, _ | .nil, .ref _ _ _ _, _, _, h, _ | .nil, .ptr _ _, _, _, h, _ | .nil, .vp _ _, _, _, h, _ | .nil, .anil, _, _, h, _ | .nil, .acons _ _, _, _, h, _ => h.elim
  | .ref _ _ _ _, .nil, _, _, h, _ | .ref _ _ _ _, .d _ _, _, _, h, _ | .ref _ _ _ _, .ptr _ _, _, _, h, _ | .ref _ _ _ _, .vp _ _, _, _, h, _ | .ref _ _ _ _, .anil, _, _, h, _ | .ref _ _ _ _, .acons _ _, _, _, h, _ => h.elim
  | .ptr _ _, .nil, _, _, h, _ | .ptr _ _, .d _ _, _, _, h, _ | .ptr _ _, .ref _ _ _ _, _, _, h, _ | .ptr _ _, .vp _ _, _, _, h, _ | .ptr _ _, .anil, _, _, h, _ | .ptr _ _, .acons _ _, _, _, h, _ => h.elim
  | .vp _ _, .nil, _, _, h, _ | .vp _ _, .d _ _, _, _, h, _ | .vp _ _, .ref _ _ _ _, _, _, h, _ | .vp _ _, .ptr _ _, _, _, h, _ | .vp _ _, .anil, _, _, h, _ | .vp _ _, .acons _ _, _, _, h, _ => h.elim
  | .anil, .nil, _, _, h, _ | .anil, .d _ _, _, _, h, _ | .anil, .ref _ _ _ _, _, _, h, _ | .anil, .ptr _ _, _, _, h, _ | .anil, .vp _ _, _, _, h, _ | .anil, .acons _ _, _, _, h, _ => h.elim
  | .acons _ _, .nil, _, _, h, _ | .acons _ _, .d _ _, _, _, h, _ | .acons _ _, .ref _ _ _ _, _, _, h, _ | .acons _ _, .ptr _ _, _, _, h, _ | .acons _ _, .vp _ _, _, _, h, _ | .acons _ _, .anil, _, _, h, _ => h.elim

theorem look_renTm {r : List (Nat × Nat)} {tm : List (Nat × TV)} : ∀ {l : List (Nat × TV)} {t : Nat} {v : TV}, renTm r tm l → look l t = some v → ∃ u, look tm t = some u ∧ renTV r u v
  | [], _, _, _, hl => by simp [look] at hl
  | (k, y) :: l, t, v, h, hl => by
    simp only [look] at hl
    split at hl
    · rename_i e
      subst e
      simp only [Option.some.injEq] at hl
      subst hl
      have h1 := h.1
      split at h1
      · rename_i u hu; exact ⟨u, hu, h1⟩
      · exact h1.elim
    · exact look_renTm h.2 hl

theorem look_renOb {r : List (Nat × Nat)} {ob : List (Nat × Ob)} : ∀ {l : List (Nat × Ob)} {o : Nat} {x : Ob}, renOb r ob l → look l o = some x → ∃ k y, look r o = some k ∧ look ob k = some y ∧ y.t = x.t ∧ renSV r y.c x.c
  | [], _, _, _, hl => by simp [look] at hl
  | (k, y) :: l, o, x, h, hl => by
    simp only [look] at hl
    split at hl
    · rename_i e
      subst e
      simp only [Option.some.injEq] at hl
      subst hl
      have h1 := h.1
      split at h1
      · rename_i k' hk
        split at h1
        · rename_i z hz; exact ⟨k', z, hk, hz, h1⟩
        · exact h1.elim
      · exact h1.elim
    · exact look_renOb h.2 hl

theorem mem_valsB {r : List (Nat × Nat)} : ∀ {o k : Nat}, look r o = some k → k ∈ valsB r := by
  induction r with
  | nil => intro o k h; simp [look] at h
  | cons p r ih =>
    intro o k h
    obtain ⟨a, b⟩ := p
    simp only [look] at h
    split at h
    · simp only [Option.some.injEq] at h; subst h; simp [valsB]
    · simp [valsB, ih h]

theorem look_inj {r : List (Nat × Nat)} (hn : (valsB r).Nodup) : ∀ {o o' k : Nat}, look r o = some k → look r o' = some k → o = o' := by
  induction r with
  | nil => intro o o' k h; simp [look] at h
  | cons p r ih =>
    obtain ⟨a, b⟩ := p
    simp only [valsB, List.nodup_cons] at hn
    intro o o' k h h'
    simp only [look] at h h'
    split at h <;> split at h'
    · rename_i e1 e2; rw [← e1, ← e2]
    · simp only [Option.some.injEq] at h; subst h; exact absurd (mem_valsB h') hn.1
    · simp only [Option.some.injEq] at h'; subst h'; exact absurd (mem_valsB h) hn.1
    · exact ih hn.2 h h'

theorem keysLt_look {r : List (Nat × Nat)} {n : Nat} (h : keysLt n r) : ∀ {o k : Nat}, look r o = some k → o < n := by
  induction r with
  | nil => intro o k h; simp [look] at h
  | cons p r ih =>
    obtain ⟨a, b⟩ := p
    intro o k hl
    simp only [look] at hl
    split at hl
    · rename_i e; subst e; exact h.1
    · exact ih h.2 hl

/-- The state σ under the names of σ' ('r': what a name of σ' is in σ), some of it forgotten. -/
theorem sub_ren (w0 : Base) {σ σ' : St} (r : List (Nat × Nat)) (hnt : σ.nt = σ'.nt) (hk : keysLt σ'.nx r) (hn : nodupB (valsB r) = true) (htm : renTm r σ.tm σ'.tm) (hob : renOb r σ.ob σ'.ob) : Sub w0 σ σ' := by
  rintro a w ⟨om, h⟩
  let om' : Om := { om with tab := fun o => match look r o with | some k => om k | none => none }
  have hom : ∀ o o', look r o' = some o → om' o' = om o := by
    intro o o' hl
    show (match look r o' with | some k => om k | none => none) = _
    rw [hl]
  have hnone : ∀ o', look r o' = none → om' o' = none := by
    intro o' hl
    show (match look r o' with | some k => om k | none => none) = _
    rw [hl]
  have hlook : ∀ o x, look σ'.ob o = some x → ∃ k y, look r o = some k ∧ look σ.ob k = some y ∧ y.t = x.t ∧ renSV r y.c x.c := fun o x hx => look_renOb hob hx
  have hMo : ∀ b, Mo σ'.ob om' b → Mo σ.ob om b := by
    rintro b ⟨o, x, t, q, h1, h2, h3⟩
    obtain ⟨k, y, k1, k2, _⟩ := hlook o x h1
    rw [hom _ _ k1] at h2
    exact ⟨k, y, t, q, k2, h2, h3⟩
  have hM : ∀ b o, ¬ Mb σ.ob om b → w.heap[b]? = some o → ¬ Mb σ'.ob om' b ∧ w.heap[b]? = some o := Mb.lift rfl fun b o h1 h2 => ⟨fun hb => h1 (hMo b hb), h2⟩
  refine ⟨om', h.below, h.hF, h.defers, by rw [h.nt, hnt], ?_, ?_, ?_, ?_⟩
  · intro t v hv
    obtain ⟨u, hu, hr⟩ := look_renTm htm hv
    have hb := h.tm t u hu
    cases u with
    | v x =>
      cases v with
      | v y => obtain ⟨τ, k1, k2⟩ := hb; exact ⟨τ, renSV_ok hM hom hr k1, k2⟩
      | _ => exact hr.elim
    | u => cases v with
      | u => exact hb
      | _ => exact hr.elim
    | tup xs => cases v <;> exact hr.elim
  · intro o x hx
    obtain ⟨k, y, k1, k2, k3, k4⟩ := hlook o x hx
    obtain ⟨pl, h1, h2⟩ := h.ob k y k2
    refine ⟨pl, by rw [hom _ _ k1, ← k3]; exact h1, ?_⟩
    rw [← k3]
    cases pl with
    | none => exact ⟨h2.1, renSV_ok hM hom k4 h2.2⟩
    | some q => obtain ⟨m1, c, el, fr, m2, m3, m4, m5⟩ := h2; exact ⟨m1, c, el, fr, m2, m3, m4, renSV_ok hM hom k4 m5⟩
  · intro o o' x x' t t' q q' h1 h2 h3 h4 h5
    obtain ⟨k, y, k1, k2, _⟩ := hlook o x h1
    obtain ⟨k', y', k1', k2', _⟩ := hlook o' x' h2
    rw [hom _ _ k1] at h3
    rw [hom _ _ k1'] at h4
    have := h.apart _ _ _ _ _ _ _ _ k2 k2' h3 h4 h5
    subst this
    exact look_inj (nodupB_ok hn) k1 k1'
  · intro o ho
    cases hl : look r o with
    | none => exact hnone o hl
    | some k => have := keysLt_look hk hl; omega

end
end Go.SE
