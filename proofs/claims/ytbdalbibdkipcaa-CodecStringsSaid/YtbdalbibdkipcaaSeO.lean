/- A function's contract by its text: the beginning, the end, loops. -/
import Derived.Test.YtbdalbibdkipcaaSeN
set_option linter.unusedVariables false
set_option linter.unusedSimpArgs false
set_option linter.constructorNameAsVariable false
namespace Go.SE
open Go.RowKit (Below)

def memB (x : Nat) : List Nat → Bool
  | [] => false
  | y :: l => if x = y then true else memB x l
def nodupB : List Nat → Bool
  | [] => true
  | x :: l => if memB x l then false else nodupB l
theorem memB_iff {x : Nat} {l : List Nat} : memB x l = true ↔ x ∈ l := by
  induction l with
  | nil => simp [memB]
  | cons y l ih => simp only [memB]; split <;> simp_all
theorem nodupB_ok {l : List Nat} (h : nodupB l = true) : l.Nodup := by
  induction l with
  | nil => simp
  | cons x l ih =>
    simp only [nodupB] at h
    split at h
    · cases h
    · rename_i hm
      rw [memB_iff] at hm
      exact List.nodup_cons.2 ⟨hm, ih h⟩

def rv1 (T : Tab) (σ : St) (u : TypeId) (s : SV) : Option RV :=
  match look T u with
  | some (.sl e) => match s with
    | .ref o [] off len => match look σ.ob o with
      | some ob => match ob.c with
        | .d (.arr _ e') x => if e' = e then some (.own e ((x.list.drop off).take len)) else none
        | _ => none
      | none => none
    | .nil => some (.own e [])
    | s => (den σ (.sl e) s).map (RV.d (.sl e))
  | some t => (den σ t s).map (RV.d t)
  | none => none

def resSV (T : Tab) (σ : St) : ResultVar → Option SV
  | .tmp t => match look σ.tm t with | some (.v s) => some s | _ => none
  | .cell t u => match look σ.tm t with
    | some (.v (.ptr o p)) => match look σ.ob o, look T u with
      | some ob, some τ => if ob.t.sub p = some τ then ob.c.get p else none
      | _, _ => none
    | _ => none

def rvs (T : Tab) (σ : St) : List ResultVar → List TypeId → Option (List RV × List Nat)
  | [], _ => some ([], [])
  | r :: l, u :: us => match resSV T σ r with
    | some s => match rv1 T σ u s, rvs T σ l us with
      | some x, some (xs, ns) => some (x :: xs, app (refs s) ns)
      | _, _ => none
    | none => none
  | _ :: _, [] => none

def sRet (T : Tab) (rl : List ResultVar) (us : List TypeId) (σ : St) (K : List RV → Prop) : Prop :=
  match rvs T σ rl us with
  | some (rs, ns) => nodupB ns = true ∧ K rs
  | none => False

def sExit (T : Tab) (rl : List ResultVar) (us : List TypeId) (K : List RV → Prop) : Exit → St → Prop
  | .normal, σ | .ret, σ => sRet T rl us σ K
  | _, _ => False
@[congr] theorem sExit_congr {T : Tab} {rl : List ResultVar} {us : List TypeId} {K : List RV → Prop} {e e' : Exit} {σ σ' : St} (he : e = e') (h : σ = σ') : sExit T rl us K e σ = sExit T rl us K e' σ' := by rw [he, h]
theorem sExit_ret {T : Tab} {rl : List ResultVar} {us : List TypeId} {K : List RV → Prop} {σ : St} : sExit T rl us K .ret σ = sRet T rl us σ K := rfl
theorem sExit_normal {T : Tab} {rl : List ResultVar} {us : List TypeId} {K : List RV → Prop} {σ : St} : sExit T rl us K .normal σ = sRet T rl us σ K := rfl

def resRun (a : Act) : ResultVar → Sem Value
  | .tmp t => pure (a.tmps.getD t undef)
  | .cell t u => do loadVar u (← asAddr (a.tmps.getD t undef))

def pTm : Nat → List (Ty × D) → List (Nat × TV)
  | _, [] => []
  | n, (t, d) :: l => (n, .v (.d t d)) :: pTm (n + 1) l

section
variable {P : Program} {w0 : Base} {om : Om} {σ : St} {a : Act} {w : World}

theorem rv_one (h : R0 w0 om σ a w) {T : Tab} {u : TypeId} {s : SV} {v : Value} {r : RV} (hv : Val1 w om (Mb σ.ob om) s v) (hr : rv1 T σ u s = some r) :
    ∃ b : Option Pl, (∀ o ∈ refs s, ∃ ob, look σ.ob o = some ob) ∧ (∀ q, b = some q → ∃ o t q0 ob, o ∈ refs s ∧ look σ.ob o = some ob ∧ om o = some (t, some q0) ∧ q.b = q0.b) ∧
      ∀ N : Nat → Prop, (∀ g, N g → Mb σ.ob om g) → ((∃ t x, r = .d t x) → ∀ o ∈ refs s, ∀ t q, om o = some (t, some q) → ¬ N q.b) → RVok w0.heap.size w N r v b := by
  have data : ∀ {t : Ty}, (den σ t s).map (RV.d t) = some r → ∃ b : Option Pl, (∀ o ∈ refs s, ∃ ob, look σ.ob o = some ob) ∧ (∀ q, b = some q → ∃ o t q0 ob, o ∈ refs s ∧ look σ.ob o = some ob ∧ om o = some (t, some q0) ∧ q.b = q0.b) ∧
      ∀ N : Nat → Prop, (∀ g, N g → Mb σ.ob om g) → ((∃ t x, r = .d t x) → ∀ o ∈ refs s, ∀ t q, om o = some (t, some q) → ¬ N q.b) → RVok w0.heap.size w N r v b := by
    intro t hd
    rw [Option.map_eq_some_iff] at hd
    obtain ⟨d, hd, rfl⟩ := hd
    refine ⟨none, den_refs hd, by simp, ?_⟩
    intro N hN hR
    obtain ⟨t', hcv, ha⟩ := hv
    refine ⟨den_ok h (fun b hb hc => hb (hN b hc)) hcv hd (hR ⟨t, d, rfl⟩), ?_⟩
    rw [ha]
    cases s with
    | d u y => simp only [den] at hd; split at hd
               · rename_i e; subst e; obtain ⟨rfl, _⟩ := hcv; rfl
               · cases hd
    | nil => obtain ⟨⟨e, rfl⟩, _⟩ := hcv; cases t <;> simp [den] at hd; rfl
    | ref _ _ _ _ => obtain ⟨_, _, rfl, _⟩ := hcv; cases t <;> simp [den] at hd; rfl
    | ptr _ _ => cases t <;> simp [den] at hd
    | vp _ _ => cases t <;> simp [den] at hd
    | anil => obtain ⟨rfl, _⟩ := hcv; cases t <;> simp [den] at hd; rfl
    | acons _ _ => obtain ⟨_, _, rfl, _⟩ := hcv; cases t <;> simp [den] at hd; rfl
  unfold rv1 at hr
  split at hr
  · rename_i e ht
    split at hr
    · rename_i o off len
      split at hr
      · rename_i ob hl
        split at hr
        · rename_i n' e' x hc0
          split at hr
          · rename_i he
            subst he
            simp only [Option.some.injEq] at hr
            subst hr
            obtain ⟨e0, n, cap, hsub, hok, hle, hcap, hpl⟩ := ref_place h hv hl
            simp only [Ty.sub, Option.some.injEq] at hsub
            rcases hpl with ⟨rfl, b', rfl⟩ | ⟨q, cc, el, fr, ho', rfl, hcap2, hh, hun, hroom, hcv⟩
            · have : len = 0 := by omega
              subst this
              exact ⟨none, by intro k hk; simp only [refs, List.mem_singleton] at hk; subst hk; exact ⟨ob, hl⟩, by simp, fun N _ _ => ⟨by simp, b', rfl⟩⟩
            · simp only [if_true] at hcap2
              rw [hc0] at hcv
              obtain ⟨hty, hrd⟩ := hcv
              rw [hsub] at hty hrd hroom
              simp only [Ty.arr.injEq] at hty
              obtain ⟨rfl, rfl⟩ := hty
              obtain ⟨cl, rfl, hcl, hrl⟩ := hrd
              simp only [Ty.size] at hrl
              have hr1 := hroom.1
              have hr2 := (hroom.2 _ _ rfl).2
              have hC := (hroom.2 _ _ rfl).1
              simp only [Ty.size] at hr1
              have hlen2 : ((cl.drop off).take len).length = len := by simp; omega
              refine ⟨some ⟨q.b, q.base + off * e'.size, q.C - off⟩, by intro k hk; simp only [refs, List.mem_singleton] at hk; subst hk; exact ⟨ob, hl⟩, ?_, ?_⟩
              · intro q' hq'
                simp only [Option.some.injEq] at hq'
                subst hq'
                exact ⟨o, ob.t, q, ob, by simp [refs], hl, ho', rfl⟩
              · intro N hN _
                have hB := (Mo.lt h.ob ⟨o, ob, ob.t, q, hl, ho', rfl⟩).1
                have hmC : off * e'.size + (q.C - off) * e'.size = q.C * e'.size := by rw [← Nat.add_mul]; congr 1; omega
                have hmN : (off + len) * e'.size ≤ n' * e'.size := Nat.mul_le_mul_right _ hle
                rw [Nat.add_mul] at hmN
                refine ⟨hB, by simp only [D.list, hlen2]; omega, ⟨cap, ?_, by simp only [D.list, hlen2]; omega, by simp only; omega⟩, cc, el, fr, hh, hun, by simp only; omega, ?_⟩
                · simp only [D.list, hlen2, Ty.offs, hsub, Nat.add_zero]
                · simp only [D.list, hlen2]
                  have h5 := ReadL.take len (ReadL.drop off hrl)
                  rw [take_drop_take_drop _ (by omega)] at h5
                  exact ReadL.mono (fun _ _ k => Rd.mono (fun b o hb ho => ⟨fun hc => hb (hN b hc), ho⟩) k) h5
          · cases hr
        · cases hr
      · cases hr
    · simp only [Option.some.injEq] at hr
      subst hr
      obtain ⟨b, cap, rfl⟩ := slen_ok hv (n := 0) rfl
      have hcap : cap = 0 := by
        obtain ⟨t', ⟨_, b', hc⟩, _⟩ := hv
        simp [Value.cells] at hc; exact hc.2
      subst hcap
      exact ⟨none, by intro k hk; simp [refs] at hk, by simp, fun N _ _ => ⟨rfl, b, rfl⟩⟩
    · exact data hr
  · exact data hr
  · cases hr

theorem rvs_ok (h : R0 w0 om σ a w) {T : Tab} (hT : T.Ok P) : ∀ {rl : List ResultVar} {us : List TypeId} {rs : List RV} {ns : List Nat}, rvs T σ rl us = some (rs, ns) →
    ∃ (ss : List SV) (vals : List Value) (bs : List (Option Pl)),
      (rl.mapM (resRun a)).run P w = .ok vals w ∧
      ns = ss.flatMap refs ∧ ss.length = rs.length ∧ vals.length = rs.length ∧ bs.length = rs.length ∧
      ∀ (i : Nat) (s : SV) (r : RV) (v : Value) (b : Option Pl), ss[i]? = some s → rs[i]? = some r → vals[i]? = some v → bs[i]? = some b →
        (∀ o ∈ refs s, ∃ ob, look σ.ob o = some ob) ∧ (∀ q, b = some q → ∃ o t q0 ob, o ∈ refs s ∧ look σ.ob o = some ob ∧ om o = some (t, some q0) ∧ q.b = q0.b) ∧
        ∀ N : Nat → Prop, (∀ g, N g → Mb σ.ob om g) → ((∃ t x, r = .d t x) → ∀ o ∈ refs s, ∀ t q, om o = some (t, some q) → ¬ N q.b) → RVok w0.heap.size w N r v b
  | [], us, rs, ns, hr => by
    simp only [rvs, Option.some.injEq, Prod.mk.injEq] at hr
    obtain ⟨rfl, rfl⟩ := hr
    exact ⟨[], [], [], by simp, rfl, rfl, rfl, rfl, fun i s r v b hs => by simp at hs⟩
  | r :: l, u :: us, rs, ns, hr => by
    simp only [rvs] at hr
    split at hr
    · rename_i s hs
      split at hr
      · rename_i x xs ns' hx hxs
        simp only [Option.some.injEq, Prod.mk.injEq] at hr
        obtain ⟨rfl, rfl⟩ := hr
        obtain ⟨ss, vals, bs, h1, h2, h3, h4, h5, h6⟩ := rvs_ok h hT hxs
        have hv : ∃ v, (resRun a r).run P w = .ok v w ∧ Val1 w om (Mb σ.ob om) s v := by
          cases r with
          | tmp t =>
            simp only [resSV] at hs
            split at hs
            · rename_i s' hl
              simp only [Option.some.injEq] at hs
              subst hs
              exact ⟨_, rfl, h.tm t _ hl⟩
            · cases hs
          | cell t u' =>
            simp only [resSV] at hs
            split at hs
            · rename_i o p hl
              split at hs
              · rename_i ob τ hlo hlt
                split at hs
                · rename_i hsub
                  obtain ⟨q, u2, c, el, fr, ev, ho', hsub', hok, hh, hu, hroom, hcv⟩ := ptr_place h (h.tm t _ hl : Val1 _ _ _ _ _) hlo
                  obtain ⟨A, hA, hcA, hle⟩ := CV.get hcv hok hs
                  rw [hsub] at hA
                  simp only [Option.some.injEq] at hA
                  subst hA
                  have hr1 := hroom.1
                  have hce : (((c.toList.drop q.base).take ob.t.size).drop (ob.t.offs p)).take τ.size = (c.toList.drop (q.base + ob.t.offs p)).take τ.size := take_drop_take_drop _ hle
                  rw [hce] at hcA
                  obtain ⟨v, hrun, hvc, hva⟩ := run_loadVar (P := P) hh (hT u' τ hlt).1 (o := q.base + ob.t.offs p) (by omega) (fun v hv => hcA.one v hv)
                  refine ⟨v, ?_, τ, by rw [hvc]; exact hcA, hva⟩
                  simp [resRun, ev, asAddr, hrun]
                · cases hs
              · cases hs
            · cases hs
        obtain ⟨v, hrun, hval⟩ := hv
        obtain ⟨b, hb0, hb1, hb2⟩ := rv_one h hval hx
        refine ⟨s :: ss, v :: vals, b :: bs, ?_, ?_, by simp [h3], by simp [h4], by simp [h5], ?_⟩
        · rw [List.mapM_cons]
          simp only [Sem.run_bind, hrun, Result.andThen_ok, h1, Sem.run_pure]
        · rw [app_eq, h2]; rfl
        · intro i s' r' v' b' g1 g2 g3 g4
          cases i with
          | zero =>
            simp only [List.getElem?_cons_zero, Option.some.injEq] at g1 g2 g3 g4
            subst g1; subst g2; subst g3; subst g4
            exact ⟨hb0, hb1, hb2⟩
          | succ i => exact h6 i s' r' v' b' (by simpa using g1) (by simpa using g2) (by simpa using g3) (by simpa using g4)
      · cases hr
    · cases hr
  | _ :: _, [], _, _, hr => by simp [rvs] at hr

theorem flatMap_disjoint {ss : List SV} (hn : (ss.flatMap refs).Nodup) : ∀ {i j : Nat} {s s' : SV} {o : Nat}, ss[i]? = some s → ss[j]? = some s' → o ∈ refs s → o ∈ refs s' → i = j := by
  induction ss with
  | nil => intro i j s s' o h; simp at h
  | cons x ss ih =>
    simp only [List.flatMap_cons] at hn
    rw [List.nodup_append] at hn
    obtain ⟨_, h2, h3⟩ := hn
    intro i j s s' o hi hj ho ho'
    cases i with
    | zero =>
      cases j with
      | zero => rfl
      | succ j =>
        simp only [List.getElem?_cons_zero, List.getElem?_cons_succ, Option.some.injEq] at hi hj
        subst hi
        exact absurd rfl (h3 o ho o (List.mem_flatMap.2 ⟨s', List.mem_of_getElem? hj, ho'⟩))
    | succ i =>
      cases j with
      | zero =>
        simp only [List.getElem?_cons_zero, List.getElem?_cons_succ, Option.some.injEq] at hi hj
        subst hj
        exact absurd rfl (h3 o ho' o (List.mem_flatMap.2 ⟨s, List.mem_of_getElem? hi, ho⟩))
      | succ j =>
        simp only [List.getElem?_cons_succ] at hi hj
        rw [ih h2 hi hj ho ho']

theorem results_eq (fn : Func) (a : Act) : results fn a.tmps = (do let vs ← fn.results.mapM (resRun a); pure (if h : vs.size = 1 then vs[0] else .tuple vs)) := by
  unfold results
  congr 1

theorem sRet_sound {T : Tab} (hT : T.Ok P) {fn : Func} {rl : List ResultVar} {us : List TypeId} {K : List RV → Prop} (hrl : fn.results.toList = rl) (h : R0 w0 om σ a w) (hs : sRet T rl us σ K) :
    ∃ v rs, (results fn a.tmps).run P w = .ok v w ∧ RetOk w0.heap.size w w0.F v rs ∧ K rs := by
  unfold sRet at hs
  split at hs
  · rename_i rs ns hr
    obtain ⟨hnd, hK⟩ := hs
    obtain ⟨ss, vals, bs, h1, rfl, h3, h4, h5, h6⟩ := rvs_ok h hT hr
    have hnd := nodupB_ok hnd
    have hs : ∀ {i : Nat}, i < rs.length → ∃ s r v b, ss[i]? = some s ∧ rs[i]? = some r ∧ vals[i]? = some v ∧ bs[i]? = some b := by
      intro i hi
      exact ⟨ss[i]'(by omega), rs[i]'(by omega), vals[i]'(by omega), bs[i]'(by omega), by simp, by simp, by simp, by simp⟩
    have hown : ∀ {g : Nat}, OwnB bs g → ∃ (i : Nat) (s : SV) (o : Nat) (t : Ty) (q0 : Pl) (ob : Ob), ss[i]? = some s ∧ o ∈ refs s ∧ look σ.ob o = some ob ∧ om o = some (t, some q0) ∧ g = q0.b ∧ (∃ e ds, rs[i]? = some (.own e ds)) := by
      rintro g ⟨q, hq, rfl⟩
      obtain ⟨i, hi, hiq⟩ := List.getElem_of_mem hq
      have hil : i < rs.length := by omega
      obtain ⟨s, r, v, b, g1, g2, g3, g4⟩ := hs hil
      have hbq : b = some q := by rw [List.getElem?_eq_getElem hi, hiq] at g4; exact (Option.some.inj g4).symm
      subst hbq
      obtain ⟨_, k1, k2⟩ := h6 i s r v _ g1 g2 g3 g4
      obtain ⟨o, t, q0, ob, m1, m2, m3, m4⟩ := k1 q rfl
      refine ⟨i, s, o, t, q0, ob, g1, m1, m2, m3, m4, ?_⟩
      have := k2 (fun _ => False) (by simp) (by simp)
      cases r with
      | d t x => exact this.elim
      | own e ds => exact ⟨e, ds, g2⟩
    have hN : ∀ g, (w0.F g ∨ OwnB bs g) → Mb σ.ob om g := by
      rintro g (k | k)
      · exact .inl (by rw [h.hF]; exact k)
      · obtain ⟨i, s, o, t, q0, ob, _, _, m2, m3, rfl, _⟩ := hown k
        exact .inr ⟨o, ob, t, q0, m2, m3, rfl⟩
    refine ⟨tupV vals, rs, ?_, ⟨vals, bs, rfl, h4, h5, ?_, ?_⟩, hK⟩
    · rw [results_eq, Array.mapM_eq_mapM_toList, hrl]
      simp only [Sem.run_bind, Sem.run_map, h1, Result.andThen_ok, Sem.run_pure, List.size_toArray]
      match vals with
      | [] => rfl
      | [v] => rfl
      | v :: u :: l => simp [tupV]
    · intro i r v b g2 g3 g4
      obtain ⟨s, r', v', b', g1, g2', g3', g4'⟩ := hs (List.getElem?_eq_some_iff.1 g2).1
      rw [g2] at g2'; rw [g3] at g3'; rw [g4] at g4'
      cases g2'; cases g3'; cases g4'
      obtain ⟨hlk, _, hfin⟩ := h6 i s r v b g1 g2 g3 g4
      refine hfin _ hN ?_
      rintro ⟨t, x, rfl⟩ o ho t' q hq hc
      rcases hc with hc | hc
      · obtain ⟨ob, hob⟩ := hlk o ho
        have := w0.low _ hc
        have := (Mo.lt h.ob ⟨o, ob, t', q, hob, hq, rfl⟩).1
        omega
      · obtain ⟨ob, hob⟩ := hlk o ho
        obtain ⟨j, s', o', t2, q0, ob', g1', m1, m2, m3, m4, e, ds, hj⟩ := hown hc
        have := h.apart _ _ _ _ _ _ _ _ hob m2 hq m3 m4
        subst this
        have := flatMap_disjoint hnd g1 g1' ho m1
        subst this
        rw [g2] at hj; cases hj
    · intro i j q q' hi hj hb
      have li : i < rs.length := by have := (List.getElem?_eq_some_iff.1 hi).1; omega
      have lj : j < rs.length := by have := (List.getElem?_eq_some_iff.1 hj).1; omega
      obtain ⟨s, r, v, b, g1, g2, g3, g4⟩ := hs li
      obtain ⟨s', r', v', b', g1', g2', g3', g4'⟩ := hs lj
      obtain ⟨o, t, q0, ob, m1, m2, m3, m4⟩ := (h6 i s r v _ g1 g2 g3 hi).2.1 q rfl
      obtain ⟨o', t', q0', ob', m1', m2', m3', m4'⟩ := (h6 j s' r' v' _ g1' g2' g3' hj).2.1 q' rfl
      have := h.apart _ _ _ _ _ _ _ _ m2 m2' m3 m3' (by rw [← m4, ← m4', hb])
      subst this
      exact flatMap_disjoint hnd g1 g1' m1 m1'
  · exact hs.elim

end
end Go.SE
