/- Code: operations in a row, branches, blocks, calls, returns. -/
import Derived.Test.YtbdalbibdkipcaaSeL
import Derived.Orders
set_option linter.unusedVariables false
set_option linter.unusedSimpArgs false
set_option linter.constructorNameAsVariable false
namespace Go.SE
open Go.RowKit (Below)

theorem tv_ok {w : World} {om : Om} {M : Nat → Prop} {xs : List SV} {vals : List Value} (hl : xs.length = vals.length) (h : ∀ (i : Nat) (x : SV) (v : Value), xs[i]? = some x → vals[i]? = some v → Val1 w om M x v) : TVok w om M (tvOf xs) (tupV vals) := by
  match xs, vals with
  | [], [] => exact ⟨[], rfl, rfl, fun i x y hx _ => by simp at hx⟩
  | [x], [v] => exact h 0 x v rfl rfl
  | x :: y :: xs, v :: u :: vals => exact ⟨v :: u :: vals, rfl, by simpa using hl.symm, fun i p q hp hq => h i p q hp hq⟩

section
variable {P : Program} {w0 : Base} {om : Om} {σ : St} {a : Act} {w : World}

theorem RVok.flat {B : Nat} {N N' : Nat → Prop} {r : RV} {v : Value} {b : Option Pl} (hf : r.flat = true) (h : RVok B w N r v b) : RVok B w N' r v b := by
  cases r with
  | d t x => cases b with
    | none => exact ⟨Rd.ofFlat hf h.1, h.2⟩
    | some q => exact h.elim
  | own e ds => cases b with
    | none => exact h
    | some q =>
      obtain ⟨h1, h2, h3, c, el, fr, h4, h5, h6, h7⟩ := h
      exact ⟨h1, h2, h3, c, el, fr, h4, h5, h6, ReadL.mono (fun _ _ k => Rd.ofFlat hf k) h7⟩

theorem sCall_grow {T : Tab} {o : Oper} {f : FuncId} {xs : Array Operand} {us : Array TypeId} {Q : Exit → Act → World → Prop} {K : St → Prop} {l : List (Ty × D)} (ho : o.op = .call { callee := .value (.func f), args := xs, argTypes := us }) (h : R0 w0 om σ a w) (hd : dstOk o.dst σ.nt)
    (ha : sArgs T σ xs.toList us.toList = some l) (hs : SCall P f l (fun rs => K (retSt σ (aRefs σ xs.toList) rs o.dst))) : o.wp P a w (fun a' w' => Below w.heap.size w w' ∧ After w0 K a' w') Q := by
  have hrl := aRefs_look (σ := σ) ha
  have hargs := sArgs_ok h (rf := aRefs σ xs.toList) hrl ha (fun o ho => ho)
  have fin : ∀ {w1 : World} {vals : List Value} {bs : List (Option Pl)} {rs : List RV} {σ1 : St} (_ : Below w.heap.size w w1) (_ : vals.length = rs.length) (_ : bs.length = rs.length) (_ : ∀ (i j : Nat) (q q' : Pl), bs[i]? = some (some q) → bs[j]? = some (some q') → q.b = q'.b → i = j) (_ : R0 w0 om σ1 a w) (_ : σ1.nt = σ.nt)
      (_ : ∀ (i : Nat) (r : RV) (v : Value) (b : Option Pl), rs[i]? = some r → vals[i]? = some v → bs[i]? = some b → RVok w.heap.size w1 (fun g => Mb σ1.ob om g ∨ OwnB bs g) r v b)
      (_ : K ({ σ1 with ob := app (newObs σ1.nx rs) σ1.ob, nx := σ1.nx + rs.length }.put o.dst (tvOf (newSVs σ1.nx rs)))), After w0 K (a.put o.dst (tupV vals)) w1 := by
    intro w1 vals bs rs σ1 hB hl1 hl2 hdis h1 hnt hrv' hK
    obtain ⟨om', hR, hvals⟩ := h1.adopt hB hl1 hl2 hrv' hdis
    refine ⟨_, ⟨om', hR.put o.dst _ _ (fun d e => ?_) (tv_ok (by rw [newSVs_length, hl1]) hvals)⟩, hK⟩
    rw [e] at hd
    show d < σ1.nt
    rw [hnt]; exact hd
  rcases hs with hs | ⟨rs, hK, hfl, hisd, hs⟩
  rotate_left
  · obtain ⟨vals, hrun, hl, hrv⟩ := hs w _ (xs.toList.map a.eval) hargs
    have hex : (execOp a.eval o).run P w = .ok (.value (tupV vals)) w := by
      rw [← Array.toList_map, Array.toArray_toList] at hrun
      simp [execOp, ho, resolve, Deferred.ofValue, Act.eval, invoke, hrun]
    unfold Oper.wp
    rw [hex, Oper.upon_value]
    refine ⟨Below.refl _ _, ?_⟩
    unfold retSt at hK
    rw [if_pos hfl] at hK
    refine fin (bs := List.replicate rs.length none) (Below.refl _ _) hl (by simp) (fun i j q q' h1 _ _ => ?_) h rfl (fun i r v b hr hv hb => ?_) hK
    · rw [List.getElem?_replicate] at h1; split at h1 <;> simp at h1
    · have hbn : b = none := by
        rw [List.getElem?_replicate] at hb; split at hb <;> simp_all
      subst hbn
      have h1 := hrv i r v hr hv
      have h2 := List.all_eq_true.1 hfl r (List.mem_of_getElem? hr)
      have h3 := List.all_eq_true.1 hisd r (List.mem_of_getElem? hr)
      cases r with
      | d t x => exact RVok.flat h2 h1
      | own e ds => simp [RV.isD] at h3
  obtain ⟨⟨fn, hf, hn, hb⟩, hs⟩ := hs
  have hex : (execOp a.eval o).run P w = .ok (.enter f (xs.map a.eval)) w := by
    have hn' : ¬ fn.name = "runtime.NumGoroutine" := by simpa using hn
    have hb' : ¬ fn.body = none := by intro e; simp [e] at hb
    simp [execOp, ho, resolve, Deferred.ofValue, Act.eval, invoke, callFunc, hf, hn', hb']
  have hF : ∀ b, Mb (dels σ.ob (aRefs σ xs.toList)) om b → b < w.heap.size := by
    rintro b (hb | hb)
    · have := w0.low b (by rw [← h.hF]; exact hb)
      have := h.below.size
      omega
    · exact (Mo.lt h.ob (Mo_dels hb)).2
  unfold Oper.wp
  rw [hex, Oper.upon_enter]
  have hc := hs w _ (xs.toList.map a.eval) hF hargs
  rw [← Array.toList_map, Array.toArray_toList] at hc
  refine hc.mono ?_
  rintro e w1 ⟨v, rs, rfl, hB, ⟨vals, bs, rfl, hl1, hl2, hrv, hdis⟩, hK⟩
  refine ⟨hB, ?_⟩
  unfold retSt at hK
  by_cases hfl : rs.all RV.flat = true
  · rw [if_pos hfl] at hK
    refine fin hB hl1 hl2 hdis h rfl (fun i r v b hr hv hb => ?_) hK
    exact RVok.flat (List.all_eq_true.1 hfl r (List.mem_of_getElem? hr)) (hrv i r v b hr hv hb)
  · rw [if_neg hfl] at hK
    exact fin hB hl1 hl2 hdis (h.dels _ _ h) rfl hrv hK

theorem sCall_sound {T : Tab} {o : Oper} {f : FuncId} {xs : Array Operand} {us : Array TypeId} {Q : Exit → Act → World → Prop} {K : St → Prop} {l : List (Ty × D)} (ho : o.op = .call { callee := .value (.func f), args := xs, argTypes := us }) (h : R0 w0 om σ a w) (hd : dstOk o.dst σ.nt)
    (ha : sArgs T σ xs.toList us.toList = some l) (hs : SCall P f l (fun rs => K (retSt σ (aRefs σ xs.toList) rs o.dst))) : o.wp P a w (After w0 K) Q :=
  Oper.wp_mono (fun _ _ h => h.2) (sCall_grow ho h hd ha hs)

/-! one operation -/

def tyIf (T : Tab) (t : Ty) (u : TypeId) : Prop :=
  match t with
  | .int _ | .str => True
  | t => look T u = some t

def sOp (P : Program) (T : Tab) (o : Oper) (σ : St) (K : St → Prop) : Prop :=
  dstOk o.dst σ.nt ∧
  match o.op with
  | .move x | .assign x => match ev σ x with | some v => K (σ.put o.dst v) | none => False
  | .binOp op xT x y _ => match ev1 σ x, ev1 σ y with
    | some (.d t dx), some (.d t' dy) => tyIf T t xT ∧ sBin op t dx t' dy (fun s => K (σ.put o.dst (.v s)))
    | _, _ => False
  | .unOp op _ x => match ev1 σ x with | some (.d t dx) => sUn op t dx (fun s => K (σ.put o.dst (.v s))) | _ => False
  | .convert u d x => match ev1 σ x with | some s => sConv T u d s σ (fun σ s => K (σ.put o.dst (.v s))) | none => False
  | .pick c x y => match ev1 σ c with
    | some (.d .bool b) => sIf b.bool (match ev σ x with | some v => K (σ.put o.dst v) | none => False) (match ev σ y with | some v => K (σ.put o.dst v) | none => False)
    | _ => False
  | .alloc u => sAlloc T u σ (fun σ s => K (σ.put o.dst (.v s)))
  | .box u x => match ev1 σ x with | some s => sBox T u s σ (fun σ s => K (σ.put o.dst (.v s))) | none => False
  | .build t parts => sBuild T t parts.toList σ (fun s => K (σ.put o.dst (.v s)))
  | .buildSlice t n parts => sBuildS T t n parts.toList σ (fun σ s => K (σ.put o.dst (.v s)))
  | .load u x => match ev1 σ x with | some s => sLoad T u s σ (fun s => K (σ.put o.dst (.v s))) | none => False
  | .store u x y => match ev1 σ x, ev1 σ y with | some s, some r => sStore T u s r σ (fun σ => K (σ.put o.dst .u)) | _, _ => False
  | .nilCheck x => match ev1 σ x with
    | some (.ptr b p) => (look σ.ob b).isSome = true ∧ K (σ.put o.dst (.v (.ptr b p)))
    | some (.vp t y) => K (σ.put o.dst (.v (.vp t y)))
    | _ => False
  | .sliceToArrayPointer d x => match ev1 σ x with | some s => sArr T d s σ (fun s => K (σ.put o.dst (.v s))) | none => False
  | .makeSlice t x y => match ev1 σ x, ev1 σ y with
    | some (.d (.int _) l), some (.d (.int _) c) => sMake T t l c σ (fun σ s => K (σ.put o.dst (.v s)))
    | _, _ => False
  | .slice u x lo hi none => match ev1 σ x, opInt σ lo, opInt σ hi with
    | some s, some l, some h => sSlice T u s l h σ (fun s => K (σ.put o.dst (.v s)))
    | _, _, _ => False
  | .fieldAddr u x i => match ev1 σ x with | some s => sFieldAddr T u s i σ (fun s => K (σ.put o.dst (.v s))) | none => False
  | .field u x i => match ev1 σ x with | some s => sField T u s i σ (fun s => K (σ.put o.dst (.v s))) | none => False
  | .indexAddr u x y => match ev1 σ x, ev1 σ y with | some s, some (.d (.int _) i) => sIndexAddr T u s i σ (fun s => K (σ.put o.dst (.v s))) | _, _ => False
  | .index u x y => match ev1 σ x, ev1 σ y with | some s, some (.d (.int _) i) => sIndex T u s i (fun s => K (σ.put o.dst (.v s))) | _, _ => False
  | .extract x i => sExtract (ev σ x) i (fun s => K (σ.put o.dst (.v s)))
  | .call { callee := .builtin .len, args := ⟨[x]⟩, argTypes := ⟨[u]⟩ } => match ev1 σ x with | some s => sLen T u s (fun s => K (σ.put o.dst (.v s))) | none => False
  | .call { callee := .builtin .append, args := ⟨[x, y]⟩, argTypes := ⟨[t, u]⟩ } => match ev1 σ x, ev1 σ y with | some s, some r => sAppend T t u s r σ (fun σ s => K (σ.put o.dst (.v s))) | _, _ => False
  | .call { callee := .builtin .copy, args := ⟨[x, y]⟩, argTypes := ⟨[t, u]⟩ } => match ev1 σ x, ev1 σ y with | some s, some r => sCopy T t u s r σ (fun σ s => K (σ.put o.dst (.v s))) | _, _ => False
  | .call { callee := .builtin .min, args := ⟨[x, y]⟩, argTypes := _ } => match ev1 σ x, ev1 σ y with
    | some (.d (.int k) l), some (.d (.int _) c) => K (σ.put o.dst (.v (.d (.int k) (.n (if c.int < l.int then c.int else l.int)))))
    | _, _ => False
  | .call { callee := .builtin .max, args := ⟨[x, y]⟩, argTypes := _ } => match ev1 σ x, ev1 σ y with
    | some (.d (.int k) l), some (.d (.int _) c) => K (σ.put o.dst (.v (.d (.int k) (.n (if l.int < c.int then c.int else l.int)))))
    | _, _ => False
  | .call { callee := .value (.func f), args := xs, argTypes := us } => match sArgs T σ xs.toList us.toList with
    | some l => SCall P f l (fun rs => K (retSt σ (aRefs σ xs.toList) rs o.dst))
    | none => False
  | _ => False

@[congr] theorem sOp_congr {P : Program} {T : Tab} {o : Oper} {σ σ' : St} {K : St → Prop} (h : σ = σ') : sOp P T o σ K = sOp P T o σ' K := by rw [h]

theorem sOp_sound {T : Tab} (hT : T.Ok P) {o : Oper} {Q : Exit → Act → World → Prop} {K : St → Prop} (h : R w0 σ a w) (hs : sOp P T o σ K) : o.wp P a w (After w0 K) Q := by
  obtain ⟨om, h⟩ := h
  obtain ⟨hd, hs⟩ := hs
  split at hs
  · rename_i x ho
    split at hs
    · rename_i v hv; exact (wp_move (.inl ho) h hd hv hs).wp
    · exact hs.elim
  · rename_i x ho
    split at hs
    · rename_i v hv; exact (wp_move (.inr ho) h hd hv hs).wp
    · exact hs.elim
  · rename_i op xT x y yT ho
    split at hs
    · rename_i t dx t' dy hx hy
      refine (sBin_sound ho h hd hx hy (fun ht => ?_) hs.2).wp
      have h1 := hs.1
      cases t <;> simp [Ty.agg] at ht <;> exact (hT _ _ h1).1
    · exact hs.elim
  · rename_i op xT x ho
    split at hs
    · rename_i t dx hx; exact (sUn_sound ho h hd hx hs).wp
    · exact hs.elim
  · rename_i u d x ho
    split at hs
    · rename_i s hx; exact sConv_sound hT ho h hd hx hs
    · exact hs.elim
  · rename_i c x y ho
    split at hs
    · rename_i b hc; exact (sPick_sound ho h hd hc hs).wp
    · exact hs.elim
  · rename_i u ho; exact sAlloc_sound hT ho h hd hs
  · rename_i u x ho
    split at hs
    · rename_i s hx; exact sBox_sound ho h hd hx hs
    · exact hs.elim
  · rename_i t parts ho; exact sBuild_sound hT ho h hd hs
  · rename_i t n parts ho; exact sBuildS_sound hT ho h hd hs
  · rename_i u x ho
    split at hs
    · rename_i s hx; exact (sLoad_sound hT ho h hd hx hs).wp
    · exact hs.elim
  · rename_i u x y ho
    split at hs
    · rename_i s r hx hy; exact sStore_sound hT ho h hd hx hy hs
    · exact hs.elim
  · rename_i x ho
    split at hs
    · rename_i b p hx; exact (sNil_sound (s := .ptr b p) ho h hd hx hs).wp
    · rename_i t y hx; exact (sNil_sound (s := .vp t y) ho h hd hx hs).wp
    · exact hs.elim
  · rename_i d x ho
    split at hs
    · rename_i s hx; exact (sArr_sound hT ho h hd hx hs).wp
    · exact hs.elim
  · rename_i t x y ho
    split at hs
    · rename_i k l k' c hx hy; exact sMake_sound hT ho h hd hx hy hs
    · exact hs.elim
  · rename_i u x lo hi ho
    split at hs
    · rename_i s l r hx hlo hhi; exact (sSlice_sound hT ho h hd hx hlo hhi hs).wp
    · exact hs.elim
  · rename_i u x i ho
    split at hs
    · rename_i s hx; exact (sFieldAddr_sound hT ho h hd hx hs).wp
    · exact hs.elim
  · rename_i u x i ho
    split at hs
    · rename_i s hx; exact (sField_sound hT ho h hd hx hs).wp
    · exact hs.elim
  · rename_i u x y ho
    split at hs
    · rename_i s k i hx hy; exact (sIndexAddr_sound hT ho h hd hx hy hs).wp
    · exact hs.elim
  · rename_i u x y ho
    split at hs
    · rename_i s k i hx hy; exact (sIndex_sound hT ho h hd hx hy hs).wp
    · exact hs.elim
  · rename_i x i ho; exact (sExtract_sound ho h hd hs).wp
  · rename_i x u ho
    split at hs
    · rename_i s hx; exact (sLen_sound hT ho h hd hx hs).wp
    · exact hs.elim
  · rename_i x y t u ho
    split at hs
    · rename_i s r hx hy; exact sAppend_sound hT ho h hd hx hy hs
    · exact hs.elim
  · rename_i x y t u ho
    split at hs
    · rename_i s r hx hy; exact sCopy_sound hT ho h hd hx hy hs
    · exact hs.elim
  · rename_i x y ts ho
    split at hs
    · rename_i k l k' c hx hy; exact (sMin_sound ho h hd hx hy hs).wp
    · exact hs.elim
  · rename_i x y ts ho
    split at hs
    · rename_i k l k' c hx hy; exact (sMax_sound ho h hd hx hy hs).wp
    · exact hs.elim
  · rename_i f xs us ho
    split at hs
    · rename_i l ha; exact sCall_sound ho h hd ha hs
    · exact hs.elim
  · exact hs.elim

end
end Go.SE
