/- Symbolic values, places within them, and what they stand for in a world. -/
import Derived.Test.YtbdalbibdkipcaaSeA
set_option linter.unusedVariables false
set_option linter.unusedSimpArgs false
set_option linter.constructorNameAsVariable false
namespace Go.SE

inductive Step where
  | f (i : Nat) | ix (i : Nat) | win (off n : Nat)
  deriving DecidableEq

inductive SV where
  | d (t : Ty) (x : D)
  | nil
  | ref (o : Nat) (p : List Step) (off len : Nat)
  | ptr (o : Nat) (p : List Step)
  | vp (t : Ty) (x : D)
  | anil | acons (a b : SV)

def D.list : D → List D | .l ds => ds | _ => []
def D.int : D → Int | .n x => x | _ => 0
def D.bool : D → Bool | .b x => x | _ => false
def D.str : D → ByteArray | .s x => x | _ => .empty
def D.at (x : D) (i : Nat) : D := x.list.getD i default

def Ty.subF : Ty → Nat → Option Ty
  | .cons a _, 0 => some a
  | .cons _ b, i + 1 => b.subF i
  | _, _ => none
def Ty.offF : Ty → Nat → Nat
  | .cons a b, i + 1 => a.size + b.offF i
  | _, _ => 0

def Ty.sub1 : Ty → Step → Option Ty
  | t, .f i => t.subF i
  | .arr _ e, .ix _ => some e
  | .arr _ e, .win _ n => some (.arr n e)
  | _, _ => none
def Ty.off1 : Ty → Step → Nat
  | t, .f i => t.offF i
  | .arr _ e, .ix i | .arr _ e, .win i _ => i * e.size
  | _, _ => 0
def Ty.ok1 : Ty → Step → Prop
  | .arr n _, .ix i => i < n
  | .arr n _, .win i m => i + m ≤ n
  | _, _ => True

def Ty.sub : Ty → List Step → Option Ty
  | t, [] => some t
  | t, s :: p => (t.sub1 s).bind (·.sub p)
def Ty.offs : Ty → List Step → Nat
  | _, [] => 0
  | t, s :: p => t.off1 s + ((t.sub1 s).map (·.offs p)).getD 0
def Ty.okp : Ty → List Step → Prop
  | _, [] => True
  | t, s :: p => t.ok1 s ∧ ((t.sub1 s).map (·.okp p)).getD True

def SV.stepF : SV → Nat → Option SV
  | .acons a _, 0 => some a
  | .acons _ b, i + 1 => b.stepF i
  | .d t x, i => (t.subF i).map fun a => .d a (x.at i)
  | _, _ => none
def SV.step1 : SV → Step → Option SV
  | v, .f i => v.stepF i
  | .d (.arr _ e) x, .ix i => some (.d e (x.at i))
  | .d (.arr _ e) x, .win i n => some (.d (.arr n e) (.l ((x.list.drop i).take n)))
  | _, _ => none
def SV.get : SV → List Step → Option SV
  | v, [] => some v
  | v, s :: p => (v.step1 s).bind (·.get p)

/-- A struct's value as its parts. -/
def SV.open : Ty → D → SV
  | .cons a b, x => .acons (.d a (x.at 0)) (SV.open b (.l x.list.tail))
  | t, x => match t with | .nil => .anil | _ => .d t x

def SV.setP : SV → Nat → SV → Option SV
  | .acons _ b, 0, v => some (.acons v b)
  | .acons a b, i + 1, v => (b.setP i v).map (.acons a)
  | _, _, _ => none
def SV.setF : SV → Nat → SV → Option SV
  | .d t x, i, .d a y => if t.subF i = some a then some (.d t (.l (x.list.set i y))) else none
  | .d t x, i, v => (SV.open t x).setP i v
  | .acons a b, i, v => (SV.acons a b).setP i v
  | _, _, _ => none
def SV.set1 : SV → Step → SV → Option SV
  | c, .f i, v => c.setF i v
  | .d (.arr n e) x, .ix i, .d a y => if a = e then some (.d (.arr n e) (.l (x.list.set i y))) else none
  | _, _, _ => none
def SV.put : SV → List Step → SV → Option SV
  | _, [], v => some v
  | c, s :: p, v => (c.step1 s).bind fun u => (u.put p v).bind fun u' => c.set1 s u'

/-- Where an object lies: its block, its first cell, how many elements there is room for (rows). -/
structure Pl where
  b : Nat
  base : Nat
  C : Nat

/-- Where the named objects lie; and the blocks that no data may lie in from the beginning. -/
structure Om where
  tab : Nat → Option (Ty × Option Pl)
  F : Nat → Prop
instance : CoeFun Om (fun _ => Nat → Option (Ty × Option Pl)) := ⟨Om.tab⟩

def RefAt (om : Om) (o : Nat) (p : List Step) (off len : Nat) (e : Ty) (v : Value) : Prop :=
  ∃ t pl n cap, om o = some (t, pl) ∧ t.sub p = some (.arr n e) ∧ t.okp p ∧ off + len ≤ n ∧ len ≤ cap ∧
    ((cap = 0 ∧ ∃ a, v = .slice a 0 0) ∨
      ∃ q, pl = some q ∧ v = .slice (some ⟨q.b, q.base + t.offs p + off * e.size, none⟩) len cap ∧ off + cap ≤ (if p = [] then q.C else n))

def PtrAt (om : Om) (o : Nat) (p : List Step) (v : Value) : Prop :=
  ∃ t q u, om o = some (t, some q) ∧ t.sub p = some u ∧ t.okp p ∧ v = .pointer (some ⟨q.b, q.base + t.offs p, none⟩)

def CV (w : World) (om : Om) (M : Nat → Prop) : Ty → SV → List Value → Prop
  | t, .d u x, cs => u = t ∧ Rd w (fun b => ¬ M b) t cs x
  | t, .nil, cs => (∃ e, t = .sl e) ∧ ∃ a, cs = [.slice a 0 0]
  | t, .ref o p off len, cs => ∃ e v, t = .sl e ∧ cs = [v] ∧ RefAt om o p off len e v
  | t, .ptr o p, cs => ∃ v, t = .ptr ∧ cs = [v] ∧ PtrAt om o p v
  | t, .vp u x, cs => t = .ptr ∧ ∃ g o c el fr, cs = [.pointer (some ⟨g, o, none⟩)] ∧ ¬ M g ∧ w.heap[g]? = some (.cells c el fr) ∧ o + u.size ≤ c.size ∧ Rd w (fun b => ¬ M b) u ((c.toList.drop o).take u.size) x
  | t, .anil, cs => t = .nil ∧ cs = []
  | t, .acons a b, cs => ∃ ta tb, t = .cons ta tb ∧ CV w om M ta a (cs.take ta.size) ∧ CV w om M tb b (cs.drop ta.size)

theorem CV.length {w : World} {om : Om} {M : Nat → Prop} : ∀ {t : Ty} {v : SV} {cs : List Value}, CV w om M t v cs → cs.length = t.size
  | _, .d _ _, _, ⟨_, h⟩ => h.length
  | _, .nil, _, ⟨⟨_, h⟩, _, k⟩ => by subst h; subst k; rfl
  | _, .ref _ _ _ _, _, ⟨_, _, h, k, _⟩ => by subst h; subst k; rfl
  | _, .ptr _ _, _, ⟨_, h, k, _⟩ => by subst h; subst k; rfl
  | _, .vp _ _, _, ⟨h, _, _, _, _, _, k, _⟩ => by subst h; subst k; rfl
  | _, .anil, _, ⟨h, k⟩ => by subst h; subst k; rfl
  | _, .acons a b, cs, ⟨ta, tb, h, h1, h2⟩ => by
    subst h
    have k1 := CV.length h1
    have k2 := CV.length h2
    simp only [Ty.size, List.length_take, List.length_drop] at *
    omega

theorem CV.mono {w w' : World} {om om' : Om} {M M' : Nat → Prop} (h : ∀ b o, ¬ M b → w.heap[b]? = some o → ¬ M' b ∧ w'.heap[b]? = some o)
    (ho : ∀ o x, om o = some x → om' o = some x) : ∀ {t : Ty} {v : SV} {cs : List Value}, CV w om M t v cs → CV w' om' M' t v cs
  | _, .d _ _, _, ⟨e, k⟩ => ⟨e, k.mono h⟩
  | _, .nil, _, k => k
  | _, .ref _ _ _ _, _, ⟨e, v, h1, h2, t, pl, n, cap, h3, r⟩ => ⟨e, v, h1, h2, t, pl, n, cap, ho _ _ h3, r⟩
  | _, .ptr _ _, _, ⟨v, h1, h2, t, q, u, h3, r⟩ => ⟨v, h1, h2, t, q, u, ho _ _ h3, r⟩
  | _, .vp _ _, _, ⟨e, g, o, c, el, fr, h1, h2, h3, h4, h5⟩ => ⟨e, g, o, c, el, fr, h1, (h g _ h2 h3).1, (h g _ h2 h3).2, h4, h5.mono h⟩
  | _, .anil, _, k => k
  | _, .acons _ _, _, ⟨ta, tb, e, h1, h2⟩ => ⟨ta, tb, e, h1.mono h ho, h2.mono h ho⟩

theorem Rd.fld {w : World} {S : Nat → Prop} : ∀ {i : Nat} {t a : Ty} {cs : List Value} {x : D}, Rd w S t cs x → t.subF i = some a →
    Rd w S a ((cs.drop (t.offF i)).take a.size) (x.at i) ∧ t.offF i + a.size ≤ t.size
  | 0, .cons u b, a, cs, _, ⟨x, xs, hd, h1, h2⟩, he => by
    simp only [Ty.subF, Option.some.injEq] at he
    subst he; subst hd
    refine ⟨by simpa [Ty.offF, D.at, D.list] using h1, by simp [Ty.offF, Ty.size]⟩
  | i + 1, .cons u b, a, cs, _, ⟨x, xs, hd, h1, h2⟩, he => by
    subst hd
    have ih := Rd.fld (i := i) h2 he
    refine ⟨by simpa [Ty.offF, D.at, D.list, List.drop_drop] using ih.1, ?_⟩
    have := ih.2
    simp only [Ty.offF, Ty.size]; omega
  | _, .bool, _, _, _, _, he | _, .int _, _, _, _, _, he | _, .str, _, _, _, _, he | _, .sl _, _, _, _, _, he | _, .arr _ _, _, _, _, _, he | _, .nil, _, _, _, _, he | _, .ptr, _, _, _, _, he => by
    simp [Ty.subF] at he

def splice (cs : List Value) (o : Nat) (ns : List Value) : List Value := cs.take o ++ ns ++ cs.drop (o + ns.length)

theorem splice_length {cs ns : List Value} {o : Nat} (h : o + ns.length ≤ cs.length) : (splice cs o ns).length = cs.length := by
  simp only [splice, List.length_append, List.length_take, List.length_drop]; omega

theorem splice_take_drop {cs ns : List Value} {o m : Nat} (h : o + m ≤ cs.length) (hm : ns.length = m) : ((splice cs o ns).drop o).take m = ns := by
  have : (cs.take o).length = o := by simp; omega
  simp only [splice, List.append_assoc]
  rw [List.drop_append_of_le_length (by omega), List.drop_of_length_le (by omega), List.nil_append, List.take_append_of_le_length (by omega), List.take_of_length_le (by omega)]

/-- A splice in the part behind 'k' cells. -/
theorem splice_drop {cs ns : List Value} {o k : Nat} (hk : k ≤ cs.length) : splice cs (k + o) ns = cs.take k ++ splice (cs.drop k) o ns := by
  have h : cs.take (k + o) = cs.take k ++ (cs.drop k).take o := by rw [List.take_add]
  simp only [splice, List.drop_drop]
  rw [h]
  simp [List.append_assoc, Nat.add_assoc]

/-- A splice within the first 'k' cells. -/
theorem splice_take {cs ns : List Value} {o k : Nat} (hk : o + ns.length ≤ k) (hl : k ≤ cs.length) : splice cs o ns = splice (cs.take k) o ns ++ cs.drop k := by
  simp only [splice, List.append_assoc]
  congr 1
  · rw [List.take_take, Nat.min_eq_left (by omega)]
  · congr 1
    rw [List.drop_take]
    have : cs.drop k = (cs.drop (o + ns.length)).drop (k - (o + ns.length)) := by rw [List.drop_drop]; congr 1; omega
    rw [this, List.take_append_drop]

theorem splice_splice {cs ns : List Value} {o k m : Nat} (hm : o + m ≤ cs.length) (hn : k + ns.length ≤ m) :
    splice cs o (splice ((cs.drop o).take m) k ns) = splice cs (o + k) ns := by
  rw [splice_drop (by omega)]
  have hl : ((cs.drop o).take m).length = m := by simp; omega
  have hs : (splice ((cs.drop o).take m) k ns).length = m := by rw [splice_length (by omega), hl]
  rw [splice_take (cs := cs.drop o) (k := m) hn (by simp; omega)]
  simp only [splice] at hs ⊢
  rw [hs, List.drop_drop]
  simp [List.append_assoc]

theorem splice_zero {cs ns : List Value} : splice cs 0 ns = ns ++ cs.drop ns.length := by simp [splice]

theorem Rd.setF {w : World} {S : Nat → Prop} : ∀ {i : Nat} {t a : Ty} {cs ns : List Value} {x y : D}, Rd w S t cs x → t.subF i = some a → Rd w S a ns y →
    Rd w S t (splice cs (t.offF i) ns) (.l (x.list.set i y))
  | 0, .cons u b, a, cs, ns, _, y, ⟨x, xs, hd, h1, h2⟩, he, hn => by
    simp only [Ty.subF, Option.some.injEq] at he
    subst he; subst hd
    have hl := hn.length
    refine ⟨y, xs, by simp [D.list], ?_, ?_⟩
    · simp only [Ty.offF, splice_zero, List.take_append_of_le_length (Nat.le_of_eq hl.symm)]
      rw [List.take_of_length_le (by omega)]; exact hn
    · simp only [Ty.offF, splice_zero]
      rw [List.drop_append_of_le_length (by omega), List.drop_of_length_le (by omega), hl]; simpa using h2
  | i + 1, .cons u b, a, cs, ns, _, y, ⟨x, xs, hd, h1, h2⟩, he, hn => by
    subst hd
    have ih := Rd.setF (i := i) h2 he hn
    have hl : (cs.take u.size).length = u.size := h1.length
    have hl' : u.size ≤ cs.length := by simp at hl; omega
    refine ⟨x, xs.set i y, by simp [D.list], ?_, ?_⟩
    · rw [Ty.offF, splice_drop hl', List.take_append_of_le_length (by omega), List.take_of_length_le (by omega)]; exact h1
    · rw [Ty.offF, splice_drop hl', List.drop_append_of_le_length (by omega), List.drop_of_length_le (by omega), List.nil_append]
      simpa [D.list] using ih
  | _, .bool, _, _, _, _, _, _, he, _ | _, .int _, _, _, _, _, _, _, he, _ | _, .str, _, _, _, _, _, _, he, _ | _, .sl _, _, _, _, _, _, _, he, _ | _, .arr _ _, _, _, _, _, _, _, he, _ | _, .nil, _, _, _, _, _, _, he, _ | _, .ptr, _, _, _, _, _, _, he, _ => by
    simp [Ty.subF] at he

theorem CV.fld {w : World} {om : Om} {M : Nat → Prop} : ∀ {v : SV} {i : Nat} {u : SV} {t : Ty} {cs : List Value}, CV w om M t v cs → v.stepF i = some u →
    ∃ a, t.subF i = some a ∧ CV w om M a u ((cs.drop (t.offF i)).take a.size) ∧ t.offF i + a.size ≤ t.size
  | .acons a b, 0, u, _, cs, ⟨ta, tb, h, h1, h2⟩, he => by
    subst h
    simp only [SV.stepF, Option.some.injEq] at he
    subst he
    exact ⟨ta, rfl, by simpa [Ty.offF] using h1, by simp [Ty.offF, Ty.size]⟩
  | .acons a b, i + 1, u, _, cs, ⟨ta, tb, h, h1, h2⟩, he => by
    subst h
    obtain ⟨c, k1, k2, k3⟩ := CV.fld h2 he
    refine ⟨c, k1, by simpa [Ty.offF, List.drop_drop] using k2, ?_⟩
    simp only [Ty.offF, Ty.size]; omega
  | .d t' x, i, u, t, cs, ⟨h, hr⟩, he => by
    subst h
    simp only [SV.stepF, Option.map_eq_some_iff] at he
    obtain ⟨a, ha, hu⟩ := he
    subst hu
    have := hr.fld ha
    exact ⟨a, ha, ⟨rfl, this.1⟩, this.2⟩
  | .nil, i, u, t, cs, _, he | .ref _ _ _ _, i, u, t, cs, _, he | .ptr _ _, i, u, t, cs, _, he | .vp _ _, i, u, t, cs, _, he | .anil, i, u, t, cs, _, he => by
    simp [SV.stepF] at he

theorem CV.step1 {w : World} {om : Om} {M : Nat → Prop} {v u : SV} {s : Step} {t : Ty} {cs : List Value} (h : CV w om M t v cs) (hk : t.ok1 s) (he : v.step1 s = some u) :
    ∃ a, t.sub1 s = some a ∧ CV w om M a u ((cs.drop (t.off1 s)).take a.size) ∧ t.off1 s + a.size ≤ t.size := by
  cases s with
  | f i =>
    obtain ⟨a, h1, h2, h3⟩ := CV.fld h (by simpa [SV.step1] using he)
    exact ⟨a, h1, h2, h3⟩
  | ix i =>
    cases v with
    | d t' x =>
      obtain ⟨h0, hr⟩ := h
      subst h0
      cases t' with
      | arr n e =>
        simp only [SV.step1, Option.some.injEq] at he
        subst he
        obtain ⟨ds, hd, hn, hl⟩ := hr
        subst hd
        have hk' : i < n := hk
        have hlt : i < ds.length := by omega
        refine ⟨e, rfl, ⟨rfl, ReadL.get hl hlt⟩, ?_⟩
        simp only [Ty.off1, Ty.size]
        rw [← Nat.succ_mul]
        exact Nat.mul_le_mul_right _ hk'
      | _ => simp [SV.step1] at he
    | _ => simp [SV.step1] at he
  | win i m =>
    cases v with
    | d t' x =>
      obtain ⟨h0, hr⟩ := h
      subst h0
      cases t' with
      | arr n e =>
        simp only [SV.step1, Option.some.injEq] at he
        subst he
        obtain ⟨ds, hd, hn, hl⟩ := hr
        subst hd
        have hk' : i + m ≤ n := hk
        refine ⟨.arr m e, rfl, ⟨rfl, _, rfl, by simp [D.list]; omega, ?_⟩, ?_⟩
        · have := ReadL.take m (ReadL.drop i hl)
          simpa [Ty.off1, Ty.size, D.list] using this
        · simp only [Ty.off1, Ty.size]
          rw [← Nat.add_mul]
          exact Nat.mul_le_mul_right _ hk'
      | _ => simp [SV.step1] at he
    | _ => simp [SV.step1] at he

theorem CV.get {w : World} {om : Om} {M : Nat → Prop} : ∀ {p : List Step} {v u : SV} {t : Ty} {cs : List Value}, CV w om M t v cs → t.okp p → v.get p = some u →
    ∃ a, t.sub p = some a ∧ CV w om M a u ((cs.drop (t.offs p)).take a.size) ∧ t.offs p + a.size ≤ t.size
  | [], v, u, t, cs, h, _, he => by
    simp only [SV.get, Option.some.injEq] at he
    subst he
    refine ⟨t, rfl, ?_, by simp [Ty.offs]⟩
    have := h.length
    rw [Ty.offs, List.drop_zero, List.take_of_length_le (by omega)]; exact h
  | s :: p, v, u, t, cs, h, hk, he => by
    simp only [SV.get, Option.bind_eq_some_iff] at he
    obtain ⟨v', h1, h2⟩ := he
    obtain ⟨a, ha, hv, hle⟩ := CV.step1 h hk.1 h1
    have hk2 : a.okp p := by have := hk.2; simpa [ha] using this
    obtain ⟨c, hc, hu, hle2⟩ := CV.get hv hk2 h2
    refine ⟨c, by simp [Ty.sub, ha, hc], ?_, ?_⟩
    · simp only [Ty.offs, ha, Option.map_some, Option.getD_some]
      rw [List.drop_take, List.take_take, Nat.min_eq_left (by omega), List.drop_drop] at hu
      exact hu
    · simp only [Ty.offs, ha, Option.map_some, Option.getD_some]; omega

theorem Rd.open {w : World} {om : Om} {M : Nat → Prop} : ∀ {t : Ty} {cs : List Value} {x : D}, Rd w (fun b => ¬ M b) t cs x → CV w om M t (SV.open t x) cs
  | .cons a b, cs, _, ⟨x, xs, hd, h1, h2⟩ => by
    subst hd
    exact ⟨a, b, rfl, ⟨rfl, by simpa [D.at, D.list] using h1⟩, by simpa [D.list] using Rd.open h2⟩
  | .nil, _, _, h => ⟨rfl, h.1⟩
  | .bool, _, _, h | .int _, _, _, h | .str, _, _, h | .sl _, _, _, h | .arr _ _, _, _, h | .ptr, _, _, h => ⟨rfl, h⟩

theorem CV.setP {w : World} {om : Om} {M : Nat → Prop} : ∀ {c : SV} {i : Nat} {v c' : SV} {t a : Ty} {cs ns : List Value}, CV w om M t c cs → c.setP i v = some c' → t.subF i = some a → CV w om M a v ns →
    CV w om M t c' (splice cs (t.offF i) ns)
  | .acons _ b, 0, v, c', _, a, cs, ns, ⟨ta, tb, h, h1, h2⟩, he, hs, hn => by
    subst h
    simp only [Ty.subF, SV.setP, Option.some.injEq] at he hs
    subst he; subst hs
    have hl := hn.length
    refine ⟨ta, tb, rfl, ?_, ?_⟩
    · simp only [Ty.offF, splice_zero, List.take_append_of_le_length (Nat.le_of_eq hl.symm)]
      rw [List.take_of_length_le (by omega)]; exact hn
    · simp only [Ty.offF, splice_zero]
      rw [List.drop_append_of_le_length (by omega), List.drop_of_length_le (by omega), hl]; simpa using h2
  | .acons x b, i + 1, v, c', _, a, cs, ns, ⟨ta, tb, h, h1, h2⟩, he, hs, hn => by
    subst h
    simp only [SV.setP, Option.map_eq_some_iff] at he
    obtain ⟨b', hb, hc⟩ := he
    subst hc
    have ih := CV.setP h2 hb hs hn
    have hl : (cs.take ta.size).length = ta.size := h1.length
    have hl' : ta.size ≤ cs.length := by simp at hl; omega
    refine ⟨ta, tb, rfl, ?_, ?_⟩
    · rw [Ty.offF, splice_drop hl', List.take_append_of_le_length (by omega), List.take_of_length_le (by omega)]; exact h1
    · rw [Ty.offF, splice_drop hl', List.drop_append_of_le_length (by omega), List.drop_of_length_le (by omega), List.nil_append]; exact ih
  | .d _ _, i, v, c', t, a, cs, ns, _, he, _, _ | .nil, i, v, c', t, a, cs, ns, _, he, _, _ | .ref _ _ _ _, i, v, c', t, a, cs, ns, _, he, _, _ | .ptr _ _, i, v, c', t, a, cs, ns, _, he, _, _ | .vp _ _, i, v, c', t, a, cs, ns, _, he, _, _ | .anil, i, v, c', t, a, cs, ns, _, he, _, _ => by
    simp [SV.setP] at he

theorem CV.setF {w : World} {om : Om} {M : Nat → Prop} {c v c' : SV} {i : Nat} {t a : Ty} {cs ns : List Value} (h : CV w om M t c cs) (he : c.setF i v = some c') (hs : t.subF i = some a) (hn : CV w om M a v ns) :
    CV w om M t c' (splice cs (t.offF i) ns) := by
  cases c with
  | d t' x =>
    obtain ⟨h0, hr⟩ := h
    subst h0
    cases v with
    | d a' y =>
      simp only [SV.setF] at he
      split at he
      · rename_i hq
        simp only [Option.some.injEq] at he
        subst he
        obtain ⟨h1, h2⟩ := hn
        subst h1
        exact ⟨rfl, hr.setF hs h2⟩
      · simp at he
    | nil => exact CV.setP (Rd.open hr) he hs hn
    | ref _ _ _ _ => exact CV.setP (Rd.open hr) he hs hn
    | ptr _ _ => exact CV.setP (Rd.open hr) he hs hn
    | vp _ _ => exact CV.setP (Rd.open hr) he hs hn
    | anil => exact CV.setP (Rd.open hr) he hs hn
    | acons _ _ => exact CV.setP (Rd.open hr) he hs hn
  | acons x y => exact CV.setP h (by cases v <;> simpa [SV.setF] using he) hs hn
  | _ => cases v <;> simp [SV.setF] at he

theorem CV.set1 {w : World} {om : Om} {M : Nat → Prop} {c v c' : SV} {s : Step} {t a : Ty} {cs ns : List Value} (h : CV w om M t c cs) (hk : t.ok1 s) (he : c.set1 s v = some c') (hs : t.sub1 s = some a) (hn : CV w om M a v ns) :
    CV w om M t c' (splice cs (t.off1 s) ns) := by
  cases s with
  | f i => exact CV.setF h (by cases c <;> simpa [SV.set1] using he) hs hn
  | ix i =>
    cases c with
    | d t' x =>
      obtain ⟨h0, hr⟩ := h
      subst h0
      cases t' with
      | arr n e =>
        cases v with
        | d a' y =>
          simp only [SV.set1] at he
          split at he
          · rename_i hq
            subst hq
            simp only [Option.some.injEq] at he
            subst he
            simp only [Ty.sub1, Option.some.injEq] at hs
            subst hs
            obtain ⟨ds, hd, hln, hl⟩ := hr
            subst hd
            have hk' : i < n := hk
            obtain ⟨_, hy⟩ := hn
            refine ⟨rfl, ds.set i y, by simp [D.list], by simpa using hln, ?_⟩
            have := ReadL.set (fun _ _ q => Rd.length q) i hl (by omega) hy
            simpa [splice, Ty.off1, hy.length] using this
          · simp at he
        | _ => simp [SV.set1] at he
      | _ => simp [SV.set1] at he
    | _ => simp [SV.set1] at he
  | win i m => cases c <;> simp [SV.set1] at he

theorem Ty.sub_size : ∀ {p : List Step} {t a : Ty}, t.okp p → t.sub p = some a → t.offs p + a.size ≤ t.size
  | [], t, a, _, q => by simp [Ty.sub] at q; subst q; simp [Ty.offs]
  | s :: p, t, a, hk, q => by
    simp only [Ty.sub, Option.bind_eq_some_iff] at q
    obtain ⟨b, hb, q2⟩ := q
    have hk2 : b.okp p := by have := hk.2; simpa [hb] using this
    have h5 := Ty.sub_size hk2 q2
    have h6 : t.off1 s + b.size ≤ t.size := by
      cases s with
      | f i =>
        have : ∀ (t : Ty) (i : Nat) (b : Ty), t.subF i = some b → t.offF i + b.size ≤ t.size := by
          intro t
          induction t with
          | cons u v _ ih2 =>
            intro i b hb
            cases i with
            | zero => simp [Ty.subF] at hb; subst hb; simp [Ty.offF, Ty.size]
            | succ i => have := ih2 i b hb; simp only [Ty.offF, Ty.size]; omega
          | _ => intro i b hb; simp [Ty.subF] at hb
        exact this t i b hb
      | ix i =>
        cases t with
        | arr n e =>
          simp only [Ty.sub1, Option.some.injEq] at hb
          subst hb
          have hk' : i < n := hk.1
          simp only [Ty.off1, Ty.size]
          rw [← Nat.succ_mul]
          exact Nat.mul_le_mul_right _ hk'
        | _ => simp [Ty.sub1] at hb
      | win i m =>
        cases t with
        | arr n e =>
          simp only [Ty.sub1, Option.some.injEq] at hb
          subst hb
          have hk' : i + m ≤ n := hk.1
          simp only [Ty.off1, Ty.size]
          rw [← Nat.add_mul]
          exact Nat.mul_le_mul_right _ hk'
        | _ => simp [Ty.sub1] at hb
    simp only [Ty.offs, hb, Option.map_some, Option.getD_some]; omega

theorem CV.put {w : World} {om : Om} {M : Nat → Prop} : ∀ {p : List Step} {c v c' : SV} {t a : Ty} {cs ns : List Value}, CV w om M t c cs → t.okp p → c.put p v = some c' → t.sub p = some a → CV w om M a v ns →
    CV w om M t c' (splice cs (t.offs p) ns)
  | [], c, v, c', t, a, cs, ns, h, _, he, hs, hn => by
    simp only [SV.put, Ty.sub, Option.some.injEq] at he hs
    subst he; subst hs
    have h1 := h.length
    have h2 := hn.length
    rw [Ty.offs, splice_zero, List.drop_of_length_le (by omega), List.append_nil]; exact hn
  | s :: p, c, v, c', t, a, cs, ns, h, hk, he, hs, hn => by
    simp only [SV.put, Option.bind_eq_some_iff] at he
    obtain ⟨u, h1, u', h2, h3⟩ := he
    obtain ⟨b, hb, hu, hle⟩ := CV.step1 h hk.1 h1
    have hk2 : b.okp p := by have := hk.2; simpa [hb] using this
    have hs2 : b.sub p = some a := by simpa [Ty.sub, hb] using hs
    have ih := CV.put hu hk2 h2 hs2 hn
    have := CV.set1 h hk.1 h3 hb ih
    have hcl := h.length
    have hle2 := Ty.sub_size hk2 hs2
    have hnl := hn.length
    rw [splice_splice (by omega) (by omega)] at this
    simpa [Ty.offs, hb] using this

theorem Ty.sub_snoc : ∀ {p : List Step} {t a : Ty} {s : Step}, t.sub p = some a → t.sub (p ++ [s]) = a.sub1 s
  | [], t, a, s, h => by
    simp only [Ty.sub, Option.some.injEq] at h
    subst h
    cases hs : t.sub1 s <;> simp [Ty.sub, hs]
  | s' :: p, t, a, s, h => by
    simp only [Ty.sub, Option.bind_eq_some_iff] at h
    obtain ⟨b, hb, h2⟩ := h
    simp only [List.cons_append, Ty.sub, hb, Option.bind_some]
    exact Ty.sub_snoc h2

theorem Ty.offs_snoc : ∀ {p : List Step} {t a : Ty} {s : Step}, t.sub p = some a → t.offs (p ++ [s]) = t.offs p + a.off1 s
  | [], t, a, s, h => by
    simp only [Ty.sub, Option.some.injEq] at h
    subst h
    cases hs : t.sub1 s <;> simp [Ty.offs, hs]
  | s' :: p, t, a, s, h => by
    simp only [Ty.sub, Option.bind_eq_some_iff] at h
    obtain ⟨b, hb, h2⟩ := h
    simp only [List.cons_append, Ty.offs, hb, Option.map_some, Option.getD_some]
    rw [Ty.offs_snoc h2, Nat.add_assoc]

theorem Ty.okp_snoc : ∀ {p : List Step} {t a : Ty} {s : Step}, t.sub p = some a → t.okp p → a.ok1 s → t.okp (p ++ [s])
  | [], t, a, s, h, _, k => by
    simp only [Ty.sub, Option.some.injEq] at h
    subst h
    refine ⟨k, ?_⟩
    cases hs : t.sub1 s <;> simp [Ty.okp]
  | s' :: p, t, a, s, h, k1, k => by
    simp only [Ty.sub, Option.bind_eq_some_iff] at h
    obtain ⟨b, hb, h2⟩ := h
    refine ⟨k1.1, ?_⟩
    simp only [hb, Option.map_some, Option.getD_some]
    exact Ty.okp_snoc h2 (by have := k1.2; simpa [hb] using this) k

end Go.SE
