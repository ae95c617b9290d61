/-
  The heap in separate parts, and walks over environments.
-/
import Derived.OrdersHeld
import Derived.Tactics
import Derived.KernelRfl
import Derived.Laws.Slices
import Derived.Laws.Strings
import Derived.Laws.Tables
import Derived.Laws.Cells
import Derived.Deep.AppendSrc
/- Heap resources as lists of separate assertions. -/
set_option linter.unusedVariables false
namespace Go.Rp
/-- What stays outside memory. -/
abbrev Glob := Os × (Nat → Question → Nat) × Array (Nat × ByteArray)
structure Hp where
  blk : Nat → Option Obj
  g : Glob
  d : Nat
instance : CoeFun Hp (fun _ => Nat → Option Obj) := ⟨Hp.blk⟩
def Hp.le (h g : Hp) : Prop := (∀ b o, h b = some o → g b = some o) ∧ h.g = g.g ∧ h.d ≤ g.d
def Hp.dj (h g : Hp) : Prop := (∀ b, h b = none ∨ g b = none) ∧ h.g = g.g
def Hp.un (h g : Hp) : Hp := ⟨fun b => match h b with | some o => some o | none => g b, h.g, max h.d g.d⟩
def Hp.emp (h : Hp) : Hp := ⟨fun _ => none, h.g, h.d⟩
abbrev HP := Hp → Prop
def Sep : List HP → Hp → Prop
  | [], _ => True
  | A :: L, h => ∃ h1 h2, Hp.dj h1 h2 ∧ Hp.le h1 h ∧ Hp.le h2 h ∧ A h1 ∧ Sep L h2
def hp (w : World) : Hp := ⟨fun b => w.heap[b]?, (w.os, w.tape, w.output), w.drawn⟩
def Own (L : List HP) (w : World) : Prop := Sep L (hp w)

theorem Hp.le_refl (h : Hp) : Hp.le h h := ⟨fun _ _ x => x, rfl, Nat.le_refl _⟩
theorem Hp.le_trans {f g h : Hp} (a : Hp.le f g) (b : Hp.le g h) : Hp.le f h := ⟨fun _ _ x => b.1 _ _ (a.1 _ _ x), a.2.1.trans b.2.1, Nat.le_trans a.2.2 b.2.2⟩
theorem Hp.dj_symm {h g : Hp} (a : Hp.dj h g) : Hp.dj g h := ⟨fun b => (a.1 b).symm, a.2.symm⟩
theorem Hp.le_un_left (h g : Hp) : Hp.le h (Hp.un h g) := ⟨fun b o x => (by simp [Hp.un, x]), rfl, Nat.le_max_left ..⟩
theorem Hp.le_un_right {h g : Hp} (d : Hp.dj h g) : Hp.le g (Hp.un h g) := ⟨fun b o x => (by
  rcases d.1 b with e | e
  · simp [Hp.un, e, x]
  · rw [e] at x; cases x), d.2.symm, Nat.le_max_right ..⟩
theorem Hp.un_le {h g f : Hp} (a : Hp.le h f) (b : Hp.le g f) : Hp.le (Hp.un h g) f := ⟨fun c o x => (by
  simp only [Hp.un] at x
  split at x
  · rename_i o' e; cases x; exact a.1 _ _ e
  · exact b.1 _ _ x), a.2.1, Nat.max_le.2 ⟨a.2.2, b.2.2⟩⟩
theorem Hp.dj_le {h g g' : Hp} (d : Hp.dj h g) (l : Hp.le g' g) : Hp.dj h g' := ⟨fun b => (by
  rcases d.1 b with e | e
  · exact .inl e
  · right
    cases x : g' b with
    | none => rfl
    | some o => rw [l.1 _ _ x] at e; cases e), d.2.trans l.2.1.symm⟩
theorem Hp.dj_un {h g g' : Hp} (d : Hp.dj h g) (d' : Hp.dj h g') : Hp.dj h (Hp.un g g') := ⟨fun b => (by
  rcases d.1 b with e | e
  · exact .inl e
  · rcases d'.1 b with e' | e'
    · exact .inl e'
    · right; simp [Hp.un, e, e']), d.2⟩
theorem Hp.emp_dj (h : Hp) : Hp.dj h.emp h := ⟨fun _ => .inl rfl, rfl⟩
theorem Hp.emp_le (h : Hp) : Hp.le h.emp h := ⟨fun _ _ e => (by cases e), rfl, Nat.le_refl _⟩

theorem Sep.mono : ∀ {L : List HP} {h g : Hp}, Hp.le h g → Sep L h → Sep L g
  | [], _, _, _, _ => trivial
  | _ :: _, _, _, l, ⟨h1, h2, d, a, b, x, y⟩ => ⟨h1, h2, d, Hp.le_trans a l, Hp.le_trans b l, x, y⟩
theorem Sep.swap {A B : HP} {L : List HP} {h : Hp} : Sep (A :: B :: L) h → Sep (B :: A :: L) h := by
  rintro ⟨h1, h2, d, a, b, x, h3, h4, d', a', b', x', y⟩
  have d13 : Hp.dj h1 h3 := Hp.dj_le d a'
  have d14 : Hp.dj h1 h4 := Hp.dj_le d b'
  exact ⟨h3, Hp.un h1 h4, Hp.dj_un (Hp.dj_symm d13) d', Hp.le_trans a' b, Hp.un_le a (Hp.le_trans b' b), x',
    h1, h4, d14, Hp.le_un_left _ _, Hp.le_un_right d14, x, y⟩
theorem Sep.imp {A B : HP} {L : List HP} {h : Hp} (i : ∀ h, A h → B h) : Sep (A :: L) h → Sep (B :: L) h := fun ⟨h1, h2, d, a, b, x, y⟩ => ⟨h1, h2, d, a, b, i _ x, y⟩
theorem Sep.tl {A : HP} {L : List HP} {h : Hp} : Sep (A :: L) h → Sep L h := fun ⟨_, _, _, _, b, _, y⟩ => Sep.mono b y
theorem Sep.under {A : HP} {L M : List HP} {h : Hp} (i : ∀ h, Sep L h → Sep M h) : Sep (A :: L) h → Sep (A :: M) h := fun ⟨h1, h2, d, a, b, x, y⟩ => ⟨h1, h2, d, a, b, x, i _ y⟩
theorem Sep.ex {α : Type} {A : α → HP} {L : List HP} {h : Hp} : Sep ((fun h => ∃ x, A x h) :: L) h ↔ ∃ x, Sep (A x :: L) h :=
  ⟨fun ⟨h1, h2, d, a, b, ⟨x, hx⟩, y⟩ => ⟨x, h1, h2, d, a, b, hx, y⟩, fun ⟨x, h1, h2, d, a, b, hx, y⟩ => ⟨h1, h2, d, a, b, ⟨x, hx⟩, y⟩⟩
theorem Sep.pure {p : Prop} {A : HP} {L : List HP} {h : Hp} : Sep ((fun h => p ∧ A h) :: L) h ↔ p ∧ Sep (A :: L) h :=
  ⟨fun ⟨h1, h2, d, a, b, ⟨x, hx⟩, y⟩ => ⟨x, h1, h2, d, a, b, hx, y⟩, fun ⟨x, h1, h2, d, a, b, hx, y⟩ => ⟨h1, h2, d, a, b, ⟨x, hx⟩, y⟩⟩
theorem Sep.flat : ∀ {L M : List HP} {h : Hp}, Sep (Sep L :: M) h ↔ Sep (L ++ M) h
  | [], M, h => ⟨fun x => x.tl, fun x => ⟨h.emp, h, h.emp_dj, h.emp_le, Hp.le_refl _, trivial, x⟩⟩
  | A :: L, M, h => by
    constructor
    · rintro ⟨h1, h2, d, a, b, ⟨h3, h4, d', a', b', x, y⟩, z⟩
      have d42 : Hp.dj h4 h2 := Hp.dj_symm (Hp.dj_le (Hp.dj_symm d) b')
      have d32 : Hp.dj h3 h2 := Hp.dj_symm (Hp.dj_le (Hp.dj_symm d) a')
      exact ⟨h3, Hp.un h4 h2, Hp.dj_un d' d32, Hp.le_trans a' a, Hp.un_le (Hp.le_trans b' a) b, x,
        Sep.flat.1 ⟨h4, h2, d42, Hp.le_un_left _ _, Hp.le_un_right d42, y, z⟩⟩
    · rintro ⟨h1, h2, d, a, b, x, y⟩
      obtain ⟨h3, h4, d', a', b', x', y'⟩ := Sep.flat.2 y
      have d13 : Hp.dj h1 h3 := Hp.dj_le d a'
      have d14 : Hp.dj h1 h4 := Hp.dj_le d b'
      exact ⟨Hp.un h1 h3, h4, Hp.dj_symm (Hp.dj_un (Hp.dj_symm d14) (Hp.dj_symm d')), Hp.un_le a (Hp.le_trans a' b), Hp.le_trans b' b,
        ⟨h1, h3, d13, Hp.le_un_left _ _, Hp.le_un_right d13, x, x'⟩, y'⟩

/-- What a list of resources says of whatever heap it stands in. -/
def Ent (L : List HP) (R : HP) : Prop := ∀ h, Sep L h → R h
/-- From one list to another, in whatever heap. -/
class Wk (L M : List HP) : Prop where out : ∀ h, Sep L h → Sep M h
class Tk (A : HP) (L : List HP) (M : outParam (List HP)) : Prop where out : ∀ h, Sep L h → Sep (A :: M) h
instance Tk.hd {A : HP} {L : List HP} : Tk A (A :: L) L := ⟨fun _ x => x⟩
instance (priority := low) Tk.tk {A B : HP} {L M : List HP} [t : Tk A L M] : Tk A (B :: L) (B :: M) := ⟨fun _ x => Sep.swap (Sep.under t.out x)⟩
instance (priority := high) Wk.refl {L : List HP} : Wk L L := ⟨fun _ x => x⟩
instance Wk.nil {L : List HP} : Wk L [] := ⟨fun _ _ => trivial⟩
instance Wk.cons {A : HP} {L M L1 : List HP} [t : Tk A L L1] [s : Wk L1 M] : Wk L (A :: M) := ⟨fun _ x => Sep.under s.out (t.out _ x)⟩
instance (priority := low) Wk.drop {A : HP} {L M : List HP} [s : Wk L M] : Wk (A :: L) M := ⟨fun _ x => s.out _ x.tl⟩
theorem Own.wk {L M : List HP} {w : World} (H : Own L w) [s : Wk L M] : Own M w := s.out _ H
theorem Own.ent {L : List HP} {R : HP} {w : World} (H : Own L w) (e : Ent L R) : R (hp w) := e _ H
theorem Ent.up {L M : List HP} {R : HP} (e : Ent M R) [s : Wk L M] : Ent L R := fun h x => e h (s.out h x)
/-- Take a resource by its word and its key to the front. -/
class TkR {κ α : Type} (R : κ → α → HP) (k : κ) (L : List HP) (x : outParam α) (M : outParam (List HP)) : Prop where out : ∀ h, Sep L h → Sep (R k x :: M) h
instance TkR.hd {κ α : Type} {R : κ → α → HP} {k : κ} {x : α} {L : List HP} : TkR R k (R k x :: L) x L := ⟨fun _ y => y⟩
instance (priority := low) TkR.tk {κ α : Type} {R : κ → α → HP} {k : κ} {x : α} {B : HP} {L M : List HP} [t : TkR R k L x M] : TkR R k (B :: L) x (B :: M) := ⟨fun _ y => Sep.swap (Sep.under t.out y)⟩

/-- Block b holds just this. -/
def Bk (b : Nat) (o : Obj) : HP := fun h => h b = some o
/-- Block b is a row of cells, none of them frozen. -/
def Ce (b : Nat) (x : List Value × TypeId) : HP := fun h => h b = some (.cells x.1.toArray x.2 (0, 0))

theorem Own.bk {b : Nat} {o : Obj} {L : List HP} {w : World} (H : Own (Bk b o :: L) w) : w.heap[b]? = some o := by
  obtain ⟨h1, h2, d, a, c, x, y⟩ := H
  exact a.1 _ _ x
theorem Own.turn {A B : HP} {L : List HP} {w w' : World} (b : Nat) (hA : ∀ h, A h → ∃ o, h b = some o) (o' : Obj)
    (hB : ∀ h, A h → ∀ h' : Hp, (∀ c, c ≠ b → h' c = h c) → h' b = some o' → B h')
    (h1 : w'.heap[b]? = some o') (h2 : ∀ c, c ≠ b → w'.heap[c]? = w.heap[c]?) (h3 : (hp w').g = (hp w).g) (h4 : w.drawn ≤ w'.drawn) (H : Own (A :: L) w) : Own (B :: L) w' := by
  obtain ⟨g1, g2, d, a, c, x, y⟩ := H
  obtain ⟨o, ho⟩ := hA _ x
  have hb2 : g2 b = none := by rcases d.1 b with e | e; · rw [ho] at e; cases e
                               · exact e
  refine ⟨⟨fun c => if c = b then some o' else g1 c, g1.g, g1.d⟩, g2, ⟨?_, d.2⟩, ⟨?_, a.2.1.trans h3.symm, Nat.le_trans a.2.2 h4⟩, ⟨?_, c.2.1.trans h3.symm, Nat.le_trans c.2.2 h4⟩, hB _ x _ (fun c hc => by simp [hc]) (by simp), y⟩
  · intro c
    by_cases hc : c = b
    · subst hc; exact .inr hb2
    · simpa [hc] using d.1 c
  · intro c o2 e
    by_cases hc : c = b
    · subst hc; simp at e; subst e; exact h1
    · simp [hc] at e
      show w'.heap[c]? = some o2
      rw [h2 c hc]; exact a.1 _ _ e
  · intro c' o2 e
    have hc : c' ≠ b := fun h => by subst h; rw [hb2] at e; cases e
    show w'.heap[c']? = some o2
    rw [h2 c' hc]; exact c.1 _ _ e
theorem Own.new {B : HP} {L : List HP} {w : World} (o : Obj) (hB : ∀ h : Hp, h w.heap.size = some o → B h) (H : Own L w) : Own (B :: L) { w with heap := w.heap.push o } := by
  refine ⟨⟨fun c => if c = w.heap.size then some o else none, (hp w).g, w.drawn⟩, hp w, ⟨?_, rfl⟩, ⟨?_, rfl, Nat.le_refl _⟩, ⟨?_, rfl, Nat.le_refl _⟩, hB _ (by simp), H⟩
  · intro c
    by_cases hc : c = w.heap.size
    · right; subst hc; simp [hp]
    · left; simp [hc]
  · intro c o2 e
    by_cases hc : c = w.heap.size
    · subst hc; simp at e; subst e; simp [hp]
    · simp [hc] at e
  · intro c o2 e
    have : c < w.heap.size := by
      rcases Nat.lt_or_ge c w.heap.size with h | h
      · exact h
      · simp [hp, Array.getElem?_eq_none h] at e
    have e' : w.heap[c]? = some o2 := e
    show (w.heap.push o)[c]? = some o2
    rw [Array.getElem?_push_lt this]
    rw [Array.getElem?_eq_getElem this] at e'
    exact e'
theorem Own.ext {L : List HP} {w w' : World} (h1 : ∀ b, b < w.heap.size → w'.heap[b]? = w.heap[b]?) (h2 : (hp w').g = (hp w).g) (h3 : w.drawn ≤ w'.drawn) (H : Own L w) : Own L w' :=
  Sep.mono ⟨fun b o e => (by
    have hb : b < w.heap.size := by
      rcases Nat.lt_or_ge b w.heap.size with h | h
      · exact h
      · have e' : w.heap[b]? = some o := e
        rw [Array.getElem?_eq_none h] at e'; cases e'
    exact (h1 b hb).trans e), h2.symm, h3⟩ H
theorem Own.drew {L : List HP} {w : World} (H : Own L w) : Own L w.drew := Own.ext (w := w) (w' := w.drew) (fun _ _ => rfl) rfl (Nat.le_succ _) H
/-- What an empty heap meets. -/
theorem Own.triv {A : HP} {L : List HP} {w : World} (hA : ∀ h : Hp, A h.emp) (H : Own L w) : Own (A :: L) w := ⟨(hp w).emp, hp w, Hp.emp_dj _, Hp.emp_le _, Hp.le_refl _, hA _, H⟩
/-- What stays. -/
def Gl (g : Glob) : HP := fun h => h.g = g
theorem Own.gl {g : Glob} {L : List HP} {w : World} (H : Own (Gl g :: L) w) : (hp w).g = g := by
  obtain ⟨h1, h2, d, a, c, x, y⟩ := H
  exact a.2.1.symm.trans x
theorem Own.glNew {L : List HP} {w : World} (H : Own L w) : Own (Gl (hp w).g :: L) w := ⟨(hp w).emp, hp w, Hp.emp_dj _, Hp.emp_le _, Hp.le_refl _, rfl, H⟩
/-- All that was there. -/
def Old (w : World) : HP := fun h => (h.g = (hp w).g ∧ w.drawn ≤ h.d) ∧ ∀ b, b < w.heap.size → h b = w.heap[b]?
theorem Own.old (w : World) : Own [Old w] w := ⟨hp w, (hp w).emp, Hp.dj_symm (Hp.emp_dj _), Hp.le_refl _, Hp.emp_le _, ⟨⟨rfl, Nat.le_refl _⟩, fun _ _ => rfl⟩, trivial⟩
theorem Own.oldG {w0 w : World} {L : List HP} (H : Own (Old w0 :: L) w) : ((hp w).g = (hp w0).g ∧ w0.drawn ≤ w.drawn) ∧ w0.heap.size ≤ w.heap.size ∧ ∀ b, b < w0.heap.size → w.heap[b]? = w0.heap[b]? := by
  obtain ⟨h1, h2, d, a, c, x, y⟩ := H
  have key : ∀ b, b < w0.heap.size → w.heap[b]? = w0.heap[b]? := fun b hb => by
    have e := x.2 b hb
    rw [Array.getElem?_eq_getElem hb] at e ⊢
    exact a.1 _ _ e
  refine ⟨⟨a.2.1.symm.trans x.1.1, Nat.le_trans x.1.2 a.2.2⟩, ?_, key⟩
  rcases Nat.lt_or_ge w.heap.size w0.heap.size with h | h
  · have := key _ h
    rw [Array.getElem?_eq_getElem h] at this
    simp at this
  · exact h
end Go.Rp
/- A walk over environments: slots with their values, one operation at a time. -/
set_option linter.unusedVariables false
namespace Go.Rp
abbrev Env := List (Nat × Value)
def look : Env → Nat → Option Value
  | [], _ => none
  | (i, v) :: r, j => if i = j then some v else look r j
def put (N : Nat) (env : Env) (d : Option Tmp) (v : Value) : Env :=
  match d with
  | none => env
  | some d => if d < N then (d, v) :: env else env
def St (N : Nat) (env : Env) (a : Act) : Prop := a.defers = [] ∧ a.tmps.size = N ∧ ∀ i v, look env i = some v → a.tmps[i]? = some v
def ev (env : Env) : Operand → Value
  | .tmp t => (look env t).getD undef
  | .const v => v
  | .global g => .pointer (some ⟨g, 0, none⟩)
  | .func f => .func (.func f) #[] #[]
def kn (env : Env) : Operand → Prop
  | .tmp t => (look env t).isSome = true
  | _ => True
def kns (env : Env) : List Operand → Prop
  | [] => True
  | x :: l => kn env x ∧ kns env l

theorem St.put {N : Nat} {env : Env} {a : Act} (h : St N env a) (d : Option Tmp) (v : Value) : St N (put N env d v) (a.put d v) := by
  obtain ⟨h1, h2, h3⟩ := h
  cases d with
  | none => exact ⟨h1, h2, h3⟩
  | some d =>
    refine ⟨h1, by simp [Act.put, h2], fun i u hl => ?_⟩
    by_cases hd : d < N
    · simp only [Rp.put, hd, if_true, look] at hl
      by_cases hi : d = i
      · subst hi; simp only [if_true] at hl; cases hl
        simp [Act.put, h2, hd]
      · simp only [hi, if_false] at hl
        simp only [Act.put]
        rw [Array.getElem?_setIfInBounds_ne hi]; exact h3 _ _ hl
    · simp only [Rp.put, hd, if_false] at hl
      simp only [Act.put]
      by_cases hi : d = i
      · subst hi
        have := h3 _ _ hl
        have hn : a.tmps[d]? = none := Array.getElem?_eq_none (by rw [h2]; exact Nat.le_of_not_lt hd)
        rw [hn] at this; cases this
      · rw [Array.getElem?_setIfInBounds_ne hi]; exact h3 _ _ hl
theorem St.ev {N : Nat} {env : Env} {a : Act} (h : St N env a) {x : Operand} (hx : kn env x) : a.eval x = ev env x := by
  cases x with
  | tmp t =>
    unfold kn at hx
    obtain ⟨v, hv⟩ := Option.isSome_iff_exists.1 hx
    simp [Act.eval, Rp.ev, hv, h.2.2 _ _ hv]
  | _ => rfl
theorem kns_mem {env : Env} : ∀ {l : List Operand}, kns env l → ∀ x ∈ l, kn env x
  | [], _, _, h => by cases h
  | _ :: _, ⟨a, b⟩, x, h => by cases h with | head => exact a | tail _ h => exact kns_mem b x h
/-- The call returns, and this holds of the value and the world behind it. -/
def Cl (P : Program) (f : FuncId) (args : Array Value) (w : World) (Q : Value → World → Prop) : Prop :=
  Calls P f args w fun e w' => match e with | .returned v => Q v w' | _ => False
theorem Cl.mono {P : Program} {f : FuncId} {args : Array Value} {w : World} {Q Q' : Value → World → Prop} (h : Cl P f args w Q) (i : ∀ v w', Q v w' → Q' v w') : Cl P f args w Q' :=
  Calls.mono h fun e w' q => by cases e <;> first | exact i _ _ q | exact q
/-- One operation that is no select. -/
def ow (P : Program) (N : Nat) (o : Oper) (env : Env) (w : World) (K : Env → World → Prop) : Prop :=
  kns env o.op.operands.toList ∧ (∀ cs b, o.op ≠ .select cs b) ∧
  match (execOp (ev env) o).run P w with
  | .ok (.value v) w' => K (put N env o.dst v) w'
  | .ok .skip w' => K (put N env o.dst undef) w'
  | .ok (.enter f args) w' => Cl P f args w' fun v w'' => K (put N env o.dst v) w''
  | _ => False
/-- What is asked of the acts behind: some environment that they meet. -/
def up (N : Nat) (QE : Exit → Env → World → Prop) : Exit → Act → World → Prop := fun e a w => ∃ env, St N env a ∧ QE e env w
theorem ow_sound {P : Program} {N : Nat} {o : Oper} {env : Env} {w : World} {K : Env → World → Prop} {K' : Act → World → Prop} {Q : Exit → Act → World → Prop} {a : Act}
    (hs : St N env a) (h : ow P N o env w K) (hK : ∀ env a w, St N env a → K env w → K' a w) : o.wp P a w K' Q := by
  obtain ⟨h1, h2, h3⟩ := h
  unfold Oper.wp
  rw [execOp_congr (ρ' := ev env) o h2 (fun x hx => hs.ev (kns_mem h1 x (by simpa using hx)))]
  generalize (execOp (ev env) o).run P w = r at *
  cases r with
  | ok n w' =>
    cases n <;> simp only at h3 <;> simp only [Oper.upon]
    case value v => exact hK _ _ _ (hs.put _ _) h3
    case skip => exact hK _ _ _ (hs.put _ _) h3
    case enter f args =>
      refine Calls.mono h3 fun e w'' q => ?_
      cases e with
      | returned v => exact hK _ _ _ (hs.put _ _) q
      | panicked c => exact q.elim
      | outgrown => exact q.elim
  | halt x w' => simp only at h3
/-- A list of operations, over environments. -/
def lq (P : Program) (N : Nat) (ops : Array Oper) (l : List Oper) (env : Env) (w : World) (K : Env → World → Prop) : Prop :=
  ∀ Q : Exit → Act → World → Prop, (∀ env a w, St N env a → K env w → Q .normal a w) → ∀ a, St N env a → wpList P ops Q l a w
theorem lq_nil {P : Program} {N : Nat} {ops : Array Oper} {env : Env} {w : World} {K : Env → World → Prop} (h : K env w) : lq P N ops [] env w K :=
  fun Q hK a hs => hK _ _ _ hs h
theorem lq_op {P : Program} {N : Nat} {ops : Array Oper} {o : Oper} {r : List Oper} {env : Env} {w : World} {K : Env → World → Prop} (hg : o.guard = none)
    (h : ow P N o env w fun env' w' => lq P N ops r env' w' K) : lq P N ops (o :: r) env w K := by
  intro Q hK a hs
  unfold wpList
  rw [if_pos (by simp [Region.wanted, hg])]
  exact .inl (ow_sound hs h fun env' a' w' hs' h' => h' Q hK a' hs')

/-- Code, over environments. -/
def cw (P : Program) (N : Nat) (c : Code) (env : Env) (w : World) (QE : Exit → Env → World → Prop) : Prop := ∀ a, St N env a → c.wp P (up N QE) a w
def thenE (K : Env → World → Prop) (QE : Exit → Env → World → Prop) : Exit → Env → World → Prop
  | .normal, env, w => K env w
  | e, env, w => QE e env w
def inE (id : Nat) (QE : Exit → Env → World → Prop) : Exit → Env → World → Prop
  | .exit id', env, w => if id' = id then QE .normal env w else QE (.exit id') env w
  | e, env, w => QE e env w
section
variable {P : Program} {N : Nat} {env : Env} {w : World} {QE : Exit → Env → World → Prop}
theorem cw_region {id : Nat} {l : List Oper} (h : lq P N l.toArray l env w (QE .normal)) : cw P N (.region id l.toArray false) env w QE :=
  fun a hs => wp_region_lit (h _ (fun env' a' w' hs' h' => ⟨env', hs', h'⟩) a hs)
theorem cw_seq {x y : Code} (h : ∀ K : Env → World → Prop, (∀ env w, cw P N y env w QE → K env w) → cw P N x env w (thenE K QE)) : cw P N (.seq x y) env w QE := by
  intro a hs
  refine wp_seq (wp_mono (h (fun env w => cw P N y env w QE) (fun _ _ h => h) a hs) ?_)
  rintro e a' w' ⟨env', hs', h'⟩
  cases e <;> first | exact h' _ hs' | exact ⟨env', hs', h'⟩
theorem cw_skip (h : QE .normal env w) : cw P N .skip env w QE := fun a hs => wp_skip ⟨env, hs, h⟩
theorem cw_exit {id : Nat} (h : QE (.exit id) env w) : cw P N (.exit id) env w QE := fun a hs => wp_exit ⟨env, hs, h⟩
theorem cw_ret (h : QE .ret env w) : cw P N .ret env w QE := fun a hs => wp_ret ⟨env, hs, h⟩
theorem cw_block {id : Nat} {c : Code} (h : cw P N c env w (inE id QE)) : cw P N (.block id c) env w QE := by
  intro a hs
  refine wp_block (wp_mono (h a hs) ?_)
  rintro e a' w' ⟨env', hs', h'⟩
  cases e <;> first | exact ⟨env', hs', h'⟩ | skip
  rename_i id'
  simp only [inE] at h'
  simp only [Exit.inBlock]
  split
  · rename_i e; rw [if_pos e] at h'; exact ⟨env', hs', h'⟩
  · rename_i e; rw [if_neg e] at h'; exact ⟨env', hs', h'⟩
theorem cw_cond {c : Operand} {x y : Code} {b : Bool} (hk : kn env c) (hc : ev env c = .bool b) (ht : b = true → cw P N x env w QE) (hf : b = false → cw P N y env w QE) : cw P N (.cond c x y) env w QE :=
  fun a hs => wp_cond_split (by rw [hs.ev hk, hc]) (fun e => ht e a hs) (fun e => hf e a hs)
/-- A wider environment serves. -/
def sube : Env → Env → Prop
  | [], _ => True
  | (i, v) :: r, env => look env i = some v ∧ sube r env
theorem look_sube {env' : Env} : ∀ {env : Env}, sube env' env → ∀ {i v}, look env' i = some v → look env i = some v := by
  induction env' with
  | nil => intro env _ i v h; cases h
  | cons p r ih =>
    intro env ⟨h1, h2⟩ i v h
    obtain ⟨j, u⟩ := p
    unfold look at h
    split at h
    · rename_i e; subst e; cases h; exact h1
    · exact ih h2 h
theorem St.sub {env' : Env} {a : Act} (h : sube env' env) (hs : St N env a) : St N env' a := ⟨hs.1, hs.2.1, fun i v hl => hs.2.2 i v (look_sube h hl)⟩
theorem cw_sub {c : Code} {env' : Env} (hs : sube env' env) (h : cw P N c env' w QE) : cw P N c env w QE := fun a ha => h a (ha.sub hs)
/-- A loop: what holds at its head, over some data. -/
theorem cw_loop {c : Code} {X : Type} (E : X → Env) (Φ : X → World → Prop) (μ : X → Nat) (x0 : X) (h0 : sube (E x0) env) (hΦ : Φ x0 w)
    (round : ∀ x w, Φ x w → cw P N c (E x) w (thenE (fun env' w' => ∃ x', sube (E x') env' ∧ Φ x' w' ∧ μ x' < μ x) QE)) : cw P N (.loop c) env w QE := by
  intro a hs b k cs
  have key : ∀ n (x : X) a w, μ x = n → St N (E x) a → Φ x w →
      ∃ e a' w', up N QE e a' w' ∧ Arrives P (lone (b.at a (.code c :: .inLoop c :: k)) cs w) b k cs e a' w' := by
    intro n
    induction n using Nat.strongRecOn with
    | _ n ih =>
      intro x a w hn ha hx
      obtain ⟨e, a₁, w₁, ⟨env1, hs1, hq⟩, harr⟩ := round x w hx a ha b (.inLoop c :: k) cs
      cases e with
      | normal =>
        obtain ⟨x', hsub, hx', hlt⟩ := hq
        obtain ⟨e₂, a₂, w₂, hq₂, harr₂⟩ := ih (μ x') (hn ▸ hlt) x' a₁ w₁ rfl (hs1.sub hsub) hx'
        exact ⟨e₂, a₂, w₂, hq₂, .of_steps (Steps.trans harr (.one step_inLoop)) harr₂⟩
      | exit id => exact ⟨_, a₁, w₁, ⟨env1, hs1, hq⟩, .pass (x := .inLoop c) rfl (fun _ _ => .inl (by simp)) harr⟩
      | goto l => exact ⟨_, a₁, w₁, ⟨env1, hs1, hq⟩, .pass (x := .inLoop c) rfl (fun _ _ => .inl (by simp)) harr⟩
      | ret => exact ⟨_, a₁, w₁, ⟨env1, hs1, hq⟩, .pass (x := .inLoop c) rfl (fun _ _ => .inl (by simp)) harr⟩
      | panic ch => exact ⟨_, a₁, w₁, ⟨env1, hs1, hq⟩, .pass (x := .inLoop c) rfl (fun _ _ => .inl (by simp)) harr⟩
      | outgrown => exact ⟨_, a₁, w₁, ⟨env1, hs1, hq⟩, .pass (x := .inLoop c) rfl (fun _ _ => .inl (by simp)) harr⟩
  obtain ⟨e, a', w', hq, harr⟩ := key _ x0 a w rfl (hs.sub h0) hΦ
  exact ⟨e, a', w', hq, .of_steps (.one step_loop) harr⟩
end
end Go.Rp
/- Operations that touch no memory, worked out on environments. -/
set_option linter.unusedVariables false
namespace Go.Rp
def AG (P : Program) (t : TypeId) : Option Bool := (P.underlying t).map fun d => match d with | .struct _ | .array _ _ => true | _ => false
def SZ (P : Program) (t : TypeId) : Option Nat := (P.info? t).map (·.size)
def BY (P : Program) (t : TypeId) : Option Nat := (P.info? t).map (·.bytes)
def ZV (P : Program) (t : TypeId) : Option Value := (P.info? t).bind (·.zero)
def SE (P : Program) (t : TypeId) : Option TypeId := (P.underlying t).bind fun d => match d with | .slice e => some e | _ => none
def IKn (P : Program) (t : TypeId) : Option IntKind := (P.underlying t).bind fun d => match d with | .int k => some k | _ => none
/-- Where a field lies (one that takes a cell at least). -/
def FO (P : Program) (s : TypeId) (i : Nat) : Option Nat :=
  match P.underlying s with
  | some (.struct fs) => match fs[i]? with
    | some f => match P.info? f.type with
      | some inf => if inf.size = 0 then none else some f.offset
      | none => none
    | none => none
  | _ => none
/-- A field of a struct that is a value: its place, its size, is it an aggregate. -/
def FP (P : Program) (s : TypeId) (i : Nat) : Option (Nat × Nat × Bool) :=
  match P.underlying s with
  | some (.struct fs) => match fs[i]? with
    | some f => match P.info? f.type, AG P f.type with
      | some inf, some b => some (f.offset, inf.size, b)
      | _, _ => none
    | none => none
  | _ => none
def partV (cs : List Value) : Nat × Nat × Bool → Option Value
  | (off, n, true) => some (.agg ((cs.drop off).take n).toArray)
  | (off, _, false) => cs[off]?
/-- What len is asked of: 0 a text, 1 a slice. -/
def LK (P : Program) (t : TypeId) : Option Nat := (P.underlying t).bind fun d => match d with | .string => some 0 | .slice _ => some 1 | _ => none
/-- A struct's zero cells, and where its fields lie with their sizes. -/
def BU (P : Program) (t : TypeId) : Option (List Value × List (Nat × Nat)) :=
  match P.info? t, P.underlying t with
  | some it, some (.struct fields) =>
    match it.zero, fields.toList.mapM (fun f => (P.info? f.type).map fun i => (f.offset, i.size)) with
    | some z, some places => some (z.cells.toList, places)
    | _, _ => none
  | _, _ => none
def setR : List Value → Nat → List Value → List Value
  | l, _, [] => l
  | l, i, v :: vs => setR (l.set i v) (i + 1) vs
def fillL (pl : List (Nat × Nat)) : List Value → List Nat → List Value → Option (List Value)
  | cs, [], [] => some cs
  | cs, i :: is, v :: vs => match pl[i]? with
    | some (off, sz) => if v.cells.toList.length = sz ∧ off + sz ≤ cs.length then fillL pl (setR cs off v.cells.toList) is vs else none
    | none => none
  | _, _, _ => none
theorem setR_length : ∀ (l : List Value) (i : Nat) (vs : List Value), (setR l i vs).length = l.length
  | _, _, [] => rfl
  | l, i, v :: vs => by simp [setR, setR_length]
theorem setR_foldl : ∀ (vs : List Value) (l : List Value) (off j : Nat), setR l (off + j) vs = ((vs.zipIdx j).foldl (fun (cs : Array Value) (p : Value × Nat) => cs.setIfInBounds (off + p.2) p.1) l.toArray).toList
  | [], _, _, _ => rfl
  | v :: vs, l, off, j => by
    simp only [setR, List.zipIdx_cons, List.foldl_cons]
    rw [Nat.add_assoc, setR_foldl vs (l.set (off + j) v) off (j + 1)]
    simp
theorem fillL_spec {pl : List (Nat × Nat)} : ∀ (is : List Nat) (vs cs r : List Value), fillL pl cs is vs = some r → Instr.fill (pl.toArray[·]?) cs.toArray (is.zip vs) = some r.toArray
  | [], [], cs, r, h => by simp only [fillL] at h; cases h; rfl
  | i :: is, v :: vs, cs, r, h => by
    simp only [fillL] at h
    split at h
    · rename_i off sz hp
      split at h
      · rename_i hc
        obtain ⟨h1, h2⟩ := hc
        have e1 : v.cells.size = sz := by simpa using h1
        simp only [List.zip_cons_cons, Instr.fill, List.getElem?_toArray, hp]
        rw [if_neg (by simp [e1]; omega)]
        have := fillL_spec is vs _ r h
        simp only [List.getElem?_toArray] at this
        rw [← this]
        congr 1
        rw [← Array.toList_inj]
        have e2 := setR_foldl v.cells.toList cs off 0
        rw [Nat.add_zero] at e2
        rw [List.toList_toArray, e2, ← Array.foldl_toList]
        simp [Array.toList_zipIdx]
      · cases h
    · cases h
  | [], _ :: _, _, _, h => by simp [fillL] at h
  | _ :: _, [], _, _, h => by simp [fillL] at h
/-- Less, on texts. -/
def sless (a b : ByteArray) : Bool := Op.bytesLess a.data.toList b.data.toList
def binV (op : BinOp) (x y : Value) : Option Value :=
  match op, x, y with
  | .add, .int k a, .int j b => if k = j then some (.int k (k.wrap (a + b))) else none
  | .sub, .int k a, .int j b => if k = j then some (.int k (k.wrap (a - b))) else none
  | .mul, .int k a, .int j b => if k = j then some (.int k (k.wrap (a * b))) else none
  | .and, .int k a, .int j b => if k = j then some (.int k (bits .and k a b)) else none
  | .or, .int k a, .int j b => if k = j then some (.int k (bits .or k a b)) else none
  | .xor, .int k a, .int j b => if k = j then some (.int k (bits .xor k a b)) else none
  | .eql, .int k a, .int j b => if k = j then some (.bool (decide (a = b))) else none
  | .neq, .int k a, .int j b => if k = j then some (.bool (decide (a ≠ b))) else none
  | .lss, .int k a, .int j b => if k = j then some (.bool (decide (a < b))) else none
  | .leq, .int k a, .int j b => if k = j then some (.bool (decide (a ≤ b))) else none
  | .gtr, .int k a, .int j b => if k = j then some (.bool (decide (b < a))) else none
  | .geq, .int k a, .int j b => if k = j then some (.bool (decide (b ≤ a))) else none
  | .rem, .int k a, .int j b => if k = j then (if b = 0 then none else some (.int k (a.tmod b))) else none
  | .quo, .int k a, .int j b => if k = j then (if b = 0 then none else some (.int k (k.wrap (a.tdiv b)))) else none
  | .shl, .int k a, .int _ b => if b < 0 then none else some (.int k (k.wrap (a * 2 ^ (min b.toNat k.bits))))
  | .shr, .int k a, .int _ b => if b < 0 then none else some (.int k (a.fdiv (2 ^ (min b.toNat k.bits))))
  | .eql, .string a, .string b => some (.bool (decide (a = b)))
  | .neq, .string a, .string b => some (.bool (decide (a ≠ b)))
  | .lss, .string a, .string b => some (.bool (sless a b))
  | .leq, .string a, .string b => some (.bool (!sless b a))
  | .gtr, .string a, .string b => some (.bool (sless b a))
  | .geq, .string a, .string b => some (.bool (!sless a b))
  | .add, .string a, .string b => if a.size + b.size ≤ 9223372036854775807 then some (.string (a ++ b)) else none
  | _, _, _ => none
def orV : Option Value → Option Value → Option Value
  | some v, _ => some v
  | none, y => y
/-- 0: a bool; 2: a pointer; 3: a slice; 4: a map; 5: a func. -/
def KD (P : Program) (t : TypeId) : Option Nat := (P.underlying t).bind fun d => match d with | .bool => some 0 | .pointer _ => some 2 | .slice _ => some 3 | .map _ _ => some 4 | .func _ _ _ => some 5 | _ => none
/-- Equality of bools, and with nil. -/
def nilV (P : Program) (op : BinOp) (t : TypeId) (x y : Value) : Option Value :=
  match op, x, y with
  | .eql, .bool a, .bool b => if KD P t = some 0 then some (.bool (a == b)) else none
  | .neq, .bool a, .bool b => if KD P t = some 0 then some (.bool (!(a == b))) else none
  | .eql, .pointer a, .pointer none => if KD P t = some 2 then some (.bool a.isNone) else none
  | .neq, .pointer a, .pointer none => if KD P t = some 2 then some (.bool (!a.isNone)) else none
  | .eql, .slice a _ _, .slice none 0 0 => if KD P t = some 3 then some (.bool a.isNone) else none
  | .neq, .slice a _ _, .slice none 0 0 => if KD P t = some 3 then some (.bool (!a.isNone)) else none
  | .eql, .map a, .map none => if KD P t = some 4 then some (.bool a.isNone) else none
  | .neq, .map a, .map none => if KD P t = some 4 then some (.bool (!a.isNone)) else none
  | _, _, _ => none
theorem eql_bool {P : Program} {t : TypeId} (hd : P.underlying t = some .bool) (a b : Bool) (w : World) : (Op.equal t (.bool a) (.bool b)).run P w = .ok (a == b) w := by
  show (Op.equalIn (9999 + 1) t _ _).run P w = _
  unfold Op.equalIn
  rw [Sem.run_bind, run_underlying hd]; rfl
theorem eql_ptr {P : Program} {t e : TypeId} (hd : P.underlying t = some (.pointer e)) (a : Option Addr) (w : World) : (Op.equal t (.pointer a) (.pointer none)).run P w = .ok a.isNone w := by
  show (Op.equalIn (9999 + 1) t _ _).run P w = _
  unfold Op.equalIn
  rw [Sem.run_bind, run_underlying hd]
  cases a <;> rfl
theorem eql_slice {P : Program} {t e : TypeId} (hd : P.underlying t = some (.slice e)) (a : Option Addr) (n c : Nat) (w : World) : (Op.equal t (.slice a n c) (.slice none 0 0)).run P w = .ok a.isNone w := by
  show (Op.equalIn (9999 + 1) t _ _).run P w = _
  unfold Op.equalIn
  rw [Sem.run_bind, run_underlying hd]
  cases a <;> rfl
theorem eql_map {P : Program} {t k e : TypeId} (hd : P.underlying t = some (.map k e)) (a : Option Nat) (w : World) : (Op.equal t (.map a) (.map none)).run P w = .ok a.isNone w := by
  show (Op.equalIn (9999 + 1) t _ _).run P w = _
  unfold Op.equalIn
  rw [Sem.run_bind, run_underlying hd]
  cases a <;> rfl
theorem binOp_eql {P : Program} {t : TypeId} {x y : Value} {b : Bool} {w : World} (h : (Op.equal t x y).run P w = .ok b w) : ((do pure (.bool (← Op.equal t x y)) : Sem Value)).run P w = .ok (.bool b) w := by
  rw [Sem.run_bind, h]; rfl
theorem binOp_neq {P : Program} {t : TypeId} {x y : Value} {b : Bool} {w : World} (h : (Op.equal t x y).run P w = .ok b w) : ((do pure (.bool (!(← Op.equal t x y))) : Sem Value)).run P w = .ok (.bool (!b)) w := by
  rw [Sem.run_bind, h]; rfl
theorem nilV_sound {P : Program} {op : BinOp} {t : TypeId} {x y v : Value} (h : nilV P op t x y = some v) (w : World) : (binOp op t x y).run P w = .ok v w ∧ ∀ ox oy, eqGuard op t ox oy x y = pure () := by
  unfold nilV KD at h
  split at h
  all_goals first | (cases h; done) | skip
  all_goals
    split at h
    · rename_i hk
      cases h
      obtain ⟨d, hd, hk⟩ := Option.bind_eq_some_iff.1 hk
      cases d <;> first | (cases hk; done) | skip
      refine ⟨?_, fun ox oy => rfl⟩
      first
        | exact binOp_eql (eql_bool hd _ _ w)
        | exact binOp_neq (eql_bool hd _ _ w)
        | exact binOp_eql (eql_ptr hd _ w)
        | exact binOp_neq (eql_ptr hd _ w)
        | exact binOp_eql (eql_slice hd _ _ _ w)
        | exact binOp_neq (eql_slice hd _ _ _ w)
        | exact binOp_eql (eql_map hd _ w)
        | exact binOp_neq (eql_map hd _ w)
    · cases h
theorem bytesLess_total : ∀ x y : List UInt8, (Op.bytesLess x y || x == y) = !Op.bytesLess y x
  | [], [] => rfl
  | [], _ :: _ => rfl
  | _ :: _, [] => rfl
  | a :: x, b :: y => by
    have ih := bytesLess_total x y
    simp only [Op.bytesLess, List.cons_beq_cons]
    rcases Nat.lt_trichotomy a.toNat b.toNat with h | h | h
    · have h1 : a < b := h
      have h2 : ¬ b < a := by rw [UInt8.lt_iff_toNat_lt]; omega
      have h3 : (b == a) = false := by simp; intro e; subst e; omega
      simp [h1, h2, h3]
    · have e : a = b := UInt8.toNat_inj.1 h
      subst e
      have h2 : ¬ a < a := by rw [UInt8.lt_iff_toNat_lt]; omega
      simpa [h2] using ih
    · have h1 : b < a := h
      have h2 : ¬ a < b := by rw [UInt8.lt_iff_toNat_lt]; omega
      have h3 : (a == b) = false := by simp; intro e; subst e; omega
      simp [h1, h2, h3]
theorem beq_texts (a b : ByteArray) : (a.toList == b.toList) = decide (a = b) := by
  rw [Bool.eq_iff_iff]
  simp only [beq_iff_eq, decide_eq_true_eq, ByteArray.toList_eq]
  constructor
  · intro h; cases a; cases b; simp at h; simp [h]
  · rintro rfl; rfl
theorem beq_ints (a b : Int) : (a == b) = decide (a = b) := by rw [Bool.eq_iff_iff]; simp
def evo (env : Env) : Operand → Option Value
  | .tmp t => look env t
  | .const v => some v
  | .global g => some (.pointer (some ⟨g, 0, none⟩))
  | .func f => some (.func (.func f) #[] #[])
def evos (env : Env) : List Operand → Option (List Value)
  | [] => some []
  | x :: l => match evo env x, evos env l with | some v, some r => some (v :: r) | _, _ => none
def bltV (P : Program) (env : Env) : Builtin → List Operand → List TypeId → Option Value
  | .len, [x], [t] => match evo env x, LK P t with
    | some (.string s), some 0 => some (.int .i64 s.size)
    | some (.slice _ n _), some 1 => some (.int .i64 n)
    | _, _ => none
  | .cap, [x], [t] => match evo env x, LK P t with
    | some (.slice _ _ c), some 1 => some (.int .i64 c)
    | _, _ => none
  | .max, [x, y], _ => match evo env x, evo env y with
    | some (.int k a), some (.int _ b) => some (.int k (if a < b then b else a))
    | _, _ => none
  | .min, [x, y], _ => match evo env x, evo env y with
    | some (.int k a), some (.int _ b) => some (.int k (if b < a then b else a))
    | _, _ => none
  | _, _, _ => none
/-- The value of an operation that touches no memory. -/
def pv (P : Program) (op : Op) (env : Env) : Option Value :=
  match op with
  | .move x => evo env x
  | .assign x => evo env x
  | .pick c a b => match evo env c with | some (.bool t) => if t = true then evo env a else evo env b | _ => none
  | .nilCheck x => match evo env x with | some (.pointer (some a)) => some (.pointer (some a)) | _ => none
  | .extract t i => match evo env t with | some (.tuple vs) => vs[i]? | _ => none
  | .fieldAddr s x i => match evo env x, FO P s i with | some (.pointer (some a)), some n => some (.pointer (some (a.add n))) | _, _ => none
  | .field t x i => match evo env x, FP P t i with | some (.agg cs), some p => partV cs.toList p | _, _ => none
  | .binOp op t x y _ => match evo env x, evo env y with | some a, some b => orV (binV op a b) (nilV P op t a b) | _, _ => none
  | .unOp .xor _ x => match evo env x with | some (.int k n) => some (.int k (bits .xor k (if k.signed then -1 else k.max) n)) | _ => none
  | .unOp .not _ x => match evo env x with | some (.bool b) => some (.bool (!b)) | _ => none
  | .convert s d x => match IKn P s, IKn P d, evo env x with | some _, some k, some (.int _ n) => some (.int k (k.wrap n)) | _, _, _ => none
  | .call ⟨.builtin b, args, tys⟩ => bltV P env b args.toList tys.toList
  | .build t ps => match BU P t, evos env (ps.toList.map (·.2)) with
    | some (z, pl), some vs => match fillL pl z (ps.toList.map (·.1)) vs with
      | some cs => some (.agg cs.toArray)
      | none => none
    | _, _ => none
  | .makeFunc fn first captured => match evos env first.toList, evos env captured.toList with | some f, some c => some (.func fn f.toArray c.toArray) | _, _ => none
  | _ => none
def bare (o : Oper) : Oper := { o with guard := none }
def dstOf (ops : Array Oper) (j : Nat) : Option Tmp := (ops[j]?).bind (·.dst)
mutual
def runp (P : Program) (N : Nat) (ops : Array Oper) : List Oper → Env → List Oper × Env
  | [], env => ([], env)
  | o :: r, env =>
    match o.guard with
    | none =>
      match pv P o.op env with
      | some v => runp P N ops r (put N env o.dst v)
      | none => (o :: r, env)
    | some (j, want) =>
      match dstOf ops j with
      | none => (o :: r, env)
      | some d =>
        match look env d with
        | some (.bool b) => runpG P N ops b want o r ((d, .bool b) :: env)
        | some (.tuple _) => runp P N ops r (put N env o.dst undef)
        | _ => (o :: r, env)
  termination_by l _ => 2 * l.length
/-- Behind a guard. -/
def runpG (P : Program) (N : Nat) (ops : Array Oper) (b want : Bool) (o : Oper) (r : List Oper) (env : Env) : List Oper × Env :=
  if b = want then
    match pv P o.op env with
    | some v => runp P N ops r (put N env o.dst v)
    | none => (bare o :: r, env)
  else runp P N ops r (put N env o.dst undef)
  termination_by 2 * r.length + 1
end

section
variable {P : Program} {N : Nat} {env : Env} {a : Act} (hs : St N env a)
include hs
theorem evo_sound {x : Operand} {v : Value} (h : evo env x = some v) : a.eval x = v := by
  cases x with
  | tmp t => simp only [evo] at h; simp [Act.eval, hs.2.2 _ _ h]
  | _ => simp only [evo] at h; cases h; rfl
theorem evos_sound : ∀ {l : List Operand} {r : List Value}, evos env l = some r → l.map a.eval = r
  | [], r, h => by simp only [evos] at h; cases h; rfl
  | x :: l, r, h => by
    unfold evos at h
    split at h
    · rename_i v q h1 h2; cases h; simp [evo_sound hs h1, evos_sound h2]
    · cases h
theorem pv_sound {o : Oper} {v : Value} (h : pv P o.op env = some v) (w : World) : (execOp a.eval o).run P w = .ok (.value v) w := by
  obtain ⟨dst, op, type, pos, after, guard⟩ := o
  simp only at h
  unfold pv at h
  split at h
  · rename_i x; simp [execOp, evo_sound hs h]
  · rename_i x; simp [execOp, evo_sound hs h]
  · rename_i c x y
    split at h
    · rename_i t ht
      simp only [execOp, evo_sound hs ht]
      cases t
      · simp at h; simp [asBool, evo_sound hs h]
      · simp at h; simp [asBool, evo_sound hs h]
    · cases h
  · rename_i x
    split at h
    · rename_i p hp; cases h; simp [execOp, evo_sound hs hp]
    · cases h
  · rename_i t i
    split at h
    · rename_i vs hvs; simp [execOp, evo_sound hs hvs, Instr.extract, h]
    · cases h
  · rename_i s x i
    split at h
    · rename_i p n hp hn
      cases h
      unfold FO at hn
      split at hn
      · rename_i fs hu
        split at hn
        · rename_i f hf
          split at hn
          · rename_i inf hi
            split at hn
            · cases hn
            · rename_i hz; cases hn
              simp [execOp, evo_sound hs hp, Instr.fieldAt, hf, Instr.sureAddr, fieldPlace, sizeOf, typeInfo, hi, hz, run_underlying hu, Sem.run_bind, Result.andThen]
          · cases hn
        · cases hn
      · cases hn
    · cases h
  · rename_i t x i
    split at h
    · rename_i cs p hx hp
      unfold FP at hp
      split at hp
      · rename_i fs hu
        split at hp
        · rename_i f hf
          split at hp
          · rename_i inf b hi hb
            cases hp
            unfold AG at hb
            obtain ⟨d, hd, hb⟩ := Option.map_eq_some_iff.1 hb
            have hag : ∀ w, (isAgg f.type).run P w = .ok b w := by
              intro w
              unfold isAgg
              rw [Sem.run_bind, run_underlying hd]
              cases d <;> cases hb <;> simp [Result.andThen]
            have hcs : cs.toList.toArray = cs := by simp
            cases b
            · simp only [partV] at h
              simp [execOp, evo_sound hs hx, Instr.field, run_underlying hu, hf, asAgg, part, Sem.run_bind, Result.andThen, hag]
              have h' : cs[f.offset]? = some v := by simpa using h
              simp [h']
            · simp only [partV] at h
              cases h
              simp [execOp, evo_sound hs hx, Instr.field, run_underlying hu, hf, asAgg, part, Sem.run_bind, Result.andThen, hag, sizeOf, typeInfo, hi]
              rw [← Array.toList_inj]
              simp [Array.toList_extract, List.extract_eq_take_drop]
          · cases hp
        · cases hp
      · cases hp
    · cases h
  · rename_i op t x y yt
    split at h
    · rename_i p q hp hq
      cases hbv : binV op p q with
      | none =>
        rw [hbv] at h
        obtain ⟨h1, h2⟩ := nilV_sound h w
        simp only [execOp, evo_sound hs hp, evo_sound hs hq]
        rw [h2]
        simp [h1]
      | some u =>
      rw [hbv] at h
      simp only [orV] at h
      obtain rfl := Option.some.inj h
      replace h := hbv
      simp only [execOp, evo_sound hs hp, evo_sound hs hq]
      have hg : ∀ ox oy, eqGuard op t ox oy p q = pure () := by
        intro ox oy
        unfold binV at h
        split at h <;> first | exact eqGuard_at_int .. | exact eqGuard_at_string .. | cases h
      rw [hg]
      unfold binV at h
      split at h <;> (try (split at h)) <;> (try (split at h)) <;> (try (cases h)) <;> (try subst_vars)
      all_goals try (simp [binOp, Op.intArith, Op.intBits, Op.intCmp, Op.intDiv, Op.shift, bits, Op.stringOp, sless, ByteArray.toList_eq, *]; done)
      all_goals try (simp [binOp, Op.intCmp, beq_ints, bne]; done)
      all_goals try (simp [binOp, Op.stringOp, beq_texts]; done)
      all_goals try (simp [binOp, Op.stringOp, *]; omega)
      all_goals
        rename_i sa sb
        have ht := bytesLess_total sa.data.toList sb.data.toList
        simp [binOp, Op.stringOp, sless, ByteArray.toList_eq] at ht ⊢
        revert ht
        generalize Op.bytesLess sa.data.toList sb.data.toList = p1
        generalize Op.bytesLess sb.data.toList sa.data.toList = p2
        generalize (sa.data == sb.data) = p3
        cases p1 <;> cases p2 <;> cases p3 <;> simp
    · cases h
  · rename_i x
    split at h
    · rename_i k n hb; cases h; simp [execOp, evo_sound hs hb, Op.unary, Op.intBits, bits]
    · cases h
  · rename_i x
    split at h
    · rename_i b hb; cases h; simp [execOp, evo_sound hs hb, Op.unary]
    · cases h
  · rename_i sr d x
    split at h
    · rename_i k1 k n x1 h1 h2 h3
      cases h
      have e1 : ∃ d1, P.underlying sr = some d1 := by
        unfold IKn at h1; obtain ⟨d1, hd, _⟩ := Option.bind_eq_some_iff.1 h1; exact ⟨d1, hd⟩
      have e2 : P.underlying d = some (.int k) := by
        unfold IKn at h2; obtain ⟨d1, hd, h2⟩ := Option.bind_eq_some_iff.1 h2
        cases d1 <;> simp_all
      obtain ⟨d1, e1⟩ := e1
      simp [execOp, evo_sound hs h3, convert, run_underlying e1, run_underlying e2, Conv.intToInt, Sem.run_bind, Result.andThen]
    · cases h
  · rename_i b args tys
    unfold bltV at h
    split at h
    · rename_i x t ea et
      have ea' : args = #[x] := by rw [← Array.toList_inj, ea]
      have et' : tys = #[t] := by rw [← Array.toList_inj, et]
      subst ea'; subst et'
      split at h
      · rename_i str h1 h2
        cases h
        unfold LK at h2; obtain ⟨d, hd, h2⟩ := Option.bind_eq_some_iff.1 h2
        cases d <;> simp at h2
        simp [execOp, resolve, evo_sound hs h1, invoke, builtin, Builtin.len_, run_underlying hd, Sem.run_bind, Result.andThen, goInt]
      · rename_i q n c h1 h2
        cases h
        unfold LK at h2; obtain ⟨d, hd, h2⟩ := Option.bind_eq_some_iff.1 h2
        cases d <;> simp at h2
        simp [execOp, resolve, evo_sound hs h1, invoke, builtin, Builtin.len_, run_underlying hd, Sem.run_bind, Result.andThen, goInt]
      · cases h
    · rename_i x t ea et
      have ea' : args = #[x] := by rw [← Array.toList_inj, ea]
      have et' : tys = #[t] := by rw [← Array.toList_inj, et]
      subst ea'; subst et'
      split at h
      · rename_i q n c h1 h2
        cases h
        unfold LK at h2; obtain ⟨d, hd, h2⟩ := Option.bind_eq_some_iff.1 h2
        cases d <;> simp at h2
        simp [execOp, resolve, evo_sound hs h1, invoke, builtin, Builtin.cap_, run_underlying hd, Sem.run_bind, Result.andThen, goInt]
      · cases h
    · rename_i tl x y ea
      have ea' : args = #[x, y] := by rw [← Array.toList_inj, ea]
      subst ea'
      split at h
      · rename_i k1 p k2 q h1 h2
        cases h
        simp [execOp, resolve, evo_sound hs h1, evo_sound hs h2, invoke, builtin, Builtin.max_, Builtin.max2]
      · cases h
    · rename_i tl x y ea
      have ea' : args = #[x, y] := by rw [← Array.toList_inj, ea]
      subst ea'
      split at h
      · rename_i k1 p k2 q h1 h2
        cases h
        simp [execOp, resolve, evo_sound hs h1, evo_sound hs h2, invoke, builtin, Builtin.min_, Builtin.min2]
      · cases h
    · cases h
  · rename_i t ps
    split at h
    · rename_i z pl vs h1 h2
      split at h
      · rename_i cs h3
        cases h
        have e := fillL_spec _ _ _ _ h3
        have hb : P.built t ((ps.map fun (i, x) => (i, a.eval x)).toList) = some cs.toArray := by
          unfold BU at h1
          unfold Program.built
          split at h1
          · rename_i it fields hi hu
            simp only [hi, hu]
            split at h1
            · rename_i zz pp hz hp
              cases h1
              simp only [hz, hp]
              have e3 : (ps.map fun (i, x) => (i, a.eval x)).toList = (ps.toList.map (·.1)).zip vs := by
                rw [← evos_sound hs h2]
                simp [List.map_map, List.zip_map', Function.comp_def]
              rw [e3, ← e]
            · cases h1
          · cases h1
        simp only [execOp]
        rw [Sem.run_bind, run_build w t _ _ hb]
        simp [Result.andThen]
      · cases h
    · cases h
  · rename_i fn first captured
    split at h
    · rename_i f c hf hc
      cases h
      have e1 : first.map a.eval = f.toArray := by rw [← Array.toList_inj]; simp [evos_sound hs hf]
      have e2 : captured.map a.eval = c.toArray := by rw [← Array.toList_inj]; simp [evos_sound hs hc]
      simp [execOp, e1, e2, Instr.makeFunc]
    · cases h
  · cases h
end
theorem lq_step {P : Program} {N : Nat} {ops : Array Oper} {K : Env → World → Prop} {w : World} {o : Oper} {r : List Oper} {env : Env} {v : Value} (hv : pv P o.op env = some v)
    (hw : ∀ a, St N env a → Region.wanted o (yielded ops a.tmps) = true) (h : lq P N ops r (put N env o.dst v) w K) : lq P N ops (o :: r) env w K := by
  intro Q hK a hs
  unfold wpList
  rw [if_pos (hw a hs)]
  refine .inl ?_
  unfold Oper.wp
  rw [pv_sound hs hv w]
  exact h Q hK _ (hs.put _ _)
theorem lq_pass {P : Program} {N : Nat} {ops : Array Oper} {K : Env → World → Prop} {w : World} {o : Oper} {r : List Oper} {env : Env}
    (hw : ∀ a, St N env a → Region.wanted o (yielded ops a.tmps) = false) (h : lq P N ops r (put N env o.dst undef) w K) : lq P N ops (o :: r) env w K := by
  intro Q hK a hs
  unfold wpList
  rw [if_neg (by simp [hw a hs])]
  exact h Q hK _ (hs.put _ _)
theorem St.again {N : Nat} {env : Env} {a : Act} {d : Nat} {v : Value} (h : look env d = some v) (hs : St N env a) : St N ((d, v) :: env) a :=
  ⟨hs.1, hs.2.1, fun i u hl => by
    unfold look at hl
    split at hl
    · rename_i e; subst e; cases hl; exact hs.2.2 _ _ h
    · exact hs.2.2 _ _ hl⟩
theorem lq_again {P : Program} {N : Nat} {ops : Array Oper} {l : List Oper} {K : Env → World → Prop} {w : World} {env : Env} {d : Nat} {v : Value} (h : look env d = some v) (q : lq P N ops l ((d, v) :: env) w K) : lq P N ops l env w K :=
  fun Q hK a hs => q Q hK a (hs.again h)
theorem lq_run {P : Program} {N : Nat} {ops : Array Oper} {K : Env → World → Prop} {w : World} : ∀ {l : List Oper} {env : Env},
    lq P N ops (runp P N ops l env).1 (runp P N ops l env).2 w K → lq P N ops l env w K
  | [], env, h => by rw [runp] at h; exact h
  | o :: r, env, h => by
    rw [runp] at h
    split at h
    · rename_i hg
      split at h
      · rename_i v hv; exact lq_step hv (fun a _ => by simp [Region.wanted, hg]) (lq_run h)
      · exact h
    · rename_i j want hg
      split at h
      · exact h
      · rename_i d hd
        have hy : ∀ a, St N env a → ∀ u, look env d = some u → yielded ops a.tmps j = match u with | .bool b => some b | _ => none := by
          intro a hs u hu
          unfold yielded
          rw [show (ops[j]?).bind (·.dst) = some d from hd]
          simp only [Option.bind_some, hs.2.2 _ _ hu]
          cases u <;> rfl
        split at h
        · rename_i b hb
          refine lq_again hb ?_
          have hl : look ((d, Value.bool b) :: env) d = some (.bool b) := by simp [look]
          have hy' : ∀ a, St N ((d, Value.bool b) :: env) a → yielded ops a.tmps j = some b := by
            intro a hs
            unfold yielded
            rw [show (ops[j]?).bind (·.dst) = some d from hd]
            simp only [Option.bind_some, hs.2.2 _ _ hl]
          rw [runpG] at h
          by_cases hbw : b = want
          · rw [if_pos hbw] at h
            have hw : ∀ a, St N ((d, Value.bool b) :: env) a → Region.wanted o (yielded ops a.tmps) = true := fun a hs => by simp [Region.wanted, hg, hy' a hs, hbw]
            split at h
            · rename_i v hv; exact lq_step hv hw (lq_run h)
            · intro Q hK a hs
              have h' := h Q hK a hs
              unfold wpList at h' ⊢
              rw [if_pos (hw a hs)]
              rw [if_pos (by simp [Region.wanted, bare])] at h'
              exact h'
          · rw [if_neg hbw] at h
            exact lq_pass (fun a hs => by simp [Region.wanted, hg, hy' a hs, hbw]) (lq_run h)
        · rename_i b hb
          exact lq_pass (fun a hs => by simp [Region.wanted, hg, hy a hs _ hb]) (lq_run h)
        · exact h
/-- A guard that is open. -/
theorem lq_G {P : Program} {N : Nat} {ops : Array Oper} {K : Env → World → Prop} {w : World} {b want : Bool} {o : Oper} {r : List Oper} {env : Env} {d : Nat}
    (h1 : b = true → lq P N ops (runpG P N ops true want o r ((d, .bool true) :: env)).1 (runpG P N ops true want o r ((d, .bool true) :: env)).2 w K)
    (h2 : b = false → lq P N ops (runpG P N ops false want o r ((d, .bool false) :: env)).1 (runpG P N ops false want o r ((d, .bool false) :: env)).2 w K) :
    lq P N ops (runpG P N ops b want o r ((d, .bool b) :: env)).1 (runpG P N ops b want o r ((d, .bool b) :: env)).2 w K := by
  cases b
  · exact h2 rfl
  · exact h1 rfl
end Go.Rp
/- Entering a function, its results; cells read, written, made; calls. -/
set_option linter.unusedVariables false
namespace Go.Rp
def optK {α : Type} (o : Option α) (k : α → Prop) : Prop := match o with | some v => k v | none => False
def envA : List Value → Nat → Env
  | [], _ => []
  | v :: l, i => (i, v) :: envA l (i + 1)
theorem look_envA : ∀ (l : List Value) (i j : Nat) (v : Value), look (envA l i) j = some v → i ≤ j ∧ l[j - i]? = some v
  | [], _, _, _, h => by cases h
  | u :: l, i, j, v, h => by
    unfold envA look at h
    split at h
    · rename_i e; subst e; cases h; simp
    · rename_i e
      obtain ⟨h1, h2⟩ := look_envA l (i + 1) j v h
      refine ⟨by omega, ?_⟩
      rw [show j - i = (j - (i + 1)) + 1 by omega]; simpa using h2
/-- The results, out of the slots (or out of the cells that they name). -/
def resL (P : Program) (env : Env) (w : World) : List ResultVar → List Value → Prop
  | [], vs => vs = []
  | .tmp t :: r, vs => ∃ v us, vs = v :: us ∧ look env t = some v ∧ resL P env w r us
  | .cell a t :: r, vs => ∃ v us ad, vs = v :: us ∧ look env a = some (.pointer (some ad)) ∧ (loadVar t ad).run P w = .ok v w ∧ resL P env w r us
def tupV : List Value → Value
  | [v] => v
  | vs => .tuple vs.toArray
def retE (P : Program) (rs : List ResultVar) (Q : Value → World → Prop) : Exit → Env → World → Prop
  | .normal, env, w => ∃ vs, resL P env w rs vs ∧ Q (tupV vs) w
  | .ret, env, w => ∃ vs, resL P env w rs vs ∧ Q (tupV vs) w
  | _, _, _ => False
inductive All2 {α β : Type} (R : α → β → Prop) : List α → List β → Prop
  | nil : All2 R [] []
  | cons {a : α} {b : β} {l : List α} {m : List β} : R a b → All2 R l m → All2 R (a :: l) (b :: m)
theorem run_mapM {P : Program} {w : World} (g : ResultVar → Sem Value) : ∀ (rs : List ResultVar) (vs : List Value), All2 (fun r v => (g r).run P w = .ok v w) rs vs → (rs.mapM g).run P w = .ok vs w
  | [], _, h => by cases h; simp
  | r :: rs, _, h => by
    cases h with
    | cons h1 h2 => simp [List.mapM_cons, Sem.run_bind, h1, Result.andThen, run_mapM g rs _ h2]
theorem resL_forall {P : Program} {N : Nat} {env : Env} {w : World} {a : Act} (hs : St N env a) : ∀ {rs : List ResultVar} {vs : List Value}, resL P env w rs vs →
    All2 (fun r v => ((fun | .tmp t => pure (a.tmps.getD t undef) | .cell x t => do loadVar t (← asAddr (a.tmps.getD x undef)) : ResultVar → Sem Value) r).run P w = .ok v w) rs vs
  | [], vs, h => by simp only [resL] at h; subst h; exact .nil
  | .tmp t :: rs, vs, h => by
    obtain ⟨v, us, rfl, h1, h2⟩ := h
    exact .cons (by simp [hs.2.2 _ _ h1]) (resL_forall hs h2)
  | .cell x t :: rs, vs, h => by
    obtain ⟨v, us, ad, rfl, h1, h3, h2⟩ := h
    exact .cons (by simp [hs.2.2 _ _ h1, asAddr, h3]) (resL_forall hs h2)
theorem results_resL {P : Program} {N : Nat} {env : Env} {w : World} {a : Act} (hs : St N env a) {fn : Func} {vs : List Value} (h : resL P env w fn.results.toList vs) :
    (results fn a.tmps).run P w = .ok (tupV vs) w := by
  have h1 := run_mapM _ _ _ (resL_forall hs h)
  unfold results
  rw [Sem.run_bind]
  rw [Array.mapM_eq_mapM_toList]
  have h2 : ∀ x : Sem (List Value), x.run P w = .ok vs w → (List.toArray <$> x).run P w = .ok vs.toArray w := by
    intro x hx
    simp [hx]
  refine Eq.trans (congrArg (fun r => Result.andThen r _) (h2 _ h1)) ?_
  simp only [Result.andThen]
  rcases vs with _ | ⟨v, _ | ⟨u, vs⟩⟩ <;> simp [tupV]
theorem cl_of_cw {P : Program} {f : FuncId} {fn : Func} {c : Code} {args : Array Value} {w : World} {Q : Value → World → Prop} (hf : P.funcs[f]? = some fn) (hb : fn.body = some c)
    (h : cw P (args.size + (fn.ntmps - args.size)) c (envA args.toList 0) w (retE P fn.results.toList Q)) : Cl P f args w Q := by
  refine calls_of_wp hf hb (wp_mono (h _ ⟨rfl, by simp, fun i v hl => ?_⟩) ?_)
  · obtain ⟨_, h2⟩ := look_envA _ _ _ _ hl
    have h3 : args[i]? = some v := by simpa using h2
    have hi : i < args.size := by
      rcases Nat.lt_or_ge i args.size with h | h
      · exact h
      · rw [Array.getElem?_eq_none h] at h3; cases h3
    rw [Array.getElem?_append_left hi]; exact h3
  · rintro e a' w' ⟨env, hs, hq⟩
    cases e <;> simp only [retE] at hq <;> first | exact hq.elim | skip
    all_goals
      obtain ⟨vs, h1, h2⟩ := hq
      exact ⟨hs.1, _, results_resL hs h1, h2⟩
end Go.Rp
/- Cells read, written, made; calls. -/
set_option linter.unusedVariables false
set_option linter.unusedSimpArgs false
namespace Go.Rp
/-- A list of operations, behind what touches no memory. -/
def lr (P : Program) (N : Nat) (ops : Array Oper) (l : List Oper) (env : Env) (w : World) (K : Env → World → Prop) : Prop := lq P N ops (runp P N ops l env).1 (runp P N ops l env).2 w K
section
variable {P : Program} {N : Nat} {ops : Array Oper} {r : List Oper} {env : Env} {w : World} {K : Env → World → Prop}
theorem lr.q {l : List Oper} (h : lr P N ops l env w K) : lq P N ops l env w K := lq_run h
theorem lq_eff {o : Oper} (hg : o.guard = none)
    (h : ∀ a, St N env a → ∃ v w', ((execOp a.eval o).run P w = .ok (.value v) w' ∨ ((execOp a.eval o).run P w = .ok .skip w' ∧ v = undef)) ∧ lr P N ops r (put N env o.dst v) w' K) :
    lq P N ops (o :: r) env w K := by
  intro Q hK a hs
  unfold wpList
  rw [if_pos (by simp [Region.wanted, hg])]
  refine .inl ?_
  obtain ⟨v, w', h1, h2⟩ := h a hs
  unfold Oper.wp
  rcases h1 with h1 | ⟨h1, rfl⟩
  · rw [h1]; exact h2.q Q hK _ (hs.put _ _)
  · rw [h1]; exact h2.q Q hK _ (hs.put _ _)
theorem lq_val {o : Oper} (hg : o.guard = none) {v : Value} {w' : World} (h : ∀ a, St N env a → (execOp a.eval o).run P w = .ok (.value v) w') (h2 : lr P N ops r (put N env o.dst v) w' K) :
    lq P N ops (o :: r) env w K := lq_eff hg fun a hs => ⟨v, w', .inl (h a hs), h2⟩
/-- A block of cells, by its number, at whatever place of the list. -/
class TkC (b : Nat) (L : List HP) (l : outParam (List Value)) (T : outParam TypeId) (M : outParam (List HP)) : Prop where out : ∀ h, Sep L h → Sep (Ce b (l, T) :: M) h
instance TkC.hd {b : Nat} {l : List Value} {T : TypeId} {L : List HP} : TkC b (Ce b (l, T) :: L) l T L := ⟨fun _ y => y⟩
instance (priority := low) TkC.tk {b : Nat} {l : List Value} {T : TypeId} {B : HP} {L M : List HP} [t : TkC b L l T M] : TkC b (B :: L) l T (B :: M) := ⟨fun _ y => Sep.swap (Sep.under t.out y)⟩
theorem Own.ce {b : Nat} {l : List Value} {T : TypeId} {L : List HP} (H : Own (Ce b (l, T) :: L) w) : ∃ fz : Nat × Nat, (∀ i, i < l.length → ¬ (fz.1 ≤ i ∧ i < fz.2)) ∧ w.heap[b]? = some (.cells l.toArray T fz) := by
  obtain ⟨h1, h2, d, a, c, y, z⟩ := H
  exact ⟨(0, 0), fun i _ => by simp, a.1 _ _ y⟩
theorem Own.ceq {b : Nat} {l : List Value} {T : TypeId} {L : List HP} (H : Own (Ce b (l, T) :: L) w) : w.heap[b]? = some (.cells l.toArray T (0, 0)) := by
  obtain ⟨h1, h2, d, a, c, y, z⟩ := H
  exact a.1 _ _ y
theorem Own.cell {b : Nat} {l : List Value} {T : TypeId} {L : List HP} (H : Own (Ce b (l, T) :: L) w) (i : Nat) : w.cell? ⟨b, i, none⟩ = l[i]? := by
  obtain ⟨fz, _, h⟩ := H.ce
  simp [World.cell?, h]
def ldC (P : Program) (t : TypeId) (off : Nat) (l : List Value) : Option Value :=
  match AG P t, SZ P t with
  | some false, _ => l[off]?
  | some true, some n => if off + n ≤ l.length then some (.agg ((l.drop off).take n).toArray) else none
  | _, _ => none
theorem AG_run {t : TypeId} {b : Bool} (h : AG P t = some b) (w : World) : (isAgg t).run P w = .ok b w := by
  unfold AG at h
  obtain ⟨d, hd, hb⟩ := Option.map_eq_some_iff.1 h
  unfold isAgg
  rw [Sem.run_bind, run_underlying hd]
  cases d <;> cases hb <;> simp [Result.andThen]
theorem SZ_run {t : TypeId} {n : Nat} (h : SZ P t = some n) (w : World) : (sizeOf t).run P w = .ok n w := by
  unfold SZ at h
  obtain ⟨d, hd, hb⟩ := Option.map_eq_some_iff.1 h
  simp [sizeOf, typeInfo, hd, hb, Sem.run_bind, Result.andThen]
theorem ZV_run {t : TypeId} {v : Value} (h : ZV P t = some v) (w : World) : (zeroValue t).run P w = .ok v w := by
  unfold ZV at h
  obtain ⟨d, hd, hb⟩ := Option.bind_eq_some_iff.1 h
  simp [zeroValue, typeInfo, hd, hb, Sem.run_bind, Result.andThen]
theorem ld_run {t : TypeId} {b off : Nat} {l : List Value} {T : TypeId} {L : List HP} (H : Own (Ce b (l, T) :: L) w) {v : Value} (h : ldC P t off l = some v) : (loadVar t ⟨b, off, none⟩).run P w = .ok v w := by
  unfold ldC at h
  unfold loadVar
  split at h
  · rename_i h1; simp [Sem.run_bind, AG_run h1, Result.andThen, load, Sem.run, H.cell, h]
  · rename_i n h1 h2
    split at h
    · rename_i hle
      cases h
      simp only [Sem.run_bind, AG_run h1, Result.andThen, if_true, SZ_run h2]
      have := run_loadCells_list (P := P) w ⟨b, off, none⟩ ((l.drop off).take n) (fun j v hj => by
        have hj' : l[off + j]? = some v := by
          rw [List.getElem?_take] at hj
          split at hj
          · simpa using hj
          · cases hj
        simp only [Addr.add]
        split
        · rename_i e; subst e; simpa [H.cell] using hj'
        · simpa [H.cell] using hj')
      have hlen : ((l.drop off).take n).length = n := by simp; omega
      rw [hlen] at this
      simp [this]
    · cases h
  · cases h
theorem lq_load {t : TypeId} {x : Operand} {b off : Nat} {dst : Option Tmp} {ty : TypeId} {p : String} {af : Array Edge} {l : List Value} {T : TypeId} {L M : List HP} (H : Own L w)
    (hx : evo env x = some (.pointer (some ⟨b, off, none⟩))) [tk : TkC b L l T M] (h : optK (ldC P t off l) fun v => lr P N ops r (put N env dst v) w K) :
    lq P N ops (⟨dst, .load t x, ty, p, af, none⟩ :: r) env w K := by
  unfold optK at h
  split at h
  · rename_i v hv
    refine lq_val rfl (fun a hs => ?_) h
    simp [execOp, evo_sound hs hx, Instr.loadAt, Instr.sureAddr, Sem.run_bind, ld_run (L := M) (tk.out _ H) hv, Result.andThen]
  · exact h.elim
theorem Own.setCell {b i : Nat} {v : Value} {l : List Value} {T : TypeId} {L : List HP} (H : Own (Ce b (l, T) :: L) w) (hi : i < l.length) : Own (Ce b (l.set i v, T) :: L) (w.setCell ⟨b, i, none⟩ v) := by
  have hb := H.ceq
  refine Own.turn (w := w) (w' := w.setCell ⟨b, i, none⟩ v) b (fun h h1 => ⟨_, h1⟩) (.cells (l.set i v).toArray T (0, 0)) (fun h _ h' h3 h4 => h4) ?_ ?_ rfl (Nat.le_refl _) H
  · simp only [World.setCell, Array.getElem?_modify, hb]
    simp
  · intro c hc
    simp only [World.setCell, Array.getElem?_modify]
    simp [Ne.symm hc]
theorem st_run {b : Nat} {T : TypeId} {L : List HP} : ∀ (vs : List Value) (i off : Nat) (l : List Value) (w : World), Own (Ce b (l, T) :: L) w → (∀ v ∈ vs, v.oneCell' = true) → off + i + vs.length ≤ l.length →
    ∃ w', (storeCells ⟨b, off, none⟩ vs i).run P w = .ok () w' ∧ Own (Ce b (setR l (off + i) vs, T) :: L) w'
  | [], i, off, l, w, H, _, _ => ⟨w, by simp [storeCells], H⟩
  | v :: vs, i, off, l, w, H, hv, hl => by
    simp only [List.length_cons] at hl
    have hi : off + i < l.length := by omega
    obtain ⟨fz, hf, hb⟩ := H.ce
    have hc : w.cell? ⟨b, off + i, none⟩ = some l[off + i] := by rw [H.cell]; exact List.getElem?_eq_getElem hi
    have hfr : w.frozen? ⟨b, off + i, none⟩ = false := by
      simp only [World.frozen?, hb]
      have := hf _ hi
      simpa using this
    have ha : (⟨b, off, none⟩ : Addr).add i = ⟨b, off + i, none⟩ := Addr.add_lit b off i
    obtain ⟨w', h1, h2⟩ := st_run vs (i + 1) off (l.set (off + i) v) _ (H.setCell (v := v) hi) (fun u hu => hv u (List.mem_cons_of_mem _ hu)) (by simp; omega)
    refine ⟨w', ?_, h2⟩
    unfold storeCells
    rw [Sem.run_bind, ha, run_store P w _ v .plain (hv v (List.mem_cons_self ..))]
    simp only [hc, hfr]
    exact h1
theorem lq_store {t : TypeId} {x y : Operand} {b off n : Nat} {dst : Option Tmp} {ty : TypeId} {p : String} {af : Array Edge} {v : Value} {l : List Value} {T : TypeId} {L M : List HP} (H : Own L w)
    (hx : evo env x = some (.pointer (some ⟨b, off, none⟩))) (hy : evo env y = some v) [tk : TkC b L l T M] (hz : SZ P t = some n)
    (hc : v.cells.toList.length = n ∧ off + n ≤ l.length ∧ v.cells.toList.all (fun u => u.oneCell') = true) (h : ∀ w', Own (Ce b (setR l off v.cells.toList, T) :: M) w' → lr P N ops r (put N env dst undef) w' K) :
    lq P N ops (⟨dst, .store t x y, ty, p, af, none⟩ :: r) env w K := by
  obtain ⟨w', h1, h2⟩ := st_run (P := P) v.cells.toList 0 off l w (tk.out _ H) (fun u hu => (List.all_eq_true.1 hc.2.2) u hu) (by have := hc.1; have := hc.2.1; simp at *; omega)
  refine lq_eff rfl fun a hs => ⟨undef, w', .inr ⟨?_, rfl⟩, h w' h2⟩
  have hcs : v.cells.size = n := by simpa using hc.1
  simp only [execOp, evo_sound hs hx, evo_sound hs hy, Instr.storeAt, Instr.sureAddr]
  simp [Sem.run_bind, Result.andThen, storeVar, SZ_run hz, hcs, h1]
theorem lq_alloc {t : TypeId} {dst : Option Tmp} {ty : TypeId} {p : String} {af : Array Edge} {L : List HP} (H : Own L w)
    (h : optK (ZV P t) fun z => ∀ b w', Own (Ce b (z.cells.toList, t) :: L) w' → lr P N ops r (put N env dst (.pointer (some ⟨b, 0, none⟩))) w' K) :
    lq P N ops (⟨dst, .alloc t, ty, p, af, none⟩ :: r) env w K := by
  unfold optK at h
  split at h
  · rename_i z hz
    refine lq_val rfl (fun a hs => ?_) (h _ _ (Own.new (.cells z.cells t) (fun h' e => by simpa [Ce] using e) H))
    simp [execOp, Instr.alloc, ZV_run hz, Sem.run_bind, Result.andThen, newVar, newRow, newObj, Sem.run]
  · exact h.elim
theorem lq_box {t : TypeId} {x : Operand} {v : Value} {dst : Option Tmp} {ty : TypeId} {p : String} {af : Array Edge} {L : List HP} (H : Own L w) (hx : evo env x = some v)
    (h : ∀ b w', Own (Ce b (v.cells.toList, t) :: L) w' → lr P N ops r (put N env dst (.pointer (some ⟨b, 0, none⟩))) w' K) :
    lq P N ops (⟨dst, .box t x, ty, p, af, none⟩ :: r) env w K := by
  refine lq_val rfl (fun a hs => ?_) (h _ _ (Own.new (.cells v.cells t) (fun h' e => by simpa [Ce] using e) H))
  simp [execOp, Instr.box, evo_sound hs hx, Sem.run_bind, Result.andThen, newVar, newRow, newObj, Sem.run]
class FnOk (P : Program) (f : FuncId) : Prop where out : ∃ fn, P.funcs[f]? = some fn ∧ (fn.name == "runtime.NumGoroutine") = false ∧ fn.body.isNone = false
theorem lq_call {f : FuncId} {args : Array Operand} {tys : Array TypeId} {vs : List Value} {dst : Option Tmp} {ty : TypeId} {p : String} {af : Array Edge} [hf : FnOk P f]
    (ha : evos env args.toList = some vs) (h : Cl P f vs.toArray w fun v w' => lr P N ops r (put N env dst v) w' K) :
    lq P N ops (⟨dst, .call ⟨.value (.func f), args, tys⟩, ty, p, af, none⟩ :: r) env w K := by
  obtain ⟨fn, h1, h2, h3⟩ := hf.out
  have h2' : ¬ fn.name = "runtime.NumGoroutine" := by simpa using h2
  have h3' : ¬ fn.body = none := fun e => by simp [e] at h3
  intro Q hK a hs
  unfold wpList
  rw [if_pos (by simp [Region.wanted])]
  refine .inl ?_
  have e1 : args.map a.eval = vs.toArray := by rw [← Array.toList_inj]; simp [evos_sound hs ha]
  have hrun : (execOp a.eval ⟨dst, .call ⟨.value (.func f), args, tys⟩, ty, p, af, none⟩).run P w = .ok (.enter f vs.toArray) w := by
    simp [execOp, resolve, e1, Act.eval, Deferred.ofValue, invoke, callFunc, Sem.run_bind, Result.andThen, h1, h2', h3']
  unfold Oper.wp
  rw [hrun]
  simp only [Oper.upon]
  refine Calls.mono h fun e w' q => ?_
  cases e with
  | returned v => exact q.q Q hK _ (hs.put _ _)
  | panicked c => exact q.elim
  | outgrown => exact q.elim
theorem lq_callf {f : FuncId} {x : Operand} {fst cap : Array Value} {args : Array Operand} {tys : Array TypeId} {vs : List Value} {dst : Option Tmp} {ty : TypeId} {p : String} {af : Array Edge} (hf : FnOk P f)
    (hx : evo env x = some (.func (.func f) fst cap)) (hxc : ∀ f, x ≠ .func f) (ha : evos env args.toList = some vs) (h : Cl P f (fst ++ vs.toArray ++ cap) w fun v w' => lr P N ops r (put N env dst v) w' K) :
    lq P N ops (⟨dst, .call ⟨.value x, args, tys⟩, ty, p, af, none⟩ :: r) env w K := by
  obtain ⟨fn, h1, h2, h3⟩ := hf.out
  have h2' : ¬ fn.name = "runtime.NumGoroutine" := by simpa using h2
  have h3' : ¬ fn.body = none := fun e => by simp [e] at h3
  intro Q hK a hs
  unfold wpList
  rw [if_pos (by simp [Region.wanted])]
  refine .inl ?_
  have e1 : args.map a.eval = vs.toArray := by rw [← Array.toList_inj]; simp [evos_sound hs ha]
  have hrun : (execOp a.eval ⟨dst, .call ⟨.value x, args, tys⟩, ty, p, af, none⟩).run P w = .ok (.enter f (fst ++ vs.toArray ++ cap)) w := by
    simp [execOp, resolve, e1, evo_sound hs hx, Deferred.ofValue, invoke, callFunc, Sem.run_bind, Result.andThen, h1, h2', h3']
  unfold Oper.wp
  rw [hrun]
  simp only [Oper.upon]
  refine Calls.mono h fun e w' q => ?_
  cases e with
  | returned v => exact q.q Q hK _ (hs.put _ _)
  | panicked c => exact q.elim
  | outgrown => exact q.elim
end
end Go.Rp
/- A region that draws its order, walked in one order that a check finds good. -/
set_option linter.unusedVariables false
set_option linter.unusedSimpArgs false
namespace Go.Rp
section
variable {P : Program} {ops : Array Oper} {Q : Exit → Act → World → Prop} {md : Region.Mode} {S S' : World → Prop} {kd : Nat → Nat}
/-- Whatever order is picked; a quiet operation (kind 0, 1) leaves the world; behind one of kind 2 S holds. -/
def wpM (P : Program) (md : Region.Mode) (ops : Array Oper) (Q : Exit → Act → World → Prop) (S : World → Prop) (kd : Nat → Nat) : Nat → Array Bool → Act → World → Prop
  | 0, listed, a, w => Region.ready md ops listed = [] ∧ Q .normal a w
  | fuel + 1, listed, a, w =>
    (Region.ready md ops listed = [] → Q .normal a w) ∧
    ∀ i ∈ Region.ready md ops listed, wpOp P ops Q i (fun a' w' => ((kd i ≤ 1 → w' = w) ∧ (kd i = 2 → S w')) ∧ wpM P md ops Q S kd fuel (listed.setIfInBounds i true) a' w') a w
theorem wpAny_of_M : ∀ (fuel : Nat) (listed : Array Bool) (a : Act) (w : World), wpM P md ops Q S kd fuel listed a w → wpAny P md ops Q fuel listed a w
  | 0, _, _, _, h => h
  | fuel + 1, _, _, _, h => ⟨h.1, fun i hi => wpOp_mono (fun a' w' h' => wpAny_of_M fuel _ a' w' h'.2) (h.2 i hi)⟩
/-- What has come up is closed under what it waited for. -/
def DC (md : Region.Mode) (ops : Array Oper) (listed : Array Bool) : Prop := ∀ j oj, ops[j]? = some oj → listed.getD j false = true → ∀ e ∈ oj.after, Region.binds md e = true → listed.getD e.on false = true
theorem DC.set {listed : Array Bool} {i : Nat} (h : DC md ops listed) (hi : i ∈ Region.ready md ops listed) : DC md ops (listed.setIfInBounds i true) := by
  obtain ⟨_, oi, hoi, hall⟩ := mem_ready.1 hi
  intro j oj hj hl e he hb
  by_cases hij : i = j
  · subst hij
    have : oj = oi := Option.some.inj (hj.symm.trans hoi)
    subst this
    exact getD_set_true (hall e he hb)
  · rw [getD_set_ne false hij] at hl
    exact getD_set_true (h j oj hj hl e he hb)
/-- j waits for i, maybe through others. -/
def reach (md : Region.Mode) (ops : Array Oper) : Nat → Nat → Nat → Bool
  | 0, _, _ => false
  | n + 1, i, j => match ops[j]? with
    | some oj => oj.after.any fun e => Region.binds md e && (e.on == i || reach md ops n i e.on)
    | none => false
theorem reach_spec {listed : Array Bool} (h : DC md ops listed) : ∀ (n i j : Nat), reach md ops n i j = true → (∃ oj, ops[j]? = some oj ∧ ∀ e ∈ oj.after, Region.binds md e = true → listed.getD e.on false = true) → listed.getD i false = true
  | 0, _, _, hr, _ => by simp [reach] at hr
  | n + 1, i, j, hr, ⟨oj, hj, hall⟩ => by
    simp only [reach, hj] at hr
    obtain ⟨e, he, hb⟩ := Array.any_eq_true'.1 hr
    simp only [Bool.and_eq_true, Bool.or_eq_true, beq_iff_eq] at hb
    have h1 := hall e he hb.1
    rcases hb.2 with h2 | h2
    · rw [← h2]; exact h1
    · refine reach_spec h n i e.on h2 ?_
      cases ho : ops[e.on]? with
      | none => 
        exfalso
        cases n with
        | zero => simp [reach] at h2
        | succ n => simp [reach, ho] at h2
      | some o2 => exact ⟨o2, rfl, fun e2 he2 hb2 => h _ _ ho h1 e2 he2 hb2⟩
/-- A reading operation (or one that touches no memory) may be taken first. -/
theorem wpM_first {i : Nat} {oi : Oper} {v : Value} (hi : ops[i]? = some oi) (hsel : ∀ (j : Nat) (o : Oper) cs b, ops[j]? = some o → o.op ≠ .select cs b)
    (hQ : ∀ c a w, Q (.panic c) (a.put oi.dst v) w → Q (.panic c) a w)
    (hk : (∀ w, S' w) ∨ ((∀ w, S w → S' w) ∧ ∀ (listed : Array Bool) (j : Nat), DC md ops listed → listed.getD i true = false → j ∈ Region.ready md ops listed → j ≠ i → kd j ≤ 2)) :
    ∀ (fuel : Nat) (listed : Array Bool) (a : Act) (w : World), DC md ops listed →
      (∀ j oj, ops[j]? = some oj → j ≠ i → listed.getD j true = false → (∀ e ∈ oj.after, Region.binds md e = true → e.on ≠ i) → oi.apart ops oj = true) →
      i ∈ Region.ready md ops listed → YieldsIf P ops S' oi v a → S' w → kd i ≤ 1 →
      wpM P md ops Q S kd fuel (listed.setIfInBounds i true) (a.put oi.dst v) w → wpM P md ops Q S kd (fuel + 1) listed a w := by
  intro fuel
  induction fuel with
  | zero =>
    intro listed a w _ _ hr hy hS hS0 H
    refine ⟨fun h => (by rw [h] at hr; cases hr), fun j hj => ?_⟩
    by_cases hji : j = i
    · subst hji; exact hy.wpOp hi hS ⟨⟨fun _ => rfl, fun e => by omega⟩, H⟩
    · have := ready_mono hj hji
      rw [H.1] at this
      cases this
  | succ fuel ih =>
    intro listed a w hdc hfree hr hy hS hS0 H
    refine ⟨fun h => (by rw [h] at hr; cases hr), fun j hj => ?_⟩
    by_cases hji : j = i
    · subst hji; exact hy.wpOp hi hS ⟨⟨fun _ => rfl, fun e => by omega⟩, H⟩
    · have h1 := H.2 j (ready_mono hj hji)
      obtain ⟨hjun, oj, hoj, hall⟩ := mem_ready.1 hj
      have hnot : ∀ e ∈ oj.after, Region.binds md e = true → e.on ≠ i := fun e he hb heq => by
        have h1 := hall e he hb
        have h0 := (mem_ready.1 hr).1
        rw [heq] at h1
        rcases Nat.lt_or_ge i listed.size with h' | h'
        · simp [h'] at h0 h1; rw [h0] at h1; cases h1
        · simp [Array.getElem?_eq_none h'] at h1
      have h2 := wpOp_putIf hoj (hfree j oj hoj hji hjun hnot) (fun cs b => hsel i oi cs b hi) (fun cs b => hsel j oj cs b hoj) hQ hy h1
      have hfree' : ∀ k ok, ops[k]? = some ok → k ≠ i → (listed.setIfInBounds j true).getD k true = false →
          (∀ e ∈ ok.after, Region.binds md e = true → e.on ≠ i) → oi.apart ops ok = true := fun k ok hk hki hun hno => by
        refine hfree k ok hk hki ?_ hno
        by_cases hjk : j = k
        · subst hjk; exact hjun
        · rw [getD_set_ne true hjk] at hun; exact hun
      have hkj : (∀ w, S' w) ∨ ((∀ w, S w → S' w) ∧ kd j ≤ 2) := by
        rcases hk with h | ⟨h, h'⟩
        · exact .inl h
        · exact .inr ⟨h, h' listed j hdc (mem_ready.1 hr).1 hj hji⟩
      refine wpOp_mono (fun a' w' h3 => ⟨h3.2.1, ih (listed.setIfInBounds j true) a' w' (hdc.set hj) hfree' (ready_mono hr (Ne.symm hji)) h3.1 ?_ hS0 ?_⟩) h2
      · rcases hkj with h | ⟨h, h'⟩
        · exact h w'
        · rcases Nat.lt_or_ge 1 (kd j) with h4 | h4
          · exact h w' (h3.2.1.2 (by omega))
          · rw [h3.2.1.1 h4]; exact hS
      · rw [Array.setIfInBounds_comm _ _ hji]
        exact h3.2.2
/-- What the walk of one order is asked: (operation, kind): 0: no memory; 1: it reads, under S; 2: it keeps S; 3: all that reads under S has come ahead. -/
def wpSg (P : Program) (ops : Array Oper) (Q : Exit → Act → World → Prop) (S : World → Prop) : List (Oper × Nat) → Act → World → Prop
  | [], a, w => Q .normal a w
  | (o, k) :: r, a, w =>
    if k = 0 then ∃ v, YieldsIf P ops (fun _ => True) o v a ∧ wpSg P ops Q S r (a.put o.dst v) w
    else if k = 1 then ∃ v, YieldsIf P ops S o v a ∧ S w ∧ wpSg P ops Q S r (a.put o.dst v) w
    else if Region.wanted o (yielded ops a.tmps) then o.wp P a w (fun a' w' => (k = 2 → S w') ∧ wpSg P ops Q S r a' w') Q
    else (k = 2 → S w) ∧ wpSg P ops Q S r (a.put o.dst undef) w
def kindOf (σ : List (Nat × Nat)) (j : Nat) : Nat := match σ with
  | [] => 3
  | (i, k) :: r => if i = j then k else kindOf r j
def chkσ (md : Region.Mode) (ops : Array Oper) (τ : List (Nat × Nat)) : List (Nat × Nat) → Array Bool → Bool
  | [], listed => (Region.ready md ops listed).isEmpty
  | (i, k) :: σ, listed =>
    (ops[i]?).isSome && kindOf τ i == k && (Region.ready md ops listed).contains i &&
    (if k ≤ 1 then Region.free md ops listed i && (k == 0 || (List.range ops.size).all fun j => kindOf τ j ≤ 2 || reach md ops ops.size i j)
     else (Region.ready md ops listed).length == 1) &&
    chkσ md ops τ σ (listed.setIfInBounds i true)
def opsOf (ops : Array Oper) : List (Nat × Nat) → List (Oper × Nat)
  | [] => []
  | (i, k) :: r => match ops[i]? with
    | some o => (o, k) :: opsOf ops r
    | none => opsOf ops r
theorem getD_replicate_false' (m j : Nat) : (Array.replicate m false).getD j false = false := by
  rcases Nat.lt_or_ge j m with h | h
  · simp [h]
  · simp [h]
theorem DC.none {n : Nat} : DC md ops (Array.replicate n false) := by
  intro j oj _ hl
  rw [getD_replicate_false'] at hl
  cases hl
theorem wpM_of_Sg (hns : Region.noSelect ops = true) (hQ : ∀ c a w, Q (.panic c) a w → False) {τ : List (Nat × Nat)} : ∀ (σ : List (Nat × Nat)) (listed : Array Bool) (a : Act) (w : World) (fuel : Nat),
    DC md ops listed → chkσ md ops τ σ listed = true → σ.length ≤ fuel → wpSg P ops Q S (opsOf ops σ) a w → wpM P md ops Q S (kindOf τ) fuel listed a w
  | [], listed, a, w, fuel, hdc, hc, _, h => by
    have hr : Region.ready md ops listed = [] := by simpa [chkσ] using hc
    cases fuel with
    | zero => exact ⟨hr, h⟩
    | succ n => exact ⟨fun _ => h, by rw [hr]; simp⟩
  | (i, k) :: σ, listed, a, w, fuel, hdc, hc, hf, h => by
    obtain ⟨n, rfl⟩ : ∃ n, fuel = n + 1 := ⟨fuel - 1, by simp at hf; omega⟩
    simp only [List.length_cons] at hf
    simp only [chkσ, Bool.and_eq_true, beq_iff_eq] at hc
    obtain ⟨⟨⟨⟨h1, h2⟩, h3⟩, h4⟩, h5⟩ := hc
    obtain ⟨o, ho⟩ := Option.isSome_iff_exists.1 h1
    have hmem : i ∈ Region.ready md ops listed := by simpa using h3
    simp only [opsOf, ho] at h
    have ih := fun a' w' h' => wpM_of_Sg hns hQ σ (listed.setIfInBounds i true) a' w' n (hdc.set hmem) h5 (by omega) h'
    by_cases hk0 : k = 0
    · subst hk0
      simp only [wpSg, if_true] at h
      obtain ⟨v, hy, h'⟩ := h
      simp only [Nat.zero_le, if_true, Bool.and_eq_true] at h4
      exact wpM_first (S' := fun _ => True) ho (Region.noSelect_spec hns) (fun c a w q => (hQ _ _ _ q).elim) (.inl fun _ => trivial) n listed a w hdc (Region.free_spec ho h4.1) hmem hy trivial (by omega) (ih _ _ h')
    · by_cases hk1 : k = 1
      · subst hk1
        simp only [wpSg, if_true, if_neg hk0] at h
        obtain ⟨v, hy, hS, h'⟩ := h
        simp only [Nat.le_refl, if_true, Bool.and_eq_true, Bool.or_eq_true, Nat.reduceBEq, Bool.false_eq_true, false_or, List.all_eq_true, List.mem_range, decide_eq_true_eq] at h4
        refine wpM_first (S' := S) ho (Region.noSelect_spec hns) (fun c a w q => (hQ _ _ _ q).elim) (.inr ⟨fun _ h => h, fun listed' j hdc' hun hj hne => ?_⟩) n listed a w hdc (Region.free_spec ho h4.1) hmem hy hS (by omega) (ih _ _ h')
        obtain ⟨hjun, oj, hoj, hall⟩ := mem_ready.1 hj
        rcases h4.2 j (Array.getElem?_eq_some_iff.1 hoj).1 with h6 | h6
        · exact h6
        · have := reach_spec hdc' _ _ _ h6 ⟨oj, hoj, hall⟩
          have hs : i < listed'.size := by
            rcases Nat.lt_or_ge i listed'.size with h' | h'
            · exact h'
            · simp [Array.getElem?_eq_none h'] at this
          simp [hs] at this hun
          rw [this] at hun; cases hun
      · have hk2 : ¬ k ≤ 1 := by omega
        simp only [wpSg, if_neg hk0, if_neg hk1] at h
        simp only [if_neg hk2, beq_iff_eq] at h4
        have hr : Region.ready md ops listed = [i] := by
          cases hl : Region.ready md ops listed with
          | nil => rw [hl] at hmem; cases hmem
          | cons x xs =>
            rw [hl] at h4 hmem
            have : xs = [] := by simpa using h4
            subst this
            simp at hmem; subst hmem; rfl
        refine ⟨fun h0 => (by rw [hr] at h0; cases h0), fun j hj => ?_⟩
        rw [hr] at hj
        simp at hj; subst hj
        unfold wpOp
        simp only [ho]
        split
        · rename_i hw
          rw [if_pos hw] at h
          exact .inl (Oper.wp_mono (fun a' w' ⟨q1, q2⟩ => ⟨⟨fun e => by omega, fun e => q1 (by omega)⟩, ih _ _ q2⟩) h)
        · rename_i hw
          rw [if_neg hw] at h
          exact ⟨⟨fun e => trivial, fun e => h.1 (by omega)⟩, ih _ _ h.2⟩
end
/-- The rest of a drawn region, over environments; L0: what stood at its head. -/
def dq (P : Program) (N : Nat) (ops : Array Oper) (L0 : List HP) (l : List (Oper × Nat)) (env : Env) (w : World) (K : Env → World → Prop) : Prop :=
  ∀ Q : Exit → Act → World → Prop, (∀ env a w, St N env a → K env w → Q .normal a w) → ∀ a, St N env a → wpSg P ops Q (Own L0) l a w
section
variable {P : Program} {N : Nat} {ops : Array Oper} {L0 : List HP} {r : List (Oper × Nat)} {env : Env} {w : World} {K : Env → World → Prop} {QE : Exit → Env → World → Prop}
theorem cw_draw {id : Nat} {l : List Oper} {L0 : List HP} (σ : List (Nat × Nat)) (hm : P.follows .mixedOrders = true) (hc : (Region.noSelect l.toArray && chkσ .any l.toArray σ σ (Array.replicate l.length false) && decide (σ.length ≤ l.length)) = true)
    (hp : ∀ c env w, ¬ QE (.panic c) env w) (H : Own L0 w) (h : ∀ w', Own L0 w' → dq P N l.toArray L0 (opsOf l.toArray σ) env w' (QE .normal)) : cw P N (.region id l.toArray true) env w QE := by
  intro a hs
  simp only [Bool.and_eq_true, decide_eq_true_eq] at hc
  refine wp_region_any hm (wpAny_of_M _ _ _ _ (wpM_of_Sg (S := Own L0) (τ := σ) hc.1.1 (fun c a w ⟨env, _, q⟩ => hp _ _ _ q) σ _ a _ _ DC.none (by simpa using hc.1.2) (by simpa using hc.2) ?_))
  exact h { w with drawn := w.drawn + 1 } H.drew (up N QE) (fun env' a' w' hs' h' => ⟨env', hs', h'⟩) a hs
theorem dq_nil (h : K env w) : dq P N ops L0 [] env w K := fun Q hK a hs => hK _ _ _ hs h
mutual
def rund (P : Program) (N : Nat) (ops : Array Oper) : List (Oper × Nat) → Env → List (Oper × Nat) × Env
  | [], env => ([], env)
  | (o, k) :: r, env =>
    match o.guard with
    | none =>
      if k = 0 then
        match pv P o.op env with
        | some v => rund P N ops r (put N env o.dst v)
        | none => ((o, k) :: r, env)
      else ((o, k) :: r, env)
    | some (j, want) =>
      match dstOf ops j with
      | none => ((o, k) :: r, env)
      | some d =>
        match look env d with
        | some (.bool b) => rundG P N ops b want o k r ((d, .bool b) :: env)
        | some (.tuple _) => if k = 0 then rund P N ops r (put N env o.dst undef) else ((o, k) :: r, env)
        | _ => ((o, k) :: r, env)
  termination_by l _ => 2 * l.length
def rundG (P : Program) (N : Nat) (ops : Array Oper) (b want : Bool) (o : Oper) (k : Nat) (r : List (Oper × Nat)) (env : Env) : List (Oper × Nat) × Env :=
  if b = want then
    if k = 0 then
      match pv P o.op env with
      | some v => rund P N ops r (put N env o.dst v)
      | none => ((bare o, k) :: r, env)
    else ((bare o, k) :: r, env)
  else if k = 0 then rund P N ops r (put N env o.dst undef)
  else ((o, k) :: r, env)
  termination_by 2 * r.length + 1
end
theorem yielded_look {j : Nat} {d : Tmp} {a : Act} {u : Value} (hd : dstOf ops j = some d) (hs : St N env a) (hu : look env d = some u) : yielded ops a.tmps j = match u with | .bool b => some b | _ => none := by
  unfold yielded
  rw [show (ops[j]?).bind (·.dst) = some d from hd]
  simp only [Option.bind_some, hs.2.2 _ _ hu]
  cases u <;> rfl
theorem dq_step0 {o : Oper} {v : Value} (hv : pv P o.op env = some v) (hw : ∀ a, St N env a → Region.wanted o (yielded ops a.tmps) = true) (h : dq P N ops L0 r (put N env o.dst v) w K) : dq P N ops L0 ((o, 0) :: r) env w K := by
  intro Q hK a hs
  simp only [wpSg, if_true]
  exact ⟨v, .inl ⟨hw a hs, fun w _ => pv_sound hs hv w⟩, h Q hK _ (hs.put _ _)⟩
theorem dq_pass0 {o : Oper} {k : Nat} (hk : k = 0) (hw : ∀ a, St N env a → Region.wanted o (yielded ops a.tmps) = false) (h : dq P N ops L0 r (put N env o.dst undef) w K) : dq P N ops L0 ((o, k) :: r) env w K := by
  intro Q hK a hs
  subst hk
  simp only [wpSg, if_true]
  exact ⟨undef, .inr ⟨hw a hs, rfl⟩, h Q hK _ (hs.put _ _)⟩
theorem dq_pass1 {o : Oper} (H : Own L0 w) (hw : ∀ a, St N env a → Region.wanted o (yielded ops a.tmps) = false) (h : dq P N ops L0 r (put N env o.dst undef) w K) : dq P N ops L0 ((o, 1) :: r) env w K := by
  intro Q hK a hs
  simp only [wpSg, if_true, Nat.one_ne_zero, if_false]
  exact ⟨undef, .inr ⟨hw a hs, rfl⟩, H, h Q hK _ (hs.put _ _)⟩
theorem dq_bare {o : Oper} {k : Nat} (hw : ∀ a, St N env a → Region.wanted o (yielded ops a.tmps) = true) (h : dq P N ops L0 ((bare o, k) :: r) env w K) : dq P N ops L0 ((o, k) :: r) env w K := by
  intro Q hK a hs
  have h' := h Q hK a hs
  have hw' : Region.wanted (bare o) (yielded ops a.tmps) = true := by simp [Region.wanted, bare]
  unfold wpSg at h' ⊢
  by_cases hk0 : k = 0
  · rw [if_pos hk0] at h' ⊢
    obtain ⟨v, hy, h2⟩ := h'
    refine ⟨v, ?_, h2⟩
    rcases hy with ⟨_, hy⟩ | ⟨hy, _⟩
    · exact .inl ⟨hw a hs, hy⟩
    · rw [hw'] at hy; cases hy
  · rw [if_neg hk0] at h' ⊢
    by_cases hk1 : k = 1
    · rw [if_pos hk1] at h' ⊢
      obtain ⟨v, hy, h2⟩ := h'
      refine ⟨v, ?_, h2⟩
      rcases hy with ⟨_, hy⟩ | ⟨hy, _⟩
      · exact .inl ⟨hw a hs, hy⟩
      · rw [hw'] at hy; cases hy
    · rw [if_neg hk1] at h' ⊢
      rw [if_pos hw'] at h'
      rw [if_pos (hw a hs)]
      exact h'
theorem dq_again {l : List (Oper × Nat)} {d : Nat} {v : Value} (h : look env d = some v) (q : dq P N ops L0 l ((d, v) :: env) w K) : dq P N ops L0 l env w K :=
  fun Q hK a hs => q Q hK a (hs.again h)
theorem dq_run : ∀ {l : List (Oper × Nat)} {env : Env}, dq P N ops L0 (rund P N ops l env).1 (rund P N ops l env).2 w K → dq P N ops L0 l env w K
  | [], env, h => by rw [rund] at h; exact h
  | (o, k) :: r, env, h => by
    rw [rund] at h
    split at h
    · rename_i hg
      by_cases hk : k = 0
      · subst hk
        rw [if_pos rfl] at h
        split at h
        · rename_i v hv; exact dq_step0 hv (fun a _ => by simp [Region.wanted, hg]) (dq_run h)
        · exact h
      · rw [if_neg hk] at h; exact h
    · rename_i j want hg
      split at h
      · exact h
      · rename_i d hd
        split at h
        · rename_i b hb
          refine dq_again hb ?_
          have hl : look ((d, Value.bool b) :: env) d = some (.bool b) := by simp [look]
          rw [rundG] at h
          by_cases hbw : b = want
          · rw [if_pos hbw] at h
            have hw : ∀ a, St N ((d, Value.bool b) :: env) a → Region.wanted o (yielded ops a.tmps) = true := fun a hs => by simp [Region.wanted, hg, yielded_look hd hs hl, hbw]
            by_cases hk : k = 0
            · subst hk
              rw [if_pos rfl] at h
              split at h
              · rename_i v hv; exact dq_step0 hv hw (dq_run h)
              · exact dq_bare hw h
            · rw [if_neg hk] at h; exact dq_bare hw h
          · rw [if_neg hbw] at h
            by_cases hk : k = 0
            · rw [if_pos hk] at h
              exact dq_pass0 hk (fun a hs => by simp [Region.wanted, hg, yielded_look hd hs hl, hbw]) (dq_run h)
            · rw [if_neg hk] at h; exact h
        · rename_i b hb
          by_cases hk : k = 0
          · rw [if_pos hk] at h
            exact dq_pass0 hk (fun a hs => by simp [Region.wanted, hg, yielded_look hd hs hb]) (dq_run h)
          · rw [if_neg hk] at h; exact h
        · exact h
theorem dq_G {b want : Bool} {o : Oper} {k : Nat} {r : List (Oper × Nat)} {env : Env} {d : Nat}
    (h1 : b = true → dq P N ops L0 (rundG P N ops true want o k r ((d, .bool true) :: env)).1 (rundG P N ops true want o k r ((d, .bool true) :: env)).2 w K)
    (h2 : b = false → dq P N ops L0 (rundG P N ops false want o k r ((d, .bool false) :: env)).1 (rundG P N ops false want o k r ((d, .bool false) :: env)).2 w K) :
    dq P N ops L0 (rundG P N ops b want o k r ((d, .bool b) :: env)).1 (rundG P N ops b want o k r ((d, .bool b) :: env)).2 w K := by
  cases b
  · exact h2 rfl
  · exact h1 rfl
def dr (P : Program) (N : Nat) (ops : Array Oper) (L0 : List HP) (l : List (Oper × Nat)) (env : Env) (w : World) (K : Env → World → Prop) : Prop := dq P N ops L0 (rund P N ops l env).1 (rund P N ops l env).2 w K
theorem dr.q {l : List (Oper × Nat)} (h : dr P N ops L0 l env w K) : dq P N ops L0 l env w K := dq_run h
/-- A reading operation whose guard says no. -/
theorem dq_skip {o : Oper} {j : Nat} {want : Bool} {d : Tmp} {u : Value} (H : Own L0 w) (hg : o.guard = some (j, want)) (hd : dstOf ops j = some d) (hu : look env d = some u) (hn : (match u with | .bool b => b != want | _ => true) = true) (h : dr P N ops L0 r (put N env o.dst undef) w K) : dq P N ops L0 ((o, 1) :: r) env w K :=
  dq_pass1 H (fun a hs => by
    simp only [Region.wanted, hg, yielded_look hd hs hu]
    cases u <;> simp_all) h.q
/-- What an operation reads in whatever world holds L. -/
def Rd (P : Program) (N : Nat) (env : Env) (L : List HP) (o : Oper) (v : Value) : Prop := ∀ a, St N env a → ∀ w, Own L w → (execOp a.eval o).run P w = .ok (.value v) w
theorem dq_rd {o : Oper} {v : Value} (H : Own L0 w) (hr : Rd P N env L0 o v) (hg : o.guard = none) (h : dr P N ops L0 r (put N env o.dst v) w K) : dq P N ops L0 ((o, 1) :: r) env w K := by
  intro Q hK a hs
  simp only [wpSg, if_true, Nat.one_ne_zero, if_false]
  exact ⟨v, .inl ⟨by simp [Region.wanted, hg], fun w' H' => hr a hs w' H'⟩, H, h.q Q hK _ (hs.put _ _)⟩
theorem lq_rd {l : List Oper} {L : List HP} {o : Oper} {v : Value} (H : Own L w) (hr : Rd P N env L o v) (hg : o.guard = none) (h : lr P N ops l (put N env o.dst v) w K) : lq P N ops (o :: l) env w K :=
  lq_val hg (fun a hs => hr a hs w H) h
theorem wp_out {o : Oper} {a : Act} {w : World} {K' : Act → World → Prop} {Q Q' : Exit → Act → World → Prop} (hp : ∀ c a w, Q' (.panic c) a w → Q (.panic c) a w) (ho : LetsOut Q' → LetsOut Q) (h : o.wp P a w K' Q') : o.wp P a w K' Q := by
  unfold Oper.wp at *
  generalize (execOp a.eval o).run P w = r at *
  cases r with
  | ok n w' =>
    cases n <;> simp only [Oper.upon] at h ⊢ <;> first
      | exact h
      | (refine Calls.mono h fun e w'' q => ?_
         cases e <;> first | exact q | exact hp _ _ _ q | exact ho q)
  | halt x w' => cases x <;> simp only [Oper.upon] at h ⊢ <;> exact hp _ _ _ h
/-- An operation that acts: as in a plain region. -/
theorem dq_act {o : Oper} {k : Nat} (hk : 2 ≤ k) (hg : o.guard = none) (h : lq P N ops [o] env w fun env' w' => (k = 2 → Own L0 w') ∧ dr P N ops L0 r env' w' K) : dq P N ops L0 ((o, k) :: r) env w K := by
  intro Q hK a hs
  have h' := h (fun e a' w' => match e with | .normal => (k = 2 → Own L0 w') ∧ wpSg P ops Q (Own L0) r a' w' | .panic c => Q (.panic c) a' w' | _ => False) (fun env' a' w' hs' q => ⟨q.1, q.2.q Q hK _ hs'⟩) a hs
  have hw : Region.wanted o (yielded ops a.tmps) = true := by simp [Region.wanted, hg]
  simp only [wpSg]
  rw [if_neg (by omega), if_neg (by omega), if_pos hw]
  unfold wpList at h'
  rw [if_pos hw] at h'
  rcases h' with h' | ⟨_, x, y, h'⟩
  · refine wp_out (Q' := fun e a' w' => match e with | .normal => (k = 2 → Own L0 w') ∧ wpSg P ops Q (Own L0) r a' w' | .panic c => Q (.panic c) a' w' | _ => False) (fun c a w q => q) (fun ⟨_, _, q⟩ => q.elim) (Oper.wp_mono (fun a' w' q => ?_) h')
    simpa only [wpList] using q
  · exact h'.elim
end
end Go.Rp
/- Slices: rows that are read, rows that are owned, append. -/
set_option linter.unusedVariables false
set_option linter.unusedSimpArgs false
namespace Go.Rp
def cellH (h : Hp) (b off : Nat) : Option Value := match h b with | some (.cells c _ _) => c[off]? | _ => none
theorem cellH_le {h g : Hp} (l : Hp.le h g) {b off : Nat} {v : Value} (e : cellH h b off = some v) : cellH g b off = some v := by
  unfold cellH at *
  cases x : h b with
  | none => simp [x] at e
  | some o => rw [l.1 _ _ x]; rw [x] at e; exact e
theorem cellH_hp {w : World} {b off : Nat} {v : Value} (e : cellH (hp w) b off = some v) : w.cell? ⟨b, off, none⟩ = some v := by
  unfold cellH hp at e
  unfold World.cell?
  cases x : w.heap[b]? with
  | none => simp [x] at e
  | some o => cases o <;> simp_all
def bO : Option Addr → Nat × Nat
  | some a => (a.block, a.off)
  | none => (0, 0)
/-- Where an element's cell lies. -/
def elA (ao : Option Addr) (sz i k : Nat) : Addr := ⟨(bO ao).1, (bO ao).2 + i * sz + k, none⟩
theorem elA_add (ao : Option Addr) (sz i k n : Nat) : (elA ao sz i k).add n = elA ao sz i (k + n) := by
  simp only [elA, Addr.add_lit, Nat.add_assoc]
/-- How an element is laid in cells. -/
structure Enc (α : Type) where
  f : α → List Value
  n : Nat
  len : ∀ x, (f x).length = n
  one : ∀ x, ∀ u ∈ f x, u.oneCell' = true
  pos : 0 < n
/-- A row of elements, as it is read. -/
def Row {α : Type} (ao : Option Addr) (enc : Enc α) (xs : List α) : HP := fun h =>
  (xs = [] ∨ ∃ b off, ao = some ⟨b, off, none⟩) ∧ ∀ i x, xs[i]? = some x → ∀ k v, (enc.f x)[k]? = some v → cellH h (elA ao enc.n i k).block (elA ao enc.n i k).off = some v
theorem Row.mono {α : Type} {ao : Option Addr} {enc : Enc α} {xs : List α} {h g : Hp} (l : Hp.le h g) (e : Row ao enc xs h) : Row ao enc xs g :=
  ⟨e.1, fun i x hx k v hv => cellH_le l (e.2 i x hx k v hv)⟩
/-- An element type: its size in cells; its zero value has as many; not many bytes. -/
class ElT (P : Program) (T : TypeId) (sz : outParam Nat) : Prop where out : ∃ i z, P.info? T = some i ∧ i.zero = some z ∧ i.size = sz ∧ z.cells.size = sz ∧ i.bytes ≤ 128 ∧ 0 < sz
/-- A slice of the call's own: nil, or at the head of a block that nobody else has. -/
def Ow (T : TypeId) (x : Value × Nat) (cs : List Value) : HP := fun h => ∃ n, cs.length = n * x.2 ∧
  ((x.1 = .slice none 0 0 ∧ n = 0) ∨ ∃ (b cap : Nat) (cells : List Value), x.1 = .slice (some ⟨b, 0, none⟩) n cap ∧ n ≤ cap ∧ cells.length = cap * x.2 ∧ cells.take (n * x.2) = cs ∧ Ce b (cells, T) h)
section
variable {P : Program} {w : World}
theorem setR_take : ∀ (vs l : List Value) (off : Nat), off + vs.length ≤ l.length → (setR l off vs).take (off + vs.length) = l.take off ++ vs
  | [], l, off, h => by simp [setR]
  | v :: vs, l, off, h => by
    simp only [List.length_cons] at h
    simp only [setR]
    have := setR_take vs (l.set off v) (off + 1) (by simp; omega)
    rw [show off + (v :: vs).length = off + 1 + vs.length by simp; omega, this]
    rw [List.take_succ_eq_append_getElem (by simp; omega)]
    have e : List.take off (l.set off v) = List.take off l := by
      apply List.ext_getElem?
      intro j
      simp only [List.getElem?_take]
      split
      · rw [List.getElem?_set_ne (by omega)]
      · rfl
    simp [e]
theorem ap_run {t tx ty T sz m : Nat} {v xv : Value} {cs news : List Value} {M : List HP} (H : Own (Ow T (v, sz) cs :: M) w) (ht : P.underlying t = some (.slice T)) [el : ElT P T sz] (hs : Src P sz tx xv m news w)
    (hb : cs.length + news.length ≤ 1099511627776) : ∃ v' w', (Builtin.append_ #[t, tx] ty #[v, xv]).run P w = .ok v' w' ∧ Own (Ow T (v', sz) (cs ++ news) :: M) w' := by
  obtain ⟨i, z, hi, hz, hsz, hzc, hby, hpos⟩ := el.out
  have H0 := H
  obtain ⟨h1, h2, d, a, c, ⟨n, hn, hv⟩, y⟩ := H
  simp only at hn hv
  have hnm : n + m ≤ 1099511627776 := by
    have e1 := hs.newsLen
    have e2 : n ≤ n * sz := Nat.le_mul_of_pos_right n hpos
    have e3 : m ≤ m * sz := Nat.le_mul_of_pos_right m hpos
    omega
  have hbytes : (n + m) * i.bytes ≤ 140737488355328 := Nat.le_trans (Nat.mul_le_mul hnm hby) (by omega)
  have hdrew : Own (Ow T (v, sz) cs :: M) w.drew := H0.drew
  have newrow : ∀ (olds : List Value) (base : Option Addr) (sCap : Nat), v = .slice base n sCap → olds = cs → (Builtin.firstCells i.size n (.slice base n sCap)).run P w.drew = .ok olds.toArray w.drew → sCap < n + m →
      ∃ v' w', (Builtin.append_ #[t, tx] ty #[v, xv]).run P w = .ok v' w' ∧ Own (Ow T (v', sz) (cs ++ news) :: M) w' := by
    intro olds base sCap ev eo hold hg
    subst eo
    have hr := run_append_grow_src (P := P) w t tx ty T i z ht hi hz base n sCap olds hold xv m news (by rw [hsz]; exact hs) hg (by omega) (growslice_fits hg hbytes)
    have hcap := grownCap_ge w (n + m) sCap T
    refine ⟨_, _, by rw [ev]; exact hr, ?_⟩
    have HM : Own M w.drew := Own.drew (Sep.tl H0)
    refine Own.new (w := w.drew) _ (fun h e => ?_) HM
    refine ⟨n + m, by simp [hn, hs.newsLen, Nat.add_mul], .inr ⟨w.heap.size, _, (olds ++ news) ++ (Builtin.zeroCells z.cells (grownCap w (n + m) sCap T - (n + m))).toList, rfl, hcap, ?_, ?_, ?_⟩⟩
    · simp only [List.length_append, hn, hs.newsLen, Builtin.zeroCells, Array.length_toList, Array.size_map, Array.size_range, hzc]
      rw [← Nat.add_mul, ← Nat.add_mul]
      congr 1; omega
    · rw [List.take_append_of_le_length (by simp [hn, hs.newsLen, Nat.add_mul])]
      rw [List.take_of_length_le (by simp [hn, hs.newsLen, Nat.add_mul])]
    · rw [show (w.drew.heap.size) = w.heap.size from rfl] at e
      show h w.heap.size = _
      rw [e]
      congr 2
      rw [← Array.toList_inj]; simp
  rcases hv with ⟨rfl, rfl⟩ | ⟨b, cap, cells, rfl, hncap, hlen, htake, hblk⟩
  · have hcs : cs = [] := List.eq_nil_of_length_eq_zero (by simpa using hn)
    subst hcs
    by_cases hm : m = 0
    · subst hm
      have hnews : news = [] := List.eq_nil_of_length_eq_zero (by simpa using hs.newsLen)
      subst hnews
      refine ⟨.slice none 0 0, w, ?_, H0⟩
      have hc := hs.cells
      rw [← hsz] at hc
      rcases hs.kind with ⟨e', hk⟩ | hk <;> simp [Builtin.append_, run_underlying ht, run_underlying hk, sizeOf, typeInfo, hi, hs.len, hc]
    · exact newrow [] none 0 rfl rfl (run_firstCells_none w.drew i.size 0 0 0) (by omega)
  · have HB : Own (Ce b (cells, T) :: M) w := ⟨h1, h2, d, a, c, hblk, y⟩
    by_cases hroom : n + m ≤ cap
    · have hlen2 : n * sz + news.length ≤ cells.length := by
        rw [hs.newsLen, hlen, ← Nat.add_mul]; exact Nat.mul_le_mul_right _ hroom
      obtain ⟨w', hst, HB'⟩ := st_run (P := P) news 0 (n * sz) cells w HB hs.one (by omega)
      rw [Nat.add_zero] at HB'
      refine ⟨.slice (some ⟨b, 0, none⟩) (n + m) cap, w', ?_, ?_⟩
      · have hc := hs.cells
        rw [← hsz] at hc hst
        rcases hs.kind with ⟨e', hk⟩ | hk <;> simp [Builtin.append_, run_underlying ht, run_underlying hk, sizeOf, typeInfo, hi, hs.len, hroom, hc, Addr.add_lit, hst]
      · refine Sep.imp (fun h hh => ?_) HB'
        refine ⟨n + m, by simp [hn, hs.newsLen, Nat.add_mul], .inr ⟨b, cap, _, rfl, hroom, by rw [setR_length]; exact hlen, ?_, hh⟩⟩
        have := setR_take news cells (n * sz) hlen2
        rw [hs.newsLen, ← Nat.add_mul] at this
        rw [this, htake]
    · refine newrow cs (some ⟨b, 0, none⟩) cap rfl rfl ?_ (by omega)
      refine run_firstCells_some w.drew i.size n ⟨b, 0, none⟩ n cap cs (by rw [hsz]; exact hn) (fun j u hu => ?_)
      rw [Addr.add_lit, Nat.zero_add]
      have : cells[j]? = some u := by
        rw [← htake] at hu
        rw [List.getElem?_take] at hu
        split at hu
        · exact hu
        · cases hu
      show w.cell? _ = _
      rw [HB.cell]; exact this
end
end Go.Rp
