/-
  Map ranges, ranges over functions, drawn regions whose loud operations stand in no order.
-/
import Derived.Lib.Overlaps
import Derived.Maps.RangeRun
import Derived.RangeFuncSeq
import Derived.TacticsIn
import Derived.RangeFuncLeaves
import Derived.WalkKit
import Derived.Shelf.GgSortFunc.InsertionK
import Derived.Test.YtidoehfmbnngpaaGreatLb
/- Keys that are structs of a text and a number. -/
set_option linter.unusedVariables false
set_option linter.unusedSimpArgs false
set_option maxRecDepth 100000
namespace Go.Rp
theorem part_plain {P : Program} {t : TypeId} {cs : Array Value} {off : Nat} {v : Value} {w : World} (h : AG P t = some false) (hv : cs[off]? = some v) : (part t cs off).run P w = .ok v w := by
  unfold part
  rw [Sem.run_bind, AG_run h]
  simp [Result.andThen, hv]
theorem eql_str {P : Program} {t : TypeId} (hd : P.underlying t = some .string) (a b : ByteArray) (d : Nat) (w : World) : (Op.equalIn (d + 1) t (.string a) (.string b)).run P w = .ok (decide (a = b)) w := by
  unfold Op.equalIn
  rw [Sem.run_bind, run_underlying hd]
  show Result.ok (a == b) w = _
  rw [beq_bytes]
theorem eql_int {P : Program} {t : TypeId} {k : IntKind} (hd : P.underlying t = some (.int k)) (a b : Int) (d : Nat) (w : World) : (Op.equalIn (d + 1) t (.int k a) (.int k b)).run P w = .ok (decide (a = b)) w := by
  unfold Op.equalIn
  rw [Sem.run_bind, run_underlying hd]
  simp only [Result.andThen, if_true]
  rw [beq_ints]; rfl
structure St2 (P : Program) (t : TypeId) (f1 f2 : Field) : Prop where
  hu : P.underlying t = some (.struct #[f1, f2])
  n1 : (f1.name != "_") = true
  n2 : (f2.name != "_") = true
  st : P.stoodInHeld t = false
  h1 : P.underlying f1.type = some .string
  h2 : P.underlying f2.type = some (.int .u64)
  o1 : f1.offset = 0
  o2 : f2.offset = 1
theorem St2.eq {P : Program} {t : TypeId} {f1 f2 : Field} (s : St2 P t f1 f2) (a b : ByteArray) (i j : Int) (w : World) :
    (Op.equal t (.agg #[.string a, .int .u64 i]) (.agg #[.string b, .int .u64 j])).run P w = .ok (decide ((a, i) = (b, j))) w := by
  show (Op.equalIn (9998 + 1 + 1) t _ _).run P w = _
  have a1 : AG P f1.type = some false := by unfold AG; rw [s.h1]; rfl
  have a2 : AG P f2.type = some false := by unfold AG; rw [s.h2]; rfl
  have m1 : f1.name ≠ "_" := by simpa using s.n1
  have m2 : f2.name ≠ "_" := by simpa using s.n2
  unfold Op.equalIn
  rw [Sem.run_bind, run_underlying s.hu]
  simp only [Result.andThen]
  have p1 : ∀ (c : ByteArray) (k : Int), (part f1.type #[.string c, .int .u64 k] 0).run P w = .ok (.string c) w := fun c k => part_plain a1 rfl
  have p2 : ∀ (c : ByteArray) (k : Int), (part f2.type #[.string c, .int .u64 k] 1).run P w = .ok (.int .u64 k) w := fun c k => part_plain a2 rfl
  have e1 : (Op.equalIn 9999 f1.type (.string a) (.string b)).run P w = _ := eql_str s.h1 a b 9998 w
  have e2 : (Op.equalIn 9999 f2.type (.int .u64 i) (.int .u64 j)).run P w = _ := eql_int s.h2 i j 9998 w
  by_cases hab : a = b
  · subst hab
    by_cases hij : i = j
    · subst hij; simp [Sem.run_bind, Result.andThen, s.st, m1, m2, s.o1, s.o2, p1, p2, e1, e2]
    · simp [Sem.run_bind, Result.andThen, s.st, m1, m2, s.o1, s.o2, p1, p2, e1, e2, hij]
  · simp [Sem.run_bind, Result.andThen, s.st, m1, m2, s.o1, s.o2, p1, p2, e1, e2, hab]
theorem findAsking_of {κ : Type} [DecidableEq κ] {P : Program} {t : TypeId} {ke : κ → Value} {w : World} (hs : ∀ x y, (Op.equal t (ke x) (ke y)).run P w = .ok (decide (x = y)) w) (x : κ) : ∀ (m : List (κ × Value)) (es : List MapEntry) (i : Nat), es.map (fun e => (e.key, e.val)) = m.map (fun p => (ke p.1, p.2)) → (Instr.findAsking t (ke x) es i).run P w = .ok (mix m x i) w
  | [], [], i, _ => by simp [Instr.findAsking, mix]
  | (a, v) :: m, e :: es, i, h => by
    simp only [List.map_cons, List.cons.injEq, Prod.mk.injEq] at h
    obtain ⟨⟨h1, h2⟩, h3⟩ := h
    unfold Instr.findAsking
    rw [Sem.run_bind, h1, hs]
    simp only [Result.andThen, mix]
    by_cases hax : x = a
    · subst hax; simp [h2]
    · simp only [hax, decide_false, if_neg (Ne.symm hax)]
      exact findAsking_of hs x m es (i + 1) h3
  | [], _ :: _, _, h => by simp at h
  | _ :: _, [], _, h => by simp at h
theorem St2.ky {P : Program} {t : TypeId} {f1 f2 : Field} (s : St2 P t f1 f2) : KyT P t (fun (k : ByteArray × Int) => Value.agg #[.string k.1, .int .u64 k.2]) where
  chk := fun w b x => by
    show (Instr.checkKey b (9998 + 1 + 1) t _).run P w = _
    have a1 : AG P f1.type = some false := by unfold AG; rw [s.h1]; rfl
    have a2 : AG P f2.type = some false := by unfold AG; rw [s.h2]; rfl
    have m1 : f1.name ≠ "_" := by simpa using s.n1
    have m2 : f2.name ≠ "_" := by simpa using s.n2
    have p1 : (part f1.type #[.string x.1, .int .u64 x.2] 0).run P w = .ok (.string x.1) w := part_plain a1 rfl
    have p2 : (part f2.type #[.string x.1, .int .u64 x.2] 1).run P w = .ok (.int .u64 x.2) w := part_plain a2 rfl
    have c1 : (Instr.checkKey b 9999 f1.type (.string x.1)).run P w = .ok () w := by show (Instr.checkKey b (9998 + 1) _ _).run P w = _; unfold Instr.checkKey; rw [Sem.run_bind, run_underlying s.h1]; rfl
    have c2 : (Instr.checkKey b 9999 f2.type (.int .u64 x.2)).run P w = .ok () w := by show (Instr.checkKey b (9998 + 1) _ _).run P w = _; unfold Instr.checkKey; rw [Sem.run_bind, run_underlying s.h2]; rfl
    unfold Instr.checkKey
    rw [Sem.run_bind, run_underlying s.hu]
    simp only [Result.andThen]
    simp [Sem.run_bind, Result.andThen, m1, m2, s.o1, s.o2, p1, p2, c1, c2]
  find := fun w x m es h => by
    unfold Instr.findKey
    rw [Sem.run_bind, run_underlying s.hu]
    simp only [Result.andThen]
    have hn : ∀ (es : List MapEntry) (m : List ((ByteArray × Int) × Value)) (i : Nat), es.map (fun e => (e.key, e.val)) = m.map (fun p => ((fun (k : ByteArray × Int) => Value.agg #[.string k.1, .int .u64 k.2]) p.1, p.2)) → Instr.findNow (.struct #[f1, f2]) (.agg #[.string x.1, .int .u64 x.2]) es i = if es = [] then some none else none := by
      intro es m i h
      cases es with
      | nil => rfl
      | cons e es => rfl
    rw [hn es m 0 h]
    by_cases he : es = []
    · subst he
      have hm : m = [] := by simpa using h.symm
      subst hm; rfl
    · rw [if_neg he]
      exact findAsking_of (fun x y => by
        have := s.eq x.1 y.1 x.2 y.2 w
        exact this) x m es 0 h
  same := fun x => by
    show (#[Value.string x.1, .int .u64 x.2].size == #[Value.string x.1, .int .u64 x.2].size && (#[Value.string x.1, .int .u64 x.2].toList.zip #[Value.string x.1, .int .u64 x.2].toList).all fun p => Instr.sameBits 9999 p.1 p.2) = true
    have e1 : Instr.sameBits 9999 (.string x.1) (.string x.1) = true := by show (x.1 == x.1) = true; rw [beq_bytes]; exact decide_eq_true rfl
    have e2 : Instr.sameBits 9999 (.int .u64 x.2) (.int .u64 x.2) = true := by show (IntKind.u64 == IntKind.u64 && x.2 == x.2) = true; simp
    simp [e1, e2]
end Go.Rp
/- Copy, append of a make, slices.overlaps: rows of one cell an element. -/
set_option linter.unusedVariables false
set_option linter.unusedSimpArgs false
namespace Go.Rp
theorem Own.osOpen {α : Type} {T : TypeId} {ao : Option Addr} {n c : Nat} {enc : Enc α} {xs : List α} {L : List HP} {w : World} (H : Own (Os T enc (.slice ao n c) xs :: L) w) (hne : xs ≠ []) :
    ∃ b cells, ao = some ⟨b, 0, none⟩ ∧ n = xs.length ∧ n ≤ c ∧ cells.length = c * enc.n ∧ cells.take (n * enc.n) = xs.flatMap enc.f ∧ Own (Ce b (cells, T) :: L) w := by
  obtain ⟨h1, h2, d, a, q, ⟨⟨ao', c', e⟩, n', e1, e2⟩, y⟩ := H
  cases e
  rw [flatMap_length] at e1
  have hn' : xs.length = n' := Nat.eq_of_mul_eq_mul_right enc.pos e1
  subst hn'
  rcases e2 with ⟨e3, e4⟩ | ⟨b, cap, cells, e3, e4, e5, e6, e7⟩
  · exact absurd (List.eq_nil_of_length_eq_zero e4) hne
  · cases e3
    exact ⟨b, cells, rfl, rfl, e4, e5, e6, h1, h2, d, a, q, e7, y⟩
theorem Own.osMake {α : Type} {T : TypeId} {b n c : Nat} {cells : List Value} {L : List HP} {w : World} (enc : Enc α) (xs : List α) (H : Own (Ce b (cells, T) :: L) w) (h1 : cells.length = c * enc.n) (h2 : n = xs.length) (h3 : n ≤ c) (h4 : cells.take (n * enc.n) = xs.flatMap enc.f) :
    Own (Os T enc (.slice (some ⟨b, 0, none⟩) n c) xs :: L) w := by
  subst h2
  exact Sep.imp (fun h hh => ⟨⟨_, _, rfl⟩, xs.length, flatMap_length enc xs, .inr ⟨b, c, cells, rfl, h3, h1, h4, hh⟩⟩) H
theorem Own.swap {A B : HP} {L : List HP} {w : World} (H : Own (A :: B :: L) w) : Own (B :: A :: L) w := Sep.swap H
theorem setR_spec : ∀ (vs l : List Value) (off : Nat), off + vs.length ≤ l.length → setR l off vs = l.take off ++ vs ++ l.drop (off + vs.length) := fun vs l off h => by
  have e : l = l.take off ++ (l.drop off).take vs.length ++ l.drop (off + vs.length) := by
    rw [List.append_assoc, ← List.drop_drop, List.take_append_drop, List.take_append_drop]
  have h1 : (l.take off).length = off := by simp; omega
  have := setR_all vs (l.take off) ((l.drop off).take vs.length) (l.drop (off + vs.length)) (by simp; omega)
  rw [← e, h1] at this
  exact this
section
variable {P : Program} {N : Nat} {ops : Array Oper} {r : List Oper} {env : Env} {w : World} {K : Env → World → Prop} {L0 : List HP} {rd : List (Oper × Nat)} {QE : Exit → Env → World → Prop}
/-- copy, within a block of one's own, from whatever is read. -/
theorem lq_copy {t tx T : Nat} {T' : TypeId} {d s : Operand} {b off n c b2 off2 n2 c2 : Nat} {dst : Option Tmp} {ty : TypeId} {p : String} {af : Array Edge} {l : List Value} {L M : List HP} (news : List Value) (H : Own L w)
    (hd : evo env d = some (.slice (some ⟨b, off, none⟩) n c)) (hs : evo env s = some (.slice (some ⟨b2, off2, none⟩) n2 c2)) [st : SlT P t T] [el : ElT P T 1] [tk : TkC b L l T' M]
    (hlen : news.length = min n2 n) (hread : ∀ j v, news[j]? = some v → w.cell? ⟨b2, off2 + j, none⟩ = some v) (hfit : off + news.length ≤ l.length) (hone : ∀ u ∈ news, u.oneCell' = true)
    (h : ∀ w', Own (Ce b (setR l off news, T') :: M) w' → lr P N ops r (put N env dst (goInt (min n2 n))) w' K) : lq P N ops (⟨dst, .call ⟨.builtin .copy, #[d, s], #[t, tx]⟩, ty, p, af, none⟩ :: r) env w K := by
  obtain ⟨i, z, hi, hz, hsz, hzc, hby, hpos⟩ := el.out
  obtain ⟨w', h1, h2⟩ := st_run (P := P) news 0 off l w (tk.out _ H) hone (by omega)
  rw [Nat.add_zero] at h2
  refine lq_val rfl (fun a hs' => ?_) (h w' h2)
  have hl : (loadCells ⟨b2, off2, none⟩ (min n2 n)).run P w = .ok news.toArray w := by
    have := run_loadCells_list (P := P) w ⟨b2, off2, none⟩ news (fun j v hj => by
      simp only [Addr.add]
      split
      · rename_i e; subst e; simpa using hread 0 v hj
      · exact hread j v hj)
    rw [hlen] at this; exact this
  simp [execOp, resolve, evo_sound hs' hd, evo_sound hs' hs, invoke, builtin, Builtin.copy_, run_underlying st.out, Builtin.lenOf, Builtin.firstCells, sizeOf, typeInfo, hi, hsz, Nat.min_def, Sem.run_bind, Result.andThen]
  simp only [Nat.min_def] at hl
  simp [hl, h1, Result.andThen]
  congr 1
  split <;> omega
theorem run_append_grow_make (t tn ty e : TypeId) (i : TypeInfo) (z : Value) (kn k : IntKind) (ht : P.underlying t = some (.slice e)) (htn : P.underlying tn = some (.int kn)) (hi : P.info? e = some i) (hz : i.zero = some z) (base : Option Addr) (sLen sCap : Nat) (olds : List Value)
    (hold : (Builtin.firstCells i.size sLen (.slice base sLen sCap)).run P w.drew = .ok olds.toArray w.drew) (n : Nat) (h0 : 0 < n * i.size)
    (hg : sCap < sLen + n) (h63 : ((sLen + n : Nat) : Int) ≤ 9223372036854775807) (h48 : n * i.bytes ≤ 281474976710656) (hfit : Builtin.nextslicecap (sLen + n) sCap * i.bytes ≤ 281474976710656) :
    (Builtin.append_ #[t, tn] ty #[.slice base sLen sCap, .int k n]).run P w =
      .ok (.slice (some ⟨w.heap.size, 0, none⟩) (sLen + n) (grownCap w (sLen + n) sCap e))
        (w.drew.alloc (.cells (olds.toArray ++ Builtin.zeroCells z.cells n ++ Builtin.zeroCells z.cells (grownCap w (sLen + n) sCap e - (sLen + n))) e)) := by
  have hn : ¬ (sLen + n ≤ sCap) := by omega
  have h63' : ¬ (9223372036854775807 < ((sLen : Int) + (n : Int))) := by omega
  have h48' : ¬ (281474976710656 < Builtin.nextslicecap (sLen + n) sCap * i.bytes) := by omega
  have hw : IntKind.i64.wrap (n : Int) = n := by rw [wrap_i64]; omega
  have h48i : ¬ (281474976710656 < (n : Int) * (i.bytes : Int)) := by rw [← Int.natCast_mul]; omega
  have h01 : ¬ (n * i.size = 0) := by omega
  have hneg : ¬ ((n : Int) < 0) := by omega
  simp [Builtin.append_, run_underlying ht, run_underlying htn, sizeOf, typeInfo, zeroValue, hi, hz, hn, h63', h48', Question.forced, hold, newRow, grownCap, asInt, asIntOf, hw, h48i, h01, hneg, Sem.run_bind, Result.andThen, Array.append_assoc]
  try rfl
theorem lq_appMake {t tn T : Nat} {T' : TypeId} {kn k : IntKind} {s x : Operand} {b m c n : Nat} {j : Int} {dst : Option Tmp} {ty : TypeId} {p : String} {af : Array Edge} {l : List Value} {L M : List HP} (H : Own L w)
    (hs : evo env s = some (.slice (some ⟨b, 0, none⟩) m c)) (hx : evo env x = some (.int k j)) [st : SlT P t T] [el : ElT P T 1] (htn : P.underlying tn = some (.int kn)) [tk : TkC b L l T' M] (hj : j = (n : Int)) (h0 : 0 < n) (hm : m ≤ l.length) (hg : c < m + n) (hb : m + n ≤ 1099511627776)
    (h : ∀ b' c' cells' w', cells'.length = c' → m + n ≤ c' → cells'.take m = l.take m → Own (Ce b' (cells', T) :: L) w' → lr P N ops r (put N env dst (.slice (some ⟨b', 0, none⟩) (m + n) c')) w' K) :
    lq P N ops (⟨dst, .call ⟨.builtin .append, #[s, x], #[t, tn]⟩, ty, p, af, none⟩ :: r) env w K := by
  subst hj
  obtain ⟨i, z, hi, hz, hsz, hzc, hby, hpos⟩ := el.out
  have HB := tk.out _ H
  have hold : (Builtin.firstCells i.size m (.slice (some ⟨b, 0, none⟩) m c)).run P w.drew = .ok (l.take m).toArray w.drew := by
    refine run_firstCells_some w.drew i.size m ⟨b, 0, none⟩ m c (l.take m) (by simp [hsz]; omega) (fun j u hu => ?_)
    rw [Addr.add_lit, Nat.zero_add]
    show w.cell? _ = _
    rw [Own.cell HB]
    rw [List.getElem?_take] at hu
    split at hu
    · exact hu
    · cases hu
  have hbytes : (m + n) * i.bytes ≤ 140737488355328 := Nat.le_trans (Nat.mul_le_mul hb hby) (by omega)
  have hr := run_append_grow_make (P := P) (w := w) t tn ty T i z kn k st.out htn hi hz (some ⟨b, 0, none⟩) m c (l.take m) hold n (by rw [hsz]; omega) hg (by omega) (Nat.le_trans (Nat.mul_le_mul_right _ (Nat.le_add_left n m)) (Nat.le_trans hbytes (by decide))) (growslice_fits hg hbytes)
  have hcap := grownCap_ge w (m + n) c T
  refine lq_val rfl (fun a hs' => ?_) (h w.heap.size _ ((l.take m) ++ (Builtin.zeroCells z.cells n).toList ++ (Builtin.zeroCells z.cells (grownCap w (m + n) c T - (m + n))).toList) _ ?_ hcap ?_ (Own.new (w := w.drew) (.cells ((l.take m).toArray ++ Builtin.zeroCells z.cells n ++ Builtin.zeroCells z.cells (grownCap w (m + n) c T - (m + n))) T) (fun h' e => ?_) H.drew))
  · simp [execOp, resolve, evo_sound hs' hs, evo_sound hs' hx, invoke, builtin, hr, Sem.run_bind, Result.andThen, World.alloc]
  · simp [Builtin.zeroCells, hzc]; omega
  · rw [List.append_assoc, List.take_append_of_le_length (by simp; omega)]; rw [List.take_take]; simp
  · show h' w.drew.heap.size = _
    rw [e]
    congr 2
    rw [← Array.toList_inj]; simp
/-- clear of a slice in a block of one's own. -/
theorem lq_clear {t T : Nat} {T' : TypeId} {x : Operand} {b off n c : Nat} {z : Value} {dst : Option Tmp} {ty : TypeId} {p : String} {af : Array Edge} {l : List Value} {L M : List HP} (H : Own L w)
    (hx : evo env x = some (.slice (some ⟨b, off, none⟩) n c)) [st : SlT P t T] [el : ElT P T 1] [zv : ZvT P T z] [tk : TkC b L l T' M] (hfit : off + n ≤ l.length) (hz1 : z.cells.toList.all (fun u => u.oneCell') = true)
    (h : ∀ l' w', l'.length = l.length → l'.take off = l.take off → Own (Ce b (l', T') :: M) w' → lr P N ops r (put N env dst (.tuple #[])) w' K) :
    lq P N ops (⟨dst, .call ⟨.builtin .clear, #[x], #[t]⟩, ty, p, af, none⟩ :: r) env w K := by
  obtain ⟨i, z', hi, hz, hsz, hzc, hby, hpos⟩ := el.out
  have hzz : z' = z := by
    have := zv.out
    unfold ZV at this
    rw [hi, Option.bind_some, hz] at this
    cases this; rfl
  subst hzz
  by_cases hn : n = 0
  · subst hn
    refine lq_val rfl (fun a hs' => ?_) (h l w rfl rfl (tk.out _ H))
    simp [execOp, resolve, evo_sound hs' hx, invoke, builtin, Builtin.clear_, run_underlying st.out, Sem.run_bind, Result.andThen]
  · have hlen : (Builtin.zeroCells z'.cells n).toList.length = n := by simp [Builtin.zeroCells, hzc]
    obtain ⟨w', h1, h2⟩ := st_run (P := P) (Builtin.zeroCells z'.cells n).toList 0 off l w (tk.out _ H) (fun u hu => by
      simp only [Builtin.zeroCells, Array.toList_map, List.mem_map] at hu
      obtain ⟨k, _, rfl⟩ := hu
      have hk : k % z'.cells.size < z'.cells.size := Nat.mod_lt _ (by omega)
      rw [getElem!_pos z'.cells _ hk]
      exact List.all_eq_true.1 hz1 _ (by simp)) (by omega)
    rw [Nat.add_zero] at h2
    refine lq_val rfl (fun a hs' => ?_) (h _ w' (setR_length _ _ _) ?_ h2)
    · have hzv : (zeroValue T).run P w = .ok z' w := ZV_run zv.out w
      simp [execOp, resolve, evo_sound hs' hx, invoke, builtin, Builtin.clear_, run_underlying st.out, Sem.run_bind, Result.andThen, hn, hzv, h1]
    · rw [setR_spec _ _ _ (by omega), List.append_assoc, List.take_append_of_le_length (by simp; omega), List.take_take, Nat.min_self]
/-- slices.overlaps of slices in two blocks. -/
class OvT (P : Program) (f : FuncId) (t : outParam TypeId) : Prop where
  out : ∃ fn tR, P.funcs[f]? = some fn ∧ (fn.name == "runtime.NumGoroutine") = false ∧ fn.body.isNone = true ∧ Extern.findNext fn = none ∧ Extern.find fn = some (Extern.SlicesOverlaps.overlaps #[t, t] #[tR])
theorem lq_overlaps {f : FuncId} {t T sz : Nat} {T1 T2 : TypeId} {x y : Operand} {tys : Array TypeId} {b off n c b2 off2 n2 c2 : Nat} {dst : Option Tmp} {ty : TypeId} {p : String} {af : Array Edge} {l l2 : List Value} {L M M2 : List HP} (H : Own L w)
    (hx : evo env x = some (.slice (some ⟨b, off, none⟩) n c)) (hy : evo env y = some (.slice (some ⟨b2, off2, none⟩) n2 c2)) [ov : OvT P f t] [st : SlT P t T] [el : ElT P T sz] [tk : TkC b L l T1 M] [tk2 : TkC b2 M l2 T2 M2] (hne : 0 < l2.length)
    (h : lr P N ops r (put N env dst (.bool false)) w K) : lq P N ops (⟨dst, .call ⟨.value (.func f), #[x, y], tys⟩, ty, p, af, none⟩ :: r) env w K := by
  obtain ⟨fn, tR, h1, h2, h3, h4, h5⟩ := ov.out
  obtain ⟨i, z, hi, hz, hsz, hzc, hby, hpos⟩ := el.out
  have HB := tk.out _ H
  have HB2 := tk2.out _ (Sep.tl HB)
  have hb1 := Own.ceq HB
  have hb2 := Own.ceq HB2
  have hbne : b ≠ b2 := by
    have H3 := Sep.under tk2.out HB
    obtain ⟨g1, g2, d, _, _, e1, g3, g4, _, a3, _, e3, _⟩ := H3
    intro e; subst e
    rcases d.1 b with q | q
    · rw [show g1 b = _ from e1] at q; cases q
    · rw [a3.1 _ _ e3] at q; cases q
  refine lq_val rfl (fun a hs' => ?_) h
  have hrun := Lib.run_overlaps_apart (P := P) w t tR T st.out sz (fun w => by simp [sizeOf, typeInfo, hi, hsz]) ⟨b, off, none⟩ ⟨b2, off2, none⟩ n c n2 c2 hbne T1 T2 l.length l2.length
    (by simp [World.shape?, hb1]) (by simp [World.shape?, hb2]) (by omega) (by simp [World.frozen?, hb1]) (by simp [World.frozen?, hb1])
  have ef : a.eval (.func f) = .func (.func f) #[] #[] := rfl
  simp [execOp, resolve, ef, Deferred.ofValue, evo_sound hs' hx, evo_sound hs' hy, invoke, Sem.run_bind, Result.andThen, run_callFunc_extern h1 h2 h3 h4 h5, hrun]
end
end Go.Rp
/- Ranges over maps. -/
set_option linter.unusedVariables false
set_option linter.unusedSimpArgs false
set_option linter.unusedSectionVars false
namespace Go.Rp
def kvE (e : MapEntry) : Value × Value := (e.key, e.val)
structure It where
  es : Array MapEntry
  ck : Nat
  si : Nat
  se : Array Nat
  c0 : Nat
section
variable {κ β : Type} [DecidableEq κ]
def kvP (E : MEnc κ β) (p : κ × β) : Value × Value := (E.ke p.1, E.ve p.2)
structure ItOk (E : MEnc κ β) (m left : List (κ × β)) (cur : Option (κ × β)) (q : It) : Prop where
  mm : q.es.toList.map (fun e => (e.key, e.val)) = m.map (fun p => (E.ke p.1, E.ve p.2))
  nd : (q.es.toList.map (·.born)).Nodup
  bc : ∀ e ∈ q.es.toList, e.born < q.ck
  kd : (m.map (·.1)).Nodup
  bs : ∀ e ∈ q.es.toList, e.born < q.si
  sc : q.si ≤ q.c0
  sk : q.si ≤ q.ck
  lf : (leftOf q.es q.se).toList.map kvE = left.map (kvP E)
  cu : ∀ p, cur = some p → ∃ e ∈ q.es.toList, ∃ s0 : Array Nat, q.se = s0.push e.born ∧ q.c0 = q.ck ∧ kvE e = kvP E p
def ItC (b r : Nat) (q : It) : HP := fun h => h b = some (.map q.es q.ck) ∧ h r = some (.mapIter (some b) q.si q.se q.c0)
/-- A map and an iterator over it: its entries, those that are still to come, and the one that came last. -/
def Mr (E : MEnc κ β) (b r : Nat) (x : List (κ × β) × List (κ × β) × Option (κ × β)) : HP := fun h => ∃ q, ItOk E x.1 x.2.1 x.2.2 q ∧ ItC b r q h
theorem Own.mr {E : MEnc κ β} {b r : Nat} {x : List (κ × β) × List (κ × β) × Option (κ × β)} {L : List HP} {w : World} (H : Own (Mr E b r x :: L) w) : ∃ q, ItOk E x.1 x.2.1 x.2.2 q ∧ Own (ItC b r q :: L) w := by
  obtain ⟨q, H⟩ := Sep.ex.1 H
  obtain ⟨hq, H⟩ := Sep.pure.1 H
  exact ⟨q, hq, H⟩
theorem Own.mrC {E : MEnc κ β} {b r : Nat} {m left : List (κ × β)} {cur : Option (κ × β)} {q : It} {L : List HP} {w : World} (hq : ItOk E m left cur q) (H : Own (ItC b r q :: L) w) : Own (Mr E b r (m, left, cur) :: L) w :=
  Sep.ex.2 ⟨q, Sep.pure.2 ⟨hq, H⟩⟩
theorem Own.itc {b r : Nat} {q : It} {L : List HP} {w : World} (H : Own (ItC b r q :: L) w) : w.heap[b]? = some (.map q.es q.ck) ∧ w.heap[r]? = some (.mapIter (some b) q.si q.se q.c0) := by
  obtain ⟨h1, h2, d, a, c, x, y⟩ := H
  exact ⟨a.1 _ _ x.1, a.1 _ _ x.2⟩
theorem Own.mrMp {E : MEnc κ β} {b r : Nat} {x : List (κ × β) × List (κ × β) × Option (κ × β)} {L : List HP} {w : World} (H : Own (Mr E b r x :: L) w) : Own (Mp E b x.1 :: L) w :=
  Sep.imp (fun h ⟨q, hq, hc⟩ => ⟨q.es, q.ck, hc.1, hq.mm, hq.nd, hq.bc, hq.kd⟩) H
theorem filter_born {e : MapEntry} : ∀ (l : List MapEntry) (i : Nat), (l.map (·.born)).Nodup → l[i]? = some e → l.filter (fun x => !(x.born == e.born)) = l.eraseIdx i
  | [], _, _, h => by simp at h
  | a :: l, 0, hn, h => by
    simp only [List.getElem?_cons_zero, Option.some.injEq] at h
    subst h
    simp only [List.map_cons, List.nodup_cons] at hn
    rw [List.filter_cons, if_neg (by simp), List.eraseIdx_cons_zero]
    refine List.filter_eq_self.2 fun x hx => ?_
    have : x.born ≠ a.born := fun q => hn.1 (q ▸ List.mem_map.2 ⟨x, hx, rfl⟩)
    simp [this]
  | a :: l, i + 1, hn, h => by
    simp only [List.getElem?_cons_succ] at h
    simp only [List.map_cons, List.nodup_cons] at hn
    have : a.born ≠ e.born := fun q => hn.1 (q ▸ List.mem_map.2 ⟨e, List.mem_of_getElem? h, rfl⟩)
    rw [List.filter_cons, if_pos (by simp [this]), List.eraseIdx_cons_succ, filter_born l i hn.2 h]
theorem left_push (es : Array MapEntry) (seen : Array Nat) (b : Nat) : (leftOf es (seen.push b)).toList = (leftOf es seen).toList.filter (fun x => !(x.born == b)) := by
  unfold leftOf
  rw [Array.toList_filter, Array.toList_filter, List.filter_filter]
  congr 1; funext x
  rw [contains_push, Bool.not_or, Bool.and_comm]
theorem erase_mapA {α γ : Type} (f : α → γ) : ∀ (l : List α) (i : Nat), (l.eraseIdx i).map f = (l.map f).eraseIdx i
  | [], _ => rfl
  | _ :: _, 0 => rfl
  | a :: l, i + 1 => by simp [erase_mapA f l i]
theorem run_rangeMr {P : Program} {E : MEnc κ β} {t kt et : TypeId} {b : Nat} {m : List (κ × β)} {L : List HP} {w : World} (H : Own (Mp E b m :: L) w) (ht : P.underlying t = some (.map kt et)) :
    ∃ w', (Instr.range t (.map (some b))).run P w = .ok (.pointer (some ⟨w.heap.size, 0, none⟩)) w' ∧ Own (Mr E b w.heap.size (m, m, none) :: L) w' := by
  have H0 : ∃ q : Array MapEntry × Nat, (q.1.toList.map (fun e => (e.key, e.val)) = m.map (fun p => (E.ke p.1, E.ve p.2)) ∧ (q.1.toList.map (·.born)).Nodup ∧ (∀ e ∈ q.1.toList, e.born < q.2) ∧ (m.map (·.1)).Nodup) ∧ Own ((fun h => h b = some (.map q.1 q.2)) :: L) w := by
    have H1 : Own ((fun h => ∃ q : Array MapEntry × Nat, (q.1.toList.map (fun e => (e.key, e.val)) = m.map (fun p => (E.ke p.1, E.ve p.2)) ∧ (q.1.toList.map (·.born)).Nodup ∧ (∀ e ∈ q.1.toList, e.born < q.2) ∧ (m.map (·.1)).Nodup) ∧ h b = some (.map q.1 q.2)) :: L) w :=
      Sep.imp (fun h ⟨es, ck, x, y⟩ => ⟨(es, ck), y, x⟩) H
    obtain ⟨q, H2⟩ := Sep.ex.1 H1
    obtain ⟨hq, H3⟩ := Sep.pure.1 H2
    exact ⟨q, hq, H3⟩
  obtain ⟨⟨es, ck⟩, ⟨y2, y3, y4, y5⟩, H3⟩ := H0
  have hb : w.heap[b]? = some (.map es ck) := by
    obtain ⟨h1, h2, d, a, c, x, y⟩ := H3
    exact a.1 _ _ x
  refine ⟨_, run_range_map w t kt et b es ck ht hb, ?_⟩
  have HN := Own.new (B := fun h => h w.heap.size = some (.mapIter (some b) ck #[] ck)) (.mapIter (some b) ck #[] ck) (fun h e => e) H3
  obtain ⟨g1, g2, d, a, c, x, g3, g4, d', a', c', y, z⟩ := HN
  have d13 : Hp.dj g1 g3 := Hp.dj_le d a'
  have d14 : Hp.dj g1 g4 := Hp.dj_le d c'
  refine ⟨Hp.un g1 g3, g4, Hp.dj_symm (Hp.dj_un (Hp.dj_symm d14) (Hp.dj_symm d')), Hp.un_le a (Hp.le_trans a' c), Hp.le_trans c' c, ?_, z⟩
  refine ⟨⟨es, ck, ck, #[], ck⟩, ⟨y2, y3, y4, y5, y4, Nat.le_refl _, Nat.le_refl _, ?_, fun p hp => by cases hp⟩, (Hp.le_un_right d13).1 _ _ y, (Hp.le_un_left g1 g3).1 _ _ x⟩
  have : leftOf es #[] = es := by
    unfold leftOf
    exact Array.filter_eq_self.2 (fun x _ => by simp)
  simp only [this]
  exact y2
theorem run_nextMr {P : Program} {E : MEnc κ β} {b r : Nat} {ty : TypeId} {m left : List (κ × β)} {cur : Option (κ × β)} {L : List HP} {w : World} (H : Own (Mr E b r (m, left, cur) :: L) w) :
    (left = [] ∧ (Instr.next (.pointer (some ⟨r, 0, none⟩)) false ty).run P w = .ok (.tuple #[.bool false]) w) ∨
    ∃ i p w', left[i]? = some p ∧ (Instr.next (.pointer (some ⟨r, 0, none⟩)) false ty).run P w = .ok (.tuple #[.bool true, E.ke p.1, E.ve p.2]) w' ∧ Own (Mr E b r (m, left.eraseIdx i, some p) :: L) w' := by
  obtain ⟨⟨es, ck, si, se, c0⟩, hq, H⟩ := H.mr
  obtain ⟨hb, hr⟩ := H.itc
  simp only at hb hr
  rcases run_next_at (P := P) w ty r b si c0 se es ck hr hb hq.bs hq.sc with ⟨hz, hrun⟩ | ⟨e, he, w1, hw1, hrun⟩
  · refine .inl ⟨?_, hrun⟩
    have h1 : (leftOf es se).toList = [] := List.eq_nil_of_length_eq_zero (by simpa using hz)
    have h4 := hq.lf
    simp only [h1] at h4
    cases left with
    | nil => rfl
    | cons _ _ => simp at h4
  · obtain ⟨i, hi⟩ := List.mem_iff_getElem?.1 he
    have h6 := congrArg (fun l => l[i]?) hq.lf
    simp only [List.getElem?_map, hi, Option.map_some] at h6
    obtain ⟨p, hp, hpe⟩ := Option.map_eq_some_iff.1 h6.symm
    have hpe' : e.key = E.ke p.1 ∧ e.val = E.ve p.2 := by
      simp only [kvP, kvE, Prod.mk.injEq] at hpe; exact ⟨hpe.1.symm, hpe.2.symm⟩
    refine .inr ⟨i, p, _, hp, by rw [hrun, hpe'.1, hpe'.2], ?_⟩
    have H1 : Own (ItC b r ⟨es, ck, si, se, c0⟩ :: L) w1 := by
      rcases hw1 with rfl | rfl
      · exact H
      · exact H.drew
    have hr1 : w1.heap[r]? = some (.mapIter (some b) si se c0) := by rcases hw1 with rfl | rfl <;> exact hr
    have hbr : b ≠ r := fun q => by rw [q, hr] at hb; cases hb
    have H2 : Own (ItC b r ⟨es, ck, si, se.push e.born, ck⟩ :: L) (ChangeMaps.setBlock w1 r (.mapIter (some b) si (se.push e.born) ck)) :=
      Own.turn2 r _ _ hr1 (fun h hA => ⟨_, hA.2⟩) (fun h hA h' hk hn => ⟨by rw [hk b hbr]; exact hA.1, hn⟩) H1
    have hem := mem_left he
    refine Own.mrC (q := ⟨es, ck, si, se.push e.born, ck⟩) ⟨hq.mm, hq.nd, hq.bc, hq.kd, hq.bs, hq.sk, hq.sk, ?_, fun p' hp' => ⟨e, hem.1, se, rfl, rfl, by cases hp'; exact hpe.symm⟩⟩ H2
    simp only
    rw [left_push, filter_born _ i (List.Nodup.sublist (List.Sublist.map _ (by unfold leftOf; rw [Array.toList_filter]; exact List.filter_sublist)) hq.nd) hi, erase_mapA, erase_mapA]
    exact congrArg (fun l => l.eraseIdx i) hq.lf
theorem run_entryMr {P : Program} {E : MEnc κ β} {b r : Nat} {m left : List (κ × β)} {p : κ × β} {L : List HP} {w : World} (H : Own (Mr E b r (m, left, some p) :: L) w) :
    (Instr.entry (.pointer (some ⟨r, 0, none⟩))).run P w = .ok (.tuple #[E.ke p.1, E.ve p.2]) w := by
  obtain ⟨⟨es, ck, si, se, c0⟩, hq, H⟩ := H.mr
  obtain ⟨hb, hr⟩ := H.itc
  obtain ⟨e, he, s0, h1, h2, h3⟩ := hq.cu p rfl
  simp only at hb hr h1 h2 he
  subst h1; subst h2
  simp only [kvE, kvP, Prod.mk.injEq] at h3
  rw [run_entry_at w r b si s0 es c0 e hr hb he hq.nd, h3.1, h3.2]
variable {P : Program} {N : Nat} {ops : Array Oper} {rr : List Oper} {env : Env} {w : World} {K : Env → World → Prop}
theorem lq_range {E : MEnc κ β} {t kt et : TypeId} {x : Operand} {b : Nat} {m : List (κ × β)} {dst : Option Tmp} {ty : TypeId} {pp : String} {af : Array Edge} {L M : List HP} (H : Own L w)
    (hx : evo env x = some (.map (some b))) [mt : MpT P t kt et] [tk : TkR (Mp E) b L m M]
    (h : ∀ r w', Own (Mr E b r (m, m, none) :: M) w' → lr P N ops rr (put N env dst (.pointer (some ⟨r, 0, none⟩))) w' K) : lq P N ops (⟨dst, .range t x, ty, pp, af, none⟩ :: rr) env w K := by
  obtain ⟨w', hr, H'⟩ := run_rangeMr (P := P) (tk.out _ H) mt.out
  refine lq_val rfl (fun a hs => ?_) (h _ _ H')
  simp only [execOp, evo_sound hs hx]
  rw [Sem.run_bind, hr]; rfl
theorem lq_next {E : MEnc κ β} {b r : Nat} {x : Operand} {m left : List (κ × β)} {cur : Option (κ × β)} {dst : Option Tmp} {ty : TypeId} {pp : String} {af : Array Edge} {L M : List HP} (H : Own L w)
    (hx : evo env x = some (.pointer (some ⟨r, 0, none⟩))) [tk : TkR (Mr E b) r L (m, left, cur) M]
    (h0 : left = [] → lr P N ops rr (put N env dst (.tuple #[.bool false])) w K)
    (h1 : ∀ i p w', left[i]? = some p → Own (Mr E b r (m, left.eraseIdx i, some p) :: M) w' → lr P N ops rr (put N env dst (.tuple #[.bool true, E.ke p.1, E.ve p.2])) w' K) : lq P N ops (⟨dst, .next x false, ty, pp, af, none⟩ :: rr) env w K := by
  rcases run_nextMr (P := P) (ty := ty) (tk.out _ H) with ⟨hz, hr⟩ | ⟨i, p, w', hp, hr, H'⟩
  · refine lq_val rfl (fun a hs => ?_) (h0 hz)
    simp only [execOp, evo_sound hs hx]
    rw [Sem.run_bind, hr]; rfl
  · refine lq_val rfl (fun a hs => ?_) (h1 i p w' hp H')
    simp only [execOp, evo_sound hs hx]
    rw [Sem.run_bind, hr]; rfl
theorem lq_entry {E : MEnc κ β} {b r : Nat} {x : Operand} {m left : List (κ × β)} {p : κ × β} {dst : Option Tmp} {ty : TypeId} {pp : String} {af : Array Edge} {L M : List HP} (H : Own L w)
    (hx : evo env x = some (.pointer (some ⟨r, 0, none⟩))) [tk : TkR (Mr E b) r L (m, left, some p) M]
    (h : lr P N ops rr (put N env dst (.tuple #[E.ke p.1, E.ve p.2])) w K) : lq P N ops (⟨dst, .entry x, ty, pp, af, none⟩ :: rr) env w K := by
  refine lq_val rfl (fun a hs => ?_) h
  simp only [execOp, evo_sound hs hx]
  rw [Sem.run_bind, run_entryMr (P := P) (tk.out _ H)]; rfl
end
end Go.Rp
/- Rounds of a range over a function; calls of yield. -/
set_option linter.unusedVariables false
set_option linter.unusedSimpArgs false
set_option linter.unusedSectionVars false
namespace Go.Rp
section
variable {P : Program} {N : Nat} {env : Env} {w : World} {K : Env → World → Prop} {QE : Exit → Env → World → Prop}
def noDefer (L : List Oper) : Bool := L.all fun o => match o.op with | .defer _ => false | _ => true
theorem callsIn_any {m : Nat} {f : FuncId} {args : Array Value} {w : World} {R : Ending → World → Prop} (h : Calls P f args w R) (l : Nat) : CallsIn (Fence.wide.inRound l) m P f args w R := (callsIn_wide (n := m)).2 h
theorem roundIn_any {n m l : Nat} {f : FuncId} {tmps : Array Value} {assign body : Code} {w : World} {R : Ending → World → Prop} (h : RoundIn Fence.wide n P l f tmps assign body w R) : RoundIn Fence.wide m P l f tmps assign body w R :=
  ⟨h.1, fun c cs _ => h.2 c cs (room_wide _)⟩
theorem yieldAt_any {n m l : Nat} {args : Array Value} {w : World} {R : Ending → World → Prop} (h : YieldAt Fence.wide n P l args w R) : YieldAt Fence.wide m P l args w R := by
  obtain ⟨fn, tmps, assign, body, h1, h2⟩ := h
  exact ⟨fn, tmps, assign, body, h1, roundIn_any h2⟩
theorem oper_in {l n : Nat} {o : Oper} {a : Act} {next : Act → World → Prop} {Q : Exit → Act → World → Prop} (hd : ∀ c, o.op ≠ .defer c) (h : o.wp P a w next Q) : o.wpIn (Fence.wide.inRound l) n P a w next Q := by
  refine ⟨fun _ _ => trivial, ?_⟩
  rw [show (Fence.wide.inRound l).round = some l from rfl, Oper.semAt_some l _ _ hd]
  unfold Oper.wp at h
  generalize (execOp a.eval o).run P w = r at *
  cases r with
  | ok x w' =>
    cases x with
    | value v => exact h
    | skip => exact h
    | defer d => exact h
    | enter f args => exact ⟨(fun q => by cases q), callsIn_any h l⟩
    | row row args =>
      refine ⟨(fun q => by cases q), fun c cs _ => ?_⟩
      obtain ⟨v, w2, r, s⟩ := h c cs
      exact ⟨v, w2, r, stepsIn_wide.2 s⟩
    | _ => exact h.elim
  | halt x w' => cases x <;> first | exact h | exact h.elim
theorem wpListIn_of {l n : Nat} {ops : Array Oper} {Q : Exit → Act → World → Prop} (hQ : ¬ LetsOut Q) : ∀ (L : List Oper) (a : Act) (w : World), noDefer L = true → wpList P ops Q L a w → wpListIn (Fence.wide.inRound l) n P ops Q L a w
  | [], a, w, _, h => h
  | o :: L, a, w, hd, h => by
    simp only [noDefer, List.all_cons, Bool.and_eq_true] at hd
    unfold wpList at h
    unfold wpListIn
    split at h
    · rename_i hw
      rw [if_pos hw]
      rcases h with h | ⟨_, h⟩
      · have h' : o.wp P a w (wpListIn (Fence.wide.inRound l) n P ops Q L) Q := by
          unfold Oper.wp at h ⊢
          generalize (execOp a.eval o).run P w = r at *
          have ih := fun a w => wpListIn_of (l := l) (n := n) (ops := ops) hQ L a w hd.2
          cases r with
          | ok x w' =>
            cases x with
            | value v => exact ih _ _ h
            | skip => exact ih _ _ h
            | defer d => exact ih _ _ h
            | enter f args => exact Calls.mono h fun e w'' q => by cases e <;> first | exact ih _ _ q | exact q
            | row row args => exact fun c cs => let ⟨v, w2, r, s⟩ := h c cs; ⟨v, w2, ih _ _ r, s⟩
            | _ => exact h.elim
          | halt x w' => cases x <;> first | exact h | exact h.elim
        refine oper_in (fun c hc => ?_) h'
        have := hd.1
        rw [hc] at this; cases this
      · exact absurd h hQ
    · rename_i hw
      rw [if_neg hw]
      exact ⟨fun _ _ => trivial, wpListIn_of hQ L _ _ hd.2 h⟩
/-- A plain region of a round's body, by the rules of a walk. -/
theorem round_region {l n id : Nat} {L : List Oper} {a : Act} {Q : Exit → Act → World → Prop} (h : lq P N L.toArray L env w K) (hd : noDefer L = true) (hs : St N env a) (hQ : ∀ env a w, St N env a → K env w → Q .normal a w) : (Code.region id L.toArray false).wpIn (Fence.wide.inRound l) n P Q a w := by
  have h1 := h (fun e a w => match e with | .normal => Q .normal a w | _ => False) (fun env a w hs hk => hQ env a w hs hk) a hs
  have h2 := wpListIn_of (l := l) (n := n) (fun ⟨_, _, q⟩ => q) L a w hd h1
  exact wpIn_mono (wpIn_region_lit h2) fun e a w q => by cases e <;> first | exact q | exact q.elim
/-- Operations ahead of, and behind, a call of yield. -/
def lqY (P : Program) (N : Nat) (ops : Array Oper) (l : List Oper) (env : Env) (w : World) (K : Env → World → Prop) : Prop :=
  ∀ Q : Exit → Act → World → Prop, (∀ env a w, St N env a → K env w → Q .normal a w) → ∀ a, St N env a → wpListIn Fence.wide 0 P ops Q l a w
theorem cw_regionY {id : Nat} {l : List Oper} (h : lqY P N l.toArray l env w (QE .normal)) : cw P N (.region id l.toArray false) env w QE :=
  fun a hs => (wpIn_wide (n := 0)).1 (wpIn_region_lit (h _ (fun env' a' w' hs' h' => ⟨env', hs', h'⟩) a hs))
variable {ops : Array Oper} {r : List Oper}
theorem lqY_nil (h : K env w) : lqY P N ops [] env w K := fun Q hK a hs => hK _ _ _ hs h
theorem lqY_pv {o : Oper} {v : Value} (hv : pv P o.op env = some v) (hg : o.guard = none) (h : lqY P N ops r (put N env o.dst v) w K) : lqY P N ops (o :: r) env w K := by
  intro Q hK a hs
  refine wpListIn_plain hg fun K' hK' => ⟨fun _ _ => trivial, ?_⟩
  show o.uponIn _ _ _ _ _ _ ((o.semAt none a.eval).run P w)
  rw [Oper.semAt_none, pv_sound hs hv w]
  exact hK' _ _ (h Q hK _ (hs.put _ _))
theorem lqY_yield {x y : Operand} {l : Nat} {v : Value} {tys : Array TypeId} {dst : Option Tmp} {ty : TypeId} {p : String} {af : Array Edge} (hx : evo env x = some (.func (.yield l) #[] #[])) (hy : evo env y = some v)
    (h : YieldAt Fence.wide 0 P l #[v] w fun e w' => match e with | .returned u => lqY P N ops r (put N env dst u) w' K | _ => False) : lqY P N ops (⟨dst, .call ⟨.value x, #[y], tys⟩, ty, p, af, none⟩ :: r) env w K := by
  intro Q hK a hs
  obtain ⟨fn, tmps, assign, body, hrun, hround⟩ := h
  refine wpListIn_plain rfl fun K' hK' => ⟨fun _ _ => trivial, ?_⟩
  show Oper.uponIn _ _ _ _ _ _ _ ((Oper.semAt none a.eval _).run P w)
  rw [Oper.semAt_none]
  have e : (execOp a.eval ⟨dst, .call ⟨.value x, #[y], tys⟩, ty, p, af, none⟩).run P w = .ok (.round l fn tmps assign body) w := by
    simp only [execOp, resolve, evo_sound hs hx, Deferred.ofValue]
    simp [evo_sound hs hy, invoke, Sem.run_bind, Result.andThen, hrun]
  rw [e]
  refine ⟨(fun q => by cases q), RoundIn.mono (roundIn_any hround) fun e w' q => ?_⟩
  cases e with
  | returned u => exact hK' _ _ (q Q hK _ (hs.put _ _))
  | panicked c => exact q.elim
  | outgrown => exact q.elim
/-- What an iterator value gives: whatever the rounds keep, some list of elements comes, one by one. -/
def Gives {α : Type} (P : Program) (gf : FuncId) (lb : Array Value) (ev : α → Value) (F : List HP) (n : Nat) (S : List α → Prop) : Prop :=
  ∀ (l : Nat) (J : List α → HP) (w : World), (∀ pre x G w, pre.length < n → Own (J pre :: G) w → YieldAt Fence.wide 0 P l #[ev x] w fun e w' => e = .returned (.bool true) ∧ Own (J (pre ++ [x]) :: G) w') → Own (J [] :: F) w →
    Cl P gf (#[.func (.yield l) #[] #[]] ++ lb) w fun _ w' => ∃ xs, S xs ∧ Own (J xs :: F) w'
end
end Go.Rp
/- Iterators: the small rules that their walks want. -/
set_option linter.unusedVariables false
set_option linter.unusedSimpArgs false
set_option linter.unusedSectionVars false
namespace Go.Rp
section
variable {P : Program} {N : Nat} {env : Env} {w : World} {K : Env → World → Prop} {ops : Array Oper} {r : List Oper}
theorem lqY_val {o : Oper} (hg : o.guard = none) {v : Value} {w' : World} (h : ∀ a, St N env a → (execOp a.eval o).run P w = .ok (.value v) w') (h2 : lqY P N ops r (put N env o.dst v) w' K) : lqY P N ops (o :: r) env w K := by
  intro Q hK a hs
  refine wpListIn_plain hg fun K' hK' => ⟨fun _ _ => trivial, ?_⟩
  show o.uponIn _ _ _ _ _ _ ((o.semAt none a.eval).run P w)
  rw [Oper.semAt_none, h a hs]
  exact hK' _ _ (h2 Q hK _ (hs.put _ _))
theorem lqY_load {t : TypeId} {x : Operand} {b off : Nat} {dst : Option Tmp} {ty : TypeId} {p : String} {af : Array Edge} {l : List Value} {T : TypeId} {L M : List HP} (v : Value) (H : Own L w)
    (hx : evo env x = some (.pointer (some ⟨b, off, none⟩))) [tk : TkC b L l T M] (hv : ldC P t off l = some v) (h : lqY P N ops r (put N env dst v) w K) :
    lqY P N ops (⟨dst, .load t x, ty, p, af, none⟩ :: r) env w K := by
  refine lqY_val rfl (fun a hs => ?_) h
  simp [execOp, evo_sound hs hx, Instr.loadAt, Instr.sureAddr, Sem.run_bind, ld_run (L := M) (tk.out _ H) hv, Result.andThen]
theorem yield_mono {F : Fence} {n l : Nat} {args : Array Value} {w : World} {R R' : Ending → World → Prop} (h : YieldAt F n P l args w R) (i : ∀ e w', R e w' → R' e w') : YieldAt F n P l args w R' := by
  obtain ⟨fn, tmps, assign, body, h1, h2⟩ := h
  exact ⟨fn, tmps, assign, body, h1, RoundIn.mono h2 i⟩
theorem erase_perm {α : Type} : ∀ {l : List α} {i : Nat} {a : α}, l[i]? = some a → l.Perm (a :: l.eraseIdx i)
  | [], _, _, h => by simp at h
  | b :: l, 0, a, h => by simp at h; subst h; exact .refl _
  | b :: l, i + 1, a, h => by
    simp only [List.getElem?_cons_succ] at h
    rw [List.eraseIdx_cons_succ]
    exact ((erase_perm h).cons b).trans (.swap ..)
/-- A block that holds this object. -/
theorem Own.bkTurn {b : Nat} {o : Obj} {L : List HP} {w : World} (o' : Obj) (H : Own (Bk b o :: L) w) : Own (Bk b o' :: L) (w.putObj b o') :=
  Own.turn2 b o o' H.bk (fun h h1 => ⟨_, h1⟩) (fun h _ h' _ h4 => h4) H
theorem Own.bkNew {o : Obj} {L : List HP} {w : World} (H : Own L w) : Own (Bk w.heap.size o :: L) (w.alloc o) := Own.new o (fun h e => e) H
theorem Own.ceNew {cs : Array Value} {T : TypeId} {L : List HP} {w : World} (H : Own L w) : Own (Ce w.heap.size (cs.toList, T) :: L) (w.alloc (.cells cs T)) := Own.new _ (fun h e => by simpa [Ce] using e) H
theorem Own.rot {A B C : HP} {L : List HP} {w : World} (H : Own (A :: B :: C :: L) w) : Own (C :: A :: B :: L) w := Sep.swap (Sep.under (fun _ x => Sep.swap x) H)
/-- A range over a function, of a body that is one plain region: I pre: what stands between two rounds. -/
theorem rangeFn {α : Type} {ke : α → Value} {n : Nat} {S : List α → Prop} {F : List HP} {gf : Nat} {lb : Array Value} {g : Operand} {p : Tmp} {i1 i2 i3 : Nat} {La Lb : List Oper} {a : Act} {Q : Exit → Act → World → Prop} {env0 : α → Env} {I : List α → HP}
    (M : List α → α → Env → HP → Prop) (hg : a.eval g = .func (.func gf) #[] lb) (eg : ∀ args w, (callFunc gf args).run P w = .ok (.enter gf args) w) (hS : Gives P gf lb ke F n S)
    (hst : ∀ x, St N (env0 x) { tmps := (#[p].zip #[ke x]).foldl (fun t (q, v) => t.setIfInBounds q v) a.tmps, defers := [] }) (hda : noDefer La = true) (hdb : noDefer Lb = true)
    (H : Own (I [] :: F) w)
    (ha : ∀ pre x G w, pre.length < n → Own (I pre :: G) w → lq P N La.toArray La (env0 x) w (fun env' w' => ∃ A : HP, M pre x env' A ∧ Own (A :: G) w'))
    (hb : ∀ pre x env' A G w, pre.length < n → M pre x env' A → Own (A :: G) w → lq P N Lb.toArray Lb env' w (fun _ w' => Own (I (pre ++ [x]) :: G) w'))
    (hQ : ∀ xs D w', S xs → Own (I xs :: Bk D (.deferred (some [])) :: F) w' → Q .normal { a with defers := { target := .collected D, args := #[] } :: a.defers } w') :
    (Code.rangeFunc g #[p] (.region i1 La.toArray false) (.block i2 (.region i3 Lb.toArray false))).wpIn Fence.wide 6 P Q a w := by
  refine wpIn_rangeFunc ?_
  intro fn hfn
  obtain ⟨rec, hrec⟩ : ∃ rec : LoopState → Option Code → Loop, rec = fun st pe => { state := st, pending := pe, fn := fn, tmps := a.tmps, params := #[p], assign := .region i1 La.toArray false, body := .block i2 (.region i3 Lb.toArray false), defers := w.heap.size } := ⟨_, rfl⟩
  have H1 := (H.bkNew (o := .deferred (some []))).bkNew (o := .loop (rec .ready none))
  rw [World.size_alloc] at H1
  obtain ⟨W1, hW1⟩ : ∃ W1, (w.alloc (.deferred (some []))).alloc (.loop (rec .ready none)) = W1 := ⟨_, rfl⟩
  rw [hW1] at H1
  refine ⟨w.heap.size + 1, [{ target := .collected w.heap.size, args := #[] }], W1, { target := .fn (.func gf) lb, args := #[.func (.yield (w.heap.size + 1)) #[] #[]] }, W1, gf, #[.func (.yield (w.heap.size + 1)) #[] #[]] ++ lb, W1, ?_, ?_, ?_, ?_, fun _ => by decide, ?_⟩
  · rw [← hW1, hrec]; exact run_enterLoop_outer _ _ _ _ _
  · simp only [resolve, hg]; simp [go_sem]
  · intro f' hf'; exact trivial
  · simp [invoke, go_sem, eg]
  · obtain ⟨D, hD⟩ : ∃ D, w.heap.size = D := ⟨_, rfl⟩
    rw [hD] at H1 hrec ⊢
    have HJ' : Own ((fun pre h => Sep [I pre, Bk (D + 1) (.loop (rec .ready none)), Bk D (.deferred (some []))] h) [] :: F) W1 := Sep.flat.2 (Own.rot H1)
    refine CallsIn.mono ((callsIn_wide (n := 6 - 1)).2 (hS (D + 1) (fun pre h => Sep [I pre, Bk (D + 1) (.loop (rec .ready none)), Bk D (.deferred (some []))] h) _ (fun pre x G W hlen HG => ?_) HJ')) ?_
    · -- a round
      have HG1 : Own (I pre :: Bk (D + 1) (.loop (rec .ready none)) :: Bk D (.deferred (some [])) :: G) W := Sep.flat.1 HG
      have hl : W.heap[D + 1]? = some (.loop (rec .ready none)) := Own.bk (Sep.swap HG1)
      refine ⟨fn, (#[p].zip #[ke x]).foldl (fun t (q, v) => t.setIfInBounds q v) a.tmps, .region i1 La.toArray false, .block i2 (.region i3 Lb.toArray false), by rw [run_yield (P := P) (args := #[ke x]) hl (by rw [hrec]; rfl)]; rw [hrec], roundIn_of_wpIn hfn ?_⟩
      refine round_region (ha pre x _ W hlen HG1) hda (hst x) ?_
      rintro env' a1 w1 hs1 ⟨A, hM, HA⟩
      have hl1 : w1.heap[D + 1]? = some (.loop (rec .ready none)) := Own.bk (Sep.swap HA)
      refine ⟨_, run_beginRound hl1 (by rw [hrec]), ?_⟩
      have HB := (Sep.swap HA)
      have HB1 := Sep.swap (Own.bkTurn (.loop { rec .ready none with state := .busy }) HB)
      refine wpIn_block (round_region (hb pre x env' A _ _ hlen hM HB1) hdb hs1 ?_)
      rintro env2 a2 w2 hs2 HI
      have hl2 : w2.heap[D + 1]? = some (.loop { rec .ready none with state := .busy }) := Own.bk (Sep.swap HI)
      have HI2 := Own.bkTurn (.loop { { rec .ready none with state := .busy } with state := if (none : Option Code).isNone then .ready else .done, pending := none }) (Sep.swap HI)
      refine ⟨_, _, run_endRound none hl2, rfl, Sep.flat.2 (Sep.swap ?_)⟩
      rw [hrec] at HI2 ⊢
      exact HI2
    · rintro e W2 q
      cases e with
      | panicked c => exact q.elim
      | outgrown => exact q.elim
      | returned v =>
        obtain ⟨xs, hxs, H2⟩ := q
        have H3 : Own (I xs :: Bk (D + 1) (.loop (rec .ready none)) :: Bk D (.deferred (some [])) :: F) W2 := Sep.flat.1 H2
        have hl : W2.heap[D + 1]? = some (.loop (rec .ready none)) := Own.bk (Sep.swap H3)
        refine ⟨_, _, run_endLoop hl (by rw [hrec]; simp), ?_⟩
        rw [hrec]
        have H4 := Own.bkTurn (.loop { rec .ready none with state := .exhausted }) (Sep.swap H3)
        rw [hrec] at H4
        exact hQ xs D _ hxs (Sep.tl H4)
end
end Go.Rp
/- A row of one's own, told in the words of the library's sort. -/
set_option linter.unusedVariables false
set_option linter.unusedSimpArgs false
set_option linter.unusedSectionVars false
namespace Go.Rp
open Go.Sort Go.Proofs
section
variable {α : Type} [Inhabited α] {enc : Enc α}
theorem flatK_get (enc : Enc α) (xs : List α) (j : Nat) (hj : j < xs.length * enc.n) : (flatK enc.f enc.n xs.toArray)[j]? = (xs.flatMap enc.f)[j]? := by
  have hn : 0 < enc.n := by rcases Nat.eq_zero_or_pos enc.n with h | h; · rw [h] at hj; omega
                            · exact h
  have h1 : j / enc.n < xs.length := (Nat.div_lt_iff_lt_mul hn).2 hj
  have hx : xs[j / enc.n]? = some xs[j / enc.n] := List.getElem?_eq_getElem h1
  have hlen : (enc.f xs[j / enc.n]).length = enc.n := enc.len _
  have hm : j % enc.n < (enc.f xs[j / enc.n]).length := by rw [hlen]; exact Nat.mod_lt _ hn
  have h2 := flatMap_at enc xs (j / enc.n) _ (j % enc.n) _ hx (List.getElem?_eq_getElem hm)
  rw [Nat.div_add_mod'] at h2
  rw [h2]
  have h3 := get_flatK enc.f enc.n xs.toArray j (by simpa using hj)
  rw [Array.getElem?_eq_getElem (by simpa using hj)]
  rw [getElem!_pos _ j (by simpa using hj)] at h3
  rw [h3]
  simp [getElem!_pos, h1, hm]
theorem flat_len (enc : Enc α) (xs : List α) : (xs.flatMap enc.f).length = xs.length * enc.n := flatMap_length enc xs
theorem holdsK_of {b : Nat} {T : TypeId} {rest : List Value} {L : List HP} {w : World} {xs : List α} (H : Own (Ce b (xs.flatMap enc.f ++ rest, T) :: L) w) : HoldsK enc.f enc.n w b 0 xs.toArray := by
  intro j hj
  have hj' : j < xs.length * enc.n := by simpa using hj
  have hb := H.ceq
  constructor
  · rw [H.cell, Nat.zero_add, List.getElem?_append_left (by rw [flat_len]; exact hj'), ← flatK_get enc xs j hj', Array.getElem?_eq_getElem hj, getElem!_pos _ j hj]; rfl
  · simp [World.frozen?, hb]
theorem own_sorted {b n : Nat} {T : TypeId} {rest : List Value} {L : List HP} {w : World} {xs : List α} {d : Array α} {os : Array Obj} (H : Own (Ce b (xs.flatMap enc.f ++ rest, T) :: L) w) (hs : d.size = xs.length) :
    Own (Ce b (d.toList.flatMap enc.f ++ rest, T) :: L) (sortWorldK enc.f enc.n w b 0 n d os) := by
  have hb := H.ceq
  have hlt : b < w.heap.size := (Array.getElem?_eq_some_iff.1 hb).1
  unfold sortWorldK putRowK putRow
  generalize hW : mapBlock (Sort.ahead w n) b (putCells id 0 (flatK enc.f enc.n d)) = W
  have hheap : W.heap = w.heap.modify b (onCells (putCells id 0 (flatK enc.f enc.n d))) := by rw [← hW]; rfl
  have hsz : W.heap.size = w.heap.size := by rw [hheap]; simp
  have H1 : Own (Ce b (d.toList.flatMap enc.f ++ rest, T) :: L) W := by
    refine Own.turn (w := w) (w' := W) b (fun h h1 => ⟨_, h1⟩) (.cells (d.toList.flatMap enc.f ++ rest).toArray T (0, 0)) (fun h _ h' h3 h4 => h4) ?_ ?_ (by rw [← hW]; rfl) (by rw [← hW]; exact Nat.le_add_right _ _) H
    · rw [hheap, Array.getElem?_modify, if_pos rfl, hb]
      simp only [Option.map_some, onCells, Option.some.injEq, Obj.cells.injEq, and_true]
      rw [← Array.toList_inj]
      apply List.ext_getElem?
      intro i
      simp only [putCells, Array.toList_mapIdx, List.getElem?_mapIdx, size_flatK, Nat.zero_le, true_and, Nat.zero_add, Nat.sub_zero, id]
      by_cases hi : i < d.size * enc.n
      · have h1 : i < (xs.flatMap enc.f).length := by rw [flat_len, ← hs]; exact hi
        have h2 : i < (d.toList.flatMap enc.f).length := by rw [flat_len]; simpa using hi
        have e1 := flatK_get enc d.toList i (by simpa using hi)
        rw [show d.toList.toArray = d by simp, Array.getElem?_eq_getElem (by simpa using hi)] at e1
        rw [List.getElem?_append_left h1, List.getElem?_append_left h2, ← e1, List.getElem?_eq_getElem h1]
        simp only [Option.map_some, hi, if_true, Option.some.injEq]
        rw [getElem!_pos _ i (by simpa using hi)]
      · have h1 : (xs.flatMap enc.f).length ≤ i := by rw [flat_len, ← hs]; omega
        have h2 : (d.toList.flatMap enc.f).length ≤ i := by rw [flat_len]; simp; omega
        rw [List.getElem?_append_right h1, List.getElem?_append_right h2, flat_len, flat_len, show d.toList.length = xs.length by simpa using hs]
        simp only [hi, if_false]
        cases rest[i - xs.length * enc.n]? <;> rfl
    · intro c hc
      rw [hheap, Array.getElem?_modify, if_neg (Ne.symm hc)]
  refine Own.ext (w := W) (fun c hc => ?_) rfl (Nat.le_refl _) H1
  show (W.heap ++ os)[c]? = _
  rw [Array.getElem?_append_left hc]
/-- A call that keeps all that was: draws and new blocks. -/
theorem grown_of {w w' : World} {L : List HP} (H : Own (Old w :: L) w') : ∃ q os, w' = grow (w.drewN q) os := by
  obtain ⟨⟨hg, hd⟩, hsz, hb⟩ := H.oldG
  refine ⟨w'.drawn - w.drawn, w'.heap.extract w.heap.size w'.heap.size, ?_⟩
  have e1 : w'.heap = w.heap ++ w'.heap.extract w.heap.size w'.heap.size := by
    apply Array.ext_getElem?
    intro i
    rcases Nat.lt_or_ge i w.heap.size with h | h
    · rw [hb i h, Array.getElem?_append_left h]
    · rw [Array.getElem?_append_right h, Array.getElem?_extract]
      by_cases h2 : i < w'.heap.size
      · rw [if_pos (by omega)]; congr 1; omega
      · rw [if_neg (by omega), Array.getElem?_eq_none (by omega)]
  have e2 : w.drewN (w'.drawn - w.drawn) = { w with drawn := w'.drawn } := by
    show ({ w with drawn := w.drawn + (w'.drawn - w.drawn) } : World) = _
    rw [show w.drawn + (w'.drawn - w.drawn) = w'.drawn by omega]
  rw [e2]
  unfold grow
  obtain ⟨h1, t1, d1, o1, p1⟩ := w'
  simp only [hp, Prod.mk.injEq] at hg
  simp only at e1 ⊢
  rw [← e1, hg.1, hg.2.1, hg.2.2]
end
end Go.Rp
/- A drawn region in which loud operations stand in no order: a tree of orders. -/
set_option linter.unusedVariables false
set_option linter.unusedSimpArgs false
namespace Go.Rp
inductive TT where
  | fin : TT
  | op : Nat → Nat → TT → TT
  | fork : TT → TT → TT
def TT.pre : List (Nat × Nat) → TT → TT
  | [], t => t
  | (i, k) :: r, t => .op i k (TT.pre r t)
def TT.len : TT → Nat
  | .fin => 0
  | .op _ _ t => t.len + 1
  | .fork t u => max t.len u.len
def TT.start : TT → List Nat
  | .fin => []
  | .op i _ _ => [i]
  | .fork t u => t.start ++ u.start
section
variable {P : Program} {ops : Array Oper} {Q : Exit → Act → World → Prop} {md : Region.Mode} {S : World → Prop}
def sT (P : Program) (ops : Array Oper) (Q : Exit → Act → World → Prop) (S : World → Prop) : TT → Act → World → Prop
  | .fin, a, w => Q .normal a w
  | .op i k t, a, w => match ops[i]? with
    | none => sT P ops Q S t a w
    | some o =>
      if k = 0 then ∃ v, YieldsIf P ops (fun _ => True) o v a ∧ sT P ops Q S t (a.put o.dst v) w
      else if k = 1 then ∃ v, YieldsIf P ops S o v a ∧ S w ∧ sT P ops Q S t (a.put o.dst v) w
      else if Region.wanted o (yielded ops a.tmps) then o.wp P a w (fun a' w' => (k = 2 → S w') ∧ sT P ops Q S t a' w') Q
      else (k = 2 → S w) ∧ sT P ops Q S t (a.put o.dst undef) w
  | .fork t u, a, w => sT P ops Q S t a w ∧ sT P ops Q S u a w
def chkT (md : Region.Mode) (ops : Array Oper) (τ : List (Nat × Nat)) : TT → List Nat → Array Bool → Bool
  | .fin, cov, listed => (Region.ready md ops listed).isEmpty
  | .op i k t, cov, listed =>
    (ops[i]?).isSome && kindOf τ i == k && (Region.ready md ops listed).contains i &&
    (if k ≤ 1 then cov.isEmpty && Region.free md ops listed i && (k == 0 || (List.range ops.size).all fun j => kindOf τ j ≤ 2 || reach md ops ops.size i j)
     else (Region.ready md ops listed).all fun j => j == i || cov.contains j) &&
    chkT md ops τ t [] (listed.setIfInBounds i true)
  | .fork t u, cov, listed => !t.start.isEmpty && !u.start.isEmpty && chkT md ops τ t (u.start ++ cov) listed && chkT md ops τ u (t.start ++ cov) listed
/-- What is known of each operation that may come first. -/
def wpI (P : Program) (md : Region.Mode) (ops : Array Oper) (Q : Exit → Act → World → Prop) (S : World → Prop) (kd : Nat → Nat) (n : Nat) (listed : Array Bool) (a : Act) (w : World) (i : Nat) : Prop :=
  wpOp P ops Q i (fun a' w' => ((kd i ≤ 1 → w' = w) ∧ (kd i = 2 → S w')) ∧ wpM P md ops Q S kd n (listed.setIfInBounds i true) a' w') a w
theorem wpI_op (hns : Region.noSelect ops = true) (hQ : ∀ c a w, Q (.panic c) a w → False) {τ : List (Nat × Nat)} {i k : Nat} {t : TT} {cov : List Nat} {listed : Array Bool} {a : Act} {w : World} {n : Nat}
    (hc : chkT md ops τ (.op i k t) cov listed = true) (hk : 2 ≤ k) (h : sT P ops Q S (.op i k t) a w)
    (ih : ∀ a' w', sT P ops Q S t a' w' → wpM P md ops Q S (kindOf τ) n (listed.setIfInBounds i true) a' w') : wpI P md ops Q S (kindOf τ) n listed a w i := by
  simp only [chkT, Bool.and_eq_true, beq_iff_eq] at hc
  obtain ⟨⟨⟨⟨h1, h2⟩, h3⟩, h4⟩, h5⟩ := hc
  obtain ⟨o, ho⟩ := Option.isSome_iff_exists.1 h1
  simp only [sT, ho] at h
  rw [if_neg (by omega), if_neg (by omega)] at h
  unfold wpI wpOp
  simp only [ho]
  split
  · rename_i hw
    rw [if_pos hw] at h
    exact .inl (Oper.wp_mono (fun a' w' ⟨q1, q2⟩ => ⟨⟨fun e => by omega, fun e => q1 (by omega)⟩, ih _ _ q2⟩) h)
  · rename_i hw
    rw [if_neg hw] at h
    exact ⟨⟨fun e => trivial, fun e => h.1 (by omega)⟩, ih _ _ h.2⟩
theorem chkT_start {τ : List (Nat × Nat)} : ∀ (t : TT) (cov : List Nat) (listed : Array Bool), chkT md ops τ t cov listed = true → cov ≠ [] → ∀ j ∈ Region.ready md ops listed, j ∈ t.start ∨ j ∈ cov
  | .fin, cov, listed, hc, _, j, hj => by
    have hr : Region.ready md ops listed = [] := by simpa [chkT] using hc
    rw [hr] at hj; cases hj
  | .op i k t, cov, listed, hc, hn, j, hj => by
    simp only [chkT, Bool.and_eq_true, beq_iff_eq] at hc
    obtain ⟨⟨⟨⟨h1, h2⟩, h3⟩, h4⟩, h5⟩ := hc
    split at h4
    · simp only [Bool.and_eq_true, List.isEmpty_iff] at h4
      exact absurd h4.1.1 hn
    · have := List.all_eq_true.1 h4 j hj
      simp only [Bool.or_eq_true, beq_iff_eq, List.contains_iff_mem] at this
      rcases this with h | h
      · exact .inl (by simp [TT.start, h])
      · exact .inr h
  | .fork t u, cov, listed, hc, hn, j, hj => by
    simp only [chkT, Bool.and_eq_true, Bool.not_eq_true', List.isEmpty_eq_false_iff] at hc
    obtain ⟨⟨⟨h1, h2⟩, h3⟩, h4⟩ := hc
    rcases chkT_start t _ listed h3 (by simp [h2]) j hj with h | h
    · exact .inl (by simp [TT.start, h])
    · rcases List.mem_append.1 h with h | h
      · exact .inl (by simp [TT.start, h])
      · exact .inr h
theorem TT.start_len : ∀ (t : TT), t.start ≠ [] → 1 ≤ t.len
  | .fin, h => absurd rfl h
  | .op _ _ _, _ => by simp [TT.len]
  | .fork t u, h => by
    simp only [TT.len]
    by_cases h1 : t.start = []
    · have := TT.start_len u (fun h2 => h (by simp [TT.start, h1, h2])); omega
    · have := TT.start_len t h1; omega
theorem start_ready {τ : List (Nat × Nat)} : ∀ (t : TT) (cov : List Nat) (listed : Array Bool), chkT md ops τ t cov listed = true → ∀ j ∈ t.start, j ∈ Region.ready md ops listed
  | .fin, cov, listed, hc, j, hj => by simp [TT.start] at hj
  | .op i k t, cov, listed, hc, j, hj => by
    simp only [chkT, Bool.and_eq_true, beq_iff_eq] at hc
    simp only [TT.start, List.mem_singleton] at hj
    subst hj
    simpa using hc.1.1.2
  | .fork t u, cov, listed, hc, j, hj => by
    simp only [chkT, Bool.and_eq_true] at hc
    rcases List.mem_append.1 hj with q | q
    · exact start_ready t _ listed hc.1.2 j q
    · exact start_ready u _ listed hc.2 j q
theorem wpM_of_T (hns : Region.noSelect ops = true) (hQ : ∀ c a w, Q (.panic c) a w → False) {τ : List (Nat × Nat)} : ∀ (t : TT) (cov : List Nat) (listed : Array Bool) (a : Act) (w : World) (fuel : Nat),
    DC md ops listed → chkT md ops τ t cov listed = true → t.len ≤ fuel → sT P ops Q S t a w →
    ((∀ n, fuel = n + 1 → ∀ j ∈ cov, j ∈ Region.ready md ops listed → wpI P md ops Q S (kindOf τ) n listed a w j) → wpM P md ops Q S (kindOf τ) fuel listed a w) ∧
    (∀ n, fuel = n + 1 → cov ≠ [] → ∀ j ∈ t.start, wpI P md ops Q S (kindOf τ) n listed a w j)
  | .fin, cov, listed, a, w, fuel, hdc, hc, _, h => by
    have hr : Region.ready md ops listed = [] := by simpa [chkT] using hc
    refine ⟨fun _ => ?_, fun n _ _ j hj => by simp [TT.start] at hj⟩
    cases fuel with
    | zero => exact ⟨hr, h⟩
    | succ n => exact ⟨fun _ => h, by rw [hr]; simp⟩
  | .fork t u, cov, listed, a, w, fuel, hdc, hc, hf, h => by
    have hst := chkT_start (md := md) (ops := ops) (τ := τ) t (u.start ++ cov) listed
    simp only [chkT, Bool.and_eq_true, Bool.not_eq_true', List.isEmpty_eq_false_iff] at hc
    obtain ⟨⟨⟨h1, h2⟩, h3⟩, h4⟩ := hc
    simp only [TT.len] at hf
    have it := (wpM_of_T hns hQ t (u.start ++ cov) listed a w fuel hdc h3 (by omega) h.1).2
    have iu := (wpM_of_T hns hQ u (t.start ++ cov) listed a w fuel hdc h4 (by omega) h.2).2
    have B : ∀ n, fuel = n + 1 → ∀ j ∈ t.start ++ u.start, wpI P md ops Q S (kindOf τ) n listed a w j := fun n e j hj => by
      rcases List.mem_append.1 hj with q | q
      · exact it n e (by simp [h2]) j q
      · exact iu n e (by simp [h1]) j q
    refine ⟨fun hcov => ?_, fun n e _ j hj => B n e j hj⟩
    have hlen := TT.start_len t h1
    obtain ⟨n, rfl⟩ : ∃ n, fuel = n + 1 := ⟨fuel - 1, by omega⟩
    refine ⟨fun hr => ?_, fun j hj => ?_⟩
    · obtain ⟨j, hj⟩ := List.exists_mem_of_ne_nil _ h1
      have := start_ready t _ listed h3 j hj
      rw [hr] at this; cases this
    · rcases hst h3 (by simp [h2]) j hj with q | q
      · exact B n rfl j (by simp [q])
      · rcases List.mem_append.1 q with q | q
        · exact B n rfl j (by simp [q])
        · exact hcov n rfl j q hj
  | .op i k t, cov, listed, a, w, fuel, hdc, hc, hf, h => by
    have hc0 := hc
    obtain ⟨n, rfl⟩ : ∃ n, fuel = n + 1 := ⟨fuel - 1, by simp [TT.len] at hf; omega⟩
    simp only [TT.len] at hf
    simp only [chkT, Bool.and_eq_true, beq_iff_eq] at hc
    obtain ⟨⟨⟨⟨h1, h2⟩, h3⟩, h4⟩, h5⟩ := hc
    obtain ⟨o, ho⟩ := Option.isSome_iff_exists.1 h1
    have hmem : i ∈ Region.ready md ops listed := by simpa using h3
    have ih := fun a' w' h' => (wpM_of_T hns hQ t [] (listed.setIfInBounds i true) a' w' n (hdc.set hmem) h5 (by omega) h').1 (fun _ _ j hj => by cases hj)
    have B : 2 ≤ k → wpI P md ops Q S (kindOf τ) n listed a w i := fun hk => wpI_op hns hQ hc0 hk h ih
    refine ⟨fun hcov => ?_, fun m e hn j hj => ?_⟩
    · simp only [sT, ho] at h
      by_cases hk0 : k = 0
      · subst hk0
        simp only [if_true] at h
        obtain ⟨v, hy, h'⟩ := h
        simp only [Nat.zero_le, if_true, Bool.and_eq_true] at h4
        exact wpM_first (S' := fun _ => True) ho (Region.noSelect_spec hns) (fun c a w q => (hQ _ _ _ q).elim) (.inl fun _ => trivial) n listed a w hdc (Region.free_spec ho h4.1.2) hmem hy trivial (by omega) (ih _ _ h')
      · by_cases hk1 : k = 1
        · subst hk1
          simp only [if_true, if_neg hk0] at h
          obtain ⟨v, hy, hS, h'⟩ := h
          simp only [Nat.le_refl, if_true, Bool.and_eq_true, Bool.or_eq_true, Nat.reduceBEq, Bool.false_eq_true, false_or, List.all_eq_true, List.mem_range, decide_eq_true_eq] at h4
          refine wpM_first (S' := S) ho (Region.noSelect_spec hns) (fun c a w q => (hQ _ _ _ q).elim) (.inr ⟨fun _ h => h, fun listed' j hdc' hun hj hne => ?_⟩) n listed a w hdc (Region.free_spec ho h4.1.2) hmem hy hS (by omega) (ih _ _ h')
          obtain ⟨hjun, oj, hoj, hall⟩ := mem_ready.1 hj
          rcases h4.2 j (Array.getElem?_eq_some_iff.1 hoj).1 with h6 | h6
          · exact h6
          · have := reach_spec hdc' _ _ _ h6 ⟨oj, hoj, hall⟩
            have hs : i < listed'.size := by
              rcases Nat.lt_or_ge i listed'.size with h' | h'
              · exact h'
              · simp [Array.getElem?_eq_none h'] at this
            simp [hs] at this hun
            rw [this] at hun; cases hun
        · rw [if_neg (by omega)] at h4
          refine ⟨fun h0 => (by rw [h0] at hmem; cases hmem), fun j hj => ?_⟩
          have := List.all_eq_true.1 h4 j hj
          simp only [Bool.or_eq_true, beq_iff_eq, List.contains_iff_mem] at this
          rcases this with q | q
          · subst q; exact B (by omega)
          · exact hcov n rfl j q hj
    · cases e
      simp only [TT.start, List.mem_singleton] at hj
      subst hj
      rcases Nat.lt_or_ge k 2 with hk | hk
      · rw [if_pos (by omega)] at h4
        simp only [Bool.and_eq_true, List.isEmpty_iff] at h4
        exact absurd h4.1.1 hn
      · exact B hk
end
section
variable {P : Program} {N : Nat} {ops : Array Oper} {L0 : List HP} {env : Env} {w : World} {K : Env → World → Prop} {QE : Exit → Env → World → Prop}
/-- The rest of a drawn region, by a tree of orders. -/
def dT (P : Program) (N : Nat) (ops : Array Oper) (L0 : List HP) (t : TT) (env : Env) (w : World) (K : Env → World → Prop) : Prop :=
  ∀ Q : Exit → Act → World → Prop, (∀ env a w, St N env a → K env w → Q .normal a w) → ∀ a, St N env a → sT P ops Q (Own L0) t a w
theorem dT_fin (h : K env w) : dT P N ops L0 .fin env w K := fun Q hK a hs => hK _ _ _ hs h
theorem dT_fork {t u : TT} (h1 : dT P N ops L0 t env w K) (h2 : dT P N ops L0 u env w K) : dT P N ops L0 (.fork t u) env w K := fun Q hK a hs => ⟨h1 Q hK a hs, h2 Q hK a hs⟩
theorem sT_pre {Q : Exit → Act → World → Prop} {S : World → Prop} {t : TT} : ∀ (σ : List (Nat × Nat)) (a : Act) (w : World),
    wpSg P ops (fun e a w => match e with | .normal => sT P ops Q S t a w | .panic c => Q (.panic c) a w | _ => False) S (opsOf ops σ) a w → sT P ops Q S (.pre σ t) a w
  | [], a, w, h => h
  | (i, k) :: σ, a, w, h => by
    simp only [TT.pre, sT]
    simp only [opsOf] at h
    cases ho : ops[i]? with
    | none => simp only [ho] at h ⊢; exact sT_pre σ a w h
    | some o =>
      simp only [ho, wpSg] at h ⊢
      split at h
      · rename_i hk
        rw [if_pos hk]
        obtain ⟨v, h1, h2⟩ := h
        exact ⟨v, h1, sT_pre σ _ _ h2⟩
      · rename_i hk
        rw [if_neg hk]
        split at h
        · rename_i hk1
          rw [if_pos hk1]
          obtain ⟨v, h1, h2, h3⟩ := h
          exact ⟨v, h1, h2, sT_pre σ _ _ h3⟩
        · rename_i hk1
          rw [if_neg hk1]
          split at h
          · rename_i hw
            rw [if_pos hw]
            exact wp_out (Q' := fun e a w => match e with | .normal => sT P ops Q S t a w | .panic c => Q (.panic c) a w | _ => False) (fun c a w q => q) (fun ⟨_, _, q⟩ => q.elim) (Oper.wp_mono (fun a' w' q => ⟨q.1, sT_pre σ _ _ q.2⟩) h)
          · rename_i hw
            rw [if_neg hw]
            exact ⟨h.1, sT_pre σ _ _ h.2⟩
theorem dT_pre {t : TT} {σ : List (Nat × Nat)} (h : dq P N ops L0 (opsOf ops σ) env w fun env w => dT P N ops L0 t env w K) : dT P N ops L0 (.pre σ t) env w K :=
  fun Q hK a hs => sT_pre σ a w (h (fun e a w => match e with | .normal => sT P ops Q (Own L0) t a w | .panic c => Q (.panic c) a w | _ => False) (fun env' a' w' hs' q => q Q hK a' hs') a hs)
theorem cw_drawT {id : Nat} {l : List Oper} {L : List HP} (L0 : List HP) (τ : List (Nat × Nat)) (t : TT) (hm : P.follows .mixedOrders = true) (hc : (Region.noSelect l.toArray && chkT .any l.toArray τ t [] (Array.replicate l.length false) && decide (t.len ≤ l.length)) = true)
    (hp : ∀ c env w, ¬ QE (.panic c) env w) (H : Own L w) (h : ∀ w', Own L w' → dT P N l.toArray L0 t env w' (QE .normal)) : cw P N (.region id l.toArray true) env w QE := by
  intro a hs
  simp only [Bool.and_eq_true, decide_eq_true_eq] at hc
  refine wp_region_any hm (wpAny_of_M _ _ _ _ ((wpM_of_T (S := Own L0) (τ := τ) hc.1.1 (fun c a w ⟨env, _, q⟩ => hp _ _ _ q) t [] _ a _ _ DC.none (by simpa using hc.1.2) (by simpa using hc.2) ?_).1 (fun _ _ j hj => by cases hj)))
  exact h { w with drawn := w.drawn + 1 } H.drew (up N QE) (fun env' a' w' hs' h' => ⟨env', hs', h'⟩) a hs
end
end Go.Rp
