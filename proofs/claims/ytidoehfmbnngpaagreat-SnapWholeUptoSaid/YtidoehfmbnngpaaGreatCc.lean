/-
  The law SnapWhole answers true and leaves its arguments alone, at every input of bulk at most 1048576.
-/
import Derived.Test.YtidoehfmbnngpaaGreatRows
import Derived.Deep.Slices
import Derived.WalkKit
import Derived.ProofKit
import Derived.OpenShut
import Derived.JoinedCond
import Derived.Carry
import Derived.Test.YtidoehfmbnngpaaGreatCb
set_option linter.unusedVariables false
set_option linter.unusedSimpArgs false
set_option maxHeartbeats 1000000
set_option maxRecDepth 100000
namespace Go.Rp
open Go.Proofs
open Go.Proofs.YtidoehfmbnngpaaGreat (Rows.uptoBulk Rows.uptoBulkAll)
section
variable {H : Type} {en : TypeId × Value → H} {P : Program} {w : World} {spare : Nat → Bool} {held : Bool}
theorem bulk_one (d : DataW H) : 1 ≤ Rows.uptoBulk d := by
  cases d with
  | lit l => cases l <;> simp [Rows.uptoBulk]
  | nil => simp [Rows.uptoBulk]
  | ptr d => simp [Rows.uptoBulk]
  | slice elems spare => simp [Rows.uptoBulk]
  | agg parts => simp [Rows.uptoBulk]
  | iface t d => simp [Rows.uptoBulk]
  | map entries => simp [Rows.uptoBulk]
  | held h => simp [Rows.uptoBulk]
theorem bulk_sum {α : Type} {X : Nat → α} {D : Nat → DataW H} {f : α → Nat} : ∀ (l : List Nat), (∀ i ∈ l, f (X i) ≤ Rows.uptoBulk (D i)) → ((l.map X).map f).sum ≤ Rows.uptoBulkAll (l.map D) ∧ (l.map X).length ≤ Rows.uptoBulkAll (l.map D)
  | [], _ => by simp [Rows.uptoBulkAll]
  | i :: l, h => by
    have h1 := bulk_sum l (fun j hj => h j (List.mem_cons_of_mem _ hj))
    have h2 := h i (List.mem_cons_self ..)
    have h3 := bulk_one (D i)
    simp only [List.map_cons, List.sum_cons, List.length_cons, Rows.uptoBulkAll]
    omega
theorem cell_old {w : World} {h : Hp} (q : Sep [Old w] h) {b off : Nat} {v : Value} (e : w.cell? ⟨b, off, none⟩ = some v) : cellH h b off = some v := by
  obtain ⟨h1, h2, d, a, c, y, z⟩ := q
  refine cellH_le a ?_
  unfold World.cell? at e
  simp only at e
  unfold cellH
  cases hb : w.heap[b]? with
  | none => rw [hb] at e; simp at e
  | some o =>
    rw [y.2 b (Array.getElem?_eq_some_iff.1 hb).1, hb]
    rw [hb] at e
    cases o <;> simp_all
/-- A row that came in. -/
theorem openRow {α : Type} {t e : TypeId} {fuel : Nat} {cs : List Value} {x : DataW H × List MemPlace} (E : Enc α) (f : α → Nat) (Q : α → Prop) (ht : P.underlying t = some (.slice e)) (hc : P.cellsOf e = E.n)
    (el : ∀ (n : Nat) (cs : List Value) (d : DataW H) (pl : List MemPlace), DataW.trod en P w 0 spare held n e cs = some (d, pl) → ∃ a, cs = E.f a ∧ Q a ∧ f a ≤ Rows.uptoBulk d)
    (h : DataW.trod en P w 0 spare held fuel t cs = some x) :
    ∃ (ao : Option Addr) (cap : Nat) (xs : List α), cs = [.slice ao xs.length cap] ∧ xs.length ≤ cap ∧ Ent [Old w] (Row ao E xs) ∧ (∀ a ∈ xs, Q a) ∧ (xs.map f).sum + 1 ≤ Rows.uptoBulk x.1 ∧ xs.length + 1 ≤ Rows.uptoBulk x.1 := by
  rcases Go.Deep.open_slice ht h with ⟨h1, h2⟩ | ⟨a, len, cap, m, n, D, Pl, h1, hb, hl, hm, hmm, h2, hx⟩
  · subst h1; subst h2
    exact ⟨none, 0, [], rfl, Nat.le_refl _, rowNil E, by simp, by simp [Rows.uptoBulk], by simp [Rows.uptoBulk]⟩
  · subst h1; subst h2
    have hlm : len ≤ m := by rw [hmm]; split <;> omega
    have hq : ∀ i, i < len → ∃ z : α, w.cells? 0 (a.add (i * P.cellsOf e)) (P.cellsOf e) = some (E.f z) ∧ Q z ∧ f z ≤ Rows.uptoBulk (D i) := fun i hi => by
      obtain ⟨cs', h3, h4⟩ := hx i (by omega)
      obtain ⟨z, rfl, h5, h6⟩ := el _ _ _ _ h4
      exact ⟨z, h3, h5, h6⟩
    by_cases h0 : len = 0
    · subst h0
      exact ⟨some a, cap, [], rfl, Nat.zero_le _, rowNil E, by simp, by simp [Rows.uptoBulk], by simp [Rows.uptoBulk]⟩
    obtain ⟨z0, _⟩ := hq 0 (by omega)
    have : Nonempty α := ⟨z0⟩
    obtain ⟨X, hX⟩ : ∃ X : Nat → α, ∀ i, i < len → w.cells? 0 (a.add (i * P.cellsOf e)) (P.cellsOf e) = some (E.f (X i)) ∧ Q (X i) ∧ f (X i) ≤ Rows.uptoBulk (D i) := by
      refine ⟨fun i => if hi : i < len then Classical.choose (hq i hi) else Classical.choice this, fun i hi => ?_⟩
      simp only [dif_pos hi]; exact Classical.choose_spec (hq i hi)
    have hlen : ((List.range len).map X).length = len := by simp
    have hs := bulk_sum (X := X) (D := D) (f := f) (List.range len) (fun i hi => (hX i (List.mem_range.1 hi)).2.2)
    obtain ⟨b, off, rfl⟩ : ∃ b off, a = ⟨b, off, none⟩ := by
      have h3 := (World.cells?_some (hX 0 (by omega)).1).2.2 0 (by rw [hc]; exact E.pos)
      rw [Nat.zero_mul] at h3
      obtain ⟨b, off, spot⟩ := a
      have h5 : 0 < (E.f (X 0)).length := by rw [E.len]; exact E.pos
      rw [List.getElem?_eq_getElem h5] at h3
      have h4 : spot = none := by simpa [Addr.add] using World.cell?_spot h3
      subst h4
      exact ⟨b, off, rfl⟩
    refine ⟨some ⟨b, off, none⟩, cap, (List.range len).map X, by rw [hlen], by omega, fun g q => ⟨.inr ⟨b, off, rfl⟩, fun i y hy k v hv => ?_⟩, ?_, ?_, ?_⟩
    · have hi : i < len := by
        have := (List.getElem?_eq_some_iff.1 hy).1
        rwa [hlen] at this
      obtain rfl : X i = y := by
        rw [List.getElem?_map, List.getElem?_range hi] at hy
        exact Option.some.inj hy
      have hk : k < P.cellsOf e := by
        have := (List.getElem?_eq_some_iff.1 hv).1
        rwa [E.len, ← hc] at this
      have h3 := (World.cells?_some (hX i hi).1).2.2 k hk
      rw [hv, Addr.add_lit, Addr.add_lit, hc] at h3
      exact cell_old q h3
    · intro y hy
      obtain ⟨i, hi, rfl⟩ := List.mem_map.1 hy
      exact (hX i (List.mem_range.1 hi)).2.1
    · simp only [Rows.uptoBulk]; omega
    · simp only [Rows.uptoBulk]; omega
end
end Go.Rp
set_option linter.unusedVariables false
set_option linter.unusedSimpArgs false
set_option maxHeartbeats 1000000
set_option maxRecDepth 100000
namespace Go.Rp
open Go.Proofs
open Go.Proofs.YtidoehfmbnngpaaGreat (Rows.uptoBulk Rows.uptoBulkAll)
theorem u22 : Tryz.prog.underlying 22 = some (.slice 52) := by kernel_rfl
theorem u23 : Tryz.prog.underlying 23 = some (.slice 5) := by kernel_rfl
theorem u44 : Tryz.prog.underlying 44 = some (.slice 9) := by kernel_rfl
theorem u50 : Tryz.prog.underlying 50 = some (.slice 88) := by kernel_rfl
theorem u2 : Tryz.prog.underlying 2 = some (.int .i64) := by kernel_rfl
theorem u3 : Tryz.prog.underlying 3 = some (.int .i64) := by kernel_rfl
theorem u4 : Tryz.prog.underlying 4 = some .bool := by kernel_rfl
theorem u5 : Tryz.prog.underlying 5 = some (.int .u8) := by kernel_rfl
theorem u52 : Tryz.prog.underlying 52 = some (.struct (Tryz.prog.fieldsOf 52)) := by kernel_rfl
theorem u88 : Tryz.prog.underlying 88 = some (.struct (Tryz.prog.fieldsOf 88)) := by kernel_rfl
theorem f52 : (Tryz.prog.fieldsOf 52).toList.map (fun f => (f.type, f.offset)) = [(3, 0), (43, 1), (9, 2), (50, 3), (44, 4), (2, 5)] := by kernel_rfl
theorem f88 : (Tryz.prog.fieldsOf 88).toList.map (fun f => (f.type, f.offset)) = [(9, 0), (9, 1)] := by kernel_rfl
theorem c52 : Tryz.prog.cellsOf 52 = 6 := by kernel_rfl
theorem c88 : Tryz.prog.cellsOf 88 = 2 := by kernel_rfl
theorem c9 : Tryz.prog.cellsOf 9 = 1 := by kernel_rfl
theorem c5 : Tryz.prog.cellsOf 5 = 1 := by kernel_rfl
theorem c3' : Tryz.prog.cellsOf 3 = 1 := by kernel_rfl
theorem c2' : Tryz.prog.cellsOf 2 = 1 := by kernel_rfl
theorem c43 : Tryz.prog.cellsOf 43 = 1 := by kernel_rfl
theorem c44 : Tryz.prog.cellsOf 44 = 1 := by kernel_rfl
theorem c50 : Tryz.prog.cellsOf 50 = 1 := by kernel_rfl
section
variable {H : Type} {en : TypeId × Value → H} {w : World} {spare : Nat → Bool} {held : Bool}
theorem field_at {fs : Array Field} {l : List (TypeId × Nat)} (h : fs.toList.map (fun f => (f.type, f.offset)) = l) {i : Nat} {t o : Nat} (hi : l[i]? = some (t, o)) : ∃ f, fs[i]? = some f ∧ f.type = t ∧ f.offset = o := by
  rw [← h, List.getElem?_map, Option.map_eq_some_iff] at hi
  obtain ⟨f, h1, h2⟩ := hi
  refine ⟨f, by simpa using h1, ?_, ?_⟩
  · exact (Prod.mk.inj h2).1
  · exact (Prod.mk.inj h2).2
theorem list2 {α : Type} {l : List α} (h : l.length = 2) : ∃ a b, l = [a, b] := by
  rcases l with _ | ⟨a, _ | ⟨b, _ | ⟨c, l⟩⟩⟩ <;> simp at h
  exact ⟨a, b, rfl⟩
theorem list6 {α : Type} {l : List α} (h : l.length = 6) : ∃ a b c d e f, l = [a, b, c, d, e, f] := by
  rcases l with _ | ⟨a, _ | ⟨b, _ | ⟨c, _ | ⟨d, _ | ⟨e, _ | ⟨f, _ | ⟨g, l⟩⟩⟩⟩⟩⟩⟩ <;> simp at h
  exact ⟨a, b, c, d, e, f, rfl⟩
theorem el9 (n : Nat) (cs : List Value) (d : DataW H) (pl : List MemPlace) (h : DataW.trod en Tryz.prog w 0 spare held n 9 cs = some (d, pl)) : ∃ s : ByteArray, cs = encS.f s ∧ True ∧ s.size + 1 ≤ Rows.uptoBulk d := by
  obtain ⟨s, rfl, h2, _⟩ := DataW.trod_string u9 h
  cases h2
  exact ⟨s, rfl, trivial, Nat.le_refl _⟩
theorem el88 (n : Nat) (cs : List Value) (d : DataW H) (pl : List MemPlace) (h : DataW.trod en Tryz.prog w 0 spare held n 88 cs = some (d, pl)) : ∃ p : ByteArray × ByteArray, cs = encP.f p ∧ True ∧ p.1.size + p.2.size + 3 ≤ Rows.uptoBulk d := by
  obtain ⟨xs, m, _, h2, hl, hxl, hf⟩ := DataW.trod_struct u88 h
  rw [c88] at hl
  obtain ⟨v0, v1, rfl⟩ := list2 hl
  obtain ⟨g0, hg0, ht0, ho0⟩ := field_at f88 (i := 0) rfl
  obtain ⟨g1, hg1, ht1, ho1⟩ := field_at f88 (i := 1) rfl
  have q0 := hf 0 g0 hg0
  have q1 := hf 1 g1 hg1
  rw [ht0, ho0, c9] at q0
  rw [ht1, ho1, c9] at q1
  have hs : xs.length = 2 := by
    rw [hxl]
    have := congrArg List.length f88
    simpa using this
  obtain ⟨y0, y1, rfl⟩ := list2 hs
  obtain ⟨s, e1, e2, _⟩ := DataW.trod_string u9 q0
  obtain ⟨s', e3, e4, _⟩ := DataW.trod_string u9 q1
  simp only [List.drop_zero, List.take_succ_cons, List.take_zero, List.drop_succ_cons, List.cons.injEq, and_true] at e1 e3
  subst e1 e3 e2 e4
  cases h2
  refine ⟨(s, s'), rfl, trivial, ?_⟩
  simp only [List.map_cons, List.map_nil, Rows.uptoBulk, Rows.uptoBulkAll]
  show s.data.toList.length + 0 + (s'.data.toList.length) + 3 ≤ _
  omega
/-- What is known of a call in a script that came in. -/
def OpQ (w : World) (o : OT) : Prop := Ent [Old w] (Row o.ap encP o.ps) ∧ Ent [Old w] (Row o.ak encS o.ks) ∧ 0 ≤ o.id ∧ o.id < 18446744073709551616
theorem el52 (n : Nat) (cs : List Value) (d : DataW H) (pl : List MemPlace) (h : DataW.trod en Tryz.prog w 0 spare held n 52 cs = some (d, pl)) : ∃ o : OT, cs = encO.f o ∧ OpQ w o ∧ wtO o ≤ Rows.uptoBulk d := by
  obtain ⟨xs, m, _, h2, hl, hxl, hf⟩ := DataW.trod_struct u52 h
  rw [c52] at hl
  obtain ⟨v0, v1, v2, v3, v4, v5, rfl⟩ := list6 hl
  obtain ⟨g0, hg0, ht0, ho0⟩ := field_at f52 (i := 0) rfl
  obtain ⟨g1, hg1, ht1, ho1⟩ := field_at f52 (i := 1) rfl
  obtain ⟨g2, hg2, ht2, ho2⟩ := field_at f52 (i := 2) rfl
  obtain ⟨g3, hg3, ht3, ho3⟩ := field_at f52 (i := 3) rfl
  obtain ⟨g4, hg4, ht4, ho4⟩ := field_at f52 (i := 4) rfl
  obtain ⟨g5, hg5, ht5, ho5⟩ := field_at f52 (i := 5) rfl
  have q0 := hf 0 g0 hg0
  have q1 := hf 1 g1 hg1
  have q2 := hf 2 g2 hg2
  have q3 := hf 3 g3 hg3
  have q4 := hf 4 g4 hg4
  have q5 := hf 5 g5 hg5
  rw [ht0, ho0, c3'] at q0
  rw [ht1, ho1, c43] at q1
  rw [ht2, ho2, c9] at q2
  rw [ht3, ho3, c50] at q3
  rw [ht4, ho4, c44] at q4
  rw [ht5, ho5, c2'] at q5
  have hs : xs.length = 6 := by
    rw [hxl]
    have := congrArg List.length f52
    simpa using this
  obtain ⟨y0, y1, y2, y3, y4, y5, rfl⟩ := list6 hs
  obtain ⟨k, e0, _, _⟩ := DataW.trod_int u3 q0
  obtain ⟨id, e1, _, w1⟩ := DataW.trod_int u43 q1
  obtain ⟨s, e2, _, _⟩ := DataW.trod_string u9 q2
  obtain ⟨ap, cp, ps, e3, _, hps, _, hbp, _⟩ := openRow encP (fun p => p.1.size + p.2.size + 3) (fun _ => True) u50 c88 el88 q3
  obtain ⟨ak, ck, ks, e4, _, hks, _, hbk, _⟩ := openRow encS (fun s => s.size + 1) (fun _ => True) u44 c9 el9 q4
  obtain ⟨now, e5, _, _⟩ := DataW.trod_int u2 q5
  simp only [List.drop_zero, List.take_succ_cons, List.take_zero, List.drop_succ_cons, List.cons.injEq, and_true] at e0 e1 e2 e3 e4 e5
  subst e0 e1 e2 e3 e4 e5
  cases h2
  refine ⟨⟨k, id, s, ps, ap, cp, ks, ak, ck, now⟩, rfl, ⟨hps, hks, ?_⟩, ?_⟩
  · simp [Lit.wf, IntKind.min, IntKind.max, IntKind.signed, IntKind.bits] at w1
    exact ⟨w1.1, Int.lt_of_le_of_lt w1.2 (by decide)⟩
  · simp only [List.map_cons, List.map_nil, Rows.uptoBulk, Rows.uptoBulkAll]
    show (ps.map fun p => p.1.size + p.2.size + 3).sum + (ks.map fun k => k.size + 1).sum ≤ _
    omega
theorem el5 (n : Nat) (cs : List Value) (d : DataW H) (pl : List MemPlace) (h : DataW.trod en Tryz.prog w 0 spare held n 5 cs = some (d, pl)) : ∃ c : UInt8, cs = encB.f c ∧ True ∧ 1 ≤ Rows.uptoBulk d := by
  obtain ⟨k, rfl, _, wf⟩ := DataW.trod_int u5 h
  simp [Lit.wf, IntKind.min, IntKind.max, IntKind.signed, IntKind.bits] at wf
  refine ⟨UInt8.ofNat k.toNat, ?_, trivial, bulk_one d⟩
  show [Value.int .u8 k] = [.int .u8 (((UInt8.ofNat k.toNat).toNat : Nat) : Int)]
  rw [UInt8.toNat_ofNat', Nat.mod_eq_of_lt (by omega)]
  congr 2
  omega
/-- A script that came in. -/
theorem openOps {v : Value} {d : DataW H} {pl : List MemPlace} (hv : ∃ ao n c, v = .slice ao n c) (h : DataW.Trod en Tryz.prog w 0 spare held 22 v d pl) (hb : Rows.uptoBulk d ≤ 1048576) :
    ∃ (ao : Option Addr) (cap : Nat) (ops : List OT), v = .slice ao ops.length cap ∧ Ent [Old w] (Row ao encO ops) ∧ Script [Old w] ops ∧ ops.length ≤ 1099511627776 := by
  obtain ⟨ao0, n0, c0, rfl⟩ := hv
  obtain ⟨fuel, hf⟩ := h
  obtain ⟨ao, cap, ops, e, _, hR, hQ, hs, hl⟩ := openRow encO wtO (OpQ w) u22 c52 el52 hf
  simp only [Value.cells] at e
  simp only at hs hl
  have e' : Value.slice ao0 n0 c0 = .slice ao ops.length cap := by simpa using e
  refine ⟨ao, cap, ops, e', hR, ⟨fun o ho => (hQ o ho).1, fun o ho => (hQ o ho).2.1, fun o ho => (hQ o ho).2.2, ?_⟩, ?_⟩
  · show (ops.map wtO).sum ≤ _
    omega
  · omega
/-- Bytes that came in. -/
theorem openBytes {v : Value} {d : DataW H} {pl : List MemPlace} (hv : ∃ ao n c, v = .slice ao n c) (h : DataW.Trod en Tryz.prog w 0 spare held 23 v d pl) (hb : Rows.uptoBulk d ≤ 1048576) :
    ∃ (ao : Option Addr) (cap : Nat) (xs : List UInt8), v = .slice ao xs.length cap ∧ xs.length ≤ cap ∧ Ent [Old w] (Row ao encB xs) ∧ xs.length ≤ 1048576 := by
  obtain ⟨ao0, n0, c0, rfl⟩ := hv
  obtain ⟨fuel, hf⟩ := h
  obtain ⟨ao, cap, xs, e, hc, hR, _, hs, hl⟩ := openRow encB (fun _ => 1) (fun _ => True) u23 c5 el5 hf
  simp only [Value.cells] at e
  simp only at hs hl
  have e' : Value.slice ao0 n0 c0 = .slice ao xs.length cap := by simpa using e
  exact ⟨ao, cap, xs, e', hc, hR, by omega⟩
end
end Go.Rp
set_option linter.unusedVariables false
set_option linter.unusedSimpArgs false
set_option maxHeartbeats 1000000
set_option maxRecDepth 100000
namespace Go.Rp
open Go.Proofs Go.RowKit
theorem below_old {w0 w : World} {L : List HP} (H : Own (Old w0 :: L) w) : Below w0.heap.size w0 w := by
  obtain ⟨⟨hg, _⟩, hs, hb⟩ := H.oldG
  have e : (w.os, w.tape, w.output) = (w0.os, w0.tape, w0.output) := hg
  simp only [Prod.mk.injEq] at e
  exact ⟨e.1, e.2.1, e.2.2, hs, hb⟩
end Go.Rp
namespace Go.Proofs.YtidoehfmbnngpaaGreat.snapWhole
open Go.ChangeShapes Go.WideShapes Go.ChangeAt Go.RowKit
theorem own : ownKnob Tryz.prog.godebug = none := by kernel_rfl
theorem laid : laidOutB Tryz.prog = true := by kernel_rfl
theorem contract (H : Type) (enc : TypeId × Value → H) (W : World) (base : Nat) (args : Array Value) (ds gs : List (DataW H)) (before : List MemPlace)
    (hval : ∀ (j : Nat) t v, Tryz.f3.params[j]? = some t → args[j]? = some v → Value.okWide Tryz.prog W .any base t v)
    (hW : DataW.Whole enc Tryz.prog Tryz.f3.params.toList Rows.snapWholeSpec.vars false W args.toList ds gs before) (hk : Rows.uptoSmall H (ds ++ gs) = true) :
    Calls Tryz.prog 3 args W fun e W' => ∃ v, e = .returned v ∧ Rows.snapWholeSpec.post enc Tryz.prog Tryz.f3 false true false false W args v W' := by
  have hW' := hW
  obtain ⟨p, q, hA0, hV, rfl, hfz, hnd⟩ := hW
  have hA : DataW.TrodAll enc Tryz.prog W 0 (fun _ => true) true Tryz.f3.params.toList args.toList ds p := hA0
  rw [Tryz.params3] at hA hval
  obtain ⟨v0, vs0, d0, ds0, p0, q0, hargs, rfl, rfl, h0, r0⟩ := trodAll_cons hA
  obtain ⟨v1, vs1, d1, ds1, p1, q1, rfl, rfl, rfl, h1, r1⟩ := trodAll_cons r0
  obtain ⟨rfl, rfl, rfl⟩ := trodAll_nil r1
  obtain rfl : args = #[v0, v1] := by cases args; simp_all
  obtain ⟨rfl, rfl⟩ := trodVars_none hV
  have hbulk : Rows.uptoBulk d0 + (Rows.uptoBulk d1 + 0) ≤ 1048576 := by
    have := of_decide_eq_true hk
    simpa only [List.append_nil, Rows.uptoBulkAll] using this
  obtain ⟨a1, k1, ops1, rfl, hR1, hS1, hl1⟩ := Rp.openOps (okWide_slice Rp.u22 (hval 0 22 v0 rfl rfl)) h0 (by omega)
  obtain ⟨a2, k2, xs, rfl, _, hR2, hl2⟩ := Rp.openBytes (okWide_slice Rp.u23 (hval 1 23 v1 rfl rfl)) h1 (by omega)
  refine Calls.mono (Rp.SnapWhole_ok (Rp.Own.old W) hR1 rfl hS1 hl1 hR2 rfl hl2).calls ?_
  rintro e W' ⟨v, rfl, rfl, HO⟩
  have hb := Rp.below_old HO
  have hlt : ∀ x ∈ p0 ++ (p1 ++ []), x.block < W.heap.size := fun x hx => by simpa using hW'.lt x (by simpa using hx)
  refine ⟨_, rfl, _, _, _, [], p0 ++ (p1 ++ []), [], hW', trodAll_cons_mk (shut_bool Rp.u4 _) trodAll_mk0, ?_, rfl, hb.frame _, fun h => by cases h⟩
  exact trodAll_cons_mk (Below.trod laid (by kernel_rfl) (of_decide_eq_true (by kernel_rfl)) h0 hb (fun x hx => hlt x (by simp [hx]))) (trodAll_cons_mk (Below.trod laid (by kernel_rfl) (of_decide_eq_true (by kernel_rfl)) h1 hb (fun x hx => hlt x (by simp [hx]))) trodAll_mk0)

theorem lifted (os : Os) (started : os.Started) (H : Type) (enc : TypeId × Value → H) (F : Stop.Interp) :
    ReturnsInHanded {} Tryz.checked os 3 .any ((Rows.OpenSpec.upto Rows.snapWholeSpec).pre6 enc Tryz.prog Tryz.f3 Rows.snapWholeUptoRow.domain false) (((Rows.OpenSpec.upto Rows.snapWholeSpec).at F).post enc Tryz.prog Tryz.f3 false true false false) := by
  refine returnsInHanded_of_cond (C := Tryz.checked) (s := Rows.OpenSpec.upto Rows.snapWholeSpec) (k := Rows.uptoSmall) rfl own started (by kernel_rfl) Tryz.func3
    (OpenSpec.witness (enc := enc) (C := Tryz.checked) (s := Rows.OpenSpec.upto Rows.snapWholeSpec) (k := Rows.uptoSmall) rfl false ⟨#[], #[.slice none 0 0, .slice none 0 0], []⟩ 8 (by kernel_rfl) (by kernel_rfl) (by kernel_rfl)
      (x := ([.nil, .nil], [], [])) (by kernel_rfl) rfl (by kernel_rfl)) ?_
  intro W base args ds gs before hval hW _ hk _
  exact contract H enc W base args ds gs before hval hW hk

theorem over : Rows.snapWholeUptoRow.holds Tryz.pinned (Rows.OpenSpec.upto Rows.snapWholeSpec) :=
  OpenClaim.holds_of_cond 3 Tryz.f3 rfl rfl rfl rfl rfl rfl rfl ⟨rfl, rfl, rfl, rfl, rfl⟩ rfl rfl rfl rfl rfl (by kernel_rfl) Tryz.func3 (by kernel_rfl)
    (of_decide_eq_true (by kernel_rfl)) (by unfold Func.isWrapper; first | (rw [if_pos (by decide +kernel)]; kernel_rfl) | (rw [if_neg (by decide +kernel)]; exact ⟨rfl, rfl⟩))
    (fun os started H enc _ F => lifted os started H enc F)
theorem snapWhole_holds : Rows.SnapWholeUptoSaid := over
end Go.Proofs.YtidoehfmbnngpaaGreat.snapWhole
