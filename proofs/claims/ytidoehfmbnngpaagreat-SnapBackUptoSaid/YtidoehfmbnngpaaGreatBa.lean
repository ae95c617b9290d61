/-
  The walk of the law SnapBack: at every script it answers true.
-/
import Derived.Test.YtidoehfmbnngpaaGreatProg
import Derived.Test.YtidoehfmbnngpaaGreatPl
set_option linter.unusedVariables false
set_option linter.unusedSimpArgs false
set_option maxHeartbeats 1000000
set_option maxRecDepth 100000
namespace Go.Rp
open Go.Proofs


theorem and_mask (x : Int) : 0 ≤ bits .and .i64 x 1099511627775 ∧ bits .and .i64 x 1099511627775 ≤ 1099511627775 := by
  have h : bits .and .i64 x 1099511627775 = IntKind.i64.wrap ((BitVec.ofInt 64 x &&& BitVec.ofInt 64 1099511627775).toNat : Int) := rfl
  have h2 : (BitVec.ofInt 64 x &&& BitVec.ofInt 64 1099511627775).toNat ≤ 1099511627775 := by
    rw [BitVec.toNat_and]
    exact Nat.and_le_right
  rw [h, wrap_i64 (by omega)]
  omega
theorem tmod_lo (g : Int) (h : g < 1) : -999 ≤ g.tmod 1000 ∧ g.tmod 1000 ≤ 0 := by
  obtain ⟨n, rfl⟩ : ∃ n : Nat, g = -(n : Int) := ⟨(-g).toNat, by omega⟩
  have e : ((n : Int).tmod 1000) = ((n % 1000 : Nat) : Int) := rfl
  rw [Int.neg_tmod, e]
  omega
theorem volV_restamp (now : Int) (S : Sto) : volV (restamp now S).V = volV S.V := by
  unfold volV restamp
  simp only [List.map_map]
  rfl
theorem len_restamp (now g : Int) (S : Sto) : (bodyB g (restamp now S)).length = (bodyB g S).length := by
  rw [bodyB_len, bodyB_len, volV_restamp]; rfl
theorem restamp_get {l m : List KT} {S : Sto} {now : Int} {i : Nat} {x y : KT} (h1 : l.map (·.1) = S.V) (h2 : m.map (·.1) = (restamp now S).V) (hx : l[i]? = some x) (hy : m[i]? = some y) :
    y.1 = (x.1.1, (⟨x.1.2.val, x.1.2.keys, if x.1.1.2 < lastOf S x.1.1.1 then now else -1⟩ : Hd)) := by
  have e1 : S.V[i]? = some x.1 := by rw [← h1, List.getElem?_map, hx]; rfl
  have e2 : (restamp now S).V[i]? = some y.1 := by rw [← h2, List.getElem?_map, hy]; rfl
  unfold restamp at e2
  simp only [List.getElem?_map, e1, Option.map_some] at e2
  exact (Option.some.inj e2).symm
theorem same_get {l m : List KT} {V : List (Nm × Hd)} {i : Nat} {x y : KT} (h1 : l.map (·.1) = V) (h2 : m.map (·.1) = V) (hx : l[i]? = some x) (hy : m[i]? = some y) : SameK x y ∧ x.1.2.stamp = y.1.2.stamp := by
  have e1 : V[i]? = some x.1 := by rw [← h1, List.getElem?_map, hx]; rfl
  have e2 : V[i]? = some y.1 := by rw [← h2, List.getElem?_map, hy]; rfl
  have : x.1 = y.1 := Option.some.inj (e1.symm.trans e2)
  exact ⟨⟨by rw [this], by rw [this], by rw [this]⟩, by rw [this]⟩
/-- What a script of some weight makes. -/
structure Fits (S : Sto) : Prop where
  wf : WfS S
  vol : volV S.V ≤ 1081081856
theorem Fits.run {F : List HP} {ops : List OT} (h : Script F ops) : Fits (runS ⟨[], []⟩ ops) := by
  have h1 := volV_runS ops ⟨[], []⟩
  have h2 := h.wt
  have h3 : volV ([] : List (Nm × Hd)) = 0 := rfl
  rw [h3] at h1
  exact ⟨WfS.nil.runS ops (fun o ho => (h.id o ho).2), by omega⟩
theorem Fits.restamp {S : Sto} (h : Fits S) {now : Int} (hn : 0 ≤ now ∧ now ≤ 1099511627776) : Fits (restamp now S) := ⟨restamp_ok h.wf hn, by rw [volV_restamp]; exact h.vol⟩
theorem Fits.body {S : Sto} (h : Fits S) (g : Int) : (bodyB g S).length ≤ 2147483647 := by
  have h1 := h.wf.volL
  have h2 := h.vol
  rw [bodyB_len]; omega
theorem Fits.V {S : Sto} (h : Fits S) : S.V.length ≤ 1073741824 := by
  have h1 := V_len S.V
  have h2 := h.vol
  omega
theorem Fits.L {S : Sto} (h : Fits S) : S.L.length ≤ 1073741824 := by
  have h1 := h.wf.volL
  have h2 := h.vol
  have := flat_ge (f := lastB) (k := 12) (fun a => by rw [lastB_len]; omega) S.L
  rw [flat_sum] at this
  unfold volL at h1
  omega
theorem Fits.K {S : Sto} (h : Fits S) : ∀ x ∈ S.V, x.2.keys.length ≤ 1024 := fun x hx => (h.wf.ver hx).2.2.2.2.1
theorem Fits.Kl {S : Sto} (h : Fits S) {l : List KT} (hl : l.map (·.1) = S.V) : l.length ≤ 1099511627776 ∧ ∀ x ∈ l, x.1.2.keys.length ≤ 1099511627776 := by
  have h1 := h.V
  have h2 : l.length = S.V.length := by rw [← hl, List.length_map]
  exact ⟨by omega, fun x hx => by have := h.K x.1 (by rw [← hl]; exact List.mem_map_of_mem hx); omega⟩
theorem len_eq {l m : List KT} {V V' : List (Nm × Hd)} (h1 : l.map (·.1) = V) (h2 : m.map (·.1) = V') (h : V.length = V'.length) : l.length = m.length := by
  rw [← List.length_map (f := fun x : KT => x.1), h1, h, ← h2, List.length_map]
noncomputable def step3 (S : Sto) (o : OT) : Sto := (dropS (stepC (stepP S o) o.id o.now) o.key o.id).2
theorem volV_step3 (S : Sto) (o : OT) : volV (step3 S o).V ≤ volV S.V + 1031 * wtO o := by
  have h1 := volV_drop (S := stepC (stepP S o) o.id o.now) (k := o.key) (id := o.id)
  have h2 := volV_stepC (stepP S o) o.id o.now
  have h3 := volV_stepP S o
  unfold step3; omega
theorem vol3 {v : Nat} {R : Sto} {d : List OT} {o : OT} (h : volV R.V ≤ v + 1031 * wtOs d) : volV (step3 R o).V ≤ v + 1031 * wtOs (d ++ [o]) := by
  have h1 := volV_step3 R o
  have e : wtOs (d ++ [o]) = wtOs d + wtO o := by rw [wtOs_append]; simp [wtOs]
  omega
end Go.Rp
set_option linter.unusedVariables false
set_option linter.unusedSimpArgs false
set_option maxHeartbeats 1000000
set_option maxRecDepth 100000
namespace Go.Rp
open Go.Proofs
instance iW41_0 : ElT Tryz.prog 48 5 := ElT.mk' (by kernel_rfl)
instance iW41_1 : ElT Tryz.prog 52 6 := ElT.mk' (by kernel_rfl)
instance iW41_2 : ElT Tryz.prog 88 2 := ElT.mk' (by kernel_rfl)
instance iW41_3 : ElT Tryz.prog 9 1 := ElT.mk' (by kernel_rfl)
instance iW41_4 : FnOk Tryz.prog 10 := ⟨⟨Tryz.f10, Tryz.func10, by kernel_rfl, by kernel_rfl⟩⟩
instance iW41_5 : FnOk Tryz.prog 11 := ⟨⟨Tryz.f11, Tryz.func11, by kernel_rfl, by kernel_rfl⟩⟩
instance iW41_6 : FnOk Tryz.prog 12 := ⟨⟨Tryz.f12, Tryz.func12, by kernel_rfl, by kernel_rfl⟩⟩
instance iW41_7 : FnOk Tryz.prog 13 := ⟨⟨Tryz.f13, Tryz.func13, by kernel_rfl, by kernel_rfl⟩⟩
instance iW41_8 : FnOk Tryz.prog 14 := ⟨⟨Tryz.f14, Tryz.func14, by kernel_rfl, by kernel_rfl⟩⟩
instance iW41_9 : FnOk Tryz.prog 15 := ⟨⟨Tryz.f15, Tryz.func15, by kernel_rfl, by kernel_rfl⟩⟩
instance iW41_10 : FnOk Tryz.prog 16 := ⟨⟨Tryz.f16, Tryz.func16, by kernel_rfl, by kernel_rfl⟩⟩
instance iW41_11 : FnOk Tryz.prog 17 := ⟨⟨Tryz.f17, Tryz.func17, by kernel_rfl, by kernel_rfl⟩⟩
instance iW41_12 : FnOk Tryz.prog 18 := ⟨⟨Tryz.f18, Tryz.func18, by kernel_rfl, by kernel_rfl⟩⟩
instance iW41_13 : FnOk Tryz.prog 19 := ⟨⟨Tryz.f19, Tryz.func19, by kernel_rfl, by kernel_rfl⟩⟩
instance iW41_14 : FnOk Tryz.prog 6 := ⟨⟨Tryz.f6, Tryz.func6, by kernel_rfl, by kernel_rfl⟩⟩
instance iW41_15 : FnOk Tryz.prog 7 := ⟨⟨Tryz.f7, Tryz.func7, by kernel_rfl, by kernel_rfl⟩⟩
instance iW41_16 : FnOk Tryz.prog 8 := ⟨⟨Tryz.f8, Tryz.func8, by kernel_rfl, by kernel_rfl⟩⟩
instance iW41_17 : FnOk Tryz.prog 9 := ⟨⟨Tryz.f9, Tryz.func9, by kernel_rfl, by kernel_rfl⟩⟩
instance iW41_18 : SlT Tryz.prog 22 52 := ⟨by kernel_rfl⟩
instance iW41_19 : SlT Tryz.prog 34 48 := ⟨by kernel_rfl⟩
instance iW41_20 : SlT Tryz.prog 44 9 := ⟨by kernel_rfl⟩
instance iW41_21 : SlT Tryz.prog 50 88 := ⟨by kernel_rfl⟩
instance iW41_22 : SzT Tryz.prog 52 6 := ⟨by kernel_rfl⟩
instance iW41_23 : ZvT Tryz.prog 52 (.agg #[(.int .i64 0), (.int .u64 0), (.string ByteArray.empty), (.slice none 0 0), (.slice none 0 0), (.int .i64 0)]) := ⟨by kernel_rfl⟩
theorem tt4 : (AG Tryz.prog 2 = some false) ∧ (AG Tryz.prog 43 = some false) ∧ (AG Tryz.prog 44 = some false) ∧ (AG Tryz.prog 50 = some false) ∧ (AG Tryz.prog 52 = some true) ∧ (AG Tryz.prog 9 = some false) ∧ (FO Tryz.prog 46 0 = some 0) ∧ (FO Tryz.prog 46 1 = some 1) ∧ (FO Tryz.prog 48 0 = some 0) ∧ (FO Tryz.prog 48 1 = some 4) ∧ (FO Tryz.prog 52 1 = some 1) ∧ (FO Tryz.prog 52 2 = some 2) ∧ (FO Tryz.prog 52 3 = some 3) ∧ (FO Tryz.prog 52 4 = some 4) ∧ (FO Tryz.prog 52 5 = some 5) ∧ (KD Tryz.prog 25 = some 2) ∧ (LK Tryz.prog 22 = some 1) ∧ (LK Tryz.prog 34 = some 1) ∧ (SZ Tryz.prog 52 = some 6) := ⟨by kernel_rfl, by kernel_rfl, by kernel_rfl, by kernel_rfl, by kernel_rfl, by kernel_rfl, by kernel_rfl, by kernel_rfl, by kernel_rfl, by kernel_rfl, by kernel_rfl, by kernel_rfl, by kernel_rfl, by kernel_rfl, by kernel_rfl, by kernel_rfl, by kernel_rfl, by kernel_rfl, by kernel_rfl⟩
theorem SnapBack_ok {gen now : Int} {a1 a2 : Option Addr} {n1 n2 k1 k2 : Nat} {ops1 ops2 : List OT} {F : List HP} {w : World} (H : Own F w) (hR1 : Ent F (Row a1 encO ops1)) (hn1 : n1 = ops1.length) (hS1 : Script F ops1) (hb1 : ops1.length ≤ 1099511627776) (hR2 : Ent F (Row a2 encO ops2)) (hn2 : n2 = ops2.length) (hS2 : Script F ops2) (hb2 : ops2.length ≤ 1099511627776) (hgen : -9223372036854775808 ≤ gen ∧ gen ≤ 9223372036854775807) :
  Cl Tryz.prog 4 #[.int .i64 gen, .slice a1 n1 k1, .int .i64 now, .slice a2 n2 k2] w fun v w' => v = .bool true ∧ Own F w' := by
  subst hn1
  subst hn2
  refine cl_of_cw Tryz.func4 rfl ?_
  simp only [Tryz.ntmps4, envA, List.size_toArray, List.length_cons, List.length_nil, Nat.reduceAdd, Nat.reduceSub]
  have htm := tmod_lo gen
  have hmask := and_mask now
  refine cw_seq (fun K1 h1 => ?_)
  refine cw_region (lq_run ?_)
  simp (maxSteps := 5000000) (decide := true) (disch := omega) only [EV, ↓reduceIte, Nat.reduceAdd, tt4, encO_f, encK_f, L6, L5]
  refine lq_nil ?_
  refine h1 _ _ ?_
  refine cw_seq (fun K2 h2 => ?_)
  refine cw_region (lq_run ?_)
  simp (maxSteps := 5000000) (decide := true) (disch := omega) only [EV, ↓reduceIte, Nat.reduceAdd, tt4, encO_f, encK_f, L6, L5]
  refine lq_call rfl ?_
  refine Cl.mono (alive_ok H) ?_
  rintro _ w ⟨rfl, H⟩
  simp (maxSteps := 5000000) (decide := true) (disch := omega) only [EV, ↓reduceIte, Nat.reduceAdd, tt4, encO_f, encK_f, L6, L5]
  refine lq_nil ?_
  refine h2 _ _ ?_
  refine cw_seq (fun K3 h3 => ?_)
  refine cw_seq (fun K4 h4 => ?_)
  refine cw_region (lq_run ?_)
  simp (maxSteps := 5000000) (decide := true) (disch := omega) only [EV, ↓reduceIte, Nat.reduceAdd, tt4, encO_f, encK_f, L6, L5]
  refine lq_nil ?_
  refine h4 _ _ ?_
  refine cw_condF rfl ?_
  refine cw_skip ?_
  refine h3 _ _ ?_
  refine cw_seq (fun K5 h5 => ?_)
  refine cw_seq (fun K6 h6 => ?_)
  refine cw_region (lq_run ?_)
  simp (maxSteps := 5000000) (decide := true) (disch := omega) only [EV, ↓reduceIte, Nat.reduceAdd, tt4, encO_f, encK_f, L6, L5]
  refine lq_nil ?_
  refine h6 _ _ ?_
  refine cw_condB rfl (fun c34 => ?_) (fun c34 => ?_)
  · skip
    try simp only [HB] at c34
    obtain ⟨g, hgg⟩ : ∃ g, g = 1 - gen.tmod 1000 := ⟨_, rfl⟩
    replace htm := htm c34
    have hg1 : 1 ≤ g := by omega
    have hg2 : g ≤ 9223372036854775807 := by omega
    refine cw_region (lq_run ?_)
    simp (maxSteps := 5000000) (decide := true) (disch := omega) only [EV, ↓reduceIte, Nat.reduceAdd, tt4, encO_f, encK_f, L6, L5]
    refine lq_nil ?_
    refine h5 _ _ ?_
    refine cw_seq (fun K7 h7 => ?_)
    refine cw_region (lq_run ?_)
    rw [← hgg]
    simp (maxSteps := 5000000) (decide := true) (disch := omega) only [EV, ↓reduceIte, Nat.reduceAdd, tt4, encO_f, encK_f, L6, L5]
    refine lq_nil ?_
    refine h7 _ _ ?_
    refine cw_seq (fun K8 h8 => ?_)
    refine cw_region (lq_run ?_)
    obtain ⟨nw, hnw⟩ : ∃ x, x = bits .and .i64 now 1099511627775 := ⟨_, rfl⟩
    rw [← hnw] at hmask ⊢
    simp (maxSteps := 5000000) (decide := true) (disch := omega) only [EV, ↓reduceIte, Nat.reduceAdd, tt4, encO_f, encK_f, L6, L5]
    refine lq_call rfl ?_
    refine Cl.mono (made_ok H hR1 rfl hS1 hb1) ?_
    rintro _ w ⟨p, rfl, H⟩
    have hf := Fits.run hS1
    obtain ⟨S, hSS⟩ : ∃ S, S = runS ⟨[], []⟩ ops1 := ⟨_, rfl⟩
    rw [← hSS] at H hf
    have hbd := hf.body g
    have hsl := snapB_length g S
    have hfR := hf.restamp (now := nw) (by omega)
    have hlR := len_restamp nw g S
    simp (maxSteps := 5000000) (decide := true) (disch := omega) only [EV, ↓reduceIte, Nat.reduceAdd, tt4, encO_f, encK_f, L6, L5]
    refine lq_nil ?_
    refine h8 _ _ ?_
    refine cw_seq (fun K9 h9 => ?_)
    refine cw_seq (fun K10 h10 => ?_)
    refine cw_region (lq_run ?_)
    simp (maxSteps := 5000000) (decide := true) (disch := omega) only [EV, ↓reduceIte, Nat.reduceAdd, tt4, encO_f, encK_f, L6, L5]
    refine lq_nil ?_
    refine h10 _ _ ?_
    refine cw_condF rfl ?_
    refine cw_skip ?_
    refine h9 _ _ ?_
    refine cw_seq (fun K11 h11 => ?_)
    refine cw_region (lq_run ?_)
    simp (maxSteps := 5000000) (decide := true) (disch := omega) only [EV, ↓reduceIte, Nat.reduceAdd, tt4, encO_f, encK_f, L6, L5]
    refine lq_call rfl ?_
    refine Cl.mono (Build_good H hf.wf hg1 hg2 hbd) ?_
    rintro _ w ⟨ao3, c3, rfl, H⟩
    have hc3 := H.oscap
    simp (maxSteps := 5000000) (decide := true) (disch := omega) only [EV, ↓reduceIte, Nat.reduceAdd, tt4, encO_f, encK_f, L6, L5]
    refine lq_nil ?_
    refine h11 _ _ ?_
    refine cw_seq (fun K12 h12 => ?_)
    refine cw_region (lq_run ?_)
    simp (maxSteps := 5000000) (decide := true) (disch := omega) only [EV, ↓reduceIte, Nat.reduceAdd, tt4, encO_f, encK_f, L6, L5]
    refine lq_call rfl ?_
    refine Cl.mono (own_ok H Ent.os rfl (by omega)) ?_
    rintro _ w ⟨ao4, c4, rfl, hc4, H⟩
    simp (maxSteps := 5000000) (decide := true) (disch := omega) only [EV, ↓reduceIte, Nat.reduceAdd, tt4, encO_f, encK_f, L6, L5]
    refine lq_call rfl ?_
    refine Cl.mono (Read_good H Ent.os rfl hc4 hf.wf hg1 hg2 hbd (by omega)) ?_
    rintro _ w ⟨p2, rfl, H⟩
    replace H : Own (StoreAt p2 (restamp nw S) :: Os 5 encB (.slice ao3 (snapB g S).length c3) (snapB g S) :: StoreAt p S :: F) w := H.wk
    simp (maxSteps := 5000000) (decide := true) (disch := omega) only [EV, ↓reduceIte, Nat.reduceAdd, tt4, encO_f, encK_f, L6, L5]
    refine lq_nil ?_
    refine h12 _ _ ?_
    refine cw_seq (fun K13 h13 => ?_)
    refine cw_seq (fun K14 h14 => ?_)
    refine cw_region (lq_run ?_)
    simp (maxSteps := 5000000) (decide := true) (disch := omega) only [EV, ↓reduceIte, Nat.reduceAdd, tt4, encO_f, encK_f, L6, L5]
    refine lq_nil ?_
    refine h14 _ _ ?_
    refine cw_condB rfl (fun c72 => ?_) (fun c72 => ?_)
    · skip
      try simp only [HB] at c72
      refine cw_seq (fun K15 h15 => ?_)
      refine cw_region (lq_run ?_)
      simp (maxSteps := 5000000) (decide := true) (disch := omega) only [EV, ↓reduceIte, Nat.reduceAdd, tt4, encO_f, encK_f, L6, L5]
      refine lq_nil ?_
      refine h15 _ _ ?_
      refine cw_ret ?_
      try simp (decide := true) only [EX, ↓reduceIte]
      refine ret1 rfl ?_
      first | exact ⟨rfl, H.wk⟩ | exact absurd trivial ‹¬True› | exact absurd ‹false = true› (by decide) | (exfalso; omega)
    · skip
      try simp only [HB] at c72
      refine cw_skip ?_
      refine h13 _ _ ?_
      refine cw_seq (fun K16 h16 => ?_)
      refine cw_region (lq_run ?_)
      simp (maxSteps := 5000000) (decide := true) (disch := omega) only [EV, ↓reduceIte, Nat.reduceAdd, tt4, encO_f, encK_f, L6, L5]
      refine lq_call rfl ?_
      refine Cl.mono (Kept_ok (H.tkR (R := StoreAt) (k := p)) hf.V (fun x hx => by have := hf.K x hx; omega)) ?_
      rintro _ w ⟨l1, aoK, cK, rfl, h1, H⟩
      have hK1 := hf.Kl h1
      simp (maxSteps := 5000000) (decide := true) (disch := omega) only [EV, ↓reduceIte, Nat.reduceAdd, tt4, encO_f, encK_f, L6, L5]
      refine lq_nil ?_
      refine h16 _ _ ?_
      refine cw_seq (fun K17 h17 => ?_)
      refine cw_region (lq_run ?_)
      simp (maxSteps := 5000000) (decide := true) (disch := omega) only [EV, ↓reduceIte, Nat.reduceAdd, tt4, encO_f, encK_f, L6, L5]
      refine lq_call rfl ?_
      refine Cl.mono (Lasts_ok (H.tkR (R := StoreAt) (k := p)) hf.L) ?_
      rintro _ w ⟨aoL, cL, rfl, H⟩
      have hLl := hf.L
      simp (maxSteps := 5000000) (decide := true) (disch := omega) only [EV, ↓reduceIte, Nat.reduceAdd, tt4, encO_f, encK_f, L6, L5]
      refine lq_nil ?_
      refine h17 _ _ ?_
      refine cw_seq (fun K18 h18 => ?_)
      refine cw_region (lq_run ?_)
      simp (maxSteps := 5000000) (decide := true) (disch := omega) only [EV, ↓reduceIte, Nat.reduceAdd, tt4, encO_f, encK_f, L6, L5]
      refine lq_call rfl ?_
      refine Cl.mono (Kept_ok (H.tkR (R := StoreAt) (k := p2)) hfR.V (fun x hx => by have := hfR.K x hx; omega)) ?_
      rintro _ w ⟨l2, aoM, cM, rfl, h2, H⟩
      have hK2 := hfR.Kl h2
      have hll : l1.length = l2.length := len_eq h1 h2 (by simp [restamp])
      replace H : Own (StoreAt p2 (restamp nw S) :: Os 111 encN (.slice aoL S.L.length cL) S.L :: Os 5 encB (.slice ao3 (snapB g S).length c3) (snapB g S) :: StoreAt p S :: Os 48 encK (.slice aoK l1.length cK) l1 :: KeysR l1 :: Os 48 encK (.slice aoM l2.length cM) l2 :: KeysR l2 :: F) w := H.wk
      simp (maxSteps := 5000000) (decide := true) (disch := omega) only [EV, ↓reduceIte, Nat.reduceAdd, tt4, encO_f, encK_f, L6, L5]
      refine lq_nil ?_
      refine h18 _ _ ?_
      refine cw_seq (fun K19 h19 => ?_)
      refine cw_seq (fun K20 h20 => ?_)
      refine cw_region (lq_run ?_)
      simp (maxSteps := 5000000) (decide := true) (disch := omega) only [EV, ↓reduceIte, Nat.reduceAdd, tt4, encO_f, encK_f, L6, L5]
      refine lq_call rfl ?_
      refine Cl.mono (sameKeptF_ok H (Ent.up (M := Os 48 encK (.slice aoK l1.length cK) l1 :: []) Ent.os) rfl (Ent.up (M := Os 48 encK (.slice aoM l2.length cM) l2 :: []) Ent.os) rfl (fun x hx => (KeysR.ent (L := []) hx).up) (fun x hx => (KeysR.ent (L := []) hx).up) hll hK1.1 hK1.2 (fun i x y hx hy => by have q := restamp_get h1 h2 hx hy; rw [SameK, q]; exact ⟨rfl, rfl, rfl⟩)) ?_
      rintro _ w ⟨rfl, H⟩
      simp (maxSteps := 5000000) (decide := true) (disch := omega) only [EV, ↓reduceIte, Nat.reduceAdd, tt4, encO_f, encK_f, L6, L5]
      refine lq_call rfl ?_
      refine Cl.mono (Lasts_ok (H.tkR (R := StoreAt) (k := p2)) hfR.L) ?_
      rintro _ w ⟨aoN, cN, rfl, H⟩
      replace H : Own (Os 111 encN (.slice aoN S.L.length cN) S.L :: StoreAt p2 (restamp nw S) :: Os 111 encN (.slice aoL S.L.length cL) S.L :: Os 5 encB (.slice ao3 (snapB g S).length c3) (snapB g S) :: StoreAt p S :: Os 48 encK (.slice aoK l1.length cK) l1 :: KeysR l1 :: Os 48 encK (.slice aoM l2.length cM) l2 :: KeysR l2 :: F) w := H
      rw [show (restamp nw S).L.length = S.L.length from rfl]
      simp (maxSteps := 5000000) (decide := true) (disch := omega) only [EV, ↓reduceIte, Nat.reduceAdd, tt4, encO_f, encK_f, L6, L5]
      refine lq_call rfl ?_
      refine Cl.mono (sameLasts_ok H (Ent.up (M := Os 111 encN (.slice aoL S.L.length cL) S.L :: []) Ent.os) rfl Ent.os rfl (by omega)) ?_
      rintro _ w ⟨rfl, H⟩
      simp (maxSteps := 5000000) (decide := true) (disch := omega) only [EV, ↓reduceIte, Nat.reduceAdd, tt4, encO_f, encK_f, L6, L5]
      refine lq_nil ?_
      refine h20 _ _ ?_
      refine cw_condF rfl ?_
      refine cw_skip ?_
      refine h19 _ _ ?_
      refine cw_seq (fun K21 h21 => ?_)
      refine cw_seq (fun K22 h22 => ?_)
      refine cw_region (lq_run ?_)
      simp (maxSteps := 5000000) (decide := true) (disch := omega) only [EV, ↓reduceIte, Nat.reduceAdd, tt4, encO_f, encK_f, L6, L5]
      refine lq_nil ?_
      refine h22 _ _ ?_
      refine cw_block ?_
      refine cw_loopC (X := List KT × List KT) [(0, _), (2, _), (3, _), (10, _), (11, _), (14, _), (16, _), (18, _)] (fun x => [(19, .int .i64 (x.1.length : Int))]) (fun x w => l2 = x.1 ++ x.2 ∧ Own (StoreAt p2 (restamp nw S) :: Os 5 encB (.slice ao3 (snapB g S).length c3) (snapB g S) :: StoreAt p S :: Os 48 encK (.slice aoK l1.length cK) l1 :: KeysR l1 :: Os 48 encK (.slice aoM l2.length cM) l2 :: KeysR l2 :: F) w) (fun x => x.2.length) ([], l2) (.c rfl (.c rfl (.c rfl (.c rfl (.c rfl (.c rfl (.c rfl (.c rfl .n)))))))) (.c rfl .n) ⟨rfl, H.wk⟩ ?_
      rintro ⟨d, r⟩ w ⟨hd, H⟩
      simp only [List.cons_append, List.nil_append]
      simp only at hd H ⊢
      refine cw_seq (fun K23 h23 => ?_)
      refine cw_seq (fun K24 h24 => ?_)
      refine cw_region (lq_run ?_)
      simp (maxSteps := 5000000) (decide := true) (disch := omega) only [EV, ↓reduceIte, Nat.reduceAdd, tt4, encO_f, encK_f, L6, L5]
      refine lq_nil ?_
      refine h24 _ _ ?_
      refine cw_condB rfl (fun c93 => ?_) (fun c93 => ?_)
      · skip
        try simp only [HB] at c93
        obtain ⟨y, r2, rfl, he⟩ := zip_more hd c93
        obtain ⟨x, hx⟩ : ∃ x, l1[d.length]? = some x := ⟨_, List.getElem?_eq_getElem (by omega)⟩
        have hst := restamp_get h1 h2 hx he
        obtain ⟨⟨⟨yk, yi⟩, ⟨yv, yks, yst⟩⟩, ⟨yao, yc⟩⟩ := y
        obtain ⟨⟨⟨xk, xi⟩, ⟨xv, xks, xst⟩⟩, ⟨xao, xc⟩⟩ := x
        simp only [Prod.mk.injEq, Hd.mk.injEq] at hst
        obtain ⟨⟨rfl, rfl⟩, rfl, rfl, hst⟩ := hst
        replace hst : (yi < lastOf S yk ∧ yst = nw) ∨ (¬ yi < lastOf S yk ∧ yst = -1) := by
          rw [hst]; split
          · exact .inl ⟨by assumption, rfl⟩
          · exact .inr ⟨by assumption, rfl⟩
        refine cw_skip ?_
        refine h23 _ _ ?_
        refine cw_seq (fun K25 h25 => ?_)
        refine cw_block ?_
        refine cw_seq (fun K26 h26 => ?_)
        refine cw_draw [(0, 0), (1, 0), (2, 0), (3, 0), (4, 0), (5, 1), (6, 0), (7, 0), (8, 0), (9, 0), (10, 0), (11, 0), (12, 1), (13, 2), (14, 0), (15, 0)] rfl (by kernel_rfl) (fun c env w => by simp (decide := true) only [EX, not_false_eq_true]) H (fun w H => ?_)
        have H0 := H
        refine dq_run ?_
        simp (maxSteps := 5000000) (decide := true) (disch := omega) only [EV, ↓reduceIte, Nat.reduceAdd, tt4, encO_f, encK_f, L6, L5]
        refine dq_idx (i' := d.length) H0 rfl rfl (Ent.os (L := []) (T := 48) (enc := encK) (n := l2.length) (c := cM) (xs := l2)) (Nat.le_refl _) rfl he ?_
        simp (maxSteps := 5000000) (decide := true) (disch := omega) only [EV, ↓reduceIte, Nat.reduceAdd, tt4, encO_f, encK_f, L6, L5]
        refine dq_loadE H0 rfl (Ent.os (L := []) (T := 48) (enc := encK) (n := l2.length) (c := cM) (xs := l2)) he rfl ?_
        simp (maxSteps := 5000000) (decide := true) (disch := omega) only [EV, ↓reduceIte, Nat.reduceAdd, tt4, encO_f, encK_f, L6, L5]
        refine dq_idx (i' := d.length) H0 rfl rfl (Ent.os (L := []) (T := 48) (enc := encK) (n := l2.length) (c := cM) (xs := l2)) (Nat.le_refl _) rfl he ?_
        simp (maxSteps := 5000000) (decide := true) (disch := omega) only [EV, ↓reduceIte, Nat.reduceAdd, tt4, encO_f, encK_f, L6, L5]
        refine dq_loadE H0 rfl (Ent.os (L := []) (T := 48) (enc := encK) (n := l2.length) (c := cM) (xs := l2)) he rfl ?_
        simp (maxSteps := 5000000) (decide := true) (disch := omega) only [EV, ↓reduceIte, Nat.reduceAdd, tt4, encO_f, encK_f, L6, L5]
        refine dq_act (by decide) rfl ?_
        refine lq_call rfl ?_
        refine Cl.mono (Last_ok (H.tkR (R := StoreAt) (k := p2))) ?_
        rintro _ w ⟨rfl, H⟩
        rw [show lastOf (restamp nw S) yk = lastOf S yk from rfl]
        refine lr_nil ?_
        replace H0 := H.wkTo H0
        refine ⟨fun _ => H0, ?_⟩
        simp (maxSteps := 5000000) (decide := true) (disch := omega) only [EV, ↓reduceIte, Nat.reduceAdd, tt4, encO_f, encK_f, L6, L5]
        refine dq_nil ?_
        refine h26 _ _ ?_
        refine cw_seq (fun K27 h27 => ?_)
        refine cw_region (lq_run ?_)
        obtain ⟨b, hb⟩ : ∃ b, b = decide (yi < lastOf S yk) := ⟨_, rfl⟩
        rw [← hb]
        simp (maxSteps := 5000000) (decide := true) (disch := omega) only [EV, ↓reduceIte, Nat.reduceAdd, tt4, encO_f, encK_f, L6, L5]
        refine lq_G (fun g112 => ?_) (fun g112 => ?_)
        · try simp only [HB] at g112
          subst g112
          have hold := of_decide_eq_true hb.symm
          simp (maxSteps := 5000000) (decide := true) (disch := omega) only [EV, ↓reduceIte, Nat.reduceAdd, tt4, encO_f, encK_f, L6, L5]
          refine lq_idx (i' := d.length) H rfl rfl (Ent.os (L := []) (T := 48) (enc := encK) (n := l2.length) (c := cM) (xs := l2)) (Nat.le_refl _) rfl he ?_
          simp (maxSteps := 5000000) (decide := true) (disch := omega) only [EV, ↓reduceIte, Nat.reduceAdd, tt4, encO_f, encK_f, L6, L5]
          refine lq_loadE H rfl (Ent.os (L := []) (T := 48) (enc := encK) (n := l2.length) (c := cM) (xs := l2)) he rfl ?_
          simp (maxSteps := 5000000) (decide := true) (disch := omega) only [EV, ↓reduceIte, Nat.reduceAdd, tt4, encO_f, encK_f, L6, L5]
          refine lq_G (fun g121 => ?_) (fun g121 => ?_)
          · try simp only [HB] at g121
            simp (maxSteps := 5000000) (decide := true) (disch := omega) only [EV, ↓reduceIte, Nat.reduceAdd, tt4, encO_f, encK_f, L6, L5]
            refine lq_nil ?_
            refine h27 _ _ ?_
            refine cw_condT rfl ?_
            refine cw_seq (fun K28 h28 => ?_)
            refine cw_region (lq_run ?_)
            simp (maxSteps := 5000000) (decide := true) (disch := omega) only [EV, ↓reduceIte, Nat.reduceAdd, tt4, encO_f, encK_f, L6, L5]
            refine lq_nil ?_
            refine h28 _ _ ?_
            refine cw_ret ?_
            try simp (decide := true) only [EX, ↓reduceIte]
            refine ret1 rfl ?_
            first | exact ⟨rfl, H.wk⟩ | exact absurd trivial ‹¬True› | exact absurd ‹false = true› (by decide) | (exfalso; omega)
          · try simp only [HB] at g121
            simp (maxSteps := 5000000) (decide := true) (disch := omega) only [EV, ↓reduceIte, Nat.reduceAdd, tt4, encO_f, encK_f, L6, L5]
            refine lq_nil ?_
            refine h27 _ _ ?_
            refine cw_condF rfl ?_
            refine cw_skip ?_
            refine h25 _ _ ?_
            refine cw_region (lq_run ?_)
            simp (maxSteps := 5000000) (decide := true) (disch := omega) only [EV, ↓reduceIte, Nat.reduceAdd, tt4, encO_f, encK_f, L6, L5]
            refine lq_nil ?_
            refine Exists.intro (d ++ [(((yk, yi), ⟨yv, yks, yst⟩), (yao, yc))], r2) ⟨⟨(.c (by rw [List.length_append]; rfl) .n), (.c rfl (.c rfl (.c rfl (.c rfl (.c rfl (.c rfl (.c rfl (.c rfl .n))))))))⟩, ⟨by simp [hd], H.wk⟩, (by simp)⟩
        · try simp only [HB] at g112
          subst g112
          have hold := of_decide_eq_false hb.symm
          simp (maxSteps := 5000000) (decide := true) (disch := omega) only [EV, ↓reduceIte, Nat.reduceAdd, tt4, encO_f, encK_f, L6, L5]
          refine lq_idx (i' := d.length) H rfl rfl (Ent.os (L := []) (T := 48) (enc := encK) (n := l2.length) (c := cM) (xs := l2)) (Nat.le_refl _) rfl he ?_
          simp (maxSteps := 5000000) (decide := true) (disch := omega) only [EV, ↓reduceIte, Nat.reduceAdd, tt4, encO_f, encK_f, L6, L5]
          refine lq_loadE H rfl (Ent.os (L := []) (T := 48) (enc := encK) (n := l2.length) (c := cM) (xs := l2)) he rfl ?_
          simp (maxSteps := 5000000) (decide := true) (disch := omega) only [EV, ↓reduceIte, Nat.reduceAdd, tt4, encO_f, encK_f, L6, L5]
          refine lq_nil ?_
          refine h27 _ _ ?_
          refine cw_condB rfl (fun c132 => ?_) (fun c132 => ?_)
          · skip
            try simp only [HB] at c132
            refine cw_seq (fun K29 h29 => ?_)
            refine cw_region (lq_run ?_)
            simp (maxSteps := 5000000) (decide := true) (disch := omega) only [EV, ↓reduceIte, Nat.reduceAdd, tt4, encO_f, encK_f, L6, L5]
            refine lq_nil ?_
            refine h29 _ _ ?_
            refine cw_ret ?_
            try simp (decide := true) only [EX, ↓reduceIte]
            refine ret1 rfl ?_
            first | exact ⟨rfl, H.wk⟩ | exact absurd trivial ‹¬True› | exact absurd ‹false = true› (by decide) | (exfalso; omega)
          · skip
            try simp only [HB] at c132
            refine cw_skip ?_
            refine h25 _ _ ?_
            refine cw_region (lq_run ?_)
            simp (maxSteps := 5000000) (decide := true) (disch := omega) only [EV, ↓reduceIte, Nat.reduceAdd, tt4, encO_f, encK_f, L6, L5]
            refine lq_nil ?_
            refine Exists.intro (d ++ [(((yk, yi), ⟨yv, yks, yst⟩), (yao, yc))], r2) ⟨⟨(.c (by rw [List.length_append]; rfl) .n), (.c rfl (.c rfl (.c rfl (.c rfl (.c rfl (.c rfl (.c rfl (.c rfl .n))))))))⟩, ⟨by simp [hd], H.wk⟩, (by simp)⟩
      · skip
        try simp only [HB] at c93
        refine cw_exit ?_
        refine h21 _ _ ?_
        refine cw_seq (fun K30 h30 => ?_)
        refine cw_region (lq_run ?_)
        simp (maxSteps := 5000000) (decide := true) (disch := omega) only [EV, ↓reduceIte, Nat.reduceAdd, tt4, encO_f, encK_f, L6, L5]
        refine lq_call rfl ?_
        refine Cl.mono (Build_good (H.tkR (R := StoreAt) (k := p2)) hfR.wf hg1 hg2 (by omega)) ?_
        rintro _ w ⟨ao5, c5, rfl, H⟩
        rw [restamp_bytes] at H ⊢
        simp (maxSteps := 5000000) (decide := true) (disch := omega) only [EV, ↓reduceIte, Nat.reduceAdd, tt4, encO_f, encK_f, L6, L5]
        refine lq_nil ?_
        refine h30 _ _ ?_
        refine cw_seq (fun K31 h31 => ?_)
        refine cw_seq (fun K32 h32 => ?_)
        refine cw_region (lq_run ?_)
        simp (maxSteps := 5000000) (decide := true) (disch := omega) only [EV, ↓reduceIte, Nat.reduceAdd, tt4, encO_f, encK_f, L6, L5]
        refine lq_call rfl ?_
        refine Cl.mono (same_ok H (Ent.up (M := Os 5 encB (.slice ao3 (snapB g S).length c3) (snapB g S) :: []) Ent.os) rfl Ent.os rfl) ?_
        rintro _ w ⟨rfl, H⟩
        rw [show decide (snapB g S = snapB g S) = true from decide_eq_true rfl]
        replace H : Own (StoreAt p2 (restamp nw S) :: Os 5 encB (.slice ao3 (snapB g S).length c3) (snapB g S) :: StoreAt p S :: Os 48 encK (.slice aoK l1.length cK) l1 :: KeysR l1 :: Os 48 encK (.slice aoM l2.length cM) l2 :: KeysR l2 :: F) w := H.wk
        simp (maxSteps := 5000000) (decide := true) (disch := omega) only [EV, ↓reduceIte, Nat.reduceAdd, tt4, encO_f, encK_f, L6, L5]
        refine lq_nil ?_
        refine h32 _ _ ?_
        refine cw_condF rfl ?_
        refine cw_skip ?_
        refine h31 _ _ ?_
        refine cw_seq (fun K33 h33 => ?_)
        refine cw_seq (fun K34 h34 => ?_)
        refine cw_region (lq_run ?_)
        simp (maxSteps := 5000000) (decide := true) (disch := omega) only [EV, ↓reduceIte, Nat.reduceAdd, tt4, encO_f, encK_f, L6, L5]
        refine lq_nil ?_
        refine h34 _ _ ?_
        refine cw_block ?_
        refine cw_loopC (X := List OT × List OT × Sto) [(0, _), (2, _), (3, _), (10, _), (11, _), (14, _), (16, _), (18, _)] (fun x => [(23, .int .i64 (x.1.length : Int))]) (fun x w => (ops2 = x.1 ++ x.2.1 ∧ volV x.2.2.V ≤ volV (restamp nw S).V + 1031 * wtOs x.1) ∧ Own (StoreAt p2 x.2.2 :: Os 5 encB (.slice ao3 (snapB g S).length c3) (snapB g S) :: StoreAt p S :: Os 48 encK (.slice aoK l1.length cK) l1 :: KeysR l1 :: Os 48 encK (.slice aoM l2.length cM) l2 :: KeysR l2 :: F) w) (fun x => x.2.1.length) ([], ops2, restamp nw S) (.c rfl (.c rfl (.c rfl (.c rfl (.c rfl (.c rfl (.c rfl (.c rfl .n)))))))) (.c rfl .n) ⟨⟨rfl, Nat.le_add_right _ _⟩, H⟩ ?_
        rintro ⟨d, r, R⟩ w ⟨⟨hd, hvol⟩, H⟩
        simp only [List.cons_append, List.nil_append]
        simp only at hd hvol H ⊢
        refine cw_seq (fun K35 h35 => ?_)
        refine cw_seq (fun K36 h36 => ?_)
        refine cw_region (lq_run ?_)
        simp (maxSteps := 5000000) (decide := true) (disch := omega) only [EV, ↓reduceIte, Nat.reduceAdd, tt4, encO_f, encK_f, L6, L5]
        refine lq_nil ?_
        refine h36 _ _ ?_
        refine cw_condB rfl (fun c150 => ?_) (fun c150 => ?_)
        · skip
          try simp only [HB] at c150
          obtain ⟨o, r2, rfl, he⟩ := zip_more hd c150
          have hom : o ∈ ops2 := by rw [hd]; simp
          have hv2 := V_len R.V
          have hv3 : wtOs ops2 = wtOs d + (wtO o + wtOs r2) := by rw [hd, wtOs_append]; simp [wtOs]
          have hv4 := hS2.wt
          have hv5 := wtO_len o
          have hv6 := hfR.vol
          have hv8 := volV_stepP R o
          have hv9 := volV_stepC (stepP R o) o.id o.now
          have hvA := volV_step3 R o
          have hvB := V_len (stepP R o).V
          have hvC := V_len (stepC (stepP R o) o.id o.now).V
          have hps := hS2.ps o hom
          have hks := hS2.ks o hom
          refine cw_skip ?_
          refine h35 _ _ ?_
          refine cw_seq (fun K37 h37 => ?_)
          refine cw_block ?_
          refine cw_seq (fun K38 h38 => ?_)
          refine cw_region (lq_run ?_)
          simp (maxSteps := 5000000) (decide := true) (disch := omega) only [EV, ↓reduceIte, Nat.reduceAdd, tt4, encO_f, encK_f, L6, L5]
          refine lq_idx (i' := d.length) H rfl rfl hR2 (Nat.le_refl _) rfl he ?_
          simp (maxSteps := 5000000) (decide := true) (disch := omega) only [EV, ↓reduceIte, Nat.reduceAdd, tt4, encO_f, encK_f, L6, L5]
          refine lq_loadE H rfl hR2 he rfl ?_
          simp (maxSteps := 5000000) (decide := true) (disch := omega) only [EV, ↓reduceIte, Nat.reduceAdd, tt4, encO_f, encK_f, L6, L5]
          refine lq_new H (fun b24 w H => ?_)
          try simp only [ES, encO_f, encK_f, L6, L5] at H
          simp (maxSteps := 5000000) (decide := true) (disch := omega) only [EV, ↓reduceIte, Nat.reduceAdd, tt4, encO_f, encK_f, L6, L5]
          refine lq_st H rfl rfl rfl (fun w H => ?_)
          try simp only [ES, encO_f, encK_f, L6, L5] at H
          simp (maxSteps := 5000000) (decide := true) (disch := omega) only [EV, ↓reduceIte, Nat.reduceAdd, tt4, encO_f, encK_f, L6, L5]
          refine lq_nil ?_
          refine h38 _ _ ?_
          refine cw_seq (fun K39 h39 => ?_)
          refine cw_drawT ([Ce b24 ([.int .i64 o.kind, .int .u64 o.id, .string o.key, .slice o.ap o.ps.length o.cp, .slice o.ak o.ks.length o.ck, .int .i64 o.now], 52)]) [(0, 0), (1, 0), (2, 1), (3, 2), (4, 0), (5, 1), (6, 2), (7, 2), (8, 0), (9, 1), (10, 2), (11, 0), (12, 1), (13, 3)] (.pre [(0, 0), (1, 0), (2, 1), (4, 0), (5, 1), (8, 0), (9, 1), (11, 0), (12, 1)] (.fork (.pre [(3, 2)] (.fork (.pre [(6, 2), (7, 2), (10, 2), (13, 3)] .fin) (.pre [(7, 2), (6, 2), (10, 2), (13, 3)] .fin))) (.pre [(7, 2), (3, 2), (6, 2), (10, 2), (13, 3)] .fin))) rfl (by kernel_rfl) (fun c env w => by simp (decide := true) only [EX, not_false_eq_true]) H (fun w H => ?_)
          have H0 : Own [Ce b24 ([.int .i64 o.kind, .int .u64 o.id, .string o.key, .slice o.ap o.ps.length o.cp, .slice o.ak o.ks.length o.ck, .int .i64 o.now], 52)] w := H.wk
          refine dT_pre ?_
          refine dq_run ?_
          simp (maxSteps := 5000000) (decide := true) (disch := omega) only [EV, ↓reduceIte, Nat.reduceAdd, tt4, encO_f, encK_f, L6, L5]
          refine dq_load H0 rfl ?_
          simp (maxSteps := 5000000) (decide := true) (disch := omega) only [EV, ↓reduceIte, Nat.reduceAdd, tt4, encO_f, encK_f, L6, L5]
          refine dq_load H0 rfl ?_
          simp (maxSteps := 5000000) (decide := true) (disch := omega) only [EV, ↓reduceIte, Nat.reduceAdd, tt4, encO_f, encK_f, L6, L5]
          refine dq_load H0 rfl ?_
          simp (maxSteps := 5000000) (decide := true) (disch := omega) only [EV, ↓reduceIte, Nat.reduceAdd, tt4, encO_f, encK_f, L6, L5]
          refine dq_load H0 rfl ?_
          simp (maxSteps := 5000000) (decide := true) (disch := omega) only [EV, ↓reduceIte, Nat.reduceAdd, tt4, encO_f, encK_f, L6, L5]
          refine dq_nil ?_
          refine dT_fork ?_ ?_
          · skip
            refine dT_pre ?_
            refine dq_run ?_
            simp (maxSteps := 5000000) (decide := true) (disch := omega) only [EV, ↓reduceIte, Nat.reduceAdd, tt4, encO_f, encK_f, L6, L5]
            refine dq_act (by decide) rfl ?_
            refine lq_bs H rfl rfl (by rfl) rfl (by decide) (fun b160 w H => ?_)
            try simp only [ES, encO_f, encK_f, L6, L5] at H
            replace H := H.os encP [] rfl rfl
            refine lr_nil ?_
            replace H0 := H.wkTo H0
            refine ⟨fun _ => H0, ?_⟩
            simp (maxSteps := 5000000) (decide := true) (disch := omega) only [EV, ↓reduceIte, Nat.reduceAdd, tt4, encO_f, encK_f, L6, L5]
            refine dq_nil ?_
            refine dT_fork ?_ ?_
            · skip
              refine dT_pre ?_
              refine dq_run ?_
              simp (maxSteps := 5000000) (decide := true) (disch := omega) only [EV, ↓reduceIte, Nat.reduceAdd, tt4, encO_f, encK_f, L6, L5]
              refine dq_act (by decide) rfl ?_
              refine lq_appR (enc := encP) H rfl rfl hps rfl (by rw [show encP.n = 2 from rfl]; simp; omega) (fun ap2 cp2 w H => ?_)
              simp only [List.nil_append, List.length_nil, Nat.zero_add] at H ⊢
              refine lr_nil ?_
              replace H0 := H.wkTo H0
              refine ⟨fun _ => H0, ?_⟩
              simp (maxSteps := 5000000) (decide := true) (disch := omega) only [EV, ↓reduceIte, Nat.reduceAdd, tt4, encO_f, encK_f, L6, L5]
              refine dq_act (by decide) rfl ?_
              refine lq_bs H rfl rfl (by rfl) rfl (by decide) (fun b164 w H => ?_)
              try simp only [ES, encO_f, encK_f, L6, L5] at H
              replace H := H.os encS [] rfl rfl
              refine lr_nil ?_
              replace H0 := H.wkTo H0
              refine ⟨fun _ => H0, ?_⟩
              simp (maxSteps := 5000000) (decide := true) (disch := omega) only [EV, ↓reduceIte, Nat.reduceAdd, tt4, encO_f, encK_f, L6, L5]
              refine dq_act (by decide) rfl ?_
              refine lq_appR (enc := encS) H rfl rfl hks rfl (by rw [show encS.n = 1 from rfl]; simp; omega) (fun ak2 ck2 w H => ?_)
              simp only [List.nil_append, List.length_nil, Nat.zero_add] at H ⊢
              refine lr_nil ?_
              replace H0 := H.wkTo H0
              refine ⟨fun _ => H0, ?_⟩
              simp (maxSteps := 5000000) (decide := true) (disch := omega) only [EV, ↓reduceIte, Nat.reduceAdd, tt4, encO_f, encK_f, L6, L5]
              refine dq_act (by decide) rfl ?_
              refine lq_call rfl ?_
              refine Cl.mono (Put_ok (H.tkR (R := StoreAt) (k := p2)) (Ent.up (M := Os 88 encP (.slice ap2 o.ps.length cp2) o.ps :: []) Ent.os) rfl (Ent.up (M := Os 9 encS (.slice ak2 o.ks.length ck2) o.ks :: []) Ent.os) rfl (by omega) (by omega)) ?_
              rintro v w hP
              replace H : Own (StoreAt p2 (stepP R o) :: Ce b24 ([.int .i64 o.kind, .int .u64 o.id, .string o.key, .slice o.ap o.ps.length o.cp, .slice o.ak o.ks.length o.ck, .int .i64 o.now], 52) :: Os 5 encB (.slice ao3 (snapB g S).length c3) (snapB g S) :: StoreAt p S :: Os 48 encK (.slice aoK l1.length cK) l1 :: KeysR l1 :: Os 48 encK (.slice aoM l2.length cM) l2 :: KeysR l2 :: F) w := by
                rcases hP with ⟨h1, h2, -, H⟩ | ⟨h1, -, H⟩
                · rw [stepP, if_pos ⟨h1, h2⟩]; exact H.wk
                · rw [stepP, if_neg h1]; exact H.wk
              refine lr_nil ?_
              refine ⟨fun hh => absurd hh (by decide), ?_⟩
              simp (maxSteps := 5000000) (decide := true) (disch := omega) only [EV, ↓reduceIte, Nat.reduceAdd, tt4, encO_f, encK_f, L6, L5]
              refine dq_nil ?_
              refine dT_fin ?_
              refine h39 _ _ ?_
              refine cw_seq (fun K40 h40 => ?_)
              refine cw_region (lq_run ?_)
              simp (maxSteps := 5000000) (decide := true) (disch := omega) only [EV, ↓reduceIte, Nat.reduceAdd, tt4, encO_f, encK_f, L6, L5]
              refine lq_load H rfl ?_
              simp (maxSteps := 5000000) (decide := true) (disch := omega) only [EV, ↓reduceIte, Nat.reduceAdd, tt4, encO_f, encK_f, L6, L5]
              refine lq_load H rfl ?_
              simp (maxSteps := 5000000) (decide := true) (disch := omega) only [EV, ↓reduceIte, Nat.reduceAdd, tt4, encO_f, encK_f, L6, L5]
              refine lq_call rfl ?_
              refine Cl.mono (Commit_ok (H.tkR (R := StoreAt) (k := p2)) (by omega)) ?_
              rintro v w hP
              replace H : Own (StoreAt p2 (stepC (stepP R o) o.id o.now) :: Ce b24 ([.int .i64 o.kind, .int .u64 o.id, .string o.key, .slice o.ap o.ps.length o.cp, .slice o.ak o.ks.length o.ck, .int .i64 o.now], 52) :: Os 5 encB (.slice ao3 (snapB g S).length c3) (snapB g S) :: StoreAt p S :: Os 48 encK (.slice aoK l1.length cK) l1 :: KeysR l1 :: Os 48 encK (.slice aoM l2.length cM) l2 :: KeysR l2 :: F) w := by
                rcases hP with ⟨h1, -, H⟩ | ⟨h1, -, H⟩
                · rw [stepC, if_pos h1]; exact H.wk
                · rw [stepC, if_neg h1]; exact H.wk
              simp (maxSteps := 5000000) (decide := true) (disch := omega) only [EV, ↓reduceIte, Nat.reduceAdd, tt4, encO_f, encK_f, L6, L5]
              refine lq_nil ?_
              refine h40 _ _ ?_
              refine cw_region (lq_run ?_)
              simp (maxSteps := 5000000) (decide := true) (disch := omega) only [EV, ↓reduceIte, Nat.reduceAdd, tt4, encO_f, encK_f, L6, L5]
              refine lq_load H rfl ?_
              simp (maxSteps := 5000000) (decide := true) (disch := omega) only [EV, ↓reduceIte, Nat.reduceAdd, tt4, encO_f, encK_f, L6, L5]
              refine lq_load H rfl ?_
              simp (maxSteps := 5000000) (decide := true) (disch := omega) only [EV, ↓reduceIte, Nat.reduceAdd, tt4, encO_f, encK_f, L6, L5]
              refine lq_call rfl ?_
              refine Cl.mono (Drop_ok (H.tkR (R := StoreAt) (k := p2)) (by omega)) ?_
              rintro _ w ⟨rfl, H⟩
              change Own (StoreAt p2 (step3 R o) :: _) w at H
              replace H : Own (StoreAt p2 (step3 R o) :: Os 5 encB (.slice ao3 (snapB g S).length c3) (snapB g S) :: StoreAt p S :: Os 48 encK (.slice aoK l1.length cK) l1 :: KeysR l1 :: Os 48 encK (.slice aoM l2.length cM) l2 :: KeysR l2 :: F) w := H.wk
              simp (maxSteps := 5000000) (decide := true) (disch := omega) only [EV, ↓reduceIte, Nat.reduceAdd, tt4, encO_f, encK_f, L6, L5]
              refine lq_nil ?_
              refine h37 _ _ ?_
              refine cw_region (lq_run ?_)
              simp (maxSteps := 5000000) (decide := true) (disch := omega) only [EV, ↓reduceIte, Nat.reduceAdd, tt4, encO_f, encK_f, L6, L5]
              refine lq_nil ?_
              refine Exists.intro (d ++ [o], r2, step3 R o) ⟨⟨(.c (by rw [List.length_append]; rfl) .n), (.c rfl (.c rfl (.c rfl (.c rfl (.c rfl (.c rfl (.c rfl (.c rfl .n))))))))⟩, ⟨⟨by simp [hd], vol3 hvol⟩, H.wk⟩, (by simp)⟩
            · skip
              refine dT_pre ?_
              refine dq_run ?_
              simp (maxSteps := 5000000) (decide := true) (disch := omega) only [EV, ↓reduceIte, Nat.reduceAdd, tt4, encO_f, encK_f, L6, L5]
              refine dq_act (by decide) rfl ?_
              refine lq_bs H rfl rfl (by rfl) rfl (by decide) (fun b164 w H => ?_)
              try simp only [ES, encO_f, encK_f, L6, L5] at H
              replace H := H.os encS [] rfl rfl
              refine lr_nil ?_
              replace H0 := H.wkTo H0
              refine ⟨fun _ => H0, ?_⟩
              simp (maxSteps := 5000000) (decide := true) (disch := omega) only [EV, ↓reduceIte, Nat.reduceAdd, tt4, encO_f, encK_f, L6, L5]
              refine dq_act (by decide) rfl ?_
              refine lq_appR (enc := encP) H rfl rfl hps rfl (by rw [show encP.n = 2 from rfl]; simp; omega) (fun ap2 cp2 w H => ?_)
              simp only [List.nil_append, List.length_nil, Nat.zero_add] at H ⊢
              refine lr_nil ?_
              replace H0 := H.wkTo H0
              refine ⟨fun _ => H0, ?_⟩
              simp (maxSteps := 5000000) (decide := true) (disch := omega) only [EV, ↓reduceIte, Nat.reduceAdd, tt4, encO_f, encK_f, L6, L5]
              refine dq_act (by decide) rfl ?_
              refine lq_appR (enc := encS) H rfl rfl hks rfl (by rw [show encS.n = 1 from rfl]; simp; omega) (fun ak2 ck2 w H => ?_)
              simp only [List.nil_append, List.length_nil, Nat.zero_add] at H ⊢
              refine lr_nil ?_
              replace H0 := H.wkTo H0
              refine ⟨fun _ => H0, ?_⟩
              simp (maxSteps := 5000000) (decide := true) (disch := omega) only [EV, ↓reduceIte, Nat.reduceAdd, tt4, encO_f, encK_f, L6, L5]
              refine dq_act (by decide) rfl ?_
              refine lq_call rfl ?_
              refine Cl.mono (Put_ok (H.tkR (R := StoreAt) (k := p2)) (Ent.up (M := Os 88 encP (.slice ap2 o.ps.length cp2) o.ps :: []) Ent.os) rfl (Ent.up (M := Os 9 encS (.slice ak2 o.ks.length ck2) o.ks :: []) Ent.os) rfl (by omega) (by omega)) ?_
              rintro v w hP
              replace H : Own (StoreAt p2 (stepP R o) :: Ce b24 ([.int .i64 o.kind, .int .u64 o.id, .string o.key, .slice o.ap o.ps.length o.cp, .slice o.ak o.ks.length o.ck, .int .i64 o.now], 52) :: Os 5 encB (.slice ao3 (snapB g S).length c3) (snapB g S) :: StoreAt p S :: Os 48 encK (.slice aoK l1.length cK) l1 :: KeysR l1 :: Os 48 encK (.slice aoM l2.length cM) l2 :: KeysR l2 :: F) w := by
                rcases hP with ⟨h1, h2, -, H⟩ | ⟨h1, -, H⟩
                · rw [stepP, if_pos ⟨h1, h2⟩]; exact H.wk
                · rw [stepP, if_neg h1]; exact H.wk
              refine lr_nil ?_
              refine ⟨fun hh => absurd hh (by decide), ?_⟩
              simp (maxSteps := 5000000) (decide := true) (disch := omega) only [EV, ↓reduceIte, Nat.reduceAdd, tt4, encO_f, encK_f, L6, L5]
              refine dq_nil ?_
              refine dT_fin ?_
              refine h39 _ _ ?_
              refine cw_seq (fun K41 h41 => ?_)
              refine cw_region (lq_run ?_)
              simp (maxSteps := 5000000) (decide := true) (disch := omega) only [EV, ↓reduceIte, Nat.reduceAdd, tt4, encO_f, encK_f, L6, L5]
              refine lq_load H rfl ?_
              simp (maxSteps := 5000000) (decide := true) (disch := omega) only [EV, ↓reduceIte, Nat.reduceAdd, tt4, encO_f, encK_f, L6, L5]
              refine lq_load H rfl ?_
              simp (maxSteps := 5000000) (decide := true) (disch := omega) only [EV, ↓reduceIte, Nat.reduceAdd, tt4, encO_f, encK_f, L6, L5]
              refine lq_call rfl ?_
              refine Cl.mono (Commit_ok (H.tkR (R := StoreAt) (k := p2)) (by omega)) ?_
              rintro v w hP
              replace H : Own (StoreAt p2 (stepC (stepP R o) o.id o.now) :: Ce b24 ([.int .i64 o.kind, .int .u64 o.id, .string o.key, .slice o.ap o.ps.length o.cp, .slice o.ak o.ks.length o.ck, .int .i64 o.now], 52) :: Os 5 encB (.slice ao3 (snapB g S).length c3) (snapB g S) :: StoreAt p S :: Os 48 encK (.slice aoK l1.length cK) l1 :: KeysR l1 :: Os 48 encK (.slice aoM l2.length cM) l2 :: KeysR l2 :: F) w := by
                rcases hP with ⟨h1, -, H⟩ | ⟨h1, -, H⟩
                · rw [stepC, if_pos h1]; exact H.wk
                · rw [stepC, if_neg h1]; exact H.wk
              simp (maxSteps := 5000000) (decide := true) (disch := omega) only [EV, ↓reduceIte, Nat.reduceAdd, tt4, encO_f, encK_f, L6, L5]
              refine lq_nil ?_
              refine h41 _ _ ?_
              refine cw_region (lq_run ?_)
              simp (maxSteps := 5000000) (decide := true) (disch := omega) only [EV, ↓reduceIte, Nat.reduceAdd, tt4, encO_f, encK_f, L6, L5]
              refine lq_load H rfl ?_
              simp (maxSteps := 5000000) (decide := true) (disch := omega) only [EV, ↓reduceIte, Nat.reduceAdd, tt4, encO_f, encK_f, L6, L5]
              refine lq_load H rfl ?_
              simp (maxSteps := 5000000) (decide := true) (disch := omega) only [EV, ↓reduceIte, Nat.reduceAdd, tt4, encO_f, encK_f, L6, L5]
              refine lq_call rfl ?_
              refine Cl.mono (Drop_ok (H.tkR (R := StoreAt) (k := p2)) (by omega)) ?_
              rintro _ w ⟨rfl, H⟩
              change Own (StoreAt p2 (step3 R o) :: _) w at H
              replace H : Own (StoreAt p2 (step3 R o) :: Os 5 encB (.slice ao3 (snapB g S).length c3) (snapB g S) :: StoreAt p S :: Os 48 encK (.slice aoK l1.length cK) l1 :: KeysR l1 :: Os 48 encK (.slice aoM l2.length cM) l2 :: KeysR l2 :: F) w := H.wk
              simp (maxSteps := 5000000) (decide := true) (disch := omega) only [EV, ↓reduceIte, Nat.reduceAdd, tt4, encO_f, encK_f, L6, L5]
              refine lq_nil ?_
              refine h37 _ _ ?_
              refine cw_region (lq_run ?_)
              simp (maxSteps := 5000000) (decide := true) (disch := omega) only [EV, ↓reduceIte, Nat.reduceAdd, tt4, encO_f, encK_f, L6, L5]
              refine lq_nil ?_
              refine Exists.intro (d ++ [o], r2, step3 R o) ⟨⟨(.c (by rw [List.length_append]; rfl) .n), (.c rfl (.c rfl (.c rfl (.c rfl (.c rfl (.c rfl (.c rfl (.c rfl .n))))))))⟩, ⟨⟨by simp [hd], vol3 hvol⟩, H.wk⟩, (by simp)⟩
          · skip
            refine dT_pre ?_
            refine dq_run ?_
            simp (maxSteps := 5000000) (decide := true) (disch := omega) only [EV, ↓reduceIte, Nat.reduceAdd, tt4, encO_f, encK_f, L6, L5]
            refine dq_act (by decide) rfl ?_
            refine lq_bs H rfl rfl (by rfl) rfl (by decide) (fun b164 w H => ?_)
            try simp only [ES, encO_f, encK_f, L6, L5] at H
            replace H := H.os encS [] rfl rfl
            refine lr_nil ?_
            replace H0 := H.wkTo H0
            refine ⟨fun _ => H0, ?_⟩
            simp (maxSteps := 5000000) (decide := true) (disch := omega) only [EV, ↓reduceIte, Nat.reduceAdd, tt4, encO_f, encK_f, L6, L5]
            refine dq_act (by decide) rfl ?_
            refine lq_bs H rfl rfl (by rfl) rfl (by decide) (fun b160 w H => ?_)
            try simp only [ES, encO_f, encK_f, L6, L5] at H
            replace H := H.os encP [] rfl rfl
            refine lr_nil ?_
            replace H0 := H.wkTo H0
            refine ⟨fun _ => H0, ?_⟩
            simp (maxSteps := 5000000) (decide := true) (disch := omega) only [EV, ↓reduceIte, Nat.reduceAdd, tt4, encO_f, encK_f, L6, L5]
            refine dq_act (by decide) rfl ?_
            refine lq_appR (enc := encP) H rfl rfl hps rfl (by rw [show encP.n = 2 from rfl]; simp; omega) (fun ap2 cp2 w H => ?_)
            simp only [List.nil_append, List.length_nil, Nat.zero_add] at H ⊢
            refine lr_nil ?_
            replace H0 := H.wkTo H0
            refine ⟨fun _ => H0, ?_⟩
            simp (maxSteps := 5000000) (decide := true) (disch := omega) only [EV, ↓reduceIte, Nat.reduceAdd, tt4, encO_f, encK_f, L6, L5]
            refine dq_act (by decide) rfl ?_
            refine lq_appR (enc := encS) H rfl rfl hks rfl (by rw [show encS.n = 1 from rfl]; simp; omega) (fun ak2 ck2 w H => ?_)
            simp only [List.nil_append, List.length_nil, Nat.zero_add] at H ⊢
            refine lr_nil ?_
            replace H0 := H.wkTo H0
            refine ⟨fun _ => H0, ?_⟩
            simp (maxSteps := 5000000) (decide := true) (disch := omega) only [EV, ↓reduceIte, Nat.reduceAdd, tt4, encO_f, encK_f, L6, L5]
            refine dq_act (by decide) rfl ?_
            refine lq_call rfl ?_
            refine Cl.mono (Put_ok (H.tkR (R := StoreAt) (k := p2)) (Ent.up (M := Os 88 encP (.slice ap2 o.ps.length cp2) o.ps :: []) Ent.os) rfl (Ent.up (M := Os 9 encS (.slice ak2 o.ks.length ck2) o.ks :: []) Ent.os) rfl (by omega) (by omega)) ?_
            rintro v w hP
            replace H : Own (StoreAt p2 (stepP R o) :: Ce b24 ([.int .i64 o.kind, .int .u64 o.id, .string o.key, .slice o.ap o.ps.length o.cp, .slice o.ak o.ks.length o.ck, .int .i64 o.now], 52) :: Os 5 encB (.slice ao3 (snapB g S).length c3) (snapB g S) :: StoreAt p S :: Os 48 encK (.slice aoK l1.length cK) l1 :: KeysR l1 :: Os 48 encK (.slice aoM l2.length cM) l2 :: KeysR l2 :: F) w := by
              rcases hP with ⟨h1, h2, -, H⟩ | ⟨h1, -, H⟩
              · rw [stepP, if_pos ⟨h1, h2⟩]; exact H.wk
              · rw [stepP, if_neg h1]; exact H.wk
            refine lr_nil ?_
            refine ⟨fun hh => absurd hh (by decide), ?_⟩
            simp (maxSteps := 5000000) (decide := true) (disch := omega) only [EV, ↓reduceIte, Nat.reduceAdd, tt4, encO_f, encK_f, L6, L5]
            refine dq_nil ?_
            refine dT_fin ?_
            refine h39 _ _ ?_
            refine cw_seq (fun K42 h42 => ?_)
            refine cw_region (lq_run ?_)
            simp (maxSteps := 5000000) (decide := true) (disch := omega) only [EV, ↓reduceIte, Nat.reduceAdd, tt4, encO_f, encK_f, L6, L5]
            refine lq_load H rfl ?_
            simp (maxSteps := 5000000) (decide := true) (disch := omega) only [EV, ↓reduceIte, Nat.reduceAdd, tt4, encO_f, encK_f, L6, L5]
            refine lq_load H rfl ?_
            simp (maxSteps := 5000000) (decide := true) (disch := omega) only [EV, ↓reduceIte, Nat.reduceAdd, tt4, encO_f, encK_f, L6, L5]
            refine lq_call rfl ?_
            refine Cl.mono (Commit_ok (H.tkR (R := StoreAt) (k := p2)) (by omega)) ?_
            rintro v w hP
            replace H : Own (StoreAt p2 (stepC (stepP R o) o.id o.now) :: Ce b24 ([.int .i64 o.kind, .int .u64 o.id, .string o.key, .slice o.ap o.ps.length o.cp, .slice o.ak o.ks.length o.ck, .int .i64 o.now], 52) :: Os 5 encB (.slice ao3 (snapB g S).length c3) (snapB g S) :: StoreAt p S :: Os 48 encK (.slice aoK l1.length cK) l1 :: KeysR l1 :: Os 48 encK (.slice aoM l2.length cM) l2 :: KeysR l2 :: F) w := by
              rcases hP with ⟨h1, -, H⟩ | ⟨h1, -, H⟩
              · rw [stepC, if_pos h1]; exact H.wk
              · rw [stepC, if_neg h1]; exact H.wk
            simp (maxSteps := 5000000) (decide := true) (disch := omega) only [EV, ↓reduceIte, Nat.reduceAdd, tt4, encO_f, encK_f, L6, L5]
            refine lq_nil ?_
            refine h42 _ _ ?_
            refine cw_region (lq_run ?_)
            simp (maxSteps := 5000000) (decide := true) (disch := omega) only [EV, ↓reduceIte, Nat.reduceAdd, tt4, encO_f, encK_f, L6, L5]
            refine lq_load H rfl ?_
            simp (maxSteps := 5000000) (decide := true) (disch := omega) only [EV, ↓reduceIte, Nat.reduceAdd, tt4, encO_f, encK_f, L6, L5]
            refine lq_load H rfl ?_
            simp (maxSteps := 5000000) (decide := true) (disch := omega) only [EV, ↓reduceIte, Nat.reduceAdd, tt4, encO_f, encK_f, L6, L5]
            refine lq_call rfl ?_
            refine Cl.mono (Drop_ok (H.tkR (R := StoreAt) (k := p2)) (by omega)) ?_
            rintro _ w ⟨rfl, H⟩
            change Own (StoreAt p2 (step3 R o) :: _) w at H
            replace H : Own (StoreAt p2 (step3 R o) :: Os 5 encB (.slice ao3 (snapB g S).length c3) (snapB g S) :: StoreAt p S :: Os 48 encK (.slice aoK l1.length cK) l1 :: KeysR l1 :: Os 48 encK (.slice aoM l2.length cM) l2 :: KeysR l2 :: F) w := H.wk
            simp (maxSteps := 5000000) (decide := true) (disch := omega) only [EV, ↓reduceIte, Nat.reduceAdd, tt4, encO_f, encK_f, L6, L5]
            refine lq_nil ?_
            refine h37 _ _ ?_
            refine cw_region (lq_run ?_)
            simp (maxSteps := 5000000) (decide := true) (disch := omega) only [EV, ↓reduceIte, Nat.reduceAdd, tt4, encO_f, encK_f, L6, L5]
            refine lq_nil ?_
            refine Exists.intro (d ++ [o], r2, step3 R o) ⟨⟨(.c (by rw [List.length_append]; rfl) .n), (.c rfl (.c rfl (.c rfl (.c rfl (.c rfl (.c rfl (.c rfl (.c rfl .n))))))))⟩, ⟨⟨by simp [hd], vol3 hvol⟩, H.wk⟩, (by simp)⟩
        · skip
          try simp only [HB] at c150
          refine cw_exit ?_
          refine h33 _ _ ?_
          refine cw_seq (fun K43 h43 => ?_)
          refine cw_region (lq_run ?_)
          simp (maxSteps := 5000000) (decide := true) (disch := omega) only [EV, ↓reduceIte, Nat.reduceAdd, tt4, encO_f, encK_f, L6, L5]
          replace H : Own (Os 5 encB (.slice ao3 (snapB g S).length c3) (snapB g S) :: StoreAt p S :: Os 48 encK (.slice aoK l1.length cK) l1 :: KeysR l1 :: Os 48 encK (.slice aoM l2.length cM) l2 :: KeysR l2 :: F) w := H.wk
          refine lq_call rfl ?_
          refine Cl.mono (Build_good (H.tkR (R := StoreAt) (k := p)) hf.wf hg1 hg2 hbd) ?_
          rintro _ w ⟨ao7, c7, rfl, H⟩
          simp (maxSteps := 5000000) (decide := true) (disch := omega) only [EV, ↓reduceIte, Nat.reduceAdd, tt4, encO_f, encK_f, L6, L5]
          refine lq_nil ?_
          refine h43 _ _ ?_
          refine cw_seq (fun K44 h44 => ?_)
          refine cw_region (lq_run ?_)
          simp (maxSteps := 5000000) (decide := true) (disch := omega) only [EV, ↓reduceIte, Nat.reduceAdd, tt4, encO_f, encK_f, L6, L5]
          have H8 : Own (Os 5 encB (.slice ao3 (snapB g S).length c3) (snapB g S) :: Os 5 encB (.slice ao7 (snapB g S).length c7) (snapB g S) :: StoreAt p S :: Os 48 encK (.slice aoK l1.length cK) l1 :: KeysR l1 :: Os 48 encK (.slice aoM l2.length cM) l2 :: KeysR l2 :: F) w := H.wk
          refine lq_call rfl ?_
          refine Cl.mono (own_ok H8 Ent.os rfl (by omega)) ?_
          rintro _ w ⟨ao8, c8, rfl, hc8, H⟩
          simp (maxSteps := 5000000) (decide := true) (disch := omega) only [EV, ↓reduceIte, Nat.reduceAdd, tt4, encO_f, encK_f, L6, L5]
          refine lq_call rfl ?_
          refine Cl.mono (Read_good H Ent.os rfl hc8 hf.wf hg1 hg2 hbd (by omega)) ?_
          rintro _ w ⟨p3, rfl, H⟩
          replace H : Own (StoreAt p3 (restamp nw S) :: Os 5 encB (.slice ao7 (snapB g S).length c7) (snapB g S) :: Os 5 encB (.slice ao3 (snapB g S).length c3) (snapB g S) :: StoreAt p S :: Os 48 encK (.slice aoK l1.length cK) l1 :: KeysR l1 :: Os 48 encK (.slice aoM l2.length cM) l2 :: KeysR l2 :: F) w := H.wk
          simp (maxSteps := 5000000) (decide := true) (disch := omega) only [EV, ↓reduceIte, Nat.reduceAdd, tt4, encO_f, encK_f, L6, L5]
          refine lq_nil ?_
          refine h44 _ _ ?_
          refine cw_seq (fun K45 h45 => ?_)
          refine cw_region (lq_run ?_)
          simp (maxSteps := 5000000) (decide := true) (disch := omega) only [EV, ↓reduceIte, Nat.reduceAdd, tt4, encO_f, encK_f, L6, L5]
          refine lq_call rfl ?_
          refine Cl.mono (same_ok H (Ent.up (M := Os 5 encB (.slice ao3 (snapB g S).length c3) (snapB g S) :: []) Ent.os) rfl (Ent.up (M := Os 5 encB (.slice ao7 (snapB g S).length c7) (snapB g S) :: []) Ent.os) rfl) ?_
          rintro _ w ⟨rfl, H⟩
          rw [show decide (snapB g S = snapB g S) = true from decide_eq_true rfl]
          simp (maxSteps := 5000000) (decide := true) (disch := omega) only [EV, ↓reduceIte, Nat.reduceAdd, tt4, encO_f, encK_f, L6, L5]
          refine lq_call rfl ?_
          refine Cl.mono (Kept_ok (H.tkR (R := StoreAt) (k := p)) hf.V (fun x hx => by have := hf.K x hx; omega)) ?_
          rintro _ w ⟨l3, aoP, cP, rfl, h3, H⟩
          simp (maxSteps := 5000000) (decide := true) (disch := omega) only [EV, ↓reduceIte, Nat.reduceAdd, tt4, encO_f, encK_f, L6, L5]
          refine lq_call rfl ?_
          refine Cl.mono (sameKeptT_ok H (Ent.up (M := Os 48 encK (.slice aoK l1.length cK) l1 :: []) Ent.os) rfl (Ent.up (M := Os 48 encK (.slice aoP l3.length cP) l3 :: []) Ent.os) rfl (fun x hx => (KeysR.ent (L := []) hx).up) (fun x hx => (KeysR.ent (L := []) hx).up) (len_eq h1 h3 rfl) hK1.1 hK1.2 (fun i x y hx hy => same_get h1 h3 hx hy)) ?_
          rintro _ w ⟨rfl, H⟩
          simp (maxSteps := 5000000) (decide := true) (disch := omega) only [EV, ↓reduceIte, Nat.reduceAdd, tt4, encO_f, encK_f, L6, L5]
          refine lq_call rfl ?_
          refine Cl.mono (Kept_ok (H.tkR (R := StoreAt) (k := p3)) hfR.V (fun x hx => by have := hfR.K x hx; omega)) ?_
          rintro _ w ⟨l4, aoQ, cQ, rfl, h4, H⟩
          simp (maxSteps := 5000000) (decide := true) (disch := omega) only [EV, ↓reduceIte, Nat.reduceAdd, tt4, encO_f, encK_f, L6, L5]
          refine lq_call rfl ?_
          refine Cl.mono (sameKeptT_ok H (Ent.up (M := Os 48 encK (.slice aoM l2.length cM) l2 :: []) Ent.os) rfl (Ent.up (M := Os 48 encK (.slice aoQ l4.length cQ) l4 :: []) Ent.os) rfl (fun x hx => (KeysR.ent (L := []) hx).up) (fun x hx => (KeysR.ent (L := []) hx).up) (len_eq h2 h4 rfl) hK2.1 hK2.2 (fun i x y hx hy => same_get h2 h4 hx hy)) ?_
          rintro _ w ⟨rfl, H⟩
          simp (maxSteps := 5000000) (decide := true) (disch := omega) only [EV, ↓reduceIte, Nat.reduceAdd, tt4, encO_f, encK_f, L6, L5]
          refine lq_nil ?_
          refine h45 _ _ ?_
          refine cw_ret ?_
          try simp (decide := true) only [EX, ↓reduceIte]
          refine ret1 rfl ?_
          first | exact ⟨rfl, H.wk⟩ | exact absurd trivial ‹¬True› | exact absurd ‹false = true› (by decide) | (exfalso; omega)
  · skip
    try simp only [HB] at c34
    obtain ⟨g, hgg⟩ : ∃ g, g = gen := ⟨_, rfl⟩
    have hg1 : 1 ≤ g := by omega
    have hg2 : g ≤ 9223372036854775807 := by omega
    refine cw_skip ?_
    refine h5 _ _ ?_
    refine cw_seq (fun K46 h46 => ?_)
    refine cw_region (lq_run ?_)
    rw [← hgg]
    simp (maxSteps := 5000000) (decide := true) (disch := omega) only [EV, ↓reduceIte, Nat.reduceAdd, tt4, encO_f, encK_f, L6, L5]
    refine lq_nil ?_
    refine h46 _ _ ?_
    refine cw_seq (fun K47 h47 => ?_)
    refine cw_region (lq_run ?_)
    obtain ⟨nw, hnw⟩ : ∃ x, x = bits .and .i64 now 1099511627775 := ⟨_, rfl⟩
    rw [← hnw] at hmask ⊢
    simp (maxSteps := 5000000) (decide := true) (disch := omega) only [EV, ↓reduceIte, Nat.reduceAdd, tt4, encO_f, encK_f, L6, L5]
    refine lq_call rfl ?_
    refine Cl.mono (made_ok H hR1 rfl hS1 hb1) ?_
    rintro _ w ⟨p, rfl, H⟩
    have hf := Fits.run hS1
    obtain ⟨S, hSS⟩ : ∃ S, S = runS ⟨[], []⟩ ops1 := ⟨_, rfl⟩
    rw [← hSS] at H hf
    have hbd := hf.body g
    have hsl := snapB_length g S
    have hfR := hf.restamp (now := nw) (by omega)
    have hlR := len_restamp nw g S
    simp (maxSteps := 5000000) (decide := true) (disch := omega) only [EV, ↓reduceIte, Nat.reduceAdd, tt4, encO_f, encK_f, L6, L5]
    refine lq_nil ?_
    refine h47 _ _ ?_
    refine cw_seq (fun K48 h48 => ?_)
    refine cw_seq (fun K49 h49 => ?_)
    refine cw_region (lq_run ?_)
    simp (maxSteps := 5000000) (decide := true) (disch := omega) only [EV, ↓reduceIte, Nat.reduceAdd, tt4, encO_f, encK_f, L6, L5]
    refine lq_nil ?_
    refine h49 _ _ ?_
    refine cw_condF rfl ?_
    refine cw_skip ?_
    refine h48 _ _ ?_
    refine cw_seq (fun K50 h50 => ?_)
    refine cw_region (lq_run ?_)
    simp (maxSteps := 5000000) (decide := true) (disch := omega) only [EV, ↓reduceIte, Nat.reduceAdd, tt4, encO_f, encK_f, L6, L5]
    refine lq_call rfl ?_
    refine Cl.mono (Build_good H hf.wf hg1 hg2 hbd) ?_
    rintro _ w ⟨ao3, c3, rfl, H⟩
    have hc3 := H.oscap
    simp (maxSteps := 5000000) (decide := true) (disch := omega) only [EV, ↓reduceIte, Nat.reduceAdd, tt4, encO_f, encK_f, L6, L5]
    refine lq_nil ?_
    refine h50 _ _ ?_
    refine cw_seq (fun K51 h51 => ?_)
    refine cw_region (lq_run ?_)
    simp (maxSteps := 5000000) (decide := true) (disch := omega) only [EV, ↓reduceIte, Nat.reduceAdd, tt4, encO_f, encK_f, L6, L5]
    refine lq_call rfl ?_
    refine Cl.mono (own_ok H Ent.os rfl (by omega)) ?_
    rintro _ w ⟨ao4, c4, rfl, hc4, H⟩
    simp (maxSteps := 5000000) (decide := true) (disch := omega) only [EV, ↓reduceIte, Nat.reduceAdd, tt4, encO_f, encK_f, L6, L5]
    refine lq_call rfl ?_
    refine Cl.mono (Read_good H Ent.os rfl hc4 hf.wf hg1 hg2 hbd (by omega)) ?_
    rintro _ w ⟨p2, rfl, H⟩
    replace H : Own (StoreAt p2 (restamp nw S) :: Os 5 encB (.slice ao3 (snapB g S).length c3) (snapB g S) :: StoreAt p S :: F) w := H.wk
    simp (maxSteps := 5000000) (decide := true) (disch := omega) only [EV, ↓reduceIte, Nat.reduceAdd, tt4, encO_f, encK_f, L6, L5]
    refine lq_nil ?_
    refine h51 _ _ ?_
    refine cw_seq (fun K52 h52 => ?_)
    refine cw_seq (fun K53 h53 => ?_)
    refine cw_region (lq_run ?_)
    simp (maxSteps := 5000000) (decide := true) (disch := omega) only [EV, ↓reduceIte, Nat.reduceAdd, tt4, encO_f, encK_f, L6, L5]
    refine lq_nil ?_
    refine h53 _ _ ?_
    refine cw_condB rfl (fun c72 => ?_) (fun c72 => ?_)
    · skip
      try simp only [HB] at c72
      refine cw_seq (fun K54 h54 => ?_)
      refine cw_region (lq_run ?_)
      simp (maxSteps := 5000000) (decide := true) (disch := omega) only [EV, ↓reduceIte, Nat.reduceAdd, tt4, encO_f, encK_f, L6, L5]
      refine lq_nil ?_
      refine h54 _ _ ?_
      refine cw_ret ?_
      try simp (decide := true) only [EX, ↓reduceIte]
      refine ret1 rfl ?_
      first | exact ⟨rfl, H.wk⟩ | exact absurd trivial ‹¬True› | exact absurd ‹false = true› (by decide) | (exfalso; omega)
    · skip
      try simp only [HB] at c72
      refine cw_skip ?_
      refine h52 _ _ ?_
      refine cw_seq (fun K55 h55 => ?_)
      refine cw_region (lq_run ?_)
      simp (maxSteps := 5000000) (decide := true) (disch := omega) only [EV, ↓reduceIte, Nat.reduceAdd, tt4, encO_f, encK_f, L6, L5]
      refine lq_call rfl ?_
      refine Cl.mono (Kept_ok (H.tkR (R := StoreAt) (k := p)) hf.V (fun x hx => by have := hf.K x hx; omega)) ?_
      rintro _ w ⟨l1, aoK, cK, rfl, h1, H⟩
      have hK1 := hf.Kl h1
      simp (maxSteps := 5000000) (decide := true) (disch := omega) only [EV, ↓reduceIte, Nat.reduceAdd, tt4, encO_f, encK_f, L6, L5]
      refine lq_nil ?_
      refine h55 _ _ ?_
      refine cw_seq (fun K56 h56 => ?_)
      refine cw_region (lq_run ?_)
      simp (maxSteps := 5000000) (decide := true) (disch := omega) only [EV, ↓reduceIte, Nat.reduceAdd, tt4, encO_f, encK_f, L6, L5]
      refine lq_call rfl ?_
      refine Cl.mono (Lasts_ok (H.tkR (R := StoreAt) (k := p)) hf.L) ?_
      rintro _ w ⟨aoL, cL, rfl, H⟩
      have hLl := hf.L
      simp (maxSteps := 5000000) (decide := true) (disch := omega) only [EV, ↓reduceIte, Nat.reduceAdd, tt4, encO_f, encK_f, L6, L5]
      refine lq_nil ?_
      refine h56 _ _ ?_
      refine cw_seq (fun K57 h57 => ?_)
      refine cw_region (lq_run ?_)
      simp (maxSteps := 5000000) (decide := true) (disch := omega) only [EV, ↓reduceIte, Nat.reduceAdd, tt4, encO_f, encK_f, L6, L5]
      refine lq_call rfl ?_
      refine Cl.mono (Kept_ok (H.tkR (R := StoreAt) (k := p2)) hfR.V (fun x hx => by have := hfR.K x hx; omega)) ?_
      rintro _ w ⟨l2, aoM, cM, rfl, h2, H⟩
      have hK2 := hfR.Kl h2
      have hll : l1.length = l2.length := len_eq h1 h2 (by simp [restamp])
      replace H : Own (StoreAt p2 (restamp nw S) :: Os 111 encN (.slice aoL S.L.length cL) S.L :: Os 5 encB (.slice ao3 (snapB g S).length c3) (snapB g S) :: StoreAt p S :: Os 48 encK (.slice aoK l1.length cK) l1 :: KeysR l1 :: Os 48 encK (.slice aoM l2.length cM) l2 :: KeysR l2 :: F) w := H.wk
      simp (maxSteps := 5000000) (decide := true) (disch := omega) only [EV, ↓reduceIte, Nat.reduceAdd, tt4, encO_f, encK_f, L6, L5]
      refine lq_nil ?_
      refine h57 _ _ ?_
      refine cw_seq (fun K58 h58 => ?_)
      refine cw_seq (fun K59 h59 => ?_)
      refine cw_region (lq_run ?_)
      simp (maxSteps := 5000000) (decide := true) (disch := omega) only [EV, ↓reduceIte, Nat.reduceAdd, tt4, encO_f, encK_f, L6, L5]
      refine lq_call rfl ?_
      refine Cl.mono (sameKeptF_ok H (Ent.up (M := Os 48 encK (.slice aoK l1.length cK) l1 :: []) Ent.os) rfl (Ent.up (M := Os 48 encK (.slice aoM l2.length cM) l2 :: []) Ent.os) rfl (fun x hx => (KeysR.ent (L := []) hx).up) (fun x hx => (KeysR.ent (L := []) hx).up) hll hK1.1 hK1.2 (fun i x y hx hy => by have q := restamp_get h1 h2 hx hy; rw [SameK, q]; exact ⟨rfl, rfl, rfl⟩)) ?_
      rintro _ w ⟨rfl, H⟩
      simp (maxSteps := 5000000) (decide := true) (disch := omega) only [EV, ↓reduceIte, Nat.reduceAdd, tt4, encO_f, encK_f, L6, L5]
      refine lq_call rfl ?_
      refine Cl.mono (Lasts_ok (H.tkR (R := StoreAt) (k := p2)) hfR.L) ?_
      rintro _ w ⟨aoN, cN, rfl, H⟩
      replace H : Own (Os 111 encN (.slice aoN S.L.length cN) S.L :: StoreAt p2 (restamp nw S) :: Os 111 encN (.slice aoL S.L.length cL) S.L :: Os 5 encB (.slice ao3 (snapB g S).length c3) (snapB g S) :: StoreAt p S :: Os 48 encK (.slice aoK l1.length cK) l1 :: KeysR l1 :: Os 48 encK (.slice aoM l2.length cM) l2 :: KeysR l2 :: F) w := H
      rw [show (restamp nw S).L.length = S.L.length from rfl]
      simp (maxSteps := 5000000) (decide := true) (disch := omega) only [EV, ↓reduceIte, Nat.reduceAdd, tt4, encO_f, encK_f, L6, L5]
      refine lq_call rfl ?_
      refine Cl.mono (sameLasts_ok H (Ent.up (M := Os 111 encN (.slice aoL S.L.length cL) S.L :: []) Ent.os) rfl Ent.os rfl (by omega)) ?_
      rintro _ w ⟨rfl, H⟩
      simp (maxSteps := 5000000) (decide := true) (disch := omega) only [EV, ↓reduceIte, Nat.reduceAdd, tt4, encO_f, encK_f, L6, L5]
      refine lq_nil ?_
      refine h59 _ _ ?_
      refine cw_condF rfl ?_
      refine cw_skip ?_
      refine h58 _ _ ?_
      refine cw_seq (fun K60 h60 => ?_)
      refine cw_seq (fun K61 h61 => ?_)
      refine cw_region (lq_run ?_)
      simp (maxSteps := 5000000) (decide := true) (disch := omega) only [EV, ↓reduceIte, Nat.reduceAdd, tt4, encO_f, encK_f, L6, L5]
      refine lq_nil ?_
      refine h61 _ _ ?_
      refine cw_block ?_
      refine cw_loopC (X := List KT × List KT) [(0, _), (2, _), (3, _), (10, _), (11, _), (14, _), (16, _), (18, _)] (fun x => [(19, .int .i64 (x.1.length : Int))]) (fun x w => l2 = x.1 ++ x.2 ∧ Own (StoreAt p2 (restamp nw S) :: Os 5 encB (.slice ao3 (snapB g S).length c3) (snapB g S) :: StoreAt p S :: Os 48 encK (.slice aoK l1.length cK) l1 :: KeysR l1 :: Os 48 encK (.slice aoM l2.length cM) l2 :: KeysR l2 :: F) w) (fun x => x.2.length) ([], l2) (.c rfl (.c rfl (.c rfl (.c rfl (.c rfl (.c rfl (.c rfl (.c rfl .n)))))))) (.c rfl .n) ⟨rfl, H.wk⟩ ?_
      rintro ⟨d, r⟩ w ⟨hd, H⟩
      simp only [List.cons_append, List.nil_append]
      simp only at hd H ⊢
      refine cw_seq (fun K62 h62 => ?_)
      refine cw_seq (fun K63 h63 => ?_)
      refine cw_region (lq_run ?_)
      simp (maxSteps := 5000000) (decide := true) (disch := omega) only [EV, ↓reduceIte, Nat.reduceAdd, tt4, encO_f, encK_f, L6, L5]
      refine lq_nil ?_
      refine h63 _ _ ?_
      refine cw_condB rfl (fun c93 => ?_) (fun c93 => ?_)
      · skip
        try simp only [HB] at c93
        obtain ⟨y, r2, rfl, he⟩ := zip_more hd c93
        obtain ⟨x, hx⟩ : ∃ x, l1[d.length]? = some x := ⟨_, List.getElem?_eq_getElem (by omega)⟩
        have hst := restamp_get h1 h2 hx he
        obtain ⟨⟨⟨yk, yi⟩, ⟨yv, yks, yst⟩⟩, ⟨yao, yc⟩⟩ := y
        obtain ⟨⟨⟨xk, xi⟩, ⟨xv, xks, xst⟩⟩, ⟨xao, xc⟩⟩ := x
        simp only [Prod.mk.injEq, Hd.mk.injEq] at hst
        obtain ⟨⟨rfl, rfl⟩, rfl, rfl, hst⟩ := hst
        replace hst : (yi < lastOf S yk ∧ yst = nw) ∨ (¬ yi < lastOf S yk ∧ yst = -1) := by
          rw [hst]; split
          · exact .inl ⟨by assumption, rfl⟩
          · exact .inr ⟨by assumption, rfl⟩
        refine cw_skip ?_
        refine h62 _ _ ?_
        refine cw_seq (fun K64 h64 => ?_)
        refine cw_block ?_
        refine cw_seq (fun K65 h65 => ?_)
        refine cw_draw [(0, 0), (1, 0), (2, 0), (3, 0), (4, 0), (5, 1), (6, 0), (7, 0), (8, 0), (9, 0), (10, 0), (11, 0), (12, 1), (13, 2), (14, 0), (15, 0)] rfl (by kernel_rfl) (fun c env w => by simp (decide := true) only [EX, not_false_eq_true]) H (fun w H => ?_)
        have H0 := H
        refine dq_run ?_
        simp (maxSteps := 5000000) (decide := true) (disch := omega) only [EV, ↓reduceIte, Nat.reduceAdd, tt4, encO_f, encK_f, L6, L5]
        refine dq_idx (i' := d.length) H0 rfl rfl (Ent.os (L := []) (T := 48) (enc := encK) (n := l2.length) (c := cM) (xs := l2)) (Nat.le_refl _) rfl he ?_
        simp (maxSteps := 5000000) (decide := true) (disch := omega) only [EV, ↓reduceIte, Nat.reduceAdd, tt4, encO_f, encK_f, L6, L5]
        refine dq_loadE H0 rfl (Ent.os (L := []) (T := 48) (enc := encK) (n := l2.length) (c := cM) (xs := l2)) he rfl ?_
        simp (maxSteps := 5000000) (decide := true) (disch := omega) only [EV, ↓reduceIte, Nat.reduceAdd, tt4, encO_f, encK_f, L6, L5]
        refine dq_idx (i' := d.length) H0 rfl rfl (Ent.os (L := []) (T := 48) (enc := encK) (n := l2.length) (c := cM) (xs := l2)) (Nat.le_refl _) rfl he ?_
        simp (maxSteps := 5000000) (decide := true) (disch := omega) only [EV, ↓reduceIte, Nat.reduceAdd, tt4, encO_f, encK_f, L6, L5]
        refine dq_loadE H0 rfl (Ent.os (L := []) (T := 48) (enc := encK) (n := l2.length) (c := cM) (xs := l2)) he rfl ?_
        simp (maxSteps := 5000000) (decide := true) (disch := omega) only [EV, ↓reduceIte, Nat.reduceAdd, tt4, encO_f, encK_f, L6, L5]
        refine dq_act (by decide) rfl ?_
        refine lq_call rfl ?_
        refine Cl.mono (Last_ok (H.tkR (R := StoreAt) (k := p2))) ?_
        rintro _ w ⟨rfl, H⟩
        rw [show lastOf (restamp nw S) yk = lastOf S yk from rfl]
        refine lr_nil ?_
        replace H0 := H.wkTo H0
        refine ⟨fun _ => H0, ?_⟩
        simp (maxSteps := 5000000) (decide := true) (disch := omega) only [EV, ↓reduceIte, Nat.reduceAdd, tt4, encO_f, encK_f, L6, L5]
        refine dq_nil ?_
        refine h65 _ _ ?_
        refine cw_seq (fun K66 h66 => ?_)
        refine cw_region (lq_run ?_)
        obtain ⟨b, hb⟩ : ∃ b, b = decide (yi < lastOf S yk) := ⟨_, rfl⟩
        rw [← hb]
        simp (maxSteps := 5000000) (decide := true) (disch := omega) only [EV, ↓reduceIte, Nat.reduceAdd, tt4, encO_f, encK_f, L6, L5]
        refine lq_G (fun g112 => ?_) (fun g112 => ?_)
        · try simp only [HB] at g112
          subst g112
          have hold := of_decide_eq_true hb.symm
          simp (maxSteps := 5000000) (decide := true) (disch := omega) only [EV, ↓reduceIte, Nat.reduceAdd, tt4, encO_f, encK_f, L6, L5]
          refine lq_idx (i' := d.length) H rfl rfl (Ent.os (L := []) (T := 48) (enc := encK) (n := l2.length) (c := cM) (xs := l2)) (Nat.le_refl _) rfl he ?_
          simp (maxSteps := 5000000) (decide := true) (disch := omega) only [EV, ↓reduceIte, Nat.reduceAdd, tt4, encO_f, encK_f, L6, L5]
          refine lq_loadE H rfl (Ent.os (L := []) (T := 48) (enc := encK) (n := l2.length) (c := cM) (xs := l2)) he rfl ?_
          simp (maxSteps := 5000000) (decide := true) (disch := omega) only [EV, ↓reduceIte, Nat.reduceAdd, tt4, encO_f, encK_f, L6, L5]
          refine lq_G (fun g121 => ?_) (fun g121 => ?_)
          · try simp only [HB] at g121
            simp (maxSteps := 5000000) (decide := true) (disch := omega) only [EV, ↓reduceIte, Nat.reduceAdd, tt4, encO_f, encK_f, L6, L5]
            refine lq_nil ?_
            refine h66 _ _ ?_
            refine cw_condT rfl ?_
            refine cw_seq (fun K67 h67 => ?_)
            refine cw_region (lq_run ?_)
            simp (maxSteps := 5000000) (decide := true) (disch := omega) only [EV, ↓reduceIte, Nat.reduceAdd, tt4, encO_f, encK_f, L6, L5]
            refine lq_nil ?_
            refine h67 _ _ ?_
            refine cw_ret ?_
            try simp (decide := true) only [EX, ↓reduceIte]
            refine ret1 rfl ?_
            first | exact ⟨rfl, H.wk⟩ | exact absurd trivial ‹¬True› | exact absurd ‹false = true› (by decide) | (exfalso; omega)
          · try simp only [HB] at g121
            simp (maxSteps := 5000000) (decide := true) (disch := omega) only [EV, ↓reduceIte, Nat.reduceAdd, tt4, encO_f, encK_f, L6, L5]
            refine lq_nil ?_
            refine h66 _ _ ?_
            refine cw_condF rfl ?_
            refine cw_skip ?_
            refine h64 _ _ ?_
            refine cw_region (lq_run ?_)
            simp (maxSteps := 5000000) (decide := true) (disch := omega) only [EV, ↓reduceIte, Nat.reduceAdd, tt4, encO_f, encK_f, L6, L5]
            refine lq_nil ?_
            refine Exists.intro (d ++ [(((yk, yi), ⟨yv, yks, yst⟩), (yao, yc))], r2) ⟨⟨(.c (by rw [List.length_append]; rfl) .n), (.c rfl (.c rfl (.c rfl (.c rfl (.c rfl (.c rfl (.c rfl (.c rfl .n))))))))⟩, ⟨by simp [hd], H.wk⟩, (by simp)⟩
        · try simp only [HB] at g112
          subst g112
          have hold := of_decide_eq_false hb.symm
          simp (maxSteps := 5000000) (decide := true) (disch := omega) only [EV, ↓reduceIte, Nat.reduceAdd, tt4, encO_f, encK_f, L6, L5]
          refine lq_idx (i' := d.length) H rfl rfl (Ent.os (L := []) (T := 48) (enc := encK) (n := l2.length) (c := cM) (xs := l2)) (Nat.le_refl _) rfl he ?_
          simp (maxSteps := 5000000) (decide := true) (disch := omega) only [EV, ↓reduceIte, Nat.reduceAdd, tt4, encO_f, encK_f, L6, L5]
          refine lq_loadE H rfl (Ent.os (L := []) (T := 48) (enc := encK) (n := l2.length) (c := cM) (xs := l2)) he rfl ?_
          simp (maxSteps := 5000000) (decide := true) (disch := omega) only [EV, ↓reduceIte, Nat.reduceAdd, tt4, encO_f, encK_f, L6, L5]
          refine lq_nil ?_
          refine h66 _ _ ?_
          refine cw_condB rfl (fun c132 => ?_) (fun c132 => ?_)
          · skip
            try simp only [HB] at c132
            refine cw_seq (fun K68 h68 => ?_)
            refine cw_region (lq_run ?_)
            simp (maxSteps := 5000000) (decide := true) (disch := omega) only [EV, ↓reduceIte, Nat.reduceAdd, tt4, encO_f, encK_f, L6, L5]
            refine lq_nil ?_
            refine h68 _ _ ?_
            refine cw_ret ?_
            try simp (decide := true) only [EX, ↓reduceIte]
            refine ret1 rfl ?_
            first | exact ⟨rfl, H.wk⟩ | exact absurd trivial ‹¬True› | exact absurd ‹false = true› (by decide) | (exfalso; omega)
          · skip
            try simp only [HB] at c132
            refine cw_skip ?_
            refine h64 _ _ ?_
            refine cw_region (lq_run ?_)
            simp (maxSteps := 5000000) (decide := true) (disch := omega) only [EV, ↓reduceIte, Nat.reduceAdd, tt4, encO_f, encK_f, L6, L5]
            refine lq_nil ?_
            refine Exists.intro (d ++ [(((yk, yi), ⟨yv, yks, yst⟩), (yao, yc))], r2) ⟨⟨(.c (by rw [List.length_append]; rfl) .n), (.c rfl (.c rfl (.c rfl (.c rfl (.c rfl (.c rfl (.c rfl (.c rfl .n))))))))⟩, ⟨by simp [hd], H.wk⟩, (by simp)⟩
      · skip
        try simp only [HB] at c93
        refine cw_exit ?_
        refine h60 _ _ ?_
        refine cw_seq (fun K69 h69 => ?_)
        refine cw_region (lq_run ?_)
        simp (maxSteps := 5000000) (decide := true) (disch := omega) only [EV, ↓reduceIte, Nat.reduceAdd, tt4, encO_f, encK_f, L6, L5]
        refine lq_call rfl ?_
        refine Cl.mono (Build_good (H.tkR (R := StoreAt) (k := p2)) hfR.wf hg1 hg2 (by omega)) ?_
        rintro _ w ⟨ao5, c5, rfl, H⟩
        rw [restamp_bytes] at H ⊢
        simp (maxSteps := 5000000) (decide := true) (disch := omega) only [EV, ↓reduceIte, Nat.reduceAdd, tt4, encO_f, encK_f, L6, L5]
        refine lq_nil ?_
        refine h69 _ _ ?_
        refine cw_seq (fun K70 h70 => ?_)
        refine cw_seq (fun K71 h71 => ?_)
        refine cw_region (lq_run ?_)
        simp (maxSteps := 5000000) (decide := true) (disch := omega) only [EV, ↓reduceIte, Nat.reduceAdd, tt4, encO_f, encK_f, L6, L5]
        refine lq_call rfl ?_
        refine Cl.mono (same_ok H (Ent.up (M := Os 5 encB (.slice ao3 (snapB g S).length c3) (snapB g S) :: []) Ent.os) rfl Ent.os rfl) ?_
        rintro _ w ⟨rfl, H⟩
        rw [show decide (snapB g S = snapB g S) = true from decide_eq_true rfl]
        replace H : Own (StoreAt p2 (restamp nw S) :: Os 5 encB (.slice ao3 (snapB g S).length c3) (snapB g S) :: StoreAt p S :: Os 48 encK (.slice aoK l1.length cK) l1 :: KeysR l1 :: Os 48 encK (.slice aoM l2.length cM) l2 :: KeysR l2 :: F) w := H.wk
        simp (maxSteps := 5000000) (decide := true) (disch := omega) only [EV, ↓reduceIte, Nat.reduceAdd, tt4, encO_f, encK_f, L6, L5]
        refine lq_nil ?_
        refine h71 _ _ ?_
        refine cw_condF rfl ?_
        refine cw_skip ?_
        refine h70 _ _ ?_
        refine cw_seq (fun K72 h72 => ?_)
        refine cw_seq (fun K73 h73 => ?_)
        refine cw_region (lq_run ?_)
        simp (maxSteps := 5000000) (decide := true) (disch := omega) only [EV, ↓reduceIte, Nat.reduceAdd, tt4, encO_f, encK_f, L6, L5]
        refine lq_nil ?_
        refine h73 _ _ ?_
        refine cw_block ?_
        refine cw_loopC (X := List OT × List OT × Sto) [(0, _), (2, _), (3, _), (10, _), (11, _), (14, _), (16, _), (18, _)] (fun x => [(23, .int .i64 (x.1.length : Int))]) (fun x w => (ops2 = x.1 ++ x.2.1 ∧ volV x.2.2.V ≤ volV (restamp nw S).V + 1031 * wtOs x.1) ∧ Own (StoreAt p2 x.2.2 :: Os 5 encB (.slice ao3 (snapB g S).length c3) (snapB g S) :: StoreAt p S :: Os 48 encK (.slice aoK l1.length cK) l1 :: KeysR l1 :: Os 48 encK (.slice aoM l2.length cM) l2 :: KeysR l2 :: F) w) (fun x => x.2.1.length) ([], ops2, restamp nw S) (.c rfl (.c rfl (.c rfl (.c rfl (.c rfl (.c rfl (.c rfl (.c rfl .n)))))))) (.c rfl .n) ⟨⟨rfl, Nat.le_add_right _ _⟩, H⟩ ?_
        rintro ⟨d, r, R⟩ w ⟨⟨hd, hvol⟩, H⟩
        simp only [List.cons_append, List.nil_append]
        simp only at hd hvol H ⊢
        refine cw_seq (fun K74 h74 => ?_)
        refine cw_seq (fun K75 h75 => ?_)
        refine cw_region (lq_run ?_)
        simp (maxSteps := 5000000) (decide := true) (disch := omega) only [EV, ↓reduceIte, Nat.reduceAdd, tt4, encO_f, encK_f, L6, L5]
        refine lq_nil ?_
        refine h75 _ _ ?_
        refine cw_condB rfl (fun c150 => ?_) (fun c150 => ?_)
        · skip
          try simp only [HB] at c150
          obtain ⟨o, r2, rfl, he⟩ := zip_more hd c150
          have hom : o ∈ ops2 := by rw [hd]; simp
          have hv2 := V_len R.V
          have hv3 : wtOs ops2 = wtOs d + (wtO o + wtOs r2) := by rw [hd, wtOs_append]; simp [wtOs]
          have hv4 := hS2.wt
          have hv5 := wtO_len o
          have hv6 := hfR.vol
          have hv8 := volV_stepP R o
          have hv9 := volV_stepC (stepP R o) o.id o.now
          have hvA := volV_step3 R o
          have hvB := V_len (stepP R o).V
          have hvC := V_len (stepC (stepP R o) o.id o.now).V
          have hps := hS2.ps o hom
          have hks := hS2.ks o hom
          refine cw_skip ?_
          refine h74 _ _ ?_
          refine cw_seq (fun K76 h76 => ?_)
          refine cw_block ?_
          refine cw_seq (fun K77 h77 => ?_)
          refine cw_region (lq_run ?_)
          simp (maxSteps := 5000000) (decide := true) (disch := omega) only [EV, ↓reduceIte, Nat.reduceAdd, tt4, encO_f, encK_f, L6, L5]
          refine lq_idx (i' := d.length) H rfl rfl hR2 (Nat.le_refl _) rfl he ?_
          simp (maxSteps := 5000000) (decide := true) (disch := omega) only [EV, ↓reduceIte, Nat.reduceAdd, tt4, encO_f, encK_f, L6, L5]
          refine lq_loadE H rfl hR2 he rfl ?_
          simp (maxSteps := 5000000) (decide := true) (disch := omega) only [EV, ↓reduceIte, Nat.reduceAdd, tt4, encO_f, encK_f, L6, L5]
          refine lq_new H (fun b24 w H => ?_)
          try simp only [ES, encO_f, encK_f, L6, L5] at H
          simp (maxSteps := 5000000) (decide := true) (disch := omega) only [EV, ↓reduceIte, Nat.reduceAdd, tt4, encO_f, encK_f, L6, L5]
          refine lq_st H rfl rfl rfl (fun w H => ?_)
          try simp only [ES, encO_f, encK_f, L6, L5] at H
          simp (maxSteps := 5000000) (decide := true) (disch := omega) only [EV, ↓reduceIte, Nat.reduceAdd, tt4, encO_f, encK_f, L6, L5]
          refine lq_nil ?_
          refine h77 _ _ ?_
          refine cw_seq (fun K78 h78 => ?_)
          refine cw_drawT ([Ce b24 ([.int .i64 o.kind, .int .u64 o.id, .string o.key, .slice o.ap o.ps.length o.cp, .slice o.ak o.ks.length o.ck, .int .i64 o.now], 52)]) [(0, 0), (1, 0), (2, 1), (3, 2), (4, 0), (5, 1), (6, 2), (7, 2), (8, 0), (9, 1), (10, 2), (11, 0), (12, 1), (13, 3)] (.pre [(0, 0), (1, 0), (2, 1), (4, 0), (5, 1), (8, 0), (9, 1), (11, 0), (12, 1)] (.fork (.pre [(3, 2)] (.fork (.pre [(6, 2), (7, 2), (10, 2), (13, 3)] .fin) (.pre [(7, 2), (6, 2), (10, 2), (13, 3)] .fin))) (.pre [(7, 2), (3, 2), (6, 2), (10, 2), (13, 3)] .fin))) rfl (by kernel_rfl) (fun c env w => by simp (decide := true) only [EX, not_false_eq_true]) H (fun w H => ?_)
          have H0 : Own [Ce b24 ([.int .i64 o.kind, .int .u64 o.id, .string o.key, .slice o.ap o.ps.length o.cp, .slice o.ak o.ks.length o.ck, .int .i64 o.now], 52)] w := H.wk
          refine dT_pre ?_
          refine dq_run ?_
          simp (maxSteps := 5000000) (decide := true) (disch := omega) only [EV, ↓reduceIte, Nat.reduceAdd, tt4, encO_f, encK_f, L6, L5]
          refine dq_load H0 rfl ?_
          simp (maxSteps := 5000000) (decide := true) (disch := omega) only [EV, ↓reduceIte, Nat.reduceAdd, tt4, encO_f, encK_f, L6, L5]
          refine dq_load H0 rfl ?_
          simp (maxSteps := 5000000) (decide := true) (disch := omega) only [EV, ↓reduceIte, Nat.reduceAdd, tt4, encO_f, encK_f, L6, L5]
          refine dq_load H0 rfl ?_
          simp (maxSteps := 5000000) (decide := true) (disch := omega) only [EV, ↓reduceIte, Nat.reduceAdd, tt4, encO_f, encK_f, L6, L5]
          refine dq_load H0 rfl ?_
          simp (maxSteps := 5000000) (decide := true) (disch := omega) only [EV, ↓reduceIte, Nat.reduceAdd, tt4, encO_f, encK_f, L6, L5]
          refine dq_nil ?_
          refine dT_fork ?_ ?_
          · skip
            refine dT_pre ?_
            refine dq_run ?_
            simp (maxSteps := 5000000) (decide := true) (disch := omega) only [EV, ↓reduceIte, Nat.reduceAdd, tt4, encO_f, encK_f, L6, L5]
            refine dq_act (by decide) rfl ?_
            refine lq_bs H rfl rfl (by rfl) rfl (by decide) (fun b160 w H => ?_)
            try simp only [ES, encO_f, encK_f, L6, L5] at H
            replace H := H.os encP [] rfl rfl
            refine lr_nil ?_
            replace H0 := H.wkTo H0
            refine ⟨fun _ => H0, ?_⟩
            simp (maxSteps := 5000000) (decide := true) (disch := omega) only [EV, ↓reduceIte, Nat.reduceAdd, tt4, encO_f, encK_f, L6, L5]
            refine dq_nil ?_
            refine dT_fork ?_ ?_
            · skip
              refine dT_pre ?_
              refine dq_run ?_
              simp (maxSteps := 5000000) (decide := true) (disch := omega) only [EV, ↓reduceIte, Nat.reduceAdd, tt4, encO_f, encK_f, L6, L5]
              refine dq_act (by decide) rfl ?_
              refine lq_appR (enc := encP) H rfl rfl hps rfl (by rw [show encP.n = 2 from rfl]; simp; omega) (fun ap2 cp2 w H => ?_)
              simp only [List.nil_append, List.length_nil, Nat.zero_add] at H ⊢
              refine lr_nil ?_
              replace H0 := H.wkTo H0
              refine ⟨fun _ => H0, ?_⟩
              simp (maxSteps := 5000000) (decide := true) (disch := omega) only [EV, ↓reduceIte, Nat.reduceAdd, tt4, encO_f, encK_f, L6, L5]
              refine dq_act (by decide) rfl ?_
              refine lq_bs H rfl rfl (by rfl) rfl (by decide) (fun b164 w H => ?_)
              try simp only [ES, encO_f, encK_f, L6, L5] at H
              replace H := H.os encS [] rfl rfl
              refine lr_nil ?_
              replace H0 := H.wkTo H0
              refine ⟨fun _ => H0, ?_⟩
              simp (maxSteps := 5000000) (decide := true) (disch := omega) only [EV, ↓reduceIte, Nat.reduceAdd, tt4, encO_f, encK_f, L6, L5]
              refine dq_act (by decide) rfl ?_
              refine lq_appR (enc := encS) H rfl rfl hks rfl (by rw [show encS.n = 1 from rfl]; simp; omega) (fun ak2 ck2 w H => ?_)
              simp only [List.nil_append, List.length_nil, Nat.zero_add] at H ⊢
              refine lr_nil ?_
              replace H0 := H.wkTo H0
              refine ⟨fun _ => H0, ?_⟩
              simp (maxSteps := 5000000) (decide := true) (disch := omega) only [EV, ↓reduceIte, Nat.reduceAdd, tt4, encO_f, encK_f, L6, L5]
              refine dq_act (by decide) rfl ?_
              refine lq_call rfl ?_
              refine Cl.mono (Put_ok (H.tkR (R := StoreAt) (k := p2)) (Ent.up (M := Os 88 encP (.slice ap2 o.ps.length cp2) o.ps :: []) Ent.os) rfl (Ent.up (M := Os 9 encS (.slice ak2 o.ks.length ck2) o.ks :: []) Ent.os) rfl (by omega) (by omega)) ?_
              rintro v w hP
              replace H : Own (StoreAt p2 (stepP R o) :: Ce b24 ([.int .i64 o.kind, .int .u64 o.id, .string o.key, .slice o.ap o.ps.length o.cp, .slice o.ak o.ks.length o.ck, .int .i64 o.now], 52) :: Os 5 encB (.slice ao3 (snapB g S).length c3) (snapB g S) :: StoreAt p S :: Os 48 encK (.slice aoK l1.length cK) l1 :: KeysR l1 :: Os 48 encK (.slice aoM l2.length cM) l2 :: KeysR l2 :: F) w := by
                rcases hP with ⟨h1, h2, -, H⟩ | ⟨h1, -, H⟩
                · rw [stepP, if_pos ⟨h1, h2⟩]; exact H.wk
                · rw [stepP, if_neg h1]; exact H.wk
              refine lr_nil ?_
              refine ⟨fun hh => absurd hh (by decide), ?_⟩
              simp (maxSteps := 5000000) (decide := true) (disch := omega) only [EV, ↓reduceIte, Nat.reduceAdd, tt4, encO_f, encK_f, L6, L5]
              refine dq_nil ?_
              refine dT_fin ?_
              refine h78 _ _ ?_
              refine cw_seq (fun K79 h79 => ?_)
              refine cw_region (lq_run ?_)
              simp (maxSteps := 5000000) (decide := true) (disch := omega) only [EV, ↓reduceIte, Nat.reduceAdd, tt4, encO_f, encK_f, L6, L5]
              refine lq_load H rfl ?_
              simp (maxSteps := 5000000) (decide := true) (disch := omega) only [EV, ↓reduceIte, Nat.reduceAdd, tt4, encO_f, encK_f, L6, L5]
              refine lq_load H rfl ?_
              simp (maxSteps := 5000000) (decide := true) (disch := omega) only [EV, ↓reduceIte, Nat.reduceAdd, tt4, encO_f, encK_f, L6, L5]
              refine lq_call rfl ?_
              refine Cl.mono (Commit_ok (H.tkR (R := StoreAt) (k := p2)) (by omega)) ?_
              rintro v w hP
              replace H : Own (StoreAt p2 (stepC (stepP R o) o.id o.now) :: Ce b24 ([.int .i64 o.kind, .int .u64 o.id, .string o.key, .slice o.ap o.ps.length o.cp, .slice o.ak o.ks.length o.ck, .int .i64 o.now], 52) :: Os 5 encB (.slice ao3 (snapB g S).length c3) (snapB g S) :: StoreAt p S :: Os 48 encK (.slice aoK l1.length cK) l1 :: KeysR l1 :: Os 48 encK (.slice aoM l2.length cM) l2 :: KeysR l2 :: F) w := by
                rcases hP with ⟨h1, -, H⟩ | ⟨h1, -, H⟩
                · rw [stepC, if_pos h1]; exact H.wk
                · rw [stepC, if_neg h1]; exact H.wk
              simp (maxSteps := 5000000) (decide := true) (disch := omega) only [EV, ↓reduceIte, Nat.reduceAdd, tt4, encO_f, encK_f, L6, L5]
              refine lq_nil ?_
              refine h79 _ _ ?_
              refine cw_region (lq_run ?_)
              simp (maxSteps := 5000000) (decide := true) (disch := omega) only [EV, ↓reduceIte, Nat.reduceAdd, tt4, encO_f, encK_f, L6, L5]
              refine lq_load H rfl ?_
              simp (maxSteps := 5000000) (decide := true) (disch := omega) only [EV, ↓reduceIte, Nat.reduceAdd, tt4, encO_f, encK_f, L6, L5]
              refine lq_load H rfl ?_
              simp (maxSteps := 5000000) (decide := true) (disch := omega) only [EV, ↓reduceIte, Nat.reduceAdd, tt4, encO_f, encK_f, L6, L5]
              refine lq_call rfl ?_
              refine Cl.mono (Drop_ok (H.tkR (R := StoreAt) (k := p2)) (by omega)) ?_
              rintro _ w ⟨rfl, H⟩
              change Own (StoreAt p2 (step3 R o) :: _) w at H
              replace H : Own (StoreAt p2 (step3 R o) :: Os 5 encB (.slice ao3 (snapB g S).length c3) (snapB g S) :: StoreAt p S :: Os 48 encK (.slice aoK l1.length cK) l1 :: KeysR l1 :: Os 48 encK (.slice aoM l2.length cM) l2 :: KeysR l2 :: F) w := H.wk
              simp (maxSteps := 5000000) (decide := true) (disch := omega) only [EV, ↓reduceIte, Nat.reduceAdd, tt4, encO_f, encK_f, L6, L5]
              refine lq_nil ?_
              refine h76 _ _ ?_
              refine cw_region (lq_run ?_)
              simp (maxSteps := 5000000) (decide := true) (disch := omega) only [EV, ↓reduceIte, Nat.reduceAdd, tt4, encO_f, encK_f, L6, L5]
              refine lq_nil ?_
              refine Exists.intro (d ++ [o], r2, step3 R o) ⟨⟨(.c (by rw [List.length_append]; rfl) .n), (.c rfl (.c rfl (.c rfl (.c rfl (.c rfl (.c rfl (.c rfl (.c rfl .n))))))))⟩, ⟨⟨by simp [hd], vol3 hvol⟩, H.wk⟩, (by simp)⟩
            · skip
              refine dT_pre ?_
              refine dq_run ?_
              simp (maxSteps := 5000000) (decide := true) (disch := omega) only [EV, ↓reduceIte, Nat.reduceAdd, tt4, encO_f, encK_f, L6, L5]
              refine dq_act (by decide) rfl ?_
              refine lq_bs H rfl rfl (by rfl) rfl (by decide) (fun b164 w H => ?_)
              try simp only [ES, encO_f, encK_f, L6, L5] at H
              replace H := H.os encS [] rfl rfl
              refine lr_nil ?_
              replace H0 := H.wkTo H0
              refine ⟨fun _ => H0, ?_⟩
              simp (maxSteps := 5000000) (decide := true) (disch := omega) only [EV, ↓reduceIte, Nat.reduceAdd, tt4, encO_f, encK_f, L6, L5]
              refine dq_act (by decide) rfl ?_
              refine lq_appR (enc := encP) H rfl rfl hps rfl (by rw [show encP.n = 2 from rfl]; simp; omega) (fun ap2 cp2 w H => ?_)
              simp only [List.nil_append, List.length_nil, Nat.zero_add] at H ⊢
              refine lr_nil ?_
              replace H0 := H.wkTo H0
              refine ⟨fun _ => H0, ?_⟩
              simp (maxSteps := 5000000) (decide := true) (disch := omega) only [EV, ↓reduceIte, Nat.reduceAdd, tt4, encO_f, encK_f, L6, L5]
              refine dq_act (by decide) rfl ?_
              refine lq_appR (enc := encS) H rfl rfl hks rfl (by rw [show encS.n = 1 from rfl]; simp; omega) (fun ak2 ck2 w H => ?_)
              simp only [List.nil_append, List.length_nil, Nat.zero_add] at H ⊢
              refine lr_nil ?_
              replace H0 := H.wkTo H0
              refine ⟨fun _ => H0, ?_⟩
              simp (maxSteps := 5000000) (decide := true) (disch := omega) only [EV, ↓reduceIte, Nat.reduceAdd, tt4, encO_f, encK_f, L6, L5]
              refine dq_act (by decide) rfl ?_
              refine lq_call rfl ?_
              refine Cl.mono (Put_ok (H.tkR (R := StoreAt) (k := p2)) (Ent.up (M := Os 88 encP (.slice ap2 o.ps.length cp2) o.ps :: []) Ent.os) rfl (Ent.up (M := Os 9 encS (.slice ak2 o.ks.length ck2) o.ks :: []) Ent.os) rfl (by omega) (by omega)) ?_
              rintro v w hP
              replace H : Own (StoreAt p2 (stepP R o) :: Ce b24 ([.int .i64 o.kind, .int .u64 o.id, .string o.key, .slice o.ap o.ps.length o.cp, .slice o.ak o.ks.length o.ck, .int .i64 o.now], 52) :: Os 5 encB (.slice ao3 (snapB g S).length c3) (snapB g S) :: StoreAt p S :: Os 48 encK (.slice aoK l1.length cK) l1 :: KeysR l1 :: Os 48 encK (.slice aoM l2.length cM) l2 :: KeysR l2 :: F) w := by
                rcases hP with ⟨h1, h2, -, H⟩ | ⟨h1, -, H⟩
                · rw [stepP, if_pos ⟨h1, h2⟩]; exact H.wk
                · rw [stepP, if_neg h1]; exact H.wk
              refine lr_nil ?_
              refine ⟨fun hh => absurd hh (by decide), ?_⟩
              simp (maxSteps := 5000000) (decide := true) (disch := omega) only [EV, ↓reduceIte, Nat.reduceAdd, tt4, encO_f, encK_f, L6, L5]
              refine dq_nil ?_
              refine dT_fin ?_
              refine h78 _ _ ?_
              refine cw_seq (fun K80 h80 => ?_)
              refine cw_region (lq_run ?_)
              simp (maxSteps := 5000000) (decide := true) (disch := omega) only [EV, ↓reduceIte, Nat.reduceAdd, tt4, encO_f, encK_f, L6, L5]
              refine lq_load H rfl ?_
              simp (maxSteps := 5000000) (decide := true) (disch := omega) only [EV, ↓reduceIte, Nat.reduceAdd, tt4, encO_f, encK_f, L6, L5]
              refine lq_load H rfl ?_
              simp (maxSteps := 5000000) (decide := true) (disch := omega) only [EV, ↓reduceIte, Nat.reduceAdd, tt4, encO_f, encK_f, L6, L5]
              refine lq_call rfl ?_
              refine Cl.mono (Commit_ok (H.tkR (R := StoreAt) (k := p2)) (by omega)) ?_
              rintro v w hP
              replace H : Own (StoreAt p2 (stepC (stepP R o) o.id o.now) :: Ce b24 ([.int .i64 o.kind, .int .u64 o.id, .string o.key, .slice o.ap o.ps.length o.cp, .slice o.ak o.ks.length o.ck, .int .i64 o.now], 52) :: Os 5 encB (.slice ao3 (snapB g S).length c3) (snapB g S) :: StoreAt p S :: Os 48 encK (.slice aoK l1.length cK) l1 :: KeysR l1 :: Os 48 encK (.slice aoM l2.length cM) l2 :: KeysR l2 :: F) w := by
                rcases hP with ⟨h1, -, H⟩ | ⟨h1, -, H⟩
                · rw [stepC, if_pos h1]; exact H.wk
                · rw [stepC, if_neg h1]; exact H.wk
              simp (maxSteps := 5000000) (decide := true) (disch := omega) only [EV, ↓reduceIte, Nat.reduceAdd, tt4, encO_f, encK_f, L6, L5]
              refine lq_nil ?_
              refine h80 _ _ ?_
              refine cw_region (lq_run ?_)
              simp (maxSteps := 5000000) (decide := true) (disch := omega) only [EV, ↓reduceIte, Nat.reduceAdd, tt4, encO_f, encK_f, L6, L5]
              refine lq_load H rfl ?_
              simp (maxSteps := 5000000) (decide := true) (disch := omega) only [EV, ↓reduceIte, Nat.reduceAdd, tt4, encO_f, encK_f, L6, L5]
              refine lq_load H rfl ?_
              simp (maxSteps := 5000000) (decide := true) (disch := omega) only [EV, ↓reduceIte, Nat.reduceAdd, tt4, encO_f, encK_f, L6, L5]
              refine lq_call rfl ?_
              refine Cl.mono (Drop_ok (H.tkR (R := StoreAt) (k := p2)) (by omega)) ?_
              rintro _ w ⟨rfl, H⟩
              change Own (StoreAt p2 (step3 R o) :: _) w at H
              replace H : Own (StoreAt p2 (step3 R o) :: Os 5 encB (.slice ao3 (snapB g S).length c3) (snapB g S) :: StoreAt p S :: Os 48 encK (.slice aoK l1.length cK) l1 :: KeysR l1 :: Os 48 encK (.slice aoM l2.length cM) l2 :: KeysR l2 :: F) w := H.wk
              simp (maxSteps := 5000000) (decide := true) (disch := omega) only [EV, ↓reduceIte, Nat.reduceAdd, tt4, encO_f, encK_f, L6, L5]
              refine lq_nil ?_
              refine h76 _ _ ?_
              refine cw_region (lq_run ?_)
              simp (maxSteps := 5000000) (decide := true) (disch := omega) only [EV, ↓reduceIte, Nat.reduceAdd, tt4, encO_f, encK_f, L6, L5]
              refine lq_nil ?_
              refine Exists.intro (d ++ [o], r2, step3 R o) ⟨⟨(.c (by rw [List.length_append]; rfl) .n), (.c rfl (.c rfl (.c rfl (.c rfl (.c rfl (.c rfl (.c rfl (.c rfl .n))))))))⟩, ⟨⟨by simp [hd], vol3 hvol⟩, H.wk⟩, (by simp)⟩
          · skip
            refine dT_pre ?_
            refine dq_run ?_
            simp (maxSteps := 5000000) (decide := true) (disch := omega) only [EV, ↓reduceIte, Nat.reduceAdd, tt4, encO_f, encK_f, L6, L5]
            refine dq_act (by decide) rfl ?_
            refine lq_bs H rfl rfl (by rfl) rfl (by decide) (fun b164 w H => ?_)
            try simp only [ES, encO_f, encK_f, L6, L5] at H
            replace H := H.os encS [] rfl rfl
            refine lr_nil ?_
            replace H0 := H.wkTo H0
            refine ⟨fun _ => H0, ?_⟩
            simp (maxSteps := 5000000) (decide := true) (disch := omega) only [EV, ↓reduceIte, Nat.reduceAdd, tt4, encO_f, encK_f, L6, L5]
            refine dq_act (by decide) rfl ?_
            refine lq_bs H rfl rfl (by rfl) rfl (by decide) (fun b160 w H => ?_)
            try simp only [ES, encO_f, encK_f, L6, L5] at H
            replace H := H.os encP [] rfl rfl
            refine lr_nil ?_
            replace H0 := H.wkTo H0
            refine ⟨fun _ => H0, ?_⟩
            simp (maxSteps := 5000000) (decide := true) (disch := omega) only [EV, ↓reduceIte, Nat.reduceAdd, tt4, encO_f, encK_f, L6, L5]
            refine dq_act (by decide) rfl ?_
            refine lq_appR (enc := encP) H rfl rfl hps rfl (by rw [show encP.n = 2 from rfl]; simp; omega) (fun ap2 cp2 w H => ?_)
            simp only [List.nil_append, List.length_nil, Nat.zero_add] at H ⊢
            refine lr_nil ?_
            replace H0 := H.wkTo H0
            refine ⟨fun _ => H0, ?_⟩
            simp (maxSteps := 5000000) (decide := true) (disch := omega) only [EV, ↓reduceIte, Nat.reduceAdd, tt4, encO_f, encK_f, L6, L5]
            refine dq_act (by decide) rfl ?_
            refine lq_appR (enc := encS) H rfl rfl hks rfl (by rw [show encS.n = 1 from rfl]; simp; omega) (fun ak2 ck2 w H => ?_)
            simp only [List.nil_append, List.length_nil, Nat.zero_add] at H ⊢
            refine lr_nil ?_
            replace H0 := H.wkTo H0
            refine ⟨fun _ => H0, ?_⟩
            simp (maxSteps := 5000000) (decide := true) (disch := omega) only [EV, ↓reduceIte, Nat.reduceAdd, tt4, encO_f, encK_f, L6, L5]
            refine dq_act (by decide) rfl ?_
            refine lq_call rfl ?_
            refine Cl.mono (Put_ok (H.tkR (R := StoreAt) (k := p2)) (Ent.up (M := Os 88 encP (.slice ap2 o.ps.length cp2) o.ps :: []) Ent.os) rfl (Ent.up (M := Os 9 encS (.slice ak2 o.ks.length ck2) o.ks :: []) Ent.os) rfl (by omega) (by omega)) ?_
            rintro v w hP
            replace H : Own (StoreAt p2 (stepP R o) :: Ce b24 ([.int .i64 o.kind, .int .u64 o.id, .string o.key, .slice o.ap o.ps.length o.cp, .slice o.ak o.ks.length o.ck, .int .i64 o.now], 52) :: Os 5 encB (.slice ao3 (snapB g S).length c3) (snapB g S) :: StoreAt p S :: Os 48 encK (.slice aoK l1.length cK) l1 :: KeysR l1 :: Os 48 encK (.slice aoM l2.length cM) l2 :: KeysR l2 :: F) w := by
              rcases hP with ⟨h1, h2, -, H⟩ | ⟨h1, -, H⟩
              · rw [stepP, if_pos ⟨h1, h2⟩]; exact H.wk
              · rw [stepP, if_neg h1]; exact H.wk
            refine lr_nil ?_
            refine ⟨fun hh => absurd hh (by decide), ?_⟩
            simp (maxSteps := 5000000) (decide := true) (disch := omega) only [EV, ↓reduceIte, Nat.reduceAdd, tt4, encO_f, encK_f, L6, L5]
            refine dq_nil ?_
            refine dT_fin ?_
            refine h78 _ _ ?_
            refine cw_seq (fun K81 h81 => ?_)
            refine cw_region (lq_run ?_)
            simp (maxSteps := 5000000) (decide := true) (disch := omega) only [EV, ↓reduceIte, Nat.reduceAdd, tt4, encO_f, encK_f, L6, L5]
            refine lq_load H rfl ?_
            simp (maxSteps := 5000000) (decide := true) (disch := omega) only [EV, ↓reduceIte, Nat.reduceAdd, tt4, encO_f, encK_f, L6, L5]
            refine lq_load H rfl ?_
            simp (maxSteps := 5000000) (decide := true) (disch := omega) only [EV, ↓reduceIte, Nat.reduceAdd, tt4, encO_f, encK_f, L6, L5]
            refine lq_call rfl ?_
            refine Cl.mono (Commit_ok (H.tkR (R := StoreAt) (k := p2)) (by omega)) ?_
            rintro v w hP
            replace H : Own (StoreAt p2 (stepC (stepP R o) o.id o.now) :: Ce b24 ([.int .i64 o.kind, .int .u64 o.id, .string o.key, .slice o.ap o.ps.length o.cp, .slice o.ak o.ks.length o.ck, .int .i64 o.now], 52) :: Os 5 encB (.slice ao3 (snapB g S).length c3) (snapB g S) :: StoreAt p S :: Os 48 encK (.slice aoK l1.length cK) l1 :: KeysR l1 :: Os 48 encK (.slice aoM l2.length cM) l2 :: KeysR l2 :: F) w := by
              rcases hP with ⟨h1, -, H⟩ | ⟨h1, -, H⟩
              · rw [stepC, if_pos h1]; exact H.wk
              · rw [stepC, if_neg h1]; exact H.wk
            simp (maxSteps := 5000000) (decide := true) (disch := omega) only [EV, ↓reduceIte, Nat.reduceAdd, tt4, encO_f, encK_f, L6, L5]
            refine lq_nil ?_
            refine h81 _ _ ?_
            refine cw_region (lq_run ?_)
            simp (maxSteps := 5000000) (decide := true) (disch := omega) only [EV, ↓reduceIte, Nat.reduceAdd, tt4, encO_f, encK_f, L6, L5]
            refine lq_load H rfl ?_
            simp (maxSteps := 5000000) (decide := true) (disch := omega) only [EV, ↓reduceIte, Nat.reduceAdd, tt4, encO_f, encK_f, L6, L5]
            refine lq_load H rfl ?_
            simp (maxSteps := 5000000) (decide := true) (disch := omega) only [EV, ↓reduceIte, Nat.reduceAdd, tt4, encO_f, encK_f, L6, L5]
            refine lq_call rfl ?_
            refine Cl.mono (Drop_ok (H.tkR (R := StoreAt) (k := p2)) (by omega)) ?_
            rintro _ w ⟨rfl, H⟩
            change Own (StoreAt p2 (step3 R o) :: _) w at H
            replace H : Own (StoreAt p2 (step3 R o) :: Os 5 encB (.slice ao3 (snapB g S).length c3) (snapB g S) :: StoreAt p S :: Os 48 encK (.slice aoK l1.length cK) l1 :: KeysR l1 :: Os 48 encK (.slice aoM l2.length cM) l2 :: KeysR l2 :: F) w := H.wk
            simp (maxSteps := 5000000) (decide := true) (disch := omega) only [EV, ↓reduceIte, Nat.reduceAdd, tt4, encO_f, encK_f, L6, L5]
            refine lq_nil ?_
            refine h76 _ _ ?_
            refine cw_region (lq_run ?_)
            simp (maxSteps := 5000000) (decide := true) (disch := omega) only [EV, ↓reduceIte, Nat.reduceAdd, tt4, encO_f, encK_f, L6, L5]
            refine lq_nil ?_
            refine Exists.intro (d ++ [o], r2, step3 R o) ⟨⟨(.c (by rw [List.length_append]; rfl) .n), (.c rfl (.c rfl (.c rfl (.c rfl (.c rfl (.c rfl (.c rfl (.c rfl .n))))))))⟩, ⟨⟨by simp [hd], vol3 hvol⟩, H.wk⟩, (by simp)⟩
        · skip
          try simp only [HB] at c150
          refine cw_exit ?_
          refine h72 _ _ ?_
          refine cw_seq (fun K82 h82 => ?_)
          refine cw_region (lq_run ?_)
          simp (maxSteps := 5000000) (decide := true) (disch := omega) only [EV, ↓reduceIte, Nat.reduceAdd, tt4, encO_f, encK_f, L6, L5]
          replace H : Own (Os 5 encB (.slice ao3 (snapB g S).length c3) (snapB g S) :: StoreAt p S :: Os 48 encK (.slice aoK l1.length cK) l1 :: KeysR l1 :: Os 48 encK (.slice aoM l2.length cM) l2 :: KeysR l2 :: F) w := H.wk
          refine lq_call rfl ?_
          refine Cl.mono (Build_good (H.tkR (R := StoreAt) (k := p)) hf.wf hg1 hg2 hbd) ?_
          rintro _ w ⟨ao7, c7, rfl, H⟩
          simp (maxSteps := 5000000) (decide := true) (disch := omega) only [EV, ↓reduceIte, Nat.reduceAdd, tt4, encO_f, encK_f, L6, L5]
          refine lq_nil ?_
          refine h82 _ _ ?_
          refine cw_seq (fun K83 h83 => ?_)
          refine cw_region (lq_run ?_)
          simp (maxSteps := 5000000) (decide := true) (disch := omega) only [EV, ↓reduceIte, Nat.reduceAdd, tt4, encO_f, encK_f, L6, L5]
          have H8 : Own (Os 5 encB (.slice ao3 (snapB g S).length c3) (snapB g S) :: Os 5 encB (.slice ao7 (snapB g S).length c7) (snapB g S) :: StoreAt p S :: Os 48 encK (.slice aoK l1.length cK) l1 :: KeysR l1 :: Os 48 encK (.slice aoM l2.length cM) l2 :: KeysR l2 :: F) w := H.wk
          refine lq_call rfl ?_
          refine Cl.mono (own_ok H8 Ent.os rfl (by omega)) ?_
          rintro _ w ⟨ao8, c8, rfl, hc8, H⟩
          simp (maxSteps := 5000000) (decide := true) (disch := omega) only [EV, ↓reduceIte, Nat.reduceAdd, tt4, encO_f, encK_f, L6, L5]
          refine lq_call rfl ?_
          refine Cl.mono (Read_good H Ent.os rfl hc8 hf.wf hg1 hg2 hbd (by omega)) ?_
          rintro _ w ⟨p3, rfl, H⟩
          replace H : Own (StoreAt p3 (restamp nw S) :: Os 5 encB (.slice ao7 (snapB g S).length c7) (snapB g S) :: Os 5 encB (.slice ao3 (snapB g S).length c3) (snapB g S) :: StoreAt p S :: Os 48 encK (.slice aoK l1.length cK) l1 :: KeysR l1 :: Os 48 encK (.slice aoM l2.length cM) l2 :: KeysR l2 :: F) w := H.wk
          simp (maxSteps := 5000000) (decide := true) (disch := omega) only [EV, ↓reduceIte, Nat.reduceAdd, tt4, encO_f, encK_f, L6, L5]
          refine lq_nil ?_
          refine h83 _ _ ?_
          refine cw_seq (fun K84 h84 => ?_)
          refine cw_region (lq_run ?_)
          simp (maxSteps := 5000000) (decide := true) (disch := omega) only [EV, ↓reduceIte, Nat.reduceAdd, tt4, encO_f, encK_f, L6, L5]
          refine lq_call rfl ?_
          refine Cl.mono (same_ok H (Ent.up (M := Os 5 encB (.slice ao3 (snapB g S).length c3) (snapB g S) :: []) Ent.os) rfl (Ent.up (M := Os 5 encB (.slice ao7 (snapB g S).length c7) (snapB g S) :: []) Ent.os) rfl) ?_
          rintro _ w ⟨rfl, H⟩
          rw [show decide (snapB g S = snapB g S) = true from decide_eq_true rfl]
          simp (maxSteps := 5000000) (decide := true) (disch := omega) only [EV, ↓reduceIte, Nat.reduceAdd, tt4, encO_f, encK_f, L6, L5]
          refine lq_call rfl ?_
          refine Cl.mono (Kept_ok (H.tkR (R := StoreAt) (k := p)) hf.V (fun x hx => by have := hf.K x hx; omega)) ?_
          rintro _ w ⟨l3, aoP, cP, rfl, h3, H⟩
          simp (maxSteps := 5000000) (decide := true) (disch := omega) only [EV, ↓reduceIte, Nat.reduceAdd, tt4, encO_f, encK_f, L6, L5]
          refine lq_call rfl ?_
          refine Cl.mono (sameKeptT_ok H (Ent.up (M := Os 48 encK (.slice aoK l1.length cK) l1 :: []) Ent.os) rfl (Ent.up (M := Os 48 encK (.slice aoP l3.length cP) l3 :: []) Ent.os) rfl (fun x hx => (KeysR.ent (L := []) hx).up) (fun x hx => (KeysR.ent (L := []) hx).up) (len_eq h1 h3 rfl) hK1.1 hK1.2 (fun i x y hx hy => same_get h1 h3 hx hy)) ?_
          rintro _ w ⟨rfl, H⟩
          simp (maxSteps := 5000000) (decide := true) (disch := omega) only [EV, ↓reduceIte, Nat.reduceAdd, tt4, encO_f, encK_f, L6, L5]
          refine lq_call rfl ?_
          refine Cl.mono (Kept_ok (H.tkR (R := StoreAt) (k := p3)) hfR.V (fun x hx => by have := hfR.K x hx; omega)) ?_
          rintro _ w ⟨l4, aoQ, cQ, rfl, h4, H⟩
          simp (maxSteps := 5000000) (decide := true) (disch := omega) only [EV, ↓reduceIte, Nat.reduceAdd, tt4, encO_f, encK_f, L6, L5]
          refine lq_call rfl ?_
          refine Cl.mono (sameKeptT_ok H (Ent.up (M := Os 48 encK (.slice aoM l2.length cM) l2 :: []) Ent.os) rfl (Ent.up (M := Os 48 encK (.slice aoQ l4.length cQ) l4 :: []) Ent.os) rfl (fun x hx => (KeysR.ent (L := []) hx).up) (fun x hx => (KeysR.ent (L := []) hx).up) (len_eq h2 h4 rfl) hK2.1 hK2.2 (fun i x y hx hy => same_get h2 h4 hx hy)) ?_
          rintro _ w ⟨rfl, H⟩
          simp (maxSteps := 5000000) (decide := true) (disch := omega) only [EV, ↓reduceIte, Nat.reduceAdd, tt4, encO_f, encK_f, L6, L5]
          refine lq_nil ?_
          refine h84 _ _ ?_
          refine cw_ret ?_
          try simp (decide := true) only [EX, ↓reduceIte]
          refine ret1 rfl ?_
          first | exact ⟨rfl, H.wk⟩ | exact absurd trivial ‹¬True› | exact absurd ‹false = true› (by decide) | (exfalso; omega)
end Go.Rp
