/-
  made, example, alive.
-/
import Derived.Test.YtidoehfmbnngpaaGreatProg
import Derived.Test.YtidoehfmbnngpaaGreatPk
set_option linter.unusedVariables false
set_option linter.unusedSimpArgs false
set_option maxHeartbeats 1000000
set_option maxRecDepth 100000
namespace Go.Rp
open Go.Proofs
instance iW37_0 : ElT Tryz.prog 52 6 := ElT.mk' (by kernel_rfl)
instance iW37_1 : ElT Tryz.prog 88 2 := ElT.mk' (by kernel_rfl)
instance iW37_2 : ElT Tryz.prog 9 1 := ElT.mk' (by kernel_rfl)
instance iW37_3 : FnOk Tryz.prog 17 := ⟨⟨Tryz.f17, Tryz.func17, by kernel_rfl, by kernel_rfl⟩⟩
instance iW37_4 : FnOk Tryz.prog 18 := ⟨⟨Tryz.f18, Tryz.func18, by kernel_rfl, by kernel_rfl⟩⟩
instance iW37_5 : FnOk Tryz.prog 19 := ⟨⟨Tryz.f19, Tryz.func19, by kernel_rfl, by kernel_rfl⟩⟩
instance iW37_6 : FnOk Tryz.prog 54 := ⟨⟨Tryz.f54, Tryz.func54, by kernel_rfl, by kernel_rfl⟩⟩
instance iW37_7 : SlT Tryz.prog 22 52 := ⟨by kernel_rfl⟩
instance iW37_8 : SlT Tryz.prog 44 9 := ⟨by kernel_rfl⟩
instance iW37_9 : SlT Tryz.prog 50 88 := ⟨by kernel_rfl⟩
instance iW37_10 : SzT Tryz.prog 52 6 := ⟨by kernel_rfl⟩
instance iW37_11 : ZvT Tryz.prog 52 (.agg #[(.int .i64 0), (.int .u64 0), (.string ByteArray.empty), (.slice none 0 0), (.slice none 0 0), (.int .i64 0)]) := ⟨by kernel_rfl⟩
theorem tt11 : (AG Tryz.prog 2 = some false) ∧ (AG Tryz.prog 3 = some false) ∧ (AG Tryz.prog 43 = some false) ∧ (AG Tryz.prog 44 = some false) ∧ (AG Tryz.prog 50 = some false) ∧ (AG Tryz.prog 52 = some true) ∧ (AG Tryz.prog 9 = some false) ∧ (FO Tryz.prog 52 0 = some 0) ∧ (FO Tryz.prog 52 1 = some 1) ∧ (FO Tryz.prog 52 2 = some 2) ∧ (FO Tryz.prog 52 3 = some 3) ∧ (FO Tryz.prog 52 4 = some 4) ∧ (FO Tryz.prog 52 5 = some 5) ∧ (KD Tryz.prog 25 = some 2) ∧ (LK Tryz.prog 22 = some 1) ∧ (SZ Tryz.prog 52 = some 6) := ⟨by kernel_rfl, by kernel_rfl, by kernel_rfl, by kernel_rfl, by kernel_rfl, by kernel_rfl, by kernel_rfl, by kernel_rfl, by kernel_rfl, by kernel_rfl, by kernel_rfl, by kernel_rfl, by kernel_rfl, by kernel_rfl, by kernel_rfl, by kernel_rfl⟩

/-- A call in a script, and where its lists lie. -/
structure OT where
  kind : Int
  id : Int
  key : ByteArray
  ps : List (ByteArray × ByteArray)
  ap : Option Addr
  cp : Nat
  ks : List ByteArray
  ak : Option Addr
  ck : Nat
  now : Int
def encO : Enc OT := ⟨fun o => [.int .i64 o.kind, .int .u64 o.id, .string o.key, .slice o.ap o.ps.length o.cp, .slice o.ak o.ks.length o.ck, .int .i64 o.now], 6, fun _ => rfl, fun x u hu => by simp at hu; rcases hu with rfl | rfl | rfl | rfl | rfl | rfl <;> rfl, by decide⟩
theorem encO_f (o : OT) : encO.f o = [.int .i64 o.kind, .int .u64 o.id, .string o.key, .slice o.ap o.ps.length o.cp, .slice o.ak o.ks.length o.ck, .int .i64 o.now] := rfl
theorem L6 (a b c d e f : Value) : List.take 6 [a, b, c, d, e, f] = [a, b, c, d, e, f] := rfl
open Classical in
noncomputable def stepP (S : Sto) (o : OT) : Sto := if MayP o.id o.ps o.ks ∧ (0 ≤ o.now ∧ o.now ≤ 1099511627776) then (putP o.id o.ps o.ks o.now S).2 else S
noncomputable def stepC (S : Sto) (id now : Int) : Sto := if 65536 ≤ id ∧ (0 ≤ now ∧ now ≤ 1099511627776) then commitS id now S else S
noncomputable def stepS (S : Sto) (o : OT) : Sto := if o.kind = 1 then stepP S o else if o.kind = 2 then stepC S o.id o.now else if o.kind = 3 then (dropS S o.key o.id).2 else S
noncomputable def runS (S : Sto) (l : List OT) : Sto := l.foldl stepS S
theorem runS_snoc (S : Sto) (l : List OT) (o : OT) : runS S (l ++ [o]) = stepS (runS S l) o := by simp [runS]
def wtO (o : OT) : Nat := wtP o.ps + wtK o.ks
def wtOs (l : List OT) : Nat := (l.map wtO).sum
theorem wtOs_append (l m : List OT) : wtOs (l ++ m) = wtOs l + wtOs m := by simp [wtOs]
theorem WfS.stepP {S : Sto} (h : WfS S) (o : OT) (hi : o.id < 18446744073709551616) : WfS (stepP S o) := by
  unfold Rp.stepP
  split
  · rename_i q; exact h.put q.1 hi q.2
  · exact h
theorem WfS.stepC {S : Sto} (h : WfS S) (id now : Int) : WfS (stepC S id now) := by
  unfold Rp.stepC
  split
  · rename_i q; exact h.commit q.2
  · exact h
theorem WfS.stepS {S : Sto} (h : WfS S) (o : OT) (hi : o.id < 18446744073709551616) : WfS (stepS S o) := by
  unfold Rp.stepS
  split
  · exact h.stepP o hi
  · split
    · exact h.stepC _ _
    · split
      · exact h.drop _ _
      · exact h
theorem WfS.runS {S : Sto} (h : WfS S) : ∀ (l : List OT), (∀ o ∈ l, o.id < 18446744073709551616) → WfS (runS S l) := by
  intro l
  induction l generalizing S with
  | nil => intro _; exact h
  | cons o l ih => intro hi; exact ih (h.stepS o (hi o (List.mem_cons_self ..))) (fun a ha => hi a (List.mem_cons_of_mem _ ha))
theorem volV_stepP (S : Sto) (o : OT) : volV (stepP S o).V ≤ volV S.V + 1031 * wtO o := by
  unfold stepP wtO
  split
  · rename_i q; exact volV_put q.1
  · omega
theorem volV_stepC (S : Sto) (id now : Int) : volV (stepC S id now).V ≤ volV S.V := by
  unfold stepC
  split
  · rw [volV_commit]; exact Nat.le_refl _
  · exact Nat.le_refl _
theorem volV_stepS (S : Sto) (o : OT) : volV (stepS S o).V ≤ volV S.V + 1031 * wtO o := by
  unfold stepS
  split
  · exact volV_stepP S o
  · split
    · have := volV_stepC S o.id o.now; omega
    · split
      · have := volV_drop (S := S) (k := o.key) (id := o.id); omega
      · omega
theorem volV_runS : ∀ (l : List OT) (S : Sto), volV (runS S l).V ≤ volV S.V + 1031 * wtOs l
  | [], S => by simp [runS, wtOs]
  | o :: l, S => by
    have h1 := volV_runS l (stepS S o)
    have h2 := volV_stepS S o
    have h3 : wtOs (o :: l) = wtO o + wtOs l := by simp [wtOs]
    have h4 : runS S (o :: l) = runS (stepS S o) l := rfl
    rw [h3, h4]
    omega
theorem stepS_put {S : Sto} {o : OT} (h : o.kind = 1) : stepS S o = stepP S o := if_pos h
theorem stepS_com {S : Sto} {o : OT} (h : o.kind = 2) : stepS S o = stepC S o.id o.now := by unfold stepS; rw [if_neg (by omega), if_pos h]
theorem stepS_drop {S : Sto} {o : OT} (h : o.kind = 3) : stepS S o = (dropS S o.key o.id).2 := by unfold stepS; rw [if_neg (by omega), if_neg (by omega), if_pos h]
theorem stepS_skip {S : Sto} {o : OT} (h1 : ¬ o.kind = 1) (h2 : ¬ o.kind = 2) (h3 : ¬ o.kind = 3) : stepS S o = S := by unfold stepS; rw [if_neg h1, if_neg h2, if_neg h3]
/-- What is asked of a script where it lies. -/
structure Script (F : List HP) (ops : List OT) : Prop where
  ps : ∀ o ∈ ops, Ent F (Row o.ap encP o.ps)
  ks : ∀ o ∈ ops, Ent F (Row o.ak encS o.ks)
  id : ∀ o ∈ ops, 0 ≤ o.id ∧ o.id < 18446744073709551616
  wt : wtOs ops ≤ 1048576
theorem wtO_mem {o : OT} {l : List OT} (h : o ∈ l) : wtO o ≤ wtOs l := by
  induction l with
  | nil => cases h
  | cons a l ih =>
    have e : wtOs (a :: l) = wtO a + wtOs l := by simp [wtOs]
    rcases List.mem_cons.1 h with rfl | h
    · omega
    · have := ih h; omega
theorem wtO_len (o : OT) : o.ps.length ≤ wtO o ∧ o.ks.length ≤ wtO o := by
  have h1 := wtP_len o.ps
  have h2 := (wtK_tlen o.ks).2
  unfold wtO; omega
theorem made_ok {ao : Option Addr} {n c : Nat} {ops : List OT} {F : List HP} {w : World} (H : Own F w) (hR : Ent F (Row ao encO ops)) (hn : n = ops.length) (hS : Script F ops) (hb : ops.length ≤ 1099511627776) :
  Cl Tryz.prog 11 #[.slice ao n c] w fun v w' => ∃ p, v = .pointer (some ⟨p, 0, none⟩) ∧ Own (StoreAt p (runS ⟨[], []⟩ ops) :: F) w' := by
  subst hn
  refine cl_of_cw Tryz.func11 rfl ?_
  simp only [Tryz.ntmps11, envA, List.size_toArray, List.length_cons, List.length_nil, Nat.reduceAdd, Nat.reduceSub]
  refine cw_seq (fun K1 h1 => ?_)
  refine cw_region (lq_run ?_)
  simp (maxSteps := 500000) (decide := true) (disch := omega) only [EV, ↓reduceIte, Nat.reduceAdd, tt11, encO_f, L6]
  refine lq_nil ?_
  refine h1 _ _ ?_
  refine cw_seq (fun K2 h2 => ?_)
  refine cw_region (lq_run ?_)
  simp (maxSteps := 500000) (decide := true) (disch := omega) only [EV, ↓reduceIte, Nat.reduceAdd, tt11, encO_f, L6]
  refine lq_call rfl ?_
  refine Cl.mono (New_ok H) ?_
  rintro _ w ⟨p, rfl, H⟩
  simp (maxSteps := 500000) (decide := true) (disch := omega) only [EV, ↓reduceIte, Nat.reduceAdd, tt11, encO_f, L6]
  refine lq_nil ?_
  refine h2 _ _ ?_
  refine cw_seq (fun K3 h3 => ?_)
  refine cw_seq (fun K4 h4 => ?_)
  refine cw_region (lq_run ?_)
  simp (maxSteps := 500000) (decide := true) (disch := omega) only [EV, ↓reduceIte, Nat.reduceAdd, tt11, encO_f, L6]
  refine lq_nil ?_
  refine h4 _ _ ?_
  refine cw_block ?_
  refine cw_loopC (X := List OT × List OT) [(0, _), (2, _), (3, _)] (fun x => [(4, .int .i64 (x.1.length : Int))]) (fun x w => ops = x.1 ++ x.2 ∧ Own (StoreAt p (runS ⟨[], []⟩ x.1) :: F) w) (fun x => x.2.length) ([], ops) (.c rfl (.c rfl (.c rfl .n))) (.c rfl .n) ⟨rfl, H⟩ ?_
  rintro ⟨d, r⟩ w ⟨hd, H⟩
  simp only [List.cons_append, List.nil_append]
  simp only at hd H ⊢
  refine cw_seq (fun K5 h5 => ?_)
  refine cw_seq (fun K6 h6 => ?_)
  refine cw_region (lq_run ?_)
  simp (maxSteps := 500000) (decide := true) (disch := omega) only [EV, ↓reduceIte, Nat.reduceAdd, tt11, encO_f, L6]
  refine lq_G (fun g11 => ?_) (fun g11 => ?_)
  · try simp only [HB] at g11
    simp (maxSteps := 500000) (decide := true) (disch := omega) only [EV, ↓reduceIte, Nat.reduceAdd, tt11, encO_f, L6]
    refine lq_nil ?_
    refine h6 _ _ ?_
    refine cw_condT rfl ?_
    refine cw_skip ?_
    refine h5 _ _ ?_
    refine cw_seq (fun K7 h7 => ?_)
    refine cw_block ?_
    refine cw_seq (fun K8 h8 => ?_)
    refine cw_region (lq_run ?_)
    obtain ⟨o, r2, rfl, he⟩ := zip_more hd g11
    have hdl := congrArg List.length hd
    simp only [List.length_append, List.length_cons] at hdl
    have hom : o ∈ ops := by rw [hd]; simp
    have hv1 := volV_runS d ⟨[], []⟩
    have hv2 := V_len (runS ⟨[], []⟩ d).V
    have hv3 : wtOs d ≤ wtOs ops := by rw [hd, wtOs_append]; omega
    have hv4 := hS.wt
    have hv5 := wtO_len o
    have hv6 := wtO_mem hom
    have hv7 : volV ([] : List (Nm × Hd)) = 0 := rfl
    rw [hv7] at hv1
    have hps := hS.ps o hom
    have hks := hS.ks o hom
    simp (maxSteps := 500000) (decide := true) (disch := omega) only [EV, ↓reduceIte, Nat.reduceAdd, tt11, encO_f, L6]
    refine lq_idx (i' := d.length) H rfl rfl hR (Nat.le_refl _) rfl he ?_
    simp (maxSteps := 500000) (decide := true) (disch := omega) only [EV, ↓reduceIte, Nat.reduceAdd, tt11, encO_f, L6]
    refine lq_loadE H rfl hR he rfl ?_
    simp (maxSteps := 500000) (decide := true) (disch := omega) only [EV, ↓reduceIte, Nat.reduceAdd, tt11, encO_f, L6]
    refine lq_new H (fun b5 w H => ?_)
    try simp only [ES, encO_f, L6] at H
    simp (maxSteps := 500000) (decide := true) (disch := omega) only [EV, ↓reduceIte, Nat.reduceAdd, tt11, encO_f, L6]
    refine lq_st H rfl rfl rfl (fun w H => ?_)
    try simp only [ES, encO_f, L6] at H
    simp (maxSteps := 500000) (decide := true) (disch := omega) only [EV, ↓reduceIte, Nat.reduceAdd, tt11, encO_f, L6]
    refine lq_nil ?_
    refine h8 _ _ ?_
    refine cw_seq (fun K9 h9 => ?_)
    refine cw_region (lq_run ?_)
    simp (maxSteps := 500000) (decide := true) (disch := omega) only [EV, ↓reduceIte, Nat.reduceAdd, tt11, encO_f, L6]
    refine lq_load H rfl ?_
    simp (maxSteps := 500000) (decide := true) (disch := omega) only [EV, ↓reduceIte, Nat.reduceAdd, tt11, encO_f, L6]
    refine lq_nil ?_
    refine h9 _ _ ?_
    refine cw_block ?_
    refine cw_seq (fun K10 h10 => ?_)
    refine cw_region (lq_run ?_)
    simp (maxSteps := 500000) (decide := true) (disch := omega) only [EV, ↓reduceIte, Nat.reduceAdd, tt11, encO_f, L6]
    refine lq_nil ?_
    refine h10 _ _ ?_
    refine cw_condB rfl (fun c23 => ?_) (fun c23 => ?_)
    · skip
      try simp only [HB] at c23
      refine cw_drawT ([Ce b5 ([.int .i64 o.kind, .int .u64 o.id, .string o.key, .slice o.ap o.ps.length o.cp, .slice o.ak o.ks.length o.ck, .int .i64 o.now], 52)]) [(0, 0), (1, 0), (2, 1), (3, 2), (4, 0), (5, 1), (6, 2), (7, 2), (8, 0), (9, 1), (10, 2), (11, 0), (12, 1), (13, 3)] (.pre [(0, 0), (1, 0), (2, 1), (4, 0), (5, 1), (8, 0), (9, 1), (11, 0), (12, 1)] (.fork (.pre [(3, 2)] (.fork (.pre [(6, 2), (7, 2), (10, 2), (13, 3)] .fin) (.pre [(7, 2), (6, 2), (10, 2), (13, 3)] .fin))) (.pre [(7, 2), (3, 2), (6, 2), (10, 2), (13, 3)] .fin))) rfl (by kernel_rfl) (fun c env w => by simp (decide := true) only [EX, not_false_eq_true]) H (fun w H => ?_)
      have H0 : Own [Ce b5 ([.int .i64 o.kind, .int .u64 o.id, .string o.key, .slice o.ap o.ps.length o.cp, .slice o.ak o.ks.length o.ck, .int .i64 o.now], 52)] w := H.wk
      refine dT_pre ?_
      refine dq_run ?_
      simp (maxSteps := 500000) (decide := true) (disch := omega) only [EV, ↓reduceIte, Nat.reduceAdd, tt11, encO_f, L6]
      refine dq_load H0 rfl ?_
      simp (maxSteps := 500000) (decide := true) (disch := omega) only [EV, ↓reduceIte, Nat.reduceAdd, tt11, encO_f, L6]
      refine dq_load H0 rfl ?_
      simp (maxSteps := 500000) (decide := true) (disch := omega) only [EV, ↓reduceIte, Nat.reduceAdd, tt11, encO_f, L6]
      refine dq_load H0 rfl ?_
      simp (maxSteps := 500000) (decide := true) (disch := omega) only [EV, ↓reduceIte, Nat.reduceAdd, tt11, encO_f, L6]
      refine dq_load H0 rfl ?_
      simp (maxSteps := 500000) (decide := true) (disch := omega) only [EV, ↓reduceIte, Nat.reduceAdd, tt11, encO_f, L6]
      refine dq_nil ?_
      refine dT_fork ?_ ?_
      · skip
        refine dT_pre ?_
        refine dq_run ?_
        simp (maxSteps := 500000) (decide := true) (disch := omega) only [EV, ↓reduceIte, Nat.reduceAdd, tt11, encO_f, L6]
        refine dq_act (by decide) rfl ?_
        refine lq_bs H rfl rfl (by rfl) rfl (by decide) (fun b28 w H => ?_)
        try simp only [ES, encO_f, L6] at H
        replace H := H.os encP [] rfl rfl
        refine lr_nil ?_
        replace H0 := H.wkTo H0
        refine ⟨fun _ => H0, ?_⟩
        simp (maxSteps := 500000) (decide := true) (disch := omega) only [EV, ↓reduceIte, Nat.reduceAdd, tt11, encO_f, L6]
        refine dq_nil ?_
        refine dT_fork ?_ ?_
        · skip
          refine dT_pre ?_
          refine dq_run ?_
          simp (maxSteps := 500000) (decide := true) (disch := omega) only [EV, ↓reduceIte, Nat.reduceAdd, tt11, encO_f, L6]
          refine dq_act (by decide) rfl ?_
          refine lq_appR (enc := encP) H rfl rfl hps rfl (by rw [show encP.n = 2 from rfl]; simp; omega) (fun ap2 cp2 w H => ?_)
          simp only [List.nil_append, List.length_nil, Nat.zero_add] at H ⊢
          refine lr_nil ?_
          replace H0 := H.wkTo H0
          refine ⟨fun _ => H0, ?_⟩
          simp (maxSteps := 500000) (decide := true) (disch := omega) only [EV, ↓reduceIte, Nat.reduceAdd, tt11, encO_f, L6]
          refine dq_act (by decide) rfl ?_
          refine lq_bs H rfl rfl (by rfl) rfl (by decide) (fun b32 w H => ?_)
          try simp only [ES, encO_f, L6] at H
          replace H := H.os encS [] rfl rfl
          refine lr_nil ?_
          replace H0 := H.wkTo H0
          refine ⟨fun _ => H0, ?_⟩
          simp (maxSteps := 500000) (decide := true) (disch := omega) only [EV, ↓reduceIte, Nat.reduceAdd, tt11, encO_f, L6]
          refine dq_act (by decide) rfl ?_
          refine lq_appR (enc := encS) H rfl rfl hks rfl (by rw [show encS.n = 1 from rfl]; simp; omega) (fun ak2 ck2 w H => ?_)
          simp only [List.nil_append, List.length_nil, Nat.zero_add] at H ⊢
          refine lr_nil ?_
          replace H0 := H.wkTo H0
          refine ⟨fun _ => H0, ?_⟩
          simp (maxSteps := 500000) (decide := true) (disch := omega) only [EV, ↓reduceIte, Nat.reduceAdd, tt11, encO_f, L6]
          refine dq_act (by decide) rfl ?_
          refine lq_call rfl ?_
          refine Cl.mono (Put_ok (H.tkR (R := StoreAt) (k := p)) (Ent.up (M := Os 88 encP (.slice ap2 o.ps.length cp2) o.ps :: []) Ent.os) rfl (Ent.up (M := Os 9 encS (.slice ak2 o.ks.length ck2) o.ks :: []) Ent.os) rfl (by omega) (by omega)) ?_
          rintro v w hP
          replace H : Own (StoreAt p (stepS (runS ⟨[], []⟩ d) o) :: Os 9 encS (.slice ak2 o.ks.length ck2) o.ks :: Os 88 encP (.slice ap2 o.ps.length cp2) o.ps :: Ce b5 ([.int .i64 o.kind, .int .u64 o.id, .string o.key, .slice o.ap o.ps.length o.cp, .slice o.ak o.ks.length o.ck, .int .i64 o.now], 52) :: F) w := by
            rw [stepS_put c23]
            rcases hP with ⟨h1, h2, -, H⟩ | ⟨h1, -, H⟩
            · rw [stepP, if_pos ⟨h1, h2⟩]; exact H.wk
            · rw [stepP, if_neg h1]; exact H.wk
          refine lr_nil ?_
          refine ⟨fun hh => absurd hh (by decide), ?_⟩
          simp (maxSteps := 500000) (decide := true) (disch := omega) only [EV, ↓reduceIte, Nat.reduceAdd, tt11, encO_f, L6]
          refine dq_nil ?_
          refine dT_fin ?_
          refine h7 _ _ ?_
          refine cw_region (lq_run ?_)
          simp (maxSteps := 500000) (decide := true) (disch := omega) only [EV, ↓reduceIte, Nat.reduceAdd, tt11, encO_f, L6]
          refine lq_nil ?_
          refine Exists.intro (d ++ [o], r2) ⟨⟨(.c (by rw [List.length_append]; rfl) .n), (.c rfl (.c rfl (.c rfl .n)))⟩, ⟨by simp [hd], by rw [runS_snoc]; exact H.wk⟩, (by simp)⟩
        · skip
          refine dT_pre ?_
          refine dq_run ?_
          simp (maxSteps := 500000) (decide := true) (disch := omega) only [EV, ↓reduceIte, Nat.reduceAdd, tt11, encO_f, L6]
          refine dq_act (by decide) rfl ?_
          refine lq_bs H rfl rfl (by rfl) rfl (by decide) (fun b32 w H => ?_)
          try simp only [ES, encO_f, L6] at H
          replace H := H.os encS [] rfl rfl
          refine lr_nil ?_
          replace H0 := H.wkTo H0
          refine ⟨fun _ => H0, ?_⟩
          simp (maxSteps := 500000) (decide := true) (disch := omega) only [EV, ↓reduceIte, Nat.reduceAdd, tt11, encO_f, L6]
          refine dq_act (by decide) rfl ?_
          refine lq_appR (enc := encP) H rfl rfl hps rfl (by rw [show encP.n = 2 from rfl]; simp; omega) (fun ap2 cp2 w H => ?_)
          simp only [List.nil_append, List.length_nil, Nat.zero_add] at H ⊢
          refine lr_nil ?_
          replace H0 := H.wkTo H0
          refine ⟨fun _ => H0, ?_⟩
          simp (maxSteps := 500000) (decide := true) (disch := omega) only [EV, ↓reduceIte, Nat.reduceAdd, tt11, encO_f, L6]
          refine dq_act (by decide) rfl ?_
          refine lq_appR (enc := encS) H rfl rfl hks rfl (by rw [show encS.n = 1 from rfl]; simp; omega) (fun ak2 ck2 w H => ?_)
          simp only [List.nil_append, List.length_nil, Nat.zero_add] at H ⊢
          refine lr_nil ?_
          replace H0 := H.wkTo H0
          refine ⟨fun _ => H0, ?_⟩
          simp (maxSteps := 500000) (decide := true) (disch := omega) only [EV, ↓reduceIte, Nat.reduceAdd, tt11, encO_f, L6]
          refine dq_act (by decide) rfl ?_
          refine lq_call rfl ?_
          refine Cl.mono (Put_ok (H.tkR (R := StoreAt) (k := p)) (Ent.up (M := Os 88 encP (.slice ap2 o.ps.length cp2) o.ps :: []) Ent.os) rfl (Ent.up (M := Os 9 encS (.slice ak2 o.ks.length ck2) o.ks :: []) Ent.os) rfl (by omega) (by omega)) ?_
          rintro v w hP
          replace H : Own (StoreAt p (stepS (runS ⟨[], []⟩ d) o) :: Os 9 encS (.slice ak2 o.ks.length ck2) o.ks :: Os 88 encP (.slice ap2 o.ps.length cp2) o.ps :: Ce b5 ([.int .i64 o.kind, .int .u64 o.id, .string o.key, .slice o.ap o.ps.length o.cp, .slice o.ak o.ks.length o.ck, .int .i64 o.now], 52) :: F) w := by
            rw [stepS_put c23]
            rcases hP with ⟨h1, h2, -, H⟩ | ⟨h1, -, H⟩
            · rw [stepP, if_pos ⟨h1, h2⟩]; exact H.wk
            · rw [stepP, if_neg h1]; exact H.wk
          refine lr_nil ?_
          refine ⟨fun hh => absurd hh (by decide), ?_⟩
          simp (maxSteps := 500000) (decide := true) (disch := omega) only [EV, ↓reduceIte, Nat.reduceAdd, tt11, encO_f, L6]
          refine dq_nil ?_
          refine dT_fin ?_
          refine h7 _ _ ?_
          refine cw_region (lq_run ?_)
          simp (maxSteps := 500000) (decide := true) (disch := omega) only [EV, ↓reduceIte, Nat.reduceAdd, tt11, encO_f, L6]
          refine lq_nil ?_
          refine Exists.intro (d ++ [o], r2) ⟨⟨(.c (by rw [List.length_append]; rfl) .n), (.c rfl (.c rfl (.c rfl .n)))⟩, ⟨by simp [hd], by rw [runS_snoc]; exact H.wk⟩, (by simp)⟩
      · skip
        refine dT_pre ?_
        refine dq_run ?_
        simp (maxSteps := 500000) (decide := true) (disch := omega) only [EV, ↓reduceIte, Nat.reduceAdd, tt11, encO_f, L6]
        refine dq_act (by decide) rfl ?_
        refine lq_bs H rfl rfl (by rfl) rfl (by decide) (fun b32 w H => ?_)
        try simp only [ES, encO_f, L6] at H
        replace H := H.os encS [] rfl rfl
        refine lr_nil ?_
        replace H0 := H.wkTo H0
        refine ⟨fun _ => H0, ?_⟩
        simp (maxSteps := 500000) (decide := true) (disch := omega) only [EV, ↓reduceIte, Nat.reduceAdd, tt11, encO_f, L6]
        refine dq_act (by decide) rfl ?_
        refine lq_bs H rfl rfl (by rfl) rfl (by decide) (fun b28 w H => ?_)
        try simp only [ES, encO_f, L6] at H
        replace H := H.os encP [] rfl rfl
        refine lr_nil ?_
        replace H0 := H.wkTo H0
        refine ⟨fun _ => H0, ?_⟩
        simp (maxSteps := 500000) (decide := true) (disch := omega) only [EV, ↓reduceIte, Nat.reduceAdd, tt11, encO_f, L6]
        refine dq_act (by decide) rfl ?_
        refine lq_appR (enc := encP) H rfl rfl hps rfl (by rw [show encP.n = 2 from rfl]; simp; omega) (fun ap2 cp2 w H => ?_)
        simp only [List.nil_append, List.length_nil, Nat.zero_add] at H ⊢
        refine lr_nil ?_
        replace H0 := H.wkTo H0
        refine ⟨fun _ => H0, ?_⟩
        simp (maxSteps := 500000) (decide := true) (disch := omega) only [EV, ↓reduceIte, Nat.reduceAdd, tt11, encO_f, L6]
        refine dq_act (by decide) rfl ?_
        refine lq_appR (enc := encS) H rfl rfl hks rfl (by rw [show encS.n = 1 from rfl]; simp; omega) (fun ak2 ck2 w H => ?_)
        simp only [List.nil_append, List.length_nil, Nat.zero_add] at H ⊢
        refine lr_nil ?_
        replace H0 := H.wkTo H0
        refine ⟨fun _ => H0, ?_⟩
        simp (maxSteps := 500000) (decide := true) (disch := omega) only [EV, ↓reduceIte, Nat.reduceAdd, tt11, encO_f, L6]
        refine dq_act (by decide) rfl ?_
        refine lq_call rfl ?_
        refine Cl.mono (Put_ok (H.tkR (R := StoreAt) (k := p)) (Ent.up (M := Os 88 encP (.slice ap2 o.ps.length cp2) o.ps :: []) Ent.os) rfl (Ent.up (M := Os 9 encS (.slice ak2 o.ks.length ck2) o.ks :: []) Ent.os) rfl (by omega) (by omega)) ?_
        rintro v w hP
        replace H : Own (StoreAt p (stepS (runS ⟨[], []⟩ d) o) :: Os 9 encS (.slice ak2 o.ks.length ck2) o.ks :: Os 88 encP (.slice ap2 o.ps.length cp2) o.ps :: Ce b5 ([.int .i64 o.kind, .int .u64 o.id, .string o.key, .slice o.ap o.ps.length o.cp, .slice o.ak o.ks.length o.ck, .int .i64 o.now], 52) :: F) w := by
          rw [stepS_put c23]
          rcases hP with ⟨h1, h2, -, H⟩ | ⟨h1, -, H⟩
          · rw [stepP, if_pos ⟨h1, h2⟩]; exact H.wk
          · rw [stepP, if_neg h1]; exact H.wk
        refine lr_nil ?_
        refine ⟨fun hh => absurd hh (by decide), ?_⟩
        simp (maxSteps := 500000) (decide := true) (disch := omega) only [EV, ↓reduceIte, Nat.reduceAdd, tt11, encO_f, L6]
        refine dq_nil ?_
        refine dT_fin ?_
        refine h7 _ _ ?_
        refine cw_region (lq_run ?_)
        simp (maxSteps := 500000) (decide := true) (disch := omega) only [EV, ↓reduceIte, Nat.reduceAdd, tt11, encO_f, L6]
        refine lq_nil ?_
        refine Exists.intro (d ++ [o], r2) ⟨⟨(.c (by rw [List.length_append]; rfl) .n), (.c rfl (.c rfl (.c rfl .n)))⟩, ⟨by simp [hd], by rw [runS_snoc]; exact H.wk⟩, (by simp)⟩
    · skip
      try simp only [HB] at c23
      refine cw_seq (fun K11 h11 => ?_)
      refine cw_region (lq_run ?_)
      simp (maxSteps := 500000) (decide := true) (disch := omega) only [EV, ↓reduceIte, Nat.reduceAdd, tt11, encO_f, L6]
      refine lq_nil ?_
      refine h11 _ _ ?_
      refine cw_condB rfl (fun c39 => ?_) (fun c39 => ?_)
      · skip
        try simp only [HB] at c39
        refine cw_region (lq_run ?_)
        simp (maxSteps := 500000) (decide := true) (disch := omega) only [EV, ↓reduceIte, Nat.reduceAdd, tt11, encO_f, L6]
        refine lq_load H rfl ?_
        simp (maxSteps := 500000) (decide := true) (disch := omega) only [EV, ↓reduceIte, Nat.reduceAdd, tt11, encO_f, L6]
        refine lq_load H rfl ?_
        simp (maxSteps := 500000) (decide := true) (disch := omega) only [EV, ↓reduceIte, Nat.reduceAdd, tt11, encO_f, L6]
        refine lq_call rfl ?_
        refine Cl.mono (Commit_ok (H.tkR (R := StoreAt) (k := p)) (by omega)) ?_
        rintro v w hP
        replace H : Own (StoreAt p (stepS (runS ⟨[], []⟩ d) o) :: Ce b5 ([.int .i64 o.kind, .int .u64 o.id, .string o.key, .slice o.ap o.ps.length o.cp, .slice o.ak o.ks.length o.ck, .int .i64 o.now], 52) :: F) w := by
          rw [stepS_com c39]
          rcases hP with ⟨h1, -, H⟩ | ⟨h1, -, H⟩
          · rw [stepC, if_pos h1]; exact H.wk
          · rw [stepC, if_neg h1]; exact H.wk
        simp (maxSteps := 500000) (decide := true) (disch := omega) only [EV, ↓reduceIte, Nat.reduceAdd, tt11, encO_f, L6]
        refine lq_nil ?_
        refine h7 _ _ ?_
        refine cw_region (lq_run ?_)
        simp (maxSteps := 500000) (decide := true) (disch := omega) only [EV, ↓reduceIte, Nat.reduceAdd, tt11, encO_f, L6]
        refine lq_nil ?_
        refine Exists.intro (d ++ [o], r2) ⟨⟨(.c (by rw [List.length_append]; rfl) .n), (.c rfl (.c rfl (.c rfl .n)))⟩, ⟨by simp [hd], by rw [runS_snoc]; exact H.wk⟩, (by simp)⟩
      · skip
        try simp only [HB] at c39
        refine cw_seq (fun K12 h12 => ?_)
        refine cw_region (lq_run ?_)
        simp (maxSteps := 500000) (decide := true) (disch := omega) only [EV, ↓reduceIte, Nat.reduceAdd, tt11, encO_f, L6]
        refine lq_nil ?_
        refine h12 _ _ ?_
        refine cw_condB rfl (fun c47 => ?_) (fun c47 => ?_)
        · skip
          try simp only [HB] at c47
          refine cw_region (lq_run ?_)
          simp (maxSteps := 500000) (decide := true) (disch := omega) only [EV, ↓reduceIte, Nat.reduceAdd, tt11, encO_f, L6]
          refine lq_load H rfl ?_
          simp (maxSteps := 500000) (decide := true) (disch := omega) only [EV, ↓reduceIte, Nat.reduceAdd, tt11, encO_f, L6]
          refine lq_load H rfl ?_
          simp (maxSteps := 500000) (decide := true) (disch := omega) only [EV, ↓reduceIte, Nat.reduceAdd, tt11, encO_f, L6]
          refine lq_call rfl ?_
          refine Cl.mono (Drop_ok (H.tkR (R := StoreAt) (k := p)) (by omega)) ?_
          rintro _ w ⟨rfl, H⟩
          rw [← stepS_drop c47] at H
          simp (maxSteps := 500000) (decide := true) (disch := omega) only [EV, ↓reduceIte, Nat.reduceAdd, tt11, encO_f, L6]
          refine lq_nil ?_
          refine h7 _ _ ?_
          refine cw_region (lq_run ?_)
          simp (maxSteps := 500000) (decide := true) (disch := omega) only [EV, ↓reduceIte, Nat.reduceAdd, tt11, encO_f, L6]
          refine lq_nil ?_
          refine Exists.intro (d ++ [o], r2) ⟨⟨(.c (by rw [List.length_append]; rfl) .n), (.c rfl (.c rfl (.c rfl .n)))⟩, ⟨by simp [hd], by rw [runS_snoc]; exact H.wk⟩, (by simp)⟩
        · skip
          try simp only [HB] at c47
          rw [← stepS_skip (S := runS ⟨[], []⟩ d) c23 c39 c47] at H
          refine cw_skip ?_
          refine h7 _ _ ?_
          refine cw_region (lq_run ?_)
          simp (maxSteps := 500000) (decide := true) (disch := omega) only [EV, ↓reduceIte, Nat.reduceAdd, tt11, encO_f, L6]
          refine lq_nil ?_
          refine Exists.intro (d ++ [o], r2) ⟨⟨(.c (by rw [List.length_append]; rfl) .n), (.c rfl (.c rfl (.c rfl .n)))⟩, ⟨by simp [hd], by rw [runS_snoc]; exact H.wk⟩, (by simp)⟩
  · try simp only [HB] at g11
    simp (maxSteps := 500000) (decide := true) (disch := omega) only [EV, ↓reduceIte, Nat.reduceAdd, tt11, encO_f, L6]
    refine lq_nil ?_
    refine h6 _ _ ?_
    refine cw_condF rfl ?_
    refine cw_exit ?_
    refine h3 _ _ ?_
    refine cw_seq (fun K13 h13 => ?_)
    refine cw_region (lq_run ?_)
    simp (maxSteps := 500000) (decide := true) (disch := omega) only [EV, ↓reduceIte, Nat.reduceAdd, tt11, encO_f, L6]
    refine lq_nil ?_
    refine h13 _ _ ?_
    refine cw_ret ?_
    try simp (decide := true) only [EX, ↓reduceIte]
    refine ret1 rfl ?_
    obtain ⟨rfl, hdd⟩ := zip_done hd (by omega)
    subst hdd
    exact ⟨p, rfl, H⟩
end Go.Rp
set_option linter.unusedVariables false
set_option linter.unusedSimpArgs false
set_option maxHeartbeats 1000000
set_option maxRecDepth 100000
namespace Go.Rp
open Go.Proofs
instance iW38_0 : ElT Tryz.prog 52 6 := ElT.mk' (by kernel_rfl)
instance iW38_1 : ElT Tryz.prog 88 2 := ElT.mk' (by kernel_rfl)
instance iW38_2 : ElT Tryz.prog 9 1 := ElT.mk' (by kernel_rfl)
instance iW38_3 : SlT Tryz.prog 22 52 := ⟨by kernel_rfl⟩
instance iW38_4 : SlT Tryz.prog 44 9 := ⟨by kernel_rfl⟩
instance iW38_5 : SlT Tryz.prog 50 88 := ⟨by kernel_rfl⟩
theorem tt32 : (BU Tryz.prog 52 = some ([(.int .i64 0), (.int .u64 0), (.string ByteArray.empty), (.slice none 0 0), (.slice none 0 0), (.int .i64 0)], [(0, 1), (1, 1), (2, 1), (3, 1), (4, 1), (5, 1)])) ∧ (BU Tryz.prog 88 = some ([(.string ByteArray.empty), (.string ByteArray.empty)], [(0, 1), (1, 1)])) := ⟨by kernel_rfl, by kernel_rfl⟩

def sA : ByteArray := ⟨#[97]⟩
def sB : ByteArray := ⟨#[98]⟩
def s1 : ByteArray := ⟨#[49]⟩
def s2 : ByteArray := ⟨#[50]⟩
def s3 : ByteArray := ⟨#[51]⟩
def exO (k i : Int) (ps : List (ByteArray × ByteArray)) (ap : Option Addr) (cp : Nat) (ks : List ByteArray) (ak : Option Addr) (ck : Nat) : OT := ⟨k, i, ByteArray.empty, ps, ap, cp, ks, ak, ck, 0⟩
def ex1 (ap ak : Option Addr) : OT := exO 1 65536 [(sA, s1), (sB, s2)] ap 2 [sA, sB] ak 2
def ex2 : OT := exO 2 65536 [] none 0 [] none 0
def ex3 (ap ak : Option Addr) : OT := exO 1 131072 [(sA, s3)] ap 1 [sA] ak 1
def ex4 : OT := exO 2 131072 [] none 0 [] none 0
def exS : Sto := ⟨[((sA, 65536), ⟨s1, [sA, sB], 0⟩), ((sA, 131072), ⟨s3, [sA], -1⟩), ((sB, 65536), ⟨s2, [sA, sB], -1⟩)], [(sA, 131072), (sB, 65536)]⟩
theorem ltAB : Lt.lt sA sB = true := by kernel_rfl
theorem riseAB : Rise [sA, sB] := List.Pairwise.cons (fun a ha => by rw [List.mem_singleton.1 ha]; exact ltAB) (List.Pairwise.cons (fun a ha => by cases ha) .nil)
theorem mayX : MayP 65536 [(sA, s1), (sB, s2)] [sA, sB] := by
  refine ⟨by decide, ⟨⟨?_, riseAB⟩, by decide, by decide⟩, by decide, riseAB, ?_⟩
  · intro k hk
    simp only [List.mem_cons, List.not_mem_nil, or_false] at hk
    rcases hk with rfl | rfl <;> decide
  · intro p hp
    simp only [List.mem_cons, List.not_mem_nil, or_false] at hp
    rcases hp with rfl | rfl
    · exact ⟨by simp, by decide⟩
    · exact ⟨by simp, by decide⟩
theorem mayY : MayP 131072 [(sA, s3)] [sA] := by
  refine ⟨by decide, ⟨⟨?_, List.pairwise_singleton _ _⟩, by decide, by decide⟩, by decide, List.pairwise_singleton _ _, ?_⟩
  · intro k hk
    rw [List.mem_singleton.1 hk]; decide
  · intro p hp
    rw [List.mem_singleton.1 hp]
    exact ⟨by simp, by decide⟩
theorem run_ex (a1 a2 a3 a4 : Option Addr) : runS ⟨[], []⟩ [ex1 a1 a2, ex2, ex3 a3 a4, ex4] = exS := by
  have e1 : stepS ⟨[], []⟩ (ex1 a1 a2) = (putP 65536 [(sA, s1), (sB, s2)] [sA, sB] 0 ⟨[], []⟩).2 := by
    rw [stepS_put rfl, stepP]
    exact if_pos ⟨mayX, show (0 : Int) ≤ 0 by decide, show (0 : Int) ≤ 1099511627776 by decide⟩
  have e2 : ∀ S, stepS S ex2 = commitS 65536 0 S := fun S => by
    rw [stepS_com rfl, stepC]
    exact if_pos ⟨by decide, by decide, by decide⟩
  have e3 : ∀ S, stepS S (ex3 a3 a4) = (putP 131072 [(sA, s3)] [sA] 0 S).2 := fun S => by
    rw [stepS_put rfl, stepP]
    exact if_pos ⟨mayY, show (0 : Int) ≤ 0 by decide, show (0 : Int) ≤ 1099511627776 by decide⟩
  have e4 : ∀ S, stepS S ex4 = commitS 131072 0 S := fun S => by
    rw [stepS_com rfl, stepC]
    exact if_pos ⟨by decide, by decide, by decide⟩
  show stepS (stepS (stepS (stepS ⟨[], []⟩ (ex1 a1 a2)) ex2) (ex3 a3 a4)) ex4 = exS
  rw [e1, e2, e3, e4]
  kernel_rfl
theorem Build_good {p : Nat} {g : Int} {S : Sto} {F : List HP} {w : World} (H : Own (StoreAt p S :: F) w) (hW : WfS S) (h1 : 1 ≤ g) (hg : g ≤ 9223372036854775807) (hb : (bodyB g S).length ≤ 2147483647) :
    Cl Tryz.prog 9 #[.int .i64 g, .pointer (some ⟨p, 0, none⟩)] w fun v w' => ∃ ao c, v = .tuple #[.slice ao (snapB g S).length c, .int .i64 0] ∧ Own (Os 5 encB (.slice ao (snapB g S).length c) (snapB g S) :: StoreAt p S :: F) w' := by
  refine Cl.mono (Build_ok H hW hg hb) ?_
  rintro v w' (⟨q, _⟩ | ⟨_, h⟩)
  · omega
  · exact h
theorem Read_good {ao : Option Addr} {n c : Nat} {g now : Int} {S : Sto} {F : List HP} {w : World} (H : Own F w) (hR : Ent F (Row ao encB (snapB g S))) (hn : n = (snapB g S).length) (hnc : n ≤ c) (hW : WfS S) (h1 : 1 ≤ g) (hg : g ≤ 9223372036854775807) (hb : (bodyB g S).length ≤ 2147483647) (ht : 0 ≤ now ∧ now ≤ 1099511627776) :
    Cl Tryz.prog 7 #[.slice ao n c, .int .i64 now] w fun v w' => ∃ p, v = .tuple #[.int .i64 g, .pointer (some ⟨p, 0, none⟩), .int .i64 0] ∧ Own (StoreAt p (restamp now S) :: F) w' := by
  have hbl := bodyB_len g S
  have hvl := V_len S.V
  have hlv := hW.volL
  have hL : S.L.length ≤ 2147483647 := by
    have := flat_ge (f := lastB) (k := 12) (fun a => by rw [lastB_len]; omega) S.L
    rw [flat_sum] at this
    unfold volL at hbl
    omega
  have hs := snapOf_lay hW h1 hg (by omega) hL ht
  refine Cl.mono (Read_ok (now := now) H hR hn hnc (by rw [snapB_length]; omega)) ?_
  rintro v w' (⟨q, _⟩ | ⟨_, ⟨e, q, _⟩ | ⟨g', S', p, q, rfl, H⟩⟩)
  · omega
  · rw [hs] at q; cases q
  · rw [hs] at q; cases q; exact ⟨p, rfl, H⟩
theorem example_ok {F : List HP} {w : World} (H : Own F w) :
  Cl Tryz.prog 32 #[] w fun v w' => ∃ ao c ap ak, v = .slice ao 2 c ∧ Own (Os 52 encO (.slice ao 2 c) [ex1 ap ak, ex2] :: Os 88 encP (.slice ap 2 2) [(sA, s1), (sB, s2)] :: Os 9 encS (.slice ak 2 2) [sA, sB] :: F) w' := by
  refine cl_of_cw Tryz.func32 rfl ?_
  simp only [Tryz.ntmps32, envA, List.size_toArray, List.length_cons, List.length_nil, Nat.reduceAdd, Nat.reduceSub]
  refine cw_seq (fun K1 h1 => ?_)
  refine cw_region (lq_run ?_)
  simp (maxSteps := 500000) (decide := true) (disch := omega) only [EV, ↓reduceIte, Nat.reduceAdd, tt32]
  refine lq_nil ?_
  refine h1 _ _ ?_
  refine cw_seq (fun K2 h2 => ?_)
  refine cw_region (lq_run ?_)
  simp (maxSteps := 500000) (decide := true) (disch := omega) only [EV, ↓reduceIte, Nat.reduceAdd, tt32]
  refine lq_bs H rfl rfl (by rfl) rfl (by decide) (fun b3 w H => ?_)
  try simp only [ES] at H
  replace H := H.os encP [(sA, s1), (sB, s2)] rfl rfl
  simp (maxSteps := 500000) (decide := true) (disch := omega) only [EV, ↓reduceIte, Nat.reduceAdd, tt32]
  refine lq_bs H rfl rfl (by rfl) rfl (by decide) (fun b4 w H => ?_)
  try simp only [ES] at H
  replace H := H.os encS [sA, sB] rfl rfl
  simp (maxSteps := 500000) (decide := true) (disch := omega) only [EV, ↓reduceIte, Nat.reduceAdd, tt32]
  refine lq_bs H rfl rfl (by rfl) rfl (by decide) (fun b7 w H => ?_)
  try simp only [ES] at H
  replace H := H.os encO [ex1 (some ⟨b3, 0, none⟩) (some ⟨b4, 0, none⟩), ex2] rfl rfl
  simp (maxSteps := 500000) (decide := true) (disch := omega) only [EV, ↓reduceIte, Nat.reduceAdd, tt32]
  refine lq_nil ?_
  refine h2 _ _ ?_
  refine cw_ret ?_
  try simp (decide := true) only [EX, ↓reduceIte]
  refine ret1 rfl ?_
  exact ⟨_, _, some ⟨b3, 0, none⟩, some ⟨b4, 0, none⟩, rfl, H.wk⟩
end Go.Rp
set_option linter.unusedVariables false
set_option linter.unusedSimpArgs false
set_option maxHeartbeats 1000000
set_option maxRecDepth 100000
namespace Go.Rp
open Go.Proofs
instance iW39_0 : ElT Tryz.prog 48 5 := ElT.mk' (by kernel_rfl)
instance iW39_1 : ElT Tryz.prog 5 1 := ElT.mk' (by kernel_rfl)
instance iW39_2 : ElT Tryz.prog 52 6 := ElT.mk' (by kernel_rfl)
instance iW39_3 : ElT Tryz.prog 88 2 := ElT.mk' (by kernel_rfl)
instance iW39_4 : ElT Tryz.prog 9 1 := ElT.mk' (by kernel_rfl)
instance iW39_5 : FnOk Tryz.prog 11 := ⟨⟨Tryz.f11, Tryz.func11, by kernel_rfl, by kernel_rfl⟩⟩
instance iW39_6 : FnOk Tryz.prog 12 := ⟨⟨Tryz.f12, Tryz.func12, by kernel_rfl, by kernel_rfl⟩⟩
instance iW39_7 : FnOk Tryz.prog 14 := ⟨⟨Tryz.f14, Tryz.func14, by kernel_rfl, by kernel_rfl⟩⟩
instance iW39_8 : FnOk Tryz.prog 32 := ⟨⟨Tryz.f32, Tryz.func32, by kernel_rfl, by kernel_rfl⟩⟩
instance iW39_9 : FnOk Tryz.prog 33 := ⟨⟨Tryz.f33, Tryz.func33, by kernel_rfl, by kernel_rfl⟩⟩
instance iW39_10 : FnOk Tryz.prog 34 := ⟨⟨Tryz.f34, Tryz.func34, by kernel_rfl, by kernel_rfl⟩⟩
instance iW39_11 : FnOk Tryz.prog 7 := ⟨⟨Tryz.f7, Tryz.func7, by kernel_rfl, by kernel_rfl⟩⟩
instance iW39_12 : FnOk Tryz.prog 8 := ⟨⟨Tryz.f8, Tryz.func8, by kernel_rfl, by kernel_rfl⟩⟩
instance iW39_13 : FnOk Tryz.prog 9 := ⟨⟨Tryz.f9, Tryz.func9, by kernel_rfl, by kernel_rfl⟩⟩
instance iW39_14 : SlT Tryz.prog 22 52 := ⟨by kernel_rfl⟩
instance iW39_15 : SlT Tryz.prog 23 5 := ⟨by kernel_rfl⟩
instance iW39_16 : SlT Tryz.prog 34 48 := ⟨by kernel_rfl⟩
instance iW39_17 : SlT Tryz.prog 44 9 := ⟨by kernel_rfl⟩
instance iW39_18 : SlT Tryz.prog 50 88 := ⟨by kernel_rfl⟩
theorem tt6 : (AG Tryz.prog 2 = some false) ∧ (AG Tryz.prog 5 = some false) ∧ (AG Tryz.prog 9 = some false) ∧ (BU Tryz.prog 52 = some ([(.int .i64 0), (.int .u64 0), (.string ByteArray.empty), (.slice none 0 0), (.slice none 0 0), (.int .i64 0)], [(0, 1), (1, 1), (2, 1), (3, 1), (4, 1), (5, 1)])) ∧ (BU Tryz.prog 88 = some ([(.string ByteArray.empty), (.string ByteArray.empty)], [(0, 1), (1, 1)])) ∧ (FO Tryz.prog 46 2 = some 2) ∧ (FO Tryz.prog 48 0 = some 0) ∧ (FO Tryz.prog 48 1 = some 4) ∧ (KD Tryz.prog 25 = some 2) ∧ (LK Tryz.prog 23 = some 1) ∧ (LK Tryz.prog 34 = some 1) ∧ (LK Tryz.prog 39 = some 1) := ⟨by kernel_rfl, by kernel_rfl, by kernel_rfl, by kernel_rfl, by kernel_rfl, by kernel_rfl, by kernel_rfl, by kernel_rfl, by kernel_rfl, by kernel_rfl, by kernel_rfl, by kernel_rfl⟩

theorem rowNil {α : Type} (enc : Enc α) {ao : Option Addr} {L : List HP} : Ent L (Row ao enc []) := fun h _ => ⟨.inl rfl, fun j u hu => by simp at hu⟩
theorem Own.os0 {α : Type} {T : TypeId} {enc : Enc α} {ao : Option Addr} {n c : Nat} {xs : List α} {L : List HP} {w : World} (H : Own (Os T enc (.slice ao n c) xs :: L) w) (sz k : Nat) : subA ao sz 0 k c = ao := (Ent.os _ H).sub0 sz k c
theorem Ent.pref {α : Type} {T : TypeId} {enc : Enc α} {ao : Option Addr} {n c : Nat} {xs : List α} {L : List HP} (k : Nat) (hk : k ≤ c) (h0 : subA ao enc.n 0 k c = ao) : Ent (Os T enc (.slice ao n c) xs :: L) (Row ao enc (xs.take k)) := by
  have := (Ent.os (T := T) (enc := enc) (ao := ao) (n := n) (c := c) (xs := xs) (L := L)).sub 0 k c hk
  rwa [h0, List.drop_zero] at this
theorem len0 : (bodyB 1 ⟨[], []⟩).length = 21 := by rw [bodyB_len]; rfl
theorem snl0 : (snapB 1 ⟨[], []⟩).length = 25 := by rw [snapB_length, len0]
theorem sn0_0 : (snapB 1 ⟨[], []⟩)[0]? = some 114 := by rfl
theorem sn0_12 : (snapB 1 ⟨[], []⟩)[12]? = some 1 := by rfl
theorem sn0_split : snapB 1 ⟨[], []⟩ = bodyB 1 ⟨[], []⟩ ++ [byteI ((crc 0 (bodyB 1 ⟨[], []⟩)).fdiv (2 ^ 24)), byteI ((crc 0 (bodyB 1 ⟨[], []⟩)).fdiv (2 ^ 16)), byteI ((crc 0 (bodyB 1 ⟨[], []⟩)).fdiv (2 ^ 8)), byteI (crc 0 (bodyB 1 ⟨[], []⟩))] := by rw [← beL4]; rfl
theorem sn0_take : (snapB 1 ⟨[], []⟩).take 21 = bodyB 1 ⟨[], []⟩ := List.take_left' len0
theorem sn0_beV : beV [byteI ((crc 0 (bodyB 1 ⟨[], []⟩)).fdiv (2 ^ 24)), byteI ((crc 0 (bodyB 1 ⟨[], []⟩)).fdiv (2 ^ 16)), byteI ((crc 0 (bodyB 1 ⟨[], []⟩)).fdiv (2 ^ 8)), byteI (crc 0 (bodyB 1 ⟨[], []⟩))] = crc 0 (bodyB 1 ⟨[], []⟩) := by
  have h := crc_range 0 (bodyB 1 ⟨[], []⟩)
  rw [← beL4, beV_of h.1 (by have := h.2; omega)]
theorem len7 : (bodyB 7 exS).length = 138 := by rw [bodyB_len]; kernel_rfl
theorem snl7 : (snapB 7 exS).length = 142 := by rw [snapB_length, len7]
theorem exWf : WfS exS := by
  rw [← run_ex none none none none]
  refine WfS.nil.runS _ (fun o ho => ?_)
  simp only [List.mem_cons, List.not_mem_nil, or_false] at ho
  rcases ho with rfl | rfl | rfl | rfl <;> decide
theorem ex9 : (restamp 9 exS).V = [((sA, 65536), ⟨s1, [sA, sB], 9⟩), ((sA, 131072), ⟨s3, [sA], -1⟩), ((sB, 65536), ⟨s2, [sA, sB], -1⟩)] := by kernel_rfl
theorem map3 {α β : Type} {f : α → β} {l : List α} {a b c : β} (h : l.map f = [a, b, c]) : ∃ x y z, l = [x, y, z] ∧ f x = a ∧ f y = b ∧ f z = c := by
  rcases l with _ | ⟨x, _ | ⟨y, _ | ⟨z, _ | ⟨u, l⟩⟩⟩⟩ <;> simp at h
  exact ⟨x, y, z, rfl, h.1, h.2.1, h.2.2⟩

def ex9l (l0 l1 l2 : Option Addr × Nat) : List KT := [(((sA, 65536), ⟨s1, [sA, sB], 9⟩), l0), (((sA, 131072), ⟨s3, [sA], -1⟩), l1), (((sB, 65536), ⟨s2, [sA, sB], -1⟩), l2)]
theorem ex9l_of {l : List KT} (h : l.map (·.1) = (restamp 9 exS).V) : ∃ l0 l1 l2, l = ex9l l0 l1 l2 := by
  rw [ex9] at h
  obtain ⟨⟨f0, l0⟩, ⟨f1, l1⟩, ⟨f2, l2⟩, rfl, rfl, rfl, rfl⟩ := map3 h
  exact ⟨l0, l1, l2, rfl⟩
theorem encB_f8 (c : UInt8) : encB.f c = [.int .u8 c.toNat] := rfl
theorem script4 {L : List HP} {ap ak ap2 ak2 : Option Addr} (h1 : Ent L (Row ap encP [(sA, s1), (sB, s2)])) (h2 : Ent L (Row ak encS [sA, sB])) (h3 : Ent L (Row ap2 encP [(sA, s3)])) (h4 : Ent L (Row ak2 encS [sA])) :
    Script L ([ex1 ap ak, ex2] ++ [ex3 ap2 ak2, ex4]) := by
  refine ⟨fun o ho => ?_, fun o ho => ?_, fun o ho => ?_, Nat.le_of_ble_eq_true rfl⟩
  all_goals
    simp only [List.cons_append, List.nil_append, List.mem_cons, List.not_mem_nil, or_false] at ho
    rcases ho with rfl | rfl | rfl | rfl
  · exact h1
  · exact rowNil encP
  · exact h3
  · exact rowNil encP
  · exact h2
  · exact rowNil encS
  · exact h4
  · exact rowNil encS
  all_goals first | exact ⟨show (0 : Int) ≤ 65536 by decide, show (65536 : Int) < 18446744073709551616 by decide⟩ | exact ⟨show (0 : Int) ≤ 131072 by decide, show (131072 : Int) < 18446744073709551616 by decide⟩
theorem alive_ok {F : List HP} {w : World} (H : Own F w) :
  Cl Tryz.prog 6 #[] w fun v w' => v = .bool true ∧ Own F w' := by
  refine cl_of_cw Tryz.func6 rfl ?_
  simp only [Tryz.ntmps6, envA, List.size_toArray, List.length_cons, List.length_nil, Nat.reduceAdd, Nat.reduceSub]
  refine cw_seq (fun K1 h1 => ?_)
  refine cw_region (lq_run ?_)
  simp (maxSteps := 5000000) (decide := true) (disch := omega) only [EV, ↓reduceIte, Nat.reduceAdd, tt6, encO_f, encK_f, encB_f8]
  refine lq_nil ?_
  refine h1 _ _ ?_
  refine cw_seq (fun K2 h2 => ?_)
  refine cw_region (lq_run ?_)
  simp (maxSteps := 5000000) (decide := true) (disch := omega) only [EV, ↓reduceIte, Nat.reduceAdd, tt6, encO_f, encK_f, encB_f8]
  refine lq_call rfl ?_
  refine Cl.mono (made_ok H (rowNil encO) rfl ⟨by simp, by simp, by simp, by decide⟩ (by simp)) ?_
  rintro _ w ⟨p1, rfl, H⟩
  replace H : Own (StoreAt p1 ⟨[], []⟩ :: F) w := H
  simp (maxSteps := 5000000) (decide := true) (disch := omega) only [EV, ↓reduceIte, Nat.reduceAdd, tt6, encO_f, encK_f, encB_f8]
  refine lq_nil ?_
  refine h2 _ _ ?_
  refine cw_seq (fun K3 h3 => ?_)
  refine cw_region (lq_run ?_)
  simp (maxSteps := 5000000) (decide := true) (disch := omega) only [EV, ↓reduceIte, Nat.reduceAdd, tt6, encO_f, encK_f, encB_f8]
  refine lq_call rfl ?_
  refine Cl.mono (example_ok H) ?_
  rintro _ w ⟨ao0, c0, ap, ak, rfl, H⟩
  simp (maxSteps := 5000000) (decide := true) (disch := omega) only [EV, ↓reduceIte, Nat.reduceAdd, tt6, encO_f, encK_f, encB_f8]
  refine lq_bs H rfl rfl (by rfl) rfl (by decide) (fun b17 w H => ?_)
  try simp only [ES, encO_f, encK_f, encB_f8] at H
  replace H := H.os encP [(sA, s3)] rfl rfl
  simp (maxSteps := 5000000) (decide := true) (disch := omega) only [EV, ↓reduceIte, Nat.reduceAdd, tt6, encO_f, encK_f, encB_f8]
  refine lq_bs H rfl rfl (by rfl) rfl (by decide) (fun b18 w H => ?_)
  try simp only [ES, encO_f, encK_f, encB_f8] at H
  replace H := H.os encS [sA] rfl rfl
  simp (maxSteps := 5000000) (decide := true) (disch := omega) only [EV, ↓reduceIte, Nat.reduceAdd, tt6, encO_f, encK_f, encB_f8]
  refine lq_bs H rfl rfl (by rfl) rfl (by decide) (fun b21 w H => ?_)
  try simp only [ES, encO_f, encK_f, encB_f8] at H
  replace H := H.os encO [ex3 (some ⟨b17, 0, none⟩) (some ⟨b18, 0, none⟩), ex4] rfl rfl
  simp (maxSteps := 5000000) (decide := true) (disch := omega) only [EV, ↓reduceIte, Nat.reduceAdd, tt6, encO_f, encK_f, encB_f8]
  refine lq_appR (enc := encO) (xs := [ex1 ap ak, ex2]) H rfl rfl (Ent.os (L := []) (T := 52) (enc := encO) (n := 2) (c := 2) (xs := [ex3 (some ⟨b17, 0, none⟩) (some ⟨b18, 0, none⟩), ex4])) rfl (show (2 + 2) * 6 ≤ 1099511627776 by decide) (fun ao5 c5 w H => ?_)
  simp (maxSteps := 5000000) (decide := true) (disch := omega) only [EV, ↓reduceIte, Nat.reduceAdd, tt6, encO_f, encK_f, encB_f8]
  refine lq_call rfl ?_
  refine Cl.mono (made_ok H Ent.os rfl (script4 (Ent.up (M := Os 88 encP (.slice ap 2 2) [(sA, s1), (sB, s2)] :: []) Ent.os) (Ent.up (M := Os 9 encS (.slice ak 2 2) [sA, sB] :: []) Ent.os) (Ent.up (M := Os 88 encP (.slice (some ⟨b17, 0, none⟩) 1 1) [(sA, s3)] :: []) Ent.os) (Ent.up (M := Os 9 encS (.slice (some ⟨b18, 0, none⟩) 1 1) [sA] :: []) Ent.os)) (show 4 ≤ 1099511627776 by decide)) ?_
  rintro _ w ⟨p2, rfl, H⟩
  rw [show [ex1 ap ak, ex2] ++ [ex3 (some ⟨b17, 0, none⟩) (some ⟨b18, 0, none⟩), ex4] = [ex1 ap ak, ex2, ex3 (some ⟨b17, 0, none⟩) (some ⟨b18, 0, none⟩), ex4] from rfl, run_ex] at H
  replace H : Own (StoreAt p2 exS :: StoreAt p1 ⟨[], []⟩ :: F) w := H.wk
  simp (maxSteps := 5000000) (decide := true) (disch := omega) only [EV, ↓reduceIte, Nat.reduceAdd, tt6, encO_f, encK_f, encB_f8]
  refine lq_nil ?_
  refine h3 _ _ ?_
  refine cw_seq (fun K4 h4 => ?_)
  refine cw_seq (fun K5 h5 => ?_)
  refine cw_region (lq_run ?_)
  simp (maxSteps := 5000000) (decide := true) (disch := omega) only [EV, ↓reduceIte, Nat.reduceAdd, tt6, encO_f, encK_f, encB_f8]
  refine lq_nil ?_
  refine h5 _ _ ?_
  refine cw_condF rfl ?_
  refine cw_skip ?_
  refine h4 _ _ ?_
  refine cw_seq (fun K6 h6 => ?_)
  refine cw_region (lq_run ?_)
  simp (maxSteps := 5000000) (decide := true) (disch := omega) only [EV, ↓reduceIte, Nat.reduceAdd, tt6, encO_f, encK_f, encB_f8]
  refine lq_call rfl ?_
  refine Cl.mono (Build_good (H.tkR (R := StoreAt) (k := p1)) WfS.nil (by omega) (by omega) (by rw [len0]; omega)) ?_
  rintro _ w ⟨ao1, c1, rfl, H⟩
  rw [snl0] at H ⊢
  have hc1 := H.oscap
  have h01 := H.os0 1 21
  simp (maxSteps := 5000000) (decide := true) (disch := omega) only [EV, ↓reduceIte, Nat.reduceAdd, tt6, encO_f, encK_f, encB_f8]
  refine lq_nil ?_
  refine h6 _ _ ?_
  refine cw_seq (fun K7 h7 => ?_)
  refine cw_seq (fun K8 h8 => ?_)
  refine cw_draw [(0, 0), (1, 0), (2, 0), (3, 0), (4, 0), (5, 0), (6, 0), (7, 0), (8, 0), (9, 0), (10, 1), (11, 0), (12, 0), (13, 0), (14, 0), (15, 0), (16, 1), (17, 0), (18, 0), (19, 0), (20, 0), (22, 0), (23, 0), (21, 3), (24, 3), (25, 3), (26, 0), (27, 0)] rfl (by kernel_rfl) (fun c env w => by simp (decide := true) only [EX, not_false_eq_true]) H (fun w H => ?_)
  have H0 := H
  refine dq_run ?_
  simp (maxSteps := 5000000) (decide := true) (disch := omega) only [EV, ↓reduceIte, Nat.reduceAdd, tt6, encO_f, encK_f, encB_f8]
  refine dq_idx (i' := 0) H0 rfl rfl (Ent.os (L := []) (T := 5) (enc := encB) (n := 25) (c := c1) (xs := snapB 1 ⟨[], []⟩)) (Nat.le_of_eq snl0) rfl sn0_0 ?_
  simp (maxSteps := 5000000) (decide := true) (disch := omega) only [EV, ↓reduceIte, Nat.reduceAdd, tt6, encO_f, encK_f, encB_f8]
  refine dq_loadE H0 rfl (Ent.os (L := []) (T := 5) (enc := encB) (n := 25) (c := c1) (xs := snapB 1 ⟨[], []⟩)) sn0_0 rfl ?_
  simp (maxSteps := 5000000) (decide := true) (disch := omega) only [EV, ↓reduceIte, Nat.reduceAdd, tt6, encO_f, encK_f, encB_f8]
  refine dq_idx (i' := 12) H0 rfl rfl (Ent.os (L := []) (T := 5) (enc := encB) (n := 25) (c := c1) (xs := snapB 1 ⟨[], []⟩)) (Nat.le_of_eq snl0) rfl sn0_12 ?_
  simp (maxSteps := 5000000) (decide := true) (disch := omega) only [EV, ↓reduceIte, Nat.reduceAdd, tt6, encO_f, encK_f, encB_f8]
  refine dq_loadE H0 rfl (Ent.os (L := []) (T := 5) (enc := encB) (n := 25) (c := c1) (xs := snapB 1 ⟨[], []⟩)) sn0_12 rfl ?_
  simp (maxSteps := 5000000) (decide := true) (disch := omega) only [EV, ↓reduceIte, Nat.reduceAdd, tt6, encO_f, encK_f, encB_f8]
  refine dq_sub 0 21 21 rfl rfl ⟨_, _, rfl, rfl⟩ ⟨by omega, by omega, nofun⟩ (by omega) ?_
  rw [h01]
  simp (maxSteps := 5000000) (decide := true) (disch := omega) only [EV, ↓reduceIte, Nat.reduceAdd, tt6, encO_f, encK_f, encB_f8]
  refine dq_act (by decide) rfl ?_
  refine lq_call rfl ?_
  refine Cl.mono (snapSum_ok H (by rw [← sn0_split]; exact Ent.os) (by rw [len0]) (by rw [len0]; omega)) ?_
  rintro _ w ⟨rfl, H⟩
  rw [sn0_beV]
  refine lr_nil ?_
  refine ⟨fun hh => absurd hh (by decide), ?_⟩
  simp (maxSteps := 5000000) (decide := true) (disch := omega) only [EV, ↓reduceIte, Nat.reduceAdd, tt6, encO_f, encK_f, encB_f8]
  refine dq_act (by decide) rfl ?_
  refine lq_call rfl ?_
  refine Cl.mono (own_ok (xs := bodyB 1 ⟨[], []⟩) H (by rw [← sn0_take]; exact (Ent.pref 21 (by omega) h01)) (by rw [len0]) (by rw [len0]; omega)) ?_
  rintro _ w ⟨ao2, c2, rfl, hc2, H⟩
  refine lr_nil ?_
  refine ⟨fun hh => absurd hh (by decide), ?_⟩
  simp (maxSteps := 5000000) (decide := true) (disch := omega) only [EV, ↓reduceIte, Nat.reduceAdd, tt6, encO_f, encK_f, encB_f8]
  refine dq_act (by decide) rfl ?_
  refine lq_call rfl ?_
  refine Cl.mono (Sum_ok H Ent.os rfl (by rw [len0]; omega)) ?_
  rintro _ w ⟨rfl, H⟩
  refine lr_nil ?_
  refine ⟨fun hh => absurd hh (by decide), ?_⟩
  simp (maxSteps := 5000000) (decide := true) (disch := omega) only [EV, ↓reduceIte, Nat.reduceAdd, tt6, encO_f, encK_f, encB_f8]
  refine dq_nil ?_
  refine h8 _ _ ?_
  refine cw_condB rfl (fun c62 => ?_) (fun c62 => ?_)
  · skip
    try simp only [HB] at c62
    refine cw_seq (fun K9 h9 => ?_)
    refine cw_region (lq_run ?_)
    simp (maxSteps := 5000000) (decide := true) (disch := omega) only [EV, ↓reduceIte, Nat.reduceAdd, tt6, encO_f, encK_f, encB_f8]
    refine lq_nil ?_
    refine h9 _ _ ?_
    refine cw_ret ?_
    try simp (decide := true) only [EX, ↓reduceIte]
    refine ret1 rfl ?_
    first | exact ⟨rfl, H.wk⟩ | exact absurd ‹false = true› (by decide)
  · skip
    try simp only [HB] at c62
    refine cw_skip ?_
    refine h7 _ _ ?_
    refine cw_seq (fun K10 h10 => ?_)
    refine cw_region (lq_run ?_)
    simp (maxSteps := 5000000) (decide := true) (disch := omega) only [EV, ↓reduceIte, Nat.reduceAdd, tt6, encO_f, encK_f, encB_f8]
    replace H : Own (StoreAt p2 exS :: F) w := H.wk
    refine lq_call rfl ?_
    refine Cl.mono (Build_good (H.tkR (R := StoreAt) (k := p2)) exWf (by omega) (by omega) (by rw [len7]; omega)) ?_
    rintro _ w ⟨ao3, c3, rfl, H⟩
    rw [snl7] at H ⊢
    have hc3 := H.oscap
    have h03 := H.os0 1 141
    simp (maxSteps := 5000000) (decide := true) (disch := omega) only [EV, ↓reduceIte, Nat.reduceAdd, tt6, encO_f, encK_f, encB_f8]
    refine lq_nil ?_
    refine h10 _ _ ?_
    refine cw_seq (fun K11 h11 => ?_)
    refine cw_region (lq_run ?_)
    simp (maxSteps := 5000000) (decide := true) (disch := omega) only [EV, ↓reduceIte, Nat.reduceAdd, tt6, encO_f, encK_f, encB_f8]
    refine lq_call rfl ?_
    refine Cl.mono (own_ok H Ent.os snl7.symm (by rw [snl7]; omega)) ?_
    rintro _ w ⟨ao4, c4, rfl, hc4, H⟩
    simp (maxSteps := 5000000) (decide := true) (disch := omega) only [EV, ↓reduceIte, Nat.reduceAdd, tt6, encO_f, encK_f, encB_f8]
    refine lq_call rfl ?_
    refine Cl.mono (Read_good H Ent.os rfl hc4 exWf (by omega) (by omega) (by rw [len7]; omega) (by omega)) ?_
    rintro _ w ⟨p3, rfl, H⟩
    replace H : Own (StoreAt p3 (restamp 9 exS) :: Os 5 encB (.slice ao3 142 c3) (snapB 7 exS) :: F) w := H.wk
    simp (maxSteps := 5000000) (decide := true) (disch := omega) only [EV, ↓reduceIte, Nat.reduceAdd, tt6, encO_f, encK_f, encB_f8]
    refine lq_nil ?_
    refine h11 _ _ ?_
    refine cw_seq (fun K12 h12 => ?_)
    refine cw_seq (fun K13 h13 => ?_)
    refine cw_region (lq_run ?_)
    simp (maxSteps := 5000000) (decide := true) (disch := omega) only [EV, ↓reduceIte, Nat.reduceAdd, tt6, encO_f, encK_f, encB_f8]
    refine lq_nil ?_
    refine h13 _ _ ?_
    refine cw_condF rfl ?_
    refine cw_skip ?_
    refine h12 _ _ ?_
    refine cw_seq (fun K14 h14 => ?_)
    refine cw_region (lq_run ?_)
    simp (maxSteps := 5000000) (decide := true) (disch := omega) only [EV, ↓reduceIte, Nat.reduceAdd, tt6, encO_f, encK_f, encB_f8]
    refine lq_call rfl ?_
    refine Cl.mono (Kept_ok (H.tkR (R := StoreAt) (k := p3)) (by rw [ex9]; decide) (by rw [ex9]; intro x hx; simp only [List.mem_cons, List.not_mem_nil, or_false] at hx; rcases hx with rfl | rfl | rfl <;> decide)) ?_
    rintro _ w ⟨l, aoK, cK, rfl, hlV, H⟩
    obtain ⟨l0, l1, l2, rfl⟩ := ex9l_of hlV
    clear hlV
    rw [show (ex9l l0 l1 l2).length = 3 from rfl] at H ⊢
    simp (maxSteps := 5000000) (decide := true) (disch := omega) only [EV, ↓reduceIte, Nat.reduceAdd, tt6, encO_f, encK_f, encB_f8]
    refine lq_nil ?_
    refine h14 _ _ ?_
    refine cw_seq (fun K15 h15 => ?_)
    refine cw_region (lq_run ?_)
    simp (maxSteps := 5000000) (decide := true) (disch := omega) only [EV, ↓reduceIte, Nat.reduceAdd, tt6, encO_f, encK_f, encB_f8]
    refine lq_sub 0 141 141 rfl rfl ⟨_, _, rfl, rfl⟩ ⟨by omega, by omega, nofun⟩ (by omega) ?_
    rw [h03]
    simp (maxSteps := 5000000) (decide := true) (disch := omega) only [EV, ↓reduceIte, Nat.reduceAdd, tt6, encO_f, encK_f, encB_f8]
    have H9 : Own (Os 5 encB (.slice ao3 142 c3) (snapB 7 exS) :: Os 48 encK (.slice aoK 3 cK) (ex9l l0 l1 l2) :: StoreAt p3 (restamp 9 exS) :: F) w := H.wk
    refine lq_call rfl ?_
    refine Cl.mono (own_ok (xs := (snapB 7 exS).take 141) H9 (Ent.pref 141 (by omega) h03) (by rw [List.length_take, snl7]; rfl) (by rw [List.length_take, snl7]; omega)) ?_
    rintro _ w ⟨ao6, c6, rfl, hc6, H⟩
    simp (maxSteps := 5000000) (decide := true) (disch := omega) only [EV, ↓reduceIte, Nat.reduceAdd, tt6, encO_f, encK_f, encB_f8]
    refine lq_call rfl ?_
    refine Cl.mono (Read_ok H Ent.os rfl hc6 (by rw [List.length_take, snl7]; omega)) ?_
    rintro v w hRd
    obtain ⟨rfl, H⟩ : v = .tuple #[.int .i64 0, .pointer none, .int .i64 1] ∧ Own _ w := by
      rcases hRd with ⟨_, e, H⟩ | ⟨⟨q, _⟩, _⟩
      · exact ⟨e, H⟩
      · omega
    clear hRd
    simp (maxSteps := 5000000) (decide := true) (disch := omega) only [EV, ↓reduceIte, Nat.reduceAdd, tt6, encO_f, encK_f, encB_f8]
    refine lq_nil ?_
    refine h15 _ _ ?_
    refine cw_seq (fun K16 h16 => ?_)
    refine cw_region (lq_run ?_)
    simp (maxSteps := 5000000) (decide := true) (disch := omega) only [EV, ↓reduceIte, Nat.reduceAdd, tt6, encO_f, encK_f, encB_f8]
    refine lq_idx (i' := 0) H rfl rfl (Ent.os (L := []) (T := 48) (enc := encK) (n := 3) (c := cK) (xs := ex9l l0 l1 l2)) (Nat.le_refl 3) rfl rfl ?_
    simp (maxSteps := 5000000) (decide := true) (disch := omega) only [EV, ↓reduceIte, Nat.reduceAdd, tt6, encO_f, encK_f, encB_f8]
    refine lq_loadE H rfl (Ent.os (L := []) (T := 48) (enc := encK) (n := 3) (c := cK) (xs := ex9l l0 l1 l2)) rfl rfl ?_
    simp (maxSteps := 5000000) (decide := true) (disch := omega) only [EV, ↓reduceIte, Nat.reduceAdd, tt6, encO_f, encK_f, encB_f8]
    refine lq_idx (i' := 1) H rfl rfl (Ent.os (L := []) (T := 48) (enc := encK) (n := 3) (c := cK) (xs := ex9l l0 l1 l2)) (Nat.le_refl 3) rfl rfl ?_
    simp (maxSteps := 5000000) (decide := true) (disch := omega) only [EV, ↓reduceIte, Nat.reduceAdd, tt6, encO_f, encK_f, encB_f8]
    refine lq_loadE H rfl (Ent.os (L := []) (T := 48) (enc := encK) (n := 3) (c := cK) (xs := ex9l l0 l1 l2)) rfl rfl ?_
    simp (maxSteps := 5000000) (decide := true) (disch := omega) only [EV, ↓reduceIte, Nat.reduceAdd, tt6, encO_f, encK_f, encB_f8]
    refine lq_idx (i' := 0) H rfl rfl (Ent.os (L := []) (T := 48) (enc := encK) (n := 3) (c := cK) (xs := ex9l l0 l1 l2)) (Nat.le_refl 3) rfl rfl ?_
    simp (maxSteps := 5000000) (decide := true) (disch := omega) only [EV, ↓reduceIte, Nat.reduceAdd, tt6, encO_f, encK_f, encB_f8]
    refine lq_loadE H rfl (Ent.os (L := []) (T := 48) (enc := encK) (n := 3) (c := cK) (xs := ex9l l0 l1 l2)) rfl rfl ?_
    simp (maxSteps := 5000000) (decide := true) (disch := omega) only [EV, ↓reduceIte, Nat.reduceAdd, tt6, encO_f, encK_f, encB_f8]
    refine lq_call rfl ?_
    refine Cl.mono (Lasts_ok (H.tkR (R := StoreAt) (k := p3)) (by decide)) ?_
    rintro _ w ⟨aoL, cL, rfl, H⟩
    rw [show (restamp 9 exS).L.length = 2 from rfl]
    simp (maxSteps := 5000000) (decide := true) (disch := omega) only [EV, ↓reduceIte, Nat.reduceAdd, tt6, encO_f, encK_f, encB_f8]
    refine lq_nil ?_
    refine h16 _ _ ?_
    refine cw_ret ?_
    try simp (decide := true) only [EX, ↓reduceIte]
    refine ret1 rfl ?_
    first | exact ⟨rfl, H.wk⟩ | exact absurd ‹false = true› (by decide)
end Go.Rp
