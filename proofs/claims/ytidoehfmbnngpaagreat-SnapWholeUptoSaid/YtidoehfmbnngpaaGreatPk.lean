/-
  What the law compares.
-/
import Derived.Test.YtidoehfmbnngpaaGreatProg
import Derived.Test.YtidoehfmbnngpaaGreatPj
set_option linter.unusedVariables false
set_option linter.unusedSimpArgs false
set_option maxHeartbeats 1000000
set_option maxRecDepth 100000
namespace Go.Rp
open Go.Proofs
instance iW34_0 : ByT Tryz.prog 23 := ⟨⟨5, by kernel_rfl, by kernel_rfl⟩⟩
instance iW34_1 : ElT Tryz.prog 111 2 := ElT.mk' (by kernel_rfl)
instance iW34_2 : ElT Tryz.prog 5 1 := ElT.mk' (by kernel_rfl)
instance iW34_3 : ElT Tryz.prog 9 1 := ElT.mk' (by kernel_rfl)
instance iW34_4 : SlT Tryz.prog 23 5 := ⟨by kernel_rfl⟩
instance iW34_5 : SlT Tryz.prog 39 111 := ⟨by kernel_rfl⟩
instance iW34_6 : SlT Tryz.prog 44 9 := ⟨by kernel_rfl⟩
instance iW34_7 : StT Tryz.prog 9 := ⟨by kernel_rfl⟩
theorem tt8 : (True) := trivial
theorem tt10 : (IKn Tryz.prog 23 = none) ∧ (IKn Tryz.prog 9 = none) := ⟨by kernel_rfl, by kernel_rfl⟩
theorem tt59 : (AG Tryz.prog 9 = some false) ∧ (LK Tryz.prog 44 = some 1) := ⟨by kernel_rfl, by kernel_rfl⟩
theorem tt15 : (AG Tryz.prog 111 = some true) ∧ (LK Tryz.prog 39 = some 1) ∧ (SZ Tryz.prog 111 = some 2) := ⟨by kernel_rfl, by kernel_rfl, by kernel_rfl⟩

theorem g111 : Tryz.prog.eqGuardType Tryz.prog.depth 111 = false := by kernel_rfl
theorem u111 : Tryz.prog.underlying 111 = some (.struct (Tryz.prog.fieldsOf 111)) := by kernel_rfl
theorem s111 : Tryz.prog.stoodInHeld 111 = false := by kernel_rfl
theorem h111 : (Tryz.prog.fieldsOf 111).toList.map (fun f => (decide (f.name ≠ "_"), f.type, f.offset)) = [(true, 9, 0), (true, 43, 1)] := by kernel_rfl
theorem u9 : Tryz.prog.underlying 9 = some .string := by kernel_rfl
theorem u43 : Tryz.prog.underlying 43 = some (.int .u64) := by kernel_rfl
theorem p9 : Tryz.prog.plainKey 9 = true := by kernel_rfl
theorem p43 : Tryz.prog.plainKey 43 = true := by kernel_rfl
theorem eq111 (s : ByteArray) (i : Int) (w : World) : (Op.eqFields 9999 #[.string s, .int .u64 i] #[.string s, .int .u64 i] (Tryz.prog.fieldsOf 111).toList).run Tryz.prog w = .ok true w := by
  have h := h111
  generalize (Tryz.prog.fieldsOf 111).toList = l at h ⊢
  rcases l with _ | ⟨f1, _ | ⟨f2, _ | ⟨f3, l⟩⟩⟩
  · cases h
  · simp at h
  · skip
    simp only [List.map_cons, List.map_nil, List.cons.injEq, Prod.mk.injEq, decide_eq_true_eq, and_true] at h
    obtain ⟨⟨n1, t1, o1⟩, n2, t2, o2⟩ := h
    have q1 : (part 9 #[.string s, .int .u64 i] 0).run Tryz.prog w = .ok (.string s) w := run_part_plain w p9 rfl
    have q2 : (part 43 #[.string s, .int .u64 i] 1).run Tryz.prog w = .ok (.int .u64 i) w := run_part_plain w p43 rfl
    simp only [Op.eqFields, n1, n2, t1, t2, o1, o2, ne_eq, not_false_eq_true, if_true, Sem.run_bind, q1, q2, Result.andThen_ok, run_equalIn_string w 9998 9 s s u9, run_equalIn_int w 9998 43 .u64 .u64 i i u43, beq_self_eq_true, Bool.not_true, Bool.false_eq_true, if_false, Sem.run_pure]
  · simp at h
theorem orV_none (b : Option Value) : orV none b = b := rfl
theorem binV_agg (op : BinOp) (a : Array Value) (v : Value) : binV op (.agg a) v = none := by cases op <;> rfl
theorem nilV_agg (P : Program) (op : BinOp) (t : TypeId) (a : Array Value) (v : Value) : nilV P op t (.agg a) v = none := by cases op <;> rfl
theorem pq_ne111 {N : Nat} {env : Env} {x y : Operand} {s : ByteArray} {i : Int} {dst : Option Tmp} {ty : TypeId} {p : String} {af : Array Edge} (hx : evo env x = some (.agg #[.string s, .int .u64 i])) (hy : evo env y = some (.agg #[.string s, .int .u64 i])) :
    Pq Tryz.prog N env ⟨dst, .binOp .neq 111 x y 111, ty, p, af, none⟩ (.bool false) := by
  intro a hs w
  simp only [execOp, evo_sound hs hx, evo_sound hs hy]
  rw [Sem.run_bind, Sem.run_bind, run_eqGuard_agg w .neq 111 x y _ _ g111, Result.andThen_ok, run_neq_struct, run_equalIn_agg w 9999 111 _ _ u111 s111, eq111]
  rfl

theorem Own.oscap {α : Type} {T : TypeId} {enc : Enc α} {ao : Option Addr} {n c : Nat} {xs : List α} {L : List HP} {w : World} (H : Own (Os T enc (.slice ao n c) xs :: L) w) : n ≤ c := by
  obtain ⟨h1, h2, d, a, b, x, y⟩ := H
  obtain ⟨m, hm, (⟨e, rfl⟩ | ⟨b, cap, cells, e, h, -⟩)⟩ := x.2
  · cases e; exact Nat.zero_le _
  · cases e; exact h
theorem own_ok {ao : Option Addr} {n c : Nat} {xs : List UInt8} {F : List HP} {w : World} (H : Own F w) (hR : Ent F (Row ao encB xs)) (hn : n = xs.length) (hb : xs.length ≤ 1099511627776) :
  Cl Tryz.prog 8 #[.slice ao n c] w fun v w' => ∃ ao' c', v = .slice ao' xs.length c' ∧ xs.length ≤ c' ∧ Own (Os 5 encB (.slice ao' xs.length c') xs :: F) w' := by
  subst hn
  refine cl_of_cw Tryz.func8 rfl ?_
  simp only [Tryz.ntmps8, envA, List.size_toArray, List.length_cons, List.length_nil, Nat.reduceAdd, Nat.reduceSub]
  refine cw_seq (fun K1 h1 => ?_)
  refine cw_region (lq_run ?_)
  simp (maxSteps := 500000) (decide := true) (disch := omega) only [EV, ↓reduceIte, Nat.reduceAdd, tt8]
  refine lq_nil ?_
  refine h1 _ _ ?_
  refine cw_seq (fun K2 h2 => ?_)
  refine cw_region (lq_run ?_)
  simp (maxSteps := 500000) (decide := true) (disch := omega) only [EV, ↓reduceIte, Nat.reduceAdd, tt8]
  refine lq_bs H rfl rfl (by rfl) rfl (by decide) (fun b3 w H => ?_)
  try simp only [ES] at H
  replace H := H.os encB [] rfl rfl
  simp (maxSteps := 500000) (decide := true) (disch := omega) only [EV, ↓reduceIte, Nat.reduceAdd, tt8]
  refine lq_appR (enc := encB) H rfl rfl hR rfl (by rw [show encB.n = 1 from rfl]; simp; omega) (fun ao' c' w H => ?_)
  simp only [List.nil_append, List.length_nil, Nat.zero_add] at H ⊢
  simp (maxSteps := 500000) (decide := true) (disch := omega) only [EV, ↓reduceIte, Nat.reduceAdd, tt8]
  refine lq_nil ?_
  refine h2 _ _ ?_
  refine cw_ret ?_
  try simp (decide := true) only [EX, ↓reduceIte]
  refine ret1 rfl ?_
  exact ⟨ao', c', rfl, H.oscap, H⟩
theorem same_ok {ao ao2 : Option Addr} {n c n2 c2 : Nat} {xs ys : List UInt8} {F : List HP} {w : World} (H : Own F w) (hR : Ent F (Row ao encB xs)) (hn : n = xs.length) (hR2 : Ent F (Row ao2 encB ys)) (hn2 : n2 = ys.length) :
  Cl Tryz.prog 10 #[.slice ao n c, .slice ao2 n2 c2] w fun v w' => v = .bool (decide (xs = ys)) ∧ Own F w' := by
  subst hn
  subst hn2
  refine cl_of_cw Tryz.func10 rfl ?_
  simp only [Tryz.ntmps10, envA, List.size_toArray, List.length_cons, List.length_nil, Nat.reduceAdd, Nat.reduceSub]
  refine cw_seq (fun K1 h1 => ?_)
  refine cw_region (lq_run ?_)
  simp (maxSteps := 500000) (decide := true) (disch := omega) only [EV, ↓reduceIte, Nat.reduceAdd, tt10]
  refine lq_nil ?_
  refine h1 _ _ ?_
  refine cw_seq (fun K2 h2 => ?_)
  refine cw_region (lq_run ?_)
  simp (maxSteps := 500000) (decide := true) (disch := omega) only [EV, ↓reduceIte, Nat.reduceAdd, tt10]
  refine lq_str H rfl hR rfl ?_
  simp (maxSteps := 500000) (decide := true) (disch := omega) only [EV, ↓reduceIte, Nat.reduceAdd, tt10]
  refine lq_str H rfl hR2 rfl ?_
  simp (maxSteps := 500000) (decide := true) (disch := omega) only [EV, ↓reduceIte, Nat.reduceAdd, tt10]
  refine lq_nil ?_
  refine h2 _ _ ?_
  refine cw_ret ?_
  try simp (decide := true) only [EX, ↓reduceIte]
  refine ret1 rfl ?_
  exact ⟨by simp only [bs_eq], H⟩
theorem sameTexts_ok {ao ao2 : Option Addr} {n c n2 c2 : Nat} {xs : List ByteArray} {F : List HP} {w : World} (H : Own F w) (hR : Ent F (Row ao encS xs)) (hn : n = xs.length) (hR2 : Ent F (Row ao2 encS xs)) (hn2 : n2 = xs.length) (hb : xs.length ≤ 1099511627776) :
  Cl Tryz.prog 59 #[.slice ao n c, .slice ao2 n2 c2] w fun v w' => v = .bool true ∧ Own F w' := by
  subst hn
  subst hn2
  refine cl_of_cw Tryz.func59 rfl ?_
  simp only [Tryz.ntmps59, envA, List.size_toArray, List.length_cons, List.length_nil, Nat.reduceAdd, Nat.reduceSub]
  refine cw_seq (fun K1 h1 => ?_)
  refine cw_region (lq_run ?_)
  simp (maxSteps := 500000) (decide := true) (disch := omega) only [EV, ↓reduceIte, Nat.reduceAdd, tt59]
  refine lq_nil ?_
  refine h1 _ _ ?_
  refine cw_seq (fun K2 h2 => ?_)
  refine cw_seq (fun K3 h3 => ?_)
  refine cw_region (lq_run ?_)
  simp (maxSteps := 500000) (decide := true) (disch := omega) only [EV, ↓reduceIte, Nat.reduceAdd, tt59]
  refine lq_nil ?_
  refine h3 _ _ ?_
  refine cw_condB rfl (fun c10 => ?_) (fun c10 => ?_)
  · skip
    try simp only [HB] at c10
    refine cw_seq (fun K4 h4 => ?_)
    refine cw_region (lq_run ?_)
    simp (maxSteps := 500000) (decide := true) (disch := omega) only [EV, ↓reduceIte, Nat.reduceAdd, tt59]
    refine lq_nil ?_
    refine h4 _ _ ?_
    refine cw_ret ?_
    try simp (decide := true) only [EX, ↓reduceIte]
    refine ret1 rfl ?_
    exact absurd trivial c10
  · skip
    try simp only [HB] at c10
    refine cw_skip ?_
    refine h2 _ _ ?_
    refine cw_seq (fun K5 h5 => ?_)
    refine cw_seq (fun K6 h6 => ?_)
    refine cw_region (lq_run ?_)
    simp (maxSteps := 500000) (decide := true) (disch := omega) only [EV, ↓reduceIte, Nat.reduceAdd, tt59]
    refine lq_nil ?_
    refine h6 _ _ ?_
    refine cw_block ?_
    refine cw_loopC (X := List ByteArray × List ByteArray) [(0, _), (1, _)] (fun x => [(5, .int .i64 (x.1.length : Int))]) (fun x w => xs = x.1 ++ x.2 ∧ Own F w) (fun x => x.2.length) ([], xs) (.c rfl (.c rfl .n)) (.c rfl .n) ⟨rfl, H⟩ ?_
    rintro ⟨d, r⟩ w ⟨hd, H⟩
    simp only [List.cons_append, List.nil_append]
    simp only at hd H ⊢
    refine cw_seq (fun K7 h7 => ?_)
    refine cw_seq (fun K8 h8 => ?_)
    refine cw_region (lq_run ?_)
    simp (maxSteps := 500000) (decide := true) (disch := omega) only [EV, ↓reduceIte, Nat.reduceAdd, tt59]
    refine lq_nil ?_
    refine h8 _ _ ?_
    refine cw_condB rfl (fun c14 => ?_) (fun c14 => ?_)
    · skip
      try simp only [HB] at c14
      obtain ⟨s, r2, rfl, he⟩ := zip_more hd c14
      have hdl := congrArg List.length hd
      simp only [List.length_append, List.length_cons] at hdl
      refine cw_skip ?_
      refine h7 _ _ ?_
      refine cw_seq (fun K9 h9 => ?_)
      refine cw_block ?_
      refine cw_seq (fun K10 h10 => ?_)
      refine cw_draw [(0, 0), (1, 0), (2, 0), (3, 1), (4, 0), (5, 0), (6, 0), (7, 1), (8, 0)] rfl (by kernel_rfl) (fun c env w => by simp (decide := true) only [EX, not_false_eq_true]) H (fun w H => ?_)
      have H0 := H
      refine dq_run ?_
      simp (maxSteps := 500000) (decide := true) (disch := omega) only [EV, ↓reduceIte, Nat.reduceAdd, tt59]
      refine dq_idx (i' := d.length) H0 rfl rfl hR (Nat.le_refl _) rfl he ?_
      simp (maxSteps := 500000) (decide := true) (disch := omega) only [EV, ↓reduceIte, Nat.reduceAdd, tt59]
      refine dq_loadE H0 rfl hR he rfl ?_
      simp (maxSteps := 500000) (decide := true) (disch := omega) only [EV, ↓reduceIte, Nat.reduceAdd, tt59]
      refine dq_idx (i' := d.length) H0 rfl rfl hR2 (Nat.le_refl _) rfl he ?_
      simp (maxSteps := 500000) (decide := true) (disch := omega) only [EV, ↓reduceIte, Nat.reduceAdd, tt59]
      refine dq_loadE H0 rfl hR2 he rfl ?_
      simp (maxSteps := 500000) (decide := true) (disch := omega) only [EV, ↓reduceIte, Nat.reduceAdd, tt59]
      refine dq_nil ?_
      refine h10 _ _ ?_
      refine cw_condB rfl (fun c25 => ?_) (fun c25 => ?_)
      · skip
        try simp only [HB] at c25
        refine cw_seq (fun K11 h11 => ?_)
        refine cw_region (lq_run ?_)
        simp (maxSteps := 500000) (decide := true) (disch := omega) only [EV, ↓reduceIte, Nat.reduceAdd, tt59]
        refine lq_nil ?_
        refine h11 _ _ ?_
        refine cw_ret ?_
        try simp (decide := true) only [EX, ↓reduceIte]
        refine ret1 rfl ?_
        exact absurd trivial c25
      · skip
        try simp only [HB] at c25
        refine cw_skip ?_
        refine h9 _ _ ?_
        refine cw_region (lq_run ?_)
        simp (maxSteps := 500000) (decide := true) (disch := omega) only [EV, ↓reduceIte, Nat.reduceAdd, tt59]
        refine lq_nil ?_
        refine Exists.intro (d ++ [s], r2) ⟨⟨(.c (by rw [List.length_append]; rfl) .n), (.c rfl (.c rfl .n))⟩, ⟨by simp [hd], H⟩, (by simp)⟩
    · skip
      try simp only [HB] at c14
      refine cw_exit ?_
      refine h5 _ _ ?_
      refine cw_seq (fun K12 h12 => ?_)
      refine cw_region (lq_run ?_)
      simp (maxSteps := 500000) (decide := true) (disch := omega) only [EV, ↓reduceIte, Nat.reduceAdd, tt59]
      refine lq_nil ?_
      refine h12 _ _ ?_
      refine cw_ret ?_
      try simp (decide := true) only [EX, ↓reduceIte]
      refine ret1 rfl ?_
      exact ⟨rfl, H⟩
theorem sameLasts_ok {ao ao2 : Option Addr} {n c n2 c2 : Nat} {xs : List (ByteArray × Int)} {F : List HP} {w : World} (H : Own F w) (hR : Ent F (Row ao encN xs)) (hn : n = xs.length) (hR2 : Ent F (Row ao2 encN xs)) (hn2 : n2 = xs.length) (hb : xs.length ≤ 1099511627776) :
  Cl Tryz.prog 15 #[.slice ao n c, .slice ao2 n2 c2] w fun v w' => v = .bool true ∧ Own F w' := by
  subst hn
  subst hn2
  refine cl_of_cw Tryz.func15 rfl ?_
  simp only [Tryz.ntmps15, envA, List.size_toArray, List.length_cons, List.length_nil, Nat.reduceAdd, Nat.reduceSub]
  refine cw_seq (fun K1 h1 => ?_)
  refine cw_region (lq_run ?_)
  simp (maxSteps := 500000) (decide := true) (disch := omega) only [EV, ↓reduceIte, Nat.reduceAdd, tt15, encN_f, L2, binV_agg, nilV_agg, orV_none]
  refine lq_nil ?_
  refine h1 _ _ ?_
  refine cw_seq (fun K2 h2 => ?_)
  refine cw_seq (fun K3 h3 => ?_)
  refine cw_region (lq_run ?_)
  simp (maxSteps := 500000) (decide := true) (disch := omega) only [EV, ↓reduceIte, Nat.reduceAdd, tt15, encN_f, L2, binV_agg, nilV_agg, orV_none]
  refine lq_nil ?_
  refine h3 _ _ ?_
  refine cw_condB rfl (fun c10 => ?_) (fun c10 => ?_)
  · skip
    try simp only [HB] at c10
    refine cw_seq (fun K4 h4 => ?_)
    refine cw_region (lq_run ?_)
    simp (maxSteps := 500000) (decide := true) (disch := omega) only [EV, ↓reduceIte, Nat.reduceAdd, tt15, encN_f, L2, binV_agg, nilV_agg, orV_none]
    refine lq_nil ?_
    refine h4 _ _ ?_
    refine cw_ret ?_
    try simp (decide := true) only [EX, ↓reduceIte]
    refine ret1 rfl ?_
    exact absurd trivial c10
  · skip
    try simp only [HB] at c10
    refine cw_skip ?_
    refine h2 _ _ ?_
    refine cw_seq (fun K5 h5 => ?_)
    refine cw_seq (fun K6 h6 => ?_)
    refine cw_region (lq_run ?_)
    simp (maxSteps := 500000) (decide := true) (disch := omega) only [EV, ↓reduceIte, Nat.reduceAdd, tt15, encN_f, L2, binV_agg, nilV_agg, orV_none]
    refine lq_nil ?_
    refine h6 _ _ ?_
    refine cw_block ?_
    refine cw_loopC (X := List (ByteArray × Int) × List (ByteArray × Int)) [(0, _), (1, _)] (fun x => [(5, .int .i64 (x.1.length : Int))]) (fun x w => xs = x.1 ++ x.2 ∧ Own F w) (fun x => x.2.length) ([], xs) (.c rfl (.c rfl .n)) (.c rfl .n) ⟨rfl, H⟩ ?_
    rintro ⟨d, r⟩ w ⟨hd, H⟩
    simp only [List.cons_append, List.nil_append]
    simp only at hd H ⊢
    refine cw_seq (fun K7 h7 => ?_)
    refine cw_seq (fun K8 h8 => ?_)
    refine cw_region (lq_run ?_)
    simp (maxSteps := 500000) (decide := true) (disch := omega) only [EV, ↓reduceIte, Nat.reduceAdd, tt15, encN_f, L2, binV_agg, nilV_agg, orV_none]
    refine lq_nil ?_
    refine h8 _ _ ?_
    refine cw_condB rfl (fun c14 => ?_) (fun c14 => ?_)
    · skip
      try simp only [HB] at c14
      obtain ⟨s, r2, rfl, he⟩ := zip_more hd c14
      have hdl := congrArg List.length hd
      simp only [List.length_append, List.length_cons] at hdl
      refine cw_skip ?_
      refine h7 _ _ ?_
      refine cw_seq (fun K9 h9 => ?_)
      refine cw_block ?_
      refine cw_seq (fun K10 h10 => ?_)
      refine cw_draw [(0, 0), (1, 0), (2, 0), (3, 1), (4, 0), (5, 0), (6, 0), (7, 1), (8, 0)] rfl (by kernel_rfl) (fun c env w => by simp (decide := true) only [EX, not_false_eq_true]) H (fun w H => ?_)
      have H0 := H
      refine dq_run ?_
      simp (maxSteps := 500000) (decide := true) (disch := omega) only [EV, ↓reduceIte, Nat.reduceAdd, tt15, encN_f, L2, binV_agg, nilV_agg, orV_none]
      refine dq_idx (i' := d.length) H0 rfl rfl hR (Nat.le_refl _) rfl he ?_
      simp (maxSteps := 500000) (decide := true) (disch := omega) only [EV, ↓reduceIte, Nat.reduceAdd, tt15, encN_f, L2, binV_agg, nilV_agg, orV_none]
      refine dq_loadE H0 rfl hR he rfl ?_
      simp (maxSteps := 500000) (decide := true) (disch := omega) only [EV, ↓reduceIte, Nat.reduceAdd, tt15, encN_f, L2, binV_agg, nilV_agg, orV_none]
      refine dq_idx (i' := d.length) H0 rfl rfl hR2 (Nat.le_refl _) rfl he ?_
      simp (maxSteps := 500000) (decide := true) (disch := omega) only [EV, ↓reduceIte, Nat.reduceAdd, tt15, encN_f, L2, binV_agg, nilV_agg, orV_none]
      refine dq_loadE H0 rfl hR2 he rfl ?_
      simp (maxSteps := 500000) (decide := true) (disch := omega) only [EV, ↓reduceIte, Nat.reduceAdd, tt15, encN_f, L2, binV_agg, nilV_agg, orV_none]
      refine dq_pq (pq_ne111 rfl rfl) rfl ?_
      simp (maxSteps := 500000) (decide := true) (disch := omega) only [EV, ↓reduceIte, Nat.reduceAdd, tt15, encN_f, L2, binV_agg, nilV_agg, orV_none]
      refine dq_nil ?_
      refine h10 _ _ ?_
      refine cw_condB rfl (fun c25 => ?_) (fun c25 => ?_)
      · skip
        try simp only [HB] at c25
        refine cw_seq (fun K11 h11 => ?_)
        refine cw_region (lq_run ?_)
        simp (maxSteps := 500000) (decide := true) (disch := omega) only [EV, ↓reduceIte, Nat.reduceAdd, tt15, encN_f, L2, binV_agg, nilV_agg, orV_none]
        refine lq_nil ?_
        refine h11 _ _ ?_
        refine cw_ret ?_
        try simp (decide := true) only [EX, ↓reduceIte]
        refine ret1 rfl ?_
        cases c25
      · skip
        try simp only [HB] at c25
        refine cw_skip ?_
        refine h9 _ _ ?_
        refine cw_region (lq_run ?_)
        simp (maxSteps := 500000) (decide := true) (disch := omega) only [EV, ↓reduceIte, Nat.reduceAdd, tt15, encN_f, L2, binV_agg, nilV_agg, orV_none]
        refine lq_nil ?_
        refine Exists.intro (d ++ [s], r2) ⟨⟨(.c (by rw [List.length_append]; rfl) .n), (.c rfl (.c rfl .n))⟩, ⟨by simp [hd], H⟩, (by simp)⟩
    · skip
      try simp only [HB] at c14
      refine cw_exit ?_
      refine h5 _ _ ?_
      refine cw_seq (fun K12 h12 => ?_)
      refine cw_region (lq_run ?_)
      simp (maxSteps := 500000) (decide := true) (disch := omega) only [EV, ↓reduceIte, Nat.reduceAdd, tt15, encN_f, L2, binV_agg, nilV_agg, orV_none]
      refine lq_nil ?_
      refine h12 _ _ ?_
      refine cw_ret ?_
      try simp (decide := true) only [EX, ↓reduceIte]
      refine ret1 rfl ?_
      exact ⟨rfl, H⟩
end Go.Rp
set_option linter.unusedVariables false
set_option linter.unusedSimpArgs false
set_option maxHeartbeats 1000000
set_option maxRecDepth 100000
namespace Go.Rp
open Go.Proofs
instance iW35_0 : ElT Tryz.prog 48 5 := ElT.mk' (by kernel_rfl)
instance iW35_1 : FnOk Tryz.prog 59 := ⟨⟨Tryz.f59, Tryz.func59, by kernel_rfl, by kernel_rfl⟩⟩
instance iW35_2 : SlT Tryz.prog 34 48 := ⟨by kernel_rfl⟩
instance iW35_3 : SzT Tryz.prog 46 4 := ⟨by kernel_rfl⟩
instance iW35_4 : ZvT Tryz.prog 46 (.agg #[(.string ByteArray.empty), (.int .u64 0), (.string ByteArray.empty), (.slice none 0 0)]) := ⟨by kernel_rfl⟩
theorem tt13 : (AG Tryz.prog 2 = some false) ∧ (AG Tryz.prog 43 = some false) ∧ (AG Tryz.prog 44 = some false) ∧ (AG Tryz.prog 46 = some true) ∧ (AG Tryz.prog 9 = some false) ∧ (FO Tryz.prog 46 0 = some 0) ∧ (FO Tryz.prog 46 1 = some 1) ∧ (FO Tryz.prog 46 2 = some 2) ∧ (FO Tryz.prog 46 3 = some 3) ∧ (FO Tryz.prog 48 0 = some 0) ∧ (FO Tryz.prog 48 1 = some 4) ∧ (LK Tryz.prog 34 = some 1) ∧ (SZ Tryz.prog 46 = some 4) := ⟨by kernel_rfl, by kernel_rfl, by kernel_rfl, by kernel_rfl, by kernel_rfl, by kernel_rfl, by kernel_rfl, by kernel_rfl, by kernel_rfl, by kernel_rfl, by kernel_rfl, by kernel_rfl, by kernel_rfl⟩
theorem tt13F : (AG Tryz.prog 2 = some false) ∧ (AG Tryz.prog 43 = some false) ∧ (AG Tryz.prog 44 = some false) ∧ (AG Tryz.prog 46 = some true) ∧ (AG Tryz.prog 9 = some false) ∧ (FO Tryz.prog 46 0 = some 0) ∧ (FO Tryz.prog 46 1 = some 1) ∧ (FO Tryz.prog 46 2 = some 2) ∧ (FO Tryz.prog 46 3 = some 3) ∧ (FO Tryz.prog 48 0 = some 0) ∧ (FO Tryz.prog 48 1 = some 4) ∧ (LK Tryz.prog 34 = some 1) ∧ (SZ Tryz.prog 46 = some 4) := ⟨by kernel_rfl, by kernel_rfl, by kernel_rfl, by kernel_rfl, by kernel_rfl, by kernel_rfl, by kernel_rfl, by kernel_rfl, by kernel_rfl, by kernel_rfl, by kernel_rfl, by kernel_rfl, by kernel_rfl⟩

/-- The same versions, stamps aside. -/
def SameK (x y : KT) : Prop := x.1.1 = y.1.1 ∧ x.1.2.val = y.1.2.val ∧ x.1.2.keys = y.1.2.keys
theorem L4 (a b c d : Value) : List.take 4 [a, b, c, d] = [a, b, c, d] := rfl
theorem sameKeptT_ok {ao ao2 : Option Addr} {n c n2 c2 : Nat} {xs ys : List KT} {F : List HP} {w : World} (H : Own F w) (hR : Ent F (Row ao encK xs)) (hn : n = xs.length) (hR2 : Ent F (Row ao2 encK ys)) (hn2 : n2 = ys.length) (hK : ∀ x ∈ xs, Ent F (Row x.2.1 encS x.1.2.keys)) (hK2 : ∀ x ∈ ys, Ent F (Row x.2.1 encS x.1.2.keys)) (hl : xs.length = ys.length) (hb : xs.length ≤ 1099511627776) (hbk : ∀ x ∈ xs, x.1.2.keys.length ≤ 1099511627776)
  (hs : ∀ (i : Nat) x y, xs[i]? = some x → ys[i]? = some y → SameK x y ∧ x.1.2.stamp = y.1.2.stamp) :
  Cl Tryz.prog 13 #[.slice ao n c, .slice ao2 n2 c2, .bool true] w fun v w' => v = .bool true ∧ Own F w' := by
  subst hn
  subst hn2
  refine cl_of_cw Tryz.func13 rfl ?_
  simp only [Tryz.ntmps13, envA, List.size_toArray, List.length_cons, List.length_nil, Nat.reduceAdd, Nat.reduceSub]
  refine cw_seq (fun K1 h1 => ?_)
  refine cw_region (lq_run ?_)
  simp (maxSteps := 500000) (decide := true) (disch := omega) only [EV, ↓reduceIte, Nat.reduceAdd, tt13, encK_f, L4, L5]
  refine lq_nil ?_
  refine h1 _ _ ?_
  refine cw_seq (fun K2 h2 => ?_)
  refine cw_seq (fun K3 h3 => ?_)
  refine cw_region (lq_run ?_)
  simp (maxSteps := 500000) (decide := true) (disch := omega) only [EV, ↓reduceIte, Nat.reduceAdd, tt13, encK_f, L4, L5]
  refine lq_nil ?_
  refine h3 _ _ ?_
  refine cw_condB rfl (fun c14 => ?_) (fun c14 => ?_)
  · skip
    try simp only [HB] at c14
    refine cw_seq (fun K4 h4 => ?_)
    refine cw_region (lq_run ?_)
    simp (maxSteps := 500000) (decide := true) (disch := omega) only [EV, ↓reduceIte, Nat.reduceAdd, tt13, encK_f, L4, L5]
    refine lq_nil ?_
    refine h4 _ _ ?_
    refine cw_ret ?_
    try simp (decide := true) only [EX, ↓reduceIte]
    refine ret1 rfl ?_
    first | exact ⟨rfl, H⟩ | exact absurd trivial ‹¬True› | (exfalso; omega)
  · skip
    try simp only [HB] at c14
    refine cw_skip ?_
    refine h2 _ _ ?_
    refine cw_seq (fun K5 h5 => ?_)
    refine cw_seq (fun K6 h6 => ?_)
    refine cw_region (lq_run ?_)
    simp (maxSteps := 500000) (decide := true) (disch := omega) only [EV, ↓reduceIte, Nat.reduceAdd, tt13, encK_f, L4, L5]
    refine lq_nil ?_
    refine h6 _ _ ?_
    refine cw_block ?_
    refine cw_loopC (X := List KT × List KT) [(0, _), (1, _), (2, _)] (fun x => [(7, .int .i64 (x.1.length : Int))]) (fun x w => xs = x.1 ++ x.2 ∧ Own F w) (fun x => x.2.length) ([], xs) (.c rfl (.c rfl (.c rfl .n))) (.c rfl .n) ⟨rfl, H⟩ ?_
    rintro ⟨d, r⟩ w ⟨hd, H⟩
    simp only [List.cons_append, List.nil_append]
    simp only at hd H ⊢
    refine cw_seq (fun K7 h7 => ?_)
    refine cw_seq (fun K8 h8 => ?_)
    refine cw_region (lq_run ?_)
    simp (maxSteps := 500000) (decide := true) (disch := omega) only [EV, ↓reduceIte, Nat.reduceAdd, tt13, encK_f, L4, L5]
    refine lq_nil ?_
    refine h8 _ _ ?_
    refine cw_condB rfl (fun c18 => ?_) (fun c18 => ?_)
    · skip
      try simp only [HB] at c18
      obtain ⟨s, r2, rfl, he⟩ := zip_more hd c18
      have hdl := congrArg List.length hd
      simp only [List.length_append, List.length_cons] at hdl
      obtain ⟨s2, he2⟩ : ∃ s2, ys[d.length]? = some s2 := ⟨_, List.getElem?_eq_getElem (by omega)⟩
      have hss := hs d.length s s2 he he2
      have hk1 := hK s (by rw [hd]; simp)
      have hk2 := hK2 s2 (List.mem_of_getElem? he2)
      have hkb := hbk s (by rw [hd]; simp)
      obtain ⟨⟨⟨sk, si⟩, ⟨sv, sks, sst⟩⟩, ⟨sao, sc⟩⟩ := s
      obtain ⟨⟨⟨tk, ti⟩, ⟨tv, tks, tst⟩⟩, ⟨tao, tc⟩⟩ := s2
      obtain ⟨⟨q1, q2, q3⟩, q4⟩ := hss
      simp only at q1 q2 q3 q4 hk1 hk2 hkb
      cases q1; subst q2 q3 q4
      refine cw_skip ?_
      refine h7 _ _ ?_
      refine cw_seq (fun K9 h9 => ?_)
      refine cw_block ?_
      refine cw_seq (fun K10 h10 => ?_)
      refine cw_region (lq_run ?_)
      simp (maxSteps := 500000) (decide := true) (disch := omega) only [EV, ↓reduceIte, Nat.reduceAdd, tt13, encK_f, L4, L5]
      refine lq_idx (i' := d.length) H rfl rfl hR (Nat.le_refl _) rfl he ?_
      simp (maxSteps := 500000) (decide := true) (disch := omega) only [EV, ↓reduceIte, Nat.reduceAdd, tt13, encK_f, L4, L5]
      refine lq_loadE H rfl hR he rfl ?_
      simp (maxSteps := 500000) (decide := true) (disch := omega) only [EV, ↓reduceIte, Nat.reduceAdd, tt13, encK_f, L4, L5]
      refine lq_new H (fun b8 w H => ?_)
      try simp only [ES, encK_f, L4, L5] at H
      simp (maxSteps := 500000) (decide := true) (disch := omega) only [EV, ↓reduceIte, Nat.reduceAdd, tt13, encK_f, L4, L5]
      refine lq_st H rfl rfl rfl (fun w H => ?_)
      try simp only [ES, encK_f, L4, L5] at H
      simp (maxSteps := 500000) (decide := true) (disch := omega) only [EV, ↓reduceIte, Nat.reduceAdd, tt13, encK_f, L4, L5]
      refine lq_nil ?_
      refine h10 _ _ ?_
      refine cw_seq (fun K11 h11 => ?_)
      refine cw_region (lq_run ?_)
      simp (maxSteps := 500000) (decide := true) (disch := omega) only [EV, ↓reduceIte, Nat.reduceAdd, tt13, encK_f, L4, L5]
      refine lq_idx (i' := d.length) H rfl rfl hR2 (by omega) rfl he2 ?_
      simp (maxSteps := 500000) (decide := true) (disch := omega) only [EV, ↓reduceIte, Nat.reduceAdd, tt13, encK_f, L4, L5]
      refine lq_loadE H rfl hR2 he2 rfl ?_
      simp (maxSteps := 500000) (decide := true) (disch := omega) only [EV, ↓reduceIte, Nat.reduceAdd, tt13, encK_f, L4, L5]
      refine lq_new H (fun b9 w H => ?_)
      try simp only [ES, encK_f, L4, L5] at H
      simp (maxSteps := 500000) (decide := true) (disch := omega) only [EV, ↓reduceIte, Nat.reduceAdd, tt13, encK_f, L4, L5]
      refine lq_st H rfl rfl rfl (fun w H => ?_)
      try simp only [ES, encK_f, L4, L5] at H
      simp (maxSteps := 500000) (decide := true) (disch := omega) only [EV, ↓reduceIte, Nat.reduceAdd, tt13, encK_f, L4, L5]
      refine lq_nil ?_
      refine h11 _ _ ?_
      refine cw_seq (fun K12 h12 => ?_)
      refine cw_draw [(0, 0), (1, 1), (2, 0), (3, 1), (4, 0), (5, 0), (6, 0), (7, 1), (8, 0), (9, 1), (10, 0), (11, 0), (12, 0), (13, 0), (14, 1), (15, 0), (16, 1), (17, 0), (18, 0), (19, 0), (20, 0), (21, 1), (22, 0), (23, 1), (24, 2), (25, 0), (26, 0), (27, 0), (28, 0), (29, 0), (30, 0), (31, 0), (32, 0), (33, 0), (34, 1), (35, 0), (36, 0), (37, 0), (38, 0), (39, 1), (40, 0), (41, 0), (42, 0)] rfl (by kernel_rfl) (fun c env w => by simp (decide := true) only [EX, not_false_eq_true]) H (fun w H => ?_)
      have H0 := H
      refine dq_run ?_
      simp (maxSteps := 500000) (decide := true) (disch := omega) only [EV, ↓reduceIte, Nat.reduceAdd, tt13, encK_f, L4, L5]
      refine dq_load H0 rfl ?_
      simp (maxSteps := 500000) (decide := true) (disch := omega) only [EV, ↓reduceIte, Nat.reduceAdd, tt13, encK_f, L4, L5]
      refine dq_load H0 rfl ?_
      simp (maxSteps := 500000) (decide := true) (disch := omega) only [EV, ↓reduceIte, Nat.reduceAdd, tt13, encK_f, L4, L5]
      refine dq_G (fun g36 => ?_) (fun g36 => ?_)
      · try simp only [HB] at g36
        simp (maxSteps := 500000) (decide := true) (disch := omega) only [EV, ↓reduceIte, Nat.reduceAdd, tt13, encK_f, L4, L5]
        refine dq_skip H0 rfl rfl rfl rfl ?_
        simp (maxSteps := 500000) (decide := true) (disch := omega) only [EV, ↓reduceIte, Nat.reduceAdd, tt13, encK_f, L4, L5]
        refine dq_skip H0 rfl rfl rfl rfl ?_
        simp (maxSteps := 500000) (decide := true) (disch := omega) only [EV, ↓reduceIte, Nat.reduceAdd, tt13, encK_f, L4, L5]
        refine dq_skip H0 rfl rfl rfl rfl ?_
        simp (maxSteps := 500000) (decide := true) (disch := omega) only [EV, ↓reduceIte, Nat.reduceAdd, tt13, encK_f, L4, L5]
        refine dq_skip H0 rfl rfl rfl rfl ?_
        simp (maxSteps := 500000) (decide := true) (disch := omega) only [EV, ↓reduceIte, Nat.reduceAdd, tt13, encK_f, L4, L5]
        refine dq_skip H0 rfl rfl rfl rfl ?_
        simp (maxSteps := 500000) (decide := true) (disch := omega) only [EV, ↓reduceIte, Nat.reduceAdd, tt13, encK_f, L4, L5]
        refine dq_skip H0 rfl rfl rfl rfl ?_
        simp (maxSteps := 500000) (decide := true) (disch := omega) only [EV, ↓reduceIte, Nat.reduceAdd, tt13, encK_f, L4, L5]
        refine dq_skipA rfl (fun _ => H0) rfl rfl rfl rfl ?_
        simp (maxSteps := 500000) (decide := true) (disch := omega) only [EV, ↓reduceIte, Nat.reduceAdd, tt13, encK_f, L4, L5]
        refine dq_skip H0 rfl rfl rfl rfl ?_
        simp (maxSteps := 500000) (decide := true) (disch := omega) only [EV, ↓reduceIte, Nat.reduceAdd, tt13, encK_f, L4, L5]
        refine dq_skip H0 rfl rfl rfl rfl ?_
        simp (maxSteps := 500000) (decide := true) (disch := omega) only [EV, ↓reduceIte, Nat.reduceAdd, tt13, encK_f, L4, L5]
        refine dq_nil ?_
        refine h12 _ _ ?_
        refine cw_condT rfl ?_
        refine cw_seq (fun K13 h13 => ?_)
        refine cw_region (lq_run ?_)
        simp (maxSteps := 500000) (decide := true) (disch := omega) only [EV, ↓reduceIte, Nat.reduceAdd, tt13, encK_f, L4, L5]
        refine lq_nil ?_
        refine h13 _ _ ?_
        refine cw_ret ?_
        try simp (decide := true) only [EX, ↓reduceIte]
        refine ret1 rfl ?_
        first | exact ⟨rfl, H⟩ | exact absurd trivial ‹¬True› | (exfalso; omega)
      · try simp only [HB] at g36
        simp (maxSteps := 500000) (decide := true) (disch := omega) only [EV, ↓reduceIte, Nat.reduceAdd, tt13, encK_f, L4, L5]
        refine dq_load H0 rfl ?_
        simp (maxSteps := 500000) (decide := true) (disch := omega) only [EV, ↓reduceIte, Nat.reduceAdd, tt13, encK_f, L4, L5]
        refine dq_load H0 rfl ?_
        simp (maxSteps := 500000) (decide := true) (disch := omega) only [EV, ↓reduceIte, Nat.reduceAdd, tt13, encK_f, L4, L5]
        refine dq_G (fun g43 => ?_) (fun g43 => ?_)
        · try simp only [HB] at g43
          simp (maxSteps := 500000) (decide := true) (disch := omega) only [EV, ↓reduceIte, Nat.reduceAdd, tt13, encK_f, L4, L5]
          refine dq_skip H0 rfl rfl rfl rfl ?_
          simp (maxSteps := 500000) (decide := true) (disch := omega) only [EV, ↓reduceIte, Nat.reduceAdd, tt13, encK_f, L4, L5]
          refine dq_skip H0 rfl rfl rfl rfl ?_
          simp (maxSteps := 500000) (decide := true) (disch := omega) only [EV, ↓reduceIte, Nat.reduceAdd, tt13, encK_f, L4, L5]
          refine dq_skip H0 rfl rfl rfl rfl ?_
          simp (maxSteps := 500000) (decide := true) (disch := omega) only [EV, ↓reduceIte, Nat.reduceAdd, tt13, encK_f, L4, L5]
          refine dq_skip H0 rfl rfl rfl rfl ?_
          simp (maxSteps := 500000) (decide := true) (disch := omega) only [EV, ↓reduceIte, Nat.reduceAdd, tt13, encK_f, L4, L5]
          refine dq_skipA rfl (fun _ => H0) rfl rfl rfl rfl ?_
          simp (maxSteps := 500000) (decide := true) (disch := omega) only [EV, ↓reduceIte, Nat.reduceAdd, tt13, encK_f, L4, L5]
          refine dq_skip H0 rfl rfl rfl rfl ?_
          simp (maxSteps := 500000) (decide := true) (disch := omega) only [EV, ↓reduceIte, Nat.reduceAdd, tt13, encK_f, L4, L5]
          refine dq_skip H0 rfl rfl rfl rfl ?_
          simp (maxSteps := 500000) (decide := true) (disch := omega) only [EV, ↓reduceIte, Nat.reduceAdd, tt13, encK_f, L4, L5]
          refine dq_nil ?_
          refine h12 _ _ ?_
          refine cw_condT rfl ?_
          refine cw_seq (fun K14 h14 => ?_)
          refine cw_region (lq_run ?_)
          simp (maxSteps := 500000) (decide := true) (disch := omega) only [EV, ↓reduceIte, Nat.reduceAdd, tt13, encK_f, L4, L5]
          refine lq_nil ?_
          refine h14 _ _ ?_
          refine cw_ret ?_
          try simp (decide := true) only [EX, ↓reduceIte]
          refine ret1 rfl ?_
          first | exact ⟨rfl, H⟩ | exact absurd trivial ‹¬True› | (exfalso; omega)
        · try simp only [HB] at g43
          simp (maxSteps := 500000) (decide := true) (disch := omega) only [EV, ↓reduceIte, Nat.reduceAdd, tt13, encK_f, L4, L5]
          refine dq_load H0 rfl ?_
          simp (maxSteps := 500000) (decide := true) (disch := omega) only [EV, ↓reduceIte, Nat.reduceAdd, tt13, encK_f, L4, L5]
          refine dq_load H0 rfl ?_
          simp (maxSteps := 500000) (decide := true) (disch := omega) only [EV, ↓reduceIte, Nat.reduceAdd, tt13, encK_f, L4, L5]
          refine dq_G (fun g50 => ?_) (fun g50 => ?_)
          · try simp only [HB] at g50
            simp (maxSteps := 500000) (decide := true) (disch := omega) only [EV, ↓reduceIte, Nat.reduceAdd, tt13, encK_f, L4, L5]
            refine dq_skip H0 rfl rfl rfl rfl ?_
            simp (maxSteps := 500000) (decide := true) (disch := omega) only [EV, ↓reduceIte, Nat.reduceAdd, tt13, encK_f, L4, L5]
            refine dq_skip H0 rfl rfl rfl rfl ?_
            simp (maxSteps := 500000) (decide := true) (disch := omega) only [EV, ↓reduceIte, Nat.reduceAdd, tt13, encK_f, L4, L5]
            refine dq_skipA rfl (fun _ => H0) rfl rfl rfl rfl ?_
            simp (maxSteps := 500000) (decide := true) (disch := omega) only [EV, ↓reduceIte, Nat.reduceAdd, tt13, encK_f, L4, L5]
            refine dq_skip H0 rfl rfl rfl rfl ?_
            simp (maxSteps := 500000) (decide := true) (disch := omega) only [EV, ↓reduceIte, Nat.reduceAdd, tt13, encK_f, L4, L5]
            refine dq_skip H0 rfl rfl rfl rfl ?_
            simp (maxSteps := 500000) (decide := true) (disch := omega) only [EV, ↓reduceIte, Nat.reduceAdd, tt13, encK_f, L4, L5]
            refine dq_nil ?_
            refine h12 _ _ ?_
            refine cw_condT rfl ?_
            refine cw_seq (fun K15 h15 => ?_)
            refine cw_region (lq_run ?_)
            simp (maxSteps := 500000) (decide := true) (disch := omega) only [EV, ↓reduceIte, Nat.reduceAdd, tt13, encK_f, L4, L5]
            refine lq_nil ?_
            refine h15 _ _ ?_
            refine cw_ret ?_
            try simp (decide := true) only [EX, ↓reduceIte]
            refine ret1 rfl ?_
            first | exact ⟨rfl, H⟩ | exact absurd trivial ‹¬True› | (exfalso; omega)
          · try simp only [HB] at g50
            simp (maxSteps := 500000) (decide := true) (disch := omega) only [EV, ↓reduceIte, Nat.reduceAdd, tt13, encK_f, L4, L5]
            refine dq_load H0 rfl ?_
            simp (maxSteps := 500000) (decide := true) (disch := omega) only [EV, ↓reduceIte, Nat.reduceAdd, tt13, encK_f, L4, L5]
            refine dq_load H0 rfl ?_
            simp (maxSteps := 500000) (decide := true) (disch := omega) only [EV, ↓reduceIte, Nat.reduceAdd, tt13, encK_f, L4, L5]
            refine dq_act (by decide) rfl ?_
            refine lq_call rfl ?_
            refine Cl.mono (sameTexts_ok H hk1.up rfl hk2.up rfl hkb) ?_
            rintro _ w ⟨rfl, H⟩
            refine lr_nil ?_
            replace H0 := H.wkTo H0
            refine ⟨fun _ => H0, ?_⟩
            simp (maxSteps := 500000) (decide := true) (disch := omega) only [EV, ↓reduceIte, Nat.reduceAdd, tt13, encK_f, L4, L5]
            refine dq_idx (i' := d.length) H0 rfl rfl hR (Nat.le_refl _) rfl he ?_
            simp (maxSteps := 500000) (decide := true) (disch := omega) only [EV, ↓reduceIte, Nat.reduceAdd, tt13, encK_f, L4, L5]
            refine dq_loadE H0 rfl hR he rfl ?_
            simp (maxSteps := 500000) (decide := true) (disch := omega) only [EV, ↓reduceIte, Nat.reduceAdd, tt13, encK_f, L4, L5]
            refine dq_idx (i' := d.length) H0 rfl rfl hR2 (by omega) rfl he2 ?_
            simp (maxSteps := 500000) (decide := true) (disch := omega) only [EV, ↓reduceIte, Nat.reduceAdd, tt13, encK_f, L4, L5]
            refine dq_loadE H0 rfl hR2 he2 rfl ?_
            simp (maxSteps := 500000) (decide := true) (disch := omega) only [EV, ↓reduceIte, Nat.reduceAdd, tt13, encK_f, L4, L5]
            refine dq_nil ?_
            refine h12 _ _ ?_
            refine cw_condB rfl (fun c73 => ?_) (fun c73 => ?_)
            · skip
              try simp only [HB] at c73
              refine cw_seq (fun K16 h16 => ?_)
              refine cw_region (lq_run ?_)
              simp (maxSteps := 500000) (decide := true) (disch := omega) only [EV, ↓reduceIte, Nat.reduceAdd, tt13, encK_f, L4, L5]
              refine lq_nil ?_
              refine h16 _ _ ?_
              refine cw_ret ?_
              try simp (decide := true) only [EX, ↓reduceIte]
              refine ret1 rfl ?_
              first | exact ⟨rfl, H⟩ | exact absurd trivial ‹¬True› | (exfalso; omega)
            · skip
              try simp only [HB] at c73
              refine cw_skip ?_
              refine h9 _ _ ?_
              refine cw_region (lq_run ?_)
              simp (maxSteps := 500000) (decide := true) (disch := omega) only [EV, ↓reduceIte, Nat.reduceAdd, tt13, encK_f, L4, L5]
              refine lq_nil ?_
              refine Exists.intro (d ++ [(((sk, si), ⟨sv, sks, sst⟩), (sao, sc))], r2) ⟨⟨(.c (by rw [List.length_append]; rfl) .n), (.c rfl (.c rfl (.c rfl .n)))⟩, ⟨by simp [hd], H.wk⟩, (by simp)⟩
    · skip
      try simp only [HB] at c18
      refine cw_exit ?_
      refine h5 _ _ ?_
      refine cw_seq (fun K17 h17 => ?_)
      refine cw_region (lq_run ?_)
      simp (maxSteps := 500000) (decide := true) (disch := omega) only [EV, ↓reduceIte, Nat.reduceAdd, tt13, encK_f, L4, L5]
      refine lq_nil ?_
      refine h17 _ _ ?_
      refine cw_ret ?_
      try simp (decide := true) only [EX, ↓reduceIte]
      refine ret1 rfl ?_
      first | exact ⟨rfl, H⟩ | exact absurd trivial ‹¬True› | (exfalso; omega)
theorem sameKeptF_ok {ao ao2 : Option Addr} {n c n2 c2 : Nat} {xs ys : List KT} {F : List HP} {w : World} (H : Own F w) (hR : Ent F (Row ao encK xs)) (hn : n = xs.length) (hR2 : Ent F (Row ao2 encK ys)) (hn2 : n2 = ys.length) (hK : ∀ x ∈ xs, Ent F (Row x.2.1 encS x.1.2.keys)) (hK2 : ∀ x ∈ ys, Ent F (Row x.2.1 encS x.1.2.keys)) (hl : xs.length = ys.length) (hb : xs.length ≤ 1099511627776) (hbk : ∀ x ∈ xs, x.1.2.keys.length ≤ 1099511627776)
  (hs : ∀ (i : Nat) x y, xs[i]? = some x → ys[i]? = some y → SameK x y) :
  Cl Tryz.prog 13 #[.slice ao n c, .slice ao2 n2 c2, .bool false] w fun v w' => v = .bool true ∧ Own F w' := by
  subst hn
  subst hn2
  refine cl_of_cw Tryz.func13 rfl ?_
  simp only [Tryz.ntmps13, envA, List.size_toArray, List.length_cons, List.length_nil, Nat.reduceAdd, Nat.reduceSub]
  refine cw_seq (fun K1 h1 => ?_)
  refine cw_region (lq_run ?_)
  simp (maxSteps := 500000) (decide := true) (disch := omega) only [EV, ↓reduceIte, Nat.reduceAdd, tt13F, encK_f, L4, L5]
  refine lq_nil ?_
  refine h1 _ _ ?_
  refine cw_seq (fun K2 h2 => ?_)
  refine cw_seq (fun K3 h3 => ?_)
  refine cw_region (lq_run ?_)
  simp (maxSteps := 500000) (decide := true) (disch := omega) only [EV, ↓reduceIte, Nat.reduceAdd, tt13F, encK_f, L4, L5]
  refine lq_nil ?_
  refine h3 _ _ ?_
  refine cw_condB rfl (fun c14 => ?_) (fun c14 => ?_)
  · skip
    try simp only [HB] at c14
    refine cw_seq (fun K4 h4 => ?_)
    refine cw_region (lq_run ?_)
    simp (maxSteps := 500000) (decide := true) (disch := omega) only [EV, ↓reduceIte, Nat.reduceAdd, tt13F, encK_f, L4, L5]
    refine lq_nil ?_
    refine h4 _ _ ?_
    refine cw_ret ?_
    try simp (decide := true) only [EX, ↓reduceIte]
    refine ret1 rfl ?_
    first | exact ⟨rfl, H⟩ | exact absurd trivial ‹¬True› | (exfalso; omega)
  · skip
    try simp only [HB] at c14
    refine cw_skip ?_
    refine h2 _ _ ?_
    refine cw_seq (fun K5 h5 => ?_)
    refine cw_seq (fun K6 h6 => ?_)
    refine cw_region (lq_run ?_)
    simp (maxSteps := 500000) (decide := true) (disch := omega) only [EV, ↓reduceIte, Nat.reduceAdd, tt13F, encK_f, L4, L5]
    refine lq_nil ?_
    refine h6 _ _ ?_
    refine cw_block ?_
    refine cw_loopC (X := List KT × List KT) [(0, _), (1, _), (2, _)] (fun x => [(7, .int .i64 (x.1.length : Int))]) (fun x w => xs = x.1 ++ x.2 ∧ Own F w) (fun x => x.2.length) ([], xs) (.c rfl (.c rfl (.c rfl .n))) (.c rfl .n) ⟨rfl, H⟩ ?_
    rintro ⟨d, r⟩ w ⟨hd, H⟩
    simp only [List.cons_append, List.nil_append]
    simp only at hd H ⊢
    refine cw_seq (fun K7 h7 => ?_)
    refine cw_seq (fun K8 h8 => ?_)
    refine cw_region (lq_run ?_)
    simp (maxSteps := 500000) (decide := true) (disch := omega) only [EV, ↓reduceIte, Nat.reduceAdd, tt13F, encK_f, L4, L5]
    refine lq_nil ?_
    refine h8 _ _ ?_
    refine cw_condB rfl (fun c18 => ?_) (fun c18 => ?_)
    · skip
      try simp only [HB] at c18
      obtain ⟨s, r2, rfl, he⟩ := zip_more hd c18
      have hdl := congrArg List.length hd
      simp only [List.length_append, List.length_cons] at hdl
      obtain ⟨s2, he2⟩ : ∃ s2, ys[d.length]? = some s2 := ⟨_, List.getElem?_eq_getElem (by omega)⟩
      have hss := hs d.length s s2 he he2
      have hk1 := hK s (by rw [hd]; simp)
      have hk2 := hK2 s2 (List.mem_of_getElem? he2)
      have hkb := hbk s (by rw [hd]; simp)
      obtain ⟨⟨⟨sk, si⟩, ⟨sv, sks, sst⟩⟩, ⟨sao, sc⟩⟩ := s
      obtain ⟨⟨⟨tk, ti⟩, ⟨tv, tks, tst⟩⟩, ⟨tao, tc⟩⟩ := s2
      obtain ⟨q1, q2, q3⟩ := hss
      simp only at q1 q2 q3 hk1 hk2 hkb
      cases q1; subst q2 q3
      refine cw_skip ?_
      refine h7 _ _ ?_
      refine cw_seq (fun K9 h9 => ?_)
      refine cw_block ?_
      refine cw_seq (fun K10 h10 => ?_)
      refine cw_region (lq_run ?_)
      simp (maxSteps := 500000) (decide := true) (disch := omega) only [EV, ↓reduceIte, Nat.reduceAdd, tt13F, encK_f, L4, L5]
      refine lq_idx (i' := d.length) H rfl rfl hR (Nat.le_refl _) rfl he ?_
      simp (maxSteps := 500000) (decide := true) (disch := omega) only [EV, ↓reduceIte, Nat.reduceAdd, tt13F, encK_f, L4, L5]
      refine lq_loadE H rfl hR he rfl ?_
      simp (maxSteps := 500000) (decide := true) (disch := omega) only [EV, ↓reduceIte, Nat.reduceAdd, tt13F, encK_f, L4, L5]
      refine lq_new H (fun b8 w H => ?_)
      try simp only [ES, encK_f, L4, L5] at H
      simp (maxSteps := 500000) (decide := true) (disch := omega) only [EV, ↓reduceIte, Nat.reduceAdd, tt13F, encK_f, L4, L5]
      refine lq_st H rfl rfl rfl (fun w H => ?_)
      try simp only [ES, encK_f, L4, L5] at H
      simp (maxSteps := 500000) (decide := true) (disch := omega) only [EV, ↓reduceIte, Nat.reduceAdd, tt13F, encK_f, L4, L5]
      refine lq_nil ?_
      refine h10 _ _ ?_
      refine cw_seq (fun K11 h11 => ?_)
      refine cw_region (lq_run ?_)
      simp (maxSteps := 500000) (decide := true) (disch := omega) only [EV, ↓reduceIte, Nat.reduceAdd, tt13F, encK_f, L4, L5]
      refine lq_idx (i' := d.length) H rfl rfl hR2 (by omega) rfl he2 ?_
      simp (maxSteps := 500000) (decide := true) (disch := omega) only [EV, ↓reduceIte, Nat.reduceAdd, tt13F, encK_f, L4, L5]
      refine lq_loadE H rfl hR2 he2 rfl ?_
      simp (maxSteps := 500000) (decide := true) (disch := omega) only [EV, ↓reduceIte, Nat.reduceAdd, tt13F, encK_f, L4, L5]
      refine lq_new H (fun b9 w H => ?_)
      try simp only [ES, encK_f, L4, L5] at H
      simp (maxSteps := 500000) (decide := true) (disch := omega) only [EV, ↓reduceIte, Nat.reduceAdd, tt13F, encK_f, L4, L5]
      refine lq_st H rfl rfl rfl (fun w H => ?_)
      try simp only [ES, encK_f, L4, L5] at H
      simp (maxSteps := 500000) (decide := true) (disch := omega) only [EV, ↓reduceIte, Nat.reduceAdd, tt13F, encK_f, L4, L5]
      refine lq_nil ?_
      refine h11 _ _ ?_
      refine cw_seq (fun K12 h12 => ?_)
      refine cw_draw [(0, 0), (1, 1), (2, 0), (3, 1), (4, 0), (5, 0), (6, 0), (7, 1), (8, 0), (9, 1), (10, 0), (11, 0), (12, 0), (13, 0), (14, 1), (15, 0), (16, 1), (17, 0), (18, 0), (19, 0), (20, 0), (21, 1), (22, 0), (23, 1), (24, 2), (25, 0), (26, 0), (27, 0), (28, 0), (29, 0), (30, 0), (31, 0), (32, 0), (33, 0), (34, 1), (35, 0), (36, 0), (37, 0), (38, 0), (39, 1), (40, 0), (41, 0), (42, 0)] rfl (by kernel_rfl) (fun c env w => by simp (decide := true) only [EX, not_false_eq_true]) H (fun w H => ?_)
      have H0 := H
      refine dq_run ?_
      simp (maxSteps := 500000) (decide := true) (disch := omega) only [EV, ↓reduceIte, Nat.reduceAdd, tt13F, encK_f, L4, L5]
      refine dq_load H0 rfl ?_
      simp (maxSteps := 500000) (decide := true) (disch := omega) only [EV, ↓reduceIte, Nat.reduceAdd, tt13F, encK_f, L4, L5]
      refine dq_load H0 rfl ?_
      simp (maxSteps := 500000) (decide := true) (disch := omega) only [EV, ↓reduceIte, Nat.reduceAdd, tt13F, encK_f, L4, L5]
      refine dq_G (fun g36 => ?_) (fun g36 => ?_)
      · try simp only [HB] at g36
        simp (maxSteps := 500000) (decide := true) (disch := omega) only [EV, ↓reduceIte, Nat.reduceAdd, tt13F, encK_f, L4, L5]
        refine dq_skip H0 rfl rfl rfl rfl ?_
        simp (maxSteps := 500000) (decide := true) (disch := omega) only [EV, ↓reduceIte, Nat.reduceAdd, tt13F, encK_f, L4, L5]
        refine dq_skip H0 rfl rfl rfl rfl ?_
        simp (maxSteps := 500000) (decide := true) (disch := omega) only [EV, ↓reduceIte, Nat.reduceAdd, tt13F, encK_f, L4, L5]
        refine dq_skip H0 rfl rfl rfl rfl ?_
        simp (maxSteps := 500000) (decide := true) (disch := omega) only [EV, ↓reduceIte, Nat.reduceAdd, tt13F, encK_f, L4, L5]
        refine dq_skip H0 rfl rfl rfl rfl ?_
        simp (maxSteps := 500000) (decide := true) (disch := omega) only [EV, ↓reduceIte, Nat.reduceAdd, tt13F, encK_f, L4, L5]
        refine dq_skip H0 rfl rfl rfl rfl ?_
        simp (maxSteps := 500000) (decide := true) (disch := omega) only [EV, ↓reduceIte, Nat.reduceAdd, tt13F, encK_f, L4, L5]
        refine dq_skip H0 rfl rfl rfl rfl ?_
        simp (maxSteps := 500000) (decide := true) (disch := omega) only [EV, ↓reduceIte, Nat.reduceAdd, tt13F, encK_f, L4, L5]
        refine dq_skipA rfl (fun _ => H0) rfl rfl rfl rfl ?_
        simp (maxSteps := 500000) (decide := true) (disch := omega) only [EV, ↓reduceIte, Nat.reduceAdd, tt13F, encK_f, L4, L5]
        refine dq_skip H0 rfl rfl rfl rfl ?_
        simp (maxSteps := 500000) (decide := true) (disch := omega) only [EV, ↓reduceIte, Nat.reduceAdd, tt13F, encK_f, L4, L5]
        refine dq_skip H0 rfl rfl rfl rfl ?_
        simp (maxSteps := 500000) (decide := true) (disch := omega) only [EV, ↓reduceIte, Nat.reduceAdd, tt13F, encK_f, L4, L5]
        refine dq_nil ?_
        refine h12 _ _ ?_
        refine cw_condT rfl ?_
        refine cw_seq (fun K13 h13 => ?_)
        refine cw_region (lq_run ?_)
        simp (maxSteps := 500000) (decide := true) (disch := omega) only [EV, ↓reduceIte, Nat.reduceAdd, tt13F, encK_f, L4, L5]
        refine lq_nil ?_
        refine h13 _ _ ?_
        refine cw_ret ?_
        try simp (decide := true) only [EX, ↓reduceIte]
        refine ret1 rfl ?_
        first | exact ⟨rfl, H⟩ | exact absurd trivial ‹¬True› | (exfalso; omega)
      · try simp only [HB] at g36
        simp (maxSteps := 500000) (decide := true) (disch := omega) only [EV, ↓reduceIte, Nat.reduceAdd, tt13F, encK_f, L4, L5]
        refine dq_load H0 rfl ?_
        simp (maxSteps := 500000) (decide := true) (disch := omega) only [EV, ↓reduceIte, Nat.reduceAdd, tt13F, encK_f, L4, L5]
        refine dq_load H0 rfl ?_
        simp (maxSteps := 500000) (decide := true) (disch := omega) only [EV, ↓reduceIte, Nat.reduceAdd, tt13F, encK_f, L4, L5]
        refine dq_G (fun g43 => ?_) (fun g43 => ?_)
        · try simp only [HB] at g43
          simp (maxSteps := 500000) (decide := true) (disch := omega) only [EV, ↓reduceIte, Nat.reduceAdd, tt13F, encK_f, L4, L5]
          refine dq_skip H0 rfl rfl rfl rfl ?_
          simp (maxSteps := 500000) (decide := true) (disch := omega) only [EV, ↓reduceIte, Nat.reduceAdd, tt13F, encK_f, L4, L5]
          refine dq_skip H0 rfl rfl rfl rfl ?_
          simp (maxSteps := 500000) (decide := true) (disch := omega) only [EV, ↓reduceIte, Nat.reduceAdd, tt13F, encK_f, L4, L5]
          refine dq_skip H0 rfl rfl rfl rfl ?_
          simp (maxSteps := 500000) (decide := true) (disch := omega) only [EV, ↓reduceIte, Nat.reduceAdd, tt13F, encK_f, L4, L5]
          refine dq_skip H0 rfl rfl rfl rfl ?_
          simp (maxSteps := 500000) (decide := true) (disch := omega) only [EV, ↓reduceIte, Nat.reduceAdd, tt13F, encK_f, L4, L5]
          refine dq_skipA rfl (fun _ => H0) rfl rfl rfl rfl ?_
          simp (maxSteps := 500000) (decide := true) (disch := omega) only [EV, ↓reduceIte, Nat.reduceAdd, tt13F, encK_f, L4, L5]
          refine dq_skip H0 rfl rfl rfl rfl ?_
          simp (maxSteps := 500000) (decide := true) (disch := omega) only [EV, ↓reduceIte, Nat.reduceAdd, tt13F, encK_f, L4, L5]
          refine dq_skip H0 rfl rfl rfl rfl ?_
          simp (maxSteps := 500000) (decide := true) (disch := omega) only [EV, ↓reduceIte, Nat.reduceAdd, tt13F, encK_f, L4, L5]
          refine dq_nil ?_
          refine h12 _ _ ?_
          refine cw_condT rfl ?_
          refine cw_seq (fun K14 h14 => ?_)
          refine cw_region (lq_run ?_)
          simp (maxSteps := 500000) (decide := true) (disch := omega) only [EV, ↓reduceIte, Nat.reduceAdd, tt13F, encK_f, L4, L5]
          refine lq_nil ?_
          refine h14 _ _ ?_
          refine cw_ret ?_
          try simp (decide := true) only [EX, ↓reduceIte]
          refine ret1 rfl ?_
          first | exact ⟨rfl, H⟩ | exact absurd trivial ‹¬True› | (exfalso; omega)
        · try simp only [HB] at g43
          simp (maxSteps := 500000) (decide := true) (disch := omega) only [EV, ↓reduceIte, Nat.reduceAdd, tt13F, encK_f, L4, L5]
          refine dq_load H0 rfl ?_
          simp (maxSteps := 500000) (decide := true) (disch := omega) only [EV, ↓reduceIte, Nat.reduceAdd, tt13F, encK_f, L4, L5]
          refine dq_load H0 rfl ?_
          simp (maxSteps := 500000) (decide := true) (disch := omega) only [EV, ↓reduceIte, Nat.reduceAdd, tt13F, encK_f, L4, L5]
          refine dq_G (fun g50 => ?_) (fun g50 => ?_)
          · try simp only [HB] at g50
            simp (maxSteps := 500000) (decide := true) (disch := omega) only [EV, ↓reduceIte, Nat.reduceAdd, tt13F, encK_f, L4, L5]
            refine dq_skip H0 rfl rfl rfl rfl ?_
            simp (maxSteps := 500000) (decide := true) (disch := omega) only [EV, ↓reduceIte, Nat.reduceAdd, tt13F, encK_f, L4, L5]
            refine dq_skip H0 rfl rfl rfl rfl ?_
            simp (maxSteps := 500000) (decide := true) (disch := omega) only [EV, ↓reduceIte, Nat.reduceAdd, tt13F, encK_f, L4, L5]
            refine dq_skipA rfl (fun _ => H0) rfl rfl rfl rfl ?_
            simp (maxSteps := 500000) (decide := true) (disch := omega) only [EV, ↓reduceIte, Nat.reduceAdd, tt13F, encK_f, L4, L5]
            refine dq_skip H0 rfl rfl rfl rfl ?_
            simp (maxSteps := 500000) (decide := true) (disch := omega) only [EV, ↓reduceIte, Nat.reduceAdd, tt13F, encK_f, L4, L5]
            refine dq_skip H0 rfl rfl rfl rfl ?_
            simp (maxSteps := 500000) (decide := true) (disch := omega) only [EV, ↓reduceIte, Nat.reduceAdd, tt13F, encK_f, L4, L5]
            refine dq_nil ?_
            refine h12 _ _ ?_
            refine cw_condT rfl ?_
            refine cw_seq (fun K15 h15 => ?_)
            refine cw_region (lq_run ?_)
            simp (maxSteps := 500000) (decide := true) (disch := omega) only [EV, ↓reduceIte, Nat.reduceAdd, tt13F, encK_f, L4, L5]
            refine lq_nil ?_
            refine h15 _ _ ?_
            refine cw_ret ?_
            try simp (decide := true) only [EX, ↓reduceIte]
            refine ret1 rfl ?_
            first | exact ⟨rfl, H⟩ | exact absurd trivial ‹¬True› | (exfalso; omega)
          · try simp only [HB] at g50
            simp (maxSteps := 500000) (decide := true) (disch := omega) only [EV, ↓reduceIte, Nat.reduceAdd, tt13F, encK_f, L4, L5]
            refine dq_load H0 rfl ?_
            simp (maxSteps := 500000) (decide := true) (disch := omega) only [EV, ↓reduceIte, Nat.reduceAdd, tt13F, encK_f, L4, L5]
            refine dq_load H0 rfl ?_
            simp (maxSteps := 500000) (decide := true) (disch := omega) only [EV, ↓reduceIte, Nat.reduceAdd, tt13F, encK_f, L4, L5]
            refine dq_act (by decide) rfl ?_
            refine lq_call rfl ?_
            refine Cl.mono (sameTexts_ok H hk1.up rfl hk2.up rfl hkb) ?_
            rintro _ w ⟨rfl, H⟩
            refine lr_nil ?_
            replace H0 := H.wkTo H0
            refine ⟨fun _ => H0, ?_⟩
            simp (maxSteps := 500000) (decide := true) (disch := omega) only [EV, ↓reduceIte, Nat.reduceAdd, tt13F, encK_f, L4, L5]
            refine dq_skip H0 rfl rfl rfl rfl ?_
            simp (maxSteps := 500000) (decide := true) (disch := omega) only [EV, ↓reduceIte, Nat.reduceAdd, tt13F, encK_f, L4, L5]
            refine dq_skip H0 rfl rfl rfl rfl ?_
            simp (maxSteps := 500000) (decide := true) (disch := omega) only [EV, ↓reduceIte, Nat.reduceAdd, tt13F, encK_f, L4, L5]
            refine dq_nil ?_
            refine h12 _ _ ?_
            refine cw_condF rfl ?_
            refine cw_skip ?_
            refine h9 _ _ ?_
            refine cw_region (lq_run ?_)
            simp (maxSteps := 500000) (decide := true) (disch := omega) only [EV, ↓reduceIte, Nat.reduceAdd, tt13F, encK_f, L4, L5]
            refine lq_nil ?_
            refine Exists.intro (d ++ [(((sk, si), ⟨sv, sks, sst⟩), (sao, sc))], r2) ⟨⟨(.c (by rw [List.length_append]; rfl) .n), (.c rfl (.c rfl (.c rfl .n)))⟩, ⟨by simp [hd], H.wk⟩, (by simp)⟩
    · skip
      try simp only [HB] at c18
      refine cw_exit ?_
      refine h5 _ _ ?_
      refine cw_seq (fun K16 h16 => ?_)
      refine cw_region (lq_run ?_)
      simp (maxSteps := 500000) (decide := true) (disch := omega) only [EV, ↓reduceIte, Nat.reduceAdd, tt13F, encK_f, L4, L5]
      refine lq_nil ?_
      refine h16 _ _ ?_
      refine cw_ret ?_
      try simp (decide := true) only [EX, ↓reduceIte]
      refine ret1 rfl ?_
      first | exact ⟨rfl, H⟩ | exact absurd trivial ‹¬True› | (exfalso; omega)
end Go.Rp
set_option linter.unusedVariables false
set_option linter.unusedSimpArgs false
set_option maxHeartbeats 1000000
set_option maxRecDepth 100000
namespace Go.Rp
open Go.Proofs
instance iW36_0 : ElT Tryz.prog 5 1 := ElT.mk' (by kernel_rfl)
instance iW36_1 : SlT Tryz.prog 23 5 := ⟨by kernel_rfl⟩
theorem tt33 : (AG Tryz.prog 5 = some false) ∧ (IKn Tryz.prog 5 = some .u8) ∧ (IKn Tryz.prog 89 = some .u32) ∧ (LK Tryz.prog 23 = some 1) := ⟨by kernel_rfl, by kernel_rfl, by kernel_rfl, by kernel_rfl⟩

theorem bits_or_u32_nat (a b : Nat) (ha : a < 4294967296) (hb : b < 4294967296) : bits .or .u32 (a : Int) (b : Int) = ((a ||| b : Nat) : Int) := by
  have hx : a ||| b < 2 ^ 32 := Nat.or_lt_two_pow (by omega) (by omega)
  have h1 : (BitVec.ofInt 32 (a : Int)).toNat = a := by
    rw [BitVec.ofInt_natCast, BitVec.toNat_ofNat]; exact Nat.mod_eq_of_lt (by omega)
  have h2 : (BitVec.ofInt 32 (b : Int)).toNat = b := by
    rw [BitVec.ofInt_natCast, BitVec.toNat_ofNat]; exact Nat.mod_eq_of_lt (by omega)
  show IntKind.u32.wrap ((BitVec.ofInt 32 (a : Int) ||| BitVec.ofInt 32 (b : Int)).toNat : Int) = _
  rw [BitVec.toNat_or, h1, h2, wrap_u32 (by omega)]
theorem or32 (c0 c1 c2 c3 : UInt8) : bits .or .u32 (bits .or .u32 (bits .or .u32 (IntKind.u32.wrap ((c0.toNat : Int) * 2 ^ (min (Int.toNat 24) IntKind.u32.bits))) (IntKind.u32.wrap ((c1.toNat : Int) * 2 ^ (min (Int.toNat 16) IntKind.u32.bits)))) (IntKind.u32.wrap ((c2.toNat : Int) * 2 ^ (min (Int.toNat 8) IntKind.u32.bits)))) (IntKind.u32.wrap (c3.toNat : Int)) = beV [c0, c1, c2, c3] := by
  rw [wrap_u32 (x := (c3.toNat : Int)) (by have := c3.toNat_lt; omega)]
  have h0 := c0.toNat_lt
  have h1 := c1.toNat_lt
  have h2 := c2.toNat_lt
  have h3 := c3.toNat_lt
  have e0 : IntKind.u32.wrap ((c0.toNat : Int) * 2 ^ (min (Int.toNat 24) IntKind.u32.bits)) = ((c0.toNat * 16777216 : Nat) : Int) := by
    rw [show (2 : Int) ^ (min (Int.toNat 24) IntKind.u32.bits) = 16777216 from by decide, wrap_u32 (by omega)]; omega
  have e1 : IntKind.u32.wrap ((c1.toNat : Int) * 2 ^ (min (Int.toNat 16) IntKind.u32.bits)) = ((c1.toNat * 65536 : Nat) : Int) := by
    rw [show (2 : Int) ^ (min (Int.toNat 16) IntKind.u32.bits) = 65536 from by decide, wrap_u32 (by omega)]; omega
  have e2 : IntKind.u32.wrap ((c2.toNat : Int) * 2 ^ (min (Int.toNat 8) IntKind.u32.bits)) = ((c2.toNat * 256 : Nat) : Int) := by
    rw [show (2 : Int) ^ (min (Int.toNat 8) IntKind.u32.bits) = 256 from by decide, wrap_u32 (by omega)]; omega
  have o1 : c0.toNat * 16777216 ||| c1.toNat * 65536 = c0.toNat * 16777216 + c1.toNat * 65536 := by
    have := Nat.two_pow_add_eq_or_of_lt (i := 24) (b := c1.toNat * 65536) (by omega) c0.toNat
    rw [show c0.toNat * 16777216 = 2 ^ 24 * c0.toNat by omega]; exact this.symm
  have o2 : (c0.toNat * 16777216 + c1.toNat * 65536) ||| c2.toNat * 256 = c0.toNat * 16777216 + c1.toNat * 65536 + c2.toNat * 256 := by
    have := Nat.two_pow_add_eq_or_of_lt (i := 16) (b := c2.toNat * 256) (by omega) (c0.toNat * 256 + c1.toNat)
    rw [show c0.toNat * 16777216 + c1.toNat * 65536 = 2 ^ 16 * (c0.toNat * 256 + c1.toNat) by omega]; exact this.symm
  have o3 : (c0.toNat * 16777216 + c1.toNat * 65536 + c2.toNat * 256) ||| c3.toNat = c0.toNat * 16777216 + c1.toNat * 65536 + c2.toNat * 256 + c3.toNat := by
    have := Nat.two_pow_add_eq_or_of_lt (i := 8) (b := c3.toNat) (by omega) (c0.toNat * 65536 + c1.toNat * 256 + c2.toNat)
    rw [show c0.toNat * 16777216 + c1.toNat * 65536 + c2.toNat * 256 = 2 ^ 8 * (c0.toNat * 65536 + c1.toNat * 256 + c2.toNat) by omega]; exact this.symm
  rw [e0, e1, e2, bits_or_u32_nat _ _ (by omega) (by omega), o1, bits_or_u32_nat _ _ (by omega) (by omega), o2, bits_or_u32_nat _ _ (by omega) (by omega), o3]
  simp only [beV, List.foldl]
  omega
theorem beL4 (x : Int) : beL x 4 = [byteI (x.fdiv (2 ^ 24)), byteI (x.fdiv (2 ^ 16)), byteI (x.fdiv (2 ^ 8)), byteI x] := by
  simp only [beL, List.append_nil, List.cons_append, List.nil_append, Nat.mul_zero, Nat.mul_one, Int.pow_zero, Int.fdiv_one]
theorem snapSum_ok {ao : Option Addr} {n c : Nat} {b : List UInt8} {c0 c1 c2 c3 : UInt8} {F : List HP} {w : World} (H : Own F w) (hR : Ent F (Row ao encB (b ++ [c0, c1, c2, c3]))) (hn : n = b.length + 4) (hb : b.length ≤ 1099511627776) :
  Cl Tryz.prog 33 #[.slice ao n c] w fun v w' => v = .int .u32 (beV [c0, c1, c2, c3]) ∧ Own F w' := by
  subst hn
  refine cl_of_cw Tryz.func33 rfl ?_
  simp only [Tryz.ntmps33, envA, List.size_toArray, List.length_cons, List.length_nil, Nat.reduceAdd, Nat.reduceSub]
  have hlen : (b ++ [c0, c1, c2, c3]).length = b.length + 4 := by simp
  have hc0 := c0.toNat_lt
  have hc1 := c1.toNat_lt
  have hc2 := c2.toNat_lt
  have hc3 := c3.toNat_lt
  refine cw_seq (fun K1 h1 => ?_)
  refine cw_region (lq_run ?_)
  simp (maxSteps := 500000) (decide := true) (disch := omega) only [EV, ↓reduceIte, Nat.reduceAdd, tt33]
  refine lq_nil ?_
  refine h1 _ _ ?_
  refine cw_seq (fun K2 h2 => ?_)
  refine cw_region (lq_run ?_)
  simp (maxSteps := 500000) (decide := true) (disch := omega) only [EV, ↓reduceIte, Nat.reduceAdd, tt33]
  refine lq_nil ?_
  refine h2 _ _ ?_
  refine cw_seq (fun K3 h3 => ?_)
  refine cw_draw [(0, 0), (1, 0), (2, 0), (3, 0), (4, 1), (5, 0), (6, 0), (7, 0), (8, 0), (9, 0), (10, 0), (11, 1), (12, 0), (13, 0), (14, 0), (15, 0), (16, 0), (17, 0), (18, 0), (19, 1), (20, 0), (21, 0), (22, 0), (23, 0), (24, 0), (25, 0), (26, 0), (27, 1), (28, 0), (29, 0), (30, 0)] rfl (by kernel_rfl) (fun c env w => by simp (decide := true) only [EX, not_false_eq_true]) H (fun w H => ?_)
  have H0 := H
  refine dq_run ?_
  simp (maxSteps := 500000) (decide := true) (disch := omega) only [EV, ↓reduceIte, Nat.reduceAdd, tt33]
  refine dq_idx (i' := b.length) H0 rfl rfl hR (by omega) (by omega) (show (b ++ [c0, c1, c2, c3])[b.length]? = some c0 by simp) ?_
  simp (maxSteps := 500000) (decide := true) (disch := omega) only [EV, ↓reduceIte, Nat.reduceAdd, tt33]
  refine dq_loadE H0 rfl hR (show (b ++ [c0, c1, c2, c3])[b.length]? = some c0 by simp) rfl ?_
  simp (maxSteps := 500000) (decide := true) (disch := omega) only [EV, ↓reduceIte, Nat.reduceAdd, tt33]
  refine dq_idx (i' := b.length + 1) H0 rfl rfl hR (by omega) (by omega) (show (b ++ [c0, c1, c2, c3])[b.length + 1]? = some c1 by simp) ?_
  simp (maxSteps := 500000) (decide := true) (disch := omega) only [EV, ↓reduceIte, Nat.reduceAdd, tt33]
  refine dq_loadE H0 rfl hR (show (b ++ [c0, c1, c2, c3])[b.length + 1]? = some c1 by simp) rfl ?_
  simp (maxSteps := 500000) (decide := true) (disch := omega) only [EV, ↓reduceIte, Nat.reduceAdd, tt33]
  refine dq_idx (i' := b.length + 2) H0 rfl rfl hR (by omega) (by omega) (show (b ++ [c0, c1, c2, c3])[b.length + 2]? = some c2 by simp) ?_
  simp (maxSteps := 500000) (decide := true) (disch := omega) only [EV, ↓reduceIte, Nat.reduceAdd, tt33]
  refine dq_loadE H0 rfl hR (show (b ++ [c0, c1, c2, c3])[b.length + 2]? = some c2 by simp) rfl ?_
  simp (maxSteps := 500000) (decide := true) (disch := omega) only [EV, ↓reduceIte, Nat.reduceAdd, tt33]
  refine dq_idx (i' := b.length + 3) H0 rfl rfl hR (by omega) (by omega) (show (b ++ [c0, c1, c2, c3])[b.length + 3]? = some c3 by simp) ?_
  simp (maxSteps := 500000) (decide := true) (disch := omega) only [EV, ↓reduceIte, Nat.reduceAdd, tt33]
  refine dq_loadE H0 rfl hR (show (b ++ [c0, c1, c2, c3])[b.length + 3]? = some c3 by simp) rfl ?_
  simp (maxSteps := 500000) (decide := true) (disch := omega) only [EV, ↓reduceIte, Nat.reduceAdd, tt33]
  refine dq_nil ?_
  refine h3 _ _ ?_
  refine cw_ret ?_
  try simp (decide := true) only [EX, ↓reduceIte]
  refine ret1 rfl ?_
  exact ⟨by rw [or32], H⟩
end Go.Rp
