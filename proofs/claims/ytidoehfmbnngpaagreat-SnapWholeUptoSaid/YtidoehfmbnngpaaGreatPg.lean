/-
  Keys of maps.
-/
import Derived.Test.YtidoehfmbnngpaaGreatProg
import Derived.RangeFuncLeaves
import Derived.WalkKit
import Derived.OwnWalkIn
import Derived.TacticsInMore
import Derived.RangeFuncSeq
import Derived.Test.YtidoehfmbnngpaaGreatPf
set_option linter.unusedVariables false
set_option linter.unusedSimpArgs false
set_option maxHeartbeats 1000000
set_option maxRecDepth 100000
namespace Go.Rp
open Go.Proofs
instance iW25_0 : FnOk Tryz.prog 157 := ⟨⟨Tryz.f157, Tryz.func157, by kernel_rfl, by kernel_rfl⟩⟩
instance iW25_1 : FnOk Tryz.prog 158 := ⟨⟨Tryz.f158, Tryz.func158, by kernel_rfl, by kernel_rfl⟩⟩
instance iW25_2 : MpT Tryz.prog 123 119 125 := ⟨by kernel_rfl⟩
instance iW25_3 : MpT Tryz.prog 96 9 43 := ⟨by kernel_rfl⟩
instance iW25_4 : SzT Tryz.prog 119 2 := ⟨by kernel_rfl⟩
instance iW25_5 : ZvT Tryz.prog 119 (.agg #[(.string ByteArray.empty), (.int .u64 0)]) := ⟨by kernel_rfl⟩
theorem tt106 : (True) := trivial
theorem tt107 : (True) := trivial
theorem tt104 : (AG Tryz.prog 119 = some true) ∧ (AG Tryz.prog 123 = some false) ∧ (SZ Tryz.prog 119 = some 2) := ⟨by kernel_rfl, by kernel_rfl, by kernel_rfl⟩
theorem tt110 : (AG Tryz.prog 96 = some false) := by kernel_rfl

theorem EmV_ke (k : Nm) : EmV.ke k = .agg #[.string k.1, .int .u64 k.2] := rfl
theorem EmL_ke (k : ByteArray) : EmL.ke k = .string k := rfl
def cmpI {κ : Type} [Lt κ] (x y : κ) : Int := if Lt.lt x y = true then -1 else if Lt.lt y x = true then 1 else 0
theorem keys_len {κ β : Type} (m : List (κ × β)) : (keys m).length = m.length := by simp [keys]
theorem keys_erase {κ β : Type} {m : List (κ × β)} {i : Nat} {p : κ × β} (h : m[i]? = some p) : (keys m).Perm (p.1 :: keys (m.eraseIdx i)) := by
  have := (erase_perm h).map (·.1)
  exact this
theorem keys_step {κ β : Type} {m left : List (κ × β)} {d : List κ} {i : Nat} {p : κ × β} (h : (d ++ keys left).Perm (keys m)) (hp : left[i]? = some p) : (d ++ [p.1] ++ keys (left.eraseIdx i)).Perm (keys m) := by
  refine List.Perm.trans ?_ h
  rw [List.append_assoc]
  exact List.Perm.append_left d (keys_erase hp).symm
theorem keys_room {κ β : Type} {m left : List (κ × β)} {d : List κ} {i : Nat} {p : κ × β} (h : (d ++ keys left).Perm (keys m)) (hp : left[i]? = some p) : d.length < m.length := by
  have h1 := h.length_eq
  rw [List.length_append, keys_len, keys_len] at h1
  have := (List.getElem?_eq_some_iff.1 hp).1
  omega
theorem cmpS_ok {x y : ByteArray} {F : List HP} {w : World} (H : Own F w) :
  Cl Tryz.prog 106 #[.string x, .string y] w fun v w' => v = .int .i64 (cmpI x y) ∧ Own F w' := by
  refine cl_of_cw Tryz.func106 rfl ?_
  simp only [Tryz.ntmps106, envA, List.size_toArray, List.length_cons, List.length_nil, Nat.reduceAdd, Nat.reduceSub]
  refine cw_seq (fun K1 h1 => ?_)
  refine cw_region (lq_run ?_)
  simp (maxSteps := 500000) (decide := true) (disch := omega) only [EV, ↓reduceIte, Nat.reduceAdd, tt106]
  refine lq_nil ?_
  refine h1 _ _ ?_
  refine cw_seq (fun K2 h2 => ?_)
  refine cw_region (lq_run ?_)
  simp (maxSteps := 500000) (decide := true) (disch := omega) only [EV, ↓reduceIte, Nat.reduceAdd, tt106]
  refine lq_call rfl ?_
  refine Cl.mono (nanS_ok H) ?_
  rintro _ w ⟨rfl, H⟩
  simp (maxSteps := 500000) (decide := true) (disch := omega) only [EV, ↓reduceIte, Nat.reduceAdd, tt106]
  refine lq_nil ?_
  refine h2 _ _ ?_
  refine cw_seq (fun K3 h3 => ?_)
  refine cw_region (lq_run ?_)
  simp (maxSteps := 500000) (decide := true) (disch := omega) only [EV, ↓reduceIte, Nat.reduceAdd, tt106]
  refine lq_call rfl ?_
  refine Cl.mono (nanS_ok H) ?_
  rintro _ w ⟨rfl, H⟩
  simp (maxSteps := 500000) (decide := true) (disch := omega) only [EV, ↓reduceIte, Nat.reduceAdd, tt106]
  refine lq_nil ?_
  refine h3 _ _ ?_
  refine cw_seq (fun K4 h4 => ?_)
  refine cw_seq (fun K5 h5 => ?_)
  refine cw_region (lq_run ?_)
  simp (maxSteps := 500000) (decide := true) (disch := omega) only [EV, ↓reduceIte, Nat.reduceAdd, tt106]
  refine lq_nil ?_
  refine h5 _ _ ?_
  refine cw_condF rfl ?_
  refine cw_skip ?_
  refine h4 _ _ ?_
  refine cw_seq (fun K6 h6 => ?_)
  refine cw_seq (fun K7 h7 => ?_)
  refine cw_region (lq_run ?_)
  simp (maxSteps := 500000) (decide := true) (disch := omega) only [EV, ↓reduceIte, Nat.reduceAdd, tt106]
  refine lq_nil ?_
  refine h7 _ _ ?_
  refine cw_condF rfl ?_
  refine cw_skip ?_
  refine h6 _ _ ?_
  refine cw_seq (fun K8 h8 => ?_)
  refine cw_seq (fun K9 h9 => ?_)
  refine cw_region (lq_run ?_)
  simp (maxSteps := 500000) (decide := true) (disch := omega) only [EV, ↓reduceIte, Nat.reduceAdd, tt106]
  refine lq_nil ?_
  refine h9 _ _ ?_
  refine cw_condB rfl (fun c16 => ?_) (fun c16 => ?_)
  · skip
    try simp only [HB] at c16
    have e1 : Lt.lt x y = true := c16
    refine cw_seq (fun K10 h10 => ?_)
    refine cw_region (lq_run ?_)
    simp (maxSteps := 500000) (decide := true) (disch := omega) only [EV, ↓reduceIte, Nat.reduceAdd, tt106]
    refine lq_nil ?_
    refine h10 _ _ ?_
    refine cw_ret ?_
    try simp (decide := true) only [EX, ↓reduceIte]
    refine ret1 rfl ?_
    rw [cmpI, if_pos e1]; exact ⟨rfl, H⟩
  · skip
    try simp only [HB] at c16
    refine cw_skip ?_
    refine h8 _ _ ?_
    refine cw_seq (fun K11 h11 => ?_)
    refine cw_seq (fun K12 h12 => ?_)
    refine cw_region (lq_run ?_)
    simp (maxSteps := 500000) (decide := true) (disch := omega) only [EV, ↓reduceIte, Nat.reduceAdd, tt106]
    refine lq_nil ?_
    refine h12 _ _ ?_
    refine cw_condB rfl (fun c19 => ?_) (fun c19 => ?_)
    · skip
      try simp only [HB] at c19
      have e0 : ¬ Lt.lt x y = true := (by show ¬ sless x y = true; simpa using c16)
      have e1 : Lt.lt y x = true := c19
      refine cw_seq (fun K13 h13 => ?_)
      refine cw_region (lq_run ?_)
      simp (maxSteps := 500000) (decide := true) (disch := omega) only [EV, ↓reduceIte, Nat.reduceAdd, tt106]
      refine lq_nil ?_
      refine h13 _ _ ?_
      refine cw_ret ?_
      try simp (decide := true) only [EX, ↓reduceIte]
      refine ret1 rfl ?_
      rw [cmpI, if_neg e0, if_pos e1]; exact ⟨rfl, H⟩
    · skip
      try simp only [HB] at c19
      have e0 : ¬ Lt.lt x y = true := (by show ¬ sless x y = true; simpa using c16)
      have e1 : ¬ Lt.lt y x = true := (by show ¬ sless y x = true; simpa using c19)
      refine cw_skip ?_
      refine h11 _ _ ?_
      refine cw_seq (fun K14 h14 => ?_)
      refine cw_region (lq_run ?_)
      simp (maxSteps := 500000) (decide := true) (disch := omega) only [EV, ↓reduceIte, Nat.reduceAdd, tt106]
      refine lq_nil ?_
      refine h14 _ _ ?_
      refine cw_ret ?_
      try simp (decide := true) only [EX, ↓reduceIte]
      refine ret1 rfl ?_
      rw [cmpI, if_neg e0, if_neg e1]; exact ⟨rfl, H⟩
theorem cmpID_ok {x y : Int} {F : List HP} {w : World} (H : Own F w) :
  Cl Tryz.prog 107 #[.int .u64 x, .int .u64 y] w fun v w' => v = .int .i64 (cmpI x y) ∧ Own F w' := by
  refine cl_of_cw Tryz.func107 rfl ?_
  simp only [Tryz.ntmps107, envA, List.size_toArray, List.length_cons, List.length_nil, Nat.reduceAdd, Nat.reduceSub]
  refine cw_seq (fun K1 h1 => ?_)
  refine cw_region (lq_run ?_)
  simp (maxSteps := 500000) (decide := true) (disch := omega) only [EV, ↓reduceIte, Nat.reduceAdd, tt107]
  refine lq_nil ?_
  refine h1 _ _ ?_
  refine cw_seq (fun K2 h2 => ?_)
  refine cw_region (lq_run ?_)
  simp (maxSteps := 500000) (decide := true) (disch := omega) only [EV, ↓reduceIte, Nat.reduceAdd, tt107]
  refine lq_call rfl ?_
  refine Cl.mono (nanI_ok H) ?_
  rintro _ w ⟨rfl, H⟩
  simp (maxSteps := 500000) (decide := true) (disch := omega) only [EV, ↓reduceIte, Nat.reduceAdd, tt107]
  refine lq_nil ?_
  refine h2 _ _ ?_
  refine cw_seq (fun K3 h3 => ?_)
  refine cw_region (lq_run ?_)
  simp (maxSteps := 500000) (decide := true) (disch := omega) only [EV, ↓reduceIte, Nat.reduceAdd, tt107]
  refine lq_call rfl ?_
  refine Cl.mono (nanI_ok H) ?_
  rintro _ w ⟨rfl, H⟩
  simp (maxSteps := 500000) (decide := true) (disch := omega) only [EV, ↓reduceIte, Nat.reduceAdd, tt107]
  refine lq_nil ?_
  refine h3 _ _ ?_
  refine cw_seq (fun K4 h4 => ?_)
  refine cw_seq (fun K5 h5 => ?_)
  refine cw_region (lq_run ?_)
  simp (maxSteps := 500000) (decide := true) (disch := omega) only [EV, ↓reduceIte, Nat.reduceAdd, tt107]
  refine lq_nil ?_
  refine h5 _ _ ?_
  refine cw_condF rfl ?_
  refine cw_skip ?_
  refine h4 _ _ ?_
  refine cw_seq (fun K6 h6 => ?_)
  refine cw_seq (fun K7 h7 => ?_)
  refine cw_region (lq_run ?_)
  simp (maxSteps := 500000) (decide := true) (disch := omega) only [EV, ↓reduceIte, Nat.reduceAdd, tt107]
  refine lq_nil ?_
  refine h7 _ _ ?_
  refine cw_condF rfl ?_
  refine cw_skip ?_
  refine h6 _ _ ?_
  refine cw_seq (fun K8 h8 => ?_)
  refine cw_seq (fun K9 h9 => ?_)
  refine cw_region (lq_run ?_)
  simp (maxSteps := 500000) (decide := true) (disch := omega) only [EV, ↓reduceIte, Nat.reduceAdd, tt107]
  refine lq_nil ?_
  refine h9 _ _ ?_
  refine cw_condB rfl (fun c16 => ?_) (fun c16 => ?_)
  · skip
    try simp only [HB] at c16
    have e1 : Lt.lt x y = true := decide_eq_true c16
    refine cw_seq (fun K10 h10 => ?_)
    refine cw_region (lq_run ?_)
    simp (maxSteps := 500000) (decide := true) (disch := omega) only [EV, ↓reduceIte, Nat.reduceAdd, tt107]
    refine lq_nil ?_
    refine h10 _ _ ?_
    refine cw_ret ?_
    try simp (decide := true) only [EX, ↓reduceIte]
    refine ret1 rfl ?_
    rw [cmpI, if_pos e1]; exact ⟨rfl, H⟩
  · skip
    try simp only [HB] at c16
    refine cw_skip ?_
    refine h8 _ _ ?_
    refine cw_seq (fun K11 h11 => ?_)
    refine cw_seq (fun K12 h12 => ?_)
    refine cw_region (lq_run ?_)
    simp (maxSteps := 500000) (decide := true) (disch := omega) only [EV, ↓reduceIte, Nat.reduceAdd, tt107]
    refine lq_nil ?_
    refine h12 _ _ ?_
    refine cw_condB rfl (fun c19 => ?_) (fun c19 => ?_)
    · skip
      try simp only [HB] at c19
      have e0 : ¬ Lt.lt x y = true := (by show ¬ decide (x < y) = true; simp; omega)
      have e1 : Lt.lt y x = true := decide_eq_true c19
      refine cw_seq (fun K13 h13 => ?_)
      refine cw_region (lq_run ?_)
      simp (maxSteps := 500000) (decide := true) (disch := omega) only [EV, ↓reduceIte, Nat.reduceAdd, tt107]
      refine lq_nil ?_
      refine h13 _ _ ?_
      refine cw_ret ?_
      try simp (decide := true) only [EX, ↓reduceIte]
      refine ret1 rfl ?_
      rw [cmpI, if_neg e0, if_pos e1]; exact ⟨rfl, H⟩
    · skip
      try simp only [HB] at c19
      have e0 : ¬ Lt.lt x y = true := (by show ¬ decide (x < y) = true; simp; omega)
      have e1 : ¬ Lt.lt y x = true := (by show ¬ decide (y < x) = true; simp; omega)
      refine cw_skip ?_
      refine h11 _ _ ?_
      refine cw_seq (fun K14 h14 => ?_)
      refine cw_region (lq_run ?_)
      simp (maxSteps := 500000) (decide := true) (disch := omega) only [EV, ↓reduceIte, Nat.reduceAdd, tt107]
      refine lq_nil ?_
      refine h14 _ _ ?_
      refine cw_ret ?_
      try simp (decide := true) only [EX, ↓reduceIte]
      refine ret1 rfl ?_
      rw [cmpI, if_neg e0, if_neg e1]; exact ⟨rfl, H⟩
theorem keysN1_ok {b Bm l : Nat} {m : List (Nm × (ByteArray × Sl × Int))} {J : List Nm → HP} {F : List HP} {w : World} (hY : ∀ pre x G w, pre.length < m.length → Own (J pre :: G) w → YieldAt Fence.wide 0 Tryz.prog l #[EmV.ke x] w fun e w' => e = .returned (.bool true) ∧ Own (J (pre ++ [x]) :: G) w') (H : Own (J [] :: Ce Bm ([.map (some b)], 123) :: Mp EmV b m :: F) w) :
  Cl Tryz.prog 104 #[.func (.yield l) #[] #[], .pointer (some ⟨Bm, 0, none⟩)] w fun v w' => ∃ xs : List Nm, xs.Perm (keys m) ∧ Own (J xs :: Ce Bm ([.map (some b)], 123) :: Mp EmV b m :: F) w' := by
  refine cl_of_cw Tryz.func104 rfl ?_
  simp only [Tryz.ntmps104, envA, List.size_toArray, List.length_cons, List.length_nil, Nat.reduceAdd, Nat.reduceSub]
  refine cw_seq (fun K1 h1 => ?_)
  refine cw_region (lq_run ?_)
  simp (maxSteps := 500000) (decide := true) (disch := omega) only [EV, ↓reduceIte, Nat.reduceAdd, tt104, EmV_ke]
  refine lq_load H rfl ?_
  simp (maxSteps := 500000) (decide := true) (disch := omega) only [EV, ↓reduceIte, Nat.reduceAdd, tt104, EmV_ke]
  refine lq_range (E := EmV) H rfl (fun r w H => ?_)
  simp (maxSteps := 500000) (decide := true) (disch := omega) only [EV, ↓reduceIte, Nat.reduceAdd, tt104, EmV_ke]
  refine lq_nil ?_
  refine h1 _ _ ?_
  refine cw_block ?_
  refine cw_loopC (X := List Nm × List (Nm × (ByteArray × Sl × Int)) × Option (Nm × (ByteArray × Sl × Int))) [(0, _), (5, _)] (fun x => []) (fun x w => (x.1 ++ keys x.2.1).Perm (keys m) ∧ Own (J x.1 :: Mr EmV b r (m, x.2.1, x.2.2) :: Ce Bm ([.map (some b)], 123) :: F) w) (fun x => x.2.1.length) ([], m, none) (.c rfl (.c rfl .n)) .n ⟨.refl _, H.wk⟩ ?_
  rintro ⟨d, left, cur⟩ w ⟨hperm, H⟩
  simp only [List.cons_append, List.nil_append]
  simp only at hperm H ⊢
  refine cw_seq (fun K2 h2 => ?_)
  refine cw_region (lq_run ?_)
  simp (maxSteps := 500000) (decide := true) (disch := omega) only [EV, ↓reduceIte, Nat.reduceAdd, tt104, EmV_ke]
  refine lq_next (E := EmV) (b := b) (r := r) H rfl (fun hz => ?_) (fun i p w hp H => ?_)
  · skip
    simp (maxSteps := 500000) (decide := true) (disch := omega) only [EV, ↓reduceIte, Nat.reduceAdd, tt104, EmV_ke]
    refine lq_nil ?_
    refine h2 _ _ ?_
    refine cw_seq (fun K3 h3 => ?_)
    refine cw_condF rfl ?_
    refine cw_exit ?_
    try simp (decide := true) only [EX, ↓reduceIte]
    refine end0 ?_
    subst hz
    refine ⟨d, by simpa [keys] using hperm, ?_⟩
    have H1 := (H.tkR (R := Mr EmV b) (k := r)).mrMp
    exact H1.wk
  · skip
    simp (maxSteps := 500000) (decide := true) (disch := omega) only [EV, ↓reduceIte, Nat.reduceAdd, tt104, EmV_ke]
    refine lq_nil ?_
    refine h2 _ _ ?_
    refine cw_seq (fun K4 h4 => ?_)
    refine cw_condT rfl ?_
    refine cw_skip ?_
    refine h4 _ _ ?_
    refine cw_block ?_
    refine cw_seq (fun K5 h5 => ?_)
    refine cw_region (lq_run ?_)
    simp (maxSteps := 500000) (decide := true) (disch := omega) only [EV, ↓reduceIte, Nat.reduceAdd, tt104, EmV_ke]
    refine lq_entry (E := EmV) (b := b) (r := r) (p := p) H rfl ?_
    simp (maxSteps := 500000) (decide := true) (disch := omega) only [EV, ↓reduceIte, Nat.reduceAdd, tt104, EmV_ke]
    refine lq_new H (fun b3 w H => ?_)
    try simp only [ES, EmV_ke] at H
    simp (maxSteps := 500000) (decide := true) (disch := omega) only [EV, ↓reduceIte, Nat.reduceAdd, tt104, EmV_ke]
    refine lq_st H rfl rfl rfl (fun w H => ?_)
    try simp only [ES, EmV_ke] at H
    simp (maxSteps := 500000) (decide := true) (disch := omega) only [EV, ↓reduceIte, Nat.reduceAdd, tt104, EmV_ke]
    refine lq_nil ?_
    refine h5 _ _ ?_
    refine cw_seq (fun K6 h6 => ?_)
    refine cw_regionY ?_
    refine lqY_pv rfl rfl ?_
    refine lqY_load (EmV.ke p.1) H rfl rfl ?_
    refine lqY_yield rfl rfl ?_
    refine yield_mono (hY d p.1 _ w (keys_room hperm hp) (H.tkR (R := fun (_ : Unit) d => J d) (k := ()))) ?_
    rintro e w ⟨rfl, H⟩
    refine lqY_pv rfl rfl ?_
    refine lqY_nil ?_
    refine h6 _ _ ?_
    refine cw_condF rfl ?_
    refine cw_skip ?_
    refine Exists.intro (d ++ [p.1], left.eraseIdx i, some p) ⟨⟨.n, (.c rfl (.c rfl .n))⟩, ⟨keys_step hperm hp, H.wk⟩, (by have := (List.getElem?_eq_some_iff.1 hp).1; simp only [List.length_eraseIdx]; rw [if_pos this]; omega)⟩
theorem keysS1_ok {b Bm l : Nat} {m : List (ByteArray × Int)} {J : List ByteArray → HP} {F : List HP} {w : World} (hY : ∀ pre x G w, pre.length < m.length → Own (J pre :: G) w → YieldAt Fence.wide 0 Tryz.prog l #[EmL.ke x] w fun e w' => e = .returned (.bool true) ∧ Own (J (pre ++ [x]) :: G) w') (H : Own (J [] :: Ce Bm ([.map (some b)], 96) :: Mp EmL b m :: F) w) :
  Cl Tryz.prog 110 #[.func (.yield l) #[] #[], .pointer (some ⟨Bm, 0, none⟩)] w fun v w' => ∃ xs : List ByteArray, xs.Perm (keys m) ∧ Own (J xs :: Ce Bm ([.map (some b)], 96) :: Mp EmL b m :: F) w' := by
  refine cl_of_cw Tryz.func110 rfl ?_
  simp only [Tryz.ntmps110, envA, List.size_toArray, List.length_cons, List.length_nil, Nat.reduceAdd, Nat.reduceSub]
  refine cw_seq (fun K1 h1 => ?_)
  refine cw_region (lq_run ?_)
  simp (maxSteps := 500000) (decide := true) (disch := omega) only [EV, ↓reduceIte, Nat.reduceAdd, tt110, EmL_ke]
  refine lq_load H rfl ?_
  simp (maxSteps := 500000) (decide := true) (disch := omega) only [EV, ↓reduceIte, Nat.reduceAdd, tt110, EmL_ke]
  refine lq_range (E := EmL) H rfl (fun r w H => ?_)
  simp (maxSteps := 500000) (decide := true) (disch := omega) only [EV, ↓reduceIte, Nat.reduceAdd, tt110, EmL_ke]
  refine lq_nil ?_
  refine h1 _ _ ?_
  refine cw_block ?_
  refine cw_loopC (X := List ByteArray × List (ByteArray × Int) × Option (ByteArray × Int)) [(0, _), (5, _)] (fun x => []) (fun x w => (x.1 ++ keys x.2.1).Perm (keys m) ∧ Own (J x.1 :: Mr EmL b r (m, x.2.1, x.2.2) :: Ce Bm ([.map (some b)], 96) :: F) w) (fun x => x.2.1.length) ([], m, none) (.c rfl (.c rfl .n)) .n ⟨.refl _, H.wk⟩ ?_
  rintro ⟨d, left, cur⟩ w ⟨hperm, H⟩
  simp only [List.cons_append, List.nil_append]
  simp only at hperm H ⊢
  refine cw_seq (fun K2 h2 => ?_)
  refine cw_region (lq_run ?_)
  simp (maxSteps := 500000) (decide := true) (disch := omega) only [EV, ↓reduceIte, Nat.reduceAdd, tt110, EmL_ke]
  refine lq_next (E := EmL) (b := b) (r := r) H rfl (fun hz => ?_) (fun i p w hp H => ?_)
  · skip
    simp (maxSteps := 500000) (decide := true) (disch := omega) only [EV, ↓reduceIte, Nat.reduceAdd, tt110, EmL_ke]
    refine lq_nil ?_
    refine h2 _ _ ?_
    refine cw_seq (fun K3 h3 => ?_)
    refine cw_condF rfl ?_
    refine cw_exit ?_
    try simp (decide := true) only [EX, ↓reduceIte]
    refine end0 ?_
    subst hz
    refine ⟨d, by simpa [keys] using hperm, ?_⟩
    have H1 := (H.tkR (R := Mr EmL b) (k := r)).mrMp
    exact H1.wk
  · skip
    simp (maxSteps := 500000) (decide := true) (disch := omega) only [EV, ↓reduceIte, Nat.reduceAdd, tt110, EmL_ke]
    refine lq_nil ?_
    refine h2 _ _ ?_
    refine cw_seq (fun K4 h4 => ?_)
    refine cw_condT rfl ?_
    refine cw_skip ?_
    refine h4 _ _ ?_
    refine cw_block ?_
    refine cw_seq (fun K5 h5 => ?_)
    refine cw_region (lq_run ?_)
    simp (maxSteps := 500000) (decide := true) (disch := omega) only [EV, ↓reduceIte, Nat.reduceAdd, tt110, EmL_ke]
    refine lq_entry (E := EmL) (b := b) (r := r) (p := p) H rfl ?_
    simp (maxSteps := 500000) (decide := true) (disch := omega) only [EV, ↓reduceIte, Nat.reduceAdd, tt110, EmL_ke]
    refine lq_nil ?_
    refine h5 _ _ ?_
    refine cw_seq (fun K6 h6 => ?_)
    refine cw_regionY ?_
    refine lqY_pv rfl rfl ?_
    refine lqY_pv rfl rfl ?_
    refine lqY_yield rfl rfl ?_
    refine yield_mono (hY d p.1 _ w (keys_room hperm hp) (H.tkR (R := fun (_ : Unit) d => J d) (k := ()))) ?_
    rintro e w ⟨rfl, H⟩
    refine lqY_pv rfl rfl ?_
    refine lqY_nil ?_
    refine h6 _ _ ?_
    refine cw_condF rfl ?_
    refine cw_skip ?_
    refine Exists.intro (d ++ [p.1], left.eraseIdx i, some p) ⟨⟨.n, (.c rfl (.c rfl .n))⟩, ⟨keys_step hperm hp, H.wk⟩, (by have := (List.getElem?_eq_some_iff.1 hp).1; simp only [List.length_eraseIdx]; rw [if_pos this]; omega)⟩
end Go.Rp
set_option linter.unusedVariables false
set_option linter.unusedSimpArgs false
set_option maxHeartbeats 1000000
set_option maxRecDepth 100000
namespace Go.Rp
open Go.Proofs
instance iW26_0 : ElT Tryz.prog 119 2 := ElT.mk' (by kernel_rfl)
instance iW26_1 : ElT Tryz.prog 3 1 := ElT.mk' (by kernel_rfl)
instance iW26_2 : ElT Tryz.prog 9 1 := ElT.mk' (by kernel_rfl)
instance iW26_3 : FnOk Tryz.prog 104 := ⟨⟨Tryz.f104, Tryz.func104, by kernel_rfl, by kernel_rfl⟩⟩
instance iW26_4 : FnOk Tryz.prog 105 := ⟨⟨Tryz.f105, Tryz.func105, by kernel_rfl, by kernel_rfl⟩⟩
instance iW26_5 : FnOk Tryz.prog 106 := ⟨⟨Tryz.f106, Tryz.func106, by kernel_rfl, by kernel_rfl⟩⟩
instance iW26_6 : FnOk Tryz.prog 107 := ⟨⟨Tryz.f107, Tryz.func107, by kernel_rfl, by kernel_rfl⟩⟩
instance iW26_7 : FnOk Tryz.prog 110 := ⟨⟨Tryz.f110, Tryz.func110, by kernel_rfl, by kernel_rfl⟩⟩
instance iW26_8 : SlT Tryz.prog 116 119 := ⟨by kernel_rfl⟩
instance iW26_9 : SlT Tryz.prog 232 3 := ⟨by kernel_rfl⟩
instance iW26_10 : SlT Tryz.prog 44 9 := ⟨by kernel_rfl⟩
instance iW26_11 : SzT Tryz.prog 116 1 := ⟨by kernel_rfl⟩
instance iW26_12 : SzT Tryz.prog 119 2 := ⟨by kernel_rfl⟩
instance iW26_13 : SzT Tryz.prog 44 1 := ⟨by kernel_rfl⟩
instance iW26_14 : ZvT Tryz.prog 119 (.agg #[(.string ByteArray.empty), (.int .u64 0)]) := ⟨by kernel_rfl⟩
theorem tt56 : (True) := trivial
theorem tt61 : (True) := trivial
theorem tt105 : (AG Tryz.prog 3 = some false) ∧ (LK Tryz.prog 232 = some 1) := ⟨by kernel_rfl, by kernel_rfl⟩
theorem tt57 : (AG Tryz.prog 43 = some false) ∧ (AG Tryz.prog 9 = some false) ∧ (FO Tryz.prog 119 0 = some 0) ∧ (FO Tryz.prog 119 1 = some 1) := ⟨by kernel_rfl, by kernel_rfl, by kernel_rfl, by kernel_rfl⟩
theorem tt154 : (AG Tryz.prog 116 = some false) ∧ (AG Tryz.prog 119 = some true) ∧ (SZ Tryz.prog 119 = some 2) := ⟨by kernel_rfl, by kernel_rfl, by kernel_rfl⟩
theorem tt159 : (AG Tryz.prog 44 = some false) := by kernel_rfl

def encJ : Enc Int := ⟨fun i => [.int .i64 i], 1, fun _ => rfl, fun x u hu => by simp at hu; subst hu; rfl, by decide⟩
def orI : List Int → Int
  | [] => 0
  | x :: l => if x = 0 then orI l else x
theorem orI_zero : ∀ {d r : List Int}, (∀ x ∈ d, x = 0) → orI (d ++ r) = orI r
  | [], r, _ => rfl
  | x :: d, r, h => by
    rw [List.cons_append, orI, if_pos (h x (List.mem_cons_self ..)), orI_zero (fun y hy => h y (List.mem_cons_of_mem _ hy))]
def cmpN (a b : Nm) : Int := orI [cmpI a.1 b.1, cmpI a.2 b.2]
theorem cmpI_neg {κ : Type} [Lt κ] (x y : κ) : (cmpI x y < 0) ↔ Lt.lt x y = true := by
  unfold cmpI; split
  · rename_i h; simp [h]
  · rename_i h; split <;> simp [h]
theorem cmpI_zero {κ : Type} [Lt κ] (x y : κ) : (cmpI x y = 0) ↔ x = y := by
  unfold cmpI; split
  · rename_i h; simp only [Int.reduceNeg, Int.reduceEq, reduceCtorEq, false_iff]; exact Lt.ne h
  · rename_i h; split
    · rename_i h2; simp only [reduceCtorEq, false_iff, Int.reduceEq]; exact fun e => Lt.ne h2 e.symm
    · rename_i h2
      simp only [true_iff]
      rcases Lt.tri x y with q | q | q
      · exact absurd q h
      · exact q
      · exact absurd q h2
theorem cmpN_neg (a b : Nm) : (cmpN a b < 0) ↔ Lt.lt a b = true := by
  unfold cmpN orI orI orI
  have e : Lt.lt a b = (Lt.lt a.1 b.1 || (decide (a.1 = b.1) && Lt.lt a.2 b.2)) := rfl
  rw [e]
  by_cases h : a.1 = b.1
  · rw [if_pos ((cmpI_zero _ _).2 h)]
    have h1 := cmpI_neg a.2 b.2
    have h3 : Lt.lt a.1 b.1 = false := by rw [h]; exact Lt.irr _
    by_cases h2 : cmpI a.2 b.2 = 0
    · rw [if_pos h2]
      have : Lt.lt a.2 b.2 = false := by rw [(cmpI_zero _ _).1 h2]; exact Lt.irr _
      simp [h3, this]
    · rw [if_neg h2, h1, h3, h]; simp
  · rw [if_neg (fun q => h ((cmpI_zero _ _).1 q)), cmpI_neg]
    simp [h]
def IA {α : Type} (ST ET Bs : Nat) (enc : Enc α) (pre : List α) : HP := fun h => ∃ ao c, Sep [Ce Bs ([.slice ao pre.length c], ST), Os ET enc (.slice ao pre.length c) pre] h
theorem Own.iaO {α : Type} {ST ET Bs : Nat} {enc : Enc α} {pre : List α} {L : List HP} {w : World} (H : Own (IA ST ET Bs enc pre :: L) w) : ∃ ao c, Own (Ce Bs ([.slice ao pre.length c], ST) :: Os ET enc (.slice ao pre.length c) pre :: L) w := by
  obtain ⟨ao, H⟩ := Sep.ex.1 H
  obtain ⟨c, H⟩ := Sep.ex.1 H
  exact ⟨ao, c, Sep.flat.1 H⟩
theorem Own.iaC {α : Type} {ST ET Bs : Nat} {enc : Enc α} {pre : List α} {ao : Option Addr} {n c : Nat} {L : List HP} {w : World} (hn : n = pre.length) (H : Own (Ce Bs ([.slice ao n c], ST) :: Os ET enc (.slice ao n c) pre :: L) w) : Own (IA ST ET Bs enc pre :: L) w := by
  subst hn
  exact Sep.ex.2 ⟨ao, Sep.ex.2 ⟨c, Sep.flat.2 H⟩⟩
theorem lq_subE {P : Program} {N : Nat} {ops : Array Oper} {l : List Oper} {env env' : Env} {w : World} {K : Env → World → Prop} (hs : sube env' env) (h : lq P N ops l env' w K) : lq P N ops l env w K := fun Q hK a ha => h Q hK a (ha.sub hs)
theorem encN_f (x : Nm) : encN.f x = [.string x.1, .int .u64 x.2] := rfl
theorem encN_n : encN.n = 2 := rfl
theorem mapKeysN_ok {b : Nat} {F : List HP} {w : World} (H : Own F w) :
  Cl Tryz.prog 56 #[.map (some b)] w fun v w' => ∃ Bm, v = .func (.func 104) #[] #[.pointer (some ⟨Bm, 0, none⟩)] ∧ Own (Ce Bm ([.map (some b)], 123) :: F) w' := by
  refine cl_of_cw Tryz.func56 rfl ?_
  simp only [Tryz.ntmps56, envA, List.size_toArray, List.length_cons, List.length_nil, Nat.reduceAdd, Nat.reduceSub]
  refine cw_seq (fun K1 h1 => ?_)
  refine cw_region (lq_run ?_)
  simp (maxSteps := 500000) (decide := true) (disch := omega) only [EV, ↓reduceIte, Nat.reduceAdd, tt56]
  refine lq_box H rfl (fun b1 w H => ?_)
  try simp only [ES] at H
  simp (maxSteps := 500000) (decide := true) (disch := omega) only [EV, ↓reduceIte, Nat.reduceAdd, tt56]
  refine lq_nil ?_
  refine h1 _ _ ?_
  refine cw_seq (fun K2 h2 => ?_)
  refine cw_region (lq_run ?_)
  simp (maxSteps := 500000) (decide := true) (disch := omega) only [EV, ↓reduceIte, Nat.reduceAdd, tt56]
  refine lq_nil ?_
  refine h2 _ _ ?_
  refine cw_ret ?_
  try simp (decide := true) only [EX, ↓reduceIte]
  refine ret1 rfl ?_
  exact ⟨b1, rfl, H⟩
theorem mapKeysS_ok {b : Nat} {F : List HP} {w : World} (H : Own F w) :
  Cl Tryz.prog 61 #[.map (some b)] w fun v w' => ∃ Bm, v = .func (.func 110) #[] #[.pointer (some ⟨Bm, 0, none⟩)] ∧ Own (Ce Bm ([.map (some b)], 96) :: F) w' := by
  refine cl_of_cw Tryz.func61 rfl ?_
  simp only [Tryz.ntmps61, envA, List.size_toArray, List.length_cons, List.length_nil, Nat.reduceAdd, Nat.reduceSub]
  refine cw_seq (fun K1 h1 => ?_)
  refine cw_region (lq_run ?_)
  simp (maxSteps := 500000) (decide := true) (disch := omega) only [EV, ↓reduceIte, Nat.reduceAdd, tt61]
  refine lq_box H rfl (fun b1 w H => ?_)
  try simp only [ES] at H
  simp (maxSteps := 500000) (decide := true) (disch := omega) only [EV, ↓reduceIte, Nat.reduceAdd, tt61]
  refine lq_nil ?_
  refine h1 _ _ ?_
  refine cw_seq (fun K2 h2 => ?_)
  refine cw_region (lq_run ?_)
  simp (maxSteps := 500000) (decide := true) (disch := omega) only [EV, ↓reduceIte, Nat.reduceAdd, tt61]
  refine lq_nil ?_
  refine h2 _ _ ?_
  refine cw_ret ?_
  try simp (decide := true) only [EX, ↓reduceIte]
  refine ret1 rfl ?_
  exact ⟨b1, rfl, H⟩
theorem orI_ok {ao : Option Addr} {n c : Nat} {xs : List Int} {F : List HP} {w : World} (H : Own F w) (hR : Ent F (Row ao encJ xs)) (hn : n = xs.length) (hb : xs.length ≤ 1099511627776) :
  Cl Tryz.prog 105 #[.slice ao n c] w fun v w' => v = .int .i64 (orI xs) ∧ Own F w' := by
  subst hn
  refine cl_of_cw Tryz.func105 rfl ?_
  simp only [Tryz.ntmps105, envA, List.size_toArray, List.length_cons, List.length_nil, Nat.reduceAdd, Nat.reduceSub]
  refine cw_seq (fun K1 h1 => ?_)
  refine cw_region (lq_run ?_)
  simp (maxSteps := 500000) (decide := true) (disch := omega) only [EV, ↓reduceIte, Nat.reduceAdd, tt105]
  refine lq_nil ?_
  refine h1 _ _ ?_
  refine cw_seq (fun K2 h2 => ?_)
  refine cw_region (lq_run ?_)
  simp (maxSteps := 500000) (decide := true) (disch := omega) only [EV, ↓reduceIte, Nat.reduceAdd, tt105]
  refine lq_nil ?_
  refine h2 _ _ ?_
  refine cw_seq (fun K3 h3 => ?_)
  refine cw_seq (fun K4 h4 => ?_)
  refine cw_region (lq_run ?_)
  simp (maxSteps := 500000) (decide := true) (disch := omega) only [EV, ↓reduceIte, Nat.reduceAdd, tt105]
  refine lq_nil ?_
  refine h4 _ _ ?_
  refine cw_block ?_
  refine cw_loopC (X := List Int × List Int) [(3, _), (6, _), (7, _)] (fun x => [(8, .int .i64 (x.1.length : Int))]) (fun x w => xs = x.1 ++ x.2 ∧ (∀ y ∈ x.1, y = 0) ∧ Own F w) (fun x => x.2.length) ([], xs) (.c rfl (.c rfl (.c rfl .n))) (.c rfl .n) ⟨rfl, by simp, H⟩ ?_
  rintro ⟨d, r⟩ w ⟨hd, hz, H⟩
  simp only [List.cons_append, List.nil_append]
  simp only at hd hz H ⊢
  refine cw_seq (fun K5 h5 => ?_)
  refine cw_region (lq_run ?_)
  simp (maxSteps := 500000) (decide := true) (disch := omega) only [EV, ↓reduceIte, Nat.reduceAdd, tt105]
  refine lq_nil ?_
  refine h5 _ _ ?_
  refine cw_seq (fun K6 h6 => ?_)
  refine cw_condB rfl (fun c9 => ?_) (fun c9 => ?_)
  · skip
    try simp only [HB] at c9
    obtain ⟨s, r2, rfl, he⟩ := zip_more hd c9
    refine cw_skip ?_
    refine h6 _ _ ?_
    refine cw_seq (fun K7 h7 => ?_)
    refine cw_block ?_
    refine cw_seq (fun K8 h8 => ?_)
    refine cw_region (lq_run ?_)
    simp (maxSteps := 500000) (decide := true) (disch := omega) only [EV, ↓reduceIte, Nat.reduceAdd, tt105]
    refine lq_idx (i' := d.length) H rfl rfl hR (Nat.le_refl _) rfl he ?_
    simp (maxSteps := 500000) (decide := true) (disch := omega) only [EV, ↓reduceIte, Nat.reduceAdd, tt105]
    refine lq_loadE H rfl hR he rfl ?_
    simp (maxSteps := 500000) (decide := true) (disch := omega) only [EV, ↓reduceIte, Nat.reduceAdd, tt105]
    refine lq_nil ?_
    refine h8 _ _ ?_
    refine cw_seq (fun K9 h9 => ?_)
    refine cw_region (lq_run ?_)
    simp (maxSteps := 500000) (decide := true) (disch := omega) only [EV, ↓reduceIte, Nat.reduceAdd, tt105]
    refine lq_nil ?_
    refine h9 _ _ ?_
    refine cw_condB rfl (fun c14 => ?_) (fun c14 => ?_)
    · skip
      try simp only [HB] at c14
      refine cw_seq (fun K10 h10 => ?_)
      refine cw_region (lq_run ?_)
      simp (maxSteps := 500000) (decide := true) (disch := omega) only [EV, ↓reduceIte, Nat.reduceAdd, tt105]
      refine lq_nil ?_
      refine h10 _ _ ?_
      refine cw_ret ?_
      try simp (decide := true) only [EX, ↓reduceIte]
      refine ret1 rfl ?_
      refine ⟨?_, H⟩
      rw [hd, orI_zero hz, orI, if_neg c14]
    · skip
      try simp only [HB] at c14
      refine cw_skip ?_
      refine h7 _ _ ?_
      refine cw_region (lq_run ?_)
      simp (maxSteps := 500000) (decide := true) (disch := omega) only [EV, ↓reduceIte, Nat.reduceAdd, tt105]
      refine lq_nil ?_
      refine Exists.intro (d ++ [s], r2) ⟨⟨(.c (by rw [List.length_append]; rfl) .n), (.c rfl (.c rfl (.c rfl .n)))⟩, ⟨by simp [hd], by intro y hy; rcases List.mem_append.1 hy with hy | hy; exact hz y hy; simp at hy; subst hy; exact c14, H⟩, (by simp)⟩
  · skip
    try simp only [HB] at c9
    obtain ⟨rfl, rfl⟩ := zip_done hd c9
    refine cw_exit ?_
    refine h3 _ _ ?_
    refine cw_seq (fun K11 h11 => ?_)
    refine cw_region (lq_run ?_)
    simp (maxSteps := 500000) (decide := true) (disch := omega) only [EV, ↓reduceIte, Nat.reduceAdd, tt105]
    refine lq_nil ?_
    refine h11 _ _ ?_
    refine cw_ret ?_
    try simp (decide := true) only [EX, ↓reduceIte]
    refine ret1 rfl ?_
    refine ⟨?_, H⟩
    have := orI_zero (r := []) hz
    rw [List.append_nil] at this
    rw [this]; rfl
theorem byName_ok {x y : Nm} {F : List HP} {w : World} (H : Own F w) :
  Cl Tryz.prog 57 #[.agg #[.string x.1, .int .u64 x.2], .agg #[.string y.1, .int .u64 y.2]] w fun v w' => v = .int .i64 (cmpN x y) ∧ Own F w' := by
  refine cl_of_cw Tryz.func57 rfl ?_
  simp only [Tryz.ntmps57, envA, List.size_toArray, List.length_cons, List.length_nil, Nat.reduceAdd, Nat.reduceSub]
  refine cw_seq (fun K1 h1 => ?_)
  refine cw_region (lq_run ?_)
  simp (maxSteps := 500000) (decide := true) (disch := omega) only [EV, ↓reduceIte, Nat.reduceAdd, tt57]
  refine lq_box H rfl (fun b2 w H => ?_)
  try simp only [ES] at H
  simp (maxSteps := 500000) (decide := true) (disch := omega) only [EV, ↓reduceIte, Nat.reduceAdd, tt57]
  refine lq_box H rfl (fun b3 w H => ?_)
  try simp only [ES] at H
  simp (maxSteps := 500000) (decide := true) (disch := omega) only [EV, ↓reduceIte, Nat.reduceAdd, tt57]
  refine lq_nil ?_
  refine h1 _ _ ?_
  refine cw_seq (fun K2 h2 => ?_)
  refine cw_draw [(0, 0), (1, 1), (2, 0), (3, 1), (5, 0), (6, 1), (7, 0), (8, 1), (4, 2), (9, 3), (10, 3), (11, 3), (12, 0)] rfl (by kernel_rfl) (fun c env w => by simp (decide := true) only [EX, not_false_eq_true]) H (fun w H => ?_)
  have H0 := H
  refine dq_run ?_
  simp (maxSteps := 500000) (decide := true) (disch := omega) only [EV, ↓reduceIte, Nat.reduceAdd, tt57]
  refine dq_load H0 rfl ?_
  simp (maxSteps := 500000) (decide := true) (disch := omega) only [EV, ↓reduceIte, Nat.reduceAdd, tt57]
  refine dq_load H0 rfl ?_
  simp (maxSteps := 500000) (decide := true) (disch := omega) only [EV, ↓reduceIte, Nat.reduceAdd, tt57]
  refine dq_load H0 rfl ?_
  simp (maxSteps := 500000) (decide := true) (disch := omega) only [EV, ↓reduceIte, Nat.reduceAdd, tt57]
  refine dq_load H0 rfl ?_
  simp (maxSteps := 500000) (decide := true) (disch := omega) only [EV, ↓reduceIte, Nat.reduceAdd, tt57]
  refine dq_act (by decide) rfl ?_
  refine lq_call rfl ?_
  refine Cl.mono (cmpS_ok H) ?_
  rintro _ w ⟨rfl, H⟩
  refine lr_nil ?_
  replace H0 := H.wkTo H0
  refine ⟨fun _ => H0, ?_⟩
  simp (maxSteps := 500000) (decide := true) (disch := omega) only [EV, ↓reduceIte, Nat.reduceAdd, tt57]
  refine dq_act (by decide) rfl ?_
  refine lq_call rfl ?_
  refine Cl.mono (cmpID_ok H) ?_
  rintro _ w ⟨rfl, H⟩
  refine lr_nil ?_
  refine ⟨fun hh => absurd hh (by decide), ?_⟩
  simp (maxSteps := 500000) (decide := true) (disch := omega) only [EV, ↓reduceIte, Nat.reduceAdd, tt57]
  refine dq_act (by decide) rfl ?_
  refine lq_bs H rfl rfl (by rfl) rfl (by decide) (fun b15 w H => ?_)
  try simp only [ES] at H
  replace H := H.os encJ [cmpI x.1 y.1, cmpI x.2 y.2] rfl rfl
  refine lr_nil ?_
  refine ⟨fun hh => absurd hh (by decide), ?_⟩
  simp (maxSteps := 500000) (decide := true) (disch := omega) only [EV, ↓reduceIte, Nat.reduceAdd, tt57]
  refine dq_act (by decide) rfl ?_
  refine lq_call rfl ?_
  refine Cl.mono (orI_ok H Ent.os rfl (by simp)) ?_
  rintro _ w ⟨rfl, H⟩
  refine lr_nil ?_
  refine ⟨fun hh => absurd hh (by decide), ?_⟩
  simp (maxSteps := 500000) (decide := true) (disch := omega) only [EV, ↓reduceIte, Nat.reduceAdd, tt57]
  refine dq_nil ?_
  refine h2 _ _ ?_
  refine cw_ret ?_
  try simp (decide := true) only [EX, ↓reduceIte]
  refine ret1 rfl ?_
  exact ⟨rfl, H.wk⟩
theorem apN_ok {gf : Nat} {lb : Array Value} {n : Nat} {S : List Nm → Prop} {F : List HP} {w : World} (eg : ∀ args w, (callFunc gf args).run Tryz.prog w = .ok (.enter gf args) w) (hS : Gives Tryz.prog gf lb EmV.ke F n S) (hb : n ≤ 1073741824) (H : Own F w) :
  Cl Tryz.prog 154 #[.slice none 0 0, .func (.func gf) #[] lb] w fun v w' => ∃ xs ao c, v = .slice ao xs.length c ∧ S xs ∧ Own (Os 119 encN (.slice ao xs.length c) xs :: F) w' := by
  refine (callsIn_wide (n := 6)).1 ?_
  refine callsIn_of_wp_marks Tryz.func154 rfl trivial ?_ rfl
  simp only [Tryz.ntmps154, List.size_toArray, List.length_cons, List.length_nil, Nat.reduceAdd, Nat.reduceSub, Array.replicate_succ, Array.replicate_zero, List.push_toArray, List.append_toArray, List.nil_append, List.cons_append]
  gi_wp2
  have H0 := H.ceNew (cs := #[.slice none 0 0]) (T := 116)
  obtain ⟨W0, hW0⟩ : ∃ W0, w.alloc (.cells #[.slice none 0 0] 116) = W0 := ⟨_, rfl⟩
  rw [hW0] at H0 ⊢
  obtain ⟨Bs, hBs⟩ : ∃ Bs, w.heap.size = Bs := ⟨_, rfl⟩
  rw [hBs] at H0 ⊢
  clear hW0 hBs H
  have H1 : Own (IA 116 119 Bs encN [] :: F) W0 := Own.iaC (ao := none) (n := 0) (c := 0) rfl (Sep.swap (Os.nil 119 encN H0))
  refine rangeFn (N := 13) (env0 := fun x => [(2, .pointer (some ⟨Bs, 0, none⟩)), (7, EmV.ke x)]) (I := IA 116 119 Bs encN) (fun pre x env A => ∃ b5, sube [(2, .pointer (some ⟨Bs, 0, none⟩)), (5, .pointer (some ⟨b5, 0, none⟩))] env ∧ A = Sep [IA 116 119 Bs encN pre, Ce b5 ([.string x.1, .int .u64 x.2], 119)]) rfl eg hS (fun x => ⟨rfl, by simp, fun i v hl => ?_⟩) rfl rfl H1 (fun pre x G w hlen H => ?_) ?_ (fun xs D w' hxs HI => ?_)
  · unfold look at hl
    split at hl
    · rename_i e; subst e; cases hl; simp
    · unfold look at hl
      split at hl
      · rename_i e; subst e; cases hl; simp
      · cases hl
  · refine lq_run ?_
    rw [EmV_ke]
    simp (maxSteps := 500000) (decide := true) (disch := omega) only [EV, ↓reduceIte, Nat.reduceAdd, tt154]
    refine lq_new H (fun b5 w H => ?_)
    try simp only [ES] at H
    simp (maxSteps := 500000) (decide := true) (disch := omega) only [EV, ↓reduceIte, Nat.reduceAdd, tt154]
    refine lq_st H rfl rfl rfl (fun w H => ?_)
    try simp only [ES] at H
    simp (maxSteps := 500000) (decide := true) (disch := omega) only [EV, ↓reduceIte, Nat.reduceAdd, tt154]
    refine lq_nil ?_
    exact ⟨_, ⟨b5, .c rfl (.c rfl .n), rfl⟩, Sep.flat.2 (Sep.swap H)⟩
  · rintro pre x env' A G w hlen ⟨b5, hsub, rfl⟩ H
    refine lq_subE hsub ?_
    replace H : Own (IA 116 119 Bs encN pre :: Ce b5 ([.string x.1, .int .u64 x.2], 119) :: G) w := Sep.flat.1 H
    obtain ⟨ao, c, H⟩ := H.iaO
    refine lq_run ?_
    simp (maxSteps := 500000) (decide := true) (disch := omega) only [EV, ↓reduceIte, Nat.reduceAdd, tt154]
    refine lq_load H rfl ?_
    simp (maxSteps := 500000) (decide := true) (disch := omega) only [EV, ↓reduceIte, Nat.reduceAdd, tt154]
    refine lq_load H rfl ?_
    simp (maxSteps := 500000) (decide := true) (disch := omega) only [EV, ↓reduceIte, Nat.reduceAdd, tt154]
    refine lq_bs H rfl rfl (by rfl) rfl (by decide) (fun b10 w H => ?_)
    try simp only [ES] at H
    simp (maxSteps := 500000) (decide := true) (disch := omega) only [EV, ↓reduceIte, Nat.reduceAdd, tt154]
    refine lq_app1 (enc := encN) x H rfl rfl rfl (by rw [encN_n]; omega) (fun ao' c' w H => ?_)
    simp (maxSteps := 500000) (decide := true) (disch := omega) only [EV, ↓reduceIte, Nat.reduceAdd, tt154]
    refine lq_st H rfl rfl rfl (fun w H => ?_)
    try simp only [ES] at H
    simp (maxSteps := 500000) (decide := true) (disch := omega) only [EV, ↓reduceIte, Nat.reduceAdd, tt154]
    refine lq_nil ?_
    exact Own.iaC (ao := ao') (n := pre.length + 1) (c := c') (by simp) H.wk
  · obtain ⟨ao, c, H⟩ := HI.iaO
    have hc : w'.cell? ⟨Bs, 0, none⟩ = some (.slice ao xs.length c) := by rw [H.cell]; rfl
    have hD := (H.tkR (R := Bk) (k := D)).bk
    gi_wp2
    refine ⟨by simp, .inl ⟨_, _, rfl, run_takeDeferred hD, ?_⟩⟩
    exact ⟨_, results_tmp rfl _ _ _, xs, ao, c, rfl, hxs, ((H.tkR (R := Bk) (k := D)).bkTurn _).wk⟩
theorem apS_ok {gf : Nat} {lb : Array Value} {n : Nat} {S : List ByteArray → Prop} {F : List HP} {w : World} (eg : ∀ args w, (callFunc gf args).run Tryz.prog w = .ok (.enter gf args) w) (hS : Gives Tryz.prog gf lb EmL.ke F n S) (hb : n ≤ 1073741824) (H : Own F w) :
  Cl Tryz.prog 159 #[.slice none 0 0, .func (.func gf) #[] lb] w fun v w' => ∃ xs ao c, v = .slice ao xs.length c ∧ S xs ∧ Own (Os 9 encS (.slice ao xs.length c) xs :: F) w' := by
  refine (callsIn_wide (n := 6)).1 ?_
  refine callsIn_of_wp_marks Tryz.func159 rfl trivial ?_ rfl
  simp only [Tryz.ntmps159, List.size_toArray, List.length_cons, List.length_nil, Nat.reduceAdd, Nat.reduceSub, Array.replicate_succ, Array.replicate_zero, List.push_toArray, List.append_toArray, List.nil_append, List.cons_append]
  gi_wp2
  have H0 := H.ceNew (cs := #[.slice none 0 0]) (T := 44)
  obtain ⟨W0, hW0⟩ : ∃ W0, w.alloc (.cells #[.slice none 0 0] 44) = W0 := ⟨_, rfl⟩
  rw [hW0] at H0 ⊢
  obtain ⟨Bs, hBs⟩ : ∃ Bs, w.heap.size = Bs := ⟨_, rfl⟩
  rw [hBs] at H0 ⊢
  clear hW0 hBs H
  have H1 : Own (IA 44 9 Bs encS [] :: F) W0 := Own.iaC (ao := none) (n := 0) (c := 0) rfl (Sep.swap (Os.nil 9 encS H0))
  refine rangeFn (N := 13) (env0 := fun x => [(2, .pointer (some ⟨Bs, 0, none⟩)), (7, EmL.ke x)]) (I := IA 44 9 Bs encS) (fun pre x env A => sube [(2, .pointer (some ⟨Bs, 0, none⟩)), (5, .string x)] env ∧ A = IA 44 9 Bs encS pre) rfl eg hS (fun x => ⟨rfl, by simp, fun i v hl => ?_⟩) rfl rfl H1 (fun pre x G w hlen H => ?_) ?_ (fun xs D w' hxs HI => ?_)
  · unfold look at hl
    split at hl
    · rename_i e; subst e; cases hl; simp
    · unfold look at hl
      split at hl
      · rename_i e; subst e; cases hl; simp
      · cases hl
  · refine lq_run ?_
    rw [EmL_ke]
    simp (maxSteps := 500000) (decide := true) (disch := omega) only [EV, ↓reduceIte, Nat.reduceAdd, tt159]
    refine lq_nil ?_
    exact ⟨_, ⟨.c rfl (.c rfl .n), rfl⟩, H⟩
  · rintro pre x env' A G w hlen ⟨hsub, rfl⟩ H
    refine lq_subE hsub ?_
    obtain ⟨ao, c, H⟩ := H.iaO
    refine lq_run ?_
    simp (maxSteps := 500000) (decide := true) (disch := omega) only [EV, ↓reduceIte, Nat.reduceAdd, tt159]
    refine lq_load H rfl ?_
    simp (maxSteps := 500000) (decide := true) (disch := omega) only [EV, ↓reduceIte, Nat.reduceAdd, tt159]
    
    refine lq_bs H rfl rfl (by rfl) rfl (by decide) (fun b10 w H => ?_)
    try simp only [ES] at H
    simp (maxSteps := 500000) (decide := true) (disch := omega) only [EV, ↓reduceIte, Nat.reduceAdd, tt159]
    refine lq_app1 (enc := encS) x H rfl rfl rfl (by rw [encS_n]; omega) (fun ao' c' w H => ?_)
    simp (maxSteps := 500000) (decide := true) (disch := omega) only [EV, ↓reduceIte, Nat.reduceAdd, tt159]
    refine lq_st H rfl rfl rfl (fun w H => ?_)
    try simp only [ES] at H
    simp (maxSteps := 500000) (decide := true) (disch := omega) only [EV, ↓reduceIte, Nat.reduceAdd, tt159]
    refine lq_nil ?_
    exact Own.iaC (ao := ao') (n := pre.length + 1) (c := c') (by simp) H.wk
  · obtain ⟨ao, c, H⟩ := HI.iaO
    have hc : w'.cell? ⟨Bs, 0, none⟩ = some (.slice ao xs.length c) := by rw [H.cell]; rfl
    have hD := (H.tkR (R := Bk) (k := D)).bk
    gi_wp2
    refine ⟨by simp, .inl ⟨_, _, rfl, run_takeDeferred hD, ?_⟩⟩
    exact ⟨_, results_tmp rfl _ _ _, xs, ao, c, rfl, hxs, ((H.tkR (R := Bk) (k := D)).bkTurn _).wk⟩
end Go.Rp
