/-
  snap.Read and snap.Build.
-/
import Derived.Test.YtidoehfmbnngpaaGreatProg
import Derived.Test.YtidoehfmbnngpaaGreatPi
set_option linter.unusedVariables false
set_option linter.unusedSimpArgs false
set_option maxHeartbeats 1000000
set_option maxRecDepth 100000
namespace Go.Rp
open Go.Proofs
instance iW32_0 : ByT Tryz.prog 23 := ⟨⟨5, by kernel_rfl, by kernel_rfl⟩⟩
instance iW32_1 : ElT Tryz.prog 48 5 := ElT.mk' (by kernel_rfl)
instance iW32_2 : ElT Tryz.prog 5 1 := ElT.mk' (by kernel_rfl)
instance iW32_3 : FnOk Tryz.prog 35 := ⟨⟨Tryz.f35, Tryz.func35, by kernel_rfl, by kernel_rfl⟩⟩
instance iW32_4 : FnOk Tryz.prog 36 := ⟨⟨Tryz.f36, Tryz.func36, by kernel_rfl, by kernel_rfl⟩⟩
instance iW32_5 : FnOk Tryz.prog 37 := ⟨⟨Tryz.f37, Tryz.func37, by kernel_rfl, by kernel_rfl⟩⟩
instance iW32_6 : FnOk Tryz.prog 38 := ⟨⟨Tryz.f38, Tryz.func38, by kernel_rfl, by kernel_rfl⟩⟩
instance iW32_7 : FnOk Tryz.prog 39 := ⟨⟨Tryz.f39, Tryz.func39, by kernel_rfl, by kernel_rfl⟩⟩
instance iW32_8 : FnOk Tryz.prog 40 := ⟨⟨Tryz.f40, Tryz.func40, by kernel_rfl, by kernel_rfl⟩⟩
instance iW32_9 : FnOk Tryz.prog 41 := ⟨⟨Tryz.f41, Tryz.func41, by kernel_rfl, by kernel_rfl⟩⟩
instance iW32_10 : FnOk Tryz.prog 42 := ⟨⟨Tryz.f42, Tryz.func42, by kernel_rfl, by kernel_rfl⟩⟩
instance iW32_11 : FnOk Tryz.prog 43 := ⟨⟨Tryz.f43, Tryz.func43, by kernel_rfl, by kernel_rfl⟩⟩
instance iW32_12 : FnOk Tryz.prog 44 := ⟨⟨Tryz.f44, Tryz.func44, by kernel_rfl, by kernel_rfl⟩⟩
instance iW32_13 : FnOk Tryz.prog 45 := ⟨⟨Tryz.f45, Tryz.func45, by kernel_rfl, by kernel_rfl⟩⟩
instance iW32_14 : FnOk Tryz.prog 46 := ⟨⟨Tryz.f46, Tryz.func46, by kernel_rfl, by kernel_rfl⟩⟩
instance iW32_15 : MpT Tryz.prog 96 9 43 := ⟨by kernel_rfl⟩
instance iW32_16 : SlT Tryz.prog 23 5 := ⟨by kernel_rfl⟩
instance iW32_17 : SlT Tryz.prog 34 48 := ⟨by kernel_rfl⟩
instance iW32_18 : StT Tryz.prog 9 := ⟨by kernel_rfl⟩
instance iW32_19 : SzT Tryz.prog 46 4 := ⟨by kernel_rfl⟩
instance iW32_20 : ZvT Tryz.prog 43 (.int .u64 0) := ⟨by kernel_rfl⟩
instance iW32_21 : ZvT Tryz.prog 46 (.agg #[(.string ByteArray.empty), (.int .u64 0), (.string ByteArray.empty), (.slice none 0 0)]) := ⟨by kernel_rfl⟩
theorem tt7 : (AG Tryz.prog 43 = some false) ∧ (AG Tryz.prog 46 = some true) ∧ (AG Tryz.prog 9 = some false) ∧ (BU Tryz.prog 46 = some ([(.string ByteArray.empty), (.int .u64 0), (.string ByteArray.empty), (.slice none 0 0)], [(0, 1), (1, 1), (2, 1), (3, 1)])) ∧ (BU Tryz.prog 48 = some ([(.string ByteArray.empty), (.int .u64 0), (.string ByteArray.empty), (.slice none 0 0), (.int .i64 0)], [(0, 4), (4, 1)])) ∧ (FO Tryz.prog 46 0 = some 0) ∧ (FO Tryz.prog 46 1 = some 1) ∧ (IKn Tryz.prog 2 = some .i64) ∧ (IKn Tryz.prog 23 = none) ∧ (IKn Tryz.prog 42 = some .u64) ∧ (IKn Tryz.prog 9 = none) ∧ (LK Tryz.prog 23 = some 1) ∧ (SZ Tryz.prog 46 = some 4) := ⟨by kernel_rfl, by kernel_rfl, by kernel_rfl, by kernel_rfl, by kernel_rfl, by kernel_rfl, by kernel_rfl, by kernel_rfl, by kernel_rfl, by kernel_rfl, by kernel_rfl, by kernel_rfl, by kernel_rfl⟩

section
variable {P : Program} {N : Nat} {ops : Array Oper} {L0 : List HP} {rd : List (Oper × Nat)} {env : Env} {w : World} {K : Env → World → Prop}
theorem dq_str {s d : TypeId} {x : Operand} {ao : Option Addr} {n c : Nat} {xs : List UInt8} {dst : Option Tmp} {ty : TypeId} {p : String} {af : Array Edge} {M : List HP} (H : Own L0 w) [bt : ByT P s] [st : StT P d]
    (hx : evo env x = some (.slice ao n c)) (hR : Ent M (Row ao encB xs)) [wk : Wk L0 M] (hn : n = xs.length) (h : dr P N ops L0 rd (put N env dst (.string (bs xs))) w K) :
    dq P N ops L0 ((⟨dst, .convert s d x, ty, p, af, none⟩, 1) :: rd) env w K := by
  subst hn
  refine dq_rd H (fun a hs w H => ?_) rfl h
  obtain ⟨e, he1, he2⟩ := bt.out
  have hrow := hR.up _ H
  have key : (Conv.bytesToString (.slice ao xs.length c)).run P w = .ok (.string (bs xs)) w := by
    rcases hrow.1 with rfl | ⟨b, off, rfl⟩
    · cases ao with
      | none => rfl
      | some a =>
        have hl : (loadCells a 0).run P w = .ok ((([] : List Int).map (Value.int .u8)).toArray) w := by rfl
        exact run_bytesToString w a 0 c _ hl
    · have hl : (loadCells ⟨b, off, none⟩ xs.length).run P w = .ok (((xs.map fun b => ((b.toNat : Nat) : Int)).map (Value.int .u8)).toArray) w := by
        have := run_loadCells_list (P := P) w ⟨b, off, none⟩ (xs.map fun b => Value.int .u8 b.toNat) (fun j v hj => by
          rw [List.getElem?_map, Option.map_eq_some_iff] at hj
          obtain ⟨u, hu, rfl⟩ := hj
          have := cellH_hp (hrow.2 j u hu 0 _ rfl)
          simp only [elA, bO, encB, Nat.mul_one, Nat.add_zero] at this
          simp only [Addr.add]
          split
          · rename_i e; subst e; simpa using this
          · exact this)
        rw [List.length_map] at this
        rw [this, List.map_map]; rfl
      rw [run_bytesToString w ⟨b, off, none⟩ xs.length c _ hl, foldl_push]
      congr 1
      simp [bs]
  simp only [execOp, evo_sound hs hx]
  rw [Sem.run_bind, run_convert_bytes_string w s d e ao xs.length c he1 he2 st.out, key]
  rfl
end
theorem Row.sub0 {α : Type} {ao : Option Addr} {enc : Enc α} {xs : List α} {g : Hp} (e : Row ao enc xs g) (sz k c : Nat) : subA ao sz 0 k c = ao := by
  rcases e.1 with e0 | ⟨b, off, rfl⟩
  · unfold subA; split
    · rfl
    · cases ao <;> simp [Addr.add]
  · exact subA0
theorem bs_eq {a b : List UInt8} : bs a = bs b ↔ a = b := ⟨fun h => by simpa [bs] using h, fun h => by rw [h]⟩
theorem rdLoop_len {most : Int} : ∀ (n : Nat) (acc : List ByteArray) (x : List UInt8 × Int), (rdLoop most n acc x).2.1.length ≤ x.1.length
  | 0, acc, x => Nat.le_refl _
  | n + 1, acc, x => by
    unfold rdLoop
    split
    · exact Nat.le_trans (rdLoop_len n _ _) (rdText_len most x)
    · exact rdText_len most x
theorem rdTexts_len (count most : Int) (x : List UInt8 × Int) : (rdTexts count most x).2.1.length ≤ x.1.length := by
  unfold rdTexts
  simp only
  split
  · exact Nat.le_trans (rdLoop_len _ _ _) (rdCount_len count x).1
  · exact Nat.le_refl _
theorem rdTexts_most (x : List UInt8 × Int) : (rdTexts 1024 65535 x).1.length ≤ 1024 := by
  by_cases h : (rdTexts 1024 65535 (x.1, x.2)).2.2 = 0
  · have := (rdTexts_inv h).2.2.1
    have e : mx 1024 = 1024 := rfl
    rw [e] at this
    exact Int.ofNat_le.1 this
  · unfold rdTexts at h ⊢
    simp only at h ⊢
    split at h
    · exact absurd ‹_› h
    · rename_i q; rw [if_neg q]; exact Nat.zero_le _
theorem rdKepts_nil {m : List (ByteArray × Int)} {now : Int} {n : Nat} {acc : List (Nm × Hd)} {x : List UInt8 × Int} (h : ¬ x.2 = 0) : rdKepts m now n acc x = (acc, x) := by
  cases n with
  | zero => rfl
  | succ n => exact if_neg h
theorem rdKepts_step {m : List (ByteArray × Int)} {now : Int} {n : Nat} {acc : List (Nm × Hd)} {x : List UInt8 × Int} (h : x.2 = 0) : rdKepts m now (n + 1) acc x = rdKepts m now n (acc ++ [rdKept m now x]) (rdK4 x).2 := if_pos h
def roomK (L : Nat) (n : Nat) (x : List UInt8 × Int) : Prop := 20 * n ≤ L + 20 ∧ (x.2 = 0 → 20 * n + x.1.length ≤ L)
theorem roomK_step {L n : Nat} {x : List UInt8 × Int} (h : roomK L n x) (hx : x.2 = 0) : roomK L (n + 1) (rdK4 x).2 := by
  obtain ⟨h1, h2⟩ := h
  have h3 := h2 hx
  refine ⟨by omega, fun h4 => ?_⟩
  have h5 := rdKept_inv (m := []) (now := 0) (rest := x.1) (e := x.2) h4
  have h6 := congrArg List.length h5.2.1
  rw [List.length_append, keptB_len] at h6
  have h7 : (rdK4 (x.1, x.2)).2.1.length = (rdK4 x).2.1.length := rfl
  omega
theorem mval_by (m : List (ByteArray × Int)) (k : ByteArray) : mval EmL m k (.int .u64 0) = .int .u64 ((mget m k).getD 0) := by
  unfold mval; cases mget m k <;> rfl
theorem endZ {e : Int} {r : List UInt8} : (if e = 0 ∧ r ≠ [] then (5 : Int) else e) = 0 ↔ e = 0 ∧ r = [] := by
  split
  · rename_i h; exact ⟨fun q => absurd q (by decide), fun q => absurd q.2 h.2⟩
  · rename_i h; exact ⟨fun q => ⟨q, Classical.byContradiction fun z => h ⟨q, z⟩⟩, fun q => q.1⟩
/-- What Read answers. -/
def ReadP (xs : List UInt8) (now : Int) (F : List HP) (v : Value) (w : World) : Prop :=
  ((now < 0 ∨ 1099511627776 < now) ∧ v = .tuple #[.int .i64 0, .pointer none, .int .i64 1] ∧ Own F w) ∨
  ((0 ≤ now ∧ now ≤ 1099511627776) ∧ ((∃ e, snapOf xs now = .inl e ∧ v = .tuple #[.int .i64 0, .pointer none, .int .i64 e] ∧ Own F w) ∨
    ∃ g S p, snapOf xs now = .inr (g, S) ∧ v = .tuple #[.int .i64 g, .pointer (some ⟨p, 0, none⟩), .int .i64 0] ∧ Own (StoreAt p S :: F) w))
theorem ReadP.bad {xs : List UInt8} {now e : Int} {F : List HP} {w : World} (hn : 0 ≤ now ∧ now ≤ 1099511627776) (h : snapOf xs now = .inl e) (H : Own F w) : ReadP xs now F (.tuple #[.int .i64 0, .pointer none, .int .i64 e]) w := .inr ⟨hn, .inl ⟨e, h, rfl, H⟩⟩
theorem Read_ok {ao : Option Addr} {n c : Nat} {xs : List UInt8} {now : Int} {F : List HP} {w : World} (H : Own F w) (hR : Ent F (Row ao encB xs)) (hn : n = xs.length) (hnc : n ≤ c) (hb : xs.length ≤ 8589934592) :
  Cl Tryz.prog 7 #[.slice ao n c, .int .i64 now] w (ReadP xs now F) := by
  refine cl_of_cw Tryz.func7 rfl ?_
  simp only [Tryz.ntmps7, envA, List.size_toArray, List.length_cons, List.length_nil, Nat.reduceAdd, Nat.reduceSub]
  subst hn
  have h00 := (hR _ H).sub0 1 (xs.length - 4) c
  have hR1 : Ent F (Row ao encB (xs.take (xs.length - 4))) := by have := hR.sub 0 (xs.length - 4) c (by omega); rwa [(hR _ H).sub0, List.drop_zero] at this
  have hR2 : Ent F (Row (subA ao 1 (xs.length - 4) xs.length c) encB (xs.drop (xs.length - 4))) := by have := hR.sub (xs.length - 4) xs.length c (by omega); rwa [List.take_length] at this
  refine cw_seq (fun K1 h1 => ?_)
  refine cw_region (lq_run ?_)
  simp (maxSteps := 500000) (decide := true) (disch := omega) only [EV, ↓reduceIte, Nat.reduceAdd, tt7]
  refine lq_nil ?_
  refine h1 _ _ ?_
  refine cw_seq (fun K2 h2 => ?_)
  refine cw_seq (fun K3 h3 => ?_)
  refine cw_region (lq_run ?_)
  simp (maxSteps := 500000) (decide := true) (disch := omega) only [EV, ↓reduceIte, Nat.reduceAdd, tt7]
  refine lq_G (fun g22 => ?_) (fun g22 => ?_)
  · try simp only [HB] at g22
    simp (maxSteps := 500000) (decide := true) (disch := omega) only [EV, ↓reduceIte, Nat.reduceAdd, tt7]
    refine lq_nil ?_
    refine h3 _ _ ?_
    refine cw_condT rfl ?_
    refine cw_seq (fun K4 h4 => ?_)
    refine cw_region (lq_run ?_)
    simp (maxSteps := 500000) (decide := true) (disch := omega) only [EV, ↓reduceIte, Nat.reduceAdd, tt7]
    refine lq_nil ?_
    refine h4 _ _ ?_
    refine cw_ret ?_
    try simp (decide := true) only [EX, ↓reduceIte]
    refine ret3 rfl rfl rfl ?_
    exact .inl ⟨.inl (by omega), rfl, H⟩
  · try simp only [HB] at g22
    simp (maxSteps := 500000) (decide := true) (disch := omega) only [EV, ↓reduceIte, Nat.reduceAdd, tt7]
    refine lq_nil ?_
    refine h3 _ _ ?_
    refine cw_condB rfl (fun c25 => ?_) (fun c25 => ?_)
    · skip
      try simp only [HB] at c25
      refine cw_seq (fun K5 h5 => ?_)
      refine cw_region (lq_run ?_)
      simp (maxSteps := 500000) (decide := true) (disch := omega) only [EV, ↓reduceIte, Nat.reduceAdd, tt7]
      refine lq_nil ?_
      refine h5 _ _ ?_
      refine cw_ret ?_
      try simp (decide := true) only [EX, ↓reduceIte]
      refine ret3 rfl rfl rfl ?_
      exact .inl ⟨.inr (by omega), rfl, H⟩
    · skip
      try simp only [HB] at c25
      refine cw_skip ?_
      refine h2 _ _ ?_
      refine cw_seq (fun K6 h6 => ?_)
      refine cw_region (lq_run ?_)
      simp (maxSteps := 500000) (decide := true) (disch := omega) only [EV, ↓reduceIte, Nat.reduceAdd, tt7]
      refine lq_nil ?_
      refine h6 _ _ ?_
      refine cw_seq (fun K7 h7 => ?_)
      refine cw_seq (fun K8 h8 => ?_)
      refine cw_draw [(0, 0), (1, 0), (2, 0), (3, 0), (4, 0), (5, 0), (8, 0), (9, 0), (10, 0), (11, 1), (6, 2), (7, 2), (12, 0), (13, 0)] rfl (by kernel_rfl) (fun c env w => by simp (decide := true) only [EX, not_false_eq_true]) H (fun w H => ?_)
      have H0 := H
      refine dq_run ?_
      simp (maxSteps := 500000) (decide := true) (disch := omega) only [EV, ↓reduceIte, Nat.reduceAdd, tt7]
      refine dq_G (fun g31 => ?_) (fun g31 => ?_)
      · try simp only [HB] at g31
        simp (maxSteps := 500000) (decide := true) (disch := omega) only [EV, ↓reduceIte, Nat.reduceAdd, tt7]
        refine dq_skip H0 rfl rfl rfl rfl ?_
        simp (maxSteps := 500000) (decide := true) (disch := omega) only [EV, ↓reduceIte, Nat.reduceAdd, tt7]
        refine dq_skipA rfl (fun _ => H0) rfl rfl rfl rfl ?_
        simp (maxSteps := 500000) (decide := true) (disch := omega) only [EV, ↓reduceIte, Nat.reduceAdd, tt7]
        refine dq_skipA rfl (fun _ => H0) rfl rfl rfl rfl ?_
        simp (maxSteps := 500000) (decide := true) (disch := omega) only [EV, ↓reduceIte, Nat.reduceAdd, tt7]
        refine dq_nil ?_
        refine h8 _ _ ?_
        refine cw_condT rfl ?_
        refine cw_seq (fun K9 h9 => ?_)
        refine cw_region (lq_run ?_)
        simp (maxSteps := 500000) (decide := true) (disch := omega) only [EV, ↓reduceIte, Nat.reduceAdd, tt7]
        refine lq_nil ?_
        refine h9 _ _ ?_
        refine cw_ret ?_
        try simp (decide := true) only [EX, ↓reduceIte]
        refine ret3 rfl rfl rfl ?_
        exact ReadP.bad ⟨by omega, by omega⟩ ((snapOf_eq rfl rfl rfl rfl rfl rfl rfl).1 (.inl (by omega))) H
      · try simp only [HB] at g31
        simp (maxSteps := 500000) (decide := true) (disch := omega) only [EV, ↓reduceIte, Nat.reduceAdd, tt7]
        refine dq_sub 0 (xs.length - 4) (xs.length - 4) rfl rfl ⟨_, _, rfl, by omega⟩ ⟨by omega, by omega, nofun⟩ (by omega) ?_
        rw [h00]
        simp (maxSteps := 500000) (decide := true) (disch := omega) only [EV, ↓reduceIte, Nat.reduceAdd, tt7]
        refine dq_sub (xs.length - 4) xs.length 4 rfl ⟨_, _, rfl, by omega⟩ rfl ⟨by omega, by omega, fun _ => by omega⟩ (by omega) ?_
        simp (maxSteps := 500000) (decide := true) (disch := omega) only [EV, ↓reduceIte, Nat.reduceAdd, tt7]
        refine dq_str H0 rfl hR2 (by rw [List.length_drop]; omega) ?_
        simp (maxSteps := 500000) (decide := true) (disch := omega) only [EV, ↓reduceIte, Nat.reduceAdd, tt7]
        refine dq_act (by decide) rfl ?_
        refine lq_call rfl ?_
        refine Cl.mono (sealOf_ok H hR1 (by rw [List.length_take]; omega) (by rw [List.length_take]; omega)) ?_
        rintro _ w ⟨aos, cs, rfl, H⟩
        refine lr_nil ?_
        replace H0 := H.wkTo H0
        refine ⟨fun _ => H0, ?_⟩
        simp (maxSteps := 500000) (decide := true) (disch := omega) only [EV, ↓reduceIte, Nat.reduceAdd, tt7]
        refine dq_act (by decide) rfl ?_
        refine lq_str H rfl (Ent.os (L := []) (T := 5) (enc := encB) (n := 4) (c := cs) (xs := sealB (xs.take (xs.length - 4)))) (show 4 = (sealB (xs.take (xs.length - 4))).length by simp [sealB, beL_length]) ?_
        refine lr_nil ?_
        replace H0 := H.wkTo H0
        refine ⟨fun _ => H0, ?_⟩
        simp (maxSteps := 500000) (decide := true) (disch := omega) only [EV, ↓reduceIte, Nat.reduceAdd, tt7]
        refine dq_nil ?_
        refine h8 _ _ ?_
        refine cw_condB rfl (fun c42 => ?_) (fun c42 => ?_)
        · skip
          try simp only [HB] at c42
          refine cw_seq (fun K10 h10 => ?_)
          refine cw_region (lq_run ?_)
          simp (maxSteps := 500000) (decide := true) (disch := omega) only [EV, ↓reduceIte, Nat.reduceAdd, tt7]
          refine lq_nil ?_
          refine h10 _ _ ?_
          refine cw_ret ?_
          try simp (decide := true) only [EX, ↓reduceIte]
          refine ret3 rfl rfl rfl ?_
          exact ReadP.bad ⟨by omega, by omega⟩ ((snapOf_eq rfl rfl rfl rfl rfl rfl rfl).1 (.inr fun q => c42 (bs_eq.2 q))) H0
        · skip
          try simp only [HB] at c42
          replace H : Own F w := H0
          have hE : ¬ (xs.length < 4 ∨ ¬ sealB (xs.take (xs.length - 4)) = xs.drop (xs.length - 4)) := by
            rintro (q | q)
            · omega
            · exact q (bs_eq.1 c42)
          refine cw_skip ?_
          refine h7 _ _ ?_
          refine cw_seq (fun K11 h11 => ?_)
          refine cw_region (lq_run ?_)
          simp (maxSteps := 500000) (decide := true) (disch := omega) only [EV, ↓reduceIte, Nat.reduceAdd, tt7]
          refine lq_sub 0 (xs.length - 4) (xs.length - 4) rfl rfl ⟨_, _, rfl, by omega⟩ ⟨by omega, by omega, nofun⟩ (by omega) ?_
          rw [h00]
          simp (maxSteps := 500000) (decide := true) (disch := omega) only [EV, ↓reduceIte, Nat.reduceAdd, tt7]
          refine lq_call rfl ?_
          refine Cl.mono (NewReader_ok H hR1 (by rw [List.length_take]; omega) (by rw [List.length_take]; omega)) ?_
          rintro _ w ⟨p, R, rfl, H⟩
          obtain ⟨x0, hx0⟩ : ∃ y, xs.take (xs.length - 4) = y := ⟨_, rfl⟩
          have hx0l : x0.length ≤ xs.length := by rw [← hx0, List.length_take]; omega
          rw [hx0] at H
          simp (maxSteps := 500000) (decide := true) (disch := omega) only [EV, ↓reduceIte, Nat.reduceAdd, tt7]
          refine lq_nil ?_
          refine h11 _ _ ?_
          refine cw_seq (fun K12 h12 => ?_)
          refine cw_region (lq_run ?_)
          simp (maxSteps := 500000) (decide := true) (disch := omega) only [EV, ↓reduceIte, Nat.reduceAdd, tt7]
          refine lq_call rfl ?_
          refine Cl.mono (rU32_ok H (by omega)) ?_
          rintro _ w ⟨rfl, H⟩
          have hr1 := rdNum_len (n := 4) (x0, 0)
          obtain ⟨⟨fv, r1, e1⟩, hf⟩ : ∃ y, rdNum 4 (x0, 0) = y := ⟨_, rfl⟩
          rw [hf] at H hr1
          rw [hf]
          try simp only at H hr1 ⊢
          simp (maxSteps := 500000) (decide := true) (disch := omega) only [EV, ↓reduceIte, Nat.reduceAdd, tt7]
          refine lq_call rfl ?_
          refine Cl.mono (rU8_ok H (by omega)) ?_
          rintro _ w ⟨rfl, H⟩
          have hr2 := rdNum_len (n := 1) (r1, e1)
          obtain ⟨⟨kv, r2, e2⟩, hk⟩ : ∃ y, rdNum 1 (r1, e1) = y := ⟨_, rfl⟩
          rw [hk] at H hr2
          rw [hk]
          try simp only at H hr2 ⊢
          simp (maxSteps := 500000) (decide := true) (disch := omega) only [EV, ↓reduceIte, Nat.reduceAdd, tt7]
          refine lq_call rfl ?_
          refine Cl.mono (rU64_ok H (by omega)) ?_
          rintro _ w ⟨rfl, H⟩
          have hr3 := rdNum_len (n := 8) (r2, e2)
          obtain ⟨⟨gv, r3, e3⟩, hg⟩ : ∃ y, rdNum 8 (r2, e2) = y := ⟨_, rfl⟩
          rw [hg] at H hr3
          rw [hg]
          try simp only at H hr3 ⊢
          simp (maxSteps := 500000) (decide := true) (disch := omega) only [EV, ↓reduceIte, Nat.reduceAdd, tt7]
          refine lq_nil ?_
          refine h12 _ _ ?_
          refine cw_seq (fun K13 h13 => ?_)
          refine cw_seq (fun K14 h14 => ?_)
          refine cw_region (lq_run ?_)
          simp (maxSteps := 500000) (decide := true) (disch := omega) only [EV, ↓reduceIte, Nat.reduceAdd, tt7]
          refine lq_G (fun g55 => ?_) (fun g55 => ?_)
          · try simp only [HB] at g55
            simp (maxSteps := 500000) (decide := true) (disch := omega) only [EV, ↓reduceIte, Nat.reduceAdd, tt7]
            refine lq_nil ?_
            refine h14 _ _ ?_
            refine cw_condT rfl ?_
            refine cw_seq (fun K15 h15 => ?_)
            refine cw_region (lq_run ?_)
            simp (maxSteps := 500000) (decide := true) (disch := omega) only [EV, ↓reduceIte, Nat.reduceAdd, tt7]
            refine lq_nil ?_
            refine h15 _ _ ?_
            refine cw_ret ?_
            try simp (decide := true) only [EX, ↓reduceIte]
            refine ret3 rfl rfl rfl ?_
            exact ReadP.bad ⟨by omega, by omega⟩ (((snapOf_eq (show rdNum 4 (xs.take (xs.length - 4), 0) = (fv, (r1, e1)) by rw [hx0]; exact hf) hk hg rfl rfl rfl rfl).2 hE).1 (by simp only; omega)) H.wk
          · try simp only [HB] at g55
            simp (maxSteps := 500000) (decide := true) (disch := omega) only [EV, ↓reduceIte, Nat.reduceAdd, tt7]
            refine lq_G (fun g59 => ?_) (fun g59 => ?_)
            · try simp only [HB] at g59
              simp (maxSteps := 500000) (decide := true) (disch := omega) only [EV, ↓reduceIte, Nat.reduceAdd, tt7]
              refine lq_nil ?_
              refine h14 _ _ ?_
              refine cw_condT rfl ?_
              refine cw_seq (fun K16 h16 => ?_)
              refine cw_region (lq_run ?_)
              simp (maxSteps := 500000) (decide := true) (disch := omega) only [EV, ↓reduceIte, Nat.reduceAdd, tt7]
              refine lq_nil ?_
              refine h16 _ _ ?_
              refine cw_ret ?_
              try simp (decide := true) only [EX, ↓reduceIte]
              refine ret3 rfl rfl rfl ?_
              exact ReadP.bad ⟨by omega, by omega⟩ (((snapOf_eq (show rdNum 4 (xs.take (xs.length - 4), 0) = (fv, (r1, e1)) by rw [hx0]; exact hf) hk hg rfl rfl rfl rfl).2 hE).1 (by simp only; omega)) H.wk
            · try simp only [HB] at g59
              simp (maxSteps := 500000) (decide := true) (disch := omega) only [EV, ↓reduceIte, Nat.reduceAdd, tt7]
              refine lq_G (fun g63 => ?_) (fun g63 => ?_)
              · try simp only [HB] at g63
                simp (maxSteps := 500000) (decide := true) (disch := omega) only [EV, ↓reduceIte, Nat.reduceAdd, tt7]
                refine lq_nil ?_
                refine h14 _ _ ?_
                refine cw_condT rfl ?_
                refine cw_seq (fun K17 h17 => ?_)
                refine cw_region (lq_run ?_)
                simp (maxSteps := 500000) (decide := true) (disch := omega) only [EV, ↓reduceIte, Nat.reduceAdd, tt7]
                refine lq_nil ?_
                refine h17 _ _ ?_
                refine cw_ret ?_
                try simp (decide := true) only [EX, ↓reduceIte]
                refine ret3 rfl rfl rfl ?_
                exact ReadP.bad ⟨by omega, by omega⟩ (((snapOf_eq (show rdNum 4 (xs.take (xs.length - 4), 0) = (fv, (r1, e1)) by rw [hx0]; exact hf) hk hg rfl rfl rfl rfl).2 hE).1 (by simp only; omega)) H.wk
              · try simp only [HB] at g63
                simp (maxSteps := 500000) (decide := true) (disch := omega) only [EV, ↓reduceIte, Nat.reduceAdd, tt7]
                refine lq_nil ?_
                refine h14 _ _ ?_
                refine cw_condB rfl (fun c66 => ?_) (fun c66 => ?_)
                · skip
                  try simp only [HB] at c66
                  refine cw_seq (fun K18 h18 => ?_)
                  refine cw_region (lq_run ?_)
                  simp (maxSteps := 500000) (decide := true) (disch := omega) only [EV, ↓reduceIte, Nat.reduceAdd, tt7]
                  refine lq_nil ?_
                  refine h18 _ _ ?_
                  refine cw_ret ?_
                  try simp (decide := true) only [EX, ↓reduceIte]
                  refine ret3 rfl rfl rfl ?_
                  exact ReadP.bad ⟨by omega, by omega⟩ (((snapOf_eq (show rdNum 4 (xs.take (xs.length - 4), 0) = (fv, (r1, e1)) by rw [hx0]; exact hf) hk hg rfl rfl rfl rfl).2 hE).1 (by simp only; omega)) H.wk
                · skip
                  try simp only [HB] at c66
                  refine cw_skip ?_
                  refine h13 _ _ ?_
                  refine cw_seq (fun K19 h19 => ?_)
                  refine cw_region (lq_run ?_)
                  simp (maxSteps := 500000) (decide := true) (disch := omega) only [EV, ↓reduceIte, Nat.reduceAdd, tt7]
                  refine lq_call rfl ?_
                  refine Cl.mono (lastsOf_ok H (by omega)) ?_
                  rintro _ w ⟨aol, cl, bm, l, ⟨r4, e4⟩, hl, hl12, hr4, rfl, H⟩
                  simp only at hr4 H
                  simp (maxSteps := 500000) (decide := true) (disch := omega) only [EV, ↓reduceIte, Nat.reduceAdd, tt7]
                  refine lq_nil ?_
                  refine h19 _ _ ?_
                  refine cw_seq (fun K20 h20 => ?_)
                  refine cw_region (lq_run ?_)
                  simp (maxSteps := 500000) (decide := true) (disch := omega) only [EV, ↓reduceIte, Nat.reduceAdd, tt7]
                  refine lq_nil ?_
                  refine h20 _ _ ?_
                  refine cw_seq (fun K21 h21 => ?_)
                  refine cw_seq (fun K22 h22 => ?_)
                  refine cw_region (lq_run ?_)
                  simp (maxSteps := 500000) (decide := true) (disch := omega) only [EV, ↓reduceIte, Nat.reduceAdd, tt7]
                  refine lq_call rfl ?_
                  refine Cl.mono (rCount_ok (H.tkR (R := Rr R) (k := p)) (by omega) (by omega)) ?_
                  rintro _ w ⟨rfl, H⟩
                  have hcl := rdCount_len 2147483647 (r4, e4)
                  obtain ⟨⟨k0i, r5, e5⟩, hd⟩ : ∃ y, rdCount 2147483647 (r4, e4) = y := ⟨_, rfl⟩
                  rw [hd] at H hcl
                  rw [hd]
                  try simp only at H hcl ⊢
                  obtain ⟨k0, rfl⟩ : ∃ k : Nat, k0i = k := ⟨k0i.toNat, by omega⟩
                  simp (maxSteps := 500000) (decide := true) (disch := omega) only [EV, ↓reduceIte, Nat.reduceAdd, tt7]
                  refine lq_nil ?_
                  refine h22 _ _ ?_
                  refine cw_block ?_
                  refine cw_loopC (X := Nat × List KT × (List UInt8 × Int) × (Option Addr × Nat)) [(1, _), (4, _), (5, _), (6, _), (8, _), (11, _), (12, _), (13, _)] (fun x => [(14, .slice x.2.2.2.1 x.2.1.length x.2.2.2.2), (15, .int .i64 (x.1 : Int))]) (fun x w => (rdKepts (byOf l) now x.1 (x.2.1.map (·.1)) x.2.2.1 = rdKepts (byOf l) now k0 [] (r5, e5) ∧ x.1 ≤ k0 ∧ x.2.2.1.1.length ≤ xs.length ∧ roomK xs.length x.2.1.length x.2.2.1 ∧ ∀ y ∈ x.2.1, y.1.2.keys.length ≤ 1024) ∧ Own (Rr R p x.2.2.1 :: Os 48 encK (.slice x.2.2.2.1 x.2.1.length x.2.2.2.2) x.2.1 :: KeysR x.2.1 :: Os 111 encN (.slice aol l.length cl) l :: Mp EmL bm (byOf l) :: F) w) (fun x => x.1) (k0, [], (r5, e5), (none, 0)) (.c rfl (.c rfl (.c rfl (.c rfl (.c rfl (.c rfl (.c rfl (.c rfl .n)))))))) (.c rfl (.c rfl .n)) ⟨⟨rfl, Nat.le_refl _, by simp only; omega, ⟨by simp, fun _ => by simp only [List.length_nil]; omega⟩, by simp⟩, (Os.nil 48 encK H.keysNil).wk⟩ ?_
                  rintro ⟨k, acc, ⟨rest', e'⟩, ⟨aor, cr⟩⟩ w ⟨⟨hrd, hkk, hrl, hroom, hks⟩, H⟩
                  simp only [List.cons_append, List.nil_append]
                  simp only at hrd hkk hrl hroom hks H ⊢
                  have hacc := hroom.1
                  refine cw_seq (fun K23 h23 => ?_)
                  refine cw_seq (fun K24 h24 => ?_)
                  refine cw_region (lq_run ?_)
                  simp (maxSteps := 500000) (decide := true) (disch := omega) only [EV, ↓reduceIte, Nat.reduceAdd, tt7]
                  refine lq_G (fun g76 => ?_) (fun g76 => ?_)
                  · try simp only [HB] at g76
                    simp (maxSteps := 500000) (decide := true) (disch := omega) only [EV, ↓reduceIte, Nat.reduceAdd, tt7]
                    refine lq_call rfl ?_
                    refine Cl.mono (rErr_ok (H.tkR (R := Rr R) (k := p))) ?_
                    rintro _ w ⟨rfl, H⟩
                    simp (maxSteps := 500000) (decide := true) (disch := omega) only [EV, ↓reduceIte, Nat.reduceAdd, tt7]
                    refine lq_nil ?_
                    refine h24 _ _ ?_
                    refine cw_condB rfl (fun c80 => ?_) (fun c80 => ?_)
                    · skip
                      try simp only [HB] at c80
                      obtain ⟨k', rfl⟩ : ∃ k', k = k' + 1 := ⟨k - 1, by omega⟩
                      subst c80
                      refine cw_skip ?_
                      refine h23 _ _ ?_
                      refine cw_seq (fun K25 h25 => ?_)
                      refine cw_block ?_
                      refine cw_seq (fun K26 h26 => ?_)
                      refine cw_region (lq_run ?_)
                      simp (maxSteps := 500000) (decide := true) (disch := omega) only [EV, ↓reduceIte, Nat.reduceAdd, tt7]
                      refine lq_call rfl ?_
                      refine Cl.mono (rText_ok H (by omega) (by omega)) ?_
                      rintro _ w ⟨rfl, H⟩
                      have hr6 := rdText_len 65535 (rest', 0)
                      obtain ⟨⟨ky, r6, e6⟩, hs1⟩ : ∃ y, rdText 65535 (rest', 0) = y := ⟨_, rfl⟩
                      rw [hs1] at H hr6
                      rw [hs1]
                      try simp only at H hr6 ⊢
                      simp (maxSteps := 500000) (decide := true) (disch := omega) only [EV, ↓reduceIte, Nat.reduceAdd, tt7]
                      refine lq_call rfl ?_
                      refine Cl.mono (rU64_ok H (by omega)) ?_
                      rintro _ w ⟨rfl, H⟩
                      have hr7 := rdNum_len (n := 8) (r6, e6)
                      obtain ⟨⟨id, r7, e7⟩, hs2⟩ : ∃ y, rdNum 8 (r6, e6) = y := ⟨_, rfl⟩
                      rw [hs2] at H hr7
                      rw [hs2]
                      try simp only at H hr7 ⊢
                      simp (maxSteps := 500000) (decide := true) (disch := omega) only [EV, ↓reduceIte, Nat.reduceAdd, tt7]
                      refine lq_call rfl ?_
                      refine Cl.mono (rText_ok H (by omega) (by omega)) ?_
                      rintro _ w ⟨rfl, H⟩
                      have hr8 := rdText_len 65535 (r7, e7)
                      obtain ⟨⟨val, r8, e8⟩, hs3⟩ : ∃ y, rdText 65535 (r7, e7) = y := ⟨_, rfl⟩
                      rw [hs3] at H hr8
                      rw [hs3]
                      try simp only at H hr8 ⊢
                      simp (maxSteps := 500000) (decide := true) (disch := omega) only [EV, ↓reduceIte, Nat.reduceAdd, tt7]
                      refine lq_call rfl ?_
                      refine Cl.mono (rTexts_ok H (by omega) (by omega) (by omega)) ?_
                      rintro v w H
                      have hr9 := rdTexts_len 1024 65535 (r8, e8)
                      have hkm := rdTexts_most (r8, e8)
                      obtain ⟨⟨ks, r9, e9⟩, hs4⟩ : ∃ y, rdTexts 1024 65535 (r8, e8) = y := ⟨_, rfl⟩
                      rw [hs4] at H hr9 hkm
                      try simp only at H hr9 hkm
                      obtain ⟨aov, cv, rfl⟩ := H.osv
                      have hQ : rdKept (byOf l) now (rest', 0) = ((ky, id), ⟨val, ks, stampOf (byOf l) now (ky, id)⟩) ∧ rdK4 (rest', 0) = (ks, (r9, e9)) := by
                        simp only [rdKept, rdK4, rdK3, rdK2, rdK1, hs1, hs2, hs3, hs4, and_self]
                      simp (maxSteps := 500000) (decide := true) (disch := omega) only [EV, ↓reduceIte, Nat.reduceAdd, tt7]
                      refine lq_new H (fun b16 w H => ?_)
                      try simp only [ES] at H
                      simp (maxSteps := 500000) (decide := true) (disch := omega) only [EV, ↓reduceIte, Nat.reduceAdd, tt7]
                      refine lq_st H rfl rfl rfl (fun w H => ?_)
                      try simp only [ES] at H
                      simp (maxSteps := 500000) (decide := true) (disch := omega) only [EV, ↓reduceIte, Nat.reduceAdd, tt7]
                      refine lq_nil ?_
                      refine h26 _ _ ?_
                      refine cw_seq (fun K27 h27 => ?_)
                      refine cw_region (lq_run ?_)
                      simp (maxSteps := 500000) (decide := true) (disch := omega) only [EV, ↓reduceIte, Nat.reduceAdd, tt7]
                      refine lq_nil ?_
                      refine h27 _ _ ?_
                      refine cw_seq (fun K28 h28 => ?_)
                      refine cw_seq (fun K29 h29 => ?_)
                      refine cw_region (lq_run ?_)
                      simp (maxSteps := 500000) (decide := true) (disch := omega) only [EV, ↓reduceIte, Nat.reduceAdd, tt7]
                      refine lq_load H rfl ?_
                      simp (maxSteps := 500000) (decide := true) (disch := omega) only [EV, ↓reduceIte, Nat.reduceAdd, tt7]
                      refine lq_load H rfl ?_
                      simp (maxSteps := 500000) (decide := true) (disch := omega) only [EV, ↓reduceIte, Nat.reduceAdd, tt7]
                      refine lq_lookup (E := EmL) ky H rfl rfl ?_
                      rw [mval_by]
                      simp (maxSteps := 500000) (decide := true) (disch := omega) only [EV, ↓reduceIte, Nat.reduceAdd, tt7]
                      refine lq_nil ?_
                      refine h29 _ _ ?_
                      refine cw_condB rfl (fun c98 => ?_) (fun c98 => ?_)
                      · skip
                        try simp only [HB] at c98
                        have hst : now = stampOf (byOf l) now (ky, id) := (if_pos c98).symm
                        refine cw_region (lq_run ?_)
                        simp (maxSteps := 500000) (decide := true) (disch := omega) only [EV, ↓reduceIte, Nat.reduceAdd, tt7]
                        refine lq_nil ?_
                        refine h28 _ _ ?_
                        refine cw_region (lq_run ?_)
                        simp (maxSteps := 500000) (decide := true) (disch := omega) only [EV, ↓reduceIte, Nat.reduceAdd, tt7]
                        refine lq_load H rfl ?_
                        simp (maxSteps := 500000) (decide := true) (disch := omega) only [EV, ↓reduceIte, Nat.reduceAdd, tt7]
                        refine lq_bs H rfl rfl (by rfl) rfl (by decide) (fun b104 w H => ?_)
                        try simp only [ES] at H
                        simp (maxSteps := 500000) (decide := true) (disch := omega) only [EV, ↓reduceIte, Nat.reduceAdd, tt7]
                        refine lq_app1 (enc := encK) (((ky, id), ⟨val, ks, stampOf (byOf l) now (ky, id)⟩), (aov, cv)) H rfl rfl ?el (by rw [encK_n]; omega) (fun ao5 c5 w H => ?_)
                        case el => rw [← hst]; rfl
                        simp (maxSteps := 500000) (decide := true) (disch := omega) only [EV, ↓reduceIte, Nat.reduceAdd, tt7]
                        refine lq_nil ?_
                        refine h25 _ _ ?_
                        refine cw_region (lq_run ?_)
                        simp (maxSteps := 500000) (decide := true) (disch := omega) only [EV, ↓reduceIte, Nat.reduceAdd, tt7]
                        refine lq_nil ?_
                        have HF : Own (Rr R p (r9, e9) :: Os 48 encK (.slice ao5 (acc ++ [(((ky, id), (⟨val, ks, stampOf (byOf l) now (ky, id)⟩ : Hd)), (aov, cv))]).length c5) (acc ++ [(((ky, id), ⟨val, ks, stampOf (byOf l) now (ky, id)⟩), (aov, cv))]) :: KeysR (acc ++ [(((ky, id), ⟨val, ks, stampOf (byOf l) now (ky, id)⟩), (aov, cv))]) :: Os 111 encN (.slice aol l.length cl) l :: Mp EmL bm (byOf l) :: F) w := by
                          rw [List.length_append]
                          have H1 : Own (Os 9 encS (.slice aov ks.length cv) ks :: KeysR acc :: Os 48 encK (.slice ao5 (acc.length + 1) c5) (acc ++ [(((ky, id), ⟨val, ks, stampOf (byOf l) now (ky, id)⟩), (aov, cv))]) :: Rr R p (r9, e9) :: Os 111 encN (.slice aol l.length cl) l :: Mp EmL bm (byOf l) :: F) w := H.wk
                          exact (Own.keysAdd (x := (((ky, id), ⟨val, ks, stampOf (byOf l) now (ky, id)⟩), (aov, cv))) H1).wk
                        refine Exists.intro (k', acc ++ [(((ky, id), ⟨val, ks, stampOf (byOf l) now (ky, id)⟩), (aov, cv))], (r9, e9), (ao5, c5)) ⟨⟨(.c (by rw [List.length_append]; rfl) (.c (by show look _ 15 = some (.int .i64 (k' : Int)); simp only [EV, ↓reduceIte, Nat.reduceEqDiff, Nat.reduceLT]; congr 2; omega) .n)), (.c rfl (.c rfl (.c rfl (.c rfl (.c rfl (.c rfl (.c rfl (.c rfl .n))))))))⟩, ⟨⟨by rw [← hrd, rdKepts_step rfl, hQ.1, hQ.2, List.map_append]; rfl, by omega, by simp only; omega, by have := roomK_step hroom rfl; rw [hQ.2] at this; rw [List.length_append]; exact this, fun y hy => by rcases List.mem_append.1 hy with h | h; exact hks y h; rw [List.mem_singleton.1 h]; exact hkm⟩, HF⟩, (by simp only; omega)⟩
                      · skip
                        try simp only [HB] at c98
                        have hst : -1 = stampOf (byOf l) now (ky, id) := (if_neg (show ¬ id < (mget (byOf l) ky).getD 0 by omega)).symm
                        refine cw_skip ?_
                        refine h28 _ _ ?_
                        refine cw_region (lq_run ?_)
                        simp (maxSteps := 500000) (decide := true) (disch := omega) only [EV, ↓reduceIte, Nat.reduceAdd, tt7]
                        refine lq_load H rfl ?_
                        simp (maxSteps := 500000) (decide := true) (disch := omega) only [EV, ↓reduceIte, Nat.reduceAdd, tt7]
                        refine lq_bs H rfl rfl (by rfl) rfl (by decide) (fun b104 w H => ?_)
                        try simp only [ES] at H
                        simp (maxSteps := 500000) (decide := true) (disch := omega) only [EV, ↓reduceIte, Nat.reduceAdd, tt7]
                        refine lq_app1 (enc := encK) (((ky, id), ⟨val, ks, stampOf (byOf l) now (ky, id)⟩), (aov, cv)) H rfl rfl ?el (by rw [encK_n]; omega) (fun ao5 c5 w H => ?_)
                        case el => rw [← hst]; rfl
                        simp (maxSteps := 500000) (decide := true) (disch := omega) only [EV, ↓reduceIte, Nat.reduceAdd, tt7]
                        refine lq_nil ?_
                        refine h25 _ _ ?_
                        refine cw_region (lq_run ?_)
                        simp (maxSteps := 500000) (decide := true) (disch := omega) only [EV, ↓reduceIte, Nat.reduceAdd, tt7]
                        refine lq_nil ?_
                        have HF : Own (Rr R p (r9, e9) :: Os 48 encK (.slice ao5 (acc ++ [(((ky, id), (⟨val, ks, stampOf (byOf l) now (ky, id)⟩ : Hd)), (aov, cv))]).length c5) (acc ++ [(((ky, id), ⟨val, ks, stampOf (byOf l) now (ky, id)⟩), (aov, cv))]) :: KeysR (acc ++ [(((ky, id), ⟨val, ks, stampOf (byOf l) now (ky, id)⟩), (aov, cv))]) :: Os 111 encN (.slice aol l.length cl) l :: Mp EmL bm (byOf l) :: F) w := by
                          rw [List.length_append]
                          have H1 : Own (Os 9 encS (.slice aov ks.length cv) ks :: KeysR acc :: Os 48 encK (.slice ao5 (acc.length + 1) c5) (acc ++ [(((ky, id), ⟨val, ks, stampOf (byOf l) now (ky, id)⟩), (aov, cv))]) :: Rr R p (r9, e9) :: Os 111 encN (.slice aol l.length cl) l :: Mp EmL bm (byOf l) :: F) w := H.wk
                          exact (Own.keysAdd (x := (((ky, id), ⟨val, ks, stampOf (byOf l) now (ky, id)⟩), (aov, cv))) H1).wk
                        refine Exists.intro (k', acc ++ [(((ky, id), ⟨val, ks, stampOf (byOf l) now (ky, id)⟩), (aov, cv))], (r9, e9), (ao5, c5)) ⟨⟨(.c (by rw [List.length_append]; rfl) (.c (by show look _ 15 = some (.int .i64 (k' : Int)); simp only [EV, ↓reduceIte, Nat.reduceEqDiff, Nat.reduceLT]; congr 2; omega) .n)), (.c rfl (.c rfl (.c rfl (.c rfl (.c rfl (.c rfl (.c rfl (.c rfl .n))))))))⟩, ⟨⟨by rw [← hrd, rdKepts_step rfl, hQ.1, hQ.2, List.map_append]; rfl, by omega, by simp only; omega, by have := roomK_step hroom rfl; rw [hQ.2] at this; rw [List.length_append]; exact this, fun y hy => by rcases List.mem_append.1 hy with h | h; exact hks y h; rw [List.mem_singleton.1 h]; exact hkm⟩, HF⟩, (by simp only; omega)⟩
                    · skip
                      try simp only [HB] at c80
                      refine cw_exit ?_
                      refine h21 _ _ ?_
                      refine cw_seq (fun K30 h30 => ?_)
                      refine cw_seq (fun K31 h31 => ?_)
                      refine cw_region (lq_run ?_)
                      simp (maxSteps := 500000) (decide := true) (disch := omega) only [EV, ↓reduceIte, Nat.reduceAdd, tt7]
                      refine lq_call rfl ?_
                      refine Cl.mono (rEnd_ok (H.tkR (R := Rr R) (k := p)) (by omega)) ?_
                      rintro _ w ⟨rfl, H⟩
                      simp (maxSteps := 500000) (decide := true) (disch := omega) only [EV, ↓reduceIte, Nat.reduceAdd, tt7]
                      refine lq_nil ?_
                      refine h31 _ _ ?_
                      refine cw_condB rfl (fun c108 => ?_) (fun c108 => ?_)
                      · skip
                        try simp only [HB] at c108
                        refine cw_seq (fun K32 h32 => ?_)
                        refine cw_region (lq_run ?_)
                        simp (maxSteps := 500000) (decide := true) (disch := omega) only [EV, ↓reduceIte, Nat.reduceAdd, tt7]
                        refine lq_nil ?_
                        refine h32 _ _ ?_
                        refine cw_ret ?_
                        try simp (decide := true) only [EX, ↓reduceIte]
                        refine ret3 rfl rfl rfl ?_
                        have hq : rdKepts (byOf l) now (k0 : Int).toNat [] (r5, e5) = (acc.map (·.1), (rest', e')) := by rw [Int.toNat_natCast, ← hrd, rdKepts_nil c80]
                        have hS := ((snapOf_eq (show rdNum 4 (xs.take (xs.length - 4), 0) = (fv, (r1, e1)) by rw [hx0]; exact hf) hk hg rfl hl hd hq).2 hE).2 (by simp only; omega)
                        exact ReadP.bad ⟨by omega, by omega⟩ (hS.2 fun z => c108 (endZ.2 z.1)) H.wk
                      · skip
                        try simp only [HB] at c108
                        refine cw_skip ?_
                        refine h30 _ _ ?_
                        refine cw_seq (fun K33 h33 => ?_)
                        refine cw_region (lq_run ?_)
                        simp (maxSteps := 500000) (decide := true) (disch := omega) only [EV, ↓reduceIte, Nat.reduceAdd, tt7]
                        refine lq_call rfl ?_
                        refine Cl.mono (Load_ok (F := Os 48 encK (.slice aor acc.length cr) acc :: KeysR acc :: Os 111 encN (.slice aol l.length cl) l :: F) H.wk Ent.os (fun x hx => (KeysR.ent (L := []) hx).up) (Ent.up (M := Os 111 encN (.slice aol l.length cl) l :: []) Ent.os) rfl rfl (by omega) (by omega) (fun x hx => by have := hks x hx; omega)) ?_
                        rintro v w hL
                        obtain ⟨pt, ee, hv, hM⟩ : ∃ pt e, v = .tuple #[.pointer pt, .int .i64 e] ∧ ((LoadOk (acc.map (·.1)) l ∧ e = 0 ∧ ∃ p', pt = some ⟨p', 0, none⟩ ∧ Own (StoreAt p' ⟨acc.map (·.1), l⟩ :: F) w) ∨ (¬ LoadOk (acc.map (·.1)) l ∧ e = 1 ∧ Own F w)) := by
                          rcases hL with ⟨hok, p', rfl, H⟩ | ⟨hok, rfl, H⟩
                          · exact ⟨_, _, rfl, .inl ⟨hok, rfl, p', rfl, H.wk⟩⟩
                          · exact ⟨_, _, rfl, .inr ⟨hok, rfl, H.wk⟩⟩
                        clear hL
                        subst hv
                        simp (maxSteps := 500000) (decide := true) (disch := omega) only [EV, ↓reduceIte, Nat.reduceAdd, tt7]
                        refine lq_nil ?_
                        refine h33 _ _ ?_
                        refine cw_seq (fun K34 h34 => ?_)
                        refine cw_seq (fun K35 h35 => ?_)
                        refine cw_region (lq_run ?_)
                        simp (maxSteps := 500000) (decide := true) (disch := omega) only [EV, ↓reduceIte, Nat.reduceAdd, tt7]
                        refine lq_nil ?_
                        refine h35 _ _ ?_
                        refine cw_condB rfl (fun c116 => ?_) (fun c116 => ?_)
                        · skip
                          try simp only [HB] at c116
                          refine cw_seq (fun K36 h36 => ?_)
                          refine cw_region (lq_run ?_)
                          simp (maxSteps := 500000) (decide := true) (disch := omega) only [EV, ↓reduceIte, Nat.reduceAdd, tt7]
                          refine lq_nil ?_
                          refine h36 _ _ ?_
                          refine cw_ret ?_
                          try simp (decide := true) only [EX, ↓reduceIte]
                          refine ret3 rfl rfl rfl ?_
                          have hq : rdKepts (byOf l) now (k0 : Int).toNat [] (r5, e5) = (acc.map (·.1), (rest', e')) := by rw [Int.toNat_natCast, ← hrd, rdKepts_nil c80]
                          have hS := ((snapOf_eq (show rdNum 4 (xs.take (xs.length - 4), 0) = (fv, (r1, e1)) by rw [hx0]; exact hf) hk hg rfl hl hd hq).2 hE).2 (by simp only; omega)
                          rcases hM with ⟨hok, q, _⟩ | ⟨hok, q, H⟩
                          · exact absurd q c116
                          · exact ReadP.bad ⟨by omega, by omega⟩ (hS.2 fun z => hok z.2) H
                        · skip
                          try simp only [HB] at c116
                          refine cw_skip ?_
                          refine h34 _ _ ?_
                          refine cw_seq (fun K37 h37 => ?_)
                          refine cw_region (lq_run ?_)
                          simp (maxSteps := 500000) (decide := true) (disch := omega) only [EV, ↓reduceIte, Nat.reduceAdd, tt7]
                          refine lq_nil ?_
                          refine h37 _ _ ?_
                          refine cw_ret ?_
                          try simp (decide := true) only [EX, ↓reduceIte]
                          refine ret3 rfl rfl rfl ?_
                          have hq : rdKepts (byOf l) now (k0 : Int).toNat [] (r5, e5) = (acc.map (·.1), (rest', e')) := by rw [Int.toNat_natCast, ← hrd, rdKepts_nil c80]
                          have hS := ((snapOf_eq (show rdNum 4 (xs.take (xs.length - 4), 0) = (fv, (r1, e1)) by rw [hx0]; exact hf) hk hg rfl hl hd hq).2 hE).2 (by simp only; omega)
                          rcases hM with ⟨hok, q, p', rfl, H⟩ | ⟨hok, q, H⟩
                          · exact .inr ⟨⟨by omega, by omega⟩, .inr ⟨gv, ⟨acc.map (·.1), l⟩, p', hS.1 ⟨endZ.1 c108, hok⟩, rfl, H⟩⟩
                          · omega
                  · try simp only [HB] at g76
                    simp (maxSteps := 500000) (decide := true) (disch := omega) only [EV, ↓reduceIte, Nat.reduceAdd, tt7]
                    refine lq_nil ?_
                    refine h24 _ _ ?_
                    refine cw_condF rfl ?_
                    refine cw_exit ?_
                    refine h21 _ _ ?_
                    refine cw_seq (fun K38 h38 => ?_)
                    refine cw_seq (fun K39 h39 => ?_)
                    refine cw_region (lq_run ?_)
                    simp (maxSteps := 500000) (decide := true) (disch := omega) only [EV, ↓reduceIte, Nat.reduceAdd, tt7]
                    refine lq_call rfl ?_
                    refine Cl.mono (rEnd_ok (H.tkR (R := Rr R) (k := p)) (by omega)) ?_
                    rintro _ w ⟨rfl, H⟩
                    simp (maxSteps := 500000) (decide := true) (disch := omega) only [EV, ↓reduceIte, Nat.reduceAdd, tt7]
                    refine lq_nil ?_
                    refine h39 _ _ ?_
                    refine cw_condB rfl (fun c108 => ?_) (fun c108 => ?_)
                    · skip
                      try simp only [HB] at c108
                      refine cw_seq (fun K40 h40 => ?_)
                      refine cw_region (lq_run ?_)
                      simp (maxSteps := 500000) (decide := true) (disch := omega) only [EV, ↓reduceIte, Nat.reduceAdd, tt7]
                      refine lq_nil ?_
                      refine h40 _ _ ?_
                      refine cw_ret ?_
                      try simp (decide := true) only [EX, ↓reduceIte]
                      refine ret3 rfl rfl rfl ?_
                      obtain rfl : k = 0 := by omega
                      have hq : rdKepts (byOf l) now (k0 : Int).toNat [] (r5, e5) = (acc.map (·.1), (rest', e')) := by rw [Int.toNat_natCast, ← hrd]; rfl
                      have hS := ((snapOf_eq (show rdNum 4 (xs.take (xs.length - 4), 0) = (fv, (r1, e1)) by rw [hx0]; exact hf) hk hg rfl hl hd hq).2 hE).2 (by simp only; omega)
                      exact ReadP.bad ⟨by omega, by omega⟩ (hS.2 fun z => c108 (endZ.2 z.1)) H.wk
                    · skip
                      try simp only [HB] at c108
                      refine cw_skip ?_
                      refine h38 _ _ ?_
                      refine cw_seq (fun K41 h41 => ?_)
                      refine cw_region (lq_run ?_)
                      simp (maxSteps := 500000) (decide := true) (disch := omega) only [EV, ↓reduceIte, Nat.reduceAdd, tt7]
                      refine lq_call rfl ?_
                      refine Cl.mono (Load_ok (F := Os 48 encK (.slice aor acc.length cr) acc :: KeysR acc :: Os 111 encN (.slice aol l.length cl) l :: F) H.wk Ent.os (fun x hx => (KeysR.ent (L := []) hx).up) (Ent.up (M := Os 111 encN (.slice aol l.length cl) l :: []) Ent.os) rfl rfl (by omega) (by omega) (fun x hx => by have := hks x hx; omega)) ?_
                      rintro v w hL
                      obtain ⟨pt, ee, hv, hM⟩ : ∃ pt e, v = .tuple #[.pointer pt, .int .i64 e] ∧ ((LoadOk (acc.map (·.1)) l ∧ e = 0 ∧ ∃ p', pt = some ⟨p', 0, none⟩ ∧ Own (StoreAt p' ⟨acc.map (·.1), l⟩ :: F) w) ∨ (¬ LoadOk (acc.map (·.1)) l ∧ e = 1 ∧ Own F w)) := by
                        rcases hL with ⟨hok, p', rfl, H⟩ | ⟨hok, rfl, H⟩
                        · exact ⟨_, _, rfl, .inl ⟨hok, rfl, p', rfl, H.wk⟩⟩
                        · exact ⟨_, _, rfl, .inr ⟨hok, rfl, H.wk⟩⟩
                      clear hL
                      subst hv
                      simp (maxSteps := 500000) (decide := true) (disch := omega) only [EV, ↓reduceIte, Nat.reduceAdd, tt7]
                      refine lq_nil ?_
                      refine h41 _ _ ?_
                      refine cw_seq (fun K42 h42 => ?_)
                      refine cw_seq (fun K43 h43 => ?_)
                      refine cw_region (lq_run ?_)
                      simp (maxSteps := 500000) (decide := true) (disch := omega) only [EV, ↓reduceIte, Nat.reduceAdd, tt7]
                      refine lq_nil ?_
                      refine h43 _ _ ?_
                      refine cw_condB rfl (fun c116 => ?_) (fun c116 => ?_)
                      · skip
                        try simp only [HB] at c116
                        refine cw_seq (fun K44 h44 => ?_)
                        refine cw_region (lq_run ?_)
                        simp (maxSteps := 500000) (decide := true) (disch := omega) only [EV, ↓reduceIte, Nat.reduceAdd, tt7]
                        refine lq_nil ?_
                        refine h44 _ _ ?_
                        refine cw_ret ?_
                        try simp (decide := true) only [EX, ↓reduceIte]
                        refine ret3 rfl rfl rfl ?_
                        obtain rfl : k = 0 := by omega
                        have hq : rdKepts (byOf l) now (k0 : Int).toNat [] (r5, e5) = (acc.map (·.1), (rest', e')) := by rw [Int.toNat_natCast, ← hrd]; rfl
                        have hS := ((snapOf_eq (show rdNum 4 (xs.take (xs.length - 4), 0) = (fv, (r1, e1)) by rw [hx0]; exact hf) hk hg rfl hl hd hq).2 hE).2 (by simp only; omega)
                        rcases hM with ⟨hok, q, _⟩ | ⟨hok, q, H⟩
                        · exact absurd q c116
                        · exact ReadP.bad ⟨by omega, by omega⟩ (hS.2 fun z => hok z.2) H
                      · skip
                        try simp only [HB] at c116
                        refine cw_skip ?_
                        refine h42 _ _ ?_
                        refine cw_seq (fun K45 h45 => ?_)
                        refine cw_region (lq_run ?_)
                        simp (maxSteps := 500000) (decide := true) (disch := omega) only [EV, ↓reduceIte, Nat.reduceAdd, tt7]
                        refine lq_nil ?_
                        refine h45 _ _ ?_
                        refine cw_ret ?_
                        try simp (decide := true) only [EX, ↓reduceIte]
                        refine ret3 rfl rfl rfl ?_
                        obtain rfl : k = 0 := by omega
                        have hq : rdKepts (byOf l) now (k0 : Int).toNat [] (r5, e5) = (acc.map (·.1), (rest', e')) := by rw [Int.toNat_natCast, ← hrd]; rfl
                        have hS := ((snapOf_eq (show rdNum 4 (xs.take (xs.length - 4), 0) = (fv, (r1, e1)) by rw [hx0]; exact hf) hk hg rfl hl hd hq).2 hE).2 (by simp only; omega)
                        rcases hM with ⟨hok, q, p', rfl, H⟩ | ⟨hok, q, H⟩
                        · exact .inr ⟨⟨by omega, by omega⟩, .inr ⟨gv, ⟨acc.map (·.1), l⟩, p', hS.1 ⟨endZ.1 c108, hok⟩, rfl, H⟩⟩
                        · omega
end Go.Rp
set_option linter.unusedVariables false
set_option linter.unusedSimpArgs false
set_option maxHeartbeats 1000000
set_option maxRecDepth 100000
namespace Go.Rp
open Go.Proofs
instance iW33_0 : ElT Tryz.prog 111 2 := ElT.mk' (by kernel_rfl)
instance iW33_1 : ElT Tryz.prog 48 5 := ElT.mk' (by kernel_rfl)
instance iW33_2 : ElT Tryz.prog 5 1 := ElT.mk' (by kernel_rfl)
instance iW33_3 : FnOk Tryz.prog 12 := ⟨⟨Tryz.f12, Tryz.func12, by kernel_rfl, by kernel_rfl⟩⟩
instance iW33_4 : FnOk Tryz.prog 14 := ⟨⟨Tryz.f14, Tryz.func14, by kernel_rfl, by kernel_rfl⟩⟩
instance iW33_5 : FnOk Tryz.prog 35 := ⟨⟨Tryz.f35, Tryz.func35, by kernel_rfl, by kernel_rfl⟩⟩
instance iW33_6 : FnOk Tryz.prog 47 := ⟨⟨Tryz.f47, Tryz.func47, by kernel_rfl, by kernel_rfl⟩⟩
instance iW33_7 : FnOk Tryz.prog 48 := ⟨⟨Tryz.f48, Tryz.func48, by kernel_rfl, by kernel_rfl⟩⟩
instance iW33_8 : FnOk Tryz.prog 49 := ⟨⟨Tryz.f49, Tryz.func49, by kernel_rfl, by kernel_rfl⟩⟩
instance iW33_9 : FnOk Tryz.prog 50 := ⟨⟨Tryz.f50, Tryz.func50, by kernel_rfl, by kernel_rfl⟩⟩
instance iW33_10 : FnOk Tryz.prog 51 := ⟨⟨Tryz.f51, Tryz.func51, by kernel_rfl, by kernel_rfl⟩⟩
instance iW33_11 : FnOk Tryz.prog 52 := ⟨⟨Tryz.f52, Tryz.func52, by kernel_rfl, by kernel_rfl⟩⟩
instance iW33_12 : FnOk Tryz.prog 53 := ⟨⟨Tryz.f53, Tryz.func53, by kernel_rfl, by kernel_rfl⟩⟩
instance iW33_13 : SlT Tryz.prog 23 5 := ⟨by kernel_rfl⟩
instance iW33_14 : SlT Tryz.prog 34 48 := ⟨by kernel_rfl⟩
instance iW33_15 : SlT Tryz.prog 39 111 := ⟨by kernel_rfl⟩
instance iW33_16 : SzT Tryz.prog 111 2 := ⟨by kernel_rfl⟩
instance iW33_17 : SzT Tryz.prog 48 5 := ⟨by kernel_rfl⟩
instance iW33_18 : ZvT Tryz.prog 111 (.agg #[(.string ByteArray.empty), (.int .u64 0)]) := ⟨by kernel_rfl⟩
instance iW33_19 : ZvT Tryz.prog 48 (.agg #[(.string ByteArray.empty), (.int .u64 0), (.string ByteArray.empty), (.slice none 0 0), (.int .i64 0)]) := ⟨by kernel_rfl⟩
theorem tt9 : (AG Tryz.prog 111 = some true) ∧ (AG Tryz.prog 43 = some false) ∧ (AG Tryz.prog 44 = some false) ∧ (AG Tryz.prog 48 = some true) ∧ (AG Tryz.prog 9 = some false) ∧ (FO Tryz.prog 111 0 = some 0) ∧ (FO Tryz.prog 111 1 = some 1) ∧ (FO Tryz.prog 46 0 = some 0) ∧ (FO Tryz.prog 46 1 = some 1) ∧ (FO Tryz.prog 46 2 = some 2) ∧ (FO Tryz.prog 46 3 = some 3) ∧ (FO Tryz.prog 48 0 = some 0) ∧ (IKn Tryz.prog 2 = some .i64) ∧ (IKn Tryz.prog 3 = some .i64) ∧ (IKn Tryz.prog 42 = some .u64) ∧ (IKn Tryz.prog 89 = some .u32) ∧ (KD Tryz.prog 25 = some 2) ∧ (LK Tryz.prog 34 = some 1) ∧ (LK Tryz.prog 39 = some 1) ∧ (SZ Tryz.prog 111 = some 2) ∧ (SZ Tryz.prog 48 = some 5) := ⟨by kernel_rfl, by kernel_rfl, by kernel_rfl, by kernel_rfl, by kernel_rfl, by kernel_rfl, by kernel_rfl, by kernel_rfl, by kernel_rfl, by kernel_rfl, by kernel_rfl, by kernel_rfl, by kernel_rfl, by kernel_rfl, by kernel_rfl, by kernel_rfl, by kernel_rfl, by kernel_rfl, by kernel_rfl, by kernel_rfl, by kernel_rfl⟩

theorem Own.wfit {p : Nat} {lim : Int} {out b : List UInt8} {F : List HP} {w : World} (H : Own (Wr p (wput (lim, out, 0) b) :: F) w) (h : (out.length : Int) + b.length ≤ lim) : Own (Wr p (lim, out ++ b, 0) :: F) w := by
  rwa [wput, if_pos (roomE_zero.2 ⟨rfl, by simp only; omega⟩)] at H
def o3 (g : Int) : List UInt8 := ([] ++ beL 1918987632 4) ++ beL 1 1 ++ beL g 8
def o4 (g : Int) (S : Sto) : List UInt8 := o3 g ++ beL S.L.length 4
def o5 (g : Int) (S : Sto) : List UInt8 := o4 g S ++ S.L.flatMap lastB ++ beL S.V.length 4
theorem o3_len (g : Int) : (o3 g).length = 13 := by simp [o3, beL_length]
theorem o4_len (g : Int) (S : Sto) : (o4 g S).length = 17 := by simp [o4, o3_len, beL_length]
theorem o5_len (g : Int) (S : Sto) : (o5 g S).length = 21 + (S.L.flatMap lastB).length := by simp only [o5, List.length_append, o4_len, beL_length]; omega
theorem o5_body (g : Int) (S : Sto) : o5 g S ++ S.V.flatMap keptB = bodyB g S := by simp [o5, o4, o3, bodyB]
theorem flat_ge {α : Type} {f : α → List UInt8} {k : Nat} (h : ∀ a, k ≤ (f a).length) : ∀ l : List α, k * l.length ≤ (l.flatMap f).length
  | [] => by simp
  | a :: l => by
    have := flat_ge h l
    have := h a
    rw [List.flatMap_cons, List.length_append, List.length_cons, Nat.mul_add]; omega
theorem lastB_snoc (d : List (ByteArray × Int)) (s : ByteArray × Int) (o : List UInt8) : o ++ d.flatMap lastB ++ textB s.1 ++ beL s.2 8 = o ++ (d ++ [s]).flatMap lastB := by simp [lastB, List.flatMap_append]
theorem keptB_snoc (d : List KT) (s : KT) (o : List UInt8) : o ++ (d.map (·.1)).flatMap keptB ++ textB s.1.1.1 ++ beL s.1.1.2 8 ++ textB s.1.2.val ++ textsB s.1.2.keys = o ++ ((d ++ [s]).map (·.1)).flatMap keptB := by simp [keptB, List.flatMap_append]
theorem flat_split {α : Type} {f : α → List UInt8} {l d r : List α} {s : α} (h : l = d ++ s :: r) : (l.flatMap f).length = (d.flatMap f).length + (f s).length + (r.flatMap f).length := by
  rw [h]; simp only [List.flatMap_append, List.flatMap_cons, List.length_append]; omega
theorem snapB_length (g : Int) (S : Sto) : (snapB g S).length = (bodyB g S).length + 4 := by simp [snapB, sealB, beL_length]
/-- What Build answers. -/
def BuildP (p : Nat) (g : Int) (S : Sto) (F : List HP) (v : Value) (w : World) : Prop :=
  (g < 1 ∧ v = .tuple #[.slice none 0 0, .int .i64 1] ∧ Own (StoreAt p S :: F) w) ∨
  (1 ≤ g ∧ ∃ ao c, v = .tuple #[.slice ao (snapB g S).length c, .int .i64 0] ∧ Own (Os 5 encB (.slice ao (snapB g S).length c) (snapB g S) :: StoreAt p S :: F) w)
theorem Build_ok {p : Nat} {g : Int} {S : Sto} {F : List HP} {w : World} (H : Own (StoreAt p S :: F) w) (hW : WfS S) (hg : g ≤ 9223372036854775807) (hb : (bodyB g S).length ≤ 2147483647) :
  Cl Tryz.prog 9 #[.int .i64 g, .pointer (some ⟨p, 0, none⟩)] w (BuildP p g S F) := by
  refine cl_of_cw Tryz.func9 rfl ?_
  simp only [Tryz.ntmps9, envA, List.size_toArray, List.length_cons, List.length_nil, Nat.reduceAdd, Nat.reduceSub]
  have hbl := congrArg List.length (o5_body g S)
  rw [List.length_append, o5_len] at hbl
  have hL12 := flat_ge (f := lastB) (k := 12) (fun a => by rw [lastB_len]; omega) S.L
  have hV20 := flat_ge (f := keptB) (k := 20) (fun a => by rw [keptB_len]; omega) S.V
  refine cw_seq (fun K1 h1 => ?_)
  refine cw_region (lq_run ?_)
  simp (maxSteps := 500000) (decide := true) (disch := omega) only [EV, ↓reduceIte, Nat.reduceAdd, tt9, encN_f, encK_f, L2, L5]
  refine lq_nil ?_
  refine h1 _ _ ?_
  refine cw_seq (fun K2 h2 => ?_)
  refine cw_seq (fun K3 h3 => ?_)
  refine cw_region (lq_run ?_)
  simp (maxSteps := 500000) (decide := true) (disch := omega) only [EV, ↓reduceIte, Nat.reduceAdd, tt9, encN_f, encK_f, L2, L5]
  refine lq_nil ?_
  refine h3 _ _ ?_
  refine cw_condB rfl (fun c20 => ?_) (fun c20 => ?_)
  · skip
    try simp only [HB] at c20
    refine cw_seq (fun K4 h4 => ?_)
    refine cw_region (lq_run ?_)
    simp (maxSteps := 500000) (decide := true) (disch := omega) only [EV, ↓reduceIte, Nat.reduceAdd, tt9, encN_f, encK_f, L2, L5]
    refine lq_nil ?_
    refine h4 _ _ ?_
    refine cw_ret ?_
    try simp (decide := true) only [EX, ↓reduceIte]
    refine ret2 rfl rfl ?_
    exact .inl ⟨c20, rfl, H⟩
  · skip
    try simp only [HB] at c20
    refine cw_skip ?_
    refine h2 _ _ ?_
    refine cw_seq (fun K5 h5 => ?_)
    refine cw_region (lq_run ?_)
    simp (maxSteps := 500000) (decide := true) (disch := omega) only [EV, ↓reduceIte, Nat.reduceAdd, tt9, encN_f, encK_f, L2, L5]
    refine lq_call rfl ?_
    refine Cl.mono (NewWriter_ok H (by omega)) ?_
    rintro _ w ⟨pw, rfl, H⟩
    simp (maxSteps := 500000) (decide := true) (disch := omega) only [EV, ↓reduceIte, Nat.reduceAdd, tt9, encN_f, encK_f, L2, L5]
    refine lq_nil ?_
    refine h5 _ _ ?_
    refine cw_seq (fun K6 h6 => ?_)
    refine cw_region (lq_run ?_)
    simp (maxSteps := 500000) (decide := true) (disch := omega) only [EV, ↓reduceIte, Nat.reduceAdd, tt9, encN_f, encK_f, L2, L5]
    refine lq_call rfl ?_
    refine Cl.mono (wU32_ok (H.tkR (R := Wr) (k := pw)) ⟨by omega, by omega⟩ ⟨by omega, by omega⟩ (by simp)) ?_
    rintro r w H
    replace H := H.wfit (by simp only [List.length_append, List.length_nil, beL_length, textB_length, textsB_length, o3_len, o4_len, o5_len]; omega)
    simp (maxSteps := 500000) (decide := true) (disch := omega) only [EV, ↓reduceIte, Nat.reduceAdd, tt9, encN_f, encK_f, L2, L5]
    refine lq_nil ?_
    refine h6 _ _ ?_
    refine cw_seq (fun K7 h7 => ?_)
    refine cw_region (lq_run ?_)
    simp (maxSteps := 500000) (decide := true) (disch := omega) only [EV, ↓reduceIte, Nat.reduceAdd, tt9, encN_f, encK_f, L2, L5]
    refine lq_call rfl ?_
    refine Cl.mono (wU8_ok (H.tkR (R := Wr) (k := pw)) ⟨by omega, by omega⟩ ⟨by omega, by omega⟩ (by simp only [List.length_append, List.length_nil, beL_length, textB_length, textsB_length, o3_len, o4_len, o5_len]; omega)) ?_
    rintro r w H
    replace H := H.wfit (by simp only [List.length_append, List.length_nil, beL_length, textB_length, textsB_length, o3_len, o4_len, o5_len]; omega)
    simp (maxSteps := 500000) (decide := true) (disch := omega) only [EV, ↓reduceIte, Nat.reduceAdd, tt9, encN_f, encK_f, L2, L5]
    refine lq_nil ?_
    refine h7 _ _ ?_
    refine cw_seq (fun K8 h8 => ?_)
    refine cw_region (lq_run ?_)
    simp (maxSteps := 500000) (decide := true) (disch := omega) only [EV, ↓reduceIte, Nat.reduceAdd, tt9, encN_f, encK_f, L2, L5]
    refine lq_call rfl ?_
    refine Cl.mono (wU64_ok (H.tkR (R := Wr) (k := pw)) ⟨by omega, by omega⟩ ⟨by omega, by omega⟩ (by simp only [List.length_append, List.length_nil, beL_length, textB_length, textsB_length, o3_len, o4_len, o5_len]; omega)) ?_
    rintro r w H
    replace H := H.wfit (by simp only [List.length_append, List.length_nil, beL_length, textB_length, textsB_length, o3_len, o4_len, o5_len]; omega)
    replace H : Own (Wr pw (2147483647, o3 g, 0) :: StoreAt p S :: F) w := H
    simp (maxSteps := 500000) (decide := true) (disch := omega) only [EV, ↓reduceIte, Nat.reduceAdd, tt9, encN_f, encK_f, L2, L5]
    refine lq_nil ?_
    refine h8 _ _ ?_
    refine cw_seq (fun K9 h9 => ?_)
    refine cw_region (lq_run ?_)
    simp (maxSteps := 500000) (decide := true) (disch := omega) only [EV, ↓reduceIte, Nat.reduceAdd, tt9, encN_f, encK_f, L2, L5]
    refine lq_call rfl ?_
    refine Cl.mono (Lasts_ok (H.tkR (R := StoreAt) (k := p)) (by omega)) ?_
    rintro _ w ⟨aoL, cL, rfl, H⟩
    simp (maxSteps := 500000) (decide := true) (disch := omega) only [EV, ↓reduceIte, Nat.reduceAdd, tt9, encN_f, encK_f, L2, L5]
    refine lq_nil ?_
    refine h9 _ _ ?_
    refine cw_seq (fun K10 h10 => ?_)
    refine cw_region (lq_run ?_)
    simp (maxSteps := 500000) (decide := true) (disch := omega) only [EV, ↓reduceIte, Nat.reduceAdd, tt9, encN_f, encK_f, L2, L5]
    refine lq_call rfl ?_
    refine Cl.mono (wU32_ok (H.tkR (R := Wr) (k := pw)) ⟨by omega, by omega⟩ ⟨by omega, by omega⟩ (by simp only [List.length_append, List.length_nil, beL_length, textB_length, textsB_length, o3_len, o4_len, o5_len]; omega)) ?_
    rintro r w H
    replace H := H.wfit (by simp only [List.length_append, List.length_nil, beL_length, textB_length, textsB_length, o3_len, o4_len, o5_len]; omega)
    replace H : Own (Wr pw (2147483647, o4 g S, 0) :: Os 111 encN (.slice aoL S.L.length cL) S.L :: StoreAt p S :: F) w := H
    simp (maxSteps := 500000) (decide := true) (disch := omega) only [EV, ↓reduceIte, Nat.reduceAdd, tt9, encN_f, encK_f, L2, L5]
    refine lq_nil ?_
    refine h10 _ _ ?_
    refine cw_seq (fun K11 h11 => ?_)
    refine cw_seq (fun K12 h12 => ?_)
    refine cw_region (lq_run ?_)
    simp (maxSteps := 500000) (decide := true) (disch := omega) only [EV, ↓reduceIte, Nat.reduceAdd, tt9, encN_f, encK_f, L2, L5]
    refine lq_nil ?_
    refine h12 _ _ ?_
    refine cw_block ?_
    refine cw_loopC (X := List (ByteArray × Int) × List (ByteArray × Int)) [(1, _), (4, _), (5, _), (6, _), (37, _), (38, _)] (fun x => [(39, .int .i64 (x.1.length : Int))]) (fun x w => S.L = x.1 ++ x.2 ∧ Own (Wr pw (2147483647, o4 g S ++ x.1.flatMap lastB, 0) :: Os 111 encN (.slice aoL S.L.length cL) S.L :: StoreAt p S :: F) w) (fun x => x.2.length) ([], S.L) (.c rfl (.c rfl (.c rfl (.c rfl (.c rfl (.c rfl .n)))))) (.c rfl .n) ⟨rfl, by simpa using H⟩ ?_
    rintro ⟨d, r⟩ w ⟨hd, H⟩
    simp only [List.cons_append, List.nil_append]
    simp only at hd H ⊢
    refine cw_seq (fun K13 h13 => ?_)
    refine cw_region (lq_run ?_)
    simp (maxSteps := 500000) (decide := true) (disch := omega) only [EV, ↓reduceIte, Nat.reduceAdd, tt9, encN_f, encK_f, L2, L5]
    refine lq_nil ?_
    refine h13 _ _ ?_
    refine cw_seq (fun K14 h14 => ?_)
    refine cw_condB rfl (fun c40 => ?_) (fun c40 => ?_)
    · skip
      try simp only [HB] at c40
      obtain ⟨s, r2, rfl, he⟩ := zip_more hd c40
      have hs2 := (hW.last (q := s) (by rw [hd]; simp)).2
      have hfs := flat_split (f := lastB) hd
      rw [lastB_len] at hfs
      refine cw_skip ?_
      refine h14 _ _ ?_
      refine cw_seq (fun K15 h15 => ?_)
      refine cw_block ?_
      refine cw_seq (fun K16 h16 => ?_)
      refine cw_region (lq_run ?_)
      simp (maxSteps := 500000) (decide := true) (disch := omega) only [EV, ↓reduceIte, Nat.reduceAdd, tt9, encN_f, encK_f, L2, L5]
      refine lq_idx (i' := d.length) H rfl rfl (Ent.os (L := []) (T := 111) (enc := encN) (n := S.L.length) (c := cL) (xs := S.L)) (Nat.le_refl _) rfl he ?_
      simp (maxSteps := 500000) (decide := true) (disch := omega) only [EV, ↓reduceIte, Nat.reduceAdd, tt9, encN_f, encK_f, L2, L5]
      refine lq_loadE H rfl (Ent.os (L := []) (T := 111) (enc := encN) (n := S.L.length) (c := cL) (xs := S.L)) he rfl ?_
      simp (maxSteps := 500000) (decide := true) (disch := omega) only [EV, ↓reduceIte, Nat.reduceAdd, tt9, encN_f, encK_f, L2, L5]
      refine lq_new H (fun b9 w H => ?_)
      try simp only [ES, encN_f, encK_f, L2, L5] at H
      simp (maxSteps := 500000) (decide := true) (disch := omega) only [EV, ↓reduceIte, Nat.reduceAdd, tt9, encN_f, encK_f, L2, L5]
      refine lq_st H rfl rfl rfl (fun w H => ?_)
      try simp only [ES, encN_f, encK_f, L2, L5] at H
      simp (maxSteps := 500000) (decide := true) (disch := omega) only [EV, ↓reduceIte, Nat.reduceAdd, tt9, encN_f, encK_f, L2, L5]
      refine lq_nil ?_
      refine h16 _ _ ?_
      refine cw_seq (fun K17 h17 => ?_)
      refine cw_region (lq_run ?_)
      simp (maxSteps := 500000) (decide := true) (disch := omega) only [EV, ↓reduceIte, Nat.reduceAdd, tt9, encN_f, encK_f, L2, L5]
      refine lq_load H rfl ?_
      simp (maxSteps := 500000) (decide := true) (disch := omega) only [EV, ↓reduceIte, Nat.reduceAdd, tt9, encN_f, encK_f, L2, L5]
      refine lq_call rfl ?_
      refine Cl.mono (wText_ok (H.tkR (R := Wr) (k := pw)) ⟨by omega, by omega⟩ (by simp only [List.length_append, List.length_nil, beL_length, textB_length, textsB_length, o3_len, o4_len, o5_len]; omega)) ?_
      rintro r w H
      replace H := H.wfit (by simp only [List.length_append, List.length_nil, beL_length, textB_length, textsB_length, o3_len, o4_len, o5_len]; omega)
      simp (maxSteps := 500000) (decide := true) (disch := omega) only [EV, ↓reduceIte, Nat.reduceAdd, tt9, encN_f, encK_f, L2, L5]
      refine lq_nil ?_
      refine h17 _ _ ?_
      refine cw_region (lq_run ?_)
      simp (maxSteps := 500000) (decide := true) (disch := omega) only [EV, ↓reduceIte, Nat.reduceAdd, tt9, encN_f, encK_f, L2, L5]
      refine lq_load H rfl ?_
      simp (maxSteps := 500000) (decide := true) (disch := omega) only [EV, ↓reduceIte, Nat.reduceAdd, tt9, encN_f, encK_f, L2, L5]
      refine lq_call rfl ?_
      refine Cl.mono (wU64_ok (H.tkR (R := Wr) (k := pw)) ⟨by omega, by omega⟩ ⟨hs2.1, by omega⟩ (by simp only [List.length_append, List.length_nil, beL_length, textB_length, textsB_length, o3_len, o4_len, o5_len]; omega)) ?_
      rintro r w H
      replace H := H.wfit (by simp only [List.length_append, List.length_nil, beL_length, textB_length, textsB_length, o3_len, o4_len, o5_len]; omega)
      rw [lastB_snoc] at H
      simp (maxSteps := 500000) (decide := true) (disch := omega) only [EV, ↓reduceIte, Nat.reduceAdd, tt9, encN_f, encK_f, L2, L5]
      refine lq_nil ?_
      refine h15 _ _ ?_
      refine cw_region (lq_run ?_)
      simp (maxSteps := 500000) (decide := true) (disch := omega) only [EV, ↓reduceIte, Nat.reduceAdd, tt9, encN_f, encK_f, L2, L5]
      refine lq_nil ?_
      refine Exists.intro (d ++ [s], r2) ⟨⟨(.c (by rw [List.length_append]; rfl) .n), (.c rfl (.c rfl (.c rfl (.c rfl (.c rfl (.c rfl .n))))))⟩, ⟨by simp [hd], H.wk⟩, (by simp)⟩
    · skip
      try simp only [HB] at c40
      obtain ⟨rfl, hdd⟩ := zip_done hd c40
      rw [← hdd] at H
      refine cw_exit ?_
      refine h11 _ _ ?_
      refine cw_seq (fun K18 h18 => ?_)
      refine cw_region (lq_run ?_)
      simp (maxSteps := 500000) (decide := true) (disch := omega) only [EV, ↓reduceIte, Nat.reduceAdd, tt9, encN_f, encK_f, L2, L5]
      refine lq_call rfl ?_
      refine Cl.mono (Kept_ok (H.tkR (R := StoreAt) (k := p)) (by omega) (fun x hx => by have := (hW.ver hx).2.2.2.2.1; omega)) ?_
      rintro _ w ⟨l, aoK, cK, rfl, hlV, H⟩
      have hll : l.length = S.V.length := by rw [← hlV, List.length_map]
      simp (maxSteps := 500000) (decide := true) (disch := omega) only [EV, ↓reduceIte, Nat.reduceAdd, tt9, encN_f, encK_f, L2, L5]
      refine lq_nil ?_
      refine h18 _ _ ?_
      refine cw_seq (fun K19 h19 => ?_)
      refine cw_region (lq_run ?_)
      simp (maxSteps := 500000) (decide := true) (disch := omega) only [EV, ↓reduceIte, Nat.reduceAdd, tt9, encN_f, encK_f, L2, L5]
      refine lq_call rfl ?_
      refine Cl.mono (wU32_ok (H.tkR (R := Wr) (k := pw)) ⟨by omega, by omega⟩ ⟨by omega, by omega⟩ (by simp only [List.length_append, List.length_nil, beL_length, textB_length, textsB_length, o3_len, o4_len, o5_len]; omega)) ?_
      rintro r w H
      replace H := H.wfit (by simp only [List.length_append, List.length_nil, beL_length, textB_length, textsB_length, o3_len, o4_len, o5_len]; omega)
      rw [show beL ((l.length : Nat) : Int) 4 = beL (S.V.length : Int) 4 by rw [hll]] at H
      replace H : Own (Wr pw (2147483647, o5 g S, 0) :: Os 48 encK (.slice aoK l.length cK) l :: KeysR l :: StoreAt p S :: F) w := (show Own (Wr pw (2147483647, o5 g S, 0) :: _) w from H).wk
      simp (maxSteps := 500000) (decide := true) (disch := omega) only [EV, ↓reduceIte, Nat.reduceAdd, tt9, encN_f, encK_f, L2, L5]
      refine lq_nil ?_
      refine h19 _ _ ?_
      refine cw_seq (fun K20 h20 => ?_)
      refine cw_seq (fun K21 h21 => ?_)
      refine cw_region (lq_run ?_)
      simp (maxSteps := 500000) (decide := true) (disch := omega) only [EV, ↓reduceIte, Nat.reduceAdd, tt9, encN_f, encK_f, L2, L5]
      refine lq_nil ?_
      refine h21 _ _ ?_
      refine cw_block ?_
      refine cw_loopC (X := List KT × List KT) [(4, _), (5, _), (6, _), (59, _), (60, _)] (fun x => [(61, .int .i64 (x.1.length : Int))]) (fun x w => l = x.1 ++ x.2 ∧ Own (Wr pw (2147483647, o5 g S ++ (x.1.map (·.1)).flatMap keptB, 0) :: Os 48 encK (.slice aoK l.length cK) l :: KeysR l :: StoreAt p S :: F) w) (fun x => x.2.length) ([], l) (.c rfl (.c rfl (.c rfl (.c rfl (.c rfl .n))))) (.c rfl .n) ⟨rfl, by simpa using H⟩ ?_
      rintro ⟨d, r⟩ w ⟨hd, H⟩
      simp only [List.cons_append, List.nil_append]
      simp only at hd H ⊢
      refine cw_seq (fun K22 h22 => ?_)
      refine cw_region (lq_run ?_)
      simp (maxSteps := 500000) (decide := true) (disch := omega) only [EV, ↓reduceIte, Nat.reduceAdd, tt9, encN_f, encK_f, L2, L5]
      refine lq_nil ?_
      refine h22 _ _ ?_
      refine cw_seq (fun K23 h23 => ?_)
      refine cw_condB rfl (fun c62 => ?_) (fun c62 => ?_)
      · skip
        try simp only [HB] at c62
        obtain ⟨s, r2, rfl, he⟩ := zip_more hd c62
        have hs2 := hW.ver (p := s.1) (by rw [← hlV, hd]; simp)
        have hfs := flat_split (f := keptB) (show S.V = d.map (·.1) ++ s.1 :: r2.map (·.1) by rw [← hlV, hd]; simp)
        rw [keptB_len] at hfs
        refine cw_skip ?_
        refine h23 _ _ ?_
        refine cw_seq (fun K24 h24 => ?_)
        refine cw_block ?_
        refine cw_seq (fun K25 h25 => ?_)
        refine cw_region (lq_run ?_)
        simp (maxSteps := 500000) (decide := true) (disch := omega) only [EV, ↓reduceIte, Nat.reduceAdd, tt9, encN_f, encK_f, L2, L5]
        refine lq_idx (i' := d.length) H rfl rfl (Ent.os (L := []) (T := 48) (enc := encK) (n := l.length) (c := cK) (xs := l)) (Nat.le_refl _) rfl he ?_
        simp (maxSteps := 500000) (decide := true) (disch := omega) only [EV, ↓reduceIte, Nat.reduceAdd, tt9, encN_f, encK_f, L2, L5]
        refine lq_loadE H rfl (Ent.os (L := []) (T := 48) (enc := encK) (n := l.length) (c := cK) (xs := l)) he rfl ?_
        simp (maxSteps := 500000) (decide := true) (disch := omega) only [EV, ↓reduceIte, Nat.reduceAdd, tt9, encN_f, encK_f, L2, L5]
        refine lq_new H (fun b12 w H => ?_)
        try simp only [ES, encN_f, encK_f, L2, L5] at H
        simp (maxSteps := 500000) (decide := true) (disch := omega) only [EV, ↓reduceIte, Nat.reduceAdd, tt9, encN_f, encK_f, L2, L5]
        refine lq_st H rfl rfl rfl (fun w H => ?_)
        try simp only [ES, encN_f, encK_f, L2, L5] at H
        simp (maxSteps := 500000) (decide := true) (disch := omega) only [EV, ↓reduceIte, Nat.reduceAdd, tt9, encN_f, encK_f, L2, L5]
        refine lq_nil ?_
        refine h25 _ _ ?_
        refine cw_seq (fun K26 h26 => ?_)
        refine cw_region (lq_run ?_)
        simp (maxSteps := 500000) (decide := true) (disch := omega) only [EV, ↓reduceIte, Nat.reduceAdd, tt9, encN_f, encK_f, L2, L5]
        refine lq_load H rfl ?_
        simp (maxSteps := 500000) (decide := true) (disch := omega) only [EV, ↓reduceIte, Nat.reduceAdd, tt9, encN_f, encK_f, L2, L5]
        refine lq_call rfl ?_
        refine Cl.mono (wText_ok (H.tkR (R := Wr) (k := pw)) ⟨by omega, by omega⟩ (by simp only [List.length_append, List.length_nil, beL_length, textB_length, textsB_length, o3_len, o4_len, o5_len]; omega)) ?_
        rintro r w H
        replace H := H.wfit (by simp only [List.length_append, List.length_nil, beL_length, textB_length, textsB_length, o3_len, o4_len, o5_len]; omega)
        simp (maxSteps := 500000) (decide := true) (disch := omega) only [EV, ↓reduceIte, Nat.reduceAdd, tt9, encN_f, encK_f, L2, L5]
        refine lq_nil ?_
        refine h26 _ _ ?_
        refine cw_seq (fun K27 h27 => ?_)
        refine cw_region (lq_run ?_)
        simp (maxSteps := 500000) (decide := true) (disch := omega) only [EV, ↓reduceIte, Nat.reduceAdd, tt9, encN_f, encK_f, L2, L5]
        refine lq_load H rfl ?_
        simp (maxSteps := 500000) (decide := true) (disch := omega) only [EV, ↓reduceIte, Nat.reduceAdd, tt9, encN_f, encK_f, L2, L5]
        refine lq_call rfl ?_
        refine Cl.mono (wU64_ok (H.tkR (R := Wr) (k := pw)) ⟨by omega, by omega⟩ ⟨hs2.2.1, by omega⟩ (by simp only [List.length_append, List.length_nil, beL_length, textB_length, textsB_length, o3_len, o4_len, o5_len]; omega)) ?_
        rintro r w H
        replace H := H.wfit (by simp only [List.length_append, List.length_nil, beL_length, textB_length, textsB_length, o3_len, o4_len, o5_len]; omega)
        simp (maxSteps := 500000) (decide := true) (disch := omega) only [EV, ↓reduceIte, Nat.reduceAdd, tt9, encN_f, encK_f, L2, L5]
        refine lq_nil ?_
        refine h27 _ _ ?_
        refine cw_seq (fun K28 h28 => ?_)
        refine cw_region (lq_run ?_)
        simp (maxSteps := 500000) (decide := true) (disch := omega) only [EV, ↓reduceIte, Nat.reduceAdd, tt9, encN_f, encK_f, L2, L5]
        refine lq_load H rfl ?_
        simp (maxSteps := 500000) (decide := true) (disch := omega) only [EV, ↓reduceIte, Nat.reduceAdd, tt9, encN_f, encK_f, L2, L5]
        refine lq_call rfl ?_
        refine Cl.mono (wText_ok (H.tkR (R := Wr) (k := pw)) ⟨by omega, by omega⟩ (by simp only [List.length_append, List.length_nil, beL_length, textB_length, textsB_length, o3_len, o4_len, o5_len]; omega)) ?_
        rintro r w H
        replace H := H.wfit (by simp only [List.length_append, List.length_nil, beL_length, textB_length, textsB_length, o3_len, o4_len, o5_len]; omega)
        simp (maxSteps := 500000) (decide := true) (disch := omega) only [EV, ↓reduceIte, Nat.reduceAdd, tt9, encN_f, encK_f, L2, L5]
        refine lq_nil ?_
        refine h28 _ _ ?_
        refine cw_region (lq_run ?_)
        simp (maxSteps := 500000) (decide := true) (disch := omega) only [EV, ↓reduceIte, Nat.reduceAdd, tt9, encN_f, encK_f, L2, L5]
        refine lq_load H rfl ?_
        simp (maxSteps := 500000) (decide := true) (disch := omega) only [EV, ↓reduceIte, Nat.reduceAdd, tt9, encN_f, encK_f, L2, L5]
        refine lq_call rfl ?_
        refine Cl.mono (wTexts_ok (H.tkR (R := Wr) (k := pw)) ⟨by omega, by omega⟩ ((KeysR.ent (L := []) (l := l) (x := s) (by rw [hd]; simp)).up) rfl (by simp only [List.length_append, List.length_nil, beL_length, textB_length, textsB_length, o3_len, o4_len, o5_len]; omega)) ?_
        rintro r w H
        replace H := H.wfit (by simp only [List.length_append, List.length_nil, beL_length, textB_length, textsB_length, o3_len, o4_len, o5_len]; omega)
        rw [keptB_snoc] at H
        simp (maxSteps := 500000) (decide := true) (disch := omega) only [EV, ↓reduceIte, Nat.reduceAdd, tt9, encN_f, encK_f, L2, L5]
        refine lq_nil ?_
        refine h24 _ _ ?_
        refine cw_region (lq_run ?_)
        simp (maxSteps := 500000) (decide := true) (disch := omega) only [EV, ↓reduceIte, Nat.reduceAdd, tt9, encN_f, encK_f, L2, L5]
        refine lq_nil ?_
        refine Exists.intro (d ++ [s], r2) ⟨⟨(.c (by rw [List.length_append]; rfl) .n), (.c rfl (.c rfl (.c rfl (.c rfl (.c rfl .n)))))⟩, ⟨by simp [hd], H.wk⟩, (by simp)⟩
      · skip
        try simp only [HB] at c62
        obtain ⟨rfl, hdd⟩ := zip_done hd c62
        rw [← hdd, hlV] at H
        refine cw_exit ?_
        refine h20 _ _ ?_
        refine cw_seq (fun K29 h29 => ?_)
        refine cw_region (lq_run ?_)
        simp (maxSteps := 500000) (decide := true) (disch := omega) only [EV, ↓reduceIte, Nat.reduceAdd, tt9, encN_f, encK_f, L2, L5]
        refine lq_call rfl ?_
        refine Cl.mono (wOut_ok (H.tkR (R := Wr) (k := pw)) (by rw [o5_body]; omega)) ?_
        rintro _ w (⟨q, -⟩ | ⟨-, aoB, cB, rfl, H⟩)
        · exact absurd rfl q
        rw [o5_body] at H
        rw [o5_body]
        simp (maxSteps := 500000) (decide := true) (disch := omega) only [EV, ↓reduceIte, Nat.reduceAdd, tt9, encN_f, encK_f, L2, L5]
        refine lq_nil ?_
        refine h29 _ _ ?_
        refine cw_seq (fun K30 h30 => ?_)
        refine cw_seq (fun K31 h31 => ?_)
        refine cw_region (lq_run ?_)
        simp (maxSteps := 500000) (decide := true) (disch := omega) only [EV, ↓reduceIte, Nat.reduceAdd, tt9, encN_f, encK_f, L2, L5]
        refine lq_nil ?_
        refine h31 _ _ ?_
        refine cw_condB rfl (fun c92 => ?_) (fun c92 => ?_)
        · skip
          try simp only [HB] at c92
          refine cw_seq (fun K32 h32 => ?_)
          refine cw_region (lq_run ?_)
          simp (maxSteps := 500000) (decide := true) (disch := omega) only [EV, ↓reduceIte, Nat.reduceAdd, tt9, encN_f, encK_f, L2, L5]
          refine lq_nil ?_
          refine h32 _ _ ?_
          refine cw_ret ?_
          try simp (decide := true) only [EX, ↓reduceIte]
          refine ret2 rfl rfl ?_
          cases c92
        · skip
          try simp only [HB] at c92
          refine cw_skip ?_
          refine h30 _ _ ?_
          refine cw_seq (fun K33 h33 => ?_)
          refine cw_region (lq_run ?_)
          simp (maxSteps := 500000) (decide := true) (disch := omega) only [EV, ↓reduceIte, Nat.reduceAdd, tt9, encN_f, encK_f, L2, L5]
          refine lq_call rfl ?_
          refine Cl.mono (sealOf_ok H (Ent.os (L := _) (T := 5) (enc := encB)) rfl (by omega)) ?_
          rintro _ w ⟨aoS, cS, rfl, H⟩
          simp (maxSteps := 500000) (decide := true) (disch := omega) only [EV, ↓reduceIte, Nat.reduceAdd, tt9, encN_f, encK_f, L2, L5]
          refine lq_appR (enc := encB) (xs := bodyB g S) H rfl rfl (Ent.os (L := []) (T := 5) (enc := encB) (n := 4) (c := cS) (xs := sealB (bodyB g S))) (by simp [sealB, beL_length]) (by rw [show encB.n = 1 from rfl]; simp [sealB, beL_length]; omega) (fun aoF cF w H => ?_)
          simp (maxSteps := 500000) (decide := true) (disch := omega) only [EV, ↓reduceIte, Nat.reduceAdd, tt9, encN_f, encK_f, L2, L5]
          refine lq_nil ?_
          refine h33 _ _ ?_
          refine cw_ret ?_
          try simp (decide := true) only [EX, ↓reduceIte]
          refine ret2 rfl rfl ?_
          have he4 : (bodyB g S).length + (sealB (bodyB g S)).length = (snapB g S).length := by rw [snapB_length]; simp [sealB, beL_length]
          rw [he4] at H ⊢
          rw [show bodyB g S ++ sealB (bodyB g S) = snapB g S from rfl] at H
          exact .inr ⟨by omega, aoF, cF, rfl, H.wk⟩
end Go.Rp
