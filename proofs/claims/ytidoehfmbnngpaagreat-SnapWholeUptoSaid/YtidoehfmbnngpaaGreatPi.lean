/-
  store.Load; the lasts of a snapshot.
-/
import Derived.Test.YtidoehfmbnngpaaGreatProg
import Derived.Test.YtidoehfmbnngpaaGreatPh
set_option linter.unusedVariables false
set_option linter.unusedSimpArgs false
set_option maxHeartbeats 1000000
set_option maxRecDepth 100000
namespace Go.Rp
open Go.Proofs
instance iW30_0 : ElT Tryz.prog 111 2 := ElT.mk' (by kernel_rfl)
instance iW30_1 : ElT Tryz.prog 48 5 := ElT.mk' (by kernel_rfl)
instance iW30_2 : FnOk Tryz.prog 54 := ⟨⟨Tryz.f54, Tryz.func54, by kernel_rfl, by kernel_rfl⟩⟩
instance iW30_3 : FnOk Tryz.prog 57 := ⟨⟨Tryz.f57, Tryz.func57, by kernel_rfl, by kernel_rfl⟩⟩
instance iW30_4 : FnOk Tryz.prog 64 := ⟨⟨Tryz.f64, Tryz.func64, by kernel_rfl, by kernel_rfl⟩⟩
instance iW30_5 : FnOk Tryz.prog 65 := ⟨⟨Tryz.f65, Tryz.func65, by kernel_rfl, by kernel_rfl⟩⟩
instance iW30_6 : FnOk Tryz.prog 99 := ⟨⟨Tryz.f99, Tryz.func99, by kernel_rfl, by kernel_rfl⟩⟩
instance iW30_7 : MpT Tryz.prog 123 119 125 := ⟨by kernel_rfl⟩
instance iW30_8 : MpT Tryz.prog 96 9 43 := ⟨by kernel_rfl⟩
instance iW30_9 : SlT Tryz.prog 34 48 := ⟨by kernel_rfl⟩
instance iW30_10 : SlT Tryz.prog 39 111 := ⟨by kernel_rfl⟩
instance iW30_11 : SzT Tryz.prog 111 2 := ⟨by kernel_rfl⟩
instance iW30_12 : SzT Tryz.prog 119 2 := ⟨by kernel_rfl⟩
instance iW30_13 : SzT Tryz.prog 125 3 := ⟨by kernel_rfl⟩
instance iW30_14 : SzT Tryz.prog 48 5 := ⟨by kernel_rfl⟩
instance iW30_15 : ZvT Tryz.prog 111 (.agg #[(.string ByteArray.empty), (.int .u64 0)]) := ⟨by kernel_rfl⟩
instance iW30_16 : ZvT Tryz.prog 119 (.agg #[(.string ByteArray.empty), (.int .u64 0)]) := ⟨by kernel_rfl⟩
instance iW30_17 : ZvT Tryz.prog 125 (.agg #[(.string ByteArray.empty), (.slice none 0 0), (.int .i64 0)]) := ⟨by kernel_rfl⟩
instance iW30_18 : ZvT Tryz.prog 48 (.agg #[(.string ByteArray.empty), (.int .u64 0), (.string ByteArray.empty), (.slice none 0 0), (.int .i64 0)]) := ⟨by kernel_rfl⟩
theorem tt46 : (AG Tryz.prog 111 = some true) ∧ (AG Tryz.prog 119 = some true) ∧ (AG Tryz.prog 123 = some false) ∧ (AG Tryz.prog 2 = some false) ∧ (AG Tryz.prog 43 = some false) ∧ (AG Tryz.prog 44 = some false) ∧ (AG Tryz.prog 48 = some true) ∧ (AG Tryz.prog 9 = some false) ∧ (AG Tryz.prog 96 = some false) ∧ (BU Tryz.prog 119 = some ([(.string ByteArray.empty), (.int .u64 0)], [(0, 1), (1, 1)])) ∧ (BU Tryz.prog 125 = some ([(.string ByteArray.empty), (.slice none 0 0), (.int .i64 0)], [(0, 1), (1, 1), (2, 1)])) ∧ (FO Tryz.prog 111 0 = some 0) ∧ (FO Tryz.prog 111 1 = some 1) ∧ (FO Tryz.prog 129 0 = some 0) ∧ (FO Tryz.prog 129 3 = some 3) ∧ (FO Tryz.prog 46 0 = some 0) ∧ (FO Tryz.prog 46 1 = some 1) ∧ (FO Tryz.prog 46 2 = some 2) ∧ (FO Tryz.prog 46 3 = some 3) ∧ (FO Tryz.prog 48 0 = some 0) ∧ (FO Tryz.prog 48 1 = some 4) ∧ (LK Tryz.prog 34 = some 1) ∧ (LK Tryz.prog 39 = some 1) ∧ (SZ Tryz.prog 111 = some 2) ∧ (SZ Tryz.prog 119 = some 2) ∧ (SZ Tryz.prog 48 = some 5) := ⟨by kernel_rfl, by kernel_rfl, by kernel_rfl, by kernel_rfl, by kernel_rfl, by kernel_rfl, by kernel_rfl, by kernel_rfl, by kernel_rfl, by kernel_rfl, by kernel_rfl, by kernel_rfl, by kernel_rfl, by kernel_rfl, by kernel_rfl, by kernel_rfl, by kernel_rfl, by kernel_rfl, by kernel_rfl, by kernel_rfl, by kernel_rfl, by kernel_rfl, by kernel_rfl, by kernel_rfl, by kernel_rfl, by kernel_rfl⟩

theorem Own.stC3 {p : Nat} {V : List (Nm × Hd)} {LL : List (ByteArray × Int)} {bv bi bp bl : Nat} {mv : List (Nm × (ByteArray × Sl × Int))} {mi : List (ByteArray × Sl)} {mp : List (Int × Sl)} {ml : List (ByteArray × Int)} {rs : List (Option Addr × List ByteArray)} {pl : Int → List ByteArray} {L M : List HP} {w : World}
    (hq : LoOk ⟨V, LL⟩ ⟨bv, bi, bp, bl, mv, mi, mp, ml, rs, pl⟩) (H : Own M w) [wk : Wk M (Ce p ([.map (some bv), .map (some bi), .map (some bp), .map (some bl)], 129) :: Mp EmV bv mv :: Mp EmI bi mi :: Mp EmP bp mp :: Mp EmL bl ml :: Bag rs :: IdsR V mi :: PlR pl mp :: L)] : Own (StoreAt p ⟨V, LL⟩ :: L) w :=
  Sep.ex.2 ⟨⟨bv, bi, bp, bl, mv, mi, mp, ml, rs, pl⟩, Sep.pure.2 ⟨hq, Sep.flat.2 (wk.out _ H)⟩⟩
theorem LoOk.lastS {V : List (Nm × Hd)} {d : List (ByteArray × Int)} {q : Lo} (hq : LoOk ⟨V, d⟩ q) {s : ByteArray × Int} (hr : Rise (keys (d ++ [s]))) :
    LoOk ⟨V, d ++ [s]⟩ ⟨q.bv, q.bi, q.bp, q.bl, q.mv, q.mi, q.mp, mset q.ml s.1 s.2, q.rs, q.pl⟩ where
  rv := hq.rv
  rl := hr
  v := hq.v
  i := hq.i
  p := hq.p
  pn := hq.pn
  p0 := hq.p0
  l := fun k => by
    simp only
    rw [mset_get, hq.l]
    have hn := hr.nodup
    by_cases e : s.1 = k
    · rw [if_pos e]
      exact (mem_mget hn (by rw [← e]; simp)).symm
    · rw [if_neg e]
      show mget d k = _
      cases h : mget d k with
      | some v => exact (mem_mget hn (List.mem_append_left _ (mget_mem h))).symm
      | none =>
        rw [eq_comm, mget_none]
        rw [mget_none] at h
        intro hk
        simp only [keys, List.map_append, List.mem_append, List.map_cons, List.map_nil, List.mem_singleton] at hk
        rcases hk with hk | hk
        · exact h hk
        · exact e hk.symm
theorem Rise.snocK {κ β : Type} [Lt κ] {d : List (κ × β)} {z s : κ × β} (h : Rise (keys (d ++ [z]))) (hz : Lt.lt z.1 s.1 = true) : Rise (keys (d ++ [z] ++ [s])) := by
  unfold keys at *
  rw [List.map_append] at h ⊢
  rw [List.map_append]
  exact Rise.snoc (d := d.map (·.1)) h hz
theorem Rise.oneK {κ β : Type} [Lt κ] (s : κ × β) : Rise (keys ([] ++ [s])) := List.pairwise_singleton _ _
theorem not_riseK {κ β : Type} [Lt κ] {d r : List (κ × β)} {z s : κ × β} (hz : Lt.lt z.1 s.1 = false) : ¬ Rise (keys (d ++ [z] ++ s :: r)) := by
  intro h
  unfold keys at h
  rw [List.map_append, List.map_append] at h
  have := (List.pairwise_append.1 h).2.2 z.1 (by simp) s.1 (by simp)
  rw [this] at hz; cases hz
theorem sins_snoc {κ β : Type} [DecidableEq κ] [Lt κ] : ∀ {d : List (κ × β)} {k : κ} {v : β}, Rise (keys (d ++ [(k, v)])) → sins d k v = d ++ [(k, v)]
  | [], k, v, _ => rfl
  | (a, u) :: d, k, v, h => by
    have h' := List.pairwise_cons.1 h
    have hlt : Lt.lt a k = true := h'.1 k (by simp)
    have e1 : ¬ a = k := Lt.ne hlt
    have e2 : ¬ Lt.lt k a = true := by rw [Lt.asy hlt]; simp
    have ih := sins_snoc (d := d) (k := k) (v := v) h'.2
    unfold sins
    simp only [e1, e2, ↓reduceIte, ih, List.cons_append, reduceCtorEq]
theorem new_of {β : Type} {d : List (Nm × β)} {s : Nm × β} (h : Rise (keys (d ++ [s]))) : mget d s.1 = none := by
  rw [mget_none]
  intro hk
  unfold keys at h hk
  rw [List.map_append] at h
  have := (List.pairwise_append.1 h).2.2 s.1 hk s.1 (by simp)
  rw [Lt.irr] at this; cases this
theorem L5 (a b c d e : Value) : List.take 5 [a, b, c, d, e] = [a, b, c, d, e] := rfl
theorem cmpN_lt {x y : Nm} (h : ¬ 0 ≤ cmpN x y) : Lt.lt x y = true := (cmpN_neg x y).1 (by omega)
theorem cmpN_ge {x y : Nm} (h : 0 ≤ cmpN x y) : Lt.lt x y = false := by
  cases q : Lt.lt x y with
  | false => rfl
  | true => have := (cmpN_neg x y).2 q; omega
theorem ml_mem {S : Sto} {q : Lo} (hq : LoOk S q) {y : ByteArray × Int} (hn : (keys q.ml).Nodup) : y ∈ q.ml ↔ y ∈ S.L := by
  constructor
  · intro h
    have h1 := mem_mget hn h
    rw [hq.l] at h1
    exact mget_mem h1
  · intro h
    have h1 := mem_mget hq.rl.nodup h
    rw [← hq.l] at h1
    exact mget_mem h1
theorem put_snoc {p : Nat} {d : List KT} {s : KT} {ll : List (ByteArray × Int)} {F : List HP} {w : World} (hrs : Rise (keys ((d ++ [s]).map (·.1)))) (H : Own (StoreAt p ⟨sins (d.map (·.1)) (s.1.1.1, s.1.1.2) ⟨s.1.2.val, s.1.2.keys, s.1.2.stamp⟩, ll⟩ :: F) w) : Own (StoreAt p ⟨(d ++ [s]).map (·.1), ll⟩ :: F) w := by
  rw [List.map_append] at hrs ⊢
  have e := sins_snoc (d := d.map (·.1)) (k := s.1.1) (v := s.1.2) hrs
  have e2 : sins (d.map (·.1)) (s.1.1.1, s.1.1.2) ⟨s.1.2.val, s.1.2.keys, s.1.2.stamp⟩ = d.map (·.1) ++ [s].map (·.1) := e
  rw [e2] at H
  exact H
theorem put_new {d : List KT} {s : KT} (hrs : Rise (keys ((d ++ [s]).map (·.1)))) : mget (d.map (·.1)) (s.1.1.1, s.1.1.2) = none := by
  rw [List.map_append] at hrs
  exact new_of (d := d.map (·.1)) (s := s.1) hrs
theorem rise_kt {d : List KT} {z s : KT} (h : Rise (keys ((d ++ [z]).map (·.1)))) (hz : Lt.lt z.1.1 s.1.1 = true) : Rise (keys ((d ++ [z] ++ [s]).map (·.1))) := by
  rw [List.map_append] at h ⊢
  rw [List.map_append]
  exact Rise.snocK (d := d.map (·.1)) (z := z.1) (s := s.1) h hz
theorem loads_snoc {d : List KT} {s : KT} {ll : List (ByteArray × Int)} {V : List (Nm × Hd)} (h : ∀ y ∈ d, LoadsP ⟨[], ll⟩ y.1.1.1 y.1.1.2 y.1.2.val y.1.2.keys y.1.2.stamp) (hs : LoadsP ⟨V, ll⟩ s.1.1.1 s.1.1.2 s.1.2.val s.1.2.keys s.1.2.stamp) :
    ∀ y ∈ d ++ [s], LoadsP ⟨[], ll⟩ y.1.1.1 y.1.1.2 y.1.2.val y.1.2.keys y.1.2.stamp := by
  intro y hy
  rcases List.mem_append.1 hy with hy | hy
  · exact h y hy
  · simp at hy; subst hy; exact hs.of rfl
theorem erase_mem {α : Type} {l d m : List α} {i : Nat} {a : α} (h : (d ++ l).Perm m) (hi : l[i]? = some a) : (d ++ [a] ++ l.eraseIdx i).Perm m := by
  refine List.Perm.trans ?_ h
  rw [List.append_assoc]
  exact List.Perm.append_left d (erase_perm hi).symm
theorem Load_ok {ak : Option Addr} {nk ck : Nat} {kl : List KT} {al : Option Addr} {nl cl : Nat} {ll : List (ByteArray × Int)} {F : List HP} {w : World} (H : Own F w) (hK : Ent F (Row ak encK kl)) (hKs : ∀ x ∈ kl, Ent F (Row x.2.1 encS x.1.2.keys)) (hL : Ent F (Row al encN ll)) (hnk : nk = kl.length) (hnl : nl = ll.length) (hbk : kl.length ≤ 1073741823) (hbl : ll.length ≤ 1073741823) (hks : ∀ x ∈ kl, x.1.2.keys.length ≤ 1073741824) :
  Cl Tryz.prog 46 #[.slice ak nk ck, .slice al nl cl] w fun v w' => (LoadOk (kl.map (·.1)) ll ∧ ∃ p, v = .tuple #[.pointer (some ⟨p, 0, none⟩), .int .i64 0] ∧ Own (StoreAt p ⟨kl.map (·.1), ll⟩ :: F) w') ∨ (¬ LoadOk (kl.map (·.1)) ll ∧ v = .tuple #[.pointer none, .int .i64 1] ∧ Own F w') := by
  subst hnk
  subst hnl
  refine cl_of_cw Tryz.func46 rfl ?_
  simp only [Tryz.ntmps46, envA, List.size_toArray, List.length_cons, List.length_nil, Nat.reduceAdd, Nat.reduceSub]
  refine cw_seq (fun K1 h1 => ?_)
  refine cw_region (lq_run ?_)
  simp (maxSteps := 500000) (decide := true) (disch := omega) only [EV, ↓reduceIte, Nat.reduceAdd, tt46, encK_f, encN_f, L2, L5, EmL_ke]
  refine lq_nil ?_
  refine h1 _ _ ?_
  refine cw_seq (fun K2 h2 => ?_)
  refine cw_region (lq_run ?_)
  simp (maxSteps := 500000) (decide := true) (disch := omega) only [EV, ↓reduceIte, Nat.reduceAdd, tt46, encK_f, encN_f, L2, L5, EmL_ke]
  refine lq_call rfl ?_
  refine Cl.mono (New_ok H) ?_
  rintro _ w ⟨p, rfl, H⟩
  simp (maxSteps := 500000) (decide := true) (disch := omega) only [EV, ↓reduceIte, Nat.reduceAdd, tt46, encK_f, encN_f, L2, L5, EmL_ke]
  refine lq_nil ?_
  refine h2 _ _ ?_
  refine cw_seq (fun K3 h3 => ?_)
  refine cw_seq (fun K4 h4 => ?_)
  refine cw_region (lq_run ?_)
  simp (maxSteps := 500000) (decide := true) (disch := omega) only [EV, ↓reduceIte, Nat.reduceAdd, tt46, encK_f, encN_f, L2, L5, EmL_ke]
  refine lq_nil ?_
  refine h4 _ _ ?_
  refine cw_block ?_
  refine cw_loopC (X := List (ByteArray × Int) × List (ByteArray × Int)) [(0, _), (1, _), (6, _), (17, _), (18, _)] (fun x => [(19, .int .i64 (x.1.length : Int))]) (fun x w => ll = x.1 ++ x.2 ∧ Rise (keys x.1) ∧ Own (StoreAt p ⟨[], x.1⟩ :: F) w) (fun x => x.2.length) ([], ll) (.c rfl (.c rfl (.c rfl (.c rfl (.c rfl .n))))) (.c rfl .n) ⟨rfl, .nil, H⟩ ?_
  rintro ⟨d, r⟩ w ⟨hd, hk, H⟩
  simp only [List.cons_append, List.nil_append]
  simp only at hd hk H ⊢
  refine cw_seq (fun K5 h5 => ?_)
  refine cw_region (lq_run ?_)
  simp (maxSteps := 500000) (decide := true) (disch := omega) only [EV, ↓reduceIte, Nat.reduceAdd, tt46, encK_f, encN_f, L2, L5, EmL_ke]
  refine lq_nil ?_
  refine h5 _ _ ?_
  refine cw_seq (fun K6 h6 => ?_)
  refine cw_condB rfl (fun c20 => ?_) (fun c20 => ?_)
  · skip
    try simp only [HB] at c20
    obtain ⟨s, r2, rfl, he⟩ := zip_more hd c20
    refine cw_skip ?_
    refine h6 _ _ ?_
    refine cw_seq (fun K7 h7 => ?_)
    refine cw_block ?_
    refine cw_seq (fun K8 h8 => ?_)
    refine cw_region (lq_run ?_)
    simp (maxSteps := 500000) (decide := true) (disch := omega) only [EV, ↓reduceIte, Nat.reduceAdd, tt46, encK_f, encN_f, L2, L5, EmL_ke]
    refine lq_idx (i' := d.length) H rfl rfl hL (Nat.le_refl _) rfl he ?_
    simp (maxSteps := 500000) (decide := true) (disch := omega) only [EV, ↓reduceIte, Nat.reduceAdd, tt46, encK_f, encN_f, L2, L5, EmL_ke]
    refine lq_loadE H rfl hL he rfl ?_
    simp (maxSteps := 500000) (decide := true) (disch := omega) only [EV, ↓reduceIte, Nat.reduceAdd, tt46, encK_f, encN_f, L2, L5, EmL_ke]
    refine lq_new H (fun b8 w H => ?_)
    try simp only [ES, encK_f, encN_f, L2, L5, EmL_ke] at H
    simp (maxSteps := 500000) (decide := true) (disch := omega) only [EV, ↓reduceIte, Nat.reduceAdd, tt46, encK_f, encN_f, L2, L5, EmL_ke]
    refine lq_st H rfl rfl rfl (fun w H => ?_)
    try simp only [ES, encK_f, encN_f, L2, L5, EmL_ke] at H
    simp (maxSteps := 500000) (decide := true) (disch := omega) only [EV, ↓reduceIte, Nat.reduceAdd, tt46, encK_f, encN_f, L2, L5, EmL_ke]
    refine lq_nil ?_
    refine h8 _ _ ?_
    refine cw_seq (fun K9 h9 => ?_)
    refine cw_seq (fun K10 h10 => ?_)
    refine cw_draw [(0, 0), (1, 0), (2, 0), (3, 0), (4, 1), (5, 0), (6, 0), (7, 0), (8, 0), (9, 0), (10, 1), (11, 0), (12, 0)] rfl (by kernel_rfl) (fun c env w => by simp (decide := true) only [EX, not_false_eq_true]) H (fun w H => ?_)
    have H0 := H
    refine dq_run ?_
    simp (maxSteps := 500000) (decide := true) (disch := omega) only [EV, ↓reduceIte, Nat.reduceAdd, tt46, encK_f, encN_f, L2, L5, EmL_ke]
    refine dq_G (fun g26 => ?_) (fun g26 => ?_)
    · try simp only [HB] at g26
      simp (maxSteps := 500000) (decide := true) (disch := omega) only [EV, ↓reduceIte, Nat.reduceAdd, tt46, encK_f, encN_f, L2, L5, EmL_ke]
      refine dq_load H0 rfl ?_
      simp (maxSteps := 500000) (decide := true) (disch := omega) only [EV, ↓reduceIte, Nat.reduceAdd, tt46, encK_f, encN_f, L2, L5, EmL_ke]
      obtain ⟨d', z, rfl⟩ : ∃ d' z, d = d' ++ [z] := by
        rcases List.eq_nil_or_concat d with rfl | ⟨d', z, h⟩
        · simp at g26
        · exact ⟨d', z, by simpa using h⟩
      refine dq_idx (i' := d'.length) H0 rfl rfl hL (Nat.le_refl _) (by simp) (show ll[d'.length]? = some z by rw [hd]; simp) ?_
      simp (maxSteps := 500000) (decide := true) (disch := omega) only [EV, ↓reduceIte, Nat.reduceAdd, tt46, encK_f, encN_f, L2, L5, EmL_ke]
      refine dq_loadE H0 rfl hL (show ll[d'.length]? = some z by rw [hd]; simp) rfl ?_
      simp (maxSteps := 500000) (decide := true) (disch := omega) only [EV, ↓reduceIte, Nat.reduceAdd, tt46, encK_f, encN_f, L2, L5, EmL_ke]
      refine dq_nil ?_
      refine h10 _ _ ?_
      refine cw_condB rfl (fun c36 => ?_) (fun c36 => ?_)
      · skip
        try simp only [HB] at c36
        refine cw_seq (fun K11 h11 => ?_)
        refine cw_region (lq_run ?_)
        simp (maxSteps := 500000) (decide := true) (disch := omega) only [EV, ↓reduceIte, Nat.reduceAdd, tt46, encK_f, encN_f, L2, L5, EmL_ke]
        refine lq_nil ?_
        refine h11 _ _ ?_
        refine cw_ret ?_
        try simp (decide := true) only [EX, ↓reduceIte]
        refine ret2 rfl rfl ?_
        refine .inr ⟨fun h => absurd h.rl ?_, rfl, H.wk⟩
        rw [hd]; exact not_riseK c36
      · skip
        try simp only [HB] at c36
        refine cw_skip ?_
        refine h9 _ _ ?_
        obtain ⟨q, hq, H⟩ := (H.tkR (R := StoreAt) (k := p)).stO
        refine cw_draw [(0, 0), (1, 0), (2, 0), (3, 1), (4, 0), (5, 1), (6, 0), (7, 1), (8, 3)] rfl (by kernel_rfl) (fun c env w => by simp (decide := true) only [EX, not_false_eq_true]) H (fun w H => ?_)
        have H0 := H
        refine dq_run ?_
        simp (maxSteps := 500000) (decide := true) (disch := omega) only [EV, ↓reduceIte, Nat.reduceAdd, tt46, encK_f, encN_f, L2, L5, EmL_ke]
        refine dq_load H0 rfl ?_
        simp (maxSteps := 500000) (decide := true) (disch := omega) only [EV, ↓reduceIte, Nat.reduceAdd, tt46, encK_f, encN_f, L2, L5, EmL_ke]
        refine dq_load H0 rfl ?_
        simp (maxSteps := 500000) (decide := true) (disch := omega) only [EV, ↓reduceIte, Nat.reduceAdd, tt46, encK_f, encN_f, L2, L5, EmL_ke]
        refine dq_load H0 rfl ?_
        simp (maxSteps := 500000) (decide := true) (disch := omega) only [EV, ↓reduceIte, Nat.reduceAdd, tt46, encK_f, encN_f, L2, L5, EmL_ke]
        refine dq_act (by decide) rfl ?_
        refine lq_mapUpdate (E := EmL) s.1 s.2 H rfl rfl rfl (fun w H => ?_)
        refine lr_nil ?_
        refine ⟨fun hh => absurd hh (by decide), ?_⟩
        simp (maxSteps := 500000) (decide := true) (disch := omega) only [EV, ↓reduceIte, Nat.reduceAdd, tt46, encK_f, encN_f, L2, L5, EmL_ke]
        refine dq_nil ?_
        refine h7 _ _ ?_
        refine cw_region (lq_run ?_)
        simp (maxSteps := 500000) (decide := true) (disch := omega) only [EV, ↓reduceIte, Nat.reduceAdd, tt46, encK_f, encN_f, L2, L5, EmL_ke]
        refine lq_nil ?_
        try (obtain rfl : d = [] := List.eq_nil_of_length_eq_zero (by omega))
        try simp only at H
        first
          | exact Exists.intro (d' ++ [z] ++ [s], r2) ⟨⟨(.c (by show look _ 19 = some (.int .i64 (((d' ++ [z] ++ [s]).length : Nat) : Int)); rw [show (d' ++ [z] ++ [s]).length = (d' ++ [z]).length + 1 from by simp]; rfl) .n), (.c rfl (.c rfl (.c rfl (.c rfl (.c rfl .n)))))⟩, ⟨by simp [hd], hk.snocK c36, Own.stC3 (p := p) (V := []) (L := F) (hq.lastS (hk.snocK c36)) H⟩, (by simp)⟩
          | exact Exists.intro ([] ++ [s], r2) ⟨⟨(.c rfl .n), (.c rfl (.c rfl (.c rfl (.c rfl (.c rfl .n)))))⟩, ⟨by simp [hd], .oneK s, Own.stC3 (p := p) (V := []) (L := F) (hq.lastS (.oneK s)) H⟩, (by simp)⟩
    · try simp only [HB] at g26
      simp (maxSteps := 500000) (decide := true) (disch := omega) only [EV, ↓reduceIte, Nat.reduceAdd, tt46, encK_f, encN_f, L2, L5, EmL_ke]
      refine dq_skip H0 rfl rfl rfl rfl ?_
      simp (maxSteps := 500000) (decide := true) (disch := omega) only [EV, ↓reduceIte, Nat.reduceAdd, tt46, encK_f, encN_f, L2, L5, EmL_ke]
      refine dq_skip H0 rfl rfl rfl rfl ?_
      simp (maxSteps := 500000) (decide := true) (disch := omega) only [EV, ↓reduceIte, Nat.reduceAdd, tt46, encK_f, encN_f, L2, L5, EmL_ke]
      refine dq_nil ?_
      refine h10 _ _ ?_
      refine cw_condF rfl ?_
      refine cw_skip ?_
      refine h9 _ _ ?_
      obtain ⟨q, hq, H⟩ := (H.tkR (R := StoreAt) (k := p)).stO
      refine cw_draw [(0, 0), (1, 0), (2, 0), (3, 1), (4, 0), (5, 1), (6, 0), (7, 1), (8, 3)] rfl (by kernel_rfl) (fun c env w => by simp (decide := true) only [EX, not_false_eq_true]) H (fun w H => ?_)
      have H0 := H
      refine dq_run ?_
      simp (maxSteps := 500000) (decide := true) (disch := omega) only [EV, ↓reduceIte, Nat.reduceAdd, tt46, encK_f, encN_f, L2, L5, EmL_ke]
      refine dq_load H0 rfl ?_
      simp (maxSteps := 500000) (decide := true) (disch := omega) only [EV, ↓reduceIte, Nat.reduceAdd, tt46, encK_f, encN_f, L2, L5, EmL_ke]
      refine dq_load H0 rfl ?_
      simp (maxSteps := 500000) (decide := true) (disch := omega) only [EV, ↓reduceIte, Nat.reduceAdd, tt46, encK_f, encN_f, L2, L5, EmL_ke]
      refine dq_load H0 rfl ?_
      simp (maxSteps := 500000) (decide := true) (disch := omega) only [EV, ↓reduceIte, Nat.reduceAdd, tt46, encK_f, encN_f, L2, L5, EmL_ke]
      refine dq_act (by decide) rfl ?_
      refine lq_mapUpdate (E := EmL) s.1 s.2 H rfl rfl rfl (fun w H => ?_)
      refine lr_nil ?_
      refine ⟨fun hh => absurd hh (by decide), ?_⟩
      simp (maxSteps := 500000) (decide := true) (disch := omega) only [EV, ↓reduceIte, Nat.reduceAdd, tt46, encK_f, encN_f, L2, L5, EmL_ke]
      refine dq_nil ?_
      refine h7 _ _ ?_
      refine cw_region (lq_run ?_)
      simp (maxSteps := 500000) (decide := true) (disch := omega) only [EV, ↓reduceIte, Nat.reduceAdd, tt46, encK_f, encN_f, L2, L5, EmL_ke]
      refine lq_nil ?_
      try (obtain rfl : d = [] := List.eq_nil_of_length_eq_zero (by omega))
      try simp only at H
      first
        | exact Exists.intro (d' ++ [z] ++ [s], r2) ⟨⟨(.c (by show look _ 19 = some (.int .i64 (((d' ++ [z] ++ [s]).length : Nat) : Int)); rw [show (d' ++ [z] ++ [s]).length = (d' ++ [z]).length + 1 from by simp]; rfl) .n), (.c rfl (.c rfl (.c rfl (.c rfl (.c rfl .n)))))⟩, ⟨by simp [hd], hk.snocK c36, Own.stC3 (p := p) (V := []) (L := F) (hq.lastS (hk.snocK c36)) H⟩, (by simp)⟩
        | exact Exists.intro ([] ++ [s], r2) ⟨⟨(.c rfl .n), (.c rfl (.c rfl (.c rfl (.c rfl (.c rfl .n)))))⟩, ⟨by simp [hd], .oneK s, Own.stC3 (p := p) (V := []) (L := F) (hq.lastS (.oneK s)) H⟩, (by simp)⟩
  · skip
    try simp only [HB] at c20
    obtain ⟨rfl, rfl⟩ := zip_done hd c20
    refine cw_exit ?_
    refine h3 _ _ ?_
    refine cw_seq (fun K12 h12 => ?_)
    refine cw_seq (fun K13 h13 => ?_)
    refine cw_region (lq_run ?_)
    simp (maxSteps := 500000) (decide := true) (disch := omega) only [EV, ↓reduceIte, Nat.reduceAdd, tt46, encK_f, encN_f, L2, L5, EmL_ke]
    refine lq_nil ?_
    refine h13 _ _ ?_
    refine cw_block ?_
    refine cw_loopC (X := List KT × List KT) [(0, _), (6, _), (46, _), (47, _)] (fun x => [(48, .int .i64 (x.1.length : Int))]) (fun x w => kl = x.1 ++ x.2 ∧ Rise (keys (x.1.map (·.1))) ∧ (∀ y ∈ x.1, LoadsP ⟨[], ll⟩ y.1.1.1 y.1.1.2 y.1.2.val y.1.2.keys y.1.2.stamp) ∧ Own (StoreAt p ⟨x.1.map (·.1), ll⟩ :: F) w) (fun x => x.2.length) ([], kl) (.c rfl (.c rfl (.c rfl (.c rfl .n)))) (.c rfl .n) ⟨rfl, .nil, by simp, H⟩ ?_
    rintro ⟨d, r⟩ w ⟨hd, hk, hlo, H⟩
    simp only [List.cons_append, List.nil_append]
    simp only at hd hk hlo H ⊢
    refine cw_seq (fun K14 h14 => ?_)
    refine cw_region (lq_run ?_)
    simp (maxSteps := 500000) (decide := true) (disch := omega) only [EV, ↓reduceIte, Nat.reduceAdd, tt46, encK_f, encN_f, L2, L5, EmL_ke]
    refine lq_nil ?_
    refine h14 _ _ ?_
    refine cw_seq (fun K15 h15 => ?_)
    refine cw_condB rfl (fun c49 => ?_) (fun c49 => ?_)
    · skip
      try simp only [HB] at c49
      obtain ⟨s, r2, rfl, he⟩ := zip_more hd c49
      have hdl := congrArg List.length hd
      simp only [List.length_append, List.length_cons] at hdl
      refine cw_skip ?_
      refine h15 _ _ ?_
      refine cw_seq (fun K16 h16 => ?_)
      refine cw_block ?_
      refine cw_seq (fun K17 h17 => ?_)
      refine cw_region (lq_run ?_)
      simp (maxSteps := 500000) (decide := true) (disch := omega) only [EV, ↓reduceIte, Nat.reduceAdd, tt46, encK_f, encN_f, L2, L5, EmL_ke]
      refine lq_idx (i' := d.length) H rfl rfl hK (Nat.le_refl _) rfl he ?_
      simp (maxSteps := 500000) (decide := true) (disch := omega) only [EV, ↓reduceIte, Nat.reduceAdd, tt46, encK_f, encN_f, L2, L5, EmL_ke]
      refine lq_loadE H rfl hK he rfl ?_
      simp (maxSteps := 500000) (decide := true) (disch := omega) only [EV, ↓reduceIte, Nat.reduceAdd, tt46, encK_f, encN_f, L2, L5, EmL_ke]
      refine lq_new H (fun b10 w H => ?_)
      try simp only [ES, encK_f, encN_f, L2, L5, EmL_ke] at H
      simp (maxSteps := 500000) (decide := true) (disch := omega) only [EV, ↓reduceIte, Nat.reduceAdd, tt46, encK_f, encN_f, L2, L5, EmL_ke]
      refine lq_st H rfl rfl rfl (fun w H => ?_)
      try simp only [ES, encK_f, encN_f, L2, L5, EmL_ke] at H
      simp (maxSteps := 500000) (decide := true) (disch := omega) only [EV, ↓reduceIte, Nat.reduceAdd, tt46, encK_f, encN_f, L2, L5, EmL_ke]
      refine lq_nil ?_
      refine h17 _ _ ?_
      refine cw_seq (fun K18 h18 => ?_)
      refine cw_region (lq_run ?_)
      simp (maxSteps := 500000) (decide := true) (disch := omega) only [EV, ↓reduceIte, Nat.reduceAdd, tt46, encK_f, encN_f, L2, L5, EmL_ke]
      refine lq_load H rfl ?_
      simp (maxSteps := 500000) (decide := true) (disch := omega) only [EV, ↓reduceIte, Nat.reduceAdd, tt46, encK_f, encN_f, L2, L5, EmL_ke]
      refine lq_load H rfl ?_
      simp (maxSteps := 500000) (decide := true) (disch := omega) only [EV, ↓reduceIte, Nat.reduceAdd, tt46, encK_f, encN_f, L2, L5, EmL_ke]
      refine lq_new H (fun b11 w H => ?_)
      try simp only [ES, encK_f, encN_f, L2, L5, EmL_ke] at H
      simp (maxSteps := 500000) (decide := true) (disch := omega) only [EV, ↓reduceIte, Nat.reduceAdd, tt46, encK_f, encN_f, L2, L5, EmL_ke]
      refine lq_st H rfl rfl rfl (fun w H => ?_)
      try simp only [ES, encK_f, encN_f, L2, L5, EmL_ke] at H
      simp (maxSteps := 500000) (decide := true) (disch := omega) only [EV, ↓reduceIte, Nat.reduceAdd, tt46, encK_f, encN_f, L2, L5, EmL_ke]
      refine lq_nil ?_
      refine h18 _ _ ?_
      refine cw_seq (fun K19 h19 => ?_)
      refine cw_seq (fun K20 h20 => ?_)
      refine cw_draw [(0, 0), (1, 0), (2, 0), (3, 0), (4, 0), (5, 0), (6, 0), (7, 0), (8, 0), (9, 1), (10, 0), (11, 0), (12, 0), (13, 0), (14, 0), (15, 0), (16, 1), (17, 0), (18, 1), (19, 2), (20, 0), (21, 0), (22, 0), (23, 0), (24, 1), (25, 3), (26, 0), (27, 0)] rfl (by kernel_rfl) (fun c env w => by simp (decide := true) only [EX, not_false_eq_true]) H (fun w H => ?_)
      have H0 := H
      refine dq_run ?_
      simp (maxSteps := 500000) (decide := true) (disch := omega) only [EV, ↓reduceIte, Nat.reduceAdd, tt46, encK_f, encN_f, L2, L5, EmL_ke]
      refine dq_G (fun g62 => ?_) (fun g62 => ?_)
      · try simp only [HB] at g62
        simp (maxSteps := 500000) (decide := true) (disch := omega) only [EV, ↓reduceIte, Nat.reduceAdd, tt46, encK_f, encN_f, L2, L5, EmL_ke]
        obtain ⟨d', z, rfl⟩ : ∃ d' z, d = d' ++ [z] := by
          rcases List.eq_nil_or_concat d with rfl | ⟨d', z, h⟩
          · simp at g62
          · exact ⟨d', z, by simpa using h⟩
        refine dq_idx (i' := d'.length) H0 rfl rfl hK (Nat.le_refl _) (by simp) (show kl[d'.length]? = some z by rw [hd]; simp) ?_
        simp (maxSteps := 500000) (decide := true) (disch := omega) only [EV, ↓reduceIte, Nat.reduceAdd, tt46, encK_f, encN_f, L2, L5, EmL_ke]
        refine dq_loadE H0 rfl hK (show kl[d'.length]? = some z by rw [hd]; simp) rfl ?_
        simp (maxSteps := 500000) (decide := true) (disch := omega) only [EV, ↓reduceIte, Nat.reduceAdd, tt46, encK_f, encN_f, L2, L5, EmL_ke]
        refine dq_idx (i' := d'.length) H0 rfl rfl hK (Nat.le_refl _) (by simp) (show kl[d'.length]? = some z by rw [hd]; simp) ?_
        simp (maxSteps := 500000) (decide := true) (disch := omega) only [EV, ↓reduceIte, Nat.reduceAdd, tt46, encK_f, encN_f, L2, L5, EmL_ke]
        refine dq_loadE H0 rfl hK (show kl[d'.length]? = some z by rw [hd]; simp) rfl ?_
        simp (maxSteps := 500000) (decide := true) (disch := omega) only [EV, ↓reduceIte, Nat.reduceAdd, tt46, encK_f, encN_f, L2, L5, EmL_ke]
        refine dq_load H0 rfl ?_
        simp (maxSteps := 500000) (decide := true) (disch := omega) only [EV, ↓reduceIte, Nat.reduceAdd, tt46, encK_f, encN_f, L2, L5, EmL_ke]
        refine dq_act (by decide) rfl ?_
        refine lq_call rfl ?_
        refine Cl.mono (byName_ok (x := z.1.1) (y := s.1.1) H) ?_
        rintro _ w ⟨rfl, H⟩
        refine lr_nil ?_
        replace H0 := H.wkTo H0
        refine ⟨fun _ => H0, ?_⟩
        simp (maxSteps := 500000) (decide := true) (disch := omega) only [EV, ↓reduceIte, Nat.reduceAdd, tt46, encK_f, encN_f, L2, L5, EmL_ke]
        refine dq_G (fun g82 => ?_) (fun g82 => ?_)
        · try simp only [HB] at g82
          simp (maxSteps := 500000) (decide := true) (disch := omega) only [EV, ↓reduceIte, Nat.reduceAdd, tt46, encK_f, encN_f, L2, L5, EmL_ke]
          refine dq_skip H0 rfl rfl rfl rfl ?_
          simp (maxSteps := 500000) (decide := true) (disch := omega) only [EV, ↓reduceIte, Nat.reduceAdd, tt46, encK_f, encN_f, L2, L5, EmL_ke]
          refine dq_skipA rfl (fun hh => absurd hh (by decide)) rfl rfl rfl rfl ?_
          simp (maxSteps := 500000) (decide := true) (disch := omega) only [EV, ↓reduceIte, Nat.reduceAdd, tt46, encK_f, encN_f, L2, L5, EmL_ke]
          refine dq_nil ?_
          refine h20 _ _ ?_
          refine cw_condT rfl ?_
          refine cw_seq (fun K21 h21 => ?_)
          refine cw_region (lq_run ?_)
          simp (maxSteps := 500000) (decide := true) (disch := omega) only [EV, ↓reduceIte, Nat.reduceAdd, tt46, encK_f, encN_f, L2, L5, EmL_ke]
          refine lq_nil ?_
          refine h21 _ _ ?_
          refine cw_ret ?_
          try simp (decide := true) only [EX, ↓reduceIte]
          refine ret2 rfl rfl ?_
          refine .inr ⟨fun h => absurd h.rv ?_, rfl, H.wk⟩
          rw [hd, List.map_append, List.map_append]; exact not_riseK (cmpN_ge (by simpa using g82))
        · try simp only [HB] at g82
          simp (maxSteps := 500000) (decide := true) (disch := omega) only [EV, ↓reduceIte, Nat.reduceAdd, tt46, encK_f, encN_f, L2, L5, EmL_ke]
          refine dq_load H0 rfl ?_
          simp (maxSteps := 500000) (decide := true) (disch := omega) only [EV, ↓reduceIte, Nat.reduceAdd, tt46, encK_f, encN_f, L2, L5, EmL_ke]
          refine dq_act (by decide) rfl ?_
          refine lq_call rfl ?_
          refine Cl.mono (loads_ok (F := Ce b11 ([.string s.1.1.1, .int .u64 s.1.1.2], 119) :: Ce b10 ([.string s.1.1.1, .int .u64 s.1.1.2, .string s.1.2.val, .slice s.2.1 s.1.2.keys.length s.2.2, .int .i64 s.1.2.stamp], 48) :: F) (Own.rot H) (hKs s (by rw [hd]; simp)).up rfl (by have := hks s (by rw [hd]; simp); omega)) ?_
          rintro _ w ⟨bl, rfl, hbl1, H⟩
          refine lr_nil ?_
          refine ⟨fun hh => absurd hh (by decide), ?_⟩
          simp (maxSteps := 500000) (decide := true) (disch := omega) only [EV, ↓reduceIte, Nat.reduceAdd, tt46, encK_f, encN_f, L2, L5, EmL_ke]
          refine dq_nil ?_
          refine h20 _ _ ?_
          refine cw_condB rfl (fun c87 => ?_) (fun c87 => ?_)
          · skip
            try simp only [HB] at c87
            refine cw_seq (fun K22 h22 => ?_)
            refine cw_region (lq_run ?_)
            simp (maxSteps := 500000) (decide := true) (disch := omega) only [EV, ↓reduceIte, Nat.reduceAdd, tt46, encK_f, encN_f, L2, L5, EmL_ke]
            refine lq_nil ?_
            refine h22 _ _ ?_
            refine cw_ret ?_
            try simp (decide := true) only [EX, ↓reduceIte]
            refine ret2 rfl rfl ?_
            refine .inr ⟨fun h => ?_, rfl, H.wk⟩
            have := hbl1.2 ((h.lo s.1 (List.mem_map.2 ⟨s, by rw [hd]; simp, rfl⟩)).of rfl)
            simp [this] at c87
          · skip
            try simp only [HB] at c87
            refine cw_skip ?_
            refine h19 _ _ ?_
            try (obtain rfl : d = [] := List.eq_nil_of_length_eq_zero (by omega))
            try have hrs : Rise (keys ((([] : List KT) ++ [s]).map (·.1))) := .oneK s.1
            try have hnew := put_new hrs
            try have hlo2 := loads_snoc hlo (hbl1.1 (by simpa using c87))
            try have hrs : Rise (keys ((d' ++ [z] ++ [s]).map (·.1))) := rise_kt hk (cmpN_lt (by simpa using g82))
            try have hnew := put_new hrs
            refine cw_drawW (L0 := [Ce b11 ([.string s.1.1.1, .int .u64 s.1.1.2], 119), Ce b10 ([.string s.1.1.1, .int .u64 s.1.1.2, .string s.1.2.val, .slice s.2.1 s.1.2.keys.length s.2.2, .int .i64 s.1.2.stamp], 48)]) [(0, 0), (1, 1), (2, 0), (3, 0), (4, 1), (5, 0), (6, 0), (7, 1), (9, 0), (10, 1), (8, 2), (11, 0), (12, 3)] rfl (by kernel_rfl) (fun c env w => by simp (decide := true) only [EX, not_false_eq_true]) H (fun w H => ?_)
            have H0 : Own [Ce b11 ([.string s.1.1.1, .int .u64 s.1.1.2], 119), Ce b10 ([.string s.1.1.1, .int .u64 s.1.1.2, .string s.1.2.val, .slice s.2.1 s.1.2.keys.length s.2.2, .int .i64 s.1.2.stamp], 48)] w := H.wk
            refine dq_run ?_
            simp (maxSteps := 500000) (decide := true) (disch := omega) only [EV, ↓reduceIte, Nat.reduceAdd, tt46, encK_f, encN_f, L2, L5, EmL_ke]
            refine dq_load H0 rfl ?_
            simp (maxSteps := 500000) (decide := true) (disch := omega) only [EV, ↓reduceIte, Nat.reduceAdd, tt46, encK_f, encN_f, L2, L5, EmL_ke]
            refine dq_load H0 rfl ?_
            simp (maxSteps := 500000) (decide := true) (disch := omega) only [EV, ↓reduceIte, Nat.reduceAdd, tt46, encK_f, encN_f, L2, L5, EmL_ke]
            refine dq_load H0 rfl ?_
            simp (maxSteps := 500000) (decide := true) (disch := omega) only [EV, ↓reduceIte, Nat.reduceAdd, tt46, encK_f, encN_f, L2, L5, EmL_ke]
            refine dq_load H0 rfl ?_
            simp (maxSteps := 500000) (decide := true) (disch := omega) only [EV, ↓reduceIte, Nat.reduceAdd, tt46, encK_f, encN_f, L2, L5, EmL_ke]
            refine dq_act (by decide) rfl ?_
            refine lq_call rfl ?_
            refine Cl.mono (CloneS_ok H (hKs s (by rw [hd]; simp)).up rfl (by have := hks s (by rw [hd]; simp); omega)) ?_
            rintro _ w ⟨ao2, c2, rfl, H⟩
            refine lr_nil ?_
            replace H0 := H.wkTo H0
            refine ⟨fun _ => H0, ?_⟩
            simp (maxSteps := 500000) (decide := true) (disch := omega) only [EV, ↓reduceIte, Nat.reduceAdd, tt46, encK_f, encN_f, L2, L5, EmL_ke]
            refine dq_act (by decide) rfl ?_
            refine lq_call rfl ?_
            refine Cl.mono (putv_ok (Own.swap H.osRow.2.2) rfl hnew (by simp only [List.length_map]; omega)) ?_
            rintro _ w H
            refine lr_nil ?_
            refine ⟨fun hh => absurd hh (by decide), ?_⟩
            simp (maxSteps := 500000) (decide := true) (disch := omega) only [EV, ↓reduceIte, Nat.reduceAdd, tt46, encK_f, encN_f, L2, L5, EmL_ke]
            refine dq_nil ?_
            refine h16 _ _ ?_
            refine cw_region (lq_run ?_)
            simp (maxSteps := 500000) (decide := true) (disch := omega) only [EV, ↓reduceIte, Nat.reduceAdd, tt46, encK_f, encN_f, L2, L5, EmL_ke]
            refine lq_nil ?_
            try (obtain rfl : d = [] := List.eq_nil_of_length_eq_zero (by omega))
            first
              | exact Exists.intro (d' ++ [z] ++ [s], r2) ⟨⟨(.c (by show look _ 48 = some (.int .i64 (((d' ++ [z] ++ [s]).length : Nat) : Int)); rw [show (d' ++ [z] ++ [s]).length = (d' ++ [z]).length + 1 from by simp]; rfl) .n), (.c rfl (.c rfl (.c rfl (.c rfl .n))))⟩, ⟨by simp [hd], hrs, hlo2, put_snoc hrs H.wk⟩, (by simp)⟩
              | exact Exists.intro ([] ++ [s], r2) ⟨⟨(.c rfl .n), (.c rfl (.c rfl (.c rfl (.c rfl .n))))⟩, ⟨by simp [hd], hrs, hlo2, put_snoc hrs H.wk⟩, (by simp)⟩
      · try simp only [HB] at g62
        simp (maxSteps := 500000) (decide := true) (disch := omega) only [EV, ↓reduceIte, Nat.reduceAdd, tt46, encK_f, encN_f, L2, L5, EmL_ke]
        refine dq_skip H0 rfl rfl rfl rfl ?_
        simp (maxSteps := 500000) (decide := true) (disch := omega) only [EV, ↓reduceIte, Nat.reduceAdd, tt46, encK_f, encN_f, L2, L5, EmL_ke]
        refine dq_skip H0 rfl rfl rfl rfl ?_
        simp (maxSteps := 500000) (decide := true) (disch := omega) only [EV, ↓reduceIte, Nat.reduceAdd, tt46, encK_f, encN_f, L2, L5, EmL_ke]
        refine dq_skip H0 rfl rfl rfl rfl ?_
        simp (maxSteps := 500000) (decide := true) (disch := omega) only [EV, ↓reduceIte, Nat.reduceAdd, tt46, encK_f, encN_f, L2, L5, EmL_ke]
        refine dq_skipA rfl (fun _ => H0) rfl rfl rfl rfl ?_
        simp (maxSteps := 500000) (decide := true) (disch := omega) only [EV, ↓reduceIte, Nat.reduceAdd, tt46, encK_f, encN_f, L2, L5, EmL_ke]
        refine dq_load H0 rfl ?_
        simp (maxSteps := 500000) (decide := true) (disch := omega) only [EV, ↓reduceIte, Nat.reduceAdd, tt46, encK_f, encN_f, L2, L5, EmL_ke]
        refine dq_act (by decide) rfl ?_
        refine lq_call rfl ?_
        refine Cl.mono (loads_ok (F := Ce b11 ([.string s.1.1.1, .int .u64 s.1.1.2], 119) :: Ce b10 ([.string s.1.1.1, .int .u64 s.1.1.2, .string s.1.2.val, .slice s.2.1 s.1.2.keys.length s.2.2, .int .i64 s.1.2.stamp], 48) :: F) (Own.rot H) (hKs s (by rw [hd]; simp)).up rfl (by have := hks s (by rw [hd]; simp); omega)) ?_
        rintro _ w ⟨bl, rfl, hbl1, H⟩
        refine lr_nil ?_
        refine ⟨fun hh => absurd hh (by decide), ?_⟩
        simp (maxSteps := 500000) (decide := true) (disch := omega) only [EV, ↓reduceIte, Nat.reduceAdd, tt46, encK_f, encN_f, L2, L5, EmL_ke]
        refine dq_nil ?_
        refine h20 _ _ ?_
        refine cw_condB rfl (fun c87 => ?_) (fun c87 => ?_)
        · skip
          try simp only [HB] at c87
          refine cw_seq (fun K23 h23 => ?_)
          refine cw_region (lq_run ?_)
          simp (maxSteps := 500000) (decide := true) (disch := omega) only [EV, ↓reduceIte, Nat.reduceAdd, tt46, encK_f, encN_f, L2, L5, EmL_ke]
          refine lq_nil ?_
          refine h23 _ _ ?_
          refine cw_ret ?_
          try simp (decide := true) only [EX, ↓reduceIte]
          refine ret2 rfl rfl ?_
          refine .inr ⟨fun h => ?_, rfl, H.wk⟩
          have := hbl1.2 ((h.lo s.1 (List.mem_map.2 ⟨s, by rw [hd]; simp, rfl⟩)).of rfl)
          simp [this] at c87
        · skip
          try simp only [HB] at c87
          refine cw_skip ?_
          refine h19 _ _ ?_
          try (obtain rfl : d = [] := List.eq_nil_of_length_eq_zero (by omega))
          try have hrs : Rise (keys ((([] : List KT) ++ [s]).map (·.1))) := .oneK s.1
          try have hnew := put_new hrs
          try have hlo2 := loads_snoc hlo (hbl1.1 (by simpa using c87))
          try have hrs : Rise (keys ((d' ++ [z] ++ [s]).map (·.1))) := rise_kt hk (cmpN_lt (by simpa using g82))
          try have hnew := put_new hrs
          refine cw_drawW (L0 := [Ce b11 ([.string s.1.1.1, .int .u64 s.1.1.2], 119), Ce b10 ([.string s.1.1.1, .int .u64 s.1.1.2, .string s.1.2.val, .slice s.2.1 s.1.2.keys.length s.2.2, .int .i64 s.1.2.stamp], 48)]) [(0, 0), (1, 1), (2, 0), (3, 0), (4, 1), (5, 0), (6, 0), (7, 1), (9, 0), (10, 1), (8, 2), (11, 0), (12, 3)] rfl (by kernel_rfl) (fun c env w => by simp (decide := true) only [EX, not_false_eq_true]) H (fun w H => ?_)
          have H0 : Own [Ce b11 ([.string s.1.1.1, .int .u64 s.1.1.2], 119), Ce b10 ([.string s.1.1.1, .int .u64 s.1.1.2, .string s.1.2.val, .slice s.2.1 s.1.2.keys.length s.2.2, .int .i64 s.1.2.stamp], 48)] w := H.wk
          refine dq_run ?_
          simp (maxSteps := 500000) (decide := true) (disch := omega) only [EV, ↓reduceIte, Nat.reduceAdd, tt46, encK_f, encN_f, L2, L5, EmL_ke]
          refine dq_load H0 rfl ?_
          simp (maxSteps := 500000) (decide := true) (disch := omega) only [EV, ↓reduceIte, Nat.reduceAdd, tt46, encK_f, encN_f, L2, L5, EmL_ke]
          refine dq_load H0 rfl ?_
          simp (maxSteps := 500000) (decide := true) (disch := omega) only [EV, ↓reduceIte, Nat.reduceAdd, tt46, encK_f, encN_f, L2, L5, EmL_ke]
          refine dq_load H0 rfl ?_
          simp (maxSteps := 500000) (decide := true) (disch := omega) only [EV, ↓reduceIte, Nat.reduceAdd, tt46, encK_f, encN_f, L2, L5, EmL_ke]
          refine dq_load H0 rfl ?_
          simp (maxSteps := 500000) (decide := true) (disch := omega) only [EV, ↓reduceIte, Nat.reduceAdd, tt46, encK_f, encN_f, L2, L5, EmL_ke]
          refine dq_act (by decide) rfl ?_
          refine lq_call rfl ?_
          refine Cl.mono (CloneS_ok H (hKs s (by rw [hd]; simp)).up rfl (by have := hks s (by rw [hd]; simp); omega)) ?_
          rintro _ w ⟨ao2, c2, rfl, H⟩
          refine lr_nil ?_
          replace H0 := H.wkTo H0
          refine ⟨fun _ => H0, ?_⟩
          simp (maxSteps := 500000) (decide := true) (disch := omega) only [EV, ↓reduceIte, Nat.reduceAdd, tt46, encK_f, encN_f, L2, L5, EmL_ke]
          refine dq_act (by decide) rfl ?_
          refine lq_call rfl ?_
          refine Cl.mono (putv_ok (Own.swap H.osRow.2.2) rfl hnew (by simp only [List.length_map]; omega)) ?_
          rintro _ w H
          refine lr_nil ?_
          refine ⟨fun hh => absurd hh (by decide), ?_⟩
          simp (maxSteps := 500000) (decide := true) (disch := omega) only [EV, ↓reduceIte, Nat.reduceAdd, tt46, encK_f, encN_f, L2, L5, EmL_ke]
          refine dq_nil ?_
          refine h16 _ _ ?_
          refine cw_region (lq_run ?_)
          simp (maxSteps := 500000) (decide := true) (disch := omega) only [EV, ↓reduceIte, Nat.reduceAdd, tt46, encK_f, encN_f, L2, L5, EmL_ke]
          refine lq_nil ?_
          try (obtain rfl : d = [] := List.eq_nil_of_length_eq_zero (by omega))
          first
            | exact Exists.intro (d' ++ [z] ++ [s], r2) ⟨⟨(.c (by show look _ 48 = some (.int .i64 (((d' ++ [z] ++ [s]).length : Nat) : Int)); rw [show (d' ++ [z] ++ [s]).length = (d' ++ [z]).length + 1 from by simp]; rfl) .n), (.c rfl (.c rfl (.c rfl (.c rfl .n))))⟩, ⟨by simp [hd], hrs, hlo2, put_snoc hrs H.wk⟩, (by simp)⟩
            | exact Exists.intro ([] ++ [s], r2) ⟨⟨(.c rfl .n), (.c rfl (.c rfl (.c rfl (.c rfl .n))))⟩, ⟨by simp [hd], hrs, hlo2, put_snoc hrs H.wk⟩, (by simp)⟩
    · skip
      try simp only [HB] at c49
      obtain ⟨rfl, hdd⟩ := zip_done hd c49
      subst hdd
      refine cw_exit ?_
      refine h12 _ _ ?_
      refine cw_seq (fun K24 h24 => ?_)
      refine cw_seq (fun K25 h25 => ?_)
      refine cw_region (lq_run ?_)
      obtain ⟨q, hq, H⟩ := H.stO
      obtain ⟨_, _, _, _, _, _, hnl⟩ := (H.tkR (R := Mp EmL) (k := q.bl)).mp
      simp (maxSteps := 500000) (decide := true) (disch := omega) only [EV, ↓reduceIte, Nat.reduceAdd, tt46, encK_f, encN_f, L2, L5, EmL_ke]
      refine lq_load H rfl ?_
      simp (maxSteps := 500000) (decide := true) (disch := omega) only [EV, ↓reduceIte, Nat.reduceAdd, tt46, encK_f, encN_f, L2, L5, EmL_ke]
      refine lq_range (E := EmL) H rfl (fun r w H => ?_)
      simp (maxSteps := 500000) (decide := true) (disch := omega) only [EV, ↓reduceIte, Nat.reduceAdd, tt46, encK_f, encN_f, L2, L5, EmL_ke]
      refine lq_nil ?_
      refine h25 _ _ ?_
      refine cw_block ?_
      refine cw_loopC (X := List (ByteArray × Int) × List (ByteArray × Int) × Option (ByteArray × Int)) [(6, _), (106, _)] (fun x => []) (fun x w => (x.1 ++ x.2.1).Perm q.ml ∧ (∀ y ∈ x.1, (mget (kl.map (·.1)) (y.1, y.2)).isSome = true) ∧ Own (Ce p ([.map (some q.bv), .map (some q.bi), .map (some q.bp), .map (some q.bl)], 129) :: Mp EmV q.bv q.mv :: Mp EmI q.bi q.mi :: Mp EmP q.bp q.mp :: Mr EmL q.bl r (q.ml, x.2.1, x.2.2) :: Bag q.rs :: IdsR (kl.map (·.1)) q.mi :: PlR q.pl q.mp :: F) w) (fun x => x.2.1.length) ([], q.ml, none) (.c rfl (.c rfl .n)) .n ⟨.refl _, by simp, H.wk⟩ ?_
      rintro ⟨d, left, cur⟩ w ⟨hperm, hdone, H⟩
      simp only [List.cons_append, List.nil_append]
      simp only at hperm hdone H ⊢
      refine cw_seq (fun K26 h26 => ?_)
      refine cw_region (lq_run ?_)
      simp (maxSteps := 500000) (decide := true) (disch := omega) only [EV, ↓reduceIte, Nat.reduceAdd, tt46, encK_f, encN_f, L2, L5, EmL_ke]
      refine lq_next (E := EmL) (b := q.bl) (r := r) H rfl (fun hz => ?_) (fun i p0 w hp H => ?_)
      · skip
        simp (maxSteps := 500000) (decide := true) (disch := omega) only [EV, ↓reduceIte, Nat.reduceAdd, tt46, encK_f, encN_f, L2, L5, EmL_ke]
        refine lq_nil ?_
        refine h26 _ _ ?_
        refine cw_seq (fun K27 h27 => ?_)
        refine cw_condF rfl ?_
        refine cw_exit ?_
        refine h24 _ _ ?_
        refine cw_seq (fun K28 h28 => ?_)
        refine cw_region (lq_run ?_)
        simp (maxSteps := 500000) (decide := true) (disch := omega) only [EV, ↓reduceIte, Nat.reduceAdd, tt46, encK_f, encN_f, L2, L5, EmL_ke]
        refine lq_nil ?_
        refine h28 _ _ ?_
        refine cw_ret ?_
        try simp (decide := true) only [EX, ↓reduceIte]
        refine ret2 rfl rfl ?_
        refine .inl ⟨⟨hq.rl, hq.rv, fun y hy => ?_, fun y hy => ?_⟩, p, rfl, ?_⟩
        · obtain ⟨y0, hy0, rfl⟩ := List.mem_map.1 hy
          exact (hlo y0 hy0).of rfl
        · subst hz
          rw [List.append_nil] at hperm
          exact hdone y (hperm.mem_iff.2 ((ml_mem hq hnl).2 hy))
        · have H1 := (H.tkR (R := Mr EmL q.bl) (k := r)).mrMp
          exact Own.stC (p := p) (S := ⟨kl.map (·.1), ll⟩) (L := F) q hq H1
      · skip
        obtain ⟨⟨va, vs, vt, hm3⟩, hs3⟩ := hvForm hq (p0.1, p0.2)
        simp (maxSteps := 500000) (decide := true) (disch := omega) only [EV, ↓reduceIte, Nat.reduceAdd, tt46, encK_f, encN_f, L2, L5, EmL_ke]
        refine lq_nil ?_
        refine h26 _ _ ?_
        refine cw_seq (fun K29 h29 => ?_)
        refine cw_condT rfl ?_
        refine cw_skip ?_
        refine h29 _ _ ?_
        refine cw_block ?_
        refine cw_seq (fun K30 h30 => ?_)
        refine cw_region (lq_run ?_)
        simp (maxSteps := 500000) (decide := true) (disch := omega) only [EV, ↓reduceIte, Nat.reduceAdd, tt46, encK_f, encN_f, L2, L5, EmL_ke]
        refine lq_entry (E := EmL) (b := q.bl) (r := r) (p := p0) H rfl ?_
        simp (maxSteps := 500000) (decide := true) (disch := omega) only [EV, ↓reduceIte, Nat.reduceAdd, tt46, encK_f, encN_f, L2, L5, EmL_ke]
        refine lq_nil ?_
        refine h30 _ _ ?_
        refine cw_seq (fun K31 h31 => ?_)
        refine cw_region (lq_run ?_)
        simp (maxSteps := 500000) (decide := true) (disch := omega) only [EV, ↓reduceIte, Nat.reduceAdd, tt46, encK_f, encN_f, L2, L5, EmL_ke]
        refine lq_load H rfl ?_
        simp (maxSteps := 500000) (decide := true) (disch := omega) only [EV, ↓reduceIte, Nat.reduceAdd, tt46, encK_f, encN_f, L2, L5, EmL_ke]
        refine lq_lookup (E := EmV) (p0.1, p0.2) H rfl rfl ?_
        rw [hm3, hs3]
        simp (maxSteps := 500000) (decide := true) (disch := omega) only [EV, ↓reduceIte, Nat.reduceAdd, tt46, encK_f, encN_f, L2, L5, EmL_ke]
        refine lq_new H (fun b14 w H => ?_)
        try simp only [ES, encK_f, encN_f, L2, L5, EmL_ke] at H
        simp (maxSteps := 500000) (decide := true) (disch := omega) only [EV, ↓reduceIte, Nat.reduceAdd, tt46, encK_f, encN_f, L2, L5, EmL_ke]
        refine lq_st H rfl rfl rfl (fun w H => ?_)
        try simp only [ES, encK_f, encN_f, L2, L5, EmL_ke] at H
        simp (maxSteps := 500000) (decide := true) (disch := omega) only [EV, ↓reduceIte, Nat.reduceAdd, tt46, encK_f, encN_f, L2, L5, EmL_ke]
        refine lq_nil ?_
        refine h31 _ _ ?_
        refine cw_seq (fun K32 h32 => ?_)
        refine cw_region (lq_run ?_)
        simp (maxSteps := 500000) (decide := true) (disch := omega) only [EV, ↓reduceIte, Nat.reduceAdd, tt46, encK_f, encN_f, L2, L5, EmL_ke]
        refine lq_nil ?_
        refine h32 _ _ ?_
        refine cw_condB rfl (fun c124 => ?_) (fun c124 => ?_)
        · skip
          try simp only [HB] at c124
          refine cw_seq (fun K33 h33 => ?_)
          refine cw_region (lq_run ?_)
          simp (maxSteps := 500000) (decide := true) (disch := omega) only [EV, ↓reduceIte, Nat.reduceAdd, tt46, encK_f, encN_f, L2, L5, EmL_ke]
          refine lq_nil ?_
          refine h33 _ _ ?_
          refine cw_ret ?_
          try simp (decide := true) only [EX, ↓reduceIte]
          refine ret2 rfl rfl ?_
          refine .inr ⟨fun h => ?_, rfl, H.wk⟩
          have hm : p0 ∈ ll := (ml_mem hq hnl).1 (hperm.mem_iff.1 (List.mem_append_right _ (List.mem_of_getElem? hp)))
          have := h.la p0 hm
          rw [this] at c124; cases c124
        · skip
          try simp only [HB] at c124
          refine cw_skip ?_
          refine Exists.intro (d ++ [p0], left.eraseIdx i, some p0) ⟨⟨.n, (.c rfl (.c rfl .n))⟩, ⟨erase_mem hperm hp, (by intro y hy; rcases List.mem_append.1 hy with hy | hy; exact hdone y hy; simp at hy; subst hy; exact c124), H.wk⟩, (by have := (List.getElem?_eq_some_iff.1 hp).1; simp only [List.length_eraseIdx]; rw [if_pos this]; omega)⟩
end Go.Rp
set_option linter.unusedVariables false
set_option linter.unusedSimpArgs false
set_option maxHeartbeats 1000000
set_option maxRecDepth 100000
namespace Go.Rp
open Go.Proofs
instance iW31_0 : ElT Tryz.prog 111 2 := ElT.mk' (by kernel_rfl)
instance iW31_1 : ElT Tryz.prog 5 1 := ElT.mk' (by kernel_rfl)
instance iW31_2 : FnOk Tryz.prog 34 := ⟨⟨Tryz.f34, Tryz.func34, by kernel_rfl, by kernel_rfl⟩⟩
instance iW31_3 : FnOk Tryz.prog 39 := ⟨⟨Tryz.f39, Tryz.func39, by kernel_rfl, by kernel_rfl⟩⟩
instance iW31_4 : FnOk Tryz.prog 41 := ⟨⟨Tryz.f41, Tryz.func41, by kernel_rfl, by kernel_rfl⟩⟩
instance iW31_5 : FnOk Tryz.prog 42 := ⟨⟨Tryz.f42, Tryz.func42, by kernel_rfl, by kernel_rfl⟩⟩
instance iW31_6 : FnOk Tryz.prog 43 := ⟨⟨Tryz.f43, Tryz.func43, by kernel_rfl, by kernel_rfl⟩⟩
instance iW31_7 : MpT Tryz.prog 96 9 43 := ⟨by kernel_rfl⟩
instance iW31_8 : SlT Tryz.prog 23 5 := ⟨by kernel_rfl⟩
instance iW31_9 : SlT Tryz.prog 39 111 := ⟨by kernel_rfl⟩
instance iW31_10 : SzT Tryz.prog 111 2 := ⟨by kernel_rfl⟩
instance iW31_11 : ZvT Tryz.prog 111 (.agg #[(.string ByteArray.empty), (.int .u64 0)]) := ⟨by kernel_rfl⟩
theorem tt35 : (IKn Tryz.prog 5 = some .u8) ∧ (IKn Tryz.prog 89 = some .u32) := ⟨by kernel_rfl, by kernel_rfl⟩
theorem tt40 : (AG Tryz.prog 111 = some true) ∧ (AG Tryz.prog 43 = some false) ∧ (AG Tryz.prog 9 = some false) ∧ (BU Tryz.prog 111 = some ([(.string ByteArray.empty), (.int .u64 0)], [(0, 1), (1, 1)])) ∧ (FO Tryz.prog 111 0 = some 0) ∧ (FO Tryz.prog 111 1 = some 1) ∧ (SZ Tryz.prog 111 = some 2) := ⟨by kernel_rfl, by kernel_rfl, by kernel_rfl, by kernel_rfl, by kernel_rfl, by kernel_rfl, by kernel_rfl⟩

theorem byOf_snoc (l : List (ByteArray × Int)) (p : ByteArray × Int) : byOf (l ++ [p]) = mset (byOf l) p.1 p.2 := by simp [byOf, List.foldl_append]
theorem rdLasts_nil {n : Nat} {acc : List (ByteArray × Int)} {x : List UInt8 × Int} (h : ¬ x.2 = 0) : rdLasts n acc x = (acc, x) := by
  cases n with
  | zero => rfl
  | succ n => exact if_neg h
theorem rdLasts_step {n : Nat} {acc : List (ByteArray × Int)} {x : List UInt8 × Int} (h : x.2 = 0) : rdLasts (n + 1) acc x = rdLasts n (acc ++ [(rdLast x).1]) (rdLast x).2 := if_pos h
theorem rdLast_len (x : List UInt8 × Int) : (rdLast x).2.1.length ≤ x.1.length := by
  have h1 := rdText_len 65535 x
  have h2 := rdNum_len (n := 8) (rdText 65535 x).2
  unfold rdLast
  simp only
  omega
/-- How many have come, by what they took. -/
def roomL (L : Nat) (acc : List (ByteArray × Int)) (x : List UInt8 × Int) : Prop := 12 * acc.length ≤ L + 12 ∧ (x.2 = 0 → 12 * acc.length + x.1.length ≤ L)
theorem roomL_step {L : Nat} {acc : List (ByteArray × Int)} {x : List UInt8 × Int} (h : roomL L acc x) (hx : x.2 = 0) : roomL L (acc ++ [(rdLast x).1]) (rdLast x).2 := by
  obtain ⟨h1, h2⟩ := h
  have h3 := h2 hx
  refine ⟨by rw [List.length_append]; simp only [List.length_cons, List.length_nil]; omega, fun h4 => ?_⟩
  have h5 := rdLast_inv (rest := x.1) (e := x.2) h4
  have h6 := congrArg List.length h5.2.1
  rw [List.length_append, lastB_len] at h6
  rw [List.length_append]
  simp only [List.length_cons, List.length_nil]
  have h7 : (rdLast (x.1, x.2)).2.1.length = (rdLast x).2.1.length := rfl
  omega
theorem sealOf_ok {ao : Option Addr} {n c : Nat} {xs : List UInt8} {F : List HP} {w : World} (H : Own F w) (hR : Ent F (Row ao encB xs)) (hn : n = xs.length) (hb : xs.length ≤ 1099511627776) :
  Cl Tryz.prog 35 #[.slice ao n c] w fun v w' => ∃ ao' c', v = .slice ao' 4 c' ∧ Own (Os 5 encB (.slice ao' 4 c') (sealB xs) :: F) w' := by
  refine cl_of_cw Tryz.func35 rfl ?_
  simp only [Tryz.ntmps35, envA, List.size_toArray, List.length_cons, List.length_nil, Nat.reduceAdd, Nat.reduceSub]
  refine cw_seq (fun K1 h1 => ?_)
  refine cw_region (lq_run ?_)
  simp (maxSteps := 500000) (decide := true) (disch := omega) only [EV, ↓reduceIte, Nat.reduceAdd, tt35]
  refine lq_nil ?_
  refine h1 _ _ ?_
  refine cw_seq (fun K2 h2 => ?_)
  refine cw_region (lq_run ?_)
  simp (maxSteps := 500000) (decide := true) (disch := omega) only [EV, ↓reduceIte, Nat.reduceAdd, tt35]
  refine lq_call rfl ?_
  refine Cl.mono (Sum_ok H hR hn hb) ?_
  rintro _ w ⟨rfl, H⟩
  simp (maxSteps := 500000) (decide := true) (disch := omega) only [EV, ↓reduceIte, Nat.reduceAdd, tt35]
  refine lq_nil ?_
  refine h2 _ _ ?_
  refine cw_seq (fun K3 h3 => ?_)
  refine cw_region (lq_run ?_)
  simp (maxSteps := 500000) (decide := true) (disch := omega) only [EV, ↓reduceIte, Nat.reduceAdd, tt35]
  refine lq_bs H rfl rfl (by rfl) rfl (by decide) (fun b17 w H => ?_)
  try simp only [ES] at H
  simp (maxSteps := 500000) (decide := true) (disch := omega) only [EV, ↓reduceIte, Nat.reduceAdd, tt35]
  refine lq_nil ?_
  refine h3 _ _ ?_
  refine cw_ret ?_
  try simp (decide := true) only [EX, ↓reduceIte]
  refine ret1 rfl ?_
  refine ⟨some ⟨b17, 0, none⟩, 4, rfl, H.os encB (sealB xs) ?_ (by simp [sealB, beL_length])⟩
  simp only [sealB, beL, encB, List.flatMap_cons, List.flatMap_nil, List.append_nil, List.cons_append, List.nil_append, wrap_byte, show min (Int.toNat 24) IntKind.u32.bits = 24 from rfl, show min (Int.toNat 16) IntKind.u32.bits = 16 from rfl, show min (Int.toNat 8) IntKind.u32.bits = 8 from rfl, Nat.mul_zero, Nat.mul_one, Int.pow_zero, Int.fdiv_one]
theorem lastsOf_ok {R : List HP} {p : Nat} {rest : List UInt8} {e : Int} {F : List HP} {w : World} (H : Own (Rr R p (rest, e) :: F) w) (hl : rest.length ≤ 8589934592) :
  Cl Tryz.prog 40 #[.pointer (some ⟨p, 0, none⟩)] w fun v w' => ∃ ao c b l st, (rdLasts (rdCount 2147483647 (rest, e)).1.toNat [] (rdCount 2147483647 (rest, e)).2) = (l, st) ∧ 12 * l.length ≤ rest.length + 12 ∧ st.1.length ≤ rest.length ∧ v = .tuple #[.slice ao l.length c, .map (some b)] ∧ Own (Os 111 encN (.slice ao l.length c) l :: Mp EmL b (byOf l) :: Rr R p st :: F) w' := by
  refine cl_of_cw Tryz.func40 rfl ?_
  simp only [Tryz.ntmps40, envA, List.size_toArray, List.length_cons, List.length_nil, Nat.reduceAdd, Nat.reduceSub]
  have hcl := rdCount_len 2147483647 (rest, e)
  obtain ⟨k0, hk0⟩ : ∃ k : Nat, (rdCount 2147483647 (rest, e)).1 = k := ⟨(rdCount 2147483647 (rest, e)).1.toNat, by omega⟩
  rw [hk0, Int.toNat_natCast]
  obtain ⟨⟨r0, e0⟩, hs0⟩ : ∃ s0, (rdCount 2147483647 (rest, e)).2 = s0 := ⟨_, rfl⟩
  refine cw_seq (fun K1 h1 => ?_)
  refine cw_region (lq_run ?_)
  simp (maxSteps := 500000) (decide := true) (disch := omega) only [EV, ↓reduceIte, Nat.reduceAdd, tt40, encN_f]
  refine lq_nil ?_
  refine h1 _ _ ?_
  refine cw_seq (fun K2 h2 => ?_)
  refine cw_region (lq_run ?_)
  simp (maxSteps := 500000) (decide := true) (disch := omega) only [EV, ↓reduceIte, Nat.reduceAdd, tt40, encN_f]
  refine lq_nil ?_
  refine h2 _ _ ?_
  refine cw_seq (fun K3 h3 => ?_)
  refine cw_region (lq_run ?_)
  simp (maxSteps := 500000) (decide := true) (disch := omega) only [EV, ↓reduceIte, Nat.reduceAdd, tt40, encN_f]
  refine lq_makeMap (E := EmL) H (fun b8 w H => ?_)
  simp (maxSteps := 500000) (decide := true) (disch := omega) only [EV, ↓reduceIte, Nat.reduceAdd, tt40, encN_f]
  refine lq_nil ?_
  refine h3 _ _ ?_
  refine cw_seq (fun K4 h4 => ?_)
  refine cw_seq (fun K5 h5 => ?_)
  refine cw_region (lq_run ?_)
  simp (maxSteps := 500000) (decide := true) (disch := omega) only [EV, ↓reduceIte, Nat.reduceAdd, tt40, encN_f]
  refine lq_call rfl ?_
  refine Cl.mono (rCount_ok (Own.swap H) (by omega) (by omega)) ?_
  rintro _ w ⟨rfl, H⟩
  rw [hk0]
  rw [hs0] at H hcl
  simp (maxSteps := 500000) (decide := true) (disch := omega) only [EV, ↓reduceIte, Nat.reduceAdd, tt40, encN_f]
  refine lq_nil ?_
  refine h5 _ _ ?_
  refine cw_block ?_
  refine cw_loopC (X := Nat × List (ByteArray × Int) × (List UInt8 × Int) × (Option Addr × Nat)) [(0, _), (2, _), (3, _), (5, _)] (fun x => [(4, .slice x.2.2.2.1 x.2.1.length x.2.2.2.2), (6, .int .i64 (x.1 : Int))]) (fun x w => (rdLasts x.1 x.2.1 x.2.2.1 = rdLasts k0 [] (r0, e0) ∧ x.1 ≤ k0 ∧ x.2.2.1.1.length ≤ rest.length ∧ roomL rest.length x.2.1 x.2.2.1) ∧ Own (Rr R p x.2.2.1 :: Os 111 encN (.slice x.2.2.2.1 x.2.1.length x.2.2.2.2) x.2.1 :: Mp EmL b8 (byOf x.2.1) :: F) w) (fun x => x.1) (k0, [], (r0, e0), (none, 0)) (.c rfl (.c rfl (.c rfl (.c rfl .n)))) (.c rfl (.c rfl .n)) ⟨⟨rfl, Nat.le_refl _, hcl.1, ⟨by simp, fun _ => by simpa using hcl.1⟩⟩, Sep.swap (Os.nil 111 encN (Own.wk (M := Rr R p (r0, e0) :: Mp EmL b8 [] :: F) H))⟩ ?_
  rintro ⟨k, acc, ⟨rest', e'⟩, ⟨aor, cr⟩⟩ w ⟨⟨hrd, hk, hrl, hroom⟩, H⟩
  simp only [List.cons_append, List.nil_append]
  simp only at hrd hk hrl hroom H ⊢
  have hacc := hroom.1
  refine cw_seq (fun K6 h6 => ?_)
  refine cw_seq (fun K7 h7 => ?_)
  refine cw_region (lq_run ?_)
  simp (maxSteps := 500000) (decide := true) (disch := omega) only [EV, ↓reduceIte, Nat.reduceAdd, tt40, encN_f]
  refine lq_G (fun g13 => ?_) (fun g13 => ?_)
  · try simp only [HB] at g13
    simp (maxSteps := 500000) (decide := true) (disch := omega) only [EV, ↓reduceIte, Nat.reduceAdd, tt40, encN_f]
    refine lq_call rfl ?_
    refine Cl.mono (rErr_ok (H.tkR (R := Rr R) (k := p))) ?_
    rintro _ w ⟨rfl, H⟩
    simp (maxSteps := 500000) (decide := true) (disch := omega) only [EV, ↓reduceIte, Nat.reduceAdd, tt40, encN_f]
    refine lq_nil ?_
    refine h7 _ _ ?_
    refine cw_condB rfl (fun c17 => ?_) (fun c17 => ?_)
    · skip
      try simp only [HB] at c17
      obtain ⟨k', rfl⟩ : ∃ k', k = k' + 1 := ⟨k - 1, by omega⟩
      subst c17
      refine cw_skip ?_
      refine h6 _ _ ?_
      refine cw_seq (fun K8 h8 => ?_)
      refine cw_block ?_
      refine cw_seq (fun K9 h9 => ?_)
      refine cw_region (lq_run ?_)
      simp (maxSteps := 500000) (decide := true) (disch := omega) only [EV, ↓reduceIte, Nat.reduceAdd, tt40, encN_f]
      refine lq_call rfl ?_
      refine Cl.mono (rText_ok H (by omega) (by omega)) ?_
      rintro _ w ⟨rfl, H⟩
      obtain ⟨⟨r1, e1⟩, hs1⟩ : ∃ s1, (rdText 65535 (rest', 0)).2 = s1 := ⟨_, rfl⟩
      have hr1 := rdText_len 65535 (rest', 0)
      rw [hs1] at H hr1
      simp (maxSteps := 500000) (decide := true) (disch := omega) only [EV, ↓reduceIte, Nat.reduceAdd, tt40, encN_f]
      refine lq_call rfl ?_
      refine Cl.mono (rU64_ok H (by simp only at hr1; omega)) ?_
      rintro _ w ⟨rfl, H⟩
      obtain ⟨⟨r2, e2⟩, hs2⟩ : ∃ s2, (rdNum 8 (r1, e1)).2 = s2 := ⟨_, rfl⟩
      obtain ⟨id, hid⟩ : ∃ i, (rdNum 8 (r1, e1)).1 = i := ⟨_, rfl⟩
      obtain ⟨ky, hky⟩ : ∃ i, (rdText 65535 (rest', 0)).1 = i := ⟨_, rfl⟩
      have hL : rdLast (rest', 0) = ((ky, id), (r2, e2)) := by unfold rdLast; rw [hs1, hky, hid, hs2]
      have hlen := rdLast_len (rest', 0)
      rw [hL] at hlen
      rw [hs2] at H
      rw [hid, hky]
      simp (maxSteps := 500000) (decide := true) (disch := omega) only [EV, ↓reduceIte, Nat.reduceAdd, tt40, encN_f]
      refine lq_new H (fun b7 w H => ?_)
      try simp only [ES, encN_f] at H
      simp (maxSteps := 500000) (decide := true) (disch := omega) only [EV, ↓reduceIte, Nat.reduceAdd, tt40, encN_f]
      refine lq_st H rfl rfl rfl (fun w H => ?_)
      try simp only [ES, encN_f] at H
      simp (maxSteps := 500000) (decide := true) (disch := omega) only [EV, ↓reduceIte, Nat.reduceAdd, tt40, encN_f]
      refine lq_nil ?_
      refine h9 _ _ ?_
      refine cw_seq (fun K10 h10 => ?_)
      refine cw_region (lq_run ?_)
      simp (maxSteps := 500000) (decide := true) (disch := omega) only [EV, ↓reduceIte, Nat.reduceAdd, tt40, encN_f]
      refine lq_load H rfl ?_
      simp (maxSteps := 500000) (decide := true) (disch := omega) only [EV, ↓reduceIte, Nat.reduceAdd, tt40, encN_f]
      refine lq_bs H rfl rfl (by rfl) rfl (by decide) (fun b27 w H => ?_)
      try simp only [ES, encN_f] at H
      simp (maxSteps := 500000) (decide := true) (disch := omega) only [EV, ↓reduceIte, Nat.reduceAdd, tt40, encN_f]
      refine lq_app1 (enc := encN) (ky, id) H rfl rfl rfl (by rw [encN_n]; omega) (fun ao5 c5 w H => ?_)
      simp (maxSteps := 500000) (decide := true) (disch := omega) only [EV, ↓reduceIte, Nat.reduceAdd, tt40, encN_f]
      refine lq_nil ?_
      refine h10 _ _ ?_
      refine cw_region (lq_run ?_)
      simp (maxSteps := 500000) (decide := true) (disch := omega) only [EV, ↓reduceIte, Nat.reduceAdd, tt40, encN_f]
      refine lq_load H rfl ?_
      simp (maxSteps := 500000) (decide := true) (disch := omega) only [EV, ↓reduceIte, Nat.reduceAdd, tt40, encN_f]
      refine lq_load H rfl ?_
      simp (maxSteps := 500000) (decide := true) (disch := omega) only [EV, ↓reduceIte, Nat.reduceAdd, tt40, encN_f]
      refine lq_mapUpdate (E := EmL) ky id H rfl rfl rfl (fun w H => ?_)
      simp (maxSteps := 500000) (decide := true) (disch := omega) only [EV, ↓reduceIte, Nat.reduceAdd, tt40, encN_f]
      refine lq_nil ?_
      refine h8 _ _ ?_
      refine cw_region (lq_run ?_)
      simp (maxSteps := 500000) (decide := true) (disch := omega) only [EV, ↓reduceIte, Nat.reduceAdd, tt40, encN_f]
      refine lq_nil ?_
      have HF : Own (Rr R p (r2, e2) :: Os 111 encN (.slice ao5 (acc ++ [(ky, id)]).length c5) (acc ++ [(ky, id)]) :: Mp EmL b8 (byOf (acc ++ [(ky, id)])) :: F) w := by
        rw [List.length_append, byOf_snoc]
        exact H.wk
      refine Exists.intro (k', acc ++ [(ky, id)], (r2, e2), (ao5, c5)) ⟨⟨(.c (by rw [List.length_append]; rfl) (.c (by show look _ 6 = some (.int .i64 (k' : Int)); simp only [EV, ↓reduceIte, Nat.reduceEqDiff, Nat.reduceLT]; congr 2; omega) .n)), (.c rfl (.c rfl (.c rfl (.c rfl .n))))⟩, ⟨⟨by rw [← hrd, rdLasts_step rfl, hL], by omega, by simp only at hlen ⊢; omega, by have := roomL_step hroom rfl; rw [hL] at this; exact this⟩, HF⟩, (by simp only; omega)⟩
    · skip
      try simp only [HB] at c17
      refine cw_exit ?_
      refine h4 _ _ ?_
      refine cw_seq (fun K11 h11 => ?_)
      refine cw_region (lq_run ?_)
      simp (maxSteps := 500000) (decide := true) (disch := omega) only [EV, ↓reduceIte, Nat.reduceAdd, tt40, encN_f]
      refine lq_nil ?_
      refine h11 _ _ ?_
      refine cw_ret ?_
      try simp (decide := true) only [EX, ↓reduceIte]
      refine ret2 rfl rfl ?_
      refine ⟨aor, cr, b8, acc, (rest', e'), ?_, hacc, hrl, rfl, H.wk⟩
      rw [hs0, ← hrd, rdLasts_nil c17]
  · try simp only [HB] at g13
    simp (maxSteps := 500000) (decide := true) (disch := omega) only [EV, ↓reduceIte, Nat.reduceAdd, tt40, encN_f]
    refine lq_nil ?_
    refine h7 _ _ ?_
    refine cw_condF rfl ?_
    refine cw_exit ?_
    refine h4 _ _ ?_
    refine cw_seq (fun K12 h12 => ?_)
    refine cw_region (lq_run ?_)
    simp (maxSteps := 500000) (decide := true) (disch := omega) only [EV, ↓reduceIte, Nat.reduceAdd, tt40, encN_f]
    refine lq_nil ?_
    refine h12 _ _ ?_
    refine cw_ret ?_
    try simp (decide := true) only [EX, ↓reduceIte]
    refine ret2 rfl rfl ?_
    refine ⟨aor, cr, b8, acc, (rest', e'), ?_, hacc, hrl, rfl, H.wk⟩
    obtain rfl : k = 0 := by omega
    rw [hs0, ← hrd]; rfl
end Go.Rp
