/-
  The walk of the law SnapWhole: at every script and every bytes it answers true.
-/
import Derived.Test.YtidoehfmbnngpaaGreatProg
import Derived.Test.YtidoehfmbnngpaaGreatCa
set_option linter.unusedVariables false
set_option linter.unusedSimpArgs false
set_option maxHeartbeats 1000000
set_option maxRecDepth 100000
namespace Go.Rp
open Go.Proofs
instance iW46_0 : ElT Tryz.prog 23 1 := ElT.mk' (by kernel_rfl)
instance iW46_1 : ElT Tryz.prog 5 1 := ElT.mk' (by kernel_rfl)
instance iW46_2 : FnOk Tryz.prog 10 := ⟨⟨Tryz.f10, Tryz.func10, by kernel_rfl, by kernel_rfl⟩⟩
instance iW46_3 : FnOk Tryz.prog 11 := ⟨⟨Tryz.f11, Tryz.func11, by kernel_rfl, by kernel_rfl⟩⟩
instance iW46_4 : FnOk Tryz.prog 12 := ⟨⟨Tryz.f12, Tryz.func12, by kernel_rfl, by kernel_rfl⟩⟩
instance iW46_5 : FnOk Tryz.prog 13 := ⟨⟨Tryz.f13, Tryz.func13, by kernel_rfl, by kernel_rfl⟩⟩
instance iW46_6 : FnOk Tryz.prog 6 := ⟨⟨Tryz.f6, Tryz.func6, by kernel_rfl, by kernel_rfl⟩⟩
instance iW46_7 : FnOk Tryz.prog 7 := ⟨⟨Tryz.f7, Tryz.func7, by kernel_rfl, by kernel_rfl⟩⟩
instance iW46_8 : FnOk Tryz.prog 8 := ⟨⟨Tryz.f8, Tryz.func8, by kernel_rfl, by kernel_rfl⟩⟩
instance iW46_9 : FnOk Tryz.prog 9 := ⟨⟨Tryz.f9, Tryz.func9, by kernel_rfl, by kernel_rfl⟩⟩
instance iW46_10 : SlT Tryz.prog 23 5 := ⟨by kernel_rfl⟩
instance iW46_11 : SlT Tryz.prog 36 23 := ⟨by kernel_rfl⟩
instance iW46_12 : SzT Tryz.prog 23 1 := ⟨by kernel_rfl⟩
instance iW46_13 : SzT Tryz.prog 5 1 := ⟨by kernel_rfl⟩
theorem tt3 : (AG Tryz.prog 23 = some false) ∧ (AG Tryz.prog 5 = some false) ∧ (IKn Tryz.prog 3 = some .i64) ∧ (IKn Tryz.prog 5 = some .u8) ∧ (KD Tryz.prog 25 = some 2) ∧ (LK Tryz.prog 23 = some 1) ∧ (LK Tryz.prog 36 = some 1) := ⟨by kernel_rfl, by kernel_rfl, by kernel_rfl, by kernel_rfl, by kernel_rfl, by kernel_rfl, by kernel_rfl⟩

def five (a b c d e : Sl × List UInt8) (j : Nat) : Sl × List UInt8 := match j with | 0 => a | 1 => b | 2 => c | 3 => d | _ => e
theorem encV_f (s : Sl) : encV.f s = [.slice s.1 s.2.1 s.2.2] := rfl
theorem enc8 {m : Nat} {v : Int} (h : m < 256) (hv : v = m) : encB.f (UInt8.ofNat m) = [.int .u8 v] := by
  show [Value.int .u8 (((UInt8.ofNat m).toNat : Nat) : Int)] = _
  rw [UInt8.toNat_ofNat', Nat.mod_eq_of_lt h, hv]
theorem toN8 {m : Nat} (h : m < 256) : (((UInt8.ofNat m).toNat : Nat) : Int) = m := by rw [UInt8.toNat_ofNat', Nat.mod_eq_of_lt h]
theorem upd_len {n i : Nat} {f : Nat → Sl × List UInt8} {x : Sl × List UInt8} (h : Len5 n f) (h1 : x.1.2.1 = x.2.length) (h2 : n ≤ x.2.length) : Len5 n (upd f i x) := fun j hj => by
  unfold upd; split
  · exact ⟨h1, h2⟩
  · exact h j hj
theorem upd_done {n i : Nat} {f : Nat → Sl × List UInt8} {x : Sl × List UInt8} {g : Nat → UInt8} (h : ∀ j, j < i → (f j).2.take n = List.replicate n (g j)) (hx : x.2.take n = List.replicate n (g i)) : ∀ j, j < i + 1 → (upd f i x j).2.take n = List.replicate n (g j) := fun j hj => by
  unfold upd; split
  · rename_i e; rw [e]; exact hx
  · exact h j (by omega)
theorem done_at {ys : List UInt8} {k n : Nat} {b : UInt8} (h : ys.take k = List.replicate k b) (e : k = n) : ys.take n = List.replicate n b := by subst e; exact h
theorem upd_l4 {m i : Nat} {f : Nat → Sl × List UInt8} {x : Sl × List UInt8} (h : ∀ j, j < 4 → (f j).2.length = m) (hx : i < 4 → x.2.length = m) : ∀ j, j < 4 → (upd f i x j).2.length = m := fun j hj => by
  unfold upd; split
  · rename_i e; subst e; exact hx hj
  · exact h j hj
theorem upd_l {i : Nat} {f : Nat → Sl × List UInt8} {x : Sl × List UInt8} (h : ∀ j, j < 5 → (f j).1.2.1 = (f j).2.length) (hx : x.1.2.1 = x.2.length) : ∀ j, j < 5 → (upd f i x j).1.2.1 = (upd f i x j).2.length := fun j hj => by
  unfold upd; split
  · exact hx
  · exact h j hj
theorem upd_lt {i : Nat} {f : Nat → Sl × List UInt8} {x : Sl × List UInt8} {P : Nat → List UInt8 → Prop} (h : ∀ j, j < i → P j (f j).2) (hx : P i x.2) : ∀ j, j < i + 1 → P j (upd f i x j).2 := fun j hj => by
  unfold upd; split
  · rename_i e; rw [e]; exact hx
  · exact h j (by omega)
theorem upd_ge {i : Nat} {f : Nat → Sl × List UInt8} {x : Sl × List UInt8} {P : Nat → List UInt8 → Prop} (h : ∀ j, i ≤ j → j < 4 → P j (f j).2) : ∀ j, i + 1 ≤ j → j < 4 → P j (upd f i x j).2 := fun j h1 h2 => by
  unfold upd; rw [if_neg (by omega)]; exact h j (by omega) h2
theorem five_len {n : Nat} {a b c d e : Sl × List UInt8} (ha : a.1.2.1 = a.2.length ∧ n ≤ a.2.length) (hb : b.1.2.1 = b.2.length ∧ n ≤ b.2.length) (hc : c.1.2.1 = c.2.length ∧ n ≤ c.2.length) (hd : d.1.2.1 = d.2.length ∧ n ≤ d.2.length) (he : e.1.2.1 = e.2.length ∧ n ≤ e.2.length) : Len5 n (five a b c d e) := fun j hj => by
  match j, hj with
  | 0, _ => exact ha
  | 1, _ => exact hb
  | 2, _ => exact hc
  | 3, _ => exact hd
  | 4, _ => exact he
theorem five_l4 {n : Nat} {a b c d e : Sl × List UInt8} (ha : a.2.length = n) (hb : b.2.length = n) (hc : c.2.length = n) (hd : d.2.length = n) : ∀ j, j < 4 → (five a b c d e j).2.length = n := fun j hj => by
  match j, hj with
  | 0, _ => exact ha
  | 1, _ => exact hb
  | 2, _ => exact hc
  | 3, _ => exact hd
theorem set_same {α : Type} : ∀ {l : List α} {i : Nat} {x : α}, l[i]? = some x → l.set i x = l
  | [], i, x, h => by simp at h
  | a :: l, 0, x, h => by
    simp only [List.getElem?_cons_zero, Option.some.injEq] at h
    rw [List.set_cons_zero, h]
  | a :: l, i + 1, x, h => by
    rw [List.getElem?_cons_succ] at h
    rw [List.set_cons_succ, set_same h]
theorem upd_self {f : Nat → Sl × List UInt8} {i : Nat} {x : Sl × List UInt8} (h : f i = x) : upd f i x = f := by
  funext j
  unfold upd; split
  · rename_i e; rw [e, h]
  · rfl
theorem rep_of {xs : List UInt8} {n : Nat} {b : UInt8} (h1 : xs.take n = List.replicate n b) (h2 : xs.length = n) : xs = List.replicate n b := by
  rw [← h1, List.take_of_length_le (by omega)]
theorem rep_lo {n k : Nat} {a b : UInt8} (h : k < n) : (List.replicate n a ++ List.replicate 80 b)[k]? = some a := by
  rw [List.getElem?_append_left (by simpa using h), List.getElem?_replicate, if_pos h]
theorem rep_hi {n k : Nat} {a b : UInt8} (h : n ≤ k) (h2 : k < n + 80) : (List.replicate n a ++ List.replicate 80 b)[k]? = some b := by
  rw [List.getElem?_append_right (by simpa using h), List.getElem?_replicate, if_pos (by simp; omega)]
theorem SnapWhole_ok {a1 a2 : Option Addr} {n1 n2 k1 k2 : Nat} {ops : List OT} {xs : List UInt8} {F : List HP} {w : World} (H : Own F w) (hR1 : Ent F (Row a1 encO ops)) (hn1 : n1 = ops.length) (hS1 : Script F ops) (hb1 : ops.length ≤ 1099511627776) (hR2 : Ent F (Row a2 encB xs)) (hn2 : n2 = xs.length) (hb2 : xs.length ≤ 1048576) :
  Cl Tryz.prog 3 #[.slice a1 n1 k1, .slice a2 n2 k2] w fun v w' => v = .bool true ∧ Own F w' := by
  subst hn1
  subst hn2
  refine cl_of_cw Tryz.func3 rfl ?_
  simp only [Tryz.ntmps3, envA, List.size_toArray, List.length_cons, List.length_nil, Nat.reduceAdd, Nat.reduceSub]
  refine cw_seq (fun K1 h1 => ?_)
  refine cw_region (lq_run ?_)
  simp (maxSteps := 5000000) (decide := true) (disch := omega) only [EV, ↓reduceIte, Nat.reduceAdd, tt3, encK_f, L5, encV_f, encB_f8]
  refine lq_nil ?_
  refine h1 _ _ ?_
  refine cw_seq (fun K2 h2 => ?_)
  refine cw_region (lq_run ?_)
  simp (maxSteps := 5000000) (decide := true) (disch := omega) only [EV, ↓reduceIte, Nat.reduceAdd, tt3, encK_f, L5, encV_f, encB_f8]
  refine lq_call rfl ?_
  refine Cl.mono (alive_ok H) ?_
  rintro _ w ⟨rfl, H⟩
  simp (maxSteps := 5000000) (decide := true) (disch := omega) only [EV, ↓reduceIte, Nat.reduceAdd, tt3, encK_f, L5, encV_f, encB_f8]
  refine lq_nil ?_
  refine h2 _ _ ?_
  refine cw_seq (fun K3 h3 => ?_)
  refine cw_seq (fun K4 h4 => ?_)
  refine cw_region (lq_run ?_)
  simp (maxSteps := 5000000) (decide := true) (disch := omega) only [EV, ↓reduceIte, Nat.reduceAdd, tt3, encK_f, L5, encV_f, encB_f8]
  refine lq_nil ?_
  refine h4 _ _ ?_
  refine cw_condF rfl ?_
  refine cw_skip ?_
  refine h3 _ _ ?_
  refine cw_seq (fun K5 h5 => ?_)
  refine cw_region (lq_run ?_)
  simp (maxSteps := 5000000) (decide := true) (disch := omega) only [EV, ↓reduceIte, Nat.reduceAdd, tt3, encK_f, L5, encV_f, encB_f8]
  refine lq_call rfl ?_
  refine Cl.mono (own_ok H hR2 rfl (by omega)) ?_
  rintro _ w ⟨ao4, c4, rfl, hc4, H⟩
  simp (maxSteps := 5000000) (decide := true) (disch := omega) only [EV, ↓reduceIte, Nat.reduceAdd, tt3, encK_f, L5, encV_f, encB_f8]
  refine lq_call rfl ?_
  refine Cl.mono (Read_ok (now := 5) H Ent.os rfl hc4 (by omega)) ?_
  rintro v w hRd
  obtain ⟨g, pt, e, hv, hM⟩ : ∃ g pt e, v = .tuple #[.int .i64 g, .pointer pt, .int .i64 e] ∧ ((∃ er, snapOf xs 5 = .inl er ∧ g = 0 ∧ pt = none ∧ e = er ∧ Own F w) ∨ ∃ S0 p0, snapOf xs 5 = .inr (g, S0) ∧ pt = some ⟨p0, 0, none⟩ ∧ e = 0 ∧ Own (StoreAt p0 S0 :: F) w) := by
    rcases hRd with ⟨q, _⟩ | ⟨_, ⟨er, q, e, H⟩ | ⟨g', S', p', q, e, H⟩⟩
    · omega
    · exact ⟨0, none, er, e, .inl ⟨er, q, rfl, rfl, rfl, H.wk⟩⟩
    · exact ⟨g', _, 0, e, .inr ⟨S', p', q, rfl, rfl, H.wk⟩⟩
  clear hRd
  subst hv
  simp (maxSteps := 5000000) (decide := true) (disch := omega) only [EV, ↓reduceIte, Nat.reduceAdd, tt3, encK_f, L5, encV_f, encB_f8]
  refine lq_nil ?_
  refine h5 _ _ ?_
  refine cw_seq (fun K6 h6 => ?_)
  refine cw_seq (fun K7 h7 => ?_)
  refine cw_region (lq_run ?_)
  simp (maxSteps := 5000000) (decide := true) (disch := omega) only [EV, ↓reduceIte, Nat.reduceAdd, tt3, encK_f, L5, encV_f, encB_f8]
  refine lq_nil ?_
  refine h7 _ _ ?_
  refine cw_condB rfl (fun c47 => ?_) (fun c47 => ?_)
  · skip
    try simp only [HB] at c47
    obtain ⟨S0, p0, hs0, rfl, H⟩ : ∃ S0 p0, snapOf xs 5 = .inr (g, S0) ∧ pt = some ⟨p0, 0, none⟩ ∧ Own (StoreAt p0 S0 :: F) w := by
      rcases hM with ⟨er, q, _, _, q2, _⟩ | ⟨S0, p0, q, q1, _, H⟩
      · have := snapOf_err q; omega
      · exact ⟨S0, p0, q, q1, H⟩
    clear hM
    obtain ⟨hi1, hi2, hi3, hi4, _⟩ := snapOf_inv hs0
    have hi5 := snapB_length g S0
    rw [hi1] at hi5
    refine cw_seq (fun K8 h8 => ?_)
    refine cw_region (lq_run ?_)
    simp (maxSteps := 5000000) (decide := true) (disch := omega) only [EV, ↓reduceIte, Nat.reduceAdd, tt3, encK_f, L5, encV_f, encB_f8]
    refine lq_call rfl ?_
    refine Cl.mono (Build_good H hi4 hi2 hi3 (by omega)) ?_
    rintro _ w ⟨aoX, cX, rfl, H⟩
    rw [hi1] at H ⊢
    simp (maxSteps := 5000000) (decide := true) (disch := omega) only [EV, ↓reduceIte, Nat.reduceAdd, tt3, encK_f, L5, encV_f, encB_f8]
    refine lq_nil ?_
    refine h8 _ _ ?_
    refine cw_seq (fun K9 h9 => ?_)
    refine cw_region (lq_run ?_)
    simp (maxSteps := 5000000) (decide := true) (disch := omega) only [EV, ↓reduceIte, Nat.reduceAdd, tt3, encK_f, L5, encV_f, encB_f8]
    refine lq_call rfl ?_
    refine Cl.mono (same_ok H Ent.os rfl hR2.up rfl) ?_
    rintro _ w ⟨rfl, H⟩
    rw [show decide (xs = xs) = true from decide_eq_true rfl]
    simp (maxSteps := 5000000) (decide := true) (disch := omega) only [EV, ↓reduceIte, Nat.reduceAdd, tt3, encK_f, L5, encV_f, encB_f8]
    refine lq_nil ?_
    refine h9 _ _ ?_
    refine cw_condB rfl (fun c69 => ?_) (fun c69 => ?_)
    · skip
      try simp only [HB] at c69
      refine cw_seq (fun K10 h10 => ?_)
      refine cw_region (lq_run ?_)
      simp (maxSteps := 5000000) (decide := true) (disch := omega) only [EV, ↓reduceIte, Nat.reduceAdd, tt3, encK_f, L5, encV_f, encB_f8]
      refine lq_nil ?_
      refine h10 _ _ ?_
      refine cw_ret ?_
      try simp (decide := true) only [EX, ↓reduceIte]
      refine ret1 rfl ?_
      first | exact ⟨rfl, H.wk⟩ | exact absurd trivial ‹¬True› | exact absurd ‹false = true› (by decide) | (rcases hs0 with q | q <;> contradiction) | (exfalso; omega)
    · skip
      try simp only [HB] at c69
      refine cw_skip ?_
      refine h6 _ _ ?_
      refine cw_seq (fun K11 h11 => ?_)
      refine cw_region (lq_run ?_)
      simp (maxSteps := 5000000) (decide := true) (disch := omega) only [EV, ↓reduceIte, Nat.reduceAdd, tt3, encK_f, L5, encV_f, encB_f8]
      replace H : Own F w := H.wk
      refine lq_call rfl ?_
      refine Cl.mono (made_ok H hR1 rfl hS1 hb1) ?_
      rintro _ w ⟨p, rfl, H⟩
      have hf := Fits.run hS1
      obtain ⟨S, hSS⟩ : ∃ S, S = runS ⟨[], []⟩ ops := ⟨_, rfl⟩
      rw [← hSS] at H hf
      have hbd := hf.body 2
      have hsl := snapB_length 2 S
      have hsl2 := bodyB_len 2 S
      have hfR := hf.restamp (now := 5) (by omega)
      have hlR := len_restamp 5 2 S
      simp (maxSteps := 5000000) (decide := true) (disch := omega) only [EV, ↓reduceIte, Nat.reduceAdd, tt3, encK_f, L5, encV_f, encB_f8]
      refine lq_nil ?_
      refine h11 _ _ ?_
      refine cw_seq (fun K12 h12 => ?_)
      refine cw_seq (fun K13 h13 => ?_)
      refine cw_region (lq_run ?_)
      simp (maxSteps := 5000000) (decide := true) (disch := omega) only [EV, ↓reduceIte, Nat.reduceAdd, tt3, encK_f, L5, encV_f, encB_f8]
      refine lq_nil ?_
      refine h13 _ _ ?_
      refine cw_condF rfl ?_
      refine cw_skip ?_
      refine h12 _ _ ?_
      refine cw_seq (fun K14 h14 => ?_)
      refine cw_region (lq_run ?_)
      simp (maxSteps := 5000000) (decide := true) (disch := omega) only [EV, ↓reduceIte, Nat.reduceAdd, tt3, encK_f, L5, encV_f, encB_f8]
      refine lq_call rfl ?_
      refine Cl.mono (Build_good H hf.wf (by omega) (by omega) hbd) ?_
      rintro _ w ⟨ao3, c3, rfl, H⟩
      simp (maxSteps := 5000000) (decide := true) (disch := omega) only [EV, ↓reduceIte, Nat.reduceAdd, tt3, encK_f, L5, encV_f, encB_f8]
      refine lq_nil ?_
      refine h14 _ _ ?_
      refine cw_seq (fun K15 h15 => ?_)
      refine cw_region (lq_run ?_)
      simp (maxSteps := 5000000) (decide := true) (disch := omega) only [EV, ↓reduceIte, Nat.reduceAdd, tt3, encK_f, L5, encV_f, encB_f8]
      refine lq_call rfl ?_
      refine Cl.mono (Build_good (H.tkR (R := StoreAt) (k := p)) hf.wf (by omega) (by omega) hbd) ?_
      rintro _ w ⟨ao5, c5, rfl, H⟩
      simp (maxSteps := 5000000) (decide := true) (disch := omega) only [EV, ↓reduceIte, Nat.reduceAdd, tt3, encK_f, L5, encV_f, encB_f8]
      refine lq_nil ?_
      refine h15 _ _ ?_
      refine cw_seq (fun K16 h16 => ?_)
      refine cw_seq (fun K17 h17 => ?_)
      refine cw_region (lq_run ?_)
      simp (maxSteps := 5000000) (decide := true) (disch := omega) only [EV, ↓reduceIte, Nat.reduceAdd, tt3, encK_f, L5, encV_f, encB_f8]
      refine lq_call rfl ?_
      refine Cl.mono (same_ok H (Ent.up (M := Os 5 encB (.slice ao3 (snapB 2 S).length c3) (snapB 2 S) :: []) Ent.os) rfl (Ent.up (M := Os 5 encB (.slice ao5 (snapB 2 S).length c5) (snapB 2 S) :: []) Ent.os) rfl) ?_
      rintro _ w ⟨rfl, H⟩
      rw [show decide (snapB 2 S = snapB 2 S) = true from decide_eq_true rfl]
      simp (maxSteps := 5000000) (decide := true) (disch := omega) only [EV, ↓reduceIte, Nat.reduceAdd, tt3, encK_f, L5, encV_f, encB_f8]
      refine lq_nil ?_
      refine h17 _ _ ?_
      refine cw_condB rfl (fun c114 => ?_) (fun c114 => ?_)
      · skip
        try simp only [HB] at c114
        refine cw_seq (fun K18 h18 => ?_)
        refine cw_region (lq_run ?_)
        simp (maxSteps := 5000000) (decide := true) (disch := omega) only [EV, ↓reduceIte, Nat.reduceAdd, tt3, encK_f, L5, encV_f, encB_f8]
        refine lq_nil ?_
        refine h18 _ _ ?_
        refine cw_ret ?_
        try simp (decide := true) only [EX, ↓reduceIte]
        refine ret1 rfl ?_
        first | exact ⟨rfl, H.wk⟩ | exact absurd trivial ‹¬True› | exact absurd ‹false = true› (by decide) | (rcases hs0 with q | q <;> contradiction) | (exfalso; omega)
      · skip
        try simp only [HB] at c114
        refine cw_skip ?_
        refine h16 _ _ ?_
        refine cw_seq (fun K19 h19 => ?_)
        refine cw_region (lq_run ?_)
        simp (maxSteps := 5000000) (decide := true) (disch := omega) only [EV, ↓reduceIte, Nat.reduceAdd, tt3, encK_f, L5, encV_f, encB_f8]
        replace H : Own (Os 5 encB (.slice ao3 (snapB 2 S).length c3) (snapB 2 S) :: Os 5 encB (.slice ao5 (snapB 2 S).length c5) (snapB 2 S) :: StoreAt p S :: F) w := H.wk
        refine lq_call rfl ?_
        refine Cl.mono (own_ok H Ent.os rfl (by omega)) ?_
        rintro _ w ⟨ao6, c6, rfl, hc6, H⟩
        simp (maxSteps := 5000000) (decide := true) (disch := omega) only [EV, ↓reduceIte, Nat.reduceAdd, tt3, encK_f, L5, encV_f, encB_f8]
        refine lq_bs H rfl rfl (by rfl) rfl (by decide) (fun b117 w H => ?_)
        try simp only [ES, encK_f, L5, encV_f, encB_f8] at H
        replace H := H.os encB [161, 162] rfl rfl
        simp (maxSteps := 5000000) (decide := true) (disch := omega) only [EV, ↓reduceIte, Nat.reduceAdd, tt3, encK_f, L5, encV_f, encB_f8]
        refine lq_appR (enc := encB) (xs := snapB 2 S) H rfl rfl (Ent.os (L := []) (T := 5) (enc := encB) (n := 2) (c := 2) (xs := [161, 162])) rfl (by rw [show encB.n = 1 from rfl]; simp; omega) (fun ao7 c7 w H => ?_)
        have hc7 := H.oscap
        have h07 := H.os0 1 (snapB 2 S).length
        simp only [List.length_cons, List.length_nil, Nat.zero_add, Nat.reduceAdd] at H hc7 h07 ⊢
        have hpre : Ent [Os 5 encB (.slice ao7 ((snapB 2 S).length + 2) c7) (snapB 2 S ++ [161, 162])] (Row ao7 encB (snapB 2 S)) := by
          have := Ent.pref (T := 5) (enc := encB) (n := (snapB 2 S).length + 2) (xs := snapB 2 S ++ [161, 162]) (L := []) (snapB 2 S).length (by omega) h07
          rwa [List.take_left' rfl] at this
        simp (maxSteps := 5000000) (decide := true) (disch := omega) only [EV, ↓reduceIte, Nat.reduceAdd, tt3, encK_f, L5, encV_f, encB_f8]
        refine lq_nil ?_
        refine h19 _ _ ?_
        refine cw_seq (fun K20 h20 => ?_)
        refine cw_region (lq_run ?_)
        simp (maxSteps := 5000000) (decide := true) (disch := omega) only [EV, ↓reduceIte, Nat.reduceAdd, tt3, encK_f, L5, encV_f, encB_f8]
        refine lq_sub 0 (snapB 2 S).length (snapB 2 S).length rfl rfl ⟨_, _, rfl, rfl⟩ ⟨by omega, by omega, nofun⟩ (by omega) ?_
        rw [h07]
        simp (maxSteps := 5000000) (decide := true) (disch := omega) only [EV, ↓reduceIte, Nat.reduceAdd, tt3, encK_f, L5, encV_f, encB_f8]
        refine lq_call rfl ?_
        refine Cl.mono (Read_good H hpre.up rfl (by omega) hf.wf (by omega) (by omega) hbd (by omega)) ?_
        rintro _ w ⟨p2, rfl, H⟩
        simp (maxSteps := 5000000) (decide := true) (disch := omega) only [EV, ↓reduceIte, Nat.reduceAdd, tt3, encK_f, L5, encV_f, encB_f8]
        refine lq_nil ?_
        refine h20 _ _ ?_
        refine cw_seq (fun K21 h21 => ?_)
        refine cw_seq (fun K22 h22 => ?_)
        refine cw_region (lq_run ?_)
        simp (maxSteps := 5000000) (decide := true) (disch := omega) only [EV, ↓reduceIte, Nat.reduceAdd, tt3, encK_f, L5, encV_f, encB_f8]
        refine lq_sub 0 (snapB 2 S).length (snapB 2 S).length rfl rfl ⟨_, _, rfl, rfl⟩ ⟨by omega, by omega, nofun⟩ (by omega) ?_
        rw [h07]
        simp (maxSteps := 5000000) (decide := true) (disch := omega) only [EV, ↓reduceIte, Nat.reduceAdd, tt3, encK_f, L5, encV_f, encB_f8]
        refine lq_call rfl ?_
        refine Cl.mono (same_ok H hpre.up rfl (Ent.up (M := Os 5 encB (.slice ao3 (snapB 2 S).length c3) (snapB 2 S) :: []) Ent.os) rfl) ?_
        rintro _ w ⟨rfl, H⟩
        rw [show decide (snapB 2 S = snapB 2 S) = true from decide_eq_true rfl]
        simp (maxSteps := 5000000) (decide := true) (disch := omega) only [EV, ↓reduceIte, Nat.reduceAdd, tt3, encK_f, L5, encV_f, encB_f8]
        refine lq_idx (i' := (snapB 2 S).length) H rfl rfl (Ent.os (L := []) (T := 5) (enc := encB) (n := (snapB 2 S).length + 2) (c := c7) (xs := snapB 2 S ++ [161, 162])) (by simp) rfl (show (snapB 2 S ++ [161, 162])[(snapB 2 S).length]? = some 161 by simp) ?_
        simp (maxSteps := 5000000) (decide := true) (disch := omega) only [EV, ↓reduceIte, Nat.reduceAdd, tt3, encK_f, L5, encV_f, encB_f8]
        refine lq_loadE H rfl (Ent.os (L := []) (T := 5) (enc := encB) (n := (snapB 2 S).length + 2) (c := c7) (xs := snapB 2 S ++ [161, 162])) (show (snapB 2 S ++ [161, 162])[(snapB 2 S).length]? = some 161 by simp) rfl ?_
        simp (maxSteps := 5000000) (decide := true) (disch := omega) only [EV, ↓reduceIte, Nat.reduceAdd, tt3, encK_f, L5, encV_f, encB_f8]
        refine lq_idx (i' := (snapB 2 S).length + 1) H rfl rfl (Ent.os (L := []) (T := 5) (enc := encB) (n := (snapB 2 S).length + 2) (c := c7) (xs := snapB 2 S ++ [161, 162])) (by simp) rfl (show (snapB 2 S ++ [161, 162])[(snapB 2 S).length + 1]? = some 162 by simp) ?_
        simp (maxSteps := 5000000) (decide := true) (disch := omega) only [EV, ↓reduceIte, Nat.reduceAdd, tt3, encK_f, L5, encV_f, encB_f8]
        refine lq_loadE H rfl (Ent.os (L := []) (T := 5) (enc := encB) (n := (snapB 2 S).length + 2) (c := c7) (xs := snapB 2 S ++ [161, 162])) (show (snapB 2 S ++ [161, 162])[(snapB 2 S).length + 1]? = some 162 by simp) rfl ?_
        simp (maxSteps := 5000000) (decide := true) (disch := omega) only [EV, ↓reduceIte, Nat.reduceAdd, tt3, encK_f, L5, encV_f, encB_f8]
        refine lq_nil ?_
        refine h22 _ _ ?_
        refine cw_condF rfl ?_
        refine cw_skip ?_
        refine h21 _ _ ?_
        refine cw_seq (fun K23 h23 => ?_)
        refine cw_region (lq_run ?_)
        simp (maxSteps := 5000000) (decide := true) (disch := omega) only [EV, ↓reduceIte, Nat.reduceAdd, tt3, encK_f, L5, encV_f, encB_f8]
        refine lq_call rfl ?_
        refine Cl.mono (Kept_ok (H.tkR (R := StoreAt) (k := p2)) hfR.V (fun x hx => by have := hfR.K x hx; omega)) ?_
        rintro _ w ⟨l1, aoK, cK, rfl, h1, H⟩
        have hK1 := hfR.Kl h1
        have H9 : Own (Os 5 encB (.slice ao3 (snapB 2 S).length c3) (snapB 2 S) :: Os 5 encB (.slice ao5 (snapB 2 S).length c5) (snapB 2 S) :: Os 48 encK (.slice aoK l1.length cK) l1 :: KeysR l1 :: StoreAt p2 (restamp 5 S) :: Os 5 encB (.slice ao7 ((snapB 2 S).length + 2) c7) (snapB 2 S ++ [161, 162]) :: StoreAt p S :: F) w := H.wk
        replace H := H9
        clear H9
        simp (maxSteps := 5000000) (decide := true) (disch := omega) only [EV, ↓reduceIte, Nat.reduceAdd, tt3, encK_f, L5, encV_f, encB_f8]
        refine lq_nil ?_
        refine h23 _ _ ?_
        refine cw_seq (fun K24 h24 => ?_)
        refine cw_region (lq_run ?_)
        simp (maxSteps := 5000000) (decide := true) (disch := omega) only [EV, ↓reduceIte, Nat.reduceAdd, tt3, encK_f, L5, encV_f, encB_f8]
        refine lq_nil ?_
        refine h24 _ _ ?_
        refine cw_seq (fun K25 h25 => ?_)
        refine cw_region (lq_run ?_)
        simp (maxSteps := 5000000) (decide := true) (disch := omega) only [EV, ↓reduceIte, Nat.reduceAdd, tt3, encK_f, L5, encV_f, encB_f8]
        refine lq_call rfl ?_
        refine Cl.mono (own_ok H Ent.os rfl (by omega)) ?_
        rintro _ w ⟨ao8, c8, rfl, hc8, H⟩
        simp (maxSteps := 5000000) (decide := true) (disch := omega) only [EV, ↓reduceIte, Nat.reduceAdd, tt3, encK_f, L5, encV_f, encB_f8]
        refine lq_nil ?_
        refine h25 _ _ ?_
        refine cw_seq (fun K26 h26 => ?_)
        refine cw_region (lq_run ?_)
        simp (maxSteps := 5000000) (decide := true) (disch := omega) only [EV, ↓reduceIte, Nat.reduceAdd, tt3, encK_f, L5, encV_f, encB_f8]
        refine lq_call rfl ?_
        refine Cl.mono (Build_good (H.tkR (R := StoreAt) (k := p2)) hfR.wf (by omega) (by omega) (by omega)) ?_
        rintro _ w ⟨ao9, c9, rfl, H⟩
        rw [restamp_bytes] at H ⊢
        simp (maxSteps := 5000000) (decide := true) (disch := omega) only [EV, ↓reduceIte, Nat.reduceAdd, tt3, encK_f, L5, encV_f, encB_f8]
        refine lq_nil ?_
        refine h26 _ _ ?_
        refine cw_seq (fun K27 h27 => ?_)
        refine cw_region (lq_run ?_)
        simp (maxSteps := 5000000) (decide := true) (disch := omega) only [EV, ↓reduceIte, Nat.reduceAdd, tt3, encK_f, L5, encV_f, encB_f8]
        refine lq_call rfl ?_
        refine Cl.mono (Build_good (H.tkR (R := StoreAt) (k := p)) hf.wf (by omega) (by omega) hbd) ?_
        rintro _ w ⟨ao10, c10, rfl, H⟩
        simp (maxSteps := 5000000) (decide := true) (disch := omega) only [EV, ↓reduceIte, Nat.reduceAdd, tt3, encK_f, L5, encV_f, encB_f8]
        refine lq_nil ?_
        refine h27 _ _ ?_
        refine cw_seq (fun K28 h28 => ?_)
        refine cw_seq (fun K29 h29 => ?_)
        refine cw_region (lq_run ?_)
        simp (maxSteps := 5000000) (decide := true) (disch := omega) only [EV, ↓reduceIte, Nat.reduceAdd, tt3, encK_f, L5, encV_f, encB_f8]
        refine lq_call rfl ?_
        refine Cl.mono (same_ok H (Ent.up (M := Os 5 encB (.slice ao9 (snapB 2 S).length c9) (snapB 2 S) :: []) Ent.os) rfl (Ent.up (M := Os 5 encB (.slice ao8 (snapB 2 S).length c8) (snapB 2 S) :: []) Ent.os) rfl) ?_
        rintro _ w ⟨rfl, H⟩
        rw [show decide (snapB 2 S = snapB 2 S) = true from decide_eq_true rfl]
        simp (maxSteps := 5000000) (decide := true) (disch := omega) only [EV, ↓reduceIte, Nat.reduceAdd, tt3, encK_f, L5, encV_f, encB_f8]
        refine lq_call rfl ?_
        refine Cl.mono (same_ok H (Ent.up (M := Os 5 encB (.slice ao10 (snapB 2 S).length c10) (snapB 2 S) :: []) Ent.os) rfl (Ent.up (M := Os 5 encB (.slice ao8 (snapB 2 S).length c8) (snapB 2 S) :: []) Ent.os) rfl) ?_
        rintro _ w ⟨rfl, H⟩
        rw [show decide (snapB 2 S = snapB 2 S) = true from decide_eq_true rfl]
        simp (maxSteps := 5000000) (decide := true) (disch := omega) only [EV, ↓reduceIte, Nat.reduceAdd, tt3, encK_f, L5, encV_f, encB_f8]
        refine lq_call rfl ?_
        refine Cl.mono (same_ok H (Ent.up (M := Os 5 encB (.slice ao5 (snapB 2 S).length c5) (snapB 2 S) :: []) Ent.os) rfl (Ent.up (M := Os 5 encB (.slice ao8 (snapB 2 S).length c8) (snapB 2 S) :: []) Ent.os) rfl) ?_
        rintro _ w ⟨rfl, H⟩
        rw [show decide (snapB 2 S = snapB 2 S) = true from decide_eq_true rfl]
        simp (maxSteps := 5000000) (decide := true) (disch := omega) only [EV, ↓reduceIte, Nat.reduceAdd, tt3, encK_f, L5, encV_f, encB_f8]
        refine lq_nil ?_
        refine h29 _ _ ?_
        refine cw_condF rfl ?_
        refine cw_skip ?_
        refine h28 _ _ ?_
        refine cw_seq (fun K30 h30 => ?_)
        refine cw_region (lq_run ?_)
        simp (maxSteps := 5000000) (decide := true) (disch := omega) only [EV, ↓reduceIte, Nat.reduceAdd, tt3, encK_f, L5, encV_f, encB_f8]
        refine lq_bs H rfl rfl (by rfl) rfl (by decide) (fun b205 w H => ?_)
        try simp only [ES, encK_f, L5, encV_f, encB_f8] at H
        replace H := H.os encV [(ao3, (snapB 2 S).length, c3), (ao5, (snapB 2 S).length, c5), (ao9, (snapB 2 S).length, c9), (ao10, (snapB 2 S).length, c10), (ao7, (snapB 2 S).length + 2, c7)] rfl rfl
        change Own (Os 23 encV (.slice (some ⟨b205, 0, none⟩) 5 5) _ :: _) w at H
        replace H : Own (AllR (five ((ao3, (snapB 2 S).length, c3), snapB 2 S) ((ao5, (snapB 2 S).length, c5), snapB 2 S) ((ao9, (snapB 2 S).length, c9), snapB 2 S) ((ao10, (snapB 2 S).length, c10), snapB 2 S) ((ao7, (snapB 2 S).length + 2, c7), snapB 2 S ++ [161, 162])) :: Os 23 encV (.slice (some ⟨b205, 0, none⟩) 5 5) ((List.range 5).map fun j => ((five ((ao3, (snapB 2 S).length, c3), snapB 2 S) ((ao5, (snapB 2 S).length, c5), snapB 2 S) ((ao9, (snapB 2 S).length, c9), snapB 2 S) ((ao10, (snapB 2 S).length, c10), snapB 2 S) ((ao7, (snapB 2 S).length + 2, c7), snapB 2 S ++ [161, 162])) j).1) :: StoreAt p S :: StoreAt p2 (restamp 5 S) :: Os 5 encB (.slice ao8 (snapB 2 S).length c8) (snapB 2 S) :: Os 48 encK (.slice aoK l1.length cK) l1 :: KeysR l1 :: F) w := by
          have H9 : Own (Os 5 encB (.slice ao3 (snapB 2 S).length c3) (snapB 2 S) :: Os 5 encB (.slice ao5 (snapB 2 S).length c5) (snapB 2 S) :: Os 5 encB (.slice ao9 (snapB 2 S).length c9) (snapB 2 S) :: Os 5 encB (.slice ao10 (snapB 2 S).length c10) (snapB 2 S) :: Os 5 encB (.slice ao7 ((snapB 2 S).length + 2) c7) (snapB 2 S ++ [161, 162]) :: Os 23 encV (.slice (some ⟨b205, 0, none⟩) 5 5) ([(ao3, (snapB 2 S).length, c3), (ao5, (snapB 2 S).length, c5), (ao9, (snapB 2 S).length, c9), (ao10, (snapB 2 S).length, c10), (ao7, (snapB 2 S).length + 2, c7)]) :: StoreAt p S :: StoreAt p2 (restamp 5 S) :: Os 5 encB (.slice ao8 (snapB 2 S).length c8) (snapB 2 S) :: Os 48 encK (.slice aoK l1.length cK) l1 :: KeysR l1 :: F) w := H.wk
          exact Sep.flat.2 H9
        simp (maxSteps := 5000000) (decide := true) (disch := omega) only [EV, ↓reduceIte, Nat.reduceAdd, tt3, encK_f, L5, encV_f, encB_f8]
        refine lq_nil ?_
        refine h30 _ _ ?_
        refine cw_seq (fun K31 h31 => ?_)
        refine cw_seq (fun K32 h32 => ?_)
        refine cw_region (lq_run ?_)
        simp (maxSteps := 5000000) (decide := true) (disch := omega) only [EV, ↓reduceIte, Nat.reduceAdd, tt3, encK_f, L5, encV_f, encB_f8]
        refine lq_nil ?_
        refine h32 _ _ ?_
        refine cw_block ?_
        refine cw_loopC (X := Nat × (Nat → Sl × List UInt8)) [(4, _), (11, _), (18, _), (20, _), (21, _), (22, _), (24, _), (26, _), (27, _)] (fun x => [(28, .int .i64 (x.1 : Int))]) (fun x w => (x.1 ≤ 5 ∧ Len5 (snapB 2 S).length x.2 ∧ (∀ j, j < x.1 → (x.2 j).2.take (snapB 2 S).length = List.replicate (snapB 2 S).length (UInt8.ofNat (1 + j))) ∧ ∀ j, j < 4 → (x.2 j).2.length = (snapB 2 S).length) ∧ Own (AllR x.2 :: Os 23 encV (.slice (some ⟨b205, 0, none⟩) 5 5) ((List.range 5).map fun j => (x.2 j).1) :: StoreAt p S :: StoreAt p2 (restamp 5 S) :: Os 5 encB (.slice ao8 (snapB 2 S).length c8) (snapB 2 S) :: Os 48 encK (.slice aoK l1.length cK) l1 :: KeysR l1 :: F) w) (fun x => 5 - x.1) (0, five ((ao3, (snapB 2 S).length, c3), snapB 2 S) ((ao5, (snapB 2 S).length, c5), snapB 2 S) ((ao9, (snapB 2 S).length, c9), snapB 2 S) ((ao10, (snapB 2 S).length, c10), snapB 2 S) ((ao7, (snapB 2 S).length + 2, c7), snapB 2 S ++ [161, 162])) (.c rfl (.c rfl (.c rfl (.c rfl (.c rfl (.c rfl (.c rfl (.c rfl (.c rfl .n))))))))) (.c rfl .n) ⟨⟨Nat.zero_le _, five_len ⟨rfl, Nat.le_refl _⟩ ⟨rfl, Nat.le_refl _⟩ ⟨rfl, Nat.le_refl _⟩ ⟨rfl, Nat.le_refl _⟩ ⟨by simp, by simp⟩, fun j hj => absurd hj (Nat.not_lt_zero _), five_l4 rfl rfl rfl rfl⟩, H⟩ ?_
        rintro ⟨i, f⟩ w ⟨⟨hi5, hlen, hdn, hl4⟩, H⟩
        simp only [List.cons_append, List.nil_append]
        simp only at hi5 hlen hdn hl4 H ⊢
        refine cw_seq (fun K33 h33 => ?_)
        refine cw_seq (fun K34 h34 => ?_)
        refine cw_region (lq_run ?_)
        simp (maxSteps := 5000000) (decide := true) (disch := omega) only [EV, ↓reduceIte, Nat.reduceAdd, tt3, encK_f, L5, encV_f, encB_f8]
        refine lq_nil ?_
        refine h34 _ _ ?_
        refine cw_condB rfl (fun c209 => ?_) (fun c209 => ?_)
        · skip
          try simp only [HB] at c209
          refine cw_skip ?_
          refine h33 _ _ ?_
          refine cw_seq (fun K35 h35 => ?_)
          refine cw_block ?_
          refine cw_seq (fun K36 h36 => ?_)
          refine cw_region (lq_run ?_)
          obtain ⟨⟨⟨ra, rl, rc⟩, rx⟩, hfi⟩ : ∃ y, f i = y := ⟨_, rfl⟩
          have hL := hlen i (by omega)
          rw [hfi] at hL
          simp only at hL
          obtain rfl : rl = rx.length := hL.1
          have H2 := H.allTake (i := i) (by omega)
          rw [hfi] at H2
          replace H : Own (Os 5 encB (.slice ra rx.length rc) rx :: rest5 i f :: Os 23 encV (.slice (some ⟨b205, 0, none⟩) 5 5) ((List.range 5).map fun j => (f j).1) :: StoreAt p S :: StoreAt p2 (restamp 5 S) :: Os 5 encB (.slice ao8 (snapB 2 S).length c8) (snapB 2 S) :: Os 48 encK (.slice aoK l1.length cK) l1 :: KeysR l1 :: F) w := H2
          have hrl := hL.2
          have hr4 : i < 4 → rx.length = (snapB 2 S).length := fun q => by have := hl4 i q; rwa [hfi] at this
          simp (maxSteps := 5000000) (decide := true) (disch := omega) only [EV, ↓reduceIte, Nat.reduceAdd, tt3, encK_f, L5, encV_f, encB_f8]
          refine lq_nil ?_
          refine h36 _ _ ?_
          refine cw_block ?_
          refine cw_loopC (X := Nat × List UInt8) [(4, _), (11, _), (18, _), (20, _), (21, _), (22, _), (24, _), (26, _), (27, _), (28, _), (206, _), (207, _), (208, _), (209, _)] (fun x => [(29, .int .i64 (x.1 : Int))]) (fun x w => (x.1 ≤ (snapB 2 S).length ∧ x.2.length = rx.length ∧ x.2.take x.1 = List.replicate x.1 (UInt8.ofNat (1 + i))) ∧ Own (Os 5 encB (.slice ra rx.length rc) x.2 :: rest5 i f :: Os 23 encV (.slice (some ⟨b205, 0, none⟩) 5 5) ((List.range 5).map fun j => (f j).1) :: StoreAt p S :: StoreAt p2 (restamp 5 S) :: Os 5 encB (.slice ao8 (snapB 2 S).length c8) (snapB 2 S) :: Os 48 encK (.slice aoK l1.length cK) l1 :: KeysR l1 :: F) w) (fun x => (snapB 2 S).length - x.1) (0, rx) (.c rfl (.c rfl (.c rfl (.c rfl (.c rfl (.c rfl (.c rfl (.c rfl (.c rfl (.c rfl (.c rfl (.c rfl (.c rfl (.c rfl .n)))))))))))))) (.c rfl .n) ⟨⟨Nat.zero_le _, rfl, rfl⟩, H⟩ ?_
          rintro ⟨k, ys⟩ w ⟨⟨hk, hyl, hyt⟩, H⟩
          simp only [List.cons_append, List.nil_append]
          simp only at hk hyl hyt H ⊢
          refine cw_seq (fun K37 h37 => ?_)
          refine cw_seq (fun K38 h38 => ?_)
          refine cw_region (lq_run ?_)
          simp (maxSteps := 5000000) (decide := true) (disch := omega) only [EV, ↓reduceIte, Nat.reduceAdd, tt3, encK_f, L5, encV_f, encB_f8]
          refine lq_nil ?_
          refine h38 _ _ ?_
          refine cw_condB rfl (fun c214 => ?_) (fun c214 => ?_)
          · skip
            try simp only [HB] at c214
            refine cw_skip ?_
            refine h37 _ _ ?_
            refine cw_seq (fun K39 h39 => ?_)
            refine cw_block ?_
            refine cw_region (lq_run ?_)
            simp (maxSteps := 5000000) (decide := true) (disch := omega) only [EV, ↓reduceIte, Nat.reduceAdd, tt3, encK_f, L5, encV_f, encB_f8]
            refine lq_idx (i' := i) H rfl rfl (Ent.os (L := []) (T := 23) (enc := encV) (n := 5) (c := 5) (xs := (List.range 5).map fun j => (f j).1)) (by simp) rfl (show _ = some (ra, rx.length, rc) by rw [firsts_at (by omega), hfi]) ?_
            simp (maxSteps := 5000000) (decide := true) (disch := omega) only [EV, ↓reduceIte, Nat.reduceAdd, tt3, encK_f, L5, encV_f, encB_f8]
            refine lq_loadE H rfl (Ent.os (L := []) (T := 23) (enc := encV) (n := 5) (c := 5) (xs := (List.range 5).map fun j => (f j).1)) (show _ = some (ra, rx.length, rc) by rw [firsts_at (by omega), hfi]) rfl ?_
            simp (maxSteps := 5000000) (decide := true) (disch := omega) only [EV, ↓reduceIte, Nat.reduceAdd, tt3, encK_f, L5, encV_f, encB_f8]
            refine lq_idx (i' := k) H rfl rfl (Ent.os (L := []) (T := 5) (enc := encB) (n := rx.length) (c := rc) (xs := ys)) (by omega) rfl (List.getElem?_eq_getElem (show k < ys.length by omega)) ?_
            simp (maxSteps := 5000000) (decide := true) (disch := omega) only [EV, ↓reduceIte, Nat.reduceAdd, tt3, encK_f, L5, encV_f, encB_f8]
            refine lq_stO (T := 5) (enc := encB) (n := rx.length) (c := rc) (xs := ys) (i := k) (UInt8.ofNat (1 + i)) H rfl rfl rfl (enc8 (by omega) (by omega)) rfl (by omega) (fun w H => ?_)
            simp (maxSteps := 5000000) (decide := true) (disch := omega) only [EV, ↓reduceIte, Nat.reduceAdd, tt3, encK_f, L5, encV_f, encB_f8]
            refine lq_nil ?_
            refine h39 _ _ ?_
            refine cw_region (lq_run ?_)
            simp (maxSteps := 5000000) (decide := true) (disch := omega) only [EV, ↓reduceIte, Nat.reduceAdd, tt3, encK_f, L5, encV_f, encB_f8]
            refine lq_nil ?_
            refine Exists.intro (k + 1, ys.set k (UInt8.ofNat (1 + i))) ⟨⟨(.c rfl .n), (.c rfl (.c rfl (.c rfl (.c rfl (.c rfl (.c rfl (.c rfl (.c rfl (.c rfl (.c rfl (.c rfl (.c rfl (.c rfl (.c rfl .n))))))))))))))⟩, ⟨⟨by omega, by rw [List.length_set]; exact hyl, take_set_rep hyt (by omega)⟩, H⟩, (by simp only; omega)⟩
          · skip
            try simp only [HB] at c214
            refine cw_exit ?_
            refine h35 _ _ ?_
            refine cw_region (lq_run ?_)
            simp (maxSteps := 5000000) (decide := true) (disch := omega) only [EV, ↓reduceIte, Nat.reduceAdd, tt3, encK_f, L5, encV_f, encB_f8]
            refine lq_nil ?_
            refine Exists.intro (i + 1, upd f i ((ra, rx.length, rc), ys)) ⟨⟨(.c rfl .n), (.c rfl (.c rfl (.c rfl (.c rfl (.c rfl (.c rfl (.c rfl (.c rfl (.c rfl .n)))))))))⟩, ⟨⟨by omega, upd_len hlen hyl.symm (by simp only; omega), upd_done (g := fun j => UInt8.ofNat (1 + j)) hdn (done_at hyt (by omega)), upd_l4 hl4 (fun q => by simp only; rw [hyl]; exact hr4 q)⟩, by rw [firsts_upd (by rw [hfi])]; exact Own.allPut (s := (ra, rx.length, rc)) H (by omega)⟩, (by simp only; omega)⟩
        · skip
          try simp only [HB] at c209
          refine cw_exit ?_
          refine h31 _ _ ?_
          refine cw_seq (fun K40 h40 => ?_)
          refine cw_seq (fun K41 h41 => ?_)
          refine cw_region (lq_run ?_)
          simp (maxSteps := 5000000) (decide := true) (disch := omega) only [EV, ↓reduceIte, Nat.reduceAdd, tt3, encK_f, L5, encV_f, encB_f8]
          refine lq_nil ?_
          refine h41 _ _ ?_
          refine cw_block ?_
          refine cw_loopC (X := Nat × (Nat → Sl × List UInt8)) [(4, _), (11, _), (18, _), (20, _), (21, _), (22, _), (24, _), (26, _), (27, _)] (fun x => [(30, .int .i64 (x.1 : Int))]) (fun x w => (x.1 ≤ 4 ∧ (∀ j, j < 5 → (x.2 j).1.2.1 = (x.2 j).2.length) ∧ (∀ j, j < x.1 → (x.2 j).2 = List.replicate (snapB 2 S).length (UInt8.ofNat (1 + j)) ++ List.replicate 80 (UInt8.ofNat (101 + j))) ∧ ∀ j, x.1 ≤ j → j < 4 → (x.2 j).2 = List.replicate (snapB 2 S).length (UInt8.ofNat (1 + j))) ∧ Own (AllR x.2 :: Os 23 encV (.slice (some ⟨b205, 0, none⟩) 5 5) ((List.range 5).map fun j => (x.2 j).1) :: StoreAt p S :: StoreAt p2 (restamp 5 S) :: Os 5 encB (.slice ao8 (snapB 2 S).length c8) (snapB 2 S) :: Os 48 encK (.slice aoK l1.length cK) l1 :: KeysR l1 :: F) w) (fun x => 4 - x.1) (0, f) (.c rfl (.c rfl (.c rfl (.c rfl (.c rfl (.c rfl (.c rfl (.c rfl (.c rfl .n))))))))) (.c rfl .n) ⟨⟨Nat.zero_le _, fun j hj => (hlen j hj).1, fun j hj => absurd hj (Nat.not_lt_zero _), fun j _ hj => rep_of (hdn j (by omega)) (hl4 j hj)⟩, H⟩ ?_
          rintro ⟨i, f⟩ w ⟨⟨hi4, hln, hdone, htodo⟩, H⟩
          simp only [List.cons_append, List.nil_append]
          simp only at hi4 hln hdone htodo H ⊢
          refine cw_seq (fun K42 h42 => ?_)
          refine cw_seq (fun K43 h43 => ?_)
          refine cw_region (lq_run ?_)
          simp (maxSteps := 5000000) (decide := true) (disch := omega) only [EV, ↓reduceIte, Nat.reduceAdd, tt3, encK_f, L5, encV_f, encB_f8]
          refine lq_nil ?_
          refine h43 _ _ ?_
          refine cw_condB rfl (fun c227 => ?_) (fun c227 => ?_)
          · skip
            try simp only [HB] at c227
            refine cw_skip ?_
            refine h42 _ _ ?_
            refine cw_seq (fun K44 h44 => ?_)
            refine cw_block ?_
            refine cw_seq (fun K45 h45 => ?_)
            refine cw_region (lq_run ?_)
            obtain ⟨⟨⟨ra, rl, rc⟩, rx⟩, hfi⟩ : ∃ y, f i = y := ⟨_, rfl⟩
            have hL := hln i (by omega)
            rw [hfi] at hL
            simp only at hL
            obtain rfl : rl = rx.length := hL
            have H2 := H.allTake (i := i) (by omega)
            rw [hfi] at H2
            replace H : Own (Os 5 encB (.slice ra rx.length rc) rx :: rest5 i f :: Os 23 encV (.slice (some ⟨b205, 0, none⟩) 5 5) ((List.range 5).map fun j => (f j).1) :: StoreAt p S :: StoreAt p2 (restamp 5 S) :: Os 5 encB (.slice ao8 (snapB 2 S).length c8) (snapB 2 S) :: Os 48 encK (.slice aoK l1.length cK) l1 :: KeysR l1 :: F) w := H2
            obtain rfl : rx = List.replicate (snapB 2 S).length (UInt8.ofNat (1 + i)) := by have := htodo i (Nat.le_refl _) (by omega); rwa [hfi] at this
            have hself : ((List.range 5).map fun j => (f j).1).set i (ra, (List.replicate (snapB 2 S).length (UInt8.ofNat (1 + i))).length, rc) = (List.range 5).map fun j => (f j).1 := set_same (by rw [firsts_at (by omega), hfi])
            simp (maxSteps := 5000000) (decide := true) (disch := omega) only [EV, ↓reduceIte, Nat.reduceAdd, tt3, encK_f, L5, encV_f, encB_f8]
            refine lq_nil ?_
            refine h45 _ _ ?_
            refine cw_block ?_
            refine cw_loopC (X := Nat × List UInt8 × (Option Addr × Nat)) [(4, _), (11, _), (18, _), (20, _), (21, _), (22, _), (24, _), (26, _), (27, _), (30, _), (226, _), (227, _)] (fun x => [(31, .int .i64 (x.1 : Int))]) (fun x w => (x.1 ≤ 80 ∧ x.2.1 = List.replicate (snapB 2 S).length (UInt8.ofNat (1 + i)) ++ List.replicate x.1 (UInt8.ofNat (101 + i))) ∧ Own (Os 5 encB (.slice x.2.2.1 x.2.1.length x.2.2.2) x.2.1 :: rest5 i f :: Os 23 encV (.slice (some ⟨b205, 0, none⟩) 5 5) (((List.range 5).map fun j => (f j).1).set i (x.2.2.1, x.2.1.length, x.2.2.2)) :: StoreAt p S :: StoreAt p2 (restamp 5 S) :: Os 5 encB (.slice ao8 (snapB 2 S).length c8) (snapB 2 S) :: Os 48 encK (.slice aoK l1.length cK) l1 :: KeysR l1 :: F) w) (fun x => 80 - x.1) (0, List.replicate (snapB 2 S).length (UInt8.ofNat (1 + i)), (ra, rc)) (.c rfl (.c rfl (.c rfl (.c rfl (.c rfl (.c rfl (.c rfl (.c rfl (.c rfl (.c rfl (.c rfl (.c rfl .n)))))))))))) (.c rfl .n) ⟨⟨Nat.zero_le _, by simp⟩, by simp only; rw [hself]; exact H⟩ ?_
            rintro ⟨k, ys, ⟨aor, cr⟩⟩ w ⟨⟨hk, hys⟩, H⟩
            simp only [List.cons_append, List.nil_append]
            simp only at hk hys H ⊢
            have hysl := congrArg List.length hys
            simp only [List.length_append, List.length_replicate] at hysl
            refine cw_seq (fun K46 h46 => ?_)
            refine cw_seq (fun K47 h47 => ?_)
            refine cw_region (lq_run ?_)
            simp (maxSteps := 5000000) (decide := true) (disch := omega) only [EV, ↓reduceIte, Nat.reduceAdd, tt3, encK_f, L5, encV_f, encB_f8]
            refine lq_nil ?_
            refine h47 _ _ ?_
            refine cw_condB rfl (fun c231 => ?_) (fun c231 => ?_)
            · skip
              try simp only [HB] at c231
              refine cw_skip ?_
              refine h46 _ _ ?_
              refine cw_seq (fun K48 h48 => ?_)
              refine cw_block ?_
              refine cw_region (lq_run ?_)
              simp (maxSteps := 5000000) (decide := true) (disch := omega) only [EV, ↓reduceIte, Nat.reduceAdd, tt3, encK_f, L5, encV_f, encB_f8]
              refine lq_idx (i' := i) H rfl rfl (Ent.os (L := []) (T := 23) (enc := encV) (n := 5) (c := 5) (xs := ((List.range 5).map fun j => (f j).1).set i (aor, ys.length, cr))) (by simp) rfl (show _ = some (aor, ys.length, cr) by rw [List.getElem?_set_self (by simp; omega)]) ?_
              simp (maxSteps := 5000000) (decide := true) (disch := omega) only [EV, ↓reduceIte, Nat.reduceAdd, tt3, encK_f, L5, encV_f, encB_f8]
              refine lq_loadE H rfl (Ent.os (L := []) (T := 23) (enc := encV) (n := 5) (c := 5) (xs := ((List.range 5).map fun j => (f j).1).set i (aor, ys.length, cr))) (show _ = some (aor, ys.length, cr) by rw [List.getElem?_set_self (by simp; omega)]) rfl ?_
              simp (maxSteps := 5000000) (decide := true) (disch := omega) only [EV, ↓reduceIte, Nat.reduceAdd, tt3, encK_f, L5, encV_f, encB_f8]
              refine lq_bs H rfl rfl (by rfl) rfl (by decide) (fun b243 w H => ?_)
              try simp only [ES, encK_f, L5, encV_f, encB_f8] at H
              simp (maxSteps := 5000000) (decide := true) (disch := omega) only [EV, ↓reduceIte, Nat.reduceAdd, tt3, encK_f, L5, encV_f, encB_f8]
              refine lq_app1 (enc := encB) (UInt8.ofNat (101 + i)) H rfl rfl (enc8 (by omega) (by omega)).symm (by rw [show encB.n = 1 from rfl]; omega) (fun ao11 c11 w H => ?_)
              simp (maxSteps := 5000000) (decide := true) (disch := omega) only [EV, ↓reduceIte, Nat.reduceAdd, tt3, encK_f, L5, encV_f, encB_f8]
              refine lq_idx (i' := i) H rfl rfl (Ent.os (L := []) (T := 23) (enc := encV) (n := 5) (c := 5) (xs := ((List.range 5).map fun j => (f j).1).set i (aor, ys.length, cr))) (by simp) rfl (show _ = some (aor, ys.length, cr) by rw [List.getElem?_set_self (by simp; omega)]) ?_
              simp (maxSteps := 5000000) (decide := true) (disch := omega) only [EV, ↓reduceIte, Nat.reduceAdd, tt3, encK_f, L5, encV_f, encB_f8]
              refine lq_stO (T := 23) (enc := encV) (n := 5) (c := 5) (xs := ((List.range 5).map fun j => (f j).1).set i (aor, ys.length, cr)) (i := i) (ao11, ys.length + 1, c11) H rfl rfl rfl rfl rfl (by simp; omega) (fun w H => ?_)
              rw [List.set_set] at H
              simp (maxSteps := 5000000) (decide := true) (disch := omega) only [EV, ↓reduceIte, Nat.reduceAdd, tt3, encK_f, L5, encV_f, encB_f8]
              refine lq_nil ?_
              refine h48 _ _ ?_
              refine cw_region (lq_run ?_)
              simp (maxSteps := 5000000) (decide := true) (disch := omega) only [EV, ↓reduceIte, Nat.reduceAdd, tt3, encK_f, L5, encV_f, encB_f8]
              refine lq_nil ?_
              refine Exists.intro (k + 1, ys ++ [UInt8.ofNat (101 + i)], (ao11, c11)) ⟨⟨(.c rfl .n), (.c rfl (.c rfl (.c rfl (.c rfl (.c rfl (.c rfl (.c rfl (.c rfl (.c rfl (.c rfl (.c rfl (.c rfl .n))))))))))))⟩, ⟨⟨by omega, by simp only; rw [hys, List.replicate_succ', List.append_assoc]⟩, by simp only; rw [List.length_append]; exact H.wk⟩, (by simp only; omega)⟩
            · skip
              try simp only [HB] at c231
              refine cw_exit ?_
              refine h44 _ _ ?_
              refine cw_region (lq_run ?_)
              simp (maxSteps := 5000000) (decide := true) (disch := omega) only [EV, ↓reduceIte, Nat.reduceAdd, tt3, encK_f, L5, encV_f, encB_f8]
              refine lq_nil ?_
              refine Exists.intro (i + 1, upd f i ((aor, ys.length, cr), ys)) ⟨⟨(.c rfl .n), (.c rfl (.c rfl (.c rfl (.c rfl (.c rfl (.c rfl (.c rfl (.c rfl (.c rfl .n)))))))))⟩, ⟨⟨by omega, upd_l hln rfl, upd_lt (P := fun j l => l = List.replicate (snapB 2 S).length (UInt8.ofNat (1 + j)) ++ List.replicate 80 (UInt8.ofNat (101 + j))) hdone (by simp only; rw [hys, show k = 80 by omega]), upd_ge (P := fun j l => l = List.replicate (snapB 2 S).length (UInt8.ofNat (1 + j))) htodo⟩, by rw [firsts_set (by omega)]; exact Own.allPut (s := (aor, ys.length, cr)) H (by omega)⟩, (by simp only; omega)⟩
          · skip
            try simp only [HB] at c227
            refine cw_exit ?_
            refine h40 _ _ ?_
            refine cw_seq (fun K49 h49 => ?_)
            refine cw_seq (fun K50 h50 => ?_)
            refine cw_region (lq_run ?_)
            simp (maxSteps := 5000000) (decide := true) (disch := omega) only [EV, ↓reduceIte, Nat.reduceAdd, tt3, encK_f, L5, encV_f, encB_f8]
            refine lq_nil ?_
            refine h50 _ _ ?_
            refine cw_block ?_
            refine cw_loopC (X := Nat) [(11, _), (18, _), (20, _), (21, _), (22, _), (24, _), (26, _), (27, _)] (fun x => [(32, .int .i64 (x : Int))]) (fun x w => x ≤ 4 ∧ Own (AllR f :: Os 23 encV (.slice (some ⟨b205, 0, none⟩) 5 5) ((List.range 5).map fun j => (f j).1) :: StoreAt p S :: StoreAt p2 (restamp 5 S) :: Os 5 encB (.slice ao8 (snapB 2 S).length c8) (snapB 2 S) :: Os 48 encK (.slice aoK l1.length cK) l1 :: KeysR l1 :: F) w) (fun x => 4 - x) 0 (.c rfl (.c rfl (.c rfl (.c rfl (.c rfl (.c rfl (.c rfl (.c rfl .n)))))))) (.c rfl .n) ⟨Nat.zero_le _, H⟩ ?_
            rintro i w ⟨hi4', H⟩
            simp only [List.cons_append, List.nil_append]
            try simp only at H ⊢
            refine cw_seq (fun K51 h51 => ?_)
            refine cw_seq (fun K52 h52 => ?_)
            refine cw_region (lq_run ?_)
            simp (maxSteps := 5000000) (decide := true) (disch := omega) only [EV, ↓reduceIte, Nat.reduceAdd, tt3, encK_f, L5, encV_f, encB_f8]
            refine lq_nil ?_
            refine h52 _ _ ?_
            refine cw_condB rfl (fun c247 => ?_) (fun c247 => ?_)
            · skip
              try simp only [HB] at c247
              refine cw_skip ?_
              refine h51 _ _ ?_
              refine cw_seq (fun K53 h53 => ?_)
              refine cw_block ?_
              refine cw_seq (fun K54 h54 => ?_)
              refine cw_region (lq_run ?_)
              obtain ⟨⟨⟨ra, rl, rc⟩, rx⟩, hfi⟩ : ∃ y, f i = y := ⟨_, rfl⟩
              have hL := hln i (by omega)
              rw [hfi] at hL
              simp only at hL
              obtain rfl : rl = rx.length := hL
              have H2 := H.allTake (i := i) (by omega)
              rw [hfi] at H2
              replace H : Own (Os 5 encB (.slice ra rx.length rc) rx :: rest5 i f :: Os 23 encV (.slice (some ⟨b205, 0, none⟩) 5 5) ((List.range 5).map fun j => (f j).1) :: StoreAt p S :: StoreAt p2 (restamp 5 S) :: Os 5 encB (.slice ao8 (snapB 2 S).length c8) (snapB 2 S) :: Os 48 encK (.slice aoK l1.length cK) l1 :: KeysR l1 :: F) w := H2
              have hrx := hdone i (by omega)
              rw [hfi] at hrx
              simp only at hrx
              have hrxl := congrArg List.length hrx
              simp only [List.length_append, List.length_replicate] at hrxl
              simp (maxSteps := 5000000) (decide := true) (disch := omega) only [EV, ↓reduceIte, Nat.reduceAdd, tt3, encK_f, L5, encV_f, encB_f8]
              refine lq_nil ?_
              refine h54 _ _ ?_
              refine cw_block ?_
              refine cw_loopC (X := Nat) [(11, _), (18, _), (20, _), (21, _), (22, _), (24, _), (26, _), (27, _), (32, _), (246, _), (247, _)] (fun x => [(33, .int .i64 (x : Int))]) (fun x w => x ≤ rx.length ∧ Own (Os 5 encB (.slice ra rx.length rc) rx :: rest5 i f :: Os 23 encV (.slice (some ⟨b205, 0, none⟩) 5 5) ((List.range 5).map fun j => (f j).1) :: StoreAt p S :: StoreAt p2 (restamp 5 S) :: Os 5 encB (.slice ao8 (snapB 2 S).length c8) (snapB 2 S) :: Os 48 encK (.slice aoK l1.length cK) l1 :: KeysR l1 :: F) w) (fun x => rx.length - x) 0 (.c rfl (.c rfl (.c rfl (.c rfl (.c rfl (.c rfl (.c rfl (.c rfl (.c rfl (.c rfl (.c rfl .n))))))))))) (.c rfl .n) ⟨Nat.zero_le _, H⟩ ?_
              rintro k w ⟨hk, H⟩
              simp only [List.cons_append, List.nil_append]
              try simp only at H ⊢
              refine cw_seq (fun K55 h55 => ?_)
              refine cw_seq (fun K56 h56 => ?_)
              refine cw_region (lq_run ?_)
              simp (maxSteps := 5000000) (decide := true) (disch := omega) only [EV, ↓reduceIte, Nat.reduceAdd, tt3, encK_f, L5, encV_f, encB_f8]
              refine lq_idx (i' := i) H rfl rfl (Ent.os (L := []) (T := 23) (enc := encV) (n := 5) (c := 5) (xs := (List.range 5).map fun j => (f j).1)) (by simp) rfl (show _ = some (ra, rx.length, rc) by rw [firsts_at (by omega), hfi]) ?_
              simp (maxSteps := 5000000) (decide := true) (disch := omega) only [EV, ↓reduceIte, Nat.reduceAdd, tt3, encK_f, L5, encV_f, encB_f8]
              refine lq_loadE H rfl (Ent.os (L := []) (T := 23) (enc := encV) (n := 5) (c := 5) (xs := (List.range 5).map fun j => (f j).1)) (show _ = some (ra, rx.length, rc) by rw [firsts_at (by omega), hfi]) rfl ?_
              simp (maxSteps := 5000000) (decide := true) (disch := omega) only [EV, ↓reduceIte, Nat.reduceAdd, tt3, encK_f, L5, encV_f, encB_f8]
              refine lq_nil ?_
              refine h56 _ _ ?_
              refine cw_condB rfl (fun c256 => ?_) (fun c256 => ?_)
              · skip
                try simp only [HB] at c256
                refine cw_skip ?_
                refine h55 _ _ ?_
                refine cw_seq (fun K57 h57 => ?_)
                refine cw_block ?_
                refine cw_seq (fun K58 h58 => ?_)
                refine cw_region (lq_run ?_)
                simp (maxSteps := 5000000) (decide := true) (disch := omega) only [EV, ↓reduceIte, Nat.reduceAdd, tt3, encK_f, L5, encV_f, encB_f8]
                refine lq_G (fun g262 => ?_) (fun g262 => ?_)
                · try simp only [HB] at g262
                  simp (maxSteps := 5000000) (decide := true) (disch := omega) only [EV, ↓reduceIte, Nat.reduceAdd, tt3, encK_f, L5, encV_f, encB_f8]
                  refine lq_idx (i' := i) H rfl rfl (Ent.os (L := []) (T := 23) (enc := encV) (n := 5) (c := 5) (xs := (List.range 5).map fun j => (f j).1)) (by simp) rfl (show _ = some (ra, rx.length, rc) by rw [firsts_at (by omega), hfi]) ?_
                  simp (maxSteps := 5000000) (decide := true) (disch := omega) only [EV, ↓reduceIte, Nat.reduceAdd, tt3, encK_f, L5, encV_f, encB_f8]
                  refine lq_loadE H rfl (Ent.os (L := []) (T := 23) (enc := encV) (n := 5) (c := 5) (xs := (List.range 5).map fun j => (f j).1)) (show _ = some (ra, rx.length, rc) by rw [firsts_at (by omega), hfi]) rfl ?_
                  simp (maxSteps := 5000000) (decide := true) (disch := omega) only [EV, ↓reduceIte, Nat.reduceAdd, tt3, encK_f, L5, encV_f, encB_f8]
                  refine lq_idx (i' := k) H rfl rfl (Ent.os (L := []) (T := 5) (enc := encB) (n := rx.length) (c := rc) (xs := rx)) (Nat.le_refl _) rfl (show rx[k]? = some (UInt8.ofNat (1 + i)) by rw [hrx]; exact rep_lo (by omega)) ?_
                  simp (maxSteps := 5000000) (decide := true) (disch := omega) only [EV, ↓reduceIte, Nat.reduceAdd, tt3, encK_f, L5, encV_f, encB_f8]
                  refine lq_loadE H rfl (Ent.os (L := []) (T := 5) (enc := encB) (n := rx.length) (c := rc) (xs := rx)) (show rx[k]? = some (UInt8.ofNat (1 + i)) by rw [hrx]; exact rep_lo (by omega)) rfl ?_
                  simp only [encB_f8, List.getElem?_cons_zero, toN8 (show 1 + i < 256 by omega)]
                  simp (maxSteps := 5000000) (decide := true) (disch := omega) only [EV, ↓reduceIte, Nat.reduceAdd, tt3, encK_f, L5, encV_f, encB_f8]
                  refine lq_G (fun g275 => ?_) (fun g275 => ?_)
                  · try simp only [HB] at g275
                    simp (maxSteps := 5000000) (decide := true) (disch := omega) only [EV, ↓reduceIte, Nat.reduceAdd, tt3, encK_f, L5, encV_f, encB_f8]
                    refine lq_nil ?_
                    refine h58 _ _ ?_
                    refine cw_condT rfl ?_
                    refine cw_seq (fun K59 h59 => ?_)
                    refine cw_region (lq_run ?_)
                    simp (maxSteps := 5000000) (decide := true) (disch := omega) only [EV, ↓reduceIte, Nat.reduceAdd, tt3, encK_f, L5, encV_f, encB_f8]
                    refine lq_nil ?_
                    refine h59 _ _ ?_
                    refine cw_ret ?_
                    try simp (decide := true) only [EX, ↓reduceIte]
                    refine ret1 rfl ?_
                    first | exact ⟨rfl, H.wk⟩ | exact absurd trivial ‹¬True› | exact absurd ‹false = true› (by decide) | (rcases hs0 with q | q <;> contradiction) | (exfalso; omega)
                  · try simp only [HB] at g275
                    simp (maxSteps := 5000000) (decide := true) (disch := omega) only [EV, ↓reduceIte, Nat.reduceAdd, tt3, encK_f, L5, encV_f, encB_f8]
                    refine lq_G (fun g279 => ?_) (fun g279 => ?_)
                    · try simp only [HB] at g279
                      simp (maxSteps := 5000000) (decide := true) (disch := omega) only [EV, ↓reduceIte, Nat.reduceAdd, tt3, encK_f, L5, encV_f, encB_f8]
                      refine lq_idx (i' := i) H rfl rfl (Ent.os (L := []) (T := 23) (enc := encV) (n := 5) (c := 5) (xs := (List.range 5).map fun j => (f j).1)) (by simp) rfl (show _ = some (ra, rx.length, rc) by rw [firsts_at (by omega), hfi]) ?_
                      simp (maxSteps := 5000000) (decide := true) (disch := omega) only [EV, ↓reduceIte, Nat.reduceAdd, tt3, encK_f, L5, encV_f, encB_f8]
                      refine lq_loadE H rfl (Ent.os (L := []) (T := 23) (enc := encV) (n := 5) (c := 5) (xs := (List.range 5).map fun j => (f j).1)) (show _ = some (ra, rx.length, rc) by rw [firsts_at (by omega), hfi]) rfl ?_
                      simp (maxSteps := 5000000) (decide := true) (disch := omega) only [EV, ↓reduceIte, Nat.reduceAdd, tt3, encK_f, L5, encV_f, encB_f8]
                      refine lq_idx (i' := k) H rfl rfl (Ent.os (L := []) (T := 5) (enc := encB) (n := rx.length) (c := rc) (xs := rx)) (Nat.le_refl _) rfl (show rx[k]? = some (UInt8.ofNat (101 + i)) by rw [hrx]; exact rep_hi (by omega) (by omega)) ?_
                      simp (maxSteps := 5000000) (decide := true) (disch := omega) only [EV, ↓reduceIte, Nat.reduceAdd, tt3, encK_f, L5, encV_f, encB_f8]
                      refine lq_loadE H rfl (Ent.os (L := []) (T := 5) (enc := encB) (n := rx.length) (c := rc) (xs := rx)) (show rx[k]? = some (UInt8.ofNat (101 + i)) by rw [hrx]; exact rep_hi (by omega) (by omega)) rfl ?_
                      simp only [encB_f8, List.getElem?_cons_zero, toN8 (show 101 + i < 256 by omega)]
                      simp (maxSteps := 5000000) (decide := true) (disch := omega) only [EV, ↓reduceIte, Nat.reduceAdd, tt3, encK_f, L5, encV_f, encB_f8]
                      refine lq_nil ?_
                      refine h58 _ _ ?_
                      refine cw_condB rfl (fun c292 => ?_) (fun c292 => ?_)
                      · skip
                        try simp only [HB] at c292
                        refine cw_seq (fun K60 h60 => ?_)
                        refine cw_region (lq_run ?_)
                        simp (maxSteps := 5000000) (decide := true) (disch := omega) only [EV, ↓reduceIte, Nat.reduceAdd, tt3, encK_f, L5, encV_f, encB_f8]
                        refine lq_nil ?_
                        refine h60 _ _ ?_
                        refine cw_ret ?_
                        try simp (decide := true) only [EX, ↓reduceIte]
                        refine ret1 rfl ?_
                        first | exact ⟨rfl, H.wk⟩ | exact absurd trivial ‹¬True› | exact absurd ‹false = true› (by decide) | (rcases hs0 with q | q <;> contradiction) | (exfalso; omega)
                      · skip
                        try simp only [HB] at c292
                        refine cw_skip ?_
                        refine h57 _ _ ?_
                        refine cw_region (lq_run ?_)
                        simp (maxSteps := 5000000) (decide := true) (disch := omega) only [EV, ↓reduceIte, Nat.reduceAdd, tt3, encK_f, L5, encV_f, encB_f8]
                        refine lq_nil ?_
                        refine Exists.intro (k + 1) ⟨⟨(.c rfl .n), (.c rfl (.c rfl (.c rfl (.c rfl (.c rfl (.c rfl (.c rfl (.c rfl (.c rfl (.c rfl (.c rfl .n)))))))))))⟩, ⟨by omega, H⟩, (by omega)⟩
                    · try simp only [HB] at g279
                      simp (maxSteps := 5000000) (decide := true) (disch := omega) only [EV, ↓reduceIte, Nat.reduceAdd, tt3, encK_f, L5, encV_f, encB_f8]
                      refine lq_nil ?_
                      refine h58 _ _ ?_
                      refine cw_condF rfl ?_
                      refine cw_skip ?_
                      refine h57 _ _ ?_
                      refine cw_region (lq_run ?_)
                      simp (maxSteps := 5000000) (decide := true) (disch := omega) only [EV, ↓reduceIte, Nat.reduceAdd, tt3, encK_f, L5, encV_f, encB_f8]
                      refine lq_nil ?_
                      refine Exists.intro (k + 1) ⟨⟨(.c rfl .n), (.c rfl (.c rfl (.c rfl (.c rfl (.c rfl (.c rfl (.c rfl (.c rfl (.c rfl (.c rfl (.c rfl .n)))))))))))⟩, ⟨by omega, H⟩, (by omega)⟩
                · try simp only [HB] at g262
                  simp (maxSteps := 5000000) (decide := true) (disch := omega) only [EV, ↓reduceIte, Nat.reduceAdd, tt3, encK_f, L5, encV_f, encB_f8]
                  refine lq_G (fun g279 => ?_) (fun g279 => ?_)
                  · try simp only [HB] at g279
                    simp (maxSteps := 5000000) (decide := true) (disch := omega) only [EV, ↓reduceIte, Nat.reduceAdd, tt3, encK_f, L5, encV_f, encB_f8]
                    refine lq_idx (i' := i) H rfl rfl (Ent.os (L := []) (T := 23) (enc := encV) (n := 5) (c := 5) (xs := (List.range 5).map fun j => (f j).1)) (by simp) rfl (show _ = some (ra, rx.length, rc) by rw [firsts_at (by omega), hfi]) ?_
                    simp (maxSteps := 5000000) (decide := true) (disch := omega) only [EV, ↓reduceIte, Nat.reduceAdd, tt3, encK_f, L5, encV_f, encB_f8]
                    refine lq_loadE H rfl (Ent.os (L := []) (T := 23) (enc := encV) (n := 5) (c := 5) (xs := (List.range 5).map fun j => (f j).1)) (show _ = some (ra, rx.length, rc) by rw [firsts_at (by omega), hfi]) rfl ?_
                    simp (maxSteps := 5000000) (decide := true) (disch := omega) only [EV, ↓reduceIte, Nat.reduceAdd, tt3, encK_f, L5, encV_f, encB_f8]
                    refine lq_idx (i' := k) H rfl rfl (Ent.os (L := []) (T := 5) (enc := encB) (n := rx.length) (c := rc) (xs := rx)) (Nat.le_refl _) rfl (show rx[k]? = some (UInt8.ofNat (101 + i)) by rw [hrx]; exact rep_hi (by omega) (by omega)) ?_
                    simp (maxSteps := 5000000) (decide := true) (disch := omega) only [EV, ↓reduceIte, Nat.reduceAdd, tt3, encK_f, L5, encV_f, encB_f8]
                    refine lq_loadE H rfl (Ent.os (L := []) (T := 5) (enc := encB) (n := rx.length) (c := rc) (xs := rx)) (show rx[k]? = some (UInt8.ofNat (101 + i)) by rw [hrx]; exact rep_hi (by omega) (by omega)) rfl ?_
                    simp only [encB_f8, List.getElem?_cons_zero, toN8 (show 101 + i < 256 by omega)]
                    simp (maxSteps := 5000000) (decide := true) (disch := omega) only [EV, ↓reduceIte, Nat.reduceAdd, tt3, encK_f, L5, encV_f, encB_f8]
                    refine lq_nil ?_
                    refine h58 _ _ ?_
                    refine cw_condB rfl (fun c292 => ?_) (fun c292 => ?_)
                    · skip
                      try simp only [HB] at c292
                      refine cw_seq (fun K61 h61 => ?_)
                      refine cw_region (lq_run ?_)
                      simp (maxSteps := 5000000) (decide := true) (disch := omega) only [EV, ↓reduceIte, Nat.reduceAdd, tt3, encK_f, L5, encV_f, encB_f8]
                      refine lq_nil ?_
                      refine h61 _ _ ?_
                      refine cw_ret ?_
                      try simp (decide := true) only [EX, ↓reduceIte]
                      refine ret1 rfl ?_
                      first | exact ⟨rfl, H.wk⟩ | exact absurd trivial ‹¬True› | exact absurd ‹false = true› (by decide) | (rcases hs0 with q | q <;> contradiction) | (exfalso; omega)
                    · skip
                      try simp only [HB] at c292
                      refine cw_skip ?_
                      refine h57 _ _ ?_
                      refine cw_region (lq_run ?_)
                      simp (maxSteps := 5000000) (decide := true) (disch := omega) only [EV, ↓reduceIte, Nat.reduceAdd, tt3, encK_f, L5, encV_f, encB_f8]
                      refine lq_nil ?_
                      refine Exists.intro (k + 1) ⟨⟨(.c rfl .n), (.c rfl (.c rfl (.c rfl (.c rfl (.c rfl (.c rfl (.c rfl (.c rfl (.c rfl (.c rfl (.c rfl .n)))))))))))⟩, ⟨by omega, H⟩, (by omega)⟩
                  · try simp only [HB] at g279
                    simp (maxSteps := 5000000) (decide := true) (disch := omega) only [EV, ↓reduceIte, Nat.reduceAdd, tt3, encK_f, L5, encV_f, encB_f8]
                    refine lq_nil ?_
                    refine h58 _ _ ?_
                    refine cw_condF rfl ?_
                    refine cw_skip ?_
                    refine h57 _ _ ?_
                    refine cw_region (lq_run ?_)
                    simp (maxSteps := 5000000) (decide := true) (disch := omega) only [EV, ↓reduceIte, Nat.reduceAdd, tt3, encK_f, L5, encV_f, encB_f8]
                    refine lq_nil ?_
                    refine Exists.intro (k + 1) ⟨⟨(.c rfl .n), (.c rfl (.c rfl (.c rfl (.c rfl (.c rfl (.c rfl (.c rfl (.c rfl (.c rfl (.c rfl (.c rfl .n)))))))))))⟩, ⟨by omega, H⟩, (by omega)⟩
              · skip
                try simp only [HB] at c256
                refine cw_exit ?_
                refine h53 _ _ ?_
                refine cw_region (lq_run ?_)
                simp (maxSteps := 5000000) (decide := true) (disch := omega) only [EV, ↓reduceIte, Nat.reduceAdd, tt3, encK_f, L5, encV_f, encB_f8]
                refine lq_nil ?_
                refine Exists.intro (i + 1) ⟨⟨(.c rfl .n), (.c rfl (.c rfl (.c rfl (.c rfl (.c rfl (.c rfl (.c rfl (.c rfl .n))))))))⟩, ⟨by omega, by have HH := Own.allPut (f := f) (s := (ra, rx.length, rc)) (xs := rx) (i := i) H (by omega); rwa [upd_self hfi] at HH⟩, (by omega)⟩
            · skip
              try simp only [HB] at c247
              refine cw_exit ?_
              refine h49 _ _ ?_
              refine cw_seq (fun K62 h62 => ?_)
              refine cw_region (lq_run ?_)
              simp (maxSteps := 5000000) (decide := true) (disch := omega) only [EV, ↓reduceIte, Nat.reduceAdd, tt3, encK_f, L5, encV_f, encB_f8]
              replace H : Own (StoreAt p S :: StoreAt p2 (restamp 5 S) :: Os 5 encB (.slice ao8 (snapB 2 S).length c8) (snapB 2 S) :: Os 48 encK (.slice aoK l1.length cK) l1 :: KeysR l1 :: F) w := H.wk
              refine lq_call rfl ?_
              refine Cl.mono (Build_good (H.tkR (R := StoreAt) (k := p2)) hfR.wf (by omega) (by omega) (by omega)) ?_
              rintro _ w ⟨ao12, c12, rfl, H⟩
              rw [restamp_bytes] at H ⊢
              simp (maxSteps := 5000000) (decide := true) (disch := omega) only [EV, ↓reduceIte, Nat.reduceAdd, tt3, encK_f, L5, encV_f, encB_f8]
              refine lq_nil ?_
              refine h62 _ _ ?_
              refine cw_seq (fun K63 h63 => ?_)
              refine cw_region (lq_run ?_)
              simp (maxSteps := 5000000) (decide := true) (disch := omega) only [EV, ↓reduceIte, Nat.reduceAdd, tt3, encK_f, L5, encV_f, encB_f8]
              refine lq_call rfl ?_
              refine Cl.mono (Build_good (H.tkR (R := StoreAt) (k := p)) hf.wf (by omega) (by omega) hbd) ?_
              rintro _ w ⟨ao13, c13, rfl, H⟩
              simp (maxSteps := 5000000) (decide := true) (disch := omega) only [EV, ↓reduceIte, Nat.reduceAdd, tt3, encK_f, L5, encV_f, encB_f8]
              refine lq_nil ?_
              refine h63 _ _ ?_
              refine cw_seq (fun K64 h64 => ?_)
              refine cw_region (lq_run ?_)
              simp (maxSteps := 5000000) (decide := true) (disch := omega) only [EV, ↓reduceIte, Nat.reduceAdd, tt3, encK_f, L5, encV_f, encB_f8]
              refine lq_call rfl ?_
              refine Cl.mono (same_ok H (Ent.up (M := Os 5 encB (.slice ao12 (snapB 2 S).length c12) (snapB 2 S) :: []) Ent.os) rfl (Ent.up (M := Os 5 encB (.slice ao8 (snapB 2 S).length c8) (snapB 2 S) :: []) Ent.os) rfl) ?_
              rintro _ w ⟨rfl, H⟩
              rw [show decide (snapB 2 S = snapB 2 S) = true from decide_eq_true rfl]
              simp (maxSteps := 5000000) (decide := true) (disch := omega) only [EV, ↓reduceIte, Nat.reduceAdd, tt3, encK_f, L5, encV_f, encB_f8]
              refine lq_call rfl ?_
              refine Cl.mono (same_ok H (Ent.up (M := Os 5 encB (.slice ao13 (snapB 2 S).length c13) (snapB 2 S) :: []) Ent.os) rfl (Ent.up (M := Os 5 encB (.slice ao8 (snapB 2 S).length c8) (snapB 2 S) :: []) Ent.os) rfl) ?_
              rintro _ w ⟨rfl, H⟩
              rw [show decide (snapB 2 S = snapB 2 S) = true from decide_eq_true rfl]
              simp (maxSteps := 5000000) (decide := true) (disch := omega) only [EV, ↓reduceIte, Nat.reduceAdd, tt3, encK_f, L5, encV_f, encB_f8]
              refine lq_call rfl ?_
              refine Cl.mono (Kept_ok (H.tkR (R := StoreAt) (k := p2)) hfR.V (fun x hx => by have := hfR.K x hx; omega)) ?_
              rintro _ w ⟨l3, aoP, cP, rfl, h3, H⟩
              simp (maxSteps := 5000000) (decide := true) (disch := omega) only [EV, ↓reduceIte, Nat.reduceAdd, tt3, encK_f, L5, encV_f, encB_f8]
              refine lq_call rfl ?_
              refine Cl.mono (sameKeptT_ok H (Ent.up (M := Os 48 encK (.slice aoK l1.length cK) l1 :: []) Ent.os) rfl (Ent.up (M := Os 48 encK (.slice aoP l3.length cP) l3 :: []) Ent.os) rfl (fun x hx => (KeysR.ent (L := []) hx).up) (fun x hx => (KeysR.ent (L := []) hx).up) (len_eq h1 h3 rfl) hK1.1 hK1.2 (fun i x y hx hy => same_get h1 h3 hx hy)) ?_
              rintro _ w ⟨rfl, H⟩
              simp (maxSteps := 5000000) (decide := true) (disch := omega) only [EV, ↓reduceIte, Nat.reduceAdd, tt3, encK_f, L5, encV_f, encB_f8]
              refine lq_nil ?_
              refine h64 _ _ ?_
              refine cw_ret ?_
              try simp (decide := true) only [EX, ↓reduceIte]
              refine ret1 rfl ?_
              first | exact ⟨rfl, H.wk⟩ | exact absurd trivial ‹¬True› | exact absurd ‹false = true› (by decide) | (rcases hs0 with q | q <;> contradiction) | (exfalso; omega)
  · skip
    try simp only [HB] at c47
    obtain ⟨hs0, rfl, rfl, H⟩ : (e = 90 ∨ e = 2) ∧ g = 0 ∧ pt = none ∧ Own F w := by
      rcases hM with ⟨er, q, q1, q2, rfl, H⟩ | ⟨S0, p0, q, q1, q2, H⟩
      · exact ⟨snapOf_err q, q1, q2, H⟩
      · exact absurd q2 c47
    clear hM
    refine cw_seq (fun K65 h65 => ?_)
    refine cw_region (lq_run ?_)
    simp (maxSteps := 5000000) (decide := true) (disch := omega) only [EV, ↓reduceIte, Nat.reduceAdd, tt3, encK_f, L5, encV_f, encB_f8]
    refine lq_G (fun g79 => ?_) (fun g79 => ?_)
    · try simp only [HB] at g79
      simp (maxSteps := 5000000) (decide := true) (disch := omega) only [EV, ↓reduceIte, Nat.reduceAdd, tt3, encK_f, L5, encV_f, encB_f8]
      refine lq_nil ?_
      refine h65 _ _ ?_
      refine cw_condB rfl (fun c83 => ?_) (fun c83 => ?_)
      · skip
        try simp only [HB] at c83
        refine cw_seq (fun K66 h66 => ?_)
        refine cw_region (lq_run ?_)
        simp (maxSteps := 5000000) (decide := true) (disch := omega) only [EV, ↓reduceIte, Nat.reduceAdd, tt3, encK_f, L5, encV_f, encB_f8]
        refine lq_nil ?_
        refine h66 _ _ ?_
        refine cw_ret ?_
        try simp (decide := true) only [EX, ↓reduceIte]
        refine ret1 rfl ?_
        first | exact ⟨rfl, H.wk⟩ | exact absurd trivial ‹¬True› | exact absurd ‹false = true› (by decide) | (rcases hs0 with q | q <;> contradiction) | (exfalso; omega)
      · skip
        try simp only [HB] at c83
        refine cw_skip ?_
        refine h6 _ _ ?_
        refine cw_seq (fun K67 h67 => ?_)
        refine cw_region (lq_run ?_)
        simp (maxSteps := 5000000) (decide := true) (disch := omega) only [EV, ↓reduceIte, Nat.reduceAdd, tt3, encK_f, L5, encV_f, encB_f8]
        replace H : Own F w := H.wk
        refine lq_call rfl ?_
        refine Cl.mono (made_ok H hR1 rfl hS1 hb1) ?_
        rintro _ w ⟨p, rfl, H⟩
        have hf := Fits.run hS1
        obtain ⟨S, hSS⟩ : ∃ S, S = runS ⟨[], []⟩ ops := ⟨_, rfl⟩
        rw [← hSS] at H hf
        have hbd := hf.body 2
        have hsl := snapB_length 2 S
        have hsl2 := bodyB_len 2 S
        have hfR := hf.restamp (now := 5) (by omega)
        have hlR := len_restamp 5 2 S
        simp (maxSteps := 5000000) (decide := true) (disch := omega) only [EV, ↓reduceIte, Nat.reduceAdd, tt3, encK_f, L5, encV_f, encB_f8]
        refine lq_nil ?_
        refine h67 _ _ ?_
        refine cw_seq (fun K68 h68 => ?_)
        refine cw_seq (fun K69 h69 => ?_)
        refine cw_region (lq_run ?_)
        simp (maxSteps := 5000000) (decide := true) (disch := omega) only [EV, ↓reduceIte, Nat.reduceAdd, tt3, encK_f, L5, encV_f, encB_f8]
        refine lq_nil ?_
        refine h69 _ _ ?_
        refine cw_condF rfl ?_
        refine cw_skip ?_
        refine h68 _ _ ?_
        refine cw_seq (fun K70 h70 => ?_)
        refine cw_region (lq_run ?_)
        simp (maxSteps := 5000000) (decide := true) (disch := omega) only [EV, ↓reduceIte, Nat.reduceAdd, tt3, encK_f, L5, encV_f, encB_f8]
        refine lq_call rfl ?_
        refine Cl.mono (Build_good H hf.wf (by omega) (by omega) hbd) ?_
        rintro _ w ⟨ao3, c3, rfl, H⟩
        simp (maxSteps := 5000000) (decide := true) (disch := omega) only [EV, ↓reduceIte, Nat.reduceAdd, tt3, encK_f, L5, encV_f, encB_f8]
        refine lq_nil ?_
        refine h70 _ _ ?_
        refine cw_seq (fun K71 h71 => ?_)
        refine cw_region (lq_run ?_)
        simp (maxSteps := 5000000) (decide := true) (disch := omega) only [EV, ↓reduceIte, Nat.reduceAdd, tt3, encK_f, L5, encV_f, encB_f8]
        refine lq_call rfl ?_
        refine Cl.mono (Build_good (H.tkR (R := StoreAt) (k := p)) hf.wf (by omega) (by omega) hbd) ?_
        rintro _ w ⟨ao5, c5, rfl, H⟩
        simp (maxSteps := 5000000) (decide := true) (disch := omega) only [EV, ↓reduceIte, Nat.reduceAdd, tt3, encK_f, L5, encV_f, encB_f8]
        refine lq_nil ?_
        refine h71 _ _ ?_
        refine cw_seq (fun K72 h72 => ?_)
        refine cw_seq (fun K73 h73 => ?_)
        refine cw_region (lq_run ?_)
        simp (maxSteps := 5000000) (decide := true) (disch := omega) only [EV, ↓reduceIte, Nat.reduceAdd, tt3, encK_f, L5, encV_f, encB_f8]
        refine lq_call rfl ?_
        refine Cl.mono (same_ok H (Ent.up (M := Os 5 encB (.slice ao3 (snapB 2 S).length c3) (snapB 2 S) :: []) Ent.os) rfl (Ent.up (M := Os 5 encB (.slice ao5 (snapB 2 S).length c5) (snapB 2 S) :: []) Ent.os) rfl) ?_
        rintro _ w ⟨rfl, H⟩
        rw [show decide (snapB 2 S = snapB 2 S) = true from decide_eq_true rfl]
        simp (maxSteps := 5000000) (decide := true) (disch := omega) only [EV, ↓reduceIte, Nat.reduceAdd, tt3, encK_f, L5, encV_f, encB_f8]
        refine lq_nil ?_
        refine h73 _ _ ?_
        refine cw_condB rfl (fun c114 => ?_) (fun c114 => ?_)
        · skip
          try simp only [HB] at c114
          refine cw_seq (fun K74 h74 => ?_)
          refine cw_region (lq_run ?_)
          simp (maxSteps := 5000000) (decide := true) (disch := omega) only [EV, ↓reduceIte, Nat.reduceAdd, tt3, encK_f, L5, encV_f, encB_f8]
          refine lq_nil ?_
          refine h74 _ _ ?_
          refine cw_ret ?_
          try simp (decide := true) only [EX, ↓reduceIte]
          refine ret1 rfl ?_
          first | exact ⟨rfl, H.wk⟩ | exact absurd trivial ‹¬True› | exact absurd ‹false = true› (by decide) | (rcases hs0 with q | q <;> contradiction) | (exfalso; omega)
        · skip
          try simp only [HB] at c114
          refine cw_skip ?_
          refine h72 _ _ ?_
          refine cw_seq (fun K75 h75 => ?_)
          refine cw_region (lq_run ?_)
          simp (maxSteps := 5000000) (decide := true) (disch := omega) only [EV, ↓reduceIte, Nat.reduceAdd, tt3, encK_f, L5, encV_f, encB_f8]
          replace H : Own (Os 5 encB (.slice ao3 (snapB 2 S).length c3) (snapB 2 S) :: Os 5 encB (.slice ao5 (snapB 2 S).length c5) (snapB 2 S) :: StoreAt p S :: F) w := H.wk
          refine lq_call rfl ?_
          refine Cl.mono (own_ok H Ent.os rfl (by omega)) ?_
          rintro _ w ⟨ao6, c6, rfl, hc6, H⟩
          simp (maxSteps := 5000000) (decide := true) (disch := omega) only [EV, ↓reduceIte, Nat.reduceAdd, tt3, encK_f, L5, encV_f, encB_f8]
          refine lq_bs H rfl rfl (by rfl) rfl (by decide) (fun b117 w H => ?_)
          try simp only [ES, encK_f, L5, encV_f, encB_f8] at H
          replace H := H.os encB [161, 162] rfl rfl
          simp (maxSteps := 5000000) (decide := true) (disch := omega) only [EV, ↓reduceIte, Nat.reduceAdd, tt3, encK_f, L5, encV_f, encB_f8]
          refine lq_appR (enc := encB) (xs := snapB 2 S) H rfl rfl (Ent.os (L := []) (T := 5) (enc := encB) (n := 2) (c := 2) (xs := [161, 162])) rfl (by rw [show encB.n = 1 from rfl]; simp; omega) (fun ao7 c7 w H => ?_)
          have hc7 := H.oscap
          have h07 := H.os0 1 (snapB 2 S).length
          simp only [List.length_cons, List.length_nil, Nat.zero_add, Nat.reduceAdd] at H hc7 h07 ⊢
          have hpre : Ent [Os 5 encB (.slice ao7 ((snapB 2 S).length + 2) c7) (snapB 2 S ++ [161, 162])] (Row ao7 encB (snapB 2 S)) := by
            have := Ent.pref (T := 5) (enc := encB) (n := (snapB 2 S).length + 2) (xs := snapB 2 S ++ [161, 162]) (L := []) (snapB 2 S).length (by omega) h07
            rwa [List.take_left' rfl] at this
          simp (maxSteps := 5000000) (decide := true) (disch := omega) only [EV, ↓reduceIte, Nat.reduceAdd, tt3, encK_f, L5, encV_f, encB_f8]
          refine lq_nil ?_
          refine h75 _ _ ?_
          refine cw_seq (fun K76 h76 => ?_)
          refine cw_region (lq_run ?_)
          simp (maxSteps := 5000000) (decide := true) (disch := omega) only [EV, ↓reduceIte, Nat.reduceAdd, tt3, encK_f, L5, encV_f, encB_f8]
          refine lq_sub 0 (snapB 2 S).length (snapB 2 S).length rfl rfl ⟨_, _, rfl, rfl⟩ ⟨by omega, by omega, nofun⟩ (by omega) ?_
          rw [h07]
          simp (maxSteps := 5000000) (decide := true) (disch := omega) only [EV, ↓reduceIte, Nat.reduceAdd, tt3, encK_f, L5, encV_f, encB_f8]
          refine lq_call rfl ?_
          refine Cl.mono (Read_good H hpre.up rfl (by omega) hf.wf (by omega) (by omega) hbd (by omega)) ?_
          rintro _ w ⟨p2, rfl, H⟩
          simp (maxSteps := 5000000) (decide := true) (disch := omega) only [EV, ↓reduceIte, Nat.reduceAdd, tt3, encK_f, L5, encV_f, encB_f8]
          refine lq_nil ?_
          refine h76 _ _ ?_
          refine cw_seq (fun K77 h77 => ?_)
          refine cw_seq (fun K78 h78 => ?_)
          refine cw_region (lq_run ?_)
          simp (maxSteps := 5000000) (decide := true) (disch := omega) only [EV, ↓reduceIte, Nat.reduceAdd, tt3, encK_f, L5, encV_f, encB_f8]
          refine lq_sub 0 (snapB 2 S).length (snapB 2 S).length rfl rfl ⟨_, _, rfl, rfl⟩ ⟨by omega, by omega, nofun⟩ (by omega) ?_
          rw [h07]
          simp (maxSteps := 5000000) (decide := true) (disch := omega) only [EV, ↓reduceIte, Nat.reduceAdd, tt3, encK_f, L5, encV_f, encB_f8]
          refine lq_call rfl ?_
          refine Cl.mono (same_ok H hpre.up rfl (Ent.up (M := Os 5 encB (.slice ao3 (snapB 2 S).length c3) (snapB 2 S) :: []) Ent.os) rfl) ?_
          rintro _ w ⟨rfl, H⟩
          rw [show decide (snapB 2 S = snapB 2 S) = true from decide_eq_true rfl]
          simp (maxSteps := 5000000) (decide := true) (disch := omega) only [EV, ↓reduceIte, Nat.reduceAdd, tt3, encK_f, L5, encV_f, encB_f8]
          refine lq_idx (i' := (snapB 2 S).length) H rfl rfl (Ent.os (L := []) (T := 5) (enc := encB) (n := (snapB 2 S).length + 2) (c := c7) (xs := snapB 2 S ++ [161, 162])) (by simp) rfl (show (snapB 2 S ++ [161, 162])[(snapB 2 S).length]? = some 161 by simp) ?_
          simp (maxSteps := 5000000) (decide := true) (disch := omega) only [EV, ↓reduceIte, Nat.reduceAdd, tt3, encK_f, L5, encV_f, encB_f8]
          refine lq_loadE H rfl (Ent.os (L := []) (T := 5) (enc := encB) (n := (snapB 2 S).length + 2) (c := c7) (xs := snapB 2 S ++ [161, 162])) (show (snapB 2 S ++ [161, 162])[(snapB 2 S).length]? = some 161 by simp) rfl ?_
          simp (maxSteps := 5000000) (decide := true) (disch := omega) only [EV, ↓reduceIte, Nat.reduceAdd, tt3, encK_f, L5, encV_f, encB_f8]
          refine lq_idx (i' := (snapB 2 S).length + 1) H rfl rfl (Ent.os (L := []) (T := 5) (enc := encB) (n := (snapB 2 S).length + 2) (c := c7) (xs := snapB 2 S ++ [161, 162])) (by simp) rfl (show (snapB 2 S ++ [161, 162])[(snapB 2 S).length + 1]? = some 162 by simp) ?_
          simp (maxSteps := 5000000) (decide := true) (disch := omega) only [EV, ↓reduceIte, Nat.reduceAdd, tt3, encK_f, L5, encV_f, encB_f8]
          refine lq_loadE H rfl (Ent.os (L := []) (T := 5) (enc := encB) (n := (snapB 2 S).length + 2) (c := c7) (xs := snapB 2 S ++ [161, 162])) (show (snapB 2 S ++ [161, 162])[(snapB 2 S).length + 1]? = some 162 by simp) rfl ?_
          simp (maxSteps := 5000000) (decide := true) (disch := omega) only [EV, ↓reduceIte, Nat.reduceAdd, tt3, encK_f, L5, encV_f, encB_f8]
          refine lq_nil ?_
          refine h78 _ _ ?_
          refine cw_condF rfl ?_
          refine cw_skip ?_
          refine h77 _ _ ?_
          refine cw_seq (fun K79 h79 => ?_)
          refine cw_region (lq_run ?_)
          simp (maxSteps := 5000000) (decide := true) (disch := omega) only [EV, ↓reduceIte, Nat.reduceAdd, tt3, encK_f, L5, encV_f, encB_f8]
          refine lq_call rfl ?_
          refine Cl.mono (Kept_ok (H.tkR (R := StoreAt) (k := p2)) hfR.V (fun x hx => by have := hfR.K x hx; omega)) ?_
          rintro _ w ⟨l1, aoK, cK, rfl, h1, H⟩
          have hK1 := hfR.Kl h1
          have H9 : Own (Os 5 encB (.slice ao3 (snapB 2 S).length c3) (snapB 2 S) :: Os 5 encB (.slice ao5 (snapB 2 S).length c5) (snapB 2 S) :: Os 48 encK (.slice aoK l1.length cK) l1 :: KeysR l1 :: StoreAt p2 (restamp 5 S) :: Os 5 encB (.slice ao7 ((snapB 2 S).length + 2) c7) (snapB 2 S ++ [161, 162]) :: StoreAt p S :: F) w := H.wk
          replace H := H9
          clear H9
          simp (maxSteps := 5000000) (decide := true) (disch := omega) only [EV, ↓reduceIte, Nat.reduceAdd, tt3, encK_f, L5, encV_f, encB_f8]
          refine lq_nil ?_
          refine h79 _ _ ?_
          refine cw_seq (fun K80 h80 => ?_)
          refine cw_region (lq_run ?_)
          simp (maxSteps := 5000000) (decide := true) (disch := omega) only [EV, ↓reduceIte, Nat.reduceAdd, tt3, encK_f, L5, encV_f, encB_f8]
          refine lq_nil ?_
          refine h80 _ _ ?_
          refine cw_seq (fun K81 h81 => ?_)
          refine cw_region (lq_run ?_)
          simp (maxSteps := 5000000) (decide := true) (disch := omega) only [EV, ↓reduceIte, Nat.reduceAdd, tt3, encK_f, L5, encV_f, encB_f8]
          refine lq_call rfl ?_
          refine Cl.mono (own_ok H Ent.os rfl (by omega)) ?_
          rintro _ w ⟨ao8, c8, rfl, hc8, H⟩
          simp (maxSteps := 5000000) (decide := true) (disch := omega) only [EV, ↓reduceIte, Nat.reduceAdd, tt3, encK_f, L5, encV_f, encB_f8]
          refine lq_nil ?_
          refine h81 _ _ ?_
          refine cw_seq (fun K82 h82 => ?_)
          refine cw_region (lq_run ?_)
          simp (maxSteps := 5000000) (decide := true) (disch := omega) only [EV, ↓reduceIte, Nat.reduceAdd, tt3, encK_f, L5, encV_f, encB_f8]
          refine lq_call rfl ?_
          refine Cl.mono (Build_good (H.tkR (R := StoreAt) (k := p2)) hfR.wf (by omega) (by omega) (by omega)) ?_
          rintro _ w ⟨ao9, c9, rfl, H⟩
          rw [restamp_bytes] at H ⊢
          simp (maxSteps := 5000000) (decide := true) (disch := omega) only [EV, ↓reduceIte, Nat.reduceAdd, tt3, encK_f, L5, encV_f, encB_f8]
          refine lq_nil ?_
          refine h82 _ _ ?_
          refine cw_seq (fun K83 h83 => ?_)
          refine cw_region (lq_run ?_)
          simp (maxSteps := 5000000) (decide := true) (disch := omega) only [EV, ↓reduceIte, Nat.reduceAdd, tt3, encK_f, L5, encV_f, encB_f8]
          refine lq_call rfl ?_
          refine Cl.mono (Build_good (H.tkR (R := StoreAt) (k := p)) hf.wf (by omega) (by omega) hbd) ?_
          rintro _ w ⟨ao10, c10, rfl, H⟩
          simp (maxSteps := 5000000) (decide := true) (disch := omega) only [EV, ↓reduceIte, Nat.reduceAdd, tt3, encK_f, L5, encV_f, encB_f8]
          refine lq_nil ?_
          refine h83 _ _ ?_
          refine cw_seq (fun K84 h84 => ?_)
          refine cw_seq (fun K85 h85 => ?_)
          refine cw_region (lq_run ?_)
          simp (maxSteps := 5000000) (decide := true) (disch := omega) only [EV, ↓reduceIte, Nat.reduceAdd, tt3, encK_f, L5, encV_f, encB_f8]
          refine lq_call rfl ?_
          refine Cl.mono (same_ok H (Ent.up (M := Os 5 encB (.slice ao9 (snapB 2 S).length c9) (snapB 2 S) :: []) Ent.os) rfl (Ent.up (M := Os 5 encB (.slice ao8 (snapB 2 S).length c8) (snapB 2 S) :: []) Ent.os) rfl) ?_
          rintro _ w ⟨rfl, H⟩
          rw [show decide (snapB 2 S = snapB 2 S) = true from decide_eq_true rfl]
          simp (maxSteps := 5000000) (decide := true) (disch := omega) only [EV, ↓reduceIte, Nat.reduceAdd, tt3, encK_f, L5, encV_f, encB_f8]
          refine lq_call rfl ?_
          refine Cl.mono (same_ok H (Ent.up (M := Os 5 encB (.slice ao10 (snapB 2 S).length c10) (snapB 2 S) :: []) Ent.os) rfl (Ent.up (M := Os 5 encB (.slice ao8 (snapB 2 S).length c8) (snapB 2 S) :: []) Ent.os) rfl) ?_
          rintro _ w ⟨rfl, H⟩
          rw [show decide (snapB 2 S = snapB 2 S) = true from decide_eq_true rfl]
          simp (maxSteps := 5000000) (decide := true) (disch := omega) only [EV, ↓reduceIte, Nat.reduceAdd, tt3, encK_f, L5, encV_f, encB_f8]
          refine lq_call rfl ?_
          refine Cl.mono (same_ok H (Ent.up (M := Os 5 encB (.slice ao5 (snapB 2 S).length c5) (snapB 2 S) :: []) Ent.os) rfl (Ent.up (M := Os 5 encB (.slice ao8 (snapB 2 S).length c8) (snapB 2 S) :: []) Ent.os) rfl) ?_
          rintro _ w ⟨rfl, H⟩
          rw [show decide (snapB 2 S = snapB 2 S) = true from decide_eq_true rfl]
          simp (maxSteps := 5000000) (decide := true) (disch := omega) only [EV, ↓reduceIte, Nat.reduceAdd, tt3, encK_f, L5, encV_f, encB_f8]
          refine lq_nil ?_
          refine h85 _ _ ?_
          refine cw_condF rfl ?_
          refine cw_skip ?_
          refine h84 _ _ ?_
          refine cw_seq (fun K86 h86 => ?_)
          refine cw_region (lq_run ?_)
          simp (maxSteps := 5000000) (decide := true) (disch := omega) only [EV, ↓reduceIte, Nat.reduceAdd, tt3, encK_f, L5, encV_f, encB_f8]
          refine lq_bs H rfl rfl (by rfl) rfl (by decide) (fun b205 w H => ?_)
          try simp only [ES, encK_f, L5, encV_f, encB_f8] at H
          replace H := H.os encV [(ao3, (snapB 2 S).length, c3), (ao5, (snapB 2 S).length, c5), (ao9, (snapB 2 S).length, c9), (ao10, (snapB 2 S).length, c10), (ao7, (snapB 2 S).length + 2, c7)] rfl rfl
          change Own (Os 23 encV (.slice (some ⟨b205, 0, none⟩) 5 5) _ :: _) w at H
          replace H : Own (AllR (five ((ao3, (snapB 2 S).length, c3), snapB 2 S) ((ao5, (snapB 2 S).length, c5), snapB 2 S) ((ao9, (snapB 2 S).length, c9), snapB 2 S) ((ao10, (snapB 2 S).length, c10), snapB 2 S) ((ao7, (snapB 2 S).length + 2, c7), snapB 2 S ++ [161, 162])) :: Os 23 encV (.slice (some ⟨b205, 0, none⟩) 5 5) ((List.range 5).map fun j => ((five ((ao3, (snapB 2 S).length, c3), snapB 2 S) ((ao5, (snapB 2 S).length, c5), snapB 2 S) ((ao9, (snapB 2 S).length, c9), snapB 2 S) ((ao10, (snapB 2 S).length, c10), snapB 2 S) ((ao7, (snapB 2 S).length + 2, c7), snapB 2 S ++ [161, 162])) j).1) :: StoreAt p S :: StoreAt p2 (restamp 5 S) :: Os 5 encB (.slice ao8 (snapB 2 S).length c8) (snapB 2 S) :: Os 48 encK (.slice aoK l1.length cK) l1 :: KeysR l1 :: F) w := by
            have H9 : Own (Os 5 encB (.slice ao3 (snapB 2 S).length c3) (snapB 2 S) :: Os 5 encB (.slice ao5 (snapB 2 S).length c5) (snapB 2 S) :: Os 5 encB (.slice ao9 (snapB 2 S).length c9) (snapB 2 S) :: Os 5 encB (.slice ao10 (snapB 2 S).length c10) (snapB 2 S) :: Os 5 encB (.slice ao7 ((snapB 2 S).length + 2) c7) (snapB 2 S ++ [161, 162]) :: Os 23 encV (.slice (some ⟨b205, 0, none⟩) 5 5) ([(ao3, (snapB 2 S).length, c3), (ao5, (snapB 2 S).length, c5), (ao9, (snapB 2 S).length, c9), (ao10, (snapB 2 S).length, c10), (ao7, (snapB 2 S).length + 2, c7)]) :: StoreAt p S :: StoreAt p2 (restamp 5 S) :: Os 5 encB (.slice ao8 (snapB 2 S).length c8) (snapB 2 S) :: Os 48 encK (.slice aoK l1.length cK) l1 :: KeysR l1 :: F) w := H.wk
            exact Sep.flat.2 H9
          simp (maxSteps := 5000000) (decide := true) (disch := omega) only [EV, ↓reduceIte, Nat.reduceAdd, tt3, encK_f, L5, encV_f, encB_f8]
          refine lq_nil ?_
          refine h86 _ _ ?_
          refine cw_seq (fun K87 h87 => ?_)
          refine cw_seq (fun K88 h88 => ?_)
          refine cw_region (lq_run ?_)
          simp (maxSteps := 5000000) (decide := true) (disch := omega) only [EV, ↓reduceIte, Nat.reduceAdd, tt3, encK_f, L5, encV_f, encB_f8]
          refine lq_nil ?_
          refine h88 _ _ ?_
          refine cw_block ?_
          refine cw_loopC (X := Nat × (Nat → Sl × List UInt8)) [(4, _), (11, _), (18, _), (20, _), (21, _), (22, _), (24, _), (26, _), (27, _)] (fun x => [(28, .int .i64 (x.1 : Int))]) (fun x w => (x.1 ≤ 5 ∧ Len5 (snapB 2 S).length x.2 ∧ (∀ j, j < x.1 → (x.2 j).2.take (snapB 2 S).length = List.replicate (snapB 2 S).length (UInt8.ofNat (1 + j))) ∧ ∀ j, j < 4 → (x.2 j).2.length = (snapB 2 S).length) ∧ Own (AllR x.2 :: Os 23 encV (.slice (some ⟨b205, 0, none⟩) 5 5) ((List.range 5).map fun j => (x.2 j).1) :: StoreAt p S :: StoreAt p2 (restamp 5 S) :: Os 5 encB (.slice ao8 (snapB 2 S).length c8) (snapB 2 S) :: Os 48 encK (.slice aoK l1.length cK) l1 :: KeysR l1 :: F) w) (fun x => 5 - x.1) (0, five ((ao3, (snapB 2 S).length, c3), snapB 2 S) ((ao5, (snapB 2 S).length, c5), snapB 2 S) ((ao9, (snapB 2 S).length, c9), snapB 2 S) ((ao10, (snapB 2 S).length, c10), snapB 2 S) ((ao7, (snapB 2 S).length + 2, c7), snapB 2 S ++ [161, 162])) (.c rfl (.c rfl (.c rfl (.c rfl (.c rfl (.c rfl (.c rfl (.c rfl (.c rfl .n))))))))) (.c rfl .n) ⟨⟨Nat.zero_le _, five_len ⟨rfl, Nat.le_refl _⟩ ⟨rfl, Nat.le_refl _⟩ ⟨rfl, Nat.le_refl _⟩ ⟨rfl, Nat.le_refl _⟩ ⟨by simp, by simp⟩, fun j hj => absurd hj (Nat.not_lt_zero _), five_l4 rfl rfl rfl rfl⟩, H⟩ ?_
          rintro ⟨i, f⟩ w ⟨⟨hi5, hlen, hdn, hl4⟩, H⟩
          simp only [List.cons_append, List.nil_append]
          simp only at hi5 hlen hdn hl4 H ⊢
          refine cw_seq (fun K89 h89 => ?_)
          refine cw_seq (fun K90 h90 => ?_)
          refine cw_region (lq_run ?_)
          simp (maxSteps := 5000000) (decide := true) (disch := omega) only [EV, ↓reduceIte, Nat.reduceAdd, tt3, encK_f, L5, encV_f, encB_f8]
          refine lq_nil ?_
          refine h90 _ _ ?_
          refine cw_condB rfl (fun c209 => ?_) (fun c209 => ?_)
          · skip
            try simp only [HB] at c209
            refine cw_skip ?_
            refine h89 _ _ ?_
            refine cw_seq (fun K91 h91 => ?_)
            refine cw_block ?_
            refine cw_seq (fun K92 h92 => ?_)
            refine cw_region (lq_run ?_)
            obtain ⟨⟨⟨ra, rl, rc⟩, rx⟩, hfi⟩ : ∃ y, f i = y := ⟨_, rfl⟩
            have hL := hlen i (by omega)
            rw [hfi] at hL
            simp only at hL
            obtain rfl : rl = rx.length := hL.1
            have H2 := H.allTake (i := i) (by omega)
            rw [hfi] at H2
            replace H : Own (Os 5 encB (.slice ra rx.length rc) rx :: rest5 i f :: Os 23 encV (.slice (some ⟨b205, 0, none⟩) 5 5) ((List.range 5).map fun j => (f j).1) :: StoreAt p S :: StoreAt p2 (restamp 5 S) :: Os 5 encB (.slice ao8 (snapB 2 S).length c8) (snapB 2 S) :: Os 48 encK (.slice aoK l1.length cK) l1 :: KeysR l1 :: F) w := H2
            have hrl := hL.2
            have hr4 : i < 4 → rx.length = (snapB 2 S).length := fun q => by have := hl4 i q; rwa [hfi] at this
            simp (maxSteps := 5000000) (decide := true) (disch := omega) only [EV, ↓reduceIte, Nat.reduceAdd, tt3, encK_f, L5, encV_f, encB_f8]
            refine lq_nil ?_
            refine h92 _ _ ?_
            refine cw_block ?_
            refine cw_loopC (X := Nat × List UInt8) [(4, _), (11, _), (18, _), (20, _), (21, _), (22, _), (24, _), (26, _), (27, _), (28, _), (206, _), (207, _), (208, _), (209, _)] (fun x => [(29, .int .i64 (x.1 : Int))]) (fun x w => (x.1 ≤ (snapB 2 S).length ∧ x.2.length = rx.length ∧ x.2.take x.1 = List.replicate x.1 (UInt8.ofNat (1 + i))) ∧ Own (Os 5 encB (.slice ra rx.length rc) x.2 :: rest5 i f :: Os 23 encV (.slice (some ⟨b205, 0, none⟩) 5 5) ((List.range 5).map fun j => (f j).1) :: StoreAt p S :: StoreAt p2 (restamp 5 S) :: Os 5 encB (.slice ao8 (snapB 2 S).length c8) (snapB 2 S) :: Os 48 encK (.slice aoK l1.length cK) l1 :: KeysR l1 :: F) w) (fun x => (snapB 2 S).length - x.1) (0, rx) (.c rfl (.c rfl (.c rfl (.c rfl (.c rfl (.c rfl (.c rfl (.c rfl (.c rfl (.c rfl (.c rfl (.c rfl (.c rfl (.c rfl .n)))))))))))))) (.c rfl .n) ⟨⟨Nat.zero_le _, rfl, rfl⟩, H⟩ ?_
            rintro ⟨k, ys⟩ w ⟨⟨hk, hyl, hyt⟩, H⟩
            simp only [List.cons_append, List.nil_append]
            simp only at hk hyl hyt H ⊢
            refine cw_seq (fun K93 h93 => ?_)
            refine cw_seq (fun K94 h94 => ?_)
            refine cw_region (lq_run ?_)
            simp (maxSteps := 5000000) (decide := true) (disch := omega) only [EV, ↓reduceIte, Nat.reduceAdd, tt3, encK_f, L5, encV_f, encB_f8]
            refine lq_nil ?_
            refine h94 _ _ ?_
            refine cw_condB rfl (fun c214 => ?_) (fun c214 => ?_)
            · skip
              try simp only [HB] at c214
              refine cw_skip ?_
              refine h93 _ _ ?_
              refine cw_seq (fun K95 h95 => ?_)
              refine cw_block ?_
              refine cw_region (lq_run ?_)
              simp (maxSteps := 5000000) (decide := true) (disch := omega) only [EV, ↓reduceIte, Nat.reduceAdd, tt3, encK_f, L5, encV_f, encB_f8]
              refine lq_idx (i' := i) H rfl rfl (Ent.os (L := []) (T := 23) (enc := encV) (n := 5) (c := 5) (xs := (List.range 5).map fun j => (f j).1)) (by simp) rfl (show _ = some (ra, rx.length, rc) by rw [firsts_at (by omega), hfi]) ?_
              simp (maxSteps := 5000000) (decide := true) (disch := omega) only [EV, ↓reduceIte, Nat.reduceAdd, tt3, encK_f, L5, encV_f, encB_f8]
              refine lq_loadE H rfl (Ent.os (L := []) (T := 23) (enc := encV) (n := 5) (c := 5) (xs := (List.range 5).map fun j => (f j).1)) (show _ = some (ra, rx.length, rc) by rw [firsts_at (by omega), hfi]) rfl ?_
              simp (maxSteps := 5000000) (decide := true) (disch := omega) only [EV, ↓reduceIte, Nat.reduceAdd, tt3, encK_f, L5, encV_f, encB_f8]
              refine lq_idx (i' := k) H rfl rfl (Ent.os (L := []) (T := 5) (enc := encB) (n := rx.length) (c := rc) (xs := ys)) (by omega) rfl (List.getElem?_eq_getElem (show k < ys.length by omega)) ?_
              simp (maxSteps := 5000000) (decide := true) (disch := omega) only [EV, ↓reduceIte, Nat.reduceAdd, tt3, encK_f, L5, encV_f, encB_f8]
              refine lq_stO (T := 5) (enc := encB) (n := rx.length) (c := rc) (xs := ys) (i := k) (UInt8.ofNat (1 + i)) H rfl rfl rfl (enc8 (by omega) (by omega)) rfl (by omega) (fun w H => ?_)
              simp (maxSteps := 5000000) (decide := true) (disch := omega) only [EV, ↓reduceIte, Nat.reduceAdd, tt3, encK_f, L5, encV_f, encB_f8]
              refine lq_nil ?_
              refine h95 _ _ ?_
              refine cw_region (lq_run ?_)
              simp (maxSteps := 5000000) (decide := true) (disch := omega) only [EV, ↓reduceIte, Nat.reduceAdd, tt3, encK_f, L5, encV_f, encB_f8]
              refine lq_nil ?_
              refine Exists.intro (k + 1, ys.set k (UInt8.ofNat (1 + i))) ⟨⟨(.c rfl .n), (.c rfl (.c rfl (.c rfl (.c rfl (.c rfl (.c rfl (.c rfl (.c rfl (.c rfl (.c rfl (.c rfl (.c rfl (.c rfl (.c rfl .n))))))))))))))⟩, ⟨⟨by omega, by rw [List.length_set]; exact hyl, take_set_rep hyt (by omega)⟩, H⟩, (by simp only; omega)⟩
            · skip
              try simp only [HB] at c214
              refine cw_exit ?_
              refine h91 _ _ ?_
              refine cw_region (lq_run ?_)
              simp (maxSteps := 5000000) (decide := true) (disch := omega) only [EV, ↓reduceIte, Nat.reduceAdd, tt3, encK_f, L5, encV_f, encB_f8]
              refine lq_nil ?_
              refine Exists.intro (i + 1, upd f i ((ra, rx.length, rc), ys)) ⟨⟨(.c rfl .n), (.c rfl (.c rfl (.c rfl (.c rfl (.c rfl (.c rfl (.c rfl (.c rfl (.c rfl .n)))))))))⟩, ⟨⟨by omega, upd_len hlen hyl.symm (by simp only; omega), upd_done (g := fun j => UInt8.ofNat (1 + j)) hdn (done_at hyt (by omega)), upd_l4 hl4 (fun q => by simp only; rw [hyl]; exact hr4 q)⟩, by rw [firsts_upd (by rw [hfi])]; exact Own.allPut (s := (ra, rx.length, rc)) H (by omega)⟩, (by simp only; omega)⟩
          · skip
            try simp only [HB] at c209
            refine cw_exit ?_
            refine h87 _ _ ?_
            refine cw_seq (fun K96 h96 => ?_)
            refine cw_seq (fun K97 h97 => ?_)
            refine cw_region (lq_run ?_)
            simp (maxSteps := 5000000) (decide := true) (disch := omega) only [EV, ↓reduceIte, Nat.reduceAdd, tt3, encK_f, L5, encV_f, encB_f8]
            refine lq_nil ?_
            refine h97 _ _ ?_
            refine cw_block ?_
            refine cw_loopC (X := Nat × (Nat → Sl × List UInt8)) [(4, _), (11, _), (18, _), (20, _), (21, _), (22, _), (24, _), (26, _), (27, _)] (fun x => [(30, .int .i64 (x.1 : Int))]) (fun x w => (x.1 ≤ 4 ∧ (∀ j, j < 5 → (x.2 j).1.2.1 = (x.2 j).2.length) ∧ (∀ j, j < x.1 → (x.2 j).2 = List.replicate (snapB 2 S).length (UInt8.ofNat (1 + j)) ++ List.replicate 80 (UInt8.ofNat (101 + j))) ∧ ∀ j, x.1 ≤ j → j < 4 → (x.2 j).2 = List.replicate (snapB 2 S).length (UInt8.ofNat (1 + j))) ∧ Own (AllR x.2 :: Os 23 encV (.slice (some ⟨b205, 0, none⟩) 5 5) ((List.range 5).map fun j => (x.2 j).1) :: StoreAt p S :: StoreAt p2 (restamp 5 S) :: Os 5 encB (.slice ao8 (snapB 2 S).length c8) (snapB 2 S) :: Os 48 encK (.slice aoK l1.length cK) l1 :: KeysR l1 :: F) w) (fun x => 4 - x.1) (0, f) (.c rfl (.c rfl (.c rfl (.c rfl (.c rfl (.c rfl (.c rfl (.c rfl (.c rfl .n))))))))) (.c rfl .n) ⟨⟨Nat.zero_le _, fun j hj => (hlen j hj).1, fun j hj => absurd hj (Nat.not_lt_zero _), fun j _ hj => rep_of (hdn j (by omega)) (hl4 j hj)⟩, H⟩ ?_
            rintro ⟨i, f⟩ w ⟨⟨hi4, hln, hdone, htodo⟩, H⟩
            simp only [List.cons_append, List.nil_append]
            simp only at hi4 hln hdone htodo H ⊢
            refine cw_seq (fun K98 h98 => ?_)
            refine cw_seq (fun K99 h99 => ?_)
            refine cw_region (lq_run ?_)
            simp (maxSteps := 5000000) (decide := true) (disch := omega) only [EV, ↓reduceIte, Nat.reduceAdd, tt3, encK_f, L5, encV_f, encB_f8]
            refine lq_nil ?_
            refine h99 _ _ ?_
            refine cw_condB rfl (fun c227 => ?_) (fun c227 => ?_)
            · skip
              try simp only [HB] at c227
              refine cw_skip ?_
              refine h98 _ _ ?_
              refine cw_seq (fun K100 h100 => ?_)
              refine cw_block ?_
              refine cw_seq (fun K101 h101 => ?_)
              refine cw_region (lq_run ?_)
              obtain ⟨⟨⟨ra, rl, rc⟩, rx⟩, hfi⟩ : ∃ y, f i = y := ⟨_, rfl⟩
              have hL := hln i (by omega)
              rw [hfi] at hL
              simp only at hL
              obtain rfl : rl = rx.length := hL
              have H2 := H.allTake (i := i) (by omega)
              rw [hfi] at H2
              replace H : Own (Os 5 encB (.slice ra rx.length rc) rx :: rest5 i f :: Os 23 encV (.slice (some ⟨b205, 0, none⟩) 5 5) ((List.range 5).map fun j => (f j).1) :: StoreAt p S :: StoreAt p2 (restamp 5 S) :: Os 5 encB (.slice ao8 (snapB 2 S).length c8) (snapB 2 S) :: Os 48 encK (.slice aoK l1.length cK) l1 :: KeysR l1 :: F) w := H2
              obtain rfl : rx = List.replicate (snapB 2 S).length (UInt8.ofNat (1 + i)) := by have := htodo i (Nat.le_refl _) (by omega); rwa [hfi] at this
              have hself : ((List.range 5).map fun j => (f j).1).set i (ra, (List.replicate (snapB 2 S).length (UInt8.ofNat (1 + i))).length, rc) = (List.range 5).map fun j => (f j).1 := set_same (by rw [firsts_at (by omega), hfi])
              simp (maxSteps := 5000000) (decide := true) (disch := omega) only [EV, ↓reduceIte, Nat.reduceAdd, tt3, encK_f, L5, encV_f, encB_f8]
              refine lq_nil ?_
              refine h101 _ _ ?_
              refine cw_block ?_
              refine cw_loopC (X := Nat × List UInt8 × (Option Addr × Nat)) [(4, _), (11, _), (18, _), (20, _), (21, _), (22, _), (24, _), (26, _), (27, _), (30, _), (226, _), (227, _)] (fun x => [(31, .int .i64 (x.1 : Int))]) (fun x w => (x.1 ≤ 80 ∧ x.2.1 = List.replicate (snapB 2 S).length (UInt8.ofNat (1 + i)) ++ List.replicate x.1 (UInt8.ofNat (101 + i))) ∧ Own (Os 5 encB (.slice x.2.2.1 x.2.1.length x.2.2.2) x.2.1 :: rest5 i f :: Os 23 encV (.slice (some ⟨b205, 0, none⟩) 5 5) (((List.range 5).map fun j => (f j).1).set i (x.2.2.1, x.2.1.length, x.2.2.2)) :: StoreAt p S :: StoreAt p2 (restamp 5 S) :: Os 5 encB (.slice ao8 (snapB 2 S).length c8) (snapB 2 S) :: Os 48 encK (.slice aoK l1.length cK) l1 :: KeysR l1 :: F) w) (fun x => 80 - x.1) (0, List.replicate (snapB 2 S).length (UInt8.ofNat (1 + i)), (ra, rc)) (.c rfl (.c rfl (.c rfl (.c rfl (.c rfl (.c rfl (.c rfl (.c rfl (.c rfl (.c rfl (.c rfl (.c rfl .n)))))))))))) (.c rfl .n) ⟨⟨Nat.zero_le _, by simp⟩, by simp only; rw [hself]; exact H⟩ ?_
              rintro ⟨k, ys, ⟨aor, cr⟩⟩ w ⟨⟨hk, hys⟩, H⟩
              simp only [List.cons_append, List.nil_append]
              simp only at hk hys H ⊢
              have hysl := congrArg List.length hys
              simp only [List.length_append, List.length_replicate] at hysl
              refine cw_seq (fun K102 h102 => ?_)
              refine cw_seq (fun K103 h103 => ?_)
              refine cw_region (lq_run ?_)
              simp (maxSteps := 5000000) (decide := true) (disch := omega) only [EV, ↓reduceIte, Nat.reduceAdd, tt3, encK_f, L5, encV_f, encB_f8]
              refine lq_nil ?_
              refine h103 _ _ ?_
              refine cw_condB rfl (fun c231 => ?_) (fun c231 => ?_)
              · skip
                try simp only [HB] at c231
                refine cw_skip ?_
                refine h102 _ _ ?_
                refine cw_seq (fun K104 h104 => ?_)
                refine cw_block ?_
                refine cw_region (lq_run ?_)
                simp (maxSteps := 5000000) (decide := true) (disch := omega) only [EV, ↓reduceIte, Nat.reduceAdd, tt3, encK_f, L5, encV_f, encB_f8]
                refine lq_idx (i' := i) H rfl rfl (Ent.os (L := []) (T := 23) (enc := encV) (n := 5) (c := 5) (xs := ((List.range 5).map fun j => (f j).1).set i (aor, ys.length, cr))) (by simp) rfl (show _ = some (aor, ys.length, cr) by rw [List.getElem?_set_self (by simp; omega)]) ?_
                simp (maxSteps := 5000000) (decide := true) (disch := omega) only [EV, ↓reduceIte, Nat.reduceAdd, tt3, encK_f, L5, encV_f, encB_f8]
                refine lq_loadE H rfl (Ent.os (L := []) (T := 23) (enc := encV) (n := 5) (c := 5) (xs := ((List.range 5).map fun j => (f j).1).set i (aor, ys.length, cr))) (show _ = some (aor, ys.length, cr) by rw [List.getElem?_set_self (by simp; omega)]) rfl ?_
                simp (maxSteps := 5000000) (decide := true) (disch := omega) only [EV, ↓reduceIte, Nat.reduceAdd, tt3, encK_f, L5, encV_f, encB_f8]
                refine lq_bs H rfl rfl (by rfl) rfl (by decide) (fun b243 w H => ?_)
                try simp only [ES, encK_f, L5, encV_f, encB_f8] at H
                simp (maxSteps := 5000000) (decide := true) (disch := omega) only [EV, ↓reduceIte, Nat.reduceAdd, tt3, encK_f, L5, encV_f, encB_f8]
                refine lq_app1 (enc := encB) (UInt8.ofNat (101 + i)) H rfl rfl (enc8 (by omega) (by omega)).symm (by rw [show encB.n = 1 from rfl]; omega) (fun ao11 c11 w H => ?_)
                simp (maxSteps := 5000000) (decide := true) (disch := omega) only [EV, ↓reduceIte, Nat.reduceAdd, tt3, encK_f, L5, encV_f, encB_f8]
                refine lq_idx (i' := i) H rfl rfl (Ent.os (L := []) (T := 23) (enc := encV) (n := 5) (c := 5) (xs := ((List.range 5).map fun j => (f j).1).set i (aor, ys.length, cr))) (by simp) rfl (show _ = some (aor, ys.length, cr) by rw [List.getElem?_set_self (by simp; omega)]) ?_
                simp (maxSteps := 5000000) (decide := true) (disch := omega) only [EV, ↓reduceIte, Nat.reduceAdd, tt3, encK_f, L5, encV_f, encB_f8]
                refine lq_stO (T := 23) (enc := encV) (n := 5) (c := 5) (xs := ((List.range 5).map fun j => (f j).1).set i (aor, ys.length, cr)) (i := i) (ao11, ys.length + 1, c11) H rfl rfl rfl rfl rfl (by simp; omega) (fun w H => ?_)
                rw [List.set_set] at H
                simp (maxSteps := 5000000) (decide := true) (disch := omega) only [EV, ↓reduceIte, Nat.reduceAdd, tt3, encK_f, L5, encV_f, encB_f8]
                refine lq_nil ?_
                refine h104 _ _ ?_
                refine cw_region (lq_run ?_)
                simp (maxSteps := 5000000) (decide := true) (disch := omega) only [EV, ↓reduceIte, Nat.reduceAdd, tt3, encK_f, L5, encV_f, encB_f8]
                refine lq_nil ?_
                refine Exists.intro (k + 1, ys ++ [UInt8.ofNat (101 + i)], (ao11, c11)) ⟨⟨(.c rfl .n), (.c rfl (.c rfl (.c rfl (.c rfl (.c rfl (.c rfl (.c rfl (.c rfl (.c rfl (.c rfl (.c rfl (.c rfl .n))))))))))))⟩, ⟨⟨by omega, by simp only; rw [hys, List.replicate_succ', List.append_assoc]⟩, by simp only; rw [List.length_append]; exact H.wk⟩, (by simp only; omega)⟩
              · skip
                try simp only [HB] at c231
                refine cw_exit ?_
                refine h100 _ _ ?_
                refine cw_region (lq_run ?_)
                simp (maxSteps := 5000000) (decide := true) (disch := omega) only [EV, ↓reduceIte, Nat.reduceAdd, tt3, encK_f, L5, encV_f, encB_f8]
                refine lq_nil ?_
                refine Exists.intro (i + 1, upd f i ((aor, ys.length, cr), ys)) ⟨⟨(.c rfl .n), (.c rfl (.c rfl (.c rfl (.c rfl (.c rfl (.c rfl (.c rfl (.c rfl (.c rfl .n)))))))))⟩, ⟨⟨by omega, upd_l hln rfl, upd_lt (P := fun j l => l = List.replicate (snapB 2 S).length (UInt8.ofNat (1 + j)) ++ List.replicate 80 (UInt8.ofNat (101 + j))) hdone (by simp only; rw [hys, show k = 80 by omega]), upd_ge (P := fun j l => l = List.replicate (snapB 2 S).length (UInt8.ofNat (1 + j))) htodo⟩, by rw [firsts_set (by omega)]; exact Own.allPut (s := (aor, ys.length, cr)) H (by omega)⟩, (by simp only; omega)⟩
            · skip
              try simp only [HB] at c227
              refine cw_exit ?_
              refine h96 _ _ ?_
              refine cw_seq (fun K105 h105 => ?_)
              refine cw_seq (fun K106 h106 => ?_)
              refine cw_region (lq_run ?_)
              simp (maxSteps := 5000000) (decide := true) (disch := omega) only [EV, ↓reduceIte, Nat.reduceAdd, tt3, encK_f, L5, encV_f, encB_f8]
              refine lq_nil ?_
              refine h106 _ _ ?_
              refine cw_block ?_
              refine cw_loopC (X := Nat) [(11, _), (18, _), (20, _), (21, _), (22, _), (24, _), (26, _), (27, _)] (fun x => [(32, .int .i64 (x : Int))]) (fun x w => x ≤ 4 ∧ Own (AllR f :: Os 23 encV (.slice (some ⟨b205, 0, none⟩) 5 5) ((List.range 5).map fun j => (f j).1) :: StoreAt p S :: StoreAt p2 (restamp 5 S) :: Os 5 encB (.slice ao8 (snapB 2 S).length c8) (snapB 2 S) :: Os 48 encK (.slice aoK l1.length cK) l1 :: KeysR l1 :: F) w) (fun x => 4 - x) 0 (.c rfl (.c rfl (.c rfl (.c rfl (.c rfl (.c rfl (.c rfl (.c rfl .n)))))))) (.c rfl .n) ⟨Nat.zero_le _, H⟩ ?_
              rintro i w ⟨hi4', H⟩
              simp only [List.cons_append, List.nil_append]
              try simp only at H ⊢
              refine cw_seq (fun K107 h107 => ?_)
              refine cw_seq (fun K108 h108 => ?_)
              refine cw_region (lq_run ?_)
              simp (maxSteps := 5000000) (decide := true) (disch := omega) only [EV, ↓reduceIte, Nat.reduceAdd, tt3, encK_f, L5, encV_f, encB_f8]
              refine lq_nil ?_
              refine h108 _ _ ?_
              refine cw_condB rfl (fun c247 => ?_) (fun c247 => ?_)
              · skip
                try simp only [HB] at c247
                refine cw_skip ?_
                refine h107 _ _ ?_
                refine cw_seq (fun K109 h109 => ?_)
                refine cw_block ?_
                refine cw_seq (fun K110 h110 => ?_)
                refine cw_region (lq_run ?_)
                obtain ⟨⟨⟨ra, rl, rc⟩, rx⟩, hfi⟩ : ∃ y, f i = y := ⟨_, rfl⟩
                have hL := hln i (by omega)
                rw [hfi] at hL
                simp only at hL
                obtain rfl : rl = rx.length := hL
                have H2 := H.allTake (i := i) (by omega)
                rw [hfi] at H2
                replace H : Own (Os 5 encB (.slice ra rx.length rc) rx :: rest5 i f :: Os 23 encV (.slice (some ⟨b205, 0, none⟩) 5 5) ((List.range 5).map fun j => (f j).1) :: StoreAt p S :: StoreAt p2 (restamp 5 S) :: Os 5 encB (.slice ao8 (snapB 2 S).length c8) (snapB 2 S) :: Os 48 encK (.slice aoK l1.length cK) l1 :: KeysR l1 :: F) w := H2
                have hrx := hdone i (by omega)
                rw [hfi] at hrx
                simp only at hrx
                have hrxl := congrArg List.length hrx
                simp only [List.length_append, List.length_replicate] at hrxl
                simp (maxSteps := 5000000) (decide := true) (disch := omega) only [EV, ↓reduceIte, Nat.reduceAdd, tt3, encK_f, L5, encV_f, encB_f8]
                refine lq_nil ?_
                refine h110 _ _ ?_
                refine cw_block ?_
                refine cw_loopC (X := Nat) [(11, _), (18, _), (20, _), (21, _), (22, _), (24, _), (26, _), (27, _), (32, _), (246, _), (247, _)] (fun x => [(33, .int .i64 (x : Int))]) (fun x w => x ≤ rx.length ∧ Own (Os 5 encB (.slice ra rx.length rc) rx :: rest5 i f :: Os 23 encV (.slice (some ⟨b205, 0, none⟩) 5 5) ((List.range 5).map fun j => (f j).1) :: StoreAt p S :: StoreAt p2 (restamp 5 S) :: Os 5 encB (.slice ao8 (snapB 2 S).length c8) (snapB 2 S) :: Os 48 encK (.slice aoK l1.length cK) l1 :: KeysR l1 :: F) w) (fun x => rx.length - x) 0 (.c rfl (.c rfl (.c rfl (.c rfl (.c rfl (.c rfl (.c rfl (.c rfl (.c rfl (.c rfl (.c rfl .n))))))))))) (.c rfl .n) ⟨Nat.zero_le _, H⟩ ?_
                rintro k w ⟨hk, H⟩
                simp only [List.cons_append, List.nil_append]
                try simp only at H ⊢
                refine cw_seq (fun K111 h111 => ?_)
                refine cw_seq (fun K112 h112 => ?_)
                refine cw_region (lq_run ?_)
                simp (maxSteps := 5000000) (decide := true) (disch := omega) only [EV, ↓reduceIte, Nat.reduceAdd, tt3, encK_f, L5, encV_f, encB_f8]
                refine lq_idx (i' := i) H rfl rfl (Ent.os (L := []) (T := 23) (enc := encV) (n := 5) (c := 5) (xs := (List.range 5).map fun j => (f j).1)) (by simp) rfl (show _ = some (ra, rx.length, rc) by rw [firsts_at (by omega), hfi]) ?_
                simp (maxSteps := 5000000) (decide := true) (disch := omega) only [EV, ↓reduceIte, Nat.reduceAdd, tt3, encK_f, L5, encV_f, encB_f8]
                refine lq_loadE H rfl (Ent.os (L := []) (T := 23) (enc := encV) (n := 5) (c := 5) (xs := (List.range 5).map fun j => (f j).1)) (show _ = some (ra, rx.length, rc) by rw [firsts_at (by omega), hfi]) rfl ?_
                simp (maxSteps := 5000000) (decide := true) (disch := omega) only [EV, ↓reduceIte, Nat.reduceAdd, tt3, encK_f, L5, encV_f, encB_f8]
                refine lq_nil ?_
                refine h112 _ _ ?_
                refine cw_condB rfl (fun c256 => ?_) (fun c256 => ?_)
                · skip
                  try simp only [HB] at c256
                  refine cw_skip ?_
                  refine h111 _ _ ?_
                  refine cw_seq (fun K113 h113 => ?_)
                  refine cw_block ?_
                  refine cw_seq (fun K114 h114 => ?_)
                  refine cw_region (lq_run ?_)
                  simp (maxSteps := 5000000) (decide := true) (disch := omega) only [EV, ↓reduceIte, Nat.reduceAdd, tt3, encK_f, L5, encV_f, encB_f8]
                  refine lq_G (fun g262 => ?_) (fun g262 => ?_)
                  · try simp only [HB] at g262
                    simp (maxSteps := 5000000) (decide := true) (disch := omega) only [EV, ↓reduceIte, Nat.reduceAdd, tt3, encK_f, L5, encV_f, encB_f8]
                    refine lq_idx (i' := i) H rfl rfl (Ent.os (L := []) (T := 23) (enc := encV) (n := 5) (c := 5) (xs := (List.range 5).map fun j => (f j).1)) (by simp) rfl (show _ = some (ra, rx.length, rc) by rw [firsts_at (by omega), hfi]) ?_
                    simp (maxSteps := 5000000) (decide := true) (disch := omega) only [EV, ↓reduceIte, Nat.reduceAdd, tt3, encK_f, L5, encV_f, encB_f8]
                    refine lq_loadE H rfl (Ent.os (L := []) (T := 23) (enc := encV) (n := 5) (c := 5) (xs := (List.range 5).map fun j => (f j).1)) (show _ = some (ra, rx.length, rc) by rw [firsts_at (by omega), hfi]) rfl ?_
                    simp (maxSteps := 5000000) (decide := true) (disch := omega) only [EV, ↓reduceIte, Nat.reduceAdd, tt3, encK_f, L5, encV_f, encB_f8]
                    refine lq_idx (i' := k) H rfl rfl (Ent.os (L := []) (T := 5) (enc := encB) (n := rx.length) (c := rc) (xs := rx)) (Nat.le_refl _) rfl (show rx[k]? = some (UInt8.ofNat (1 + i)) by rw [hrx]; exact rep_lo (by omega)) ?_
                    simp (maxSteps := 5000000) (decide := true) (disch := omega) only [EV, ↓reduceIte, Nat.reduceAdd, tt3, encK_f, L5, encV_f, encB_f8]
                    refine lq_loadE H rfl (Ent.os (L := []) (T := 5) (enc := encB) (n := rx.length) (c := rc) (xs := rx)) (show rx[k]? = some (UInt8.ofNat (1 + i)) by rw [hrx]; exact rep_lo (by omega)) rfl ?_
                    simp only [encB_f8, List.getElem?_cons_zero, toN8 (show 1 + i < 256 by omega)]
                    simp (maxSteps := 5000000) (decide := true) (disch := omega) only [EV, ↓reduceIte, Nat.reduceAdd, tt3, encK_f, L5, encV_f, encB_f8]
                    refine lq_G (fun g275 => ?_) (fun g275 => ?_)
                    · try simp only [HB] at g275
                      simp (maxSteps := 5000000) (decide := true) (disch := omega) only [EV, ↓reduceIte, Nat.reduceAdd, tt3, encK_f, L5, encV_f, encB_f8]
                      refine lq_nil ?_
                      refine h114 _ _ ?_
                      refine cw_condT rfl ?_
                      refine cw_seq (fun K115 h115 => ?_)
                      refine cw_region (lq_run ?_)
                      simp (maxSteps := 5000000) (decide := true) (disch := omega) only [EV, ↓reduceIte, Nat.reduceAdd, tt3, encK_f, L5, encV_f, encB_f8]
                      refine lq_nil ?_
                      refine h115 _ _ ?_
                      refine cw_ret ?_
                      try simp (decide := true) only [EX, ↓reduceIte]
                      refine ret1 rfl ?_
                      first | exact ⟨rfl, H.wk⟩ | exact absurd trivial ‹¬True› | exact absurd ‹false = true› (by decide) | (rcases hs0 with q | q <;> contradiction) | (exfalso; omega)
                    · try simp only [HB] at g275
                      simp (maxSteps := 5000000) (decide := true) (disch := omega) only [EV, ↓reduceIte, Nat.reduceAdd, tt3, encK_f, L5, encV_f, encB_f8]
                      refine lq_G (fun g279 => ?_) (fun g279 => ?_)
                      · try simp only [HB] at g279
                        simp (maxSteps := 5000000) (decide := true) (disch := omega) only [EV, ↓reduceIte, Nat.reduceAdd, tt3, encK_f, L5, encV_f, encB_f8]
                        refine lq_idx (i' := i) H rfl rfl (Ent.os (L := []) (T := 23) (enc := encV) (n := 5) (c := 5) (xs := (List.range 5).map fun j => (f j).1)) (by simp) rfl (show _ = some (ra, rx.length, rc) by rw [firsts_at (by omega), hfi]) ?_
                        simp (maxSteps := 5000000) (decide := true) (disch := omega) only [EV, ↓reduceIte, Nat.reduceAdd, tt3, encK_f, L5, encV_f, encB_f8]
                        refine lq_loadE H rfl (Ent.os (L := []) (T := 23) (enc := encV) (n := 5) (c := 5) (xs := (List.range 5).map fun j => (f j).1)) (show _ = some (ra, rx.length, rc) by rw [firsts_at (by omega), hfi]) rfl ?_
                        simp (maxSteps := 5000000) (decide := true) (disch := omega) only [EV, ↓reduceIte, Nat.reduceAdd, tt3, encK_f, L5, encV_f, encB_f8]
                        refine lq_idx (i' := k) H rfl rfl (Ent.os (L := []) (T := 5) (enc := encB) (n := rx.length) (c := rc) (xs := rx)) (Nat.le_refl _) rfl (show rx[k]? = some (UInt8.ofNat (101 + i)) by rw [hrx]; exact rep_hi (by omega) (by omega)) ?_
                        simp (maxSteps := 5000000) (decide := true) (disch := omega) only [EV, ↓reduceIte, Nat.reduceAdd, tt3, encK_f, L5, encV_f, encB_f8]
                        refine lq_loadE H rfl (Ent.os (L := []) (T := 5) (enc := encB) (n := rx.length) (c := rc) (xs := rx)) (show rx[k]? = some (UInt8.ofNat (101 + i)) by rw [hrx]; exact rep_hi (by omega) (by omega)) rfl ?_
                        simp only [encB_f8, List.getElem?_cons_zero, toN8 (show 101 + i < 256 by omega)]
                        simp (maxSteps := 5000000) (decide := true) (disch := omega) only [EV, ↓reduceIte, Nat.reduceAdd, tt3, encK_f, L5, encV_f, encB_f8]
                        refine lq_nil ?_
                        refine h114 _ _ ?_
                        refine cw_condB rfl (fun c292 => ?_) (fun c292 => ?_)
                        · skip
                          try simp only [HB] at c292
                          refine cw_seq (fun K116 h116 => ?_)
                          refine cw_region (lq_run ?_)
                          simp (maxSteps := 5000000) (decide := true) (disch := omega) only [EV, ↓reduceIte, Nat.reduceAdd, tt3, encK_f, L5, encV_f, encB_f8]
                          refine lq_nil ?_
                          refine h116 _ _ ?_
                          refine cw_ret ?_
                          try simp (decide := true) only [EX, ↓reduceIte]
                          refine ret1 rfl ?_
                          first | exact ⟨rfl, H.wk⟩ | exact absurd trivial ‹¬True› | exact absurd ‹false = true› (by decide) | (rcases hs0 with q | q <;> contradiction) | (exfalso; omega)
                        · skip
                          try simp only [HB] at c292
                          refine cw_skip ?_
                          refine h113 _ _ ?_
                          refine cw_region (lq_run ?_)
                          simp (maxSteps := 5000000) (decide := true) (disch := omega) only [EV, ↓reduceIte, Nat.reduceAdd, tt3, encK_f, L5, encV_f, encB_f8]
                          refine lq_nil ?_
                          refine Exists.intro (k + 1) ⟨⟨(.c rfl .n), (.c rfl (.c rfl (.c rfl (.c rfl (.c rfl (.c rfl (.c rfl (.c rfl (.c rfl (.c rfl (.c rfl .n)))))))))))⟩, ⟨by omega, H⟩, (by omega)⟩
                      · try simp only [HB] at g279
                        simp (maxSteps := 5000000) (decide := true) (disch := omega) only [EV, ↓reduceIte, Nat.reduceAdd, tt3, encK_f, L5, encV_f, encB_f8]
                        refine lq_nil ?_
                        refine h114 _ _ ?_
                        refine cw_condF rfl ?_
                        refine cw_skip ?_
                        refine h113 _ _ ?_
                        refine cw_region (lq_run ?_)
                        simp (maxSteps := 5000000) (decide := true) (disch := omega) only [EV, ↓reduceIte, Nat.reduceAdd, tt3, encK_f, L5, encV_f, encB_f8]
                        refine lq_nil ?_
                        refine Exists.intro (k + 1) ⟨⟨(.c rfl .n), (.c rfl (.c rfl (.c rfl (.c rfl (.c rfl (.c rfl (.c rfl (.c rfl (.c rfl (.c rfl (.c rfl .n)))))))))))⟩, ⟨by omega, H⟩, (by omega)⟩
                  · try simp only [HB] at g262
                    simp (maxSteps := 5000000) (decide := true) (disch := omega) only [EV, ↓reduceIte, Nat.reduceAdd, tt3, encK_f, L5, encV_f, encB_f8]
                    refine lq_G (fun g279 => ?_) (fun g279 => ?_)
                    · try simp only [HB] at g279
                      simp (maxSteps := 5000000) (decide := true) (disch := omega) only [EV, ↓reduceIte, Nat.reduceAdd, tt3, encK_f, L5, encV_f, encB_f8]
                      refine lq_idx (i' := i) H rfl rfl (Ent.os (L := []) (T := 23) (enc := encV) (n := 5) (c := 5) (xs := (List.range 5).map fun j => (f j).1)) (by simp) rfl (show _ = some (ra, rx.length, rc) by rw [firsts_at (by omega), hfi]) ?_
                      simp (maxSteps := 5000000) (decide := true) (disch := omega) only [EV, ↓reduceIte, Nat.reduceAdd, tt3, encK_f, L5, encV_f, encB_f8]
                      refine lq_loadE H rfl (Ent.os (L := []) (T := 23) (enc := encV) (n := 5) (c := 5) (xs := (List.range 5).map fun j => (f j).1)) (show _ = some (ra, rx.length, rc) by rw [firsts_at (by omega), hfi]) rfl ?_
                      simp (maxSteps := 5000000) (decide := true) (disch := omega) only [EV, ↓reduceIte, Nat.reduceAdd, tt3, encK_f, L5, encV_f, encB_f8]
                      refine lq_idx (i' := k) H rfl rfl (Ent.os (L := []) (T := 5) (enc := encB) (n := rx.length) (c := rc) (xs := rx)) (Nat.le_refl _) rfl (show rx[k]? = some (UInt8.ofNat (101 + i)) by rw [hrx]; exact rep_hi (by omega) (by omega)) ?_
                      simp (maxSteps := 5000000) (decide := true) (disch := omega) only [EV, ↓reduceIte, Nat.reduceAdd, tt3, encK_f, L5, encV_f, encB_f8]
                      refine lq_loadE H rfl (Ent.os (L := []) (T := 5) (enc := encB) (n := rx.length) (c := rc) (xs := rx)) (show rx[k]? = some (UInt8.ofNat (101 + i)) by rw [hrx]; exact rep_hi (by omega) (by omega)) rfl ?_
                      simp only [encB_f8, List.getElem?_cons_zero, toN8 (show 101 + i < 256 by omega)]
                      simp (maxSteps := 5000000) (decide := true) (disch := omega) only [EV, ↓reduceIte, Nat.reduceAdd, tt3, encK_f, L5, encV_f, encB_f8]
                      refine lq_nil ?_
                      refine h114 _ _ ?_
                      refine cw_condB rfl (fun c292 => ?_) (fun c292 => ?_)
                      · skip
                        try simp only [HB] at c292
                        refine cw_seq (fun K117 h117 => ?_)
                        refine cw_region (lq_run ?_)
                        simp (maxSteps := 5000000) (decide := true) (disch := omega) only [EV, ↓reduceIte, Nat.reduceAdd, tt3, encK_f, L5, encV_f, encB_f8]
                        refine lq_nil ?_
                        refine h117 _ _ ?_
                        refine cw_ret ?_
                        try simp (decide := true) only [EX, ↓reduceIte]
                        refine ret1 rfl ?_
                        first | exact ⟨rfl, H.wk⟩ | exact absurd trivial ‹¬True› | exact absurd ‹false = true› (by decide) | (rcases hs0 with q | q <;> contradiction) | (exfalso; omega)
                      · skip
                        try simp only [HB] at c292
                        refine cw_skip ?_
                        refine h113 _ _ ?_
                        refine cw_region (lq_run ?_)
                        simp (maxSteps := 5000000) (decide := true) (disch := omega) only [EV, ↓reduceIte, Nat.reduceAdd, tt3, encK_f, L5, encV_f, encB_f8]
                        refine lq_nil ?_
                        refine Exists.intro (k + 1) ⟨⟨(.c rfl .n), (.c rfl (.c rfl (.c rfl (.c rfl (.c rfl (.c rfl (.c rfl (.c rfl (.c rfl (.c rfl (.c rfl .n)))))))))))⟩, ⟨by omega, H⟩, (by omega)⟩
                    · try simp only [HB] at g279
                      simp (maxSteps := 5000000) (decide := true) (disch := omega) only [EV, ↓reduceIte, Nat.reduceAdd, tt3, encK_f, L5, encV_f, encB_f8]
                      refine lq_nil ?_
                      refine h114 _ _ ?_
                      refine cw_condF rfl ?_
                      refine cw_skip ?_
                      refine h113 _ _ ?_
                      refine cw_region (lq_run ?_)
                      simp (maxSteps := 5000000) (decide := true) (disch := omega) only [EV, ↓reduceIte, Nat.reduceAdd, tt3, encK_f, L5, encV_f, encB_f8]
                      refine lq_nil ?_
                      refine Exists.intro (k + 1) ⟨⟨(.c rfl .n), (.c rfl (.c rfl (.c rfl (.c rfl (.c rfl (.c rfl (.c rfl (.c rfl (.c rfl (.c rfl (.c rfl .n)))))))))))⟩, ⟨by omega, H⟩, (by omega)⟩
                · skip
                  try simp only [HB] at c256
                  refine cw_exit ?_
                  refine h109 _ _ ?_
                  refine cw_region (lq_run ?_)
                  simp (maxSteps := 5000000) (decide := true) (disch := omega) only [EV, ↓reduceIte, Nat.reduceAdd, tt3, encK_f, L5, encV_f, encB_f8]
                  refine lq_nil ?_
                  refine Exists.intro (i + 1) ⟨⟨(.c rfl .n), (.c rfl (.c rfl (.c rfl (.c rfl (.c rfl (.c rfl (.c rfl (.c rfl .n))))))))⟩, ⟨by omega, by have HH := Own.allPut (f := f) (s := (ra, rx.length, rc)) (xs := rx) (i := i) H (by omega); rwa [upd_self hfi] at HH⟩, (by omega)⟩
              · skip
                try simp only [HB] at c247
                refine cw_exit ?_
                refine h105 _ _ ?_
                refine cw_seq (fun K118 h118 => ?_)
                refine cw_region (lq_run ?_)
                simp (maxSteps := 5000000) (decide := true) (disch := omega) only [EV, ↓reduceIte, Nat.reduceAdd, tt3, encK_f, L5, encV_f, encB_f8]
                replace H : Own (StoreAt p S :: StoreAt p2 (restamp 5 S) :: Os 5 encB (.slice ao8 (snapB 2 S).length c8) (snapB 2 S) :: Os 48 encK (.slice aoK l1.length cK) l1 :: KeysR l1 :: F) w := H.wk
                refine lq_call rfl ?_
                refine Cl.mono (Build_good (H.tkR (R := StoreAt) (k := p2)) hfR.wf (by omega) (by omega) (by omega)) ?_
                rintro _ w ⟨ao12, c12, rfl, H⟩
                rw [restamp_bytes] at H ⊢
                simp (maxSteps := 5000000) (decide := true) (disch := omega) only [EV, ↓reduceIte, Nat.reduceAdd, tt3, encK_f, L5, encV_f, encB_f8]
                refine lq_nil ?_
                refine h118 _ _ ?_
                refine cw_seq (fun K119 h119 => ?_)
                refine cw_region (lq_run ?_)
                simp (maxSteps := 5000000) (decide := true) (disch := omega) only [EV, ↓reduceIte, Nat.reduceAdd, tt3, encK_f, L5, encV_f, encB_f8]
                refine lq_call rfl ?_
                refine Cl.mono (Build_good (H.tkR (R := StoreAt) (k := p)) hf.wf (by omega) (by omega) hbd) ?_
                rintro _ w ⟨ao13, c13, rfl, H⟩
                simp (maxSteps := 5000000) (decide := true) (disch := omega) only [EV, ↓reduceIte, Nat.reduceAdd, tt3, encK_f, L5, encV_f, encB_f8]
                refine lq_nil ?_
                refine h119 _ _ ?_
                refine cw_seq (fun K120 h120 => ?_)
                refine cw_region (lq_run ?_)
                simp (maxSteps := 5000000) (decide := true) (disch := omega) only [EV, ↓reduceIte, Nat.reduceAdd, tt3, encK_f, L5, encV_f, encB_f8]
                refine lq_call rfl ?_
                refine Cl.mono (same_ok H (Ent.up (M := Os 5 encB (.slice ao12 (snapB 2 S).length c12) (snapB 2 S) :: []) Ent.os) rfl (Ent.up (M := Os 5 encB (.slice ao8 (snapB 2 S).length c8) (snapB 2 S) :: []) Ent.os) rfl) ?_
                rintro _ w ⟨rfl, H⟩
                rw [show decide (snapB 2 S = snapB 2 S) = true from decide_eq_true rfl]
                simp (maxSteps := 5000000) (decide := true) (disch := omega) only [EV, ↓reduceIte, Nat.reduceAdd, tt3, encK_f, L5, encV_f, encB_f8]
                refine lq_call rfl ?_
                refine Cl.mono (same_ok H (Ent.up (M := Os 5 encB (.slice ao13 (snapB 2 S).length c13) (snapB 2 S) :: []) Ent.os) rfl (Ent.up (M := Os 5 encB (.slice ao8 (snapB 2 S).length c8) (snapB 2 S) :: []) Ent.os) rfl) ?_
                rintro _ w ⟨rfl, H⟩
                rw [show decide (snapB 2 S = snapB 2 S) = true from decide_eq_true rfl]
                simp (maxSteps := 5000000) (decide := true) (disch := omega) only [EV, ↓reduceIte, Nat.reduceAdd, tt3, encK_f, L5, encV_f, encB_f8]
                refine lq_call rfl ?_
                refine Cl.mono (Kept_ok (H.tkR (R := StoreAt) (k := p2)) hfR.V (fun x hx => by have := hfR.K x hx; omega)) ?_
                rintro _ w ⟨l3, aoP, cP, rfl, h3, H⟩
                simp (maxSteps := 5000000) (decide := true) (disch := omega) only [EV, ↓reduceIte, Nat.reduceAdd, tt3, encK_f, L5, encV_f, encB_f8]
                refine lq_call rfl ?_
                refine Cl.mono (sameKeptT_ok H (Ent.up (M := Os 48 encK (.slice aoK l1.length cK) l1 :: []) Ent.os) rfl (Ent.up (M := Os 48 encK (.slice aoP l3.length cP) l3 :: []) Ent.os) rfl (fun x hx => (KeysR.ent (L := []) hx).up) (fun x hx => (KeysR.ent (L := []) hx).up) (len_eq h1 h3 rfl) hK1.1 hK1.2 (fun i x y hx hy => same_get h1 h3 hx hy)) ?_
                rintro _ w ⟨rfl, H⟩
                simp (maxSteps := 5000000) (decide := true) (disch := omega) only [EV, ↓reduceIte, Nat.reduceAdd, tt3, encK_f, L5, encV_f, encB_f8]
                refine lq_nil ?_
                refine h120 _ _ ?_
                refine cw_ret ?_
                try simp (decide := true) only [EX, ↓reduceIte]
                refine ret1 rfl ?_
                first | exact ⟨rfl, H.wk⟩ | exact absurd trivial ‹¬True› | exact absurd ‹false = true› (by decide) | (rcases hs0 with q | q <;> contradiction) | (exfalso; omega)
    · try simp only [HB] at g79
      simp (maxSteps := 5000000) (decide := true) (disch := omega) only [EV, ↓reduceIte, Nat.reduceAdd, tt3, encK_f, L5, encV_f, encB_f8]
      refine lq_nil ?_
      refine h65 _ _ ?_
      refine cw_condF rfl ?_
      refine cw_skip ?_
      refine h6 _ _ ?_
      refine cw_seq (fun K121 h121 => ?_)
      refine cw_region (lq_run ?_)
      simp (maxSteps := 5000000) (decide := true) (disch := omega) only [EV, ↓reduceIte, Nat.reduceAdd, tt3, encK_f, L5, encV_f, encB_f8]
      replace H : Own F w := H.wk
      refine lq_call rfl ?_
      refine Cl.mono (made_ok H hR1 rfl hS1 hb1) ?_
      rintro _ w ⟨p, rfl, H⟩
      have hf := Fits.run hS1
      obtain ⟨S, hSS⟩ : ∃ S, S = runS ⟨[], []⟩ ops := ⟨_, rfl⟩
      rw [← hSS] at H hf
      have hbd := hf.body 2
      have hsl := snapB_length 2 S
      have hsl2 := bodyB_len 2 S
      have hfR := hf.restamp (now := 5) (by omega)
      have hlR := len_restamp 5 2 S
      simp (maxSteps := 5000000) (decide := true) (disch := omega) only [EV, ↓reduceIte, Nat.reduceAdd, tt3, encK_f, L5, encV_f, encB_f8]
      refine lq_nil ?_
      refine h121 _ _ ?_
      refine cw_seq (fun K122 h122 => ?_)
      refine cw_seq (fun K123 h123 => ?_)
      refine cw_region (lq_run ?_)
      simp (maxSteps := 5000000) (decide := true) (disch := omega) only [EV, ↓reduceIte, Nat.reduceAdd, tt3, encK_f, L5, encV_f, encB_f8]
      refine lq_nil ?_
      refine h123 _ _ ?_
      refine cw_condF rfl ?_
      refine cw_skip ?_
      refine h122 _ _ ?_
      refine cw_seq (fun K124 h124 => ?_)
      refine cw_region (lq_run ?_)
      simp (maxSteps := 5000000) (decide := true) (disch := omega) only [EV, ↓reduceIte, Nat.reduceAdd, tt3, encK_f, L5, encV_f, encB_f8]
      refine lq_call rfl ?_
      refine Cl.mono (Build_good H hf.wf (by omega) (by omega) hbd) ?_
      rintro _ w ⟨ao3, c3, rfl, H⟩
      simp (maxSteps := 5000000) (decide := true) (disch := omega) only [EV, ↓reduceIte, Nat.reduceAdd, tt3, encK_f, L5, encV_f, encB_f8]
      refine lq_nil ?_
      refine h124 _ _ ?_
      refine cw_seq (fun K125 h125 => ?_)
      refine cw_region (lq_run ?_)
      simp (maxSteps := 5000000) (decide := true) (disch := omega) only [EV, ↓reduceIte, Nat.reduceAdd, tt3, encK_f, L5, encV_f, encB_f8]
      refine lq_call rfl ?_
      refine Cl.mono (Build_good (H.tkR (R := StoreAt) (k := p)) hf.wf (by omega) (by omega) hbd) ?_
      rintro _ w ⟨ao5, c5, rfl, H⟩
      simp (maxSteps := 5000000) (decide := true) (disch := omega) only [EV, ↓reduceIte, Nat.reduceAdd, tt3, encK_f, L5, encV_f, encB_f8]
      refine lq_nil ?_
      refine h125 _ _ ?_
      refine cw_seq (fun K126 h126 => ?_)
      refine cw_seq (fun K127 h127 => ?_)
      refine cw_region (lq_run ?_)
      simp (maxSteps := 5000000) (decide := true) (disch := omega) only [EV, ↓reduceIte, Nat.reduceAdd, tt3, encK_f, L5, encV_f, encB_f8]
      refine lq_call rfl ?_
      refine Cl.mono (same_ok H (Ent.up (M := Os 5 encB (.slice ao3 (snapB 2 S).length c3) (snapB 2 S) :: []) Ent.os) rfl (Ent.up (M := Os 5 encB (.slice ao5 (snapB 2 S).length c5) (snapB 2 S) :: []) Ent.os) rfl) ?_
      rintro _ w ⟨rfl, H⟩
      rw [show decide (snapB 2 S = snapB 2 S) = true from decide_eq_true rfl]
      simp (maxSteps := 5000000) (decide := true) (disch := omega) only [EV, ↓reduceIte, Nat.reduceAdd, tt3, encK_f, L5, encV_f, encB_f8]
      refine lq_nil ?_
      refine h127 _ _ ?_
      refine cw_condB rfl (fun c114 => ?_) (fun c114 => ?_)
      · skip
        try simp only [HB] at c114
        refine cw_seq (fun K128 h128 => ?_)
        refine cw_region (lq_run ?_)
        simp (maxSteps := 5000000) (decide := true) (disch := omega) only [EV, ↓reduceIte, Nat.reduceAdd, tt3, encK_f, L5, encV_f, encB_f8]
        refine lq_nil ?_
        refine h128 _ _ ?_
        refine cw_ret ?_
        try simp (decide := true) only [EX, ↓reduceIte]
        refine ret1 rfl ?_
        first | exact ⟨rfl, H.wk⟩ | exact absurd trivial ‹¬True› | exact absurd ‹false = true› (by decide) | (rcases hs0 with q | q <;> contradiction) | (exfalso; omega)
      · skip
        try simp only [HB] at c114
        refine cw_skip ?_
        refine h126 _ _ ?_
        refine cw_seq (fun K129 h129 => ?_)
        refine cw_region (lq_run ?_)
        simp (maxSteps := 5000000) (decide := true) (disch := omega) only [EV, ↓reduceIte, Nat.reduceAdd, tt3, encK_f, L5, encV_f, encB_f8]
        replace H : Own (Os 5 encB (.slice ao3 (snapB 2 S).length c3) (snapB 2 S) :: Os 5 encB (.slice ao5 (snapB 2 S).length c5) (snapB 2 S) :: StoreAt p S :: F) w := H.wk
        refine lq_call rfl ?_
        refine Cl.mono (own_ok H Ent.os rfl (by omega)) ?_
        rintro _ w ⟨ao6, c6, rfl, hc6, H⟩
        simp (maxSteps := 5000000) (decide := true) (disch := omega) only [EV, ↓reduceIte, Nat.reduceAdd, tt3, encK_f, L5, encV_f, encB_f8]
        refine lq_bs H rfl rfl (by rfl) rfl (by decide) (fun b117 w H => ?_)
        try simp only [ES, encK_f, L5, encV_f, encB_f8] at H
        replace H := H.os encB [161, 162] rfl rfl
        simp (maxSteps := 5000000) (decide := true) (disch := omega) only [EV, ↓reduceIte, Nat.reduceAdd, tt3, encK_f, L5, encV_f, encB_f8]
        refine lq_appR (enc := encB) (xs := snapB 2 S) H rfl rfl (Ent.os (L := []) (T := 5) (enc := encB) (n := 2) (c := 2) (xs := [161, 162])) rfl (by rw [show encB.n = 1 from rfl]; simp; omega) (fun ao7 c7 w H => ?_)
        have hc7 := H.oscap
        have h07 := H.os0 1 (snapB 2 S).length
        simp only [List.length_cons, List.length_nil, Nat.zero_add, Nat.reduceAdd] at H hc7 h07 ⊢
        have hpre : Ent [Os 5 encB (.slice ao7 ((snapB 2 S).length + 2) c7) (snapB 2 S ++ [161, 162])] (Row ao7 encB (snapB 2 S)) := by
          have := Ent.pref (T := 5) (enc := encB) (n := (snapB 2 S).length + 2) (xs := snapB 2 S ++ [161, 162]) (L := []) (snapB 2 S).length (by omega) h07
          rwa [List.take_left' rfl] at this
        simp (maxSteps := 5000000) (decide := true) (disch := omega) only [EV, ↓reduceIte, Nat.reduceAdd, tt3, encK_f, L5, encV_f, encB_f8]
        refine lq_nil ?_
        refine h129 _ _ ?_
        refine cw_seq (fun K130 h130 => ?_)
        refine cw_region (lq_run ?_)
        simp (maxSteps := 5000000) (decide := true) (disch := omega) only [EV, ↓reduceIte, Nat.reduceAdd, tt3, encK_f, L5, encV_f, encB_f8]
        refine lq_sub 0 (snapB 2 S).length (snapB 2 S).length rfl rfl ⟨_, _, rfl, rfl⟩ ⟨by omega, by omega, nofun⟩ (by omega) ?_
        rw [h07]
        simp (maxSteps := 5000000) (decide := true) (disch := omega) only [EV, ↓reduceIte, Nat.reduceAdd, tt3, encK_f, L5, encV_f, encB_f8]
        refine lq_call rfl ?_
        refine Cl.mono (Read_good H hpre.up rfl (by omega) hf.wf (by omega) (by omega) hbd (by omega)) ?_
        rintro _ w ⟨p2, rfl, H⟩
        simp (maxSteps := 5000000) (decide := true) (disch := omega) only [EV, ↓reduceIte, Nat.reduceAdd, tt3, encK_f, L5, encV_f, encB_f8]
        refine lq_nil ?_
        refine h130 _ _ ?_
        refine cw_seq (fun K131 h131 => ?_)
        refine cw_seq (fun K132 h132 => ?_)
        refine cw_region (lq_run ?_)
        simp (maxSteps := 5000000) (decide := true) (disch := omega) only [EV, ↓reduceIte, Nat.reduceAdd, tt3, encK_f, L5, encV_f, encB_f8]
        refine lq_sub 0 (snapB 2 S).length (snapB 2 S).length rfl rfl ⟨_, _, rfl, rfl⟩ ⟨by omega, by omega, nofun⟩ (by omega) ?_
        rw [h07]
        simp (maxSteps := 5000000) (decide := true) (disch := omega) only [EV, ↓reduceIte, Nat.reduceAdd, tt3, encK_f, L5, encV_f, encB_f8]
        refine lq_call rfl ?_
        refine Cl.mono (same_ok H hpre.up rfl (Ent.up (M := Os 5 encB (.slice ao3 (snapB 2 S).length c3) (snapB 2 S) :: []) Ent.os) rfl) ?_
        rintro _ w ⟨rfl, H⟩
        rw [show decide (snapB 2 S = snapB 2 S) = true from decide_eq_true rfl]
        simp (maxSteps := 5000000) (decide := true) (disch := omega) only [EV, ↓reduceIte, Nat.reduceAdd, tt3, encK_f, L5, encV_f, encB_f8]
        refine lq_idx (i' := (snapB 2 S).length) H rfl rfl (Ent.os (L := []) (T := 5) (enc := encB) (n := (snapB 2 S).length + 2) (c := c7) (xs := snapB 2 S ++ [161, 162])) (by simp) rfl (show (snapB 2 S ++ [161, 162])[(snapB 2 S).length]? = some 161 by simp) ?_
        simp (maxSteps := 5000000) (decide := true) (disch := omega) only [EV, ↓reduceIte, Nat.reduceAdd, tt3, encK_f, L5, encV_f, encB_f8]
        refine lq_loadE H rfl (Ent.os (L := []) (T := 5) (enc := encB) (n := (snapB 2 S).length + 2) (c := c7) (xs := snapB 2 S ++ [161, 162])) (show (snapB 2 S ++ [161, 162])[(snapB 2 S).length]? = some 161 by simp) rfl ?_
        simp (maxSteps := 5000000) (decide := true) (disch := omega) only [EV, ↓reduceIte, Nat.reduceAdd, tt3, encK_f, L5, encV_f, encB_f8]
        refine lq_idx (i' := (snapB 2 S).length + 1) H rfl rfl (Ent.os (L := []) (T := 5) (enc := encB) (n := (snapB 2 S).length + 2) (c := c7) (xs := snapB 2 S ++ [161, 162])) (by simp) rfl (show (snapB 2 S ++ [161, 162])[(snapB 2 S).length + 1]? = some 162 by simp) ?_
        simp (maxSteps := 5000000) (decide := true) (disch := omega) only [EV, ↓reduceIte, Nat.reduceAdd, tt3, encK_f, L5, encV_f, encB_f8]
        refine lq_loadE H rfl (Ent.os (L := []) (T := 5) (enc := encB) (n := (snapB 2 S).length + 2) (c := c7) (xs := snapB 2 S ++ [161, 162])) (show (snapB 2 S ++ [161, 162])[(snapB 2 S).length + 1]? = some 162 by simp) rfl ?_
        simp (maxSteps := 5000000) (decide := true) (disch := omega) only [EV, ↓reduceIte, Nat.reduceAdd, tt3, encK_f, L5, encV_f, encB_f8]
        refine lq_nil ?_
        refine h132 _ _ ?_
        refine cw_condF rfl ?_
        refine cw_skip ?_
        refine h131 _ _ ?_
        refine cw_seq (fun K133 h133 => ?_)
        refine cw_region (lq_run ?_)
        simp (maxSteps := 5000000) (decide := true) (disch := omega) only [EV, ↓reduceIte, Nat.reduceAdd, tt3, encK_f, L5, encV_f, encB_f8]
        refine lq_call rfl ?_
        refine Cl.mono (Kept_ok (H.tkR (R := StoreAt) (k := p2)) hfR.V (fun x hx => by have := hfR.K x hx; omega)) ?_
        rintro _ w ⟨l1, aoK, cK, rfl, h1, H⟩
        have hK1 := hfR.Kl h1
        have H9 : Own (Os 5 encB (.slice ao3 (snapB 2 S).length c3) (snapB 2 S) :: Os 5 encB (.slice ao5 (snapB 2 S).length c5) (snapB 2 S) :: Os 48 encK (.slice aoK l1.length cK) l1 :: KeysR l1 :: StoreAt p2 (restamp 5 S) :: Os 5 encB (.slice ao7 ((snapB 2 S).length + 2) c7) (snapB 2 S ++ [161, 162]) :: StoreAt p S :: F) w := H.wk
        replace H := H9
        clear H9
        simp (maxSteps := 5000000) (decide := true) (disch := omega) only [EV, ↓reduceIte, Nat.reduceAdd, tt3, encK_f, L5, encV_f, encB_f8]
        refine lq_nil ?_
        refine h133 _ _ ?_
        refine cw_seq (fun K134 h134 => ?_)
        refine cw_region (lq_run ?_)
        simp (maxSteps := 5000000) (decide := true) (disch := omega) only [EV, ↓reduceIte, Nat.reduceAdd, tt3, encK_f, L5, encV_f, encB_f8]
        refine lq_nil ?_
        refine h134 _ _ ?_
        refine cw_seq (fun K135 h135 => ?_)
        refine cw_region (lq_run ?_)
        simp (maxSteps := 5000000) (decide := true) (disch := omega) only [EV, ↓reduceIte, Nat.reduceAdd, tt3, encK_f, L5, encV_f, encB_f8]
        refine lq_call rfl ?_
        refine Cl.mono (own_ok H Ent.os rfl (by omega)) ?_
        rintro _ w ⟨ao8, c8, rfl, hc8, H⟩
        simp (maxSteps := 5000000) (decide := true) (disch := omega) only [EV, ↓reduceIte, Nat.reduceAdd, tt3, encK_f, L5, encV_f, encB_f8]
        refine lq_nil ?_
        refine h135 _ _ ?_
        refine cw_seq (fun K136 h136 => ?_)
        refine cw_region (lq_run ?_)
        simp (maxSteps := 5000000) (decide := true) (disch := omega) only [EV, ↓reduceIte, Nat.reduceAdd, tt3, encK_f, L5, encV_f, encB_f8]
        refine lq_call rfl ?_
        refine Cl.mono (Build_good (H.tkR (R := StoreAt) (k := p2)) hfR.wf (by omega) (by omega) (by omega)) ?_
        rintro _ w ⟨ao9, c9, rfl, H⟩
        rw [restamp_bytes] at H ⊢
        simp (maxSteps := 5000000) (decide := true) (disch := omega) only [EV, ↓reduceIte, Nat.reduceAdd, tt3, encK_f, L5, encV_f, encB_f8]
        refine lq_nil ?_
        refine h136 _ _ ?_
        refine cw_seq (fun K137 h137 => ?_)
        refine cw_region (lq_run ?_)
        simp (maxSteps := 5000000) (decide := true) (disch := omega) only [EV, ↓reduceIte, Nat.reduceAdd, tt3, encK_f, L5, encV_f, encB_f8]
        refine lq_call rfl ?_
        refine Cl.mono (Build_good (H.tkR (R := StoreAt) (k := p)) hf.wf (by omega) (by omega) hbd) ?_
        rintro _ w ⟨ao10, c10, rfl, H⟩
        simp (maxSteps := 5000000) (decide := true) (disch := omega) only [EV, ↓reduceIte, Nat.reduceAdd, tt3, encK_f, L5, encV_f, encB_f8]
        refine lq_nil ?_
        refine h137 _ _ ?_
        refine cw_seq (fun K138 h138 => ?_)
        refine cw_seq (fun K139 h139 => ?_)
        refine cw_region (lq_run ?_)
        simp (maxSteps := 5000000) (decide := true) (disch := omega) only [EV, ↓reduceIte, Nat.reduceAdd, tt3, encK_f, L5, encV_f, encB_f8]
        refine lq_call rfl ?_
        refine Cl.mono (same_ok H (Ent.up (M := Os 5 encB (.slice ao9 (snapB 2 S).length c9) (snapB 2 S) :: []) Ent.os) rfl (Ent.up (M := Os 5 encB (.slice ao8 (snapB 2 S).length c8) (snapB 2 S) :: []) Ent.os) rfl) ?_
        rintro _ w ⟨rfl, H⟩
        rw [show decide (snapB 2 S = snapB 2 S) = true from decide_eq_true rfl]
        simp (maxSteps := 5000000) (decide := true) (disch := omega) only [EV, ↓reduceIte, Nat.reduceAdd, tt3, encK_f, L5, encV_f, encB_f8]
        refine lq_call rfl ?_
        refine Cl.mono (same_ok H (Ent.up (M := Os 5 encB (.slice ao10 (snapB 2 S).length c10) (snapB 2 S) :: []) Ent.os) rfl (Ent.up (M := Os 5 encB (.slice ao8 (snapB 2 S).length c8) (snapB 2 S) :: []) Ent.os) rfl) ?_
        rintro _ w ⟨rfl, H⟩
        rw [show decide (snapB 2 S = snapB 2 S) = true from decide_eq_true rfl]
        simp (maxSteps := 5000000) (decide := true) (disch := omega) only [EV, ↓reduceIte, Nat.reduceAdd, tt3, encK_f, L5, encV_f, encB_f8]
        refine lq_call rfl ?_
        refine Cl.mono (same_ok H (Ent.up (M := Os 5 encB (.slice ao5 (snapB 2 S).length c5) (snapB 2 S) :: []) Ent.os) rfl (Ent.up (M := Os 5 encB (.slice ao8 (snapB 2 S).length c8) (snapB 2 S) :: []) Ent.os) rfl) ?_
        rintro _ w ⟨rfl, H⟩
        rw [show decide (snapB 2 S = snapB 2 S) = true from decide_eq_true rfl]
        simp (maxSteps := 5000000) (decide := true) (disch := omega) only [EV, ↓reduceIte, Nat.reduceAdd, tt3, encK_f, L5, encV_f, encB_f8]
        refine lq_nil ?_
        refine h139 _ _ ?_
        refine cw_condF rfl ?_
        refine cw_skip ?_
        refine h138 _ _ ?_
        refine cw_seq (fun K140 h140 => ?_)
        refine cw_region (lq_run ?_)
        simp (maxSteps := 5000000) (decide := true) (disch := omega) only [EV, ↓reduceIte, Nat.reduceAdd, tt3, encK_f, L5, encV_f, encB_f8]
        refine lq_bs H rfl rfl (by rfl) rfl (by decide) (fun b205 w H => ?_)
        try simp only [ES, encK_f, L5, encV_f, encB_f8] at H
        replace H := H.os encV [(ao3, (snapB 2 S).length, c3), (ao5, (snapB 2 S).length, c5), (ao9, (snapB 2 S).length, c9), (ao10, (snapB 2 S).length, c10), (ao7, (snapB 2 S).length + 2, c7)] rfl rfl
        change Own (Os 23 encV (.slice (some ⟨b205, 0, none⟩) 5 5) _ :: _) w at H
        replace H : Own (AllR (five ((ao3, (snapB 2 S).length, c3), snapB 2 S) ((ao5, (snapB 2 S).length, c5), snapB 2 S) ((ao9, (snapB 2 S).length, c9), snapB 2 S) ((ao10, (snapB 2 S).length, c10), snapB 2 S) ((ao7, (snapB 2 S).length + 2, c7), snapB 2 S ++ [161, 162])) :: Os 23 encV (.slice (some ⟨b205, 0, none⟩) 5 5) ((List.range 5).map fun j => ((five ((ao3, (snapB 2 S).length, c3), snapB 2 S) ((ao5, (snapB 2 S).length, c5), snapB 2 S) ((ao9, (snapB 2 S).length, c9), snapB 2 S) ((ao10, (snapB 2 S).length, c10), snapB 2 S) ((ao7, (snapB 2 S).length + 2, c7), snapB 2 S ++ [161, 162])) j).1) :: StoreAt p S :: StoreAt p2 (restamp 5 S) :: Os 5 encB (.slice ao8 (snapB 2 S).length c8) (snapB 2 S) :: Os 48 encK (.slice aoK l1.length cK) l1 :: KeysR l1 :: F) w := by
          have H9 : Own (Os 5 encB (.slice ao3 (snapB 2 S).length c3) (snapB 2 S) :: Os 5 encB (.slice ao5 (snapB 2 S).length c5) (snapB 2 S) :: Os 5 encB (.slice ao9 (snapB 2 S).length c9) (snapB 2 S) :: Os 5 encB (.slice ao10 (snapB 2 S).length c10) (snapB 2 S) :: Os 5 encB (.slice ao7 ((snapB 2 S).length + 2) c7) (snapB 2 S ++ [161, 162]) :: Os 23 encV (.slice (some ⟨b205, 0, none⟩) 5 5) ([(ao3, (snapB 2 S).length, c3), (ao5, (snapB 2 S).length, c5), (ao9, (snapB 2 S).length, c9), (ao10, (snapB 2 S).length, c10), (ao7, (snapB 2 S).length + 2, c7)]) :: StoreAt p S :: StoreAt p2 (restamp 5 S) :: Os 5 encB (.slice ao8 (snapB 2 S).length c8) (snapB 2 S) :: Os 48 encK (.slice aoK l1.length cK) l1 :: KeysR l1 :: F) w := H.wk
          exact Sep.flat.2 H9
        simp (maxSteps := 5000000) (decide := true) (disch := omega) only [EV, ↓reduceIte, Nat.reduceAdd, tt3, encK_f, L5, encV_f, encB_f8]
        refine lq_nil ?_
        refine h140 _ _ ?_
        refine cw_seq (fun K141 h141 => ?_)
        refine cw_seq (fun K142 h142 => ?_)
        refine cw_region (lq_run ?_)
        simp (maxSteps := 5000000) (decide := true) (disch := omega) only [EV, ↓reduceIte, Nat.reduceAdd, tt3, encK_f, L5, encV_f, encB_f8]
        refine lq_nil ?_
        refine h142 _ _ ?_
        refine cw_block ?_
        refine cw_loopC (X := Nat × (Nat → Sl × List UInt8)) [(4, _), (11, _), (18, _), (20, _), (21, _), (22, _), (24, _), (26, _), (27, _)] (fun x => [(28, .int .i64 (x.1 : Int))]) (fun x w => (x.1 ≤ 5 ∧ Len5 (snapB 2 S).length x.2 ∧ (∀ j, j < x.1 → (x.2 j).2.take (snapB 2 S).length = List.replicate (snapB 2 S).length (UInt8.ofNat (1 + j))) ∧ ∀ j, j < 4 → (x.2 j).2.length = (snapB 2 S).length) ∧ Own (AllR x.2 :: Os 23 encV (.slice (some ⟨b205, 0, none⟩) 5 5) ((List.range 5).map fun j => (x.2 j).1) :: StoreAt p S :: StoreAt p2 (restamp 5 S) :: Os 5 encB (.slice ao8 (snapB 2 S).length c8) (snapB 2 S) :: Os 48 encK (.slice aoK l1.length cK) l1 :: KeysR l1 :: F) w) (fun x => 5 - x.1) (0, five ((ao3, (snapB 2 S).length, c3), snapB 2 S) ((ao5, (snapB 2 S).length, c5), snapB 2 S) ((ao9, (snapB 2 S).length, c9), snapB 2 S) ((ao10, (snapB 2 S).length, c10), snapB 2 S) ((ao7, (snapB 2 S).length + 2, c7), snapB 2 S ++ [161, 162])) (.c rfl (.c rfl (.c rfl (.c rfl (.c rfl (.c rfl (.c rfl (.c rfl (.c rfl .n))))))))) (.c rfl .n) ⟨⟨Nat.zero_le _, five_len ⟨rfl, Nat.le_refl _⟩ ⟨rfl, Nat.le_refl _⟩ ⟨rfl, Nat.le_refl _⟩ ⟨rfl, Nat.le_refl _⟩ ⟨by simp, by simp⟩, fun j hj => absurd hj (Nat.not_lt_zero _), five_l4 rfl rfl rfl rfl⟩, H⟩ ?_
        rintro ⟨i, f⟩ w ⟨⟨hi5, hlen, hdn, hl4⟩, H⟩
        simp only [List.cons_append, List.nil_append]
        simp only at hi5 hlen hdn hl4 H ⊢
        refine cw_seq (fun K143 h143 => ?_)
        refine cw_seq (fun K144 h144 => ?_)
        refine cw_region (lq_run ?_)
        simp (maxSteps := 5000000) (decide := true) (disch := omega) only [EV, ↓reduceIte, Nat.reduceAdd, tt3, encK_f, L5, encV_f, encB_f8]
        refine lq_nil ?_
        refine h144 _ _ ?_
        refine cw_condB rfl (fun c209 => ?_) (fun c209 => ?_)
        · skip
          try simp only [HB] at c209
          refine cw_skip ?_
          refine h143 _ _ ?_
          refine cw_seq (fun K145 h145 => ?_)
          refine cw_block ?_
          refine cw_seq (fun K146 h146 => ?_)
          refine cw_region (lq_run ?_)
          obtain ⟨⟨⟨ra, rl, rc⟩, rx⟩, hfi⟩ : ∃ y, f i = y := ⟨_, rfl⟩
          have hL := hlen i (by omega)
          rw [hfi] at hL
          simp only at hL
          obtain rfl : rl = rx.length := hL.1
          have H2 := H.allTake (i := i) (by omega)
          rw [hfi] at H2
          replace H : Own (Os 5 encB (.slice ra rx.length rc) rx :: rest5 i f :: Os 23 encV (.slice (some ⟨b205, 0, none⟩) 5 5) ((List.range 5).map fun j => (f j).1) :: StoreAt p S :: StoreAt p2 (restamp 5 S) :: Os 5 encB (.slice ao8 (snapB 2 S).length c8) (snapB 2 S) :: Os 48 encK (.slice aoK l1.length cK) l1 :: KeysR l1 :: F) w := H2
          have hrl := hL.2
          have hr4 : i < 4 → rx.length = (snapB 2 S).length := fun q => by have := hl4 i q; rwa [hfi] at this
          simp (maxSteps := 5000000) (decide := true) (disch := omega) only [EV, ↓reduceIte, Nat.reduceAdd, tt3, encK_f, L5, encV_f, encB_f8]
          refine lq_nil ?_
          refine h146 _ _ ?_
          refine cw_block ?_
          refine cw_loopC (X := Nat × List UInt8) [(4, _), (11, _), (18, _), (20, _), (21, _), (22, _), (24, _), (26, _), (27, _), (28, _), (206, _), (207, _), (208, _), (209, _)] (fun x => [(29, .int .i64 (x.1 : Int))]) (fun x w => (x.1 ≤ (snapB 2 S).length ∧ x.2.length = rx.length ∧ x.2.take x.1 = List.replicate x.1 (UInt8.ofNat (1 + i))) ∧ Own (Os 5 encB (.slice ra rx.length rc) x.2 :: rest5 i f :: Os 23 encV (.slice (some ⟨b205, 0, none⟩) 5 5) ((List.range 5).map fun j => (f j).1) :: StoreAt p S :: StoreAt p2 (restamp 5 S) :: Os 5 encB (.slice ao8 (snapB 2 S).length c8) (snapB 2 S) :: Os 48 encK (.slice aoK l1.length cK) l1 :: KeysR l1 :: F) w) (fun x => (snapB 2 S).length - x.1) (0, rx) (.c rfl (.c rfl (.c rfl (.c rfl (.c rfl (.c rfl (.c rfl (.c rfl (.c rfl (.c rfl (.c rfl (.c rfl (.c rfl (.c rfl .n)))))))))))))) (.c rfl .n) ⟨⟨Nat.zero_le _, rfl, rfl⟩, H⟩ ?_
          rintro ⟨k, ys⟩ w ⟨⟨hk, hyl, hyt⟩, H⟩
          simp only [List.cons_append, List.nil_append]
          simp only at hk hyl hyt H ⊢
          refine cw_seq (fun K147 h147 => ?_)
          refine cw_seq (fun K148 h148 => ?_)
          refine cw_region (lq_run ?_)
          simp (maxSteps := 5000000) (decide := true) (disch := omega) only [EV, ↓reduceIte, Nat.reduceAdd, tt3, encK_f, L5, encV_f, encB_f8]
          refine lq_nil ?_
          refine h148 _ _ ?_
          refine cw_condB rfl (fun c214 => ?_) (fun c214 => ?_)
          · skip
            try simp only [HB] at c214
            refine cw_skip ?_
            refine h147 _ _ ?_
            refine cw_seq (fun K149 h149 => ?_)
            refine cw_block ?_
            refine cw_region (lq_run ?_)
            simp (maxSteps := 5000000) (decide := true) (disch := omega) only [EV, ↓reduceIte, Nat.reduceAdd, tt3, encK_f, L5, encV_f, encB_f8]
            refine lq_idx (i' := i) H rfl rfl (Ent.os (L := []) (T := 23) (enc := encV) (n := 5) (c := 5) (xs := (List.range 5).map fun j => (f j).1)) (by simp) rfl (show _ = some (ra, rx.length, rc) by rw [firsts_at (by omega), hfi]) ?_
            simp (maxSteps := 5000000) (decide := true) (disch := omega) only [EV, ↓reduceIte, Nat.reduceAdd, tt3, encK_f, L5, encV_f, encB_f8]
            refine lq_loadE H rfl (Ent.os (L := []) (T := 23) (enc := encV) (n := 5) (c := 5) (xs := (List.range 5).map fun j => (f j).1)) (show _ = some (ra, rx.length, rc) by rw [firsts_at (by omega), hfi]) rfl ?_
            simp (maxSteps := 5000000) (decide := true) (disch := omega) only [EV, ↓reduceIte, Nat.reduceAdd, tt3, encK_f, L5, encV_f, encB_f8]
            refine lq_idx (i' := k) H rfl rfl (Ent.os (L := []) (T := 5) (enc := encB) (n := rx.length) (c := rc) (xs := ys)) (by omega) rfl (List.getElem?_eq_getElem (show k < ys.length by omega)) ?_
            simp (maxSteps := 5000000) (decide := true) (disch := omega) only [EV, ↓reduceIte, Nat.reduceAdd, tt3, encK_f, L5, encV_f, encB_f8]
            refine lq_stO (T := 5) (enc := encB) (n := rx.length) (c := rc) (xs := ys) (i := k) (UInt8.ofNat (1 + i)) H rfl rfl rfl (enc8 (by omega) (by omega)) rfl (by omega) (fun w H => ?_)
            simp (maxSteps := 5000000) (decide := true) (disch := omega) only [EV, ↓reduceIte, Nat.reduceAdd, tt3, encK_f, L5, encV_f, encB_f8]
            refine lq_nil ?_
            refine h149 _ _ ?_
            refine cw_region (lq_run ?_)
            simp (maxSteps := 5000000) (decide := true) (disch := omega) only [EV, ↓reduceIte, Nat.reduceAdd, tt3, encK_f, L5, encV_f, encB_f8]
            refine lq_nil ?_
            refine Exists.intro (k + 1, ys.set k (UInt8.ofNat (1 + i))) ⟨⟨(.c rfl .n), (.c rfl (.c rfl (.c rfl (.c rfl (.c rfl (.c rfl (.c rfl (.c rfl (.c rfl (.c rfl (.c rfl (.c rfl (.c rfl (.c rfl .n))))))))))))))⟩, ⟨⟨by omega, by rw [List.length_set]; exact hyl, take_set_rep hyt (by omega)⟩, H⟩, (by simp only; omega)⟩
          · skip
            try simp only [HB] at c214
            refine cw_exit ?_
            refine h145 _ _ ?_
            refine cw_region (lq_run ?_)
            simp (maxSteps := 5000000) (decide := true) (disch := omega) only [EV, ↓reduceIte, Nat.reduceAdd, tt3, encK_f, L5, encV_f, encB_f8]
            refine lq_nil ?_
            refine Exists.intro (i + 1, upd f i ((ra, rx.length, rc), ys)) ⟨⟨(.c rfl .n), (.c rfl (.c rfl (.c rfl (.c rfl (.c rfl (.c rfl (.c rfl (.c rfl (.c rfl .n)))))))))⟩, ⟨⟨by omega, upd_len hlen hyl.symm (by simp only; omega), upd_done (g := fun j => UInt8.ofNat (1 + j)) hdn (done_at hyt (by omega)), upd_l4 hl4 (fun q => by simp only; rw [hyl]; exact hr4 q)⟩, by rw [firsts_upd (by rw [hfi])]; exact Own.allPut (s := (ra, rx.length, rc)) H (by omega)⟩, (by simp only; omega)⟩
        · skip
          try simp only [HB] at c209
          refine cw_exit ?_
          refine h141 _ _ ?_
          refine cw_seq (fun K150 h150 => ?_)
          refine cw_seq (fun K151 h151 => ?_)
          refine cw_region (lq_run ?_)
          simp (maxSteps := 5000000) (decide := true) (disch := omega) only [EV, ↓reduceIte, Nat.reduceAdd, tt3, encK_f, L5, encV_f, encB_f8]
          refine lq_nil ?_
          refine h151 _ _ ?_
          refine cw_block ?_
          refine cw_loopC (X := Nat × (Nat → Sl × List UInt8)) [(4, _), (11, _), (18, _), (20, _), (21, _), (22, _), (24, _), (26, _), (27, _)] (fun x => [(30, .int .i64 (x.1 : Int))]) (fun x w => (x.1 ≤ 4 ∧ (∀ j, j < 5 → (x.2 j).1.2.1 = (x.2 j).2.length) ∧ (∀ j, j < x.1 → (x.2 j).2 = List.replicate (snapB 2 S).length (UInt8.ofNat (1 + j)) ++ List.replicate 80 (UInt8.ofNat (101 + j))) ∧ ∀ j, x.1 ≤ j → j < 4 → (x.2 j).2 = List.replicate (snapB 2 S).length (UInt8.ofNat (1 + j))) ∧ Own (AllR x.2 :: Os 23 encV (.slice (some ⟨b205, 0, none⟩) 5 5) ((List.range 5).map fun j => (x.2 j).1) :: StoreAt p S :: StoreAt p2 (restamp 5 S) :: Os 5 encB (.slice ao8 (snapB 2 S).length c8) (snapB 2 S) :: Os 48 encK (.slice aoK l1.length cK) l1 :: KeysR l1 :: F) w) (fun x => 4 - x.1) (0, f) (.c rfl (.c rfl (.c rfl (.c rfl (.c rfl (.c rfl (.c rfl (.c rfl (.c rfl .n))))))))) (.c rfl .n) ⟨⟨Nat.zero_le _, fun j hj => (hlen j hj).1, fun j hj => absurd hj (Nat.not_lt_zero _), fun j _ hj => rep_of (hdn j (by omega)) (hl4 j hj)⟩, H⟩ ?_
          rintro ⟨i, f⟩ w ⟨⟨hi4, hln, hdone, htodo⟩, H⟩
          simp only [List.cons_append, List.nil_append]
          simp only at hi4 hln hdone htodo H ⊢
          refine cw_seq (fun K152 h152 => ?_)
          refine cw_seq (fun K153 h153 => ?_)
          refine cw_region (lq_run ?_)
          simp (maxSteps := 5000000) (decide := true) (disch := omega) only [EV, ↓reduceIte, Nat.reduceAdd, tt3, encK_f, L5, encV_f, encB_f8]
          refine lq_nil ?_
          refine h153 _ _ ?_
          refine cw_condB rfl (fun c227 => ?_) (fun c227 => ?_)
          · skip
            try simp only [HB] at c227
            refine cw_skip ?_
            refine h152 _ _ ?_
            refine cw_seq (fun K154 h154 => ?_)
            refine cw_block ?_
            refine cw_seq (fun K155 h155 => ?_)
            refine cw_region (lq_run ?_)
            obtain ⟨⟨⟨ra, rl, rc⟩, rx⟩, hfi⟩ : ∃ y, f i = y := ⟨_, rfl⟩
            have hL := hln i (by omega)
            rw [hfi] at hL
            simp only at hL
            obtain rfl : rl = rx.length := hL
            have H2 := H.allTake (i := i) (by omega)
            rw [hfi] at H2
            replace H : Own (Os 5 encB (.slice ra rx.length rc) rx :: rest5 i f :: Os 23 encV (.slice (some ⟨b205, 0, none⟩) 5 5) ((List.range 5).map fun j => (f j).1) :: StoreAt p S :: StoreAt p2 (restamp 5 S) :: Os 5 encB (.slice ao8 (snapB 2 S).length c8) (snapB 2 S) :: Os 48 encK (.slice aoK l1.length cK) l1 :: KeysR l1 :: F) w := H2
            obtain rfl : rx = List.replicate (snapB 2 S).length (UInt8.ofNat (1 + i)) := by have := htodo i (Nat.le_refl _) (by omega); rwa [hfi] at this
            have hself : ((List.range 5).map fun j => (f j).1).set i (ra, (List.replicate (snapB 2 S).length (UInt8.ofNat (1 + i))).length, rc) = (List.range 5).map fun j => (f j).1 := set_same (by rw [firsts_at (by omega), hfi])
            simp (maxSteps := 5000000) (decide := true) (disch := omega) only [EV, ↓reduceIte, Nat.reduceAdd, tt3, encK_f, L5, encV_f, encB_f8]
            refine lq_nil ?_
            refine h155 _ _ ?_
            refine cw_block ?_
            refine cw_loopC (X := Nat × List UInt8 × (Option Addr × Nat)) [(4, _), (11, _), (18, _), (20, _), (21, _), (22, _), (24, _), (26, _), (27, _), (30, _), (226, _), (227, _)] (fun x => [(31, .int .i64 (x.1 : Int))]) (fun x w => (x.1 ≤ 80 ∧ x.2.1 = List.replicate (snapB 2 S).length (UInt8.ofNat (1 + i)) ++ List.replicate x.1 (UInt8.ofNat (101 + i))) ∧ Own (Os 5 encB (.slice x.2.2.1 x.2.1.length x.2.2.2) x.2.1 :: rest5 i f :: Os 23 encV (.slice (some ⟨b205, 0, none⟩) 5 5) (((List.range 5).map fun j => (f j).1).set i (x.2.2.1, x.2.1.length, x.2.2.2)) :: StoreAt p S :: StoreAt p2 (restamp 5 S) :: Os 5 encB (.slice ao8 (snapB 2 S).length c8) (snapB 2 S) :: Os 48 encK (.slice aoK l1.length cK) l1 :: KeysR l1 :: F) w) (fun x => 80 - x.1) (0, List.replicate (snapB 2 S).length (UInt8.ofNat (1 + i)), (ra, rc)) (.c rfl (.c rfl (.c rfl (.c rfl (.c rfl (.c rfl (.c rfl (.c rfl (.c rfl (.c rfl (.c rfl (.c rfl .n)))))))))))) (.c rfl .n) ⟨⟨Nat.zero_le _, by simp⟩, by simp only; rw [hself]; exact H⟩ ?_
            rintro ⟨k, ys, ⟨aor, cr⟩⟩ w ⟨⟨hk, hys⟩, H⟩
            simp only [List.cons_append, List.nil_append]
            simp only at hk hys H ⊢
            have hysl := congrArg List.length hys
            simp only [List.length_append, List.length_replicate] at hysl
            refine cw_seq (fun K156 h156 => ?_)
            refine cw_seq (fun K157 h157 => ?_)
            refine cw_region (lq_run ?_)
            simp (maxSteps := 5000000) (decide := true) (disch := omega) only [EV, ↓reduceIte, Nat.reduceAdd, tt3, encK_f, L5, encV_f, encB_f8]
            refine lq_nil ?_
            refine h157 _ _ ?_
            refine cw_condB rfl (fun c231 => ?_) (fun c231 => ?_)
            · skip
              try simp only [HB] at c231
              refine cw_skip ?_
              refine h156 _ _ ?_
              refine cw_seq (fun K158 h158 => ?_)
              refine cw_block ?_
              refine cw_region (lq_run ?_)
              simp (maxSteps := 5000000) (decide := true) (disch := omega) only [EV, ↓reduceIte, Nat.reduceAdd, tt3, encK_f, L5, encV_f, encB_f8]
              refine lq_idx (i' := i) H rfl rfl (Ent.os (L := []) (T := 23) (enc := encV) (n := 5) (c := 5) (xs := ((List.range 5).map fun j => (f j).1).set i (aor, ys.length, cr))) (by simp) rfl (show _ = some (aor, ys.length, cr) by rw [List.getElem?_set_self (by simp; omega)]) ?_
              simp (maxSteps := 5000000) (decide := true) (disch := omega) only [EV, ↓reduceIte, Nat.reduceAdd, tt3, encK_f, L5, encV_f, encB_f8]
              refine lq_loadE H rfl (Ent.os (L := []) (T := 23) (enc := encV) (n := 5) (c := 5) (xs := ((List.range 5).map fun j => (f j).1).set i (aor, ys.length, cr))) (show _ = some (aor, ys.length, cr) by rw [List.getElem?_set_self (by simp; omega)]) rfl ?_
              simp (maxSteps := 5000000) (decide := true) (disch := omega) only [EV, ↓reduceIte, Nat.reduceAdd, tt3, encK_f, L5, encV_f, encB_f8]
              refine lq_bs H rfl rfl (by rfl) rfl (by decide) (fun b243 w H => ?_)
              try simp only [ES, encK_f, L5, encV_f, encB_f8] at H
              simp (maxSteps := 5000000) (decide := true) (disch := omega) only [EV, ↓reduceIte, Nat.reduceAdd, tt3, encK_f, L5, encV_f, encB_f8]
              refine lq_app1 (enc := encB) (UInt8.ofNat (101 + i)) H rfl rfl (enc8 (by omega) (by omega)).symm (by rw [show encB.n = 1 from rfl]; omega) (fun ao11 c11 w H => ?_)
              simp (maxSteps := 5000000) (decide := true) (disch := omega) only [EV, ↓reduceIte, Nat.reduceAdd, tt3, encK_f, L5, encV_f, encB_f8]
              refine lq_idx (i' := i) H rfl rfl (Ent.os (L := []) (T := 23) (enc := encV) (n := 5) (c := 5) (xs := ((List.range 5).map fun j => (f j).1).set i (aor, ys.length, cr))) (by simp) rfl (show _ = some (aor, ys.length, cr) by rw [List.getElem?_set_self (by simp; omega)]) ?_
              simp (maxSteps := 5000000) (decide := true) (disch := omega) only [EV, ↓reduceIte, Nat.reduceAdd, tt3, encK_f, L5, encV_f, encB_f8]
              refine lq_stO (T := 23) (enc := encV) (n := 5) (c := 5) (xs := ((List.range 5).map fun j => (f j).1).set i (aor, ys.length, cr)) (i := i) (ao11, ys.length + 1, c11) H rfl rfl rfl rfl rfl (by simp; omega) (fun w H => ?_)
              rw [List.set_set] at H
              simp (maxSteps := 5000000) (decide := true) (disch := omega) only [EV, ↓reduceIte, Nat.reduceAdd, tt3, encK_f, L5, encV_f, encB_f8]
              refine lq_nil ?_
              refine h158 _ _ ?_
              refine cw_region (lq_run ?_)
              simp (maxSteps := 5000000) (decide := true) (disch := omega) only [EV, ↓reduceIte, Nat.reduceAdd, tt3, encK_f, L5, encV_f, encB_f8]
              refine lq_nil ?_
              refine Exists.intro (k + 1, ys ++ [UInt8.ofNat (101 + i)], (ao11, c11)) ⟨⟨(.c rfl .n), (.c rfl (.c rfl (.c rfl (.c rfl (.c rfl (.c rfl (.c rfl (.c rfl (.c rfl (.c rfl (.c rfl (.c rfl .n))))))))))))⟩, ⟨⟨by omega, by simp only; rw [hys, List.replicate_succ', List.append_assoc]⟩, by simp only; rw [List.length_append]; exact H.wk⟩, (by simp only; omega)⟩
            · skip
              try simp only [HB] at c231
              refine cw_exit ?_
              refine h154 _ _ ?_
              refine cw_region (lq_run ?_)
              simp (maxSteps := 5000000) (decide := true) (disch := omega) only [EV, ↓reduceIte, Nat.reduceAdd, tt3, encK_f, L5, encV_f, encB_f8]
              refine lq_nil ?_
              refine Exists.intro (i + 1, upd f i ((aor, ys.length, cr), ys)) ⟨⟨(.c rfl .n), (.c rfl (.c rfl (.c rfl (.c rfl (.c rfl (.c rfl (.c rfl (.c rfl (.c rfl .n)))))))))⟩, ⟨⟨by omega, upd_l hln rfl, upd_lt (P := fun j l => l = List.replicate (snapB 2 S).length (UInt8.ofNat (1 + j)) ++ List.replicate 80 (UInt8.ofNat (101 + j))) hdone (by simp only; rw [hys, show k = 80 by omega]), upd_ge (P := fun j l => l = List.replicate (snapB 2 S).length (UInt8.ofNat (1 + j))) htodo⟩, by rw [firsts_set (by omega)]; exact Own.allPut (s := (aor, ys.length, cr)) H (by omega)⟩, (by simp only; omega)⟩
          · skip
            try simp only [HB] at c227
            refine cw_exit ?_
            refine h150 _ _ ?_
            refine cw_seq (fun K159 h159 => ?_)
            refine cw_seq (fun K160 h160 => ?_)
            refine cw_region (lq_run ?_)
            simp (maxSteps := 5000000) (decide := true) (disch := omega) only [EV, ↓reduceIte, Nat.reduceAdd, tt3, encK_f, L5, encV_f, encB_f8]
            refine lq_nil ?_
            refine h160 _ _ ?_
            refine cw_block ?_
            refine cw_loopC (X := Nat) [(11, _), (18, _), (20, _), (21, _), (22, _), (24, _), (26, _), (27, _)] (fun x => [(32, .int .i64 (x : Int))]) (fun x w => x ≤ 4 ∧ Own (AllR f :: Os 23 encV (.slice (some ⟨b205, 0, none⟩) 5 5) ((List.range 5).map fun j => (f j).1) :: StoreAt p S :: StoreAt p2 (restamp 5 S) :: Os 5 encB (.slice ao8 (snapB 2 S).length c8) (snapB 2 S) :: Os 48 encK (.slice aoK l1.length cK) l1 :: KeysR l1 :: F) w) (fun x => 4 - x) 0 (.c rfl (.c rfl (.c rfl (.c rfl (.c rfl (.c rfl (.c rfl (.c rfl .n)))))))) (.c rfl .n) ⟨Nat.zero_le _, H⟩ ?_
            rintro i w ⟨hi4', H⟩
            simp only [List.cons_append, List.nil_append]
            try simp only at H ⊢
            refine cw_seq (fun K161 h161 => ?_)
            refine cw_seq (fun K162 h162 => ?_)
            refine cw_region (lq_run ?_)
            simp (maxSteps := 5000000) (decide := true) (disch := omega) only [EV, ↓reduceIte, Nat.reduceAdd, tt3, encK_f, L5, encV_f, encB_f8]
            refine lq_nil ?_
            refine h162 _ _ ?_
            refine cw_condB rfl (fun c247 => ?_) (fun c247 => ?_)
            · skip
              try simp only [HB] at c247
              refine cw_skip ?_
              refine h161 _ _ ?_
              refine cw_seq (fun K163 h163 => ?_)
              refine cw_block ?_
              refine cw_seq (fun K164 h164 => ?_)
              refine cw_region (lq_run ?_)
              obtain ⟨⟨⟨ra, rl, rc⟩, rx⟩, hfi⟩ : ∃ y, f i = y := ⟨_, rfl⟩
              have hL := hln i (by omega)
              rw [hfi] at hL
              simp only at hL
              obtain rfl : rl = rx.length := hL
              have H2 := H.allTake (i := i) (by omega)
              rw [hfi] at H2
              replace H : Own (Os 5 encB (.slice ra rx.length rc) rx :: rest5 i f :: Os 23 encV (.slice (some ⟨b205, 0, none⟩) 5 5) ((List.range 5).map fun j => (f j).1) :: StoreAt p S :: StoreAt p2 (restamp 5 S) :: Os 5 encB (.slice ao8 (snapB 2 S).length c8) (snapB 2 S) :: Os 48 encK (.slice aoK l1.length cK) l1 :: KeysR l1 :: F) w := H2
              have hrx := hdone i (by omega)
              rw [hfi] at hrx
              simp only at hrx
              have hrxl := congrArg List.length hrx
              simp only [List.length_append, List.length_replicate] at hrxl
              simp (maxSteps := 5000000) (decide := true) (disch := omega) only [EV, ↓reduceIte, Nat.reduceAdd, tt3, encK_f, L5, encV_f, encB_f8]
              refine lq_nil ?_
              refine h164 _ _ ?_
              refine cw_block ?_
              refine cw_loopC (X := Nat) [(11, _), (18, _), (20, _), (21, _), (22, _), (24, _), (26, _), (27, _), (32, _), (246, _), (247, _)] (fun x => [(33, .int .i64 (x : Int))]) (fun x w => x ≤ rx.length ∧ Own (Os 5 encB (.slice ra rx.length rc) rx :: rest5 i f :: Os 23 encV (.slice (some ⟨b205, 0, none⟩) 5 5) ((List.range 5).map fun j => (f j).1) :: StoreAt p S :: StoreAt p2 (restamp 5 S) :: Os 5 encB (.slice ao8 (snapB 2 S).length c8) (snapB 2 S) :: Os 48 encK (.slice aoK l1.length cK) l1 :: KeysR l1 :: F) w) (fun x => rx.length - x) 0 (.c rfl (.c rfl (.c rfl (.c rfl (.c rfl (.c rfl (.c rfl (.c rfl (.c rfl (.c rfl (.c rfl .n))))))))))) (.c rfl .n) ⟨Nat.zero_le _, H⟩ ?_
              rintro k w ⟨hk, H⟩
              simp only [List.cons_append, List.nil_append]
              try simp only at H ⊢
              refine cw_seq (fun K165 h165 => ?_)
              refine cw_seq (fun K166 h166 => ?_)
              refine cw_region (lq_run ?_)
              simp (maxSteps := 5000000) (decide := true) (disch := omega) only [EV, ↓reduceIte, Nat.reduceAdd, tt3, encK_f, L5, encV_f, encB_f8]
              refine lq_idx (i' := i) H rfl rfl (Ent.os (L := []) (T := 23) (enc := encV) (n := 5) (c := 5) (xs := (List.range 5).map fun j => (f j).1)) (by simp) rfl (show _ = some (ra, rx.length, rc) by rw [firsts_at (by omega), hfi]) ?_
              simp (maxSteps := 5000000) (decide := true) (disch := omega) only [EV, ↓reduceIte, Nat.reduceAdd, tt3, encK_f, L5, encV_f, encB_f8]
              refine lq_loadE H rfl (Ent.os (L := []) (T := 23) (enc := encV) (n := 5) (c := 5) (xs := (List.range 5).map fun j => (f j).1)) (show _ = some (ra, rx.length, rc) by rw [firsts_at (by omega), hfi]) rfl ?_
              simp (maxSteps := 5000000) (decide := true) (disch := omega) only [EV, ↓reduceIte, Nat.reduceAdd, tt3, encK_f, L5, encV_f, encB_f8]
              refine lq_nil ?_
              refine h166 _ _ ?_
              refine cw_condB rfl (fun c256 => ?_) (fun c256 => ?_)
              · skip
                try simp only [HB] at c256
                refine cw_skip ?_
                refine h165 _ _ ?_
                refine cw_seq (fun K167 h167 => ?_)
                refine cw_block ?_
                refine cw_seq (fun K168 h168 => ?_)
                refine cw_region (lq_run ?_)
                simp (maxSteps := 5000000) (decide := true) (disch := omega) only [EV, ↓reduceIte, Nat.reduceAdd, tt3, encK_f, L5, encV_f, encB_f8]
                refine lq_G (fun g262 => ?_) (fun g262 => ?_)
                · try simp only [HB] at g262
                  simp (maxSteps := 5000000) (decide := true) (disch := omega) only [EV, ↓reduceIte, Nat.reduceAdd, tt3, encK_f, L5, encV_f, encB_f8]
                  refine lq_idx (i' := i) H rfl rfl (Ent.os (L := []) (T := 23) (enc := encV) (n := 5) (c := 5) (xs := (List.range 5).map fun j => (f j).1)) (by simp) rfl (show _ = some (ra, rx.length, rc) by rw [firsts_at (by omega), hfi]) ?_
                  simp (maxSteps := 5000000) (decide := true) (disch := omega) only [EV, ↓reduceIte, Nat.reduceAdd, tt3, encK_f, L5, encV_f, encB_f8]
                  refine lq_loadE H rfl (Ent.os (L := []) (T := 23) (enc := encV) (n := 5) (c := 5) (xs := (List.range 5).map fun j => (f j).1)) (show _ = some (ra, rx.length, rc) by rw [firsts_at (by omega), hfi]) rfl ?_
                  simp (maxSteps := 5000000) (decide := true) (disch := omega) only [EV, ↓reduceIte, Nat.reduceAdd, tt3, encK_f, L5, encV_f, encB_f8]
                  refine lq_idx (i' := k) H rfl rfl (Ent.os (L := []) (T := 5) (enc := encB) (n := rx.length) (c := rc) (xs := rx)) (Nat.le_refl _) rfl (show rx[k]? = some (UInt8.ofNat (1 + i)) by rw [hrx]; exact rep_lo (by omega)) ?_
                  simp (maxSteps := 5000000) (decide := true) (disch := omega) only [EV, ↓reduceIte, Nat.reduceAdd, tt3, encK_f, L5, encV_f, encB_f8]
                  refine lq_loadE H rfl (Ent.os (L := []) (T := 5) (enc := encB) (n := rx.length) (c := rc) (xs := rx)) (show rx[k]? = some (UInt8.ofNat (1 + i)) by rw [hrx]; exact rep_lo (by omega)) rfl ?_
                  simp only [encB_f8, List.getElem?_cons_zero, toN8 (show 1 + i < 256 by omega)]
                  simp (maxSteps := 5000000) (decide := true) (disch := omega) only [EV, ↓reduceIte, Nat.reduceAdd, tt3, encK_f, L5, encV_f, encB_f8]
                  refine lq_G (fun g275 => ?_) (fun g275 => ?_)
                  · try simp only [HB] at g275
                    simp (maxSteps := 5000000) (decide := true) (disch := omega) only [EV, ↓reduceIte, Nat.reduceAdd, tt3, encK_f, L5, encV_f, encB_f8]
                    refine lq_nil ?_
                    refine h168 _ _ ?_
                    refine cw_condT rfl ?_
                    refine cw_seq (fun K169 h169 => ?_)
                    refine cw_region (lq_run ?_)
                    simp (maxSteps := 5000000) (decide := true) (disch := omega) only [EV, ↓reduceIte, Nat.reduceAdd, tt3, encK_f, L5, encV_f, encB_f8]
                    refine lq_nil ?_
                    refine h169 _ _ ?_
                    refine cw_ret ?_
                    try simp (decide := true) only [EX, ↓reduceIte]
                    refine ret1 rfl ?_
                    first | exact ⟨rfl, H.wk⟩ | exact absurd trivial ‹¬True› | exact absurd ‹false = true› (by decide) | (rcases hs0 with q | q <;> contradiction) | (exfalso; omega)
                  · try simp only [HB] at g275
                    simp (maxSteps := 5000000) (decide := true) (disch := omega) only [EV, ↓reduceIte, Nat.reduceAdd, tt3, encK_f, L5, encV_f, encB_f8]
                    refine lq_G (fun g279 => ?_) (fun g279 => ?_)
                    · try simp only [HB] at g279
                      simp (maxSteps := 5000000) (decide := true) (disch := omega) only [EV, ↓reduceIte, Nat.reduceAdd, tt3, encK_f, L5, encV_f, encB_f8]
                      refine lq_idx (i' := i) H rfl rfl (Ent.os (L := []) (T := 23) (enc := encV) (n := 5) (c := 5) (xs := (List.range 5).map fun j => (f j).1)) (by simp) rfl (show _ = some (ra, rx.length, rc) by rw [firsts_at (by omega), hfi]) ?_
                      simp (maxSteps := 5000000) (decide := true) (disch := omega) only [EV, ↓reduceIte, Nat.reduceAdd, tt3, encK_f, L5, encV_f, encB_f8]
                      refine lq_loadE H rfl (Ent.os (L := []) (T := 23) (enc := encV) (n := 5) (c := 5) (xs := (List.range 5).map fun j => (f j).1)) (show _ = some (ra, rx.length, rc) by rw [firsts_at (by omega), hfi]) rfl ?_
                      simp (maxSteps := 5000000) (decide := true) (disch := omega) only [EV, ↓reduceIte, Nat.reduceAdd, tt3, encK_f, L5, encV_f, encB_f8]
                      refine lq_idx (i' := k) H rfl rfl (Ent.os (L := []) (T := 5) (enc := encB) (n := rx.length) (c := rc) (xs := rx)) (Nat.le_refl _) rfl (show rx[k]? = some (UInt8.ofNat (101 + i)) by rw [hrx]; exact rep_hi (by omega) (by omega)) ?_
                      simp (maxSteps := 5000000) (decide := true) (disch := omega) only [EV, ↓reduceIte, Nat.reduceAdd, tt3, encK_f, L5, encV_f, encB_f8]
                      refine lq_loadE H rfl (Ent.os (L := []) (T := 5) (enc := encB) (n := rx.length) (c := rc) (xs := rx)) (show rx[k]? = some (UInt8.ofNat (101 + i)) by rw [hrx]; exact rep_hi (by omega) (by omega)) rfl ?_
                      simp only [encB_f8, List.getElem?_cons_zero, toN8 (show 101 + i < 256 by omega)]
                      simp (maxSteps := 5000000) (decide := true) (disch := omega) only [EV, ↓reduceIte, Nat.reduceAdd, tt3, encK_f, L5, encV_f, encB_f8]
                      refine lq_nil ?_
                      refine h168 _ _ ?_
                      refine cw_condB rfl (fun c292 => ?_) (fun c292 => ?_)
                      · skip
                        try simp only [HB] at c292
                        refine cw_seq (fun K170 h170 => ?_)
                        refine cw_region (lq_run ?_)
                        simp (maxSteps := 5000000) (decide := true) (disch := omega) only [EV, ↓reduceIte, Nat.reduceAdd, tt3, encK_f, L5, encV_f, encB_f8]
                        refine lq_nil ?_
                        refine h170 _ _ ?_
                        refine cw_ret ?_
                        try simp (decide := true) only [EX, ↓reduceIte]
                        refine ret1 rfl ?_
                        first | exact ⟨rfl, H.wk⟩ | exact absurd trivial ‹¬True› | exact absurd ‹false = true› (by decide) | (rcases hs0 with q | q <;> contradiction) | (exfalso; omega)
                      · skip
                        try simp only [HB] at c292
                        refine cw_skip ?_
                        refine h167 _ _ ?_
                        refine cw_region (lq_run ?_)
                        simp (maxSteps := 5000000) (decide := true) (disch := omega) only [EV, ↓reduceIte, Nat.reduceAdd, tt3, encK_f, L5, encV_f, encB_f8]
                        refine lq_nil ?_
                        refine Exists.intro (k + 1) ⟨⟨(.c rfl .n), (.c rfl (.c rfl (.c rfl (.c rfl (.c rfl (.c rfl (.c rfl (.c rfl (.c rfl (.c rfl (.c rfl .n)))))))))))⟩, ⟨by omega, H⟩, (by omega)⟩
                    · try simp only [HB] at g279
                      simp (maxSteps := 5000000) (decide := true) (disch := omega) only [EV, ↓reduceIte, Nat.reduceAdd, tt3, encK_f, L5, encV_f, encB_f8]
                      refine lq_nil ?_
                      refine h168 _ _ ?_
                      refine cw_condF rfl ?_
                      refine cw_skip ?_
                      refine h167 _ _ ?_
                      refine cw_region (lq_run ?_)
                      simp (maxSteps := 5000000) (decide := true) (disch := omega) only [EV, ↓reduceIte, Nat.reduceAdd, tt3, encK_f, L5, encV_f, encB_f8]
                      refine lq_nil ?_
                      refine Exists.intro (k + 1) ⟨⟨(.c rfl .n), (.c rfl (.c rfl (.c rfl (.c rfl (.c rfl (.c rfl (.c rfl (.c rfl (.c rfl (.c rfl (.c rfl .n)))))))))))⟩, ⟨by omega, H⟩, (by omega)⟩
                · try simp only [HB] at g262
                  simp (maxSteps := 5000000) (decide := true) (disch := omega) only [EV, ↓reduceIte, Nat.reduceAdd, tt3, encK_f, L5, encV_f, encB_f8]
                  refine lq_G (fun g279 => ?_) (fun g279 => ?_)
                  · try simp only [HB] at g279
                    simp (maxSteps := 5000000) (decide := true) (disch := omega) only [EV, ↓reduceIte, Nat.reduceAdd, tt3, encK_f, L5, encV_f, encB_f8]
                    refine lq_idx (i' := i) H rfl rfl (Ent.os (L := []) (T := 23) (enc := encV) (n := 5) (c := 5) (xs := (List.range 5).map fun j => (f j).1)) (by simp) rfl (show _ = some (ra, rx.length, rc) by rw [firsts_at (by omega), hfi]) ?_
                    simp (maxSteps := 5000000) (decide := true) (disch := omega) only [EV, ↓reduceIte, Nat.reduceAdd, tt3, encK_f, L5, encV_f, encB_f8]
                    refine lq_loadE H rfl (Ent.os (L := []) (T := 23) (enc := encV) (n := 5) (c := 5) (xs := (List.range 5).map fun j => (f j).1)) (show _ = some (ra, rx.length, rc) by rw [firsts_at (by omega), hfi]) rfl ?_
                    simp (maxSteps := 5000000) (decide := true) (disch := omega) only [EV, ↓reduceIte, Nat.reduceAdd, tt3, encK_f, L5, encV_f, encB_f8]
                    refine lq_idx (i' := k) H rfl rfl (Ent.os (L := []) (T := 5) (enc := encB) (n := rx.length) (c := rc) (xs := rx)) (Nat.le_refl _) rfl (show rx[k]? = some (UInt8.ofNat (101 + i)) by rw [hrx]; exact rep_hi (by omega) (by omega)) ?_
                    simp (maxSteps := 5000000) (decide := true) (disch := omega) only [EV, ↓reduceIte, Nat.reduceAdd, tt3, encK_f, L5, encV_f, encB_f8]
                    refine lq_loadE H rfl (Ent.os (L := []) (T := 5) (enc := encB) (n := rx.length) (c := rc) (xs := rx)) (show rx[k]? = some (UInt8.ofNat (101 + i)) by rw [hrx]; exact rep_hi (by omega) (by omega)) rfl ?_
                    simp only [encB_f8, List.getElem?_cons_zero, toN8 (show 101 + i < 256 by omega)]
                    simp (maxSteps := 5000000) (decide := true) (disch := omega) only [EV, ↓reduceIte, Nat.reduceAdd, tt3, encK_f, L5, encV_f, encB_f8]
                    refine lq_nil ?_
                    refine h168 _ _ ?_
                    refine cw_condB rfl (fun c292 => ?_) (fun c292 => ?_)
                    · skip
                      try simp only [HB] at c292
                      refine cw_seq (fun K171 h171 => ?_)
                      refine cw_region (lq_run ?_)
                      simp (maxSteps := 5000000) (decide := true) (disch := omega) only [EV, ↓reduceIte, Nat.reduceAdd, tt3, encK_f, L5, encV_f, encB_f8]
                      refine lq_nil ?_
                      refine h171 _ _ ?_
                      refine cw_ret ?_
                      try simp (decide := true) only [EX, ↓reduceIte]
                      refine ret1 rfl ?_
                      first | exact ⟨rfl, H.wk⟩ | exact absurd trivial ‹¬True› | exact absurd ‹false = true› (by decide) | (rcases hs0 with q | q <;> contradiction) | (exfalso; omega)
                    · skip
                      try simp only [HB] at c292
                      refine cw_skip ?_
                      refine h167 _ _ ?_
                      refine cw_region (lq_run ?_)
                      simp (maxSteps := 5000000) (decide := true) (disch := omega) only [EV, ↓reduceIte, Nat.reduceAdd, tt3, encK_f, L5, encV_f, encB_f8]
                      refine lq_nil ?_
                      refine Exists.intro (k + 1) ⟨⟨(.c rfl .n), (.c rfl (.c rfl (.c rfl (.c rfl (.c rfl (.c rfl (.c rfl (.c rfl (.c rfl (.c rfl (.c rfl .n)))))))))))⟩, ⟨by omega, H⟩, (by omega)⟩
                  · try simp only [HB] at g279
                    simp (maxSteps := 5000000) (decide := true) (disch := omega) only [EV, ↓reduceIte, Nat.reduceAdd, tt3, encK_f, L5, encV_f, encB_f8]
                    refine lq_nil ?_
                    refine h168 _ _ ?_
                    refine cw_condF rfl ?_
                    refine cw_skip ?_
                    refine h167 _ _ ?_
                    refine cw_region (lq_run ?_)
                    simp (maxSteps := 5000000) (decide := true) (disch := omega) only [EV, ↓reduceIte, Nat.reduceAdd, tt3, encK_f, L5, encV_f, encB_f8]
                    refine lq_nil ?_
                    refine Exists.intro (k + 1) ⟨⟨(.c rfl .n), (.c rfl (.c rfl (.c rfl (.c rfl (.c rfl (.c rfl (.c rfl (.c rfl (.c rfl (.c rfl (.c rfl .n)))))))))))⟩, ⟨by omega, H⟩, (by omega)⟩
              · skip
                try simp only [HB] at c256
                refine cw_exit ?_
                refine h163 _ _ ?_
                refine cw_region (lq_run ?_)
                simp (maxSteps := 5000000) (decide := true) (disch := omega) only [EV, ↓reduceIte, Nat.reduceAdd, tt3, encK_f, L5, encV_f, encB_f8]
                refine lq_nil ?_
                refine Exists.intro (i + 1) ⟨⟨(.c rfl .n), (.c rfl (.c rfl (.c rfl (.c rfl (.c rfl (.c rfl (.c rfl (.c rfl .n))))))))⟩, ⟨by omega, by have HH := Own.allPut (f := f) (s := (ra, rx.length, rc)) (xs := rx) (i := i) H (by omega); rwa [upd_self hfi] at HH⟩, (by omega)⟩
            · skip
              try simp only [HB] at c247
              refine cw_exit ?_
              refine h159 _ _ ?_
              refine cw_seq (fun K172 h172 => ?_)
              refine cw_region (lq_run ?_)
              simp (maxSteps := 5000000) (decide := true) (disch := omega) only [EV, ↓reduceIte, Nat.reduceAdd, tt3, encK_f, L5, encV_f, encB_f8]
              replace H : Own (StoreAt p S :: StoreAt p2 (restamp 5 S) :: Os 5 encB (.slice ao8 (snapB 2 S).length c8) (snapB 2 S) :: Os 48 encK (.slice aoK l1.length cK) l1 :: KeysR l1 :: F) w := H.wk
              refine lq_call rfl ?_
              refine Cl.mono (Build_good (H.tkR (R := StoreAt) (k := p2)) hfR.wf (by omega) (by omega) (by omega)) ?_
              rintro _ w ⟨ao12, c12, rfl, H⟩
              rw [restamp_bytes] at H ⊢
              simp (maxSteps := 5000000) (decide := true) (disch := omega) only [EV, ↓reduceIte, Nat.reduceAdd, tt3, encK_f, L5, encV_f, encB_f8]
              refine lq_nil ?_
              refine h172 _ _ ?_
              refine cw_seq (fun K173 h173 => ?_)
              refine cw_region (lq_run ?_)
              simp (maxSteps := 5000000) (decide := true) (disch := omega) only [EV, ↓reduceIte, Nat.reduceAdd, tt3, encK_f, L5, encV_f, encB_f8]
              refine lq_call rfl ?_
              refine Cl.mono (Build_good (H.tkR (R := StoreAt) (k := p)) hf.wf (by omega) (by omega) hbd) ?_
              rintro _ w ⟨ao13, c13, rfl, H⟩
              simp (maxSteps := 5000000) (decide := true) (disch := omega) only [EV, ↓reduceIte, Nat.reduceAdd, tt3, encK_f, L5, encV_f, encB_f8]
              refine lq_nil ?_
              refine h173 _ _ ?_
              refine cw_seq (fun K174 h174 => ?_)
              refine cw_region (lq_run ?_)
              simp (maxSteps := 5000000) (decide := true) (disch := omega) only [EV, ↓reduceIte, Nat.reduceAdd, tt3, encK_f, L5, encV_f, encB_f8]
              refine lq_call rfl ?_
              refine Cl.mono (same_ok H (Ent.up (M := Os 5 encB (.slice ao12 (snapB 2 S).length c12) (snapB 2 S) :: []) Ent.os) rfl (Ent.up (M := Os 5 encB (.slice ao8 (snapB 2 S).length c8) (snapB 2 S) :: []) Ent.os) rfl) ?_
              rintro _ w ⟨rfl, H⟩
              rw [show decide (snapB 2 S = snapB 2 S) = true from decide_eq_true rfl]
              simp (maxSteps := 5000000) (decide := true) (disch := omega) only [EV, ↓reduceIte, Nat.reduceAdd, tt3, encK_f, L5, encV_f, encB_f8]
              refine lq_call rfl ?_
              refine Cl.mono (same_ok H (Ent.up (M := Os 5 encB (.slice ao13 (snapB 2 S).length c13) (snapB 2 S) :: []) Ent.os) rfl (Ent.up (M := Os 5 encB (.slice ao8 (snapB 2 S).length c8) (snapB 2 S) :: []) Ent.os) rfl) ?_
              rintro _ w ⟨rfl, H⟩
              rw [show decide (snapB 2 S = snapB 2 S) = true from decide_eq_true rfl]
              simp (maxSteps := 5000000) (decide := true) (disch := omega) only [EV, ↓reduceIte, Nat.reduceAdd, tt3, encK_f, L5, encV_f, encB_f8]
              refine lq_call rfl ?_
              refine Cl.mono (Kept_ok (H.tkR (R := StoreAt) (k := p2)) hfR.V (fun x hx => by have := hfR.K x hx; omega)) ?_
              rintro _ w ⟨l3, aoP, cP, rfl, h3, H⟩
              simp (maxSteps := 5000000) (decide := true) (disch := omega) only [EV, ↓reduceIte, Nat.reduceAdd, tt3, encK_f, L5, encV_f, encB_f8]
              refine lq_call rfl ?_
              refine Cl.mono (sameKeptT_ok H (Ent.up (M := Os 48 encK (.slice aoK l1.length cK) l1 :: []) Ent.os) rfl (Ent.up (M := Os 48 encK (.slice aoP l3.length cP) l3 :: []) Ent.os) rfl (fun x hx => (KeysR.ent (L := []) hx).up) (fun x hx => (KeysR.ent (L := []) hx).up) (len_eq h1 h3 rfl) hK1.1 hK1.2 (fun i x y hx hy => same_get h1 h3 hx hy)) ?_
              rintro _ w ⟨rfl, H⟩
              simp (maxSteps := 5000000) (decide := true) (disch := omega) only [EV, ↓reduceIte, Nat.reduceAdd, tt3, encK_f, L5, encV_f, encB_f8]
              refine lq_nil ?_
              refine h174 _ _ ?_
              refine cw_ret ?_
              try simp (decide := true) only [EX, ↓reduceIte]
              refine ret1 rfl ?_
              first | exact ⟨rfl, H.wk⟩ | exact absurd trivial ‹¬True› | exact absurd ‹false = true› (by decide) | (rcases hs0 with q | q <;> contradiction) | (exfalso; omega)
end Go.Rp
