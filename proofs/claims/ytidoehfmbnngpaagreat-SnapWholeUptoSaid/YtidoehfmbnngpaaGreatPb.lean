/-
  pack, sum, the model of a store, a search.
-/
import Derived.Laws.Bits64b
import Derived.Test.YtidoehfmbnngpaaGreatProg
import Derived.Test.YtidoehfmbnngpaaGreatPa
set_option linter.unusedVariables false
set_option linter.unusedSimpArgs false
set_option maxHeartbeats 1000000
set_option maxRecDepth 100000
namespace Go.Rp
open Go.Proofs
instance iW4_0 : ElT Tryz.prog 9 1 := ElT.mk' (by kernel_rfl)
instance iW4_1 : FnOk Tryz.prog 41 := ⟨⟨Tryz.f41, Tryz.func41, by kernel_rfl, by kernel_rfl⟩⟩
instance iW4_2 : FnOk Tryz.prog 43 := ⟨⟨Tryz.f43, Tryz.func43, by kernel_rfl, by kernel_rfl⟩⟩
instance iW4_3 : SlT Tryz.prog 44 9 := ⟨by kernel_rfl⟩
instance iW4_4 : SzT Tryz.prog 23 1 := ⟨by kernel_rfl⟩
theorem tt44 : (AG Tryz.prog 23 = some false) ∧ (AG Tryz.prog 26 = some false) ∧ (FO Tryz.prog 182 0 = some 0) ∧ (FO Tryz.prog 182 1 = some 1) := ⟨by kernel_rfl, by kernel_rfl, by kernel_rfl, by kernel_rfl⟩

theorem rdLoop_step {most : Int} {n : Nat} {acc : List ByteArray} {x : List UInt8 × Int} (h : (rdText most x).2.2 = 0) : rdLoop most (n + 1) acc x = rdLoop most n (acc ++ [(rdText most x).1]) (rdText most x).2 := if_pos h
theorem rdLoop_stop {most : Int} {n : Nat} {acc : List ByteArray} {x : List UInt8 × Int} (h : ¬ (rdText most x).2.2 = 0) : rdLoop most (n + 1) acc x = (acc ++ [(rdText most x).1], (rdText most x).2) := if_neg h
theorem rdTexts_eq {count most : Int} {x : List UInt8 × Int} {k : Nat} {z : List ByteArray × (List UInt8 × Int)} (hk : (rdCount count x).1 = k) (hz : z = rdLoop most k [] (rdCount count x).2) : rdTexts count most x = if z.2.2 = 0 then z else ([], (x.1, z.2.2)) := by
  subst hz; unfold rdTexts; simp only [hk, Int.toNat_natCast]
theorem Os.swp {A B : HP} {L : List HP} {w : World} (H : Own (A :: B :: L) w) : Own (B :: A :: L) w := Sep.swap H
theorem rTexts_ok {R : List HP} {p : Nat} {rest : List UInt8} {e : Int} {F : List HP} {w : World} {count most : Int} (H : Own (Rr R p (rest, e) :: F) w) (hl : rest.length ≤ 1099511627776) (hc : count ≤ 1073741824) (hm : most ≤ 4611686018427387904) :
  Cl Tryz.prog 44 #[.pointer (some ⟨p, 0, none⟩), .int .i64 count, .int .i64 most] w fun v w' => Own (Os 9 encS v (rdTexts count most (rest, e)).1 :: Rr R p (rdTexts count most (rest, e)).2 :: F) w' := by
  refine cl_of_cw Tryz.func44 rfl ?_
  simp only [Tryz.ntmps44, envA, List.size_toArray, List.length_cons, List.length_nil, Nat.reduceAdd, Nat.reduceSub]
  have hcl := rdCount_len count (rest, e)
  obtain ⟨k, hk⟩ : ∃ k : Nat, (rdCount count (rest, e)).1 = k := ⟨(rdCount count (rest, e)).1.toNat, by omega⟩
  refine cw_seq (fun K1 h1 => ?_)
  refine cw_region (lq_run ?_)
  simp (maxSteps := 500000) (decide := true) (disch := omega) only [EV, ↓reduceIte, Nat.reduceAdd, tt44]
  refine lq_nil ?_
  refine h1 _ _ ?_
  refine cw_seq (fun K2 h2 => ?_)
  refine cw_region (lq_run ?_)
  obtain ⟨ao0, c0, hcap0, hR00, H⟩ := H.rrO
  simp only at H hcap0 hR00
  simp (maxSteps := 500000) (decide := true) (disch := omega) only [EV, ↓reduceIte, Nat.reduceAdd, tt44]
  refine lq_load H rfl ?_
  simp (maxSteps := 500000) (decide := true) (disch := omega) only [EV, ↓reduceIte, Nat.reduceAdd, tt44]
  refine lq_nil ?_
  refine h2 _ _ ?_
  refine cw_seq (fun K3 h3 => ?_)
  refine cw_region (lq_run ?_)
  replace H := H.rrC hR00 rfl hcap0
  simp (maxSteps := 500000) (decide := true) (disch := omega) only [EV, ↓reduceIte, Nat.reduceAdd, tt44]
  refine lq_call rfl ?_
  refine Cl.mono (rCount_ok H hl (by omega)) ?_
  rintro _ w ⟨rfl, H⟩
  rw [hk]
  simp (maxSteps := 500000) (decide := true) (disch := omega) only [EV, ↓reduceIte, Nat.reduceAdd, tt44]
  refine lq_nil ?_
  refine h3 _ _ ?_
  refine cw_seq (fun K4 h4 => ?_)
  refine cw_region (lq_run ?_)
  simp (maxSteps := 500000) (decide := true) (disch := omega) only [EV, ↓reduceIte, Nat.reduceAdd, tt44]
  refine lq_nil ?_
  refine h4 _ _ ?_
  refine cw_seq (fun K5 h5 => ?_)
  refine cw_seq (fun K6 h6 => ?_)
  refine cw_region (lq_run ?_)
  simp (maxSteps := 500000) (decide := true) (disch := omega) only [EV, ↓reduceIte, Nat.reduceAdd, tt44]
  refine lq_nil ?_
  refine h6 _ _ ?_
  refine cw_block ?_
  refine cw_loopC (X := Nat × List ByteArray × (List UInt8 × Int) × (Option Addr × Nat)) [(0, _), (2, _), (6, _), (7, _), (17, _)] (fun x => [(9, .slice x.2.2.2.1 x.2.1.length x.2.2.2.2), (18, .int .i64 (x.1 : Int))]) (fun x w => x.1 ≤ k ∧ x.2.1.length = x.1 ∧ x.2.2.1.1.length ≤ rest.length ∧ rdLoop most (k - x.1) x.2.1 x.2.2.1 = rdLoop most k [] (rdCount count (rest, e)).2 ∧ Own (Rr R p x.2.2.1 :: Os 9 encS (.slice x.2.2.2.1 x.2.1.length x.2.2.2.2) x.2.1 :: F) w) (fun x => k - x.1) (0, [], (rdCount count (rest, e)).2, (none, 0)) (.c rfl (.c rfl (.c rfl (.c rfl (.c rfl .n))))) (.c rfl (.c rfl .n)) ⟨Nat.zero_le _, rfl, hcl.1, by simp, Sep.swap (Os.nil _ encS H)⟩ ?_
  rintro ⟨i, acc, ⟨rest', e'⟩, ⟨ao9, c9⟩⟩ w ⟨hi, hal, hlx, hlp, H⟩
  simp only [List.cons_append, List.nil_append]
  simp only at hi hal hlx hlp H ⊢
  have hlx0 := hlx
  replace hlx : rest'.length ≤ 1099511627776 := by omega
  refine cw_seq (fun K7 h7 => ?_)
  refine cw_region (lq_run ?_)
  simp (maxSteps := 500000) (decide := true) (disch := omega) only [EV, ↓reduceIte, Nat.reduceAdd, tt44]
  refine lq_nil ?_
  refine h7 _ _ ?_
  refine cw_seq (fun K8 h8 => ?_)
  refine cw_condB rfl (fun c19 => ?_) (fun c19 => ?_)
  · skip
    try simp only [HB] at c19
    refine cw_skip ?_
    refine h8 _ _ ?_
    refine cw_seq (fun K9 h9 => ?_)
    refine cw_block ?_
    refine cw_seq (fun K10 h10 => ?_)
    refine cw_region (lq_run ?_)
    simp (maxSteps := 500000) (decide := true) (disch := omega) only [EV, ↓reduceIte, Nat.reduceAdd, tt44]
    refine lq_call rfl ?_
    refine Cl.mono (rText_ok H hlx hm) ?_
    rintro _ w ⟨rfl, H⟩
    simp (maxSteps := 500000) (decide := true) (disch := omega) only [EV, ↓reduceIte, Nat.reduceAdd, tt44]
    refine lq_bs H rfl rfl (by rfl) rfl (by decide) (fun b24 w H => ?_)
    try simp only [ES] at H
    simp (maxSteps := 500000) (decide := true) (disch := omega) only [EV, ↓reduceIte, Nat.reduceAdd, tt44]
    refine lq_app1 (enc := encS) (rdText most (rest', e')).1 H rfl rfl rfl (by rw [encS_n]; omega) (fun ao9 c9 w H => ?_)
    simp (maxSteps := 500000) (decide := true) (disch := omega) only [EV, ↓reduceIte, Nat.reduceAdd, tt44]
    refine lq_nil ?_
    refine h10 _ _ ?_
    refine cw_seq (fun K11 h11 => ?_)
    refine cw_region (lq_run ?_)
    obtain ⟨ao, c, hcap, hR0, H⟩ := (H.tkR (R := Rr R) (k := p)).rrO
    try simp only at H hcap hR0
    simp (maxSteps := 500000) (decide := true) (disch := omega) only [EV, ↓reduceIte, Nat.reduceAdd, tt44]
    refine lq_load H rfl ?_
    simp (maxSteps := 500000) (decide := true) (disch := omega) only [EV, ↓reduceIte, Nat.reduceAdd, tt44]
    refine lq_nil ?_
    refine h11 _ _ ?_
    refine cw_condB rfl (fun c30 => ?_) (fun c30 => ?_)
    · skip
      try simp only [HB] at c30
      have hz : (acc ++ [(rdText most (rest', e')).1], (rdText most (rest', e')).2) = rdLoop most k [] (rdCount count (rest, e)).2 := by rw [← hlp, show k - i = (k - (i + 1)) + 1 by omega, rdLoop_stop c30]
      replace H := H.rrC hR0 rfl hcap
      refine cw_exit ?_
      refine h5 _ _ ?_
      refine cw_seq (fun K12 h12 => ?_)
      refine cw_seq (fun K13 h13 => ?_)
      refine cw_region (lq_run ?_)
      obtain ⟨ao, c, hcap, hR0, H⟩ := (H.tkR (R := Rr R) (k := p)).rrO
      try simp only at H hcap hR0
      simp (maxSteps := 500000) (decide := true) (disch := omega) only [EV, ↓reduceIte, Nat.reduceAdd, tt44]
      refine lq_load H rfl ?_
      simp (maxSteps := 500000) (decide := true) (disch := omega) only [EV, ↓reduceIte, Nat.reduceAdd, tt44]
      refine lq_nil ?_
      refine h13 _ _ ?_
      refine cw_condB rfl (fun c36 => ?_) (fun c36 => ?_)
      · skip
        first
          | (simp only [HB, reduceCtorEq] at c36; done)
          | (try simp only [HB] at c36
             exfalso; omega)
          | skip
            try simp only [HB] at c36
            refine cw_seq (fun K14 h14 => ?_)
            refine cw_region (lq_run ?_)
            simp (maxSteps := 500000) (decide := true) (disch := omega) only [EV, ↓reduceIte, Nat.reduceAdd, tt44]
            refine lq_st H rfl rfl rfl (fun w H => ?_)
            try simp only [ES] at H
            simp (maxSteps := 500000) (decide := true) (disch := omega) only [EV, ↓reduceIte, Nat.reduceAdd, tt44]
            refine lq_nil ?_
            refine h14 _ _ ?_
            refine cw_seq (fun K15 h15 => ?_)
            refine cw_region (lq_run ?_)
            simp (maxSteps := 500000) (decide := true) (disch := omega) only [EV, ↓reduceIte, Nat.reduceAdd, tt44]
            refine lq_nil ?_
            refine h15 _ _ ?_
            refine cw_ret ?_
            try simp (decide := true) only [EX, ↓reduceIte]
            refine ret1 rfl ?_
            rw [rdTexts_eq hk hz, if_neg c36]; exact Os.nil _ encS ((H.rrC hR00 rfl hcap0).wk)
      · skip
        first
          | (simp only [HB, reduceCtorEq] at c36; done)
          | (try simp only [HB] at c36
             exfalso; omega)
          | skip
            try simp only [HB] at c36
            refine cw_skip ?_
            refine h12 _ _ ?_
            refine cw_seq (fun K16 h16 => ?_)
            refine cw_region (lq_run ?_)
            simp (maxSteps := 500000) (decide := true) (disch := omega) only [EV, ↓reduceIte, Nat.reduceAdd, tt44]
            refine lq_nil ?_
            refine h16 _ _ ?_
            refine cw_ret ?_
            try simp (decide := true) only [EX, ↓reduceIte]
            refine ret1 rfl ?_
            rw [rdTexts_eq hk hz, if_pos c36]; exact H
    · skip
      try simp only [HB] at c30
      replace H := H.rrC hR0 rfl hcap
      refine cw_skip ?_
      refine h9 _ _ ?_
      refine cw_region (lq_run ?_)
      simp (maxSteps := 500000) (decide := true) (disch := omega) only [EV, ↓reduceIte, Nat.reduceAdd, tt44]
      refine lq_nil ?_
      refine Exists.intro (i + 1, acc ++ [(rdText most (rest', e')).1], (rdText most (rest', e')).2, (ao9, c9)) ⟨⟨(.c (by rw [List.length_append]; rfl) (.c rfl .n)), (.c rfl (.c rfl (.c rfl (.c rfl (.c rfl .n)))))⟩, ⟨by omega, by simp [hal], Nat.le_trans (rdText_len most (rest', e')) hlx0, by rw [← hlp, show k - i = (k - (i + 1)) + 1 by omega, rdLoop_step c30], by simpa using H⟩, (by omega)⟩
  · skip
    try simp only [HB] at c19
    have hki : k = i := by omega
    have hz : (acc, (rest', e')) = rdLoop most k [] (rdCount count (rest, e)).2 := by rw [← hlp, hki, Nat.sub_self]; rfl
    refine cw_exit ?_
    refine h5 _ _ ?_
    refine cw_seq (fun K17 h17 => ?_)
    refine cw_seq (fun K18 h18 => ?_)
    refine cw_region (lq_run ?_)
    obtain ⟨ao, c, hcap, hR0, H⟩ := (H.tkR (R := Rr R) (k := p)).rrO
    try simp only at H hcap hR0
    simp (maxSteps := 500000) (decide := true) (disch := omega) only [EV, ↓reduceIte, Nat.reduceAdd, tt44]
    refine lq_load H rfl ?_
    simp (maxSteps := 500000) (decide := true) (disch := omega) only [EV, ↓reduceIte, Nat.reduceAdd, tt44]
    refine lq_nil ?_
    refine h18 _ _ ?_
    refine cw_condB rfl (fun c36 => ?_) (fun c36 => ?_)
    · skip
      first
        | (simp only [HB, reduceCtorEq] at c36; done)
        | (try simp only [HB] at c36
           exfalso; omega)
        | skip
          try simp only [HB] at c36
          refine cw_seq (fun K19 h19 => ?_)
          refine cw_region (lq_run ?_)
          simp (maxSteps := 500000) (decide := true) (disch := omega) only [EV, ↓reduceIte, Nat.reduceAdd, tt44]
          refine lq_st H rfl rfl rfl (fun w H => ?_)
          try simp only [ES] at H
          simp (maxSteps := 500000) (decide := true) (disch := omega) only [EV, ↓reduceIte, Nat.reduceAdd, tt44]
          refine lq_nil ?_
          refine h19 _ _ ?_
          refine cw_seq (fun K20 h20 => ?_)
          refine cw_region (lq_run ?_)
          simp (maxSteps := 500000) (decide := true) (disch := omega) only [EV, ↓reduceIte, Nat.reduceAdd, tt44]
          refine lq_nil ?_
          refine h20 _ _ ?_
          refine cw_ret ?_
          try simp (decide := true) only [EX, ↓reduceIte]
          refine ret1 rfl ?_
          rw [rdTexts_eq hk hz, if_neg c36]; exact Os.nil _ encS ((H.rrC hR00 rfl hcap0).wk)
    · skip
      first
        | (simp only [HB, reduceCtorEq] at c36; done)
        | (try simp only [HB] at c36
           exfalso; omega)
        | skip
          try simp only [HB] at c36
          refine cw_skip ?_
          refine h17 _ _ ?_
          refine cw_seq (fun K21 h21 => ?_)
          refine cw_region (lq_run ?_)
          simp (maxSteps := 500000) (decide := true) (disch := omega) only [EV, ↓reduceIte, Nat.reduceAdd, tt44]
          refine lq_nil ?_
          refine h21 _ _ ?_
          refine cw_ret ?_
          try simp (decide := true) only [EX, ↓reduceIte]
          refine ret1 rfl ?_
          rw [rdTexts_eq hk hz, if_pos c36]; exact Sep.swap (H.rrC hR0 rfl hcap)
end Go.Rp
set_option linter.unusedVariables false
set_option linter.unusedSimpArgs false
set_option maxHeartbeats 1000000
set_option maxRecDepth 100000
namespace Go.Rp
open Go.Proofs
instance iW5_0 : ElT Tryz.prog 5 1 := ElT.mk' (by kernel_rfl)
instance iW5_1 : ElT Tryz.prog 9 1 := ElT.mk' (by kernel_rfl)
instance iW5_2 : FnOk Tryz.prog 90 := ⟨⟨Tryz.f90, Tryz.func90, by kernel_rfl, by kernel_rfl⟩⟩
instance iW5_3 : SlT Tryz.prog 23 5 := ⟨by kernel_rfl⟩
instance iW5_4 : SlT Tryz.prog 44 9 := ⟨by kernel_rfl⟩
theorem tt90 : (KD Tryz.prog 23 = some 3) := by kernel_rfl
theorem tt65 : (KD Tryz.prog 44 = some 3) := by kernel_rfl
theorem tt53 : (AG Tryz.prog 23 = some false) ∧ (AG Tryz.prog 26 = some false) ∧ (FO Tryz.prog 188 1 = some 1) ∧ (FO Tryz.prog 188 2 = some 2) := ⟨by kernel_rfl, by kernel_rfl, by kernel_rfl, by kernel_rfl⟩
theorem tt47 : (BU Tryz.prog 188 = some ([(.int .i64 0), (.slice none 0 0), (.int .i64 0)], [(0, 1), (1, 1), (2, 1)])) := by kernel_rfl
theorem tt36 : (BU Tryz.prog 182 = some ([(.slice none 0 0), (.int .i64 0)], [(0, 1), (1, 1)])) := by kernel_rfl
theorem CloneB_ok {ao : Option Addr} {n c : Nat} {xs : List UInt8} {F : List HP} {w : World} (H : Own F w) (hR : Ent F (Row ao encB xs)) (hn : n = xs.length) (hb : xs.length ≤ 549755813888) :
  Cl Tryz.prog 90 #[.slice ao n c] w fun v w' => ∃ ao' c', v = .slice ao' xs.length c' ∧ Own (Os 5 encB (.slice ao' xs.length c') xs :: F) w' := by
  subst hn
  refine cl_of_cw Tryz.func90 rfl ?_
  simp only [Tryz.ntmps90, envA, List.size_toArray, List.length_cons, List.length_nil, Nat.reduceAdd, Nat.reduceSub]
  refine cw_seq (fun K1 h1 => ?_)
  refine cw_region (lq_run ?_)
  simp (maxSteps := 500000) (decide := true) (disch := omega) only [EV, ↓reduceIte, Nat.reduceAdd, tt90]
  refine lq_nil ?_
  refine h1 _ _ ?_
  refine cw_seq (fun K2 h2 => ?_)
  refine cw_seq (fun K3 h3 => ?_)
  refine cw_region (lq_run ?_)
  simp (maxSteps := 500000) (decide := true) (disch := omega) only [EV, ↓reduceIte, Nat.reduceAdd, tt90]
  refine lq_nil ?_
  refine h3 _ _ ?_
  refine cw_condB rfl (fun c4 => ?_) (fun c4 => ?_)
  · skip
    try simp only [HB] at c4
    refine cw_seq (fun K4 h4 => ?_)
    refine cw_region (lq_run ?_)
    simp (maxSteps := 500000) (decide := true) (disch := omega) only [EV, ↓reduceIte, Nat.reduceAdd, tt90]
    refine lq_nil ?_
    refine h4 _ _ ?_
    refine cw_ret ?_
    try simp (decide := true) only [EX, ↓reduceIte]
    refine ret1 rfl ?_
    have hrow := hR _ H
    obtain rfl : ao = none := by cases ao <;> simp_all
    obtain rfl : xs = [] := by
      rcases hrow.1 with h | ⟨b, off, h⟩
      · exact h
      · cases h
    exact ⟨none, 0, rfl, Os.nil _ encB H⟩
  · skip
    try simp only [HB] at c4
    refine cw_skip ?_
    refine h2 _ _ ?_
    refine cw_seq (fun K5 h5 => ?_)
    refine cw_region (lq_run ?_)
    simp (maxSteps := 500000) (decide := true) (disch := omega) only [EV, ↓reduceIte, Nat.reduceAdd, tt90]
    refine lq_bs H rfl rfl (by rfl) rfl (by decide) (fun b5 w H => ?_)
    try simp only [ES] at H
    replace H := H.os encB [] rfl rfl
    simp (maxSteps := 500000) (decide := true) (disch := omega) only [EV, ↓reduceIte, Nat.reduceAdd, tt90]
    refine lq_appR (enc := encB) H rfl rfl hR rfl (by rw [show encB.n = 1 from rfl]; simp; omega) (fun ao' c' w H => ?_)
    simp only [List.nil_append, List.length_nil, Nat.zero_add] at H ⊢
    simp (maxSteps := 500000) (decide := true) (disch := omega) only [EV, ↓reduceIte, Nat.reduceAdd, tt90]
    refine lq_nil ?_
    refine h5 _ _ ?_
    refine cw_ret ?_
    try simp (decide := true) only [EX, ↓reduceIte]
    refine ret1 rfl ?_
    exact ⟨ao', c', rfl, H⟩
theorem CloneS_ok {ao : Option Addr} {n c : Nat} {xs : List ByteArray} {F : List HP} {w : World} (H : Own F w) (hR : Ent F (Row ao encS xs)) (hn : n = xs.length) (hb : xs.length ≤ 549755813888) :
  Cl Tryz.prog 65 #[.slice ao n c] w fun v w' => ∃ ao' c', v = .slice ao' xs.length c' ∧ Own (Os 9 encS (.slice ao' xs.length c') xs :: F) w' := by
  subst hn
  refine cl_of_cw Tryz.func65 rfl ?_
  simp only [Tryz.ntmps65, envA, List.size_toArray, List.length_cons, List.length_nil, Nat.reduceAdd, Nat.reduceSub]
  refine cw_seq (fun K1 h1 => ?_)
  refine cw_region (lq_run ?_)
  simp (maxSteps := 500000) (decide := true) (disch := omega) only [EV, ↓reduceIte, Nat.reduceAdd, tt65]
  refine lq_nil ?_
  refine h1 _ _ ?_
  refine cw_seq (fun K2 h2 => ?_)
  refine cw_seq (fun K3 h3 => ?_)
  refine cw_region (lq_run ?_)
  simp (maxSteps := 500000) (decide := true) (disch := omega) only [EV, ↓reduceIte, Nat.reduceAdd, tt65]
  refine lq_nil ?_
  refine h3 _ _ ?_
  refine cw_condB rfl (fun c4 => ?_) (fun c4 => ?_)
  · skip
    try simp only [HB] at c4
    refine cw_seq (fun K4 h4 => ?_)
    refine cw_region (lq_run ?_)
    simp (maxSteps := 500000) (decide := true) (disch := omega) only [EV, ↓reduceIte, Nat.reduceAdd, tt65]
    refine lq_nil ?_
    refine h4 _ _ ?_
    refine cw_ret ?_
    try simp (decide := true) only [EX, ↓reduceIte]
    refine ret1 rfl ?_
    have hrow := hR _ H
    obtain rfl : ao = none := by cases ao <;> simp_all
    obtain rfl : xs = [] := by
      rcases hrow.1 with h | ⟨b, off, h⟩
      · exact h
      · cases h
    exact ⟨none, 0, rfl, Os.nil _ encS H⟩
  · skip
    try simp only [HB] at c4
    refine cw_skip ?_
    refine h2 _ _ ?_
    refine cw_seq (fun K5 h5 => ?_)
    refine cw_region (lq_run ?_)
    simp (maxSteps := 500000) (decide := true) (disch := omega) only [EV, ↓reduceIte, Nat.reduceAdd, tt65]
    refine lq_bs H rfl rfl (by rfl) rfl (by decide) (fun b5 w H => ?_)
    try simp only [ES] at H
    replace H := H.os encS [] rfl rfl
    simp (maxSteps := 500000) (decide := true) (disch := omega) only [EV, ↓reduceIte, Nat.reduceAdd, tt65]
    refine lq_appR (enc := encS) H rfl rfl hR rfl (by rw [show encS.n = 1 from rfl]; simp; omega) (fun ao' c' w H => ?_)
    simp only [List.nil_append, List.length_nil, Nat.zero_add] at H ⊢
    simp (maxSteps := 500000) (decide := true) (disch := omega) only [EV, ↓reduceIte, Nat.reduceAdd, tt65]
    refine lq_nil ?_
    refine h5 _ _ ?_
    refine cw_ret ?_
    try simp (decide := true) only [EX, ↓reduceIte]
    refine ret1 rfl ?_
    exact ⟨ao', c', rfl, H⟩
theorem wOut_ok {p : Nat} {lim : Int} {out : List UInt8} {e : Int} {F : List HP} {w : World} (H : Own (Wr p (lim, out, e) :: F) w) (ho : out.length ≤ 549755813888) :
  Cl Tryz.prog 53 #[.pointer (some ⟨p, 0, none⟩)] w fun v w' => (e ≠ 0 ∧ v = .tuple #[.slice none 0 0, .int .i64 e] ∧ Own (Wr p (lim, out, e) :: F) w') ∨ (e = 0 ∧ ∃ ao c, v = .tuple #[.slice ao out.length c, .int .i64 0] ∧ Own (Os 5 encB (.slice ao out.length c) out :: Wr p (lim, out, e) :: F) w') := by
  refine cl_of_cw Tryz.func53 rfl ?_
  simp only [Tryz.ntmps53, envA, List.size_toArray, List.length_cons, List.length_nil, Nat.reduceAdd, Nat.reduceSub]
  obtain ⟨ao, c, H⟩ := H.wrO
  simp only at H
  refine cw_seq (fun K1 h1 => ?_)
  refine cw_region (lq_run ?_)
  simp (maxSteps := 500000) (decide := true) (disch := omega) only [EV, ↓reduceIte, Nat.reduceAdd, tt53]
  refine lq_nil ?_
  refine h1 _ _ ?_
  refine cw_seq (fun K2 h2 => ?_)
  refine cw_seq (fun K3 h3 => ?_)
  refine cw_region (lq_run ?_)
  simp (maxSteps := 500000) (decide := true) (disch := omega) only [EV, ↓reduceIte, Nat.reduceAdd, tt53]
  refine lq_load H rfl ?_
  simp (maxSteps := 500000) (decide := true) (disch := omega) only [EV, ↓reduceIte, Nat.reduceAdd, tt53]
  refine lq_nil ?_
  refine h3 _ _ ?_
  refine cw_condB rfl (fun c8 => ?_) (fun c8 => ?_)
  · skip
    try simp only [HB] at c8
    refine cw_seq (fun K4 h4 => ?_)
    refine cw_draw [(0, 0), (1, 0), (2, 0), (3, 1), (4, 0), (5, 0)] rfl (by kernel_rfl) (fun c env w => by simp (decide := true) only [EX, not_false_eq_true]) H (fun w H => ?_)
    have H0 := H
    refine dq_run ?_
    simp (maxSteps := 500000) (decide := true) (disch := omega) only [EV, ↓reduceIte, Nat.reduceAdd, tt53]
    refine dq_load H0 rfl ?_
    simp (maxSteps := 500000) (decide := true) (disch := omega) only [EV, ↓reduceIte, Nat.reduceAdd, tt53]
    refine dq_nil ?_
    refine h4 _ _ ?_
    refine cw_ret ?_
    try simp (decide := true) only [EX, ↓reduceIte]
    refine ret2 rfl rfl ?_
    exact .inl ⟨c8, rfl, H.wrC⟩
  · skip
    try simp only [HB] at c8
    refine cw_skip ?_
    refine h2 _ _ ?_
    refine cw_seq (fun K5 h5 => ?_)
    refine cw_region (lq_run ?_)
    simp (maxSteps := 500000) (decide := true) (disch := omega) only [EV, ↓reduceIte, Nat.reduceAdd, tt53]
    refine lq_load H rfl ?_
    simp (maxSteps := 500000) (decide := true) (disch := omega) only [EV, ↓reduceIte, Nat.reduceAdd, tt53]
    refine lq_call rfl ?_
    refine Cl.mono (CloneB_ok H (Ent.up (M := [Os 5 encB (.slice ao out.length c) out]) Ent.os) rfl ho) ?_
    rintro _ w ⟨ao', c', rfl, H⟩
    simp (maxSteps := 500000) (decide := true) (disch := omega) only [EV, ↓reduceIte, Nat.reduceAdd, tt53]
    refine lq_nil ?_
    refine h5 _ _ ?_
    refine cw_ret ?_
    try simp (decide := true) only [EX, ↓reduceIte]
    refine ret2 rfl rfl ?_
    exact .inr ⟨c8, ao', c', rfl, Sep.swap (Own.wrC (M' := Os 5 encB (.slice ao' out.length c') out :: F) H)⟩
theorem NewWriter_ok {lim : Int} {F : List HP} {w : World} (H : Own F w) (hl : 0 ≤ lim) :
  Cl Tryz.prog 47 #[.int .i64 lim] w fun v w' => ∃ p, v = .pointer (some ⟨p, 0, none⟩) ∧ Own (Wr p (lim, [], 0) :: F) w' := by
  refine cl_of_cw Tryz.func47 rfl ?_
  simp only [Tryz.ntmps47, envA, List.size_toArray, List.length_cons, List.length_nil, Nat.reduceAdd, Nat.reduceSub]
  refine cw_seq (fun K1 h1 => ?_)
  refine cw_region (lq_run ?_)
  simp (maxSteps := 500000) (decide := true) (disch := omega) only [EV, ↓reduceIte, Nat.reduceAdd, tt47]
  refine lq_nil ?_
  refine h1 _ _ ?_
  refine cw_seq (fun K2 h2 => ?_)
  refine cw_region (lq_run ?_)
  simp (maxSteps := 500000) (decide := true) (disch := omega) only [EV, ↓reduceIte, Nat.reduceAdd, tt47]
  refine lq_box H rfl (fun b6 w H => ?_)
  try simp only [ES] at H
  rw [if_neg (by omega)] at H
  replace H : Own (Wr b6 (lim, [], 0) :: F) w := Own.wrC (M := Os 5 encB (.slice none 0 0) [] :: F) (Sep.swap (Os.nil 5 encB H))
  simp (maxSteps := 500000) (decide := true) (disch := omega) only [EV, ↓reduceIte, Nat.reduceAdd, tt47]
  refine lq_nil ?_
  refine h2 _ _ ?_
  refine cw_ret ?_
  try simp (decide := true) only [EX, ↓reduceIte]
  refine ret1 rfl ?_
  exact ⟨_, rfl, H⟩
theorem NewReader_ok {ao : Option Addr} {n c : Nat} {xs : List UInt8} {F : List HP} {w : World} (H : Own F w) (hR : Ent F (Row ao encB xs)) (hn : n = xs.length) (hb : xs.length ≤ 549755813888) :
  Cl Tryz.prog 36 #[.slice ao n c] w fun v w' => ∃ p R, v = .pointer (some ⟨p, 0, none⟩) ∧ Own (Rr R p (xs, 0) :: F) w' := by
  refine cl_of_cw Tryz.func36 rfl ?_
  simp only [Tryz.ntmps36, envA, List.size_toArray, List.length_cons, List.length_nil, Nat.reduceAdd, Nat.reduceSub]
  refine cw_seq (fun K1 h1 => ?_)
  refine cw_region (lq_run ?_)
  simp (maxSteps := 500000) (decide := true) (disch := omega) only [EV, ↓reduceIte, Nat.reduceAdd, tt36]
  refine lq_nil ?_
  refine h1 _ _ ?_
  refine cw_seq (fun K2 h2 => ?_)
  refine cw_region (lq_run ?_)
  simp (maxSteps := 500000) (decide := true) (disch := omega) only [EV, ↓reduceIte, Nat.reduceAdd, tt36]
  refine lq_call rfl ?_
  refine Cl.mono (CloneB_ok H hR hn hb) ?_
  rintro _ w ⟨ao', c', rfl, H⟩
  simp (maxSteps := 500000) (decide := true) (disch := omega) only [EV, ↓reduceIte, Nat.reduceAdd, tt36]
  refine lq_box H rfl (fun b6 w H => ?_)
  try simp only [ES] at H
  have hq := (Own.osRow (Sep.tl H))
  replace H : Own (Ce b6 ([.slice ao' xs.length c', .int .i64 0], 182) :: ([Row ao' encB xs] ++ F)) w := Sep.under (fun g q => Sep.imp (fun g q => q.row) q) H
  replace H := H.rrC Ent.row rfl hq.2.1
  simp (maxSteps := 500000) (decide := true) (disch := omega) only [EV, ↓reduceIte, Nat.reduceAdd, tt36]
  refine lq_nil ?_
  refine h2 _ _ ?_
  refine cw_ret ?_
  try simp (decide := true) only [EX, ↓reduceIte]
  refine ret1 rfl ?_
  exact ⟨_, _, rfl, H⟩
end Go.Rp
set_option linter.unusedVariables false
set_option linter.unusedSimpArgs false
set_option maxHeartbeats 1000000
set_option maxRecDepth 100000
namespace Go.Rp
open Go.Proofs
instance iW6_0 : ArT Tryz.prog 225 16 89 := ⟨by kernel_rfl⟩
instance iW6_1 : ElT Tryz.prog 5 1 := ElT.mk' (by kernel_rfl)
instance iW6_2 : ElT Tryz.prog 89 1 := ElT.mk' (by kernel_rfl)
instance iW6_3 : FnOk Tryz.prog 152 := ⟨⟨Tryz.f152, Tryz.func152, by kernel_rfl, by kernel_rfl⟩⟩
instance iW6_4 : FnOk Tryz.prog 188 := ⟨⟨Tryz.f188, Tryz.func188, by kernel_rfl, by kernel_rfl⟩⟩
instance iW6_5 : FnOk Tryz.prog 96 := ⟨⟨Tryz.f96, Tryz.func96, by kernel_rfl, by kernel_rfl⟩⟩
instance iW6_6 : SlT Tryz.prog 23 5 := ⟨by kernel_rfl⟩
instance iW6_7 : SzT Tryz.prog 225 16 := ⟨by kernel_rfl⟩
instance iW6_8 : SzT Tryz.prog 89 1 := ⟨by kernel_rfl⟩
instance iW6_9 : ZvT Tryz.prog 225 (.agg #[(.int .u32 0), (.int .u32 0), (.int .u32 0), (.int .u32 0), (.int .u32 0), (.int .u32 0), (.int .u32 0), (.int .u32 0), (.int .u32 0), (.int .u32 0), (.int .u32 0), (.int .u32 0), (.int .u32 0), (.int .u32 0), (.int .u32 0), (.int .u32 0)]) := ⟨by kernel_rfl⟩
theorem tt188 : (True) := trivial
theorem tt152 : (AG Tryz.prog 225 = some true) ∧ (IKn Tryz.prog 3 = some .i64) ∧ (IKn Tryz.prog 89 = some .u32) ∧ (SZ Tryz.prog 225 = some 16) := ⟨by kernel_rfl, by kernel_rfl, by kernel_rfl, by kernel_rfl⟩
theorem tt96 : (AG Tryz.prog 5 = some false) ∧ (AG Tryz.prog 89 = some false) ∧ (IKn Tryz.prog 5 = some .u8) ∧ (IKn Tryz.prog 89 = some .u32) ∧ (LK Tryz.prog 23 = some 1) := ⟨by kernel_rfl, by kernel_rfl, by kernel_rfl, by kernel_rfl, by kernel_rfl⟩
theorem tt34 : (True) := trivial

def shr32 (w : Int) (k : Nat) : Int := w.fdiv (2 ^ (min k 32))
def turnedI (w : Int) : Int := if bits .and .u32 w 1 = 1 then bits .xor .u32 (w.fdiv (2 ^ (min (Int.toNat 1) IntKind.u32.bits))) 3988292384 else w.fdiv (2 ^ (min (Int.toNat 1) IntKind.u32.bits))
def turns (w : Int) : Nat → Int
  | 0 => w
  | n + 1 => turnedI (turns w n)
def tabI (i : Nat) : Int := turns (i : Int) 4
def tabL : Nat → List Value
  | 0 => []
  | n + 1 => tabL n ++ [.int .u32 (tabI n)]
theorem tabL_length : ∀ n, (tabL n).length = n
  | 0 => rfl
  | n + 1 => by simp [tabL, tabL_length n]
theorem tabL_get : ∀ (n i : Nat), i < n → (tabL n)[i]? = some (.int .u32 (tabI i))
  | 0, i, h => by omega
  | n + 1, i, h => by
    rw [tabL, List.getElem?_append, tabL_length]
    split
    · rename_i h2; exact tabL_get n i h2
    · rename_i h2
      obtain rfl : i = n := by omega
      simp
theorem tabL_one : ∀ (n : Nat), ∀ u ∈ tabL n, u.oneCell' = true
  | 0, u, h => by cases h
  | n + 1, u, h => by
    rcases List.mem_append.1 h with h | h
    · exact tabL_one n u h
    · simp at h; subst h; rfl
theorem and15 (x : Int) : 0 ≤ bits .and .u32 x 15 ∧ bits .and .u32 x 15 < 16 := by
  have h2 : (BitVec.ofInt 32 x &&& BitVec.ofInt 32 15).toNat < 16 := by
    rw [BitVec.toNat_and]
    exact Nat.lt_of_le_of_lt Nat.and_le_right (by decide)
  have h3 : bits .and .u32 x 15 = IntKind.u32.wrap ((BitVec.ofInt 32 x &&& BitVec.ofInt 32 15).toNat : Int) := rfl
  rw [h3, wrap_u32 (by omega)]
  omega
def crcHalf (w : Int) : Int := bits .xor .u32 (w.fdiv (2 ^ (min (Int.toNat 4) IntKind.u32.bits))) (tabI (bits .and .u32 w 15).toNat)
def crcStep (w : Int) (c : UInt8) : Int := crcHalf (crcHalf (bits .xor .u32 w (IntKind.u32.wrap (c.toNat : Int))))
def notI (w : Int) : Int := bits .xor .u32 (if IntKind.u32.signed = true then -1 else IntKind.u32.max) w
def crc (s : Int) (b : List UInt8) : Int := notI (b.foldl crcStep (notI s))
theorem crc_range (s : Int) (b : List UInt8) : 0 ≤ crc s b ∧ crc s b < 4294967296 := by
  unfold crc notI
  generalize b.foldl crcStep _ = x
  have h3 : ∀ y, bits .xor .u32 y x = IntKind.u32.wrap ((BitVec.ofInt 32 y ^^^ BitVec.ofInt 32 x).toNat : Int) := fun _ => rfl
  have h4 : ∀ y, (BitVec.ofInt 32 y ^^^ BitVec.ofInt 32 x).toNat < 2 ^ 32 := fun y => BitVec.isLt _
  rw [h3, wrap_u32 (by have := h4 (if IntKind.u32.signed = true then -1 else IntKind.u32.max); omega)]
  have := h4 (if IntKind.u32.signed = true then -1 else IntKind.u32.max)
  omega
theorem turned_ok {x : Int} {F : List HP} {w : World} (H : Own F w) :
  Cl Tryz.prog 188 #[.int .u32 x] w fun v w' => v = .int .u32 (turnedI x) ∧ Own F w' := by
  refine cl_of_cw Tryz.func188 rfl ?_
  simp only [Tryz.ntmps188, envA, List.size_toArray, List.length_cons, List.length_nil, Nat.reduceAdd, Nat.reduceSub]
  refine cw_seq (fun K1 h1 => ?_)
  refine cw_region (lq_run ?_)
  simp (maxSteps := 500000) (decide := true) (disch := omega) only [EV, ↓reduceIte, Nat.reduceAdd, tt188]
  refine lq_nil ?_
  refine h1 _ _ ?_
  refine cw_seq (fun K2 h2 => ?_)
  refine cw_seq (fun K3 h3 => ?_)
  refine cw_region (lq_run ?_)
  simp (maxSteps := 500000) (decide := true) (disch := omega) only [EV, ↓reduceIte, Nat.reduceAdd, tt188]
  refine lq_nil ?_
  refine h3 _ _ ?_
  refine cw_condB rfl (fun c5 => ?_) (fun c5 => ?_)
  · skip
    try simp only [HB] at c5
    refine cw_seq (fun K4 h4 => ?_)
    refine cw_region (lq_run ?_)
    simp (maxSteps := 500000) (decide := true) (disch := omega) only [EV, ↓reduceIte, Nat.reduceAdd, tt188]
    refine lq_nil ?_
    refine h4 _ _ ?_
    refine cw_ret ?_
    try simp (decide := true) only [EX, ↓reduceIte]
    refine ret1 rfl ?_
    rw [turnedI, if_pos c5]; exact ⟨rfl, H⟩
  · skip
    try simp only [HB] at c5
    refine cw_skip ?_
    refine h2 _ _ ?_
    refine cw_seq (fun K5 h5 => ?_)
    refine cw_region (lq_run ?_)
    simp (maxSteps := 500000) (decide := true) (disch := omega) only [EV, ↓reduceIte, Nat.reduceAdd, tt188]
    refine lq_nil ?_
    refine h5 _ _ ?_
    refine cw_ret ?_
    try simp (decide := true) only [EX, ↓reduceIte]
    refine ret1 rfl ?_
    rw [turnedI, if_neg c5]; exact ⟨rfl, H⟩
theorem halves_ok {F : List HP} {w : World} (H : Own F w) :
  Cl Tryz.prog 152 #[] w fun v w' => v = .agg (tabL 16).toArray ∧ Own F w' := by
  refine cl_of_cw Tryz.func152 rfl ?_
  simp only [Tryz.ntmps152, envA, List.size_toArray, List.length_cons, List.length_nil, Nat.reduceAdd, Nat.reduceSub]
  refine cw_seq (fun K1 h1 => ?_)
  refine cw_region (lq_run ?_)
  simp (maxSteps := 500000) (decide := true) (disch := omega) only [EV, ↓reduceIte, Nat.reduceAdd, tt152]
  refine lq_new H (fun b0 w H => ?_)
  try simp only [ES] at H
  simp (maxSteps := 500000) (decide := true) (disch := omega) only [EV, ↓reduceIte, Nat.reduceAdd, tt152]
  refine lq_nil ?_
  refine h1 _ _ ?_
  refine cw_seq (fun K2 h2 => ?_)
  refine cw_region (lq_run ?_)
  simp (maxSteps := 500000) (decide := true) (disch := omega) only [EV, ↓reduceIte, Nat.reduceAdd, tt152]
  refine lq_new H (fun b1 w H => ?_)
  try simp only [ES] at H
  simp (maxSteps := 500000) (decide := true) (disch := omega) only [EV, ↓reduceIte, Nat.reduceAdd, tt152]
  refine lq_nil ?_
  refine h2 _ _ ?_
  refine cw_seq (fun K3 h3 => ?_)
  refine cw_seq (fun K4 h4 => ?_)
  refine cw_region (lq_run ?_)
  simp (maxSteps := 500000) (decide := true) (disch := omega) only [EV, ↓reduceIte, Nat.reduceAdd, tt152]
  refine lq_nil ?_
  refine h4 _ _ ?_
  refine cw_block ?_
  refine cw_loopC (X := Nat × List Value) [(0, _), (1, _)] (fun x => [(4, .int .i64 (x.1 : Int))]) (fun x w => x.1 ≤ 16 ∧ x.2.length + x.1 = 16 ∧ Own (Ce b1 (tabL x.1 ++ x.2, 225) :: Ce b0 (List.replicate 16 (.int .u32 0), 225) :: F) w) (fun x => 16 - x.1) (0, List.replicate 16 (.int .u32 0)) (.c rfl (.c rfl .n)) (.c rfl .n) ⟨by omega, by simp, H⟩ ?_
  rintro ⟨i, l⟩ w ⟨hi, hl, H⟩
  simp only [List.cons_append, List.nil_append]
  simp only at hi hl H ⊢
  refine cw_seq (fun K5 h5 => ?_)
  refine cw_region (lq_run ?_)
  simp (maxSteps := 500000) (decide := true) (disch := omega) only [EV, ↓reduceIte, Nat.reduceAdd, tt152]
  refine lq_nil ?_
  refine h5 _ _ ?_
  refine cw_seq (fun K6 h6 => ?_)
  refine cw_condB rfl (fun c5 => ?_) (fun c5 => ?_)
  · skip
    try simp only [HB] at c5
    obtain ⟨u, q, rfl⟩ : ∃ u q, l = u :: q := by cases l with | nil => simp at hl; omega | cons u q => exact ⟨u, q, rfl⟩
    refine cw_skip ?_
    refine h6 _ _ ?_
    refine cw_seq (fun K7 h7 => ?_)
    refine cw_block ?_
    refine cw_seq (fun K8 h8 => ?_)
    refine cw_region (lq_run ?_)
    simp (maxSteps := 500000) (decide := true) (disch := omega) only [EV, ↓reduceIte, Nat.reduceAdd, tt152]
    refine lq_nil ?_
    refine h8 _ _ ?_
    refine cw_seq (fun K9 h9 => ?_)
    refine cw_region (lq_run ?_)
    simp (maxSteps := 500000) (decide := true) (disch := omega) only [EV, ↓reduceIte, Nat.reduceAdd, tt152]
    refine lq_nil ?_
    refine h9 _ _ ?_
    refine cw_seq (fun K10 h10 => ?_)
    refine cw_seq (fun K11 h11 => ?_)
    refine cw_region (lq_run ?_)
    simp (maxSteps := 500000) (decide := true) (disch := omega) only [EV, ↓reduceIte, Nat.reduceAdd, tt152]
    refine lq_nil ?_
    refine h11 _ _ ?_
    refine cw_block ?_
    refine cw_loopC (X := Nat) [(0, _), (1, _), (2, _), (4, _), (5, _), (6, _), (7, _), (8, _)] (fun x => [(3, .int .u32 (turns (i : Int) x)), (9, .int .i64 (x : Int))]) (fun x w => x ≤ 4 ∧ Own (Ce b1 (tabL i ++ u :: q, 225) :: Ce b0 (List.replicate 16 (.int .u32 0), 225) :: F) w) (fun x => 4 - x) 0 (.c rfl (.c rfl (.c rfl (.c rfl (.c rfl (.c rfl (.c rfl (.c rfl .n)))))))) (.c rfl (.c rfl .n)) ⟨by omega, H⟩ ?_
    rintro k w ⟨hk, H⟩
    simp only [List.cons_append, List.nil_append]
    refine cw_seq (fun K12 h12 => ?_)
    refine cw_region (lq_run ?_)
    simp (maxSteps := 500000) (decide := true) (disch := omega) only [EV, ↓reduceIte, Nat.reduceAdd, tt152]
    refine lq_nil ?_
    refine h12 _ _ ?_
    refine cw_seq (fun K13 h13 => ?_)
    refine cw_condB rfl (fun c10 => ?_) (fun c10 => ?_)
    · skip
      try simp only [HB] at c10
      refine cw_skip ?_
      refine h13 _ _ ?_
      refine cw_seq (fun K14 h14 => ?_)
      refine cw_block ?_
      refine cw_region (lq_run ?_)
      simp (maxSteps := 500000) (decide := true) (disch := omega) only [EV, ↓reduceIte, Nat.reduceAdd, tt152]
      refine lq_call rfl ?_
      refine Cl.mono (turned_ok H) ?_
      rintro _ w ⟨rfl, H⟩
      simp (maxSteps := 500000) (decide := true) (disch := omega) only [EV, ↓reduceIte, Nat.reduceAdd, tt152]
      refine lq_nil ?_
      refine h14 _ _ ?_
      refine cw_region (lq_run ?_)
      simp (maxSteps := 500000) (decide := true) (disch := omega) only [EV, ↓reduceIte, Nat.reduceAdd, tt152]
      refine lq_nil ?_
      refine Exists.intro (k + 1) ⟨⟨(.c rfl (.c rfl .n)), (.c rfl (.c rfl (.c rfl (.c rfl (.c rfl (.c rfl (.c rfl (.c rfl .n))))))))⟩, ⟨by omega, H⟩, (by omega)⟩
    · skip
      try simp only [HB] at c10
      obtain rfl : k = 4 := by omega
      refine cw_exit ?_
      refine h10 _ _ ?_
      refine cw_region (lq_run ?_)
      simp (maxSteps := 500000) (decide := true) (disch := omega) only [EV, ↓reduceIte, Nat.reduceAdd, tt152]
      refine lq_idxA i rfl rfl rfl (by omega) ?_
      simp (maxSteps := 500000) (decide := true) (disch := omega) only [EV, ↓reduceIte, Nat.reduceAdd, tt152]
      refine lq_stV (tabL (i + 1) ++ q) H rfl rfl ⟨rfl, by simp [tabL_length, Value.cells], fun u hu => by simp [Value.cells] at hu; subst hu; rfl⟩ (by
        have := setR_all [.int .u32 (tabI i)] (tabL i) [u] q rfl
        rw [tabL_length] at this
        simp only [Nat.mul_one, Nat.zero_add]
        rw [tabL]; simpa [Value.cells, tabI] using this) (fun w H => ?_)
      simp (maxSteps := 500000) (decide := true) (disch := omega) only [EV, ↓reduceIte, Nat.reduceAdd, tt152]
      refine lq_nil ?_
      refine h7 _ _ ?_
      refine cw_region (lq_run ?_)
      simp (maxSteps := 500000) (decide := true) (disch := omega) only [EV, ↓reduceIte, Nat.reduceAdd, tt152]
      refine lq_nil ?_
      refine Exists.intro (i + 1, q) ⟨⟨(.c rfl .n), (.c rfl (.c rfl .n))⟩, ⟨by omega, by simp at hl ⊢; omega, H⟩, (by omega)⟩
  · skip
    try simp only [HB] at c5
    obtain rfl : i = 16 := by omega
    obtain rfl : l = [] := List.eq_nil_of_length_eq_zero (by omega)
    rw [List.append_nil] at H
    refine cw_exit ?_
    refine h3 _ _ ?_
    refine cw_seq (fun K15 h15 => ?_)
    refine cw_region (lq_run ?_)
    simp (maxSteps := 500000) (decide := true) (disch := omega) only [EV, ↓reduceIte, Nat.reduceAdd, tt152]
    refine lq_loadV (.agg (tabL 16).toArray) H rfl (by simp only [ldC, tt152]; rw [if_pos (by simp [tabL_length]), List.drop_zero, List.take_of_length_le (by simp [tabL_length])]) ?_
    simp (maxSteps := 500000) (decide := true) (disch := omega) only [EV, ↓reduceIte, Nat.reduceAdd, tt152]
    refine lq_stV (tabL 16) H rfl rfl ⟨by simp [Value.cells, tabL_length], by simp, fun u hu => tabL_one 16 u (by simpa [Value.cells] using hu)⟩ (setR_whole (by simp [tabL_length, Value.cells])) (fun w H => ?_)
    simp (maxSteps := 500000) (decide := true) (disch := omega) only [EV, ↓reduceIte, Nat.reduceAdd, tt152]
    refine lq_nil ?_
    refine h15 _ _ ?_
    refine cw_ret ?_
    try simp (decide := true) only [EX, ↓reduceIte]
    refine retcV (.agg (tabL 16).toArray) H rfl (by simp only [ldC, tt152]; rw [if_pos (by simp [tabL_length]), List.drop_zero, List.take_of_length_le (by simp [tabL_length])]) ?_
    exact ⟨rfl, H.wk⟩
theorem Update_ok {s : Int} {ao : Option Addr} {n c : Nat} {xs : List UInt8} {F : List HP} {w : World} (H : Own F w) (hR : Ent F (Row ao encB xs)) (hn : n = xs.length) (hb : xs.length ≤ 1099511627776) :
  Cl Tryz.prog 96 #[.int .u32 s, .slice ao n c] w fun v w' => v = .int .u32 (crc s xs) ∧ Own F w' := by
  subst hn
  refine cl_of_cw Tryz.func96 rfl ?_
  simp only [Tryz.ntmps96, envA, List.size_toArray, List.length_cons, List.length_nil, Nat.reduceAdd, Nat.reduceSub]
  refine cw_seq (fun K1 h1 => ?_)
  refine cw_region (lq_run ?_)
  simp (maxSteps := 500000) (decide := true) (disch := omega) only [EV, ↓reduceIte, Nat.reduceAdd, tt96]
  refine lq_nil ?_
  refine h1 _ _ ?_
  refine cw_seq (fun K2 h2 => ?_)
  refine cw_region (lq_run ?_)
  simp (maxSteps := 500000) (decide := true) (disch := omega) only [EV, ↓reduceIte, Nat.reduceAdd, tt96]
  refine lq_call rfl ?_
  refine Cl.mono (halves_ok H) ?_
  rintro _ w ⟨rfl, H⟩
  simp (maxSteps := 500000) (decide := true) (disch := omega) only [EV, ↓reduceIte, Nat.reduceAdd, tt96]
  refine lq_new H (fun b5 w H => ?_)
  try simp only [ES] at H
  simp (maxSteps := 500000) (decide := true) (disch := omega) only [EV, ↓reduceIte, Nat.reduceAdd, tt96]
  refine lq_stV (tabL 16) H rfl rfl ⟨by simp [Value.cells, tabL_length], by simp, fun u hu => tabL_one 16 u (by simpa [Value.cells] using hu)⟩ (setR_whole (by simp [tabL_length, Value.cells])) (fun w H => ?_)
  simp (maxSteps := 500000) (decide := true) (disch := omega) only [EV, ↓reduceIte, Nat.reduceAdd, tt96]
  refine lq_nil ?_
  refine h2 _ _ ?_
  refine cw_seq (fun K3 h3 => ?_)
  refine cw_region (lq_run ?_)
  simp (maxSteps := 500000) (decide := true) (disch := omega) only [EV, ↓reduceIte, Nat.reduceAdd, tt96]
  refine lq_nil ?_
  refine h3 _ _ ?_
  refine cw_seq (fun K4 h4 => ?_)
  refine cw_seq (fun K5 h5 => ?_)
  refine cw_region (lq_run ?_)
  simp (maxSteps := 500000) (decide := true) (disch := omega) only [EV, ↓reduceIte, Nat.reduceAdd, tt96]
  refine lq_nil ?_
  refine h5 _ _ ?_
  refine cw_block ?_
  refine cw_loopC (X := List UInt8 × List UInt8) [(4, _), (5, _), (12, _), (13, _)] (fun x => [(6, .int .u32 (x.1.foldl crcStep (notI s))), (14, .int .i64 (x.1.length : Int))]) (fun x w => xs = x.1 ++ x.2 ∧ Own (Ce b5 (tabL 16, 225) :: F) w) (fun x => x.2.length) ([], xs) (.c rfl (.c rfl (.c rfl (.c rfl .n)))) (.c rfl (.c rfl .n)) ⟨rfl, H⟩ ?_
  rintro ⟨d, r⟩ w ⟨hd, H⟩
  simp only [List.cons_append, List.nil_append]
  simp only at hd H ⊢
  refine cw_seq (fun K6 h6 => ?_)
  refine cw_region (lq_run ?_)
  simp (maxSteps := 500000) (decide := true) (disch := omega) only [EV, ↓reduceIte, Nat.reduceAdd, tt96]
  refine lq_nil ?_
  refine h6 _ _ ?_
  refine cw_seq (fun K7 h7 => ?_)
  refine cw_condB rfl (fun c15 => ?_) (fun c15 => ?_)
  · skip
    try simp only [HB] at c15
    obtain ⟨z, r', rfl, he⟩ := zip_more hd c15
    refine cw_skip ?_
    refine h7 _ _ ?_
    refine cw_seq (fun K8 h8 => ?_)
    refine cw_block ?_
    refine cw_seq (fun K9 h9 => ?_)
    refine cw_region (lq_run ?_)
    simp (maxSteps := 500000) (decide := true) (disch := omega) only [EV, ↓reduceIte, Nat.reduceAdd, tt96]
    refine lq_idx (i' := d.length) H rfl rfl hR (Nat.le_refl _) rfl he ?_
    simp (maxSteps := 500000) (decide := true) (disch := omega) only [EV, ↓reduceIte, Nat.reduceAdd, tt96]
    refine lq_loadE H rfl hR he rfl ?_
    simp (maxSteps := 500000) (decide := true) (disch := omega) only [EV, ↓reduceIte, Nat.reduceAdd, tt96]
    refine lq_nil ?_
    refine h9 _ _ ?_
    refine cw_seq (fun K10 h10 => ?_)
    refine cw_region (lq_run ?_)
    simp (maxSteps := 500000) (decide := true) (disch := omega) only [EV, ↓reduceIte, Nat.reduceAdd, tt96]
    refine lq_nil ?_
    refine h10 _ _ ?_
    refine cw_seq (fun K11 h11 => ?_)
    refine cw_region (lq_run ?_)
    simp (maxSteps := 500000) (decide := true) (disch := omega) only [EV, ↓reduceIte, Nat.reduceAdd, tt96]
    obtain ⟨j, hj, hj16⟩ : ∃ j : Nat, bits .and .u32 (bits .xor .u32 (d.foldl crcStep (notI s)) (IntKind.u32.wrap (z.toNat : Int))) 15 = j ∧ j < 16 := ⟨_, (Int.toNat_of_nonneg (and15 _).1).symm, by have := and15 (bits .xor .u32 (d.foldl crcStep (notI s)) (IntKind.u32.wrap (z.toNat : Int))); omega⟩
    refine lq_idxA j rfl rfl hj hj16 ?_
    simp (maxSteps := 500000) (decide := true) (disch := omega) only [EV, ↓reduceIte, Nat.reduceAdd, tt96]
    refine lq_loadV (.int .u32 (tabI j)) H rfl (by simp only [ldC, tt96, Nat.mul_one, Nat.zero_add]; exact tabL_get 16 j hj16) ?_
    simp (maxSteps := 500000) (decide := true) (disch := omega) only [EV, ↓reduceIte, Nat.reduceAdd, tt96]
    refine lq_nil ?_
    refine h11 _ _ ?_
    refine cw_region (lq_run ?_)
    have hj0 : (bits .and .u32 (bits .xor .u32 (d.foldl crcStep (notI s)) (IntKind.u32.wrap (z.toNat : Int))) 15).toNat = j := by rw [hj, Int.toNat_natCast]
    simp (maxSteps := 500000) (decide := true) (disch := omega) only [EV, ↓reduceIte, Nat.reduceAdd, tt96]
    obtain ⟨j, hj, hj16⟩ : ∃ j : Nat, bits .and .u32 (crcHalf (bits .xor .u32 (d.foldl crcStep (notI s)) (IntKind.u32.wrap (z.toNat : Int)))) 15 = j ∧ j < 16 := ⟨_, (Int.toNat_of_nonneg (and15 _).1).symm, by have := and15 (crcHalf (bits .xor .u32 (d.foldl crcStep (notI s)) (IntKind.u32.wrap (z.toNat : Int)))); omega⟩
    refine lq_idxA j rfl rfl (by rw [crcHalf, hj0] at hj; exact hj) hj16 ?_
    simp (maxSteps := 500000) (decide := true) (disch := omega) only [EV, ↓reduceIte, Nat.reduceAdd, tt96]
    refine lq_loadV (.int .u32 (tabI j)) H rfl (by simp only [ldC, tt96, Nat.mul_one, Nat.zero_add]; exact tabL_get 16 j hj16) ?_
    simp (maxSteps := 500000) (decide := true) (disch := omega) only [EV, ↓reduceIte, Nat.reduceAdd, tt96]
    refine lq_nil ?_
    refine h8 _ _ ?_
    refine cw_region (lq_run ?_)
    simp (maxSteps := 500000) (decide := true) (disch := omega) only [EV, ↓reduceIte, Nat.reduceAdd, tt96]
    refine lq_nil ?_
    have hj1 : (bits .and .u32 (crcHalf (bits .xor .u32 (d.foldl crcStep (notI s)) (IntKind.u32.wrap (z.toNat : Int)))) 15).toNat = j := by rw [hj, Int.toNat_natCast]
    refine Exists.intro (d ++ [z], r') ⟨⟨(.c (by rw [List.foldl_append, List.foldl_cons, List.foldl_nil, crcStep, crcHalf, hj1, crcHalf, hj0]; rfl) (.c (by rw [List.length_append]; rfl) .n)), (.c rfl (.c rfl (.c rfl (.c rfl .n))))⟩, ⟨by simp [hd], H⟩, (by simp)⟩
  · skip
    try simp only [HB] at c15
    obtain ⟨rfl, rfl⟩ := zip_done hd c15
    refine cw_exit ?_
    refine h4 _ _ ?_
    refine cw_seq (fun K12 h12 => ?_)
    refine cw_region (lq_run ?_)
    simp (maxSteps := 500000) (decide := true) (disch := omega) only [EV, ↓reduceIte, Nat.reduceAdd, tt96]
    refine lq_nil ?_
    refine h12 _ _ ?_
    refine cw_ret ?_
    try simp (decide := true) only [EX, ↓reduceIte]
    refine ret1 rfl ?_
    exact ⟨rfl, H.wk⟩
theorem Sum_ok {ao : Option Addr} {n c : Nat} {xs : List UInt8} {F : List HP} {w : World} (H : Own F w) (hR : Ent F (Row ao encB xs)) (hn : n = xs.length) (hb : xs.length ≤ 1099511627776) :
  Cl Tryz.prog 34 #[.slice ao n c] w fun v w' => v = .int .u32 (crc 0 xs) ∧ Own F w' := by
  refine cl_of_cw Tryz.func34 rfl ?_
  simp only [Tryz.ntmps34, envA, List.size_toArray, List.length_cons, List.length_nil, Nat.reduceAdd, Nat.reduceSub]
  refine cw_seq (fun K1 h1 => ?_)
  refine cw_region (lq_run ?_)
  simp (maxSteps := 500000) (decide := true) (disch := omega) only [EV, ↓reduceIte, Nat.reduceAdd, tt34]
  refine lq_nil ?_
  refine h1 _ _ ?_
  refine cw_seq (fun K2 h2 => ?_)
  refine cw_region (lq_run ?_)
  simp (maxSteps := 500000) (decide := true) (disch := omega) only [EV, ↓reduceIte, Nat.reduceAdd, tt34]
  refine lq_call rfl ?_
  refine Cl.mono (Update_ok H hR hn hb) ?_
  rintro _ w ⟨rfl, H⟩
  simp (maxSteps := 500000) (decide := true) (disch := omega) only [EV, ↓reduceIte, Nat.reduceAdd, tt34]
  refine lq_nil ?_
  refine h2 _ _ ?_
  refine cw_ret ?_
  try simp (decide := true) only [EX, ↓reduceIte]
  refine ret1 rfl ?_
  exact ⟨rfl, H⟩
end Go.Rp
set_option linter.unusedVariables false
set_option linter.unusedSimpArgs false
set_option maxHeartbeats 1000000
set_option maxRecDepth 100000
namespace Go.Rp
open Go.Proofs
instance iW7_0 : MpT Tryz.prog 96 9 43 := ⟨by kernel_rfl⟩
instance iW7_1 : ZvT Tryz.prog 43 (.int .u64 0) := ⟨by kernel_rfl⟩
theorem tt63 : (True) := trivial
theorem tt16 : (AG Tryz.prog 96 = some false) ∧ (FO Tryz.prog 129 3 = some 3) := ⟨by kernel_rfl, by kernel_rfl⟩
theorem tt54 : (BU Tryz.prog 129 = some ([(.map none), (.map none), (.map none), (.map none)], [(0, 1), (1, 1), (2, 1), (3, 1)])) := by kernel_rfl

abbrev Nm := ByteArray × Int
structure Hd where
  val : ByteArray
  keys : List ByteArray
  stamp : Int
structure Sto where
  V : List (Nm × Hd)
  L : List (ByteArray × Int)
abbrev Sl := Option Addr × Nat × Nat
def slv (s : Sl) : Value := .slice s.1 s.2.1 s.2.2
def encI : Enc Int := ⟨fun i => [.int .u64 i], 1, fun _ => rfl, fun x u hu => by simp at hu; subst hu; rfl, by decide⟩
def encN : Enc Nm := ⟨fun n => [.string n.1, .int .u64 n.2], 2, fun _ => rfl, fun x u hu => by simp at hu; rcases hu with rfl | rfl <;> rfl, by decide⟩
def EmV : MEnc Nm (ByteArray × Sl × Int) := ⟨fun k => .agg #[.string k.1, .int .u64 k.2], fun h => .agg #[.string h.1, slv h.2.1, .int .i64 h.2.2]⟩
def EmI : MEnc ByteArray Sl := ⟨.string, slv⟩
def EmP : MEnc Int Sl := ⟨.int .u64, slv⟩
def EmL : MEnc ByteArray Int := ⟨.string, .int .u64⟩
/-- Rows that nobody writes. -/
def Bag (rs : List (Option Addr × List ByteArray)) : HP := Sep (rs.map fun r => Row r.1 encS r.2)
def Bigs {α : Type} (l : List α) (f : α → HP) : HP := Sep (l.map f)
def idsOf (V : List (Nm × Hd)) (k : ByteArray) : List Int := (V.filter fun p => decide (p.1.1 = k)).map (·.1.2)
structure Lo where
  bv : Nat
  bi : Nat
  bp : Nat
  bl : Nat
  mv : List (Nm × (ByteArray × Sl × Int))
  mi : List (ByteArray × Sl)
  mp : List (Int × Sl)
  ml : List (ByteArray × Int)
  rs : List (Option Addr × List ByteArray)
  pl : Int → List ByteArray
def HvRel (rs : List (Option Addr × List ByteArray)) : Option (ByteArray × Sl × Int) → Option Hd → Prop
  | some x, some h => x.1 = h.val ∧ x.2.2 = h.stamp ∧ x.2.1.2.1 = h.keys.length ∧ (x.2.1.1, h.keys) ∈ rs
  | none, none => True
  | _, _ => False
structure LoOk (S : Sto) (q : Lo) : Prop where
  rv : Rise (keys S.V)
  rl : Rise (keys S.L)
  v : ∀ n, HvRel q.rs (mget q.mv n) (mget S.V n)
  i : ∀ k, mget q.mi k = none → idsOf S.V k = []
  p : ∀ id k, k ∈ q.pl id ↔ (mget S.V (k, id)).isSome = true
  pn : ∀ id, (q.pl id).Nodup
  p0 : ∀ id, mget q.mp id = none → q.pl id = []
  l : ∀ k, mget q.ml k = mget S.L k
def IdsR (V : List (Nm × Hd)) (mi : List (ByteArray × Sl)) : HP := Bigs mi fun e => Os 43 encI (slv e.2) (idsOf V e.1)
def PlR (pl : Int → List ByteArray) (mp : List (Int × Sl)) : HP := Bigs mp fun e => Os 9 encS (slv e.2) (pl e.1)
def StoreAt (p : Nat) (S : Sto) : HP := fun h => ∃ q, LoOk S q ∧ Sep [Ce p ([.map (some q.bv), .map (some q.bi), .map (some q.bp), .map (some q.bl)], 129), Mp EmV q.bv q.mv, Mp EmI q.bi q.mi, Mp EmP q.bp q.mp, Mp EmL q.bl q.ml, Bag q.rs, IdsR S.V q.mi, PlR q.pl q.mp] h
theorem Own.stO {p : Nat} {S : Sto} {L : List HP} {w : World} (H : Own (StoreAt p S :: L) w) : ∃ q, LoOk S q ∧ Own (Ce p ([.map (some q.bv), .map (some q.bi), .map (some q.bp), .map (some q.bl)], 129) :: Mp EmV q.bv q.mv :: Mp EmI q.bi q.mi :: Mp EmP q.bp q.mp :: Mp EmL q.bl q.ml :: Bag q.rs :: IdsR S.V q.mi :: PlR q.pl q.mp :: L) w := by
  obtain ⟨q, H⟩ := Sep.ex.1 H
  obtain ⟨hq, H⟩ := Sep.pure.1 H
  exact ⟨q, hq, Sep.flat.1 H⟩
theorem Own.stC {p : Nat} {S : Sto} {L M : List HP} {w : World} (q : Lo) (hq : LoOk S q) (H : Own M w) [wk : Wk M (Ce p ([.map (some q.bv), .map (some q.bi), .map (some q.bp), .map (some q.bl)], 129) :: Mp EmV q.bv q.mv :: Mp EmI q.bi q.mi :: Mp EmP q.bp q.mp :: Mp EmL q.bl q.ml :: Bag q.rs :: IdsR S.V q.mi :: PlR q.pl q.mp :: L)] : Own (StoreAt p S :: L) w :=
  Sep.ex.2 ⟨q, Sep.pure.2 ⟨hq, Sep.flat.2 (wk.out _ H)⟩⟩
instance : KyT Tryz.prog 9 EmI.ke := kyS (by kernel_rfl)
instance : KyT Tryz.prog 9 EmL.ke := kyS (by kernel_rfl)
instance : KyT Tryz.prog 43 EmP.ke := kyI (by kernel_rfl)
theorem mval_none {κ β : Type} [DecidableEq κ] {E : MEnc κ β} {m : List (κ × β)} {k : κ} {z : Value} (h : mget m k = none) : mval E m k z = z := by simp [mval, h]
theorem mval_some {κ β : Type} [DecidableEq κ] {E : MEnc κ β} {m : List (κ × β)} {k : κ} {v : β} {z : Value} (h : mget m k = some v) : mval E m k z = E.ve v := by simp [mval, h]
def lastOf (S : Sto) (k : ByteArray) : Int := (mget S.L k).getD 0
theorem mval_last {S : Sto} {q : Lo} (hq : LoOk S q) (k : ByteArray) : mval EmL q.ml k (.int .u64 0) = .int .u64 (lastOf S k) := by
  unfold lastOf mval; rw [hq.l k]; cases mget S.L k <;> rfl
theorem mval_place {S : Sto} {q : Lo} (hq : LoOk S q) (id : Int) : ∃ s : Sl, mval EmP q.mp id (.slice none 0 0) = slv s := by
  unfold mval; cases h : mget q.mp id with
  | none => exact ⟨(none, 0, 0), rfl⟩
  | some s => exact ⟨s, rfl⟩
theorem tick_ok {x : Int} {F : List HP} {w : World} (H : Own F w) :
  Cl Tryz.prog 63 #[.int .i64 x] w fun v w' => v = .bool (decide (0 ≤ x ∧ x ≤ 1099511627776)) ∧ Own F w' := by
  refine cl_of_cw Tryz.func63 rfl ?_
  simp only [Tryz.ntmps63, envA, List.size_toArray, List.length_cons, List.length_nil, Nat.reduceAdd, Nat.reduceSub]
  refine cw_seq (fun K1 h1 => ?_)
  refine cw_region (lq_run ?_)
  simp (maxSteps := 500000) (decide := true) (disch := omega) only [EV, ↓reduceIte, Nat.reduceAdd, tt63]
  refine lq_nil ?_
  refine h1 _ _ ?_
  refine cw_seq (fun K2 h2 => ?_)
  refine cw_region (lq_run ?_)
  simp (maxSteps := 500000) (decide := true) (disch := omega) only [EV, ↓reduceIte, Nat.reduceAdd, tt63]
  refine lq_G (fun g5 => ?_) (fun g5 => ?_)
  · try simp only [HB] at g5
    simp (maxSteps := 500000) (decide := true) (disch := omega) only [EV, ↓reduceIte, Nat.reduceAdd, tt63]
    refine lq_nil ?_
    refine h2 _ _ ?_
    refine cw_ret ?_
    try simp (decide := true) only [EX, ↓reduceIte]
    refine ret1 rfl ?_
    refine ⟨?_, H⟩; congr 1; simp [g5]
  · try simp only [HB] at g5
    simp (maxSteps := 500000) (decide := true) (disch := omega) only [EV, ↓reduceIte, Nat.reduceAdd, tt63]
    refine lq_nil ?_
    refine h2 _ _ ?_
    refine cw_ret ?_
    try simp (decide := true) only [EX, ↓reduceIte]
    refine ret1 rfl ?_
    refine ⟨?_, H⟩; congr 1; simp; omega
theorem Last_ok {p : Nat} {S : Sto} {F : List HP} {w : World} {k : ByteArray} (H : Own (StoreAt p S :: F) w) :
  Cl Tryz.prog 16 #[.pointer (some ⟨p, 0, none⟩), .string k] w fun v w' => v = .int .u64 (lastOf S k) ∧ Own (StoreAt p S :: F) w' := by
  refine cl_of_cw Tryz.func16 rfl ?_
  simp only [Tryz.ntmps16, envA, List.size_toArray, List.length_cons, List.length_nil, Nat.reduceAdd, Nat.reduceSub]
  obtain ⟨q, hq, H⟩ := H.stO
  refine cw_seq (fun K1 h1 => ?_)
  refine cw_region (lq_run ?_)
  simp (maxSteps := 500000) (decide := true) (disch := omega) only [EV, ↓reduceIte, Nat.reduceAdd, tt16]
  refine lq_nil ?_
  refine h1 _ _ ?_
  refine cw_seq (fun K2 h2 => ?_)
  refine cw_region (lq_run ?_)
  simp (maxSteps := 500000) (decide := true) (disch := omega) only [EV, ↓reduceIte, Nat.reduceAdd, tt16]
  refine lq_load H rfl ?_
  simp (maxSteps := 500000) (decide := true) (disch := omega) only [EV, ↓reduceIte, Nat.reduceAdd, tt16]
  refine lq_lookup (E := EmL) k H rfl rfl ?_
  rw [mval_last hq]
  simp (maxSteps := 500000) (decide := true) (disch := omega) only [EV, ↓reduceIte, Nat.reduceAdd, tt16]
  refine lq_nil ?_
  refine h2 _ _ ?_
  refine cw_ret ?_
  try simp (decide := true) only [EX, ↓reduceIte]
  refine ret1 rfl ?_
  exact ⟨rfl, H.stC q hq⟩
theorem New_ok {F : List HP} {w : World} (H : Own F w) :
  Cl Tryz.prog 54 #[] w fun v w' => ∃ p, v = .pointer (some ⟨p, 0, none⟩) ∧ Own (StoreAt p ⟨[], []⟩ :: F) w' := by
  refine cl_of_cw Tryz.func54 rfl ?_
  simp only [Tryz.ntmps54, envA, List.size_toArray, List.length_cons, List.length_nil, Nat.reduceAdd, Nat.reduceSub]
  refine cw_seq (fun K1 h1 => ?_)
  refine cw_region (lq_run ?_)
  simp (maxSteps := 500000) (decide := true) (disch := omega) only [EV, ↓reduceIte, Nat.reduceAdd, tt54]
  refine lq_nil ?_
  refine h1 _ _ ?_
  refine cw_seq (fun K2 h2 => ?_)
  refine cw_region (lq_run ?_)
  simp (maxSteps := 500000) (decide := true) (disch := omega) only [EV, ↓reduceIte, Nat.reduceAdd, tt54]
  refine lq_makeMap (E := EmV) H (fun bv w H => ?_)
  simp (maxSteps := 500000) (decide := true) (disch := omega) only [EV, ↓reduceIte, Nat.reduceAdd, tt54]
  refine lq_makeMap (E := EmI) H (fun bi w H => ?_)
  simp (maxSteps := 500000) (decide := true) (disch := omega) only [EV, ↓reduceIte, Nat.reduceAdd, tt54]
  refine lq_makeMap (E := EmP) H (fun bp w H => ?_)
  simp (maxSteps := 500000) (decide := true) (disch := omega) only [EV, ↓reduceIte, Nat.reduceAdd, tt54]
  refine lq_makeMap (E := EmL) H (fun bl w H => ?_)
  simp (maxSteps := 500000) (decide := true) (disch := omega) only [EV, ↓reduceIte, Nat.reduceAdd, tt54]
  refine lq_box H rfl (fun b6 w H => ?_)
  try simp only [ES] at H
  simp (maxSteps := 500000) (decide := true) (disch := omega) only [EV, ↓reduceIte, Nat.reduceAdd, tt54]
  refine lq_nil ?_
  refine h2 _ _ ?_
  refine cw_ret ?_
  try simp (decide := true) only [EX, ↓reduceIte]
  refine ret1 rfl ?_
  refine ⟨b6, rfl, ?_⟩
  have hq : LoOk ⟨[], []⟩ ⟨bv, bi, bp, bl, [], [], [], [], [], fun _ => []⟩ := ⟨.nil, .nil, fun _ => trivial, fun _ _ => rfl, fun _ _ => by simp [mget], fun _ => List.nodup_nil, fun _ _ => rfl, fun _ => rfl⟩
  have H2 : Own (Bag [] :: IdsR [] [] :: PlR (fun _ => []) [] :: _) w := Own.triv (fun _ => trivial) (Own.triv (fun _ => trivial) (Own.triv (fun _ => trivial) H))
  exact H2.stC _ hq
end Go.Rp
set_option linter.unusedVariables false
set_option linter.unusedSimpArgs false
set_option maxHeartbeats 1000000
set_option maxRecDepth 100000
namespace Go.Rp
open Go.Proofs
instance iW8_0 : ElT Tryz.prog 43 1 := ElT.mk' (by kernel_rfl)
instance iW8_1 : ElT Tryz.prog 9 1 := ElT.mk' (by kernel_rfl)
instance iW8_2 : FnOk Tryz.prog 157 := ⟨⟨Tryz.f157, Tryz.func157, by kernel_rfl, by kernel_rfl⟩⟩
instance iW8_3 : FnOk Tryz.prog 158 := ⟨⟨Tryz.f158, Tryz.func158, by kernel_rfl, by kernel_rfl⟩⟩
instance iW8_4 : FnOk Tryz.prog 162 := ⟨⟨Tryz.f162, Tryz.func162, by kernel_rfl, by kernel_rfl⟩⟩
instance iW8_5 : FnOk Tryz.prog 163 := ⟨⟨Tryz.f163, Tryz.func163, by kernel_rfl, by kernel_rfl⟩⟩
instance iW8_6 : FnOk Tryz.prog 205 := ⟨⟨Tryz.f205, Tryz.func205, by kernel_rfl, by kernel_rfl⟩⟩
instance iW8_7 : FnOk Tryz.prog 208 := ⟨⟨Tryz.f208, Tryz.func208, by kernel_rfl, by kernel_rfl⟩⟩
instance iW8_8 : SlT Tryz.prog 141 43 := ⟨by kernel_rfl⟩
instance iW8_9 : SlT Tryz.prog 44 9 := ⟨by kernel_rfl⟩
theorem tt157 : (True) := trivial
theorem tt158 : (True) := trivial
theorem tt208 : (True) := trivial
theorem tt163 : (True) := trivial
theorem tt205 : (True) := trivial
theorem tt162 : (True) := trivial
theorem tt161 : (AG Tryz.prog 9 = some false) ∧ (IKn Tryz.prog 179 = some .u64) ∧ (IKn Tryz.prog 3 = some .i64) ∧ (LK Tryz.prog 44 = some 1) := ⟨by kernel_rfl, by kernel_rfl, by kernel_rfl, by kernel_rfl⟩
theorem tt113 : (AG Tryz.prog 43 = some false) ∧ (IKn Tryz.prog 179 = some .u64) ∧ (IKn Tryz.prog 3 = some .i64) ∧ (LK Tryz.prog 141 = some 1) := ⟨by kernel_rfl, by kernel_rfl, by kernel_rfl, by kernel_rfl⟩

theorem name2 : St2 Tryz.prog 119 ({ name := "key", type := 9, offset := 0, embedded := false, tag := "", pkgPath := "rampart/store", byteOffset := 0 }) ({ name := "id", type := 43, offset := 1, embedded := false, tag := "", pkgPath := "rampart/store", byteOffset := 16 }) := ⟨by kernel_rfl, by decide, by decide, by kernel_rfl, by kernel_rfl, by kernel_rfl, rfl, rfl⟩
instance : KyT Tryz.prog 119 EmV.ke := name2.ky
theorem mid_eq (i j : Nat) (h : i + j ≤ 4611686018427387904) : IntKind.i64.wrap (((i : Int) + (j : Int)).fdiv (2 ^ (min (Int.toNat 1) IntKind.u64.bits))) = (((i + j) / 2 : Nat) : Int) := by
  have e : (2 : Int) ^ (min (Int.toNat 1) IntKind.u64.bits) = 2 := by decide
  rw [e, Int.fdiv_eq_ediv_of_nonneg _ (by decide), wrap_i64 (by omega)]
  omega
/-- Where x would stand. -/
structure BsAt {κ : Type} [Lt κ] (xs : List κ) (x : κ) (i : Nat) : Prop where
  le : i ≤ xs.length
  lo : ∀ k y, k < i → xs[k]? = some y → Lt.lt y x = true
  hi : ∀ k y, i ≤ k → xs[k]? = some y → Lt.lt y x = false
theorem Rise.get {κ : Type} [Lt κ] {xs : List κ} (h : Rise xs) {i j : Nat} {a b : κ} (hij : i < j) (ha : xs[i]? = some a) (hb : xs[j]? = some b) : Lt.lt a b = true := by
  obtain ⟨h1, rfl⟩ := List.getElem?_eq_some_iff.1 ha
  obtain ⟨h2, rfl⟩ := List.getElem?_eq_some_iff.1 hb
  exact (List.pairwise_iff_getElem.1 h) i j h1 h2 hij
theorem BsAt.mem {κ : Type} [DecidableEq κ] [Lt κ] {xs : List κ} {x : κ} {i : Nat} (h : BsAt xs x i) (hr : Rise xs) : (xs[i]? = some x) ↔ x ∈ xs := by
  constructor
  · exact fun e => List.mem_of_getElem? e
  · intro e
    obtain ⟨k, hk⟩ := List.mem_iff_getElem?.1 e
    rcases Nat.lt_trichotomy k i with hki | hki | hki
    · have := h.lo k x hki hk; rw [Lt.irr] at this; cases this
    · subst hki; exact hk
    · have hlt : i < xs.length := Nat.lt_trans hki (List.getElem?_eq_some_iff.1 hk).1
      have h1 := hr.get hki (List.getElem?_eq_getElem hlt) hk
      have h2 := h.hi i _ (Nat.le_refl i) (List.getElem?_eq_getElem hlt)
      rw [h1] at h2; cases h2
def memB {κ : Type} [DecidableEq κ] (xs : List κ) (x : κ) : Bool := xs.any fun y => decide (y = x)
theorem memB_iff {κ : Type} [DecidableEq κ] {xs : List κ} {x : κ} : memB xs x = true ↔ x ∈ xs := by simp [memB]
theorem memB_no {κ : Type} [DecidableEq κ] {xs : List κ} {x : κ} : memB xs x = false ↔ ¬ x ∈ xs := by rw [← memB_iff]; cases memB xs x <;> simp
theorem bs_lo {κ : Type} [Lt κ] {xs : List κ} (hs : Rise xs) {m : Nat} {y x : κ} (hy : xs[m]? = some y) (h : Lt.lt y x = true) : ∀ k z, k < m + 1 → xs[k]? = some z → Lt.lt z x = true := fun k z hk hz => by
  rcases Nat.lt_or_ge k m with h1 | h1
  · exact Lt.tr (hs.get h1 hz hy) h
  · obtain rfl : k = m := by omega
    rw [hy] at hz; cases hz; exact h
theorem bs_hi {κ : Type} [Lt κ] {xs : List κ} (hs : Rise xs) {m : Nat} {y x : κ} (hy : xs[m]? = some y) (h : Lt.lt y x = false) : ∀ k z, m ≤ k → xs[k]? = some z → Lt.lt z x = false := fun k z hk hz => by
  rcases Nat.lt_or_ge m k with h1 | h1
  · cases h2 : Lt.lt z x with
    | false => rfl
    | true => rw [Lt.tr (hs.get h1 hy hz) h2] at h; cases h
  · obtain rfl : k = m := by omega
    rw [hy] at hz; cases hz; exact h
def risingB : List ByteArray → Bool
  | [] => true
  | [a] => decide (a.size ≤ 65535)
  | a :: b :: l => decide (a.size ≤ 65535) && sless a b && risingB (b :: l)
theorem nanS_ok {x : ByteArray} {F : List HP} {w : World} (H : Own F w) :
  Cl Tryz.prog 157 #[.string x] w fun v w' => v = .bool false ∧ Own F w' := by
  refine cl_of_cw Tryz.func157 rfl ?_
  simp only [Tryz.ntmps157, envA, List.size_toArray, List.length_cons, List.length_nil, Nat.reduceAdd, Nat.reduceSub]
  refine cw_seq (fun K1 h1 => ?_)
  refine cw_region (lq_run ?_)
  simp (maxSteps := 500000) (decide := true) (disch := omega) only [EV, ↓reduceIte, Nat.reduceAdd, tt157]
  refine lq_nil ?_
  refine h1 _ _ ?_
  refine cw_seq (fun K2 h2 => ?_)
  refine cw_region (lq_run ?_)
  simp (maxSteps := 500000) (decide := true) (disch := omega) only [EV, ↓reduceIte, Nat.reduceAdd, tt157]
  refine lq_nil ?_
  refine h2 _ _ ?_
  refine cw_ret ?_
  try simp (decide := true) only [EX, ↓reduceIte]
  refine ret1 rfl ?_
  exact ⟨by simp, H⟩
theorem nanI_ok {x : Int} {F : List HP} {w : World} (H : Own F w) :
  Cl Tryz.prog 158 #[.int .u64 x] w fun v w' => v = .bool false ∧ Own F w' := by
  refine cl_of_cw Tryz.func158 rfl ?_
  simp only [Tryz.ntmps158, envA, List.size_toArray, List.length_cons, List.length_nil, Nat.reduceAdd, Nat.reduceSub]
  refine cw_seq (fun K1 h1 => ?_)
  refine cw_region (lq_run ?_)
  simp (maxSteps := 500000) (decide := true) (disch := omega) only [EV, ↓reduceIte, Nat.reduceAdd, tt158]
  refine lq_nil ?_
  refine h1 _ _ ?_
  refine cw_seq (fun K2 h2 => ?_)
  refine cw_region (lq_run ?_)
  simp (maxSteps := 500000) (decide := true) (disch := omega) only [EV, ↓reduceIte, Nat.reduceAdd, tt158]
  refine lq_nil ?_
  refine h2 _ _ ?_
  refine cw_ret ?_
  try simp (decide := true) only [EX, ↓reduceIte]
  refine ret1 rfl ?_
  exact ⟨by simp, H⟩
theorem nanS2_ok {x : ByteArray} {F : List HP} {w : World} (H : Own F w) :
  Cl Tryz.prog 208 #[.string x] w fun v w' => v = .bool false ∧ Own F w' := by
  refine cl_of_cw Tryz.func208 rfl ?_
  simp only [Tryz.ntmps208, envA, List.size_toArray, List.length_cons, List.length_nil, Nat.reduceAdd, Nat.reduceSub]
  refine cw_seq (fun K1 h1 => ?_)
  refine cw_region (lq_run ?_)
  simp (maxSteps := 500000) (decide := true) (disch := omega) only [EV, ↓reduceIte, Nat.reduceAdd, tt208]
  refine lq_nil ?_
  refine h1 _ _ ?_
  refine cw_seq (fun K2 h2 => ?_)
  refine cw_region (lq_run ?_)
  simp (maxSteps := 500000) (decide := true) (disch := omega) only [EV, ↓reduceIte, Nat.reduceAdd, tt208]
  refine lq_nil ?_
  refine h2 _ _ ?_
  refine cw_ret ?_
  try simp (decide := true) only [EX, ↓reduceIte]
  refine ret1 rfl ?_
  exact ⟨by simp, H⟩
theorem nanI2_ok {x : Int} {F : List HP} {w : World} (H : Own F w) :
  Cl Tryz.prog 163 #[.int .u64 x] w fun v w' => v = .bool false ∧ Own F w' := by
  refine cl_of_cw Tryz.func163 rfl ?_
  simp only [Tryz.ntmps163, envA, List.size_toArray, List.length_cons, List.length_nil, Nat.reduceAdd, Nat.reduceSub]
  refine cw_seq (fun K1 h1 => ?_)
  refine cw_region (lq_run ?_)
  simp (maxSteps := 500000) (decide := true) (disch := omega) only [EV, ↓reduceIte, Nat.reduceAdd, tt163]
  refine lq_nil ?_
  refine h1 _ _ ?_
  refine cw_seq (fun K2 h2 => ?_)
  refine cw_region (lq_run ?_)
  simp (maxSteps := 500000) (decide := true) (disch := omega) only [EV, ↓reduceIte, Nat.reduceAdd, tt163]
  refine lq_nil ?_
  refine h2 _ _ ?_
  refine cw_ret ?_
  try simp (decide := true) only [EX, ↓reduceIte]
  refine ret1 rfl ?_
  exact ⟨by simp, H⟩
theorem lessS_ok {x y : ByteArray} {F : List HP} {w : World} (H : Own F w) :
  Cl Tryz.prog 205 #[.string x, .string y] w fun v w' => v = .bool (Lt.lt x y) ∧ Own F w' := by
  refine cl_of_cw Tryz.func205 rfl ?_
  simp only [Tryz.ntmps205, envA, List.size_toArray, List.length_cons, List.length_nil, Nat.reduceAdd, Nat.reduceSub]
  refine cw_seq (fun K1 h1 => ?_)
  refine cw_region (lq_run ?_)
  simp (maxSteps := 500000) (decide := true) (disch := omega) only [EV, ↓reduceIte, Nat.reduceAdd, tt205]
  refine lq_nil ?_
  refine h1 _ _ ?_
  refine cw_seq (fun K2 h2 => ?_)
  refine cw_region (lq_run ?_)
  simp (maxSteps := 500000) (decide := true) (disch := omega) only [EV, ↓reduceIte, Nat.reduceAdd, tt205]
  refine lq_call rfl ?_
  refine Cl.mono (nanS_ok H) ?_
  rintro _ w ⟨rfl, H⟩
  simp (maxSteps := 500000) (decide := true) (disch := omega) only [EV, ↓reduceIte, Nat.reduceAdd, tt205]
  refine lq_nil ?_
  refine h2 _ _ ?_
  refine cw_ret ?_
  try simp (decide := true) only [EX, ↓reduceIte]
  refine ret1 rfl ?_
  exact ⟨rfl, H⟩
theorem lessI_ok {x y : Int} {F : List HP} {w : World} (H : Own F w) :
  Cl Tryz.prog 162 #[.int .u64 x, .int .u64 y] w fun v w' => v = .bool (Lt.lt x y) ∧ Own F w' := by
  refine cl_of_cw Tryz.func162 rfl ?_
  simp only [Tryz.ntmps162, envA, List.size_toArray, List.length_cons, List.length_nil, Nat.reduceAdd, Nat.reduceSub]
  refine cw_seq (fun K1 h1 => ?_)
  refine cw_region (lq_run ?_)
  simp (maxSteps := 500000) (decide := true) (disch := omega) only [EV, ↓reduceIte, Nat.reduceAdd, tt162]
  refine lq_nil ?_
  refine h1 _ _ ?_
  refine cw_seq (fun K2 h2 => ?_)
  refine cw_region (lq_run ?_)
  simp (maxSteps := 500000) (decide := true) (disch := omega) only [EV, ↓reduceIte, Nat.reduceAdd, tt162]
  refine lq_call rfl ?_
  refine Cl.mono (nanI_ok H) ?_
  rintro _ w ⟨rfl, H⟩
  simp (maxSteps := 500000) (decide := true) (disch := omega) only [EV, ↓reduceIte, Nat.reduceAdd, tt162]
  refine lq_nil ?_
  refine h2 _ _ ?_
  refine cw_ret ?_
  try simp (decide := true) only [EX, ↓reduceIte]
  refine ret1 rfl ?_
  exact ⟨rfl, H⟩
theorem bsS_ok {ao : Option Addr} {n c : Nat} {xs : List ByteArray} {x : ByteArray} {F : List HP} {w : World} (H : Own F w) (hR : Ent F (Row ao encS xs)) (hn : n = xs.length) (hb : xs.length ≤ 1099511627776) (hs : Rise xs) :
  Cl Tryz.prog 161 #[.slice ao n c, .string x] w fun v w' => ∃ i, BsAt xs x i ∧ v = .tuple #[.int .i64 (i : Nat), .bool (memB xs x)] ∧ Own F w' := by
  subst hn
  refine cl_of_cw Tryz.func161 rfl ?_
  simp only [Tryz.ntmps161, envA, List.size_toArray, List.length_cons, List.length_nil, Nat.reduceAdd, Nat.reduceSub]
  refine cw_seq (fun K1 h1 => ?_)
  refine cw_region (lq_run ?_)
  simp (maxSteps := 500000) (decide := true) (disch := omega) only [EV, ↓reduceIte, Nat.reduceAdd, tt161]
  refine lq_nil ?_
  refine h1 _ _ ?_
  refine cw_seq (fun K2 h2 => ?_)
  refine cw_region (lq_run ?_)
  simp (maxSteps := 500000) (decide := true) (disch := omega) only [EV, ↓reduceIte, Nat.reduceAdd, tt161]
  refine lq_nil ?_
  refine h2 _ _ ?_
  refine cw_seq (fun K3 h3 => ?_)
  refine cw_region (lq_run ?_)
  simp (maxSteps := 500000) (decide := true) (disch := omega) only [EV, ↓reduceIte, Nat.reduceAdd, tt161]
  refine lq_nil ?_
  refine h3 _ _ ?_
  refine cw_seq (fun K4 h4 => ?_)
  refine cw_block ?_
  refine cw_loopC (X := Nat × Nat) [(0, _), (1, _), (4, _), (5, _), (6, _)] (fun q => [(7, .int .i64 (q.1 : Int)), (8, .int .i64 (q.2 : Int))]) (fun q w => q.1 ≤ q.2 ∧ q.2 ≤ xs.length ∧ (∀ k y, k < q.1 → xs[k]? = some y → Lt.lt y x = true) ∧ (∀ k y, q.2 ≤ k → xs[k]? = some y → Lt.lt y x = false) ∧ Own F w) (fun q => q.2 - q.1) (0, xs.length) (.c rfl (.c rfl (.c rfl (.c rfl (.c rfl .n))))) (.c rfl (.c rfl .n)) ⟨Nat.zero_le _, Nat.le_refl _, fun k y hk => absurd hk (Nat.not_lt_zero _), (fun k y hk he => by rw [List.getElem?_eq_none hk] at he; cases he), H⟩ ?_
  rintro ⟨i, j⟩ w ⟨hij, hjn, hlo, hhi, H⟩
  simp only [List.cons_append, List.nil_append]
  simp only at hij hjn hlo hhi H ⊢
  refine cw_seq (fun K5 h5 => ?_)
  refine cw_seq (fun K6 h6 => ?_)
  refine cw_region (lq_run ?_)
  simp (maxSteps := 500000) (decide := true) (disch := omega) only [EV, ↓reduceIte, Nat.reduceAdd, tt161]
  refine lq_nil ?_
  refine h6 _ _ ?_
  refine cw_condB rfl (fun c15 => ?_) (fun c15 => ?_)
  · skip
    try simp only [HB] at c15
    refine cw_skip ?_
    refine h5 _ _ ?_
    refine cw_block ?_
    refine cw_seq (fun K7 h7 => ?_)
    refine cw_region (lq_run ?_)
    simp (maxSteps := 500000) (decide := true) (disch := omega) only [EV, ↓reduceIte, Nat.reduceAdd, tt161]
    refine lq_nil ?_
    refine h7 _ _ ?_
    refine cw_seq (fun K8 h8 => ?_)
    refine cw_region (lq_run ?_)
    rw [mid_eq i j (by omega)]
    obtain ⟨y, hy⟩ : ∃ y, xs[(i + j) / 2]? = some y := ⟨_, List.getElem?_eq_getElem (by omega)⟩
    simp (maxSteps := 500000) (decide := true) (disch := omega) only [EV, ↓reduceIte, Nat.reduceAdd, tt161]
    refine lq_idx (i' := ((i + j) / 2)) H rfl rfl hR (Nat.le_refl _) rfl hy ?_
    simp (maxSteps := 500000) (decide := true) (disch := omega) only [EV, ↓reduceIte, Nat.reduceAdd, tt161]
    refine lq_loadE H rfl hR hy rfl ?_
    simp (maxSteps := 500000) (decide := true) (disch := omega) only [EV, ↓reduceIte, Nat.reduceAdd, tt161]
    refine lq_call rfl ?_
    refine Cl.mono (lessS_ok H) ?_
    rintro _ w ⟨rfl, H⟩
    simp (maxSteps := 500000) (decide := true) (disch := omega) only [EV, ↓reduceIte, Nat.reduceAdd, tt161]
    refine lq_nil ?_
    refine h8 _ _ ?_
    refine cw_condB rfl (fun c27 => ?_) (fun c27 => ?_)
    · skip
      try simp only [HB] at c27
      refine cw_region (lq_run ?_)
      simp (maxSteps := 500000) (decide := true) (disch := omega) only [EV, ↓reduceIte, Nat.reduceAdd, tt161]
      refine lq_nil ?_
      first
        | exact Exists.intro ((i + j) / 2 + 1, j) ⟨⟨(.c rfl (.c rfl .n)), (.c rfl (.c rfl (.c rfl (.c rfl (.c rfl .n)))))⟩, ⟨by simp only; omega, hjn, bs_lo hs hy c27, hhi, H⟩, (by simp only; omega)⟩
        | exact Exists.intro (i, (i + j) / 2) ⟨⟨(.c rfl (.c rfl .n)), (.c rfl (.c rfl (.c rfl (.c rfl (.c rfl .n)))))⟩, ⟨by simp only; omega, by simp only; omega, hlo, bs_hi hs hy (by simpa using c27), H⟩, (by simp only; omega)⟩
    · skip
      try simp only [HB] at c27
      refine cw_region (lq_run ?_)
      simp (maxSteps := 500000) (decide := true) (disch := omega) only [EV, ↓reduceIte, Nat.reduceAdd, tt161]
      refine lq_nil ?_
      first
        | exact Exists.intro ((i + j) / 2 + 1, j) ⟨⟨(.c rfl (.c rfl .n)), (.c rfl (.c rfl (.c rfl (.c rfl (.c rfl .n)))))⟩, ⟨by simp only; omega, hjn, bs_lo hs hy c27, hhi, H⟩, (by simp only; omega)⟩
        | exact Exists.intro (i, (i + j) / 2) ⟨⟨(.c rfl (.c rfl .n)), (.c rfl (.c rfl (.c rfl (.c rfl (.c rfl .n)))))⟩, ⟨by simp only; omega, by simp only; omega, hlo, bs_hi hs hy (by simpa using c27), H⟩, (by simp only; omega)⟩
  · skip
    try simp only [HB] at c15
    refine cw_exit ?_
    refine h4 _ _ ?_
    refine cw_seq (fun K9 h9 => ?_)
    refine cw_region (lq_run ?_)
    obtain rfl : i = j := by omega
    have hbs : BsAt xs x i := ⟨hjn, hlo, hhi⟩
    simp (maxSteps := 500000) (decide := true) (disch := omega) only [EV, ↓reduceIte, Nat.reduceAdd, tt161]
    refine lq_G (fun g35 => ?_) (fun g35 => ?_)
    · try simp only [HB] at g35
      simp (maxSteps := 500000) (decide := true) (disch := omega) only [EV, ↓reduceIte, Nat.reduceAdd, tt161]
      obtain ⟨y2, hy2⟩ : ∃ y, xs[i]? = some y := ⟨_, List.getElem?_eq_getElem (by omega)⟩
      refine lq_idx (i' := i) H rfl rfl hR (Nat.le_refl _) rfl hy2 ?_
      simp (maxSteps := 500000) (decide := true) (disch := omega) only [EV, ↓reduceIte, Nat.reduceAdd, tt161]
      refine lq_loadE H rfl hR hy2 rfl ?_
      simp (maxSteps := 500000) (decide := true) (disch := omega) only [EV, ↓reduceIte, Nat.reduceAdd, tt161]
      refine lq_G (fun g42 => ?_) (fun g42 => ?_)
      · try simp only [HB] at g42
        simp (maxSteps := 500000) (decide := true) (disch := omega) only [EV, ↓reduceIte, Nat.reduceAdd, tt161]
        refine lq_nil ?_
        refine h9 _ _ ?_
        refine cw_ret ?_
        try simp (decide := true) only [EX, ↓reduceIte]
        refine ret2 rfl rfl ?_
        refine ⟨i, hbs, ?_, H⟩
        have : x ∈ xs := (hbs.mem hs).1 (by rw [hy2, g42])
        rw [memB_iff.2 this]
      · try simp only [HB] at g42
        simp (maxSteps := 500000) (decide := true) (disch := omega) only [EV, ↓reduceIte, Nat.reduceAdd, tt161]
        refine lq_idx (i' := i) H rfl rfl hR (Nat.le_refl _) rfl hy2 ?_
        simp (maxSteps := 500000) (decide := true) (disch := omega) only [EV, ↓reduceIte, Nat.reduceAdd, tt161]
        refine lq_loadE H rfl hR hy2 rfl ?_
        simp (maxSteps := 500000) (decide := true) (disch := omega) only [EV, ↓reduceIte, Nat.reduceAdd, tt161]
        refine lq_call rfl ?_
        refine Cl.mono (nanS2_ok H) ?_
        rintro _ w ⟨rfl, H⟩
        simp (maxSteps := 500000) (decide := true) (disch := omega) only [EV, ↓reduceIte, Nat.reduceAdd, tt161]
        refine lq_nil ?_
        refine h9 _ _ ?_
        refine cw_ret ?_
        try simp (decide := true) only [EX, ↓reduceIte]
        refine ret2 rfl rfl ?_
        refine ⟨i, hbs, ?_, H⟩
        have : ¬ x ∈ xs := fun hx => g42 (by have := (hbs.mem hs).2 hx; rw [hy2] at this; cases this; rfl)
        rw [memB_no.2 this]
    · try simp only [HB] at g35
      simp (maxSteps := 500000) (decide := true) (disch := omega) only [EV, ↓reduceIte, Nat.reduceAdd, tt161]
      refine lq_nil ?_
      refine h9 _ _ ?_
      refine cw_ret ?_
      try simp (decide := true) only [EX, ↓reduceIte]
      refine ret2 rfl rfl ?_
      refine ⟨i, hbs, ?_, H⟩
      have : ¬ x ∈ xs := fun hx => by
        have := (List.getElem?_eq_some_iff.1 ((hbs.mem hs).2 hx)).1
        omega
      rw [memB_no.2 this]
theorem bsI_ok {ao : Option Addr} {n c : Nat} {xs : List Int} {x : Int} {F : List HP} {w : World} (H : Own F w) (hR : Ent F (Row ao encI xs)) (hn : n = xs.length) (hb : xs.length ≤ 1099511627776) (hs : Rise xs) :
  Cl Tryz.prog 113 #[.slice ao n c, .int .u64 x] w fun v w' => ∃ i, BsAt xs x i ∧ v = .tuple #[.int .i64 (i : Nat), .bool (memB xs x)] ∧ Own F w' := by
  subst hn
  refine cl_of_cw Tryz.func113 rfl ?_
  simp only [Tryz.ntmps113, envA, List.size_toArray, List.length_cons, List.length_nil, Nat.reduceAdd, Nat.reduceSub]
  refine cw_seq (fun K1 h1 => ?_)
  refine cw_region (lq_run ?_)
  simp (maxSteps := 500000) (decide := true) (disch := omega) only [EV, ↓reduceIte, Nat.reduceAdd, tt113]
  refine lq_nil ?_
  refine h1 _ _ ?_
  refine cw_seq (fun K2 h2 => ?_)
  refine cw_region (lq_run ?_)
  simp (maxSteps := 500000) (decide := true) (disch := omega) only [EV, ↓reduceIte, Nat.reduceAdd, tt113]
  refine lq_nil ?_
  refine h2 _ _ ?_
  refine cw_seq (fun K3 h3 => ?_)
  refine cw_region (lq_run ?_)
  simp (maxSteps := 500000) (decide := true) (disch := omega) only [EV, ↓reduceIte, Nat.reduceAdd, tt113]
  refine lq_nil ?_
  refine h3 _ _ ?_
  refine cw_seq (fun K4 h4 => ?_)
  refine cw_block ?_
  refine cw_loopC (X := Nat × Nat) [(0, _), (1, _), (4, _), (5, _), (6, _)] (fun q => [(7, .int .i64 (q.1 : Int)), (8, .int .i64 (q.2 : Int))]) (fun q w => q.1 ≤ q.2 ∧ q.2 ≤ xs.length ∧ (∀ k y, k < q.1 → xs[k]? = some y → Lt.lt y x = true) ∧ (∀ k y, q.2 ≤ k → xs[k]? = some y → Lt.lt y x = false) ∧ Own F w) (fun q => q.2 - q.1) (0, xs.length) (.c rfl (.c rfl (.c rfl (.c rfl (.c rfl .n))))) (.c rfl (.c rfl .n)) ⟨Nat.zero_le _, Nat.le_refl _, fun k y hk => absurd hk (Nat.not_lt_zero _), (fun k y hk he => by rw [List.getElem?_eq_none hk] at he; cases he), H⟩ ?_
  rintro ⟨i, j⟩ w ⟨hij, hjn, hlo, hhi, H⟩
  simp only [List.cons_append, List.nil_append]
  simp only at hij hjn hlo hhi H ⊢
  refine cw_seq (fun K5 h5 => ?_)
  refine cw_seq (fun K6 h6 => ?_)
  refine cw_region (lq_run ?_)
  simp (maxSteps := 500000) (decide := true) (disch := omega) only [EV, ↓reduceIte, Nat.reduceAdd, tt113]
  refine lq_nil ?_
  refine h6 _ _ ?_
  refine cw_condB rfl (fun c15 => ?_) (fun c15 => ?_)
  · skip
    try simp only [HB] at c15
    refine cw_skip ?_
    refine h5 _ _ ?_
    refine cw_block ?_
    refine cw_seq (fun K7 h7 => ?_)
    refine cw_region (lq_run ?_)
    simp (maxSteps := 500000) (decide := true) (disch := omega) only [EV, ↓reduceIte, Nat.reduceAdd, tt113]
    refine lq_nil ?_
    refine h7 _ _ ?_
    refine cw_seq (fun K8 h8 => ?_)
    refine cw_region (lq_run ?_)
    rw [mid_eq i j (by omega)]
    obtain ⟨y, hy⟩ : ∃ y, xs[(i + j) / 2]? = some y := ⟨_, List.getElem?_eq_getElem (by omega)⟩
    simp (maxSteps := 500000) (decide := true) (disch := omega) only [EV, ↓reduceIte, Nat.reduceAdd, tt113]
    refine lq_idx (i' := ((i + j) / 2)) H rfl rfl hR (Nat.le_refl _) rfl hy ?_
    simp (maxSteps := 500000) (decide := true) (disch := omega) only [EV, ↓reduceIte, Nat.reduceAdd, tt113]
    refine lq_loadE H rfl hR hy rfl ?_
    simp (maxSteps := 500000) (decide := true) (disch := omega) only [EV, ↓reduceIte, Nat.reduceAdd, tt113]
    refine lq_call rfl ?_
    refine Cl.mono (lessI_ok H) ?_
    rintro _ w ⟨rfl, H⟩
    simp (maxSteps := 500000) (decide := true) (disch := omega) only [EV, ↓reduceIte, Nat.reduceAdd, tt113]
    refine lq_nil ?_
    refine h8 _ _ ?_
    refine cw_condB rfl (fun c27 => ?_) (fun c27 => ?_)
    · skip
      try simp only [HB] at c27
      refine cw_region (lq_run ?_)
      simp (maxSteps := 500000) (decide := true) (disch := omega) only [EV, ↓reduceIte, Nat.reduceAdd, tt113]
      refine lq_nil ?_
      first
        | exact Exists.intro ((i + j) / 2 + 1, j) ⟨⟨(.c rfl (.c rfl .n)), (.c rfl (.c rfl (.c rfl (.c rfl (.c rfl .n)))))⟩, ⟨by simp only; omega, hjn, bs_lo hs hy c27, hhi, H⟩, (by simp only; omega)⟩
        | exact Exists.intro (i, (i + j) / 2) ⟨⟨(.c rfl (.c rfl .n)), (.c rfl (.c rfl (.c rfl (.c rfl (.c rfl .n)))))⟩, ⟨by simp only; omega, by simp only; omega, hlo, bs_hi hs hy (by simpa using c27), H⟩, (by simp only; omega)⟩
    · skip
      try simp only [HB] at c27
      refine cw_region (lq_run ?_)
      simp (maxSteps := 500000) (decide := true) (disch := omega) only [EV, ↓reduceIte, Nat.reduceAdd, tt113]
      refine lq_nil ?_
      first
        | exact Exists.intro ((i + j) / 2 + 1, j) ⟨⟨(.c rfl (.c rfl .n)), (.c rfl (.c rfl (.c rfl (.c rfl (.c rfl .n)))))⟩, ⟨by simp only; omega, hjn, bs_lo hs hy c27, hhi, H⟩, (by simp only; omega)⟩
        | exact Exists.intro (i, (i + j) / 2) ⟨⟨(.c rfl (.c rfl .n)), (.c rfl (.c rfl (.c rfl (.c rfl (.c rfl .n)))))⟩, ⟨by simp only; omega, by simp only; omega, hlo, bs_hi hs hy (by simpa using c27), H⟩, (by simp only; omega)⟩
  · skip
    try simp only [HB] at c15
    refine cw_exit ?_
    refine h4 _ _ ?_
    refine cw_seq (fun K9 h9 => ?_)
    refine cw_region (lq_run ?_)
    obtain rfl : i = j := by omega
    have hbs : BsAt xs x i := ⟨hjn, hlo, hhi⟩
    simp (maxSteps := 500000) (decide := true) (disch := omega) only [EV, ↓reduceIte, Nat.reduceAdd, tt113]
    refine lq_G (fun g35 => ?_) (fun g35 => ?_)
    · try simp only [HB] at g35
      simp (maxSteps := 500000) (decide := true) (disch := omega) only [EV, ↓reduceIte, Nat.reduceAdd, tt113]
      obtain ⟨y2, hy2⟩ : ∃ y, xs[i]? = some y := ⟨_, List.getElem?_eq_getElem (by omega)⟩
      refine lq_idx (i' := i) H rfl rfl hR (Nat.le_refl _) rfl hy2 ?_
      simp (maxSteps := 500000) (decide := true) (disch := omega) only [EV, ↓reduceIte, Nat.reduceAdd, tt113]
      refine lq_loadE H rfl hR hy2 rfl ?_
      simp (maxSteps := 500000) (decide := true) (disch := omega) only [EV, ↓reduceIte, Nat.reduceAdd, tt113]
      refine lq_G (fun g42 => ?_) (fun g42 => ?_)
      · try simp only [HB] at g42
        simp (maxSteps := 500000) (decide := true) (disch := omega) only [EV, ↓reduceIte, Nat.reduceAdd, tt113]
        refine lq_nil ?_
        refine h9 _ _ ?_
        refine cw_ret ?_
        try simp (decide := true) only [EX, ↓reduceIte]
        refine ret2 rfl rfl ?_
        refine ⟨i, hbs, ?_, H⟩
        have : x ∈ xs := (hbs.mem hs).1 (by rw [hy2, g42])
        rw [memB_iff.2 this]
      · try simp only [HB] at g42
        simp (maxSteps := 500000) (decide := true) (disch := omega) only [EV, ↓reduceIte, Nat.reduceAdd, tt113]
        refine lq_idx (i' := i) H rfl rfl hR (Nat.le_refl _) rfl hy2 ?_
        simp (maxSteps := 500000) (decide := true) (disch := omega) only [EV, ↓reduceIte, Nat.reduceAdd, tt113]
        refine lq_loadE H rfl hR hy2 rfl ?_
        simp (maxSteps := 500000) (decide := true) (disch := omega) only [EV, ↓reduceIte, Nat.reduceAdd, tt113]
        refine lq_call rfl ?_
        refine Cl.mono (nanI2_ok H) ?_
        rintro _ w ⟨rfl, H⟩
        simp (maxSteps := 500000) (decide := true) (disch := omega) only [EV, ↓reduceIte, Nat.reduceAdd, tt113]
        refine lq_nil ?_
        refine h9 _ _ ?_
        refine cw_ret ?_
        try simp (decide := true) only [EX, ↓reduceIte]
        refine ret2 rfl rfl ?_
        refine ⟨i, hbs, ?_, H⟩
        have : ¬ x ∈ xs := fun hx => g42 (by have := (hbs.mem hs).2 hx; rw [hy2] at this; cases this; rfl)
        rw [memB_no.2 this]
    · try simp only [HB] at g35
      simp (maxSteps := 500000) (decide := true) (disch := omega) only [EV, ↓reduceIte, Nat.reduceAdd, tt113]
      refine lq_nil ?_
      refine h9 _ _ ?_
      refine cw_ret ?_
      try simp (decide := true) only [EX, ↓reduceIte]
      refine ret2 rfl rfl ?_
      refine ⟨i, hbs, ?_, H⟩
      have : ¬ x ∈ xs := fun hx => by
        have := (List.getElem?_eq_some_iff.1 ((hbs.mem hs).2 hx)).1
        omega
      rw [memB_no.2 this]
end Go.Rp
