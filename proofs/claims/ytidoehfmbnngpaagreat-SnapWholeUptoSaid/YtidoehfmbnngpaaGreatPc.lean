/-
  store: what it asks; insert and delete.
-/
import Derived.Test.YtidoehfmbnngpaaGreatProg
import Derived.Test.YtidoehfmbnngpaaGreatPb
set_option linter.unusedVariables false
set_option linter.unusedSimpArgs false
set_option maxHeartbeats 1000000
set_option maxRecDepth 100000
namespace Go.Rp
open Go.Proofs
instance iW9_0 : ElT Tryz.prog 9 1 := ElT.mk' (by kernel_rfl)
instance iW9_1 : FnOk Tryz.prog 161 := ⟨⟨Tryz.f161, Tryz.func161, by kernel_rfl, by kernel_rfl⟩⟩
instance iW9_2 : SlT Tryz.prog 44 9 := ⟨by kernel_rfl⟩
theorem tt111 : (AG Tryz.prog 9 = some false) ∧ (LK Tryz.prog 44 = some 1) ∧ (LK Tryz.prog 9 = some 0) := ⟨by kernel_rfl, by kernel_rfl, by kernel_rfl⟩
theorem tt112 : (True) := trivial

def KeysOk (xs : List ByteArray) : Prop := (∀ k ∈ xs, k.size ≤ 65535) ∧ Rise xs
def RisingP (xs : List ByteArray) : Prop := KeysOk xs ∧ 1 ≤ xs.length ∧ xs.length ≤ 1024
theorem Rise.snoc {κ : Type} [Lt κ] {d : List κ} {z s : κ} (h : Rise (d ++ [z])) (hz : Lt.lt z s = true) : Rise (d ++ [z] ++ [s]) := by
  refine List.pairwise_append.2 ⟨h, List.pairwise_singleton _ _, fun a ha b hb => ?_⟩
  simp only [List.mem_singleton] at hb; subst hb
  rcases List.mem_append.1 ha with ha | ha
  · exact Lt.tr ((List.pairwise_append.1 h).2.2 a ha z (by simp)) hz
  · simp only [List.mem_singleton] at ha; subst ha; exact hz
theorem KeysOk.snoc {d : List ByteArray} {z s : ByteArray} (h : KeysOk (d ++ [z])) (hs : s.size ≤ 65535) (hz : sless z s = true) : KeysOk (d ++ [z] ++ [s]) :=
  ⟨fun k hk => by
    rcases List.mem_append.1 hk with hk | hk
    · exact h.1 k hk
    · simp only [List.mem_singleton] at hk; subst hk; exact hs, h.2.snoc hz⟩
theorem not_rise {κ : Type} [Lt κ] {d r : List κ} {z s : κ} (hz : Lt.lt z s = false) : ¬ Rise (d ++ [z] ++ s :: r) := fun h => by
  have := (List.pairwise_append.1 h).2.2 z (by simp) s (by simp)
  rw [hz] at this; cases this
theorem rising_ok {ao : Option Addr} {n c : Nat} {xs : List ByteArray} {F : List HP} {w : World} (H : Own F w) (hR : Ent F (Row ao encS xs)) (hn : n = xs.length) (hb : xs.length ≤ 1099511627776) :
  Cl Tryz.prog 111 #[.slice ao n c] w fun v w' => ∃ b, v = .bool b ∧ (b = true ↔ RisingP xs) ∧ Own F w' := by
  subst hn
  refine cl_of_cw Tryz.func111 rfl ?_
  simp only [Tryz.ntmps111, envA, List.size_toArray, List.length_cons, List.length_nil, Nat.reduceAdd, Nat.reduceSub]
  refine cw_seq (fun K1 h1 => ?_)
  refine cw_region (lq_run ?_)
  simp (maxSteps := 500000) (decide := true) (disch := omega) only [EV, ↓reduceIte, Nat.reduceAdd, tt111]
  refine lq_nil ?_
  refine h1 _ _ ?_
  refine cw_seq (fun K2 h2 => ?_)
  refine cw_seq (fun K3 h3 => ?_)
  refine cw_region (lq_run ?_)
  simp (maxSteps := 500000) (decide := true) (disch := omega) only [EV, ↓reduceIte, Nat.reduceAdd, tt111]
  refine lq_nil ?_
  refine h3 _ _ ?_
  refine cw_block ?_
  refine cw_loopC (X := List ByteArray × List ByteArray) [(0, _), (5, _), (6, _)] (fun x => [(7, .int .i64 (x.1.length : Int))]) (fun x w => xs = x.1 ++ x.2 ∧ KeysOk x.1 ∧ Own F w) (fun x => x.2.length) ([], xs) (.c rfl (.c rfl (.c rfl .n))) (.c rfl .n) ⟨rfl, ⟨by simp, .nil⟩, H⟩ ?_
  rintro ⟨d, r⟩ w ⟨hd, hk, H⟩
  simp only [List.cons_append, List.nil_append]
  simp only at hd hk H ⊢
  refine cw_seq (fun K4 h4 => ?_)
  refine cw_region (lq_run ?_)
  simp (maxSteps := 500000) (decide := true) (disch := omega) only [EV, ↓reduceIte, Nat.reduceAdd, tt111]
  refine lq_nil ?_
  refine h4 _ _ ?_
  refine cw_seq (fun K5 h5 => ?_)
  refine cw_condB rfl (fun c8 => ?_) (fun c8 => ?_)
  · skip
    try simp only [HB] at c8
    obtain ⟨s, r2, rfl, he⟩ := zip_more hd c8
    refine cw_skip ?_
    refine h5 _ _ ?_
    refine cw_seq (fun K6 h6 => ?_)
    refine cw_block ?_
    refine cw_seq (fun K7 h7 => ?_)
    refine cw_region (lq_run ?_)
    simp (maxSteps := 500000) (decide := true) (disch := omega) only [EV, ↓reduceIte, Nat.reduceAdd, tt111]
    refine lq_idx (i' := d.length) H rfl rfl hR (Nat.le_refl _) rfl he ?_
    simp (maxSteps := 500000) (decide := true) (disch := omega) only [EV, ↓reduceIte, Nat.reduceAdd, tt111]
    refine lq_loadE H rfl hR he rfl ?_
    simp (maxSteps := 500000) (decide := true) (disch := omega) only [EV, ↓reduceIte, Nat.reduceAdd, tt111]
    refine lq_nil ?_
    refine h7 _ _ ?_
    refine cw_seq (fun K8 h8 => ?_)
    refine cw_region (lq_run ?_)
    simp (maxSteps := 500000) (decide := true) (disch := omega) only [EV, ↓reduceIte, Nat.reduceAdd, tt111]
    refine lq_G (fun g15 => ?_) (fun g15 => ?_)
    · try simp only [HB] at g15
      simp (maxSteps := 500000) (decide := true) (disch := omega) only [EV, ↓reduceIte, Nat.reduceAdd, tt111]
      refine lq_nil ?_
      refine h8 _ _ ?_
      refine cw_condT rfl ?_
      refine cw_seq (fun K9 h9 => ?_)
      refine cw_region (lq_run ?_)
      simp (maxSteps := 500000) (decide := true) (disch := omega) only [EV, ↓reduceIte, Nat.reduceAdd, tt111]
      refine lq_nil ?_
      refine h9 _ _ ?_
      refine cw_ret ?_
      try simp (decide := true) only [EX, ↓reduceIte]
      refine ret1 rfl ?_
      exact ⟨false, rfl, ⟨fun h => (by cases h), fun h => absurd (h.1.1 s (by rw [hd]; simp)) (by omega)⟩, H⟩
    · try simp only [HB] at g15
      simp (maxSteps := 500000) (decide := true) (disch := omega) only [EV, ↓reduceIte, Nat.reduceAdd, tt111]
      refine lq_G (fun g18 => ?_) (fun g18 => ?_)
      · try simp only [HB] at g18
        simp (maxSteps := 500000) (decide := true) (disch := omega) only [EV, ↓reduceIte, Nat.reduceAdd, tt111]
        obtain ⟨d', z, rfl⟩ : ∃ d' z, d = d' ++ [z] := by
          rcases List.eq_nil_or_concat d with rfl | ⟨d', z, h⟩
          · simp at g18
          · exact ⟨d', z, by simpa using h⟩
        refine lq_idx (i' := d'.length) H rfl rfl hR (Nat.le_refl _) (by simp) (show xs[d'.length]? = some z by rw [hd]; simp) ?_
        simp (maxSteps := 500000) (decide := true) (disch := omega) only [EV, ↓reduceIte, Nat.reduceAdd, tt111]
        refine lq_loadE H rfl hR (show xs[d'.length]? = some z by rw [hd]; simp) rfl ?_
        simp (maxSteps := 500000) (decide := true) (disch := omega) only [EV, ↓reduceIte, Nat.reduceAdd, tt111]
        refine lq_nil ?_
        refine h8 _ _ ?_
        refine cw_condB rfl (fun c27 => ?_) (fun c27 => ?_)
        · skip
          try simp only [HB] at c27
          refine cw_seq (fun K10 h10 => ?_)
          refine cw_region (lq_run ?_)
          simp (maxSteps := 500000) (decide := true) (disch := omega) only [EV, ↓reduceIte, Nat.reduceAdd, tt111]
          refine lq_nil ?_
          refine h10 _ _ ?_
          refine cw_ret ?_
          try simp (decide := true) only [EX, ↓reduceIte]
          refine ret1 rfl ?_
          exact ⟨false, rfl, ⟨fun h => (by cases h), fun h => absurd h.1.2 (by rw [hd]; exact not_rise c27)⟩, H⟩
        · skip
          try simp only [HB] at c27
          refine cw_skip ?_
          refine h6 _ _ ?_
          refine cw_region (lq_run ?_)
          simp (maxSteps := 500000) (decide := true) (disch := omega) only [EV, ↓reduceIte, Nat.reduceAdd, tt111]
          refine lq_nil ?_
          try (obtain rfl : d = [] := List.eq_nil_of_length_eq_zero (by omega))
          first
            | exact Exists.intro (d' ++ [z] ++ [s], r2) ⟨⟨(.c (by show look _ 7 = some (.int .i64 (((d' ++ [z] ++ [s]).length : Nat) : Int)); rw [show (d' ++ [z] ++ [s]).length = (d' ++ [z]).length + 1 from by simp]; rfl) .n), (.c rfl (.c rfl (.c rfl .n)))⟩, ⟨by simp [hd], hk.snoc (by omega) c27, H⟩, (by simp)⟩
            | exact Exists.intro ([] ++ [s], r2) ⟨⟨(.c rfl .n), (.c rfl (.c rfl (.c rfl .n)))⟩, ⟨by simp [hd], ⟨by simp; omega, (show Rise [s] from List.pairwise_singleton _ _)⟩, H⟩, (by simp)⟩
      · try simp only [HB] at g18
        simp (maxSteps := 500000) (decide := true) (disch := omega) only [EV, ↓reduceIte, Nat.reduceAdd, tt111]
        refine lq_nil ?_
        refine h8 _ _ ?_
        refine cw_condF rfl ?_
        refine cw_skip ?_
        refine h6 _ _ ?_
        refine cw_region (lq_run ?_)
        simp (maxSteps := 500000) (decide := true) (disch := omega) only [EV, ↓reduceIte, Nat.reduceAdd, tt111]
        refine lq_nil ?_
        try (obtain rfl : d = [] := List.eq_nil_of_length_eq_zero (by omega))
        first
          | exact Exists.intro (d' ++ [z] ++ [s], r2) ⟨⟨(.c (by show look _ 7 = some (.int .i64 (((d' ++ [z] ++ [s]).length : Nat) : Int)); rw [show (d' ++ [z] ++ [s]).length = (d' ++ [z]).length + 1 from by simp]; rfl) .n), (.c rfl (.c rfl (.c rfl .n)))⟩, ⟨by simp [hd], hk.snoc (by omega) c27, H⟩, (by simp)⟩
          | exact Exists.intro ([] ++ [s], r2) ⟨⟨(.c rfl .n), (.c rfl (.c rfl (.c rfl .n)))⟩, ⟨by simp [hd], ⟨by simp; omega, (show Rise [s] from List.pairwise_singleton _ _)⟩, H⟩, (by simp)⟩
  · skip
    try simp only [HB] at c8
    obtain ⟨rfl, rfl⟩ := zip_done hd c8
    refine cw_exit ?_
    refine h2 _ _ ?_
    refine cw_seq (fun K11 h11 => ?_)
    refine cw_region (lq_run ?_)
    simp (maxSteps := 500000) (decide := true) (disch := omega) only [EV, ↓reduceIte, Nat.reduceAdd, tt111]
    refine lq_G (fun g32 => ?_) (fun g32 => ?_)
    · try simp only [HB] at g32
      simp (maxSteps := 500000) (decide := true) (disch := omega) only [EV, ↓reduceIte, Nat.reduceAdd, tt111]
      refine lq_nil ?_
      refine h11 _ _ ?_
      refine cw_ret ?_
      try simp (decide := true) only [EX, ↓reduceIte]
      refine ret1 rfl ?_
      exact ⟨_, rfl, ⟨fun h => ⟨hk, by omega, by have := of_decide_eq_true h; omega⟩, fun h => decide_eq_true (by have := h.2.2; omega)⟩, H⟩
    · try simp only [HB] at g32
      simp (maxSteps := 500000) (decide := true) (disch := omega) only [EV, ↓reduceIte, Nat.reduceAdd, tt111]
      refine lq_nil ?_
      refine h11 _ _ ?_
      refine cw_ret ?_
      try simp (decide := true) only [EX, ↓reduceIte]
      refine ret1 rfl ?_
      exact ⟨false, rfl, ⟨fun h => (by cases h), fun h => by have := h.2.1; omega⟩, H⟩
theorem has_ok {ao : Option Addr} {n c : Nat} {xs : List ByteArray} {x : ByteArray} {F : List HP} {w : World} (H : Own F w) (hR : Ent F (Row ao encS xs)) (hn : n = xs.length) (hb : xs.length ≤ 1099511627776) (hs : Rise xs) :
  Cl Tryz.prog 112 #[.slice ao n c, .string x] w fun v w' => v = .bool (memB xs x) ∧ Own F w' := by
  refine cl_of_cw Tryz.func112 rfl ?_
  simp only [Tryz.ntmps112, envA, List.size_toArray, List.length_cons, List.length_nil, Nat.reduceAdd, Nat.reduceSub]
  refine cw_seq (fun K1 h1 => ?_)
  refine cw_region (lq_run ?_)
  simp (maxSteps := 500000) (decide := true) (disch := omega) only [EV, ↓reduceIte, Nat.reduceAdd, tt112]
  refine lq_nil ?_
  refine h1 _ _ ?_
  refine cw_seq (fun K2 h2 => ?_)
  refine cw_region (lq_run ?_)
  simp (maxSteps := 500000) (decide := true) (disch := omega) only [EV, ↓reduceIte, Nat.reduceAdd, tt112]
  refine lq_call rfl ?_
  refine Cl.mono (bsS_ok H hR hn hb hs) ?_
  rintro _ w ⟨i, hi, rfl, H⟩
  simp (maxSteps := 500000) (decide := true) (disch := omega) only [EV, ↓reduceIte, Nat.reduceAdd, tt112]
  refine lq_nil ?_
  refine h2 _ _ ?_
  refine cw_seq (fun K3 h3 => ?_)
  refine cw_region (lq_run ?_)
  simp (maxSteps := 500000) (decide := true) (disch := omega) only [EV, ↓reduceIte, Nat.reduceAdd, tt112]
  refine lq_nil ?_
  refine h3 _ _ ?_
  refine cw_ret ?_
  try simp (decide := true) only [EX, ↓reduceIte]
  refine ret1 rfl ?_
  exact ⟨rfl, H⟩
end Go.Rp
set_option linter.unusedVariables false
set_option linter.unusedSimpArgs false
set_option maxHeartbeats 1000000
set_option maxRecDepth 100000
namespace Go.Rp
open Go.Proofs
instance iW10_0 : ElT Tryz.prog 88 2 := ElT.mk' (by kernel_rfl)
instance iW10_1 : FnOk Tryz.prog 111 := ⟨⟨Tryz.f111, Tryz.func111, by kernel_rfl, by kernel_rfl⟩⟩
instance iW10_2 : FnOk Tryz.prog 112 := ⟨⟨Tryz.f112, Tryz.func112, by kernel_rfl, by kernel_rfl⟩⟩
instance iW10_3 : SlT Tryz.prog 50 88 := ⟨by kernel_rfl⟩
instance iW10_4 : SzT Tryz.prog 88 2 := ⟨by kernel_rfl⟩
instance iW10_5 : ZvT Tryz.prog 88 (.agg #[(.string ByteArray.empty), (.string ByteArray.empty)]) := ⟨by kernel_rfl⟩
theorem tt62 : (AG Tryz.prog 88 = some true) ∧ (AG Tryz.prog 9 = some false) ∧ (FO Tryz.prog 88 0 = some 0) ∧ (FO Tryz.prog 88 1 = some 1) ∧ (LK Tryz.prog 50 = some 1) ∧ (LK Tryz.prog 9 = some 0) ∧ (SZ Tryz.prog 88 = some 2) := ⟨by kernel_rfl, by kernel_rfl, by kernel_rfl, by kernel_rfl, by kernel_rfl, by kernel_rfl, by kernel_rfl⟩

def encP : Enc (ByteArray × ByteArray) := ⟨fun p => [.string p.1, .string p.2], 2, fun _ => rfl, fun x u hu => by simp at hu; rcases hu with rfl | rfl <;> rfl, by decide⟩
theorem encP_f (s : ByteArray × ByteArray) : encP.f s = [.string s.1, .string s.2] := rfl
theorem L2 (a b : Value) : List.take 2 [a, b] = [a, b] := rfl
def PairsOk (ps : List (ByteArray × ByteArray)) (ks : List ByteArray) : Prop := Rise (ps.map (·.1)) ∧ ∀ p ∈ ps, p.1 ∈ ks ∧ p.2.size ≤ 65535
def MayP (id : Int) (ps : List (ByteArray × ByteArray)) (ks : List ByteArray) : Prop := 65536 ≤ id ∧ RisingP ks ∧ 1 ≤ ps.length ∧ PairsOk ps ks
theorem PairsOk.one {s : ByteArray × ByteArray} {ks : List ByteArray} (h1 : s.1 ∈ ks) (h2 : s.2.size ≤ 65535) : PairsOk ([] ++ [s]) ks :=
  ⟨List.pairwise_singleton _ _, fun p hp => by simp at hp; subst hp; exact ⟨h1, h2⟩⟩
theorem PairsOk.snoc {d : List (ByteArray × ByteArray)} {z s : ByteArray × ByteArray} {ks : List ByteArray} (h : PairsOk (d ++ [z]) ks) (hz : sless z.1 s.1 = true) (h1 : s.1 ∈ ks) (h2 : s.2.size ≤ 65535) : PairsOk (d ++ [z] ++ [s]) ks := by
  refine ⟨?_, fun p hp => ?_⟩
  · have := h.1
    rw [List.map_append] at this ⊢
    rw [List.map_append]
    exact Rise.snoc (d := d.map (·.1)) this hz
  · rcases List.mem_append.1 hp with hp | hp
    · exact h.2 p hp
    · simp at hp; subst hp; exact ⟨h1, h2⟩
theorem may_ok {id : Int} {ap : Option Addr} {np cp : Nat} {ps : List (ByteArray × ByteArray)} {ao : Option Addr} {n c : Nat} {ks : List ByteArray} {F : List HP} {w : World} (H : Own F w) (hP : Ent F (Row ap encP ps)) (hnp : np = ps.length) (hbp : ps.length ≤ 1099511627776) (hR : Ent F (Row ao encS ks)) (hn : n = ks.length) (hb : ks.length ≤ 1099511627776) :
  Cl Tryz.prog 62 #[.int .u64 id, .slice ap np cp, .slice ao n c] w fun v w' => ∃ b, v = .bool b ∧ (b = true ↔ MayP id ps ks) ∧ Own F w' := by
  subst hnp
  refine cl_of_cw Tryz.func62 rfl ?_
  simp only [Tryz.ntmps62, envA, List.size_toArray, List.length_cons, List.length_nil, Nat.reduceAdd, Nat.reduceSub]
  refine cw_seq (fun K1 h1 => ?_)
  refine cw_region (lq_run ?_)
  simp (maxSteps := 500000) (decide := true) (disch := omega) only [EV, ↓reduceIte, Nat.reduceAdd, tt62, encP_f, L2]
  refine lq_nil ?_
  refine h1 _ _ ?_
  refine cw_seq (fun K2 h2 => ?_)
  refine cw_seq (fun K3 h3 => ?_)
  refine cw_region (lq_run ?_)
  simp (maxSteps := 500000) (decide := true) (disch := omega) only [EV, ↓reduceIte, Nat.reduceAdd, tt62, encP_f, L2]
  refine lq_G (fun g11 => ?_) (fun g11 => ?_)
  · try simp only [HB] at g11
    simp (maxSteps := 500000) (decide := true) (disch := omega) only [EV, ↓reduceIte, Nat.reduceAdd, tt62, encP_f, L2]
    refine lq_nil ?_
    refine h3 _ _ ?_
    refine cw_condT rfl ?_
    refine cw_seq (fun K4 h4 => ?_)
    refine cw_region (lq_run ?_)
    simp (maxSteps := 500000) (decide := true) (disch := omega) only [EV, ↓reduceIte, Nat.reduceAdd, tt62, encP_f, L2]
    refine lq_nil ?_
    refine h4 _ _ ?_
    refine cw_ret ?_
    try simp (decide := true) only [EX, ↓reduceIte]
    refine ret1 rfl ?_
    exact ⟨false, rfl, ⟨nofun, fun h => by have := h.1; omega⟩, H⟩
  · try simp only [HB] at g11
    simp (maxSteps := 500000) (decide := true) (disch := omega) only [EV, ↓reduceIte, Nat.reduceAdd, tt62, encP_f, L2]
    refine lq_call rfl ?_
    refine Cl.mono (rising_ok H hR hn hb) ?_
    rintro _ w ⟨b1, rfl, hb1, H⟩
    simp (maxSteps := 500000) (decide := true) (disch := omega) only [EV, ↓reduceIte, Nat.reduceAdd, tt62, encP_f, L2]
    refine lq_G (fun g16 => ?_) (fun g16 => ?_)
    · try simp only [HB] at g16
      simp (maxSteps := 500000) (decide := true) (disch := omega) only [EV, ↓reduceIte, Nat.reduceAdd, tt62, encP_f, L2]
      refine lq_nil ?_
      refine h3 _ _ ?_
      refine cw_condT rfl ?_
      refine cw_seq (fun K5 h5 => ?_)
      refine cw_region (lq_run ?_)
      simp (maxSteps := 500000) (decide := true) (disch := omega) only [EV, ↓reduceIte, Nat.reduceAdd, tt62, encP_f, L2]
      refine lq_nil ?_
      refine h5 _ _ ?_
      refine cw_ret ?_
      try simp (decide := true) only [EX, ↓reduceIte]
      refine ret1 rfl ?_
      exact ⟨false, rfl, ⟨nofun, fun h => by rw [hb1.2 h.2.1] at g16; cases g16⟩, H⟩
    · try simp only [HB] at g16
      simp (maxSteps := 500000) (decide := true) (disch := omega) only [EV, ↓reduceIte, Nat.reduceAdd, tt62, encP_f, L2]
      refine lq_nil ?_
      refine h3 _ _ ?_
      refine cw_condB rfl (fun c20 => ?_) (fun c20 => ?_)
      · skip
        try simp only [HB] at c20
        refine cw_seq (fun K6 h6 => ?_)
        refine cw_region (lq_run ?_)
        simp (maxSteps := 500000) (decide := true) (disch := omega) only [EV, ↓reduceIte, Nat.reduceAdd, tt62, encP_f, L2]
        refine lq_nil ?_
        refine h6 _ _ ?_
        refine cw_ret ?_
        try simp (decide := true) only [EX, ↓reduceIte]
        refine ret1 rfl ?_
        exact ⟨false, rfl, ⟨nofun, fun h => by have := h.2.2.1; omega⟩, H⟩
      · skip
        try simp only [HB] at c20
        refine cw_skip ?_
        refine h2 _ _ ?_
        refine cw_seq (fun K7 h7 => ?_)
        refine cw_seq (fun K8 h8 => ?_)
        refine cw_region (lq_run ?_)
        have hk1 := hb1.1 g16
        simp (maxSteps := 500000) (decide := true) (disch := omega) only [EV, ↓reduceIte, Nat.reduceAdd, tt62, encP_f, L2]
        refine lq_nil ?_
        refine h8 _ _ ?_
        refine cw_block ?_
        refine cw_loopC (X := List (ByteArray × ByteArray) × List (ByteArray × ByteArray)) [(1, _), (2, _), (21, _), (22, _)] (fun x => [(23, .int .i64 (x.1.length : Int))]) (fun x w => ps = x.1 ++ x.2 ∧ PairsOk x.1 ks ∧ Own F w) (fun x => x.2.length) ([], ps) (.c rfl (.c rfl (.c rfl (.c rfl .n)))) (.c rfl .n) ⟨rfl, ⟨.nil, by simp⟩, H⟩ ?_
        rintro ⟨d, r⟩ w ⟨hd, hk, H⟩
        simp only [List.cons_append, List.nil_append]
        simp only at hd hk H ⊢
        refine cw_seq (fun K9 h9 => ?_)
        refine cw_region (lq_run ?_)
        simp (maxSteps := 500000) (decide := true) (disch := omega) only [EV, ↓reduceIte, Nat.reduceAdd, tt62, encP_f, L2]
        refine lq_nil ?_
        refine h9 _ _ ?_
        refine cw_seq (fun K10 h10 => ?_)
        refine cw_condB rfl (fun c24 => ?_) (fun c24 => ?_)
        · skip
          try simp only [HB] at c24
          obtain ⟨s, r2, rfl, he⟩ := zip_more hd c24
          refine cw_skip ?_
          refine h10 _ _ ?_
          refine cw_seq (fun K11 h11 => ?_)
          refine cw_block ?_
          refine cw_seq (fun K12 h12 => ?_)
          refine cw_region (lq_run ?_)
          simp (maxSteps := 500000) (decide := true) (disch := omega) only [EV, ↓reduceIte, Nat.reduceAdd, tt62, encP_f, L2]
          refine lq_idx (i' := d.length) H rfl rfl hP (Nat.le_refl _) rfl he ?_
          simp (maxSteps := 500000) (decide := true) (disch := omega) only [EV, ↓reduceIte, Nat.reduceAdd, tt62, encP_f, L2]
          refine lq_loadE H rfl hP he rfl ?_
          simp (maxSteps := 500000) (decide := true) (disch := omega) only [EV, ↓reduceIte, Nat.reduceAdd, tt62, encP_f, L2]
          refine lq_new H (fun b8 w H => ?_)
          try simp only [ES, encP_f, L2] at H
          simp (maxSteps := 500000) (decide := true) (disch := omega) only [EV, ↓reduceIte, Nat.reduceAdd, tt62, encP_f, L2]
          refine lq_st H rfl rfl rfl (fun w H => ?_)
          try simp only [ES, encP_f, L2] at H
          simp (maxSteps := 500000) (decide := true) (disch := omega) only [EV, ↓reduceIte, Nat.reduceAdd, tt62, encP_f, L2]
          refine lq_nil ?_
          refine h12 _ _ ?_
          refine cw_seq (fun K13 h13 => ?_)
          refine cw_draw [(0, 0), (1, 0), (2, 0), (3, 0), (4, 1), (5, 0), (6, 0), (7, 0), (8, 0), (9, 0), (10, 1), (11, 0), (12, 0), (13, 0), (14, 0), (15, 0), (16, 1), (17, 2), (18, 0), (19, 0), (20, 0), (21, 0), (22, 1), (23, 0), (24, 0), (25, 0)] rfl (by kernel_rfl) (fun c env w => by simp (decide := true) only [EX, not_false_eq_true]) H (fun w H => ?_)
          have H0 := H
          refine dq_run ?_
          simp (maxSteps := 500000) (decide := true) (disch := omega) only [EV, ↓reduceIte, Nat.reduceAdd, tt62, encP_f, L2]
          refine dq_G (fun g30 => ?_) (fun g30 => ?_)
          · try simp only [HB] at g30
            simp (maxSteps := 500000) (decide := true) (disch := omega) only [EV, ↓reduceIte, Nat.reduceAdd, tt62, encP_f, L2]
            refine dq_load H0 rfl ?_
            simp (maxSteps := 500000) (decide := true) (disch := omega) only [EV, ↓reduceIte, Nat.reduceAdd, tt62, encP_f, L2]
            obtain ⟨d', z, rfl⟩ : ∃ d' z, d = d' ++ [z] := by
              rcases List.eq_nil_or_concat d with rfl | ⟨d', z, h⟩
              · simp at g30
              · exact ⟨d', z, by simpa using h⟩
            refine dq_idx (i' := d'.length) H0 rfl rfl hP (Nat.le_refl _) (by simp) (show ps[d'.length]? = some z by rw [hd]; simp) ?_
            simp (maxSteps := 500000) (decide := true) (disch := omega) only [EV, ↓reduceIte, Nat.reduceAdd, tt62, encP_f, L2]
            refine dq_loadE H0 rfl hP (show ps[d'.length]? = some z by rw [hd]; simp) rfl ?_
            simp (maxSteps := 500000) (decide := true) (disch := omega) only [EV, ↓reduceIte, Nat.reduceAdd, tt62, encP_f, L2]
            refine dq_G (fun g41 => ?_) (fun g41 => ?_)
            · try simp only [HB] at g41
              simp (maxSteps := 500000) (decide := true) (disch := omega) only [EV, ↓reduceIte, Nat.reduceAdd, tt62, encP_f, L2]
              refine dq_skip H0 rfl rfl rfl rfl ?_
              simp (maxSteps := 500000) (decide := true) (disch := omega) only [EV, ↓reduceIte, Nat.reduceAdd, tt62, encP_f, L2]
              refine dq_skipA rfl (fun _ => H0) rfl rfl rfl rfl ?_
              simp (maxSteps := 500000) (decide := true) (disch := omega) only [EV, ↓reduceIte, Nat.reduceAdd, tt62, encP_f, L2]
              refine dq_skip H0 rfl rfl rfl rfl ?_
              simp (maxSteps := 500000) (decide := true) (disch := omega) only [EV, ↓reduceIte, Nat.reduceAdd, tt62, encP_f, L2]
              refine dq_nil ?_
              refine h13 _ _ ?_
              refine cw_condT rfl ?_
              refine cw_seq (fun K14 h14 => ?_)
              refine cw_region (lq_run ?_)
              simp (maxSteps := 500000) (decide := true) (disch := omega) only [EV, ↓reduceIte, Nat.reduceAdd, tt62, encP_f, L2]
              refine lq_nil ?_
              refine h14 _ _ ?_
              refine cw_ret ?_
              try simp (decide := true) only [EX, ↓reduceIte]
              refine ret1 rfl ?_
              refine ⟨false, rfl, ⟨nofun, fun h => absurd h.2.2.2.1 ?_⟩, H.wk⟩
              rw [hd, List.map_append, List.map_append]; exact not_rise g41
            · try simp only [HB] at g41
              simp (maxSteps := 500000) (decide := true) (disch := omega) only [EV, ↓reduceIte, Nat.reduceAdd, tt62, encP_f, L2]
              refine dq_load H0 rfl ?_
              simp (maxSteps := 500000) (decide := true) (disch := omega) only [EV, ↓reduceIte, Nat.reduceAdd, tt62, encP_f, L2]
              refine dq_act (by decide) rfl ?_
              refine lq_call rfl ?_
              refine Cl.mono (has_ok H hR.up hn hb hk1.1.2) ?_
              rintro _ w ⟨rfl, H⟩
              refine lr_nil ?_
              replace H0 := H.wkTo H0
              refine ⟨fun _ => H0, ?_⟩
              simp (maxSteps := 500000) (decide := true) (disch := omega) only [EV, ↓reduceIte, Nat.reduceAdd, tt62, encP_f, L2]
              refine dq_G (fun g48 => ?_) (fun g48 => ?_)
              · try simp only [HB] at g48
                simp (maxSteps := 500000) (decide := true) (disch := omega) only [EV, ↓reduceIte, Nat.reduceAdd, tt62, encP_f, L2]
                refine dq_skip H0 rfl rfl rfl rfl ?_
                simp (maxSteps := 500000) (decide := true) (disch := omega) only [EV, ↓reduceIte, Nat.reduceAdd, tt62, encP_f, L2]
                refine dq_nil ?_
                refine h13 _ _ ?_
                refine cw_condT rfl ?_
                refine cw_seq (fun K15 h15 => ?_)
                refine cw_region (lq_run ?_)
                simp (maxSteps := 500000) (decide := true) (disch := omega) only [EV, ↓reduceIte, Nat.reduceAdd, tt62, encP_f, L2]
                refine lq_nil ?_
                refine h15 _ _ ?_
                refine cw_ret ?_
                try simp (decide := true) only [EX, ↓reduceIte]
                refine ret1 rfl ?_
                exact ⟨false, rfl, ⟨nofun, fun h => absurd (h.2.2.2.2 s (by rw [hd]; simp)).1 (memB_no.1 g48)⟩, H.wk⟩
              · try simp only [HB] at g48
                simp (maxSteps := 500000) (decide := true) (disch := omega) only [EV, ↓reduceIte, Nat.reduceAdd, tt62, encP_f, L2]
                refine dq_load H0 rfl ?_
                simp (maxSteps := 500000) (decide := true) (disch := omega) only [EV, ↓reduceIte, Nat.reduceAdd, tt62, encP_f, L2]
                refine dq_nil ?_
                refine h13 _ _ ?_
                refine cw_condB rfl (fun c53 => ?_) (fun c53 => ?_)
                · skip
                  try simp only [HB] at c53
                  refine cw_seq (fun K16 h16 => ?_)
                  refine cw_region (lq_run ?_)
                  simp (maxSteps := 500000) (decide := true) (disch := omega) only [EV, ↓reduceIte, Nat.reduceAdd, tt62, encP_f, L2]
                  refine lq_nil ?_
                  refine h16 _ _ ?_
                  refine cw_ret ?_
                  try simp (decide := true) only [EX, ↓reduceIte]
                  refine ret1 rfl ?_
                  exact ⟨false, rfl, ⟨nofun, fun h => absurd (h.2.2.2.2 s (by rw [hd]; simp)).2 (by omega)⟩, H.wk⟩
                · skip
                  try simp only [HB] at c53
                  refine cw_skip ?_
                  refine h11 _ _ ?_
                  refine cw_region (lq_run ?_)
                  simp (maxSteps := 500000) (decide := true) (disch := omega) only [EV, ↓reduceIte, Nat.reduceAdd, tt62, encP_f, L2]
                  refine lq_nil ?_
                  try (obtain rfl : d = [] := List.eq_nil_of_length_eq_zero (by omega))
                  first
                    | exact Exists.intro (d' ++ [z] ++ [s], r2) ⟨⟨(.c (by show look _ 23 = some (.int .i64 (((d' ++ [z] ++ [s]).length : Nat) : Int)); rw [show (d' ++ [z] ++ [s]).length = (d' ++ [z]).length + 1 from by simp]; rfl) .n), (.c rfl (.c rfl (.c rfl (.c rfl .n))))⟩, ⟨by simp [hd], hk.snoc g41 (memB_iff.1 g48) (by omega), H.wk⟩, (by simp)⟩
                    | exact Exists.intro ([] ++ [s], r2) ⟨⟨(.c rfl .n), (.c rfl (.c rfl (.c rfl (.c rfl .n))))⟩, ⟨by simp [hd], .one (memB_iff.1 g48) (by omega), H.wk⟩, (by simp)⟩
          · try simp only [HB] at g30
            simp (maxSteps := 500000) (decide := true) (disch := omega) only [EV, ↓reduceIte, Nat.reduceAdd, tt62, encP_f, L2]
            refine dq_skip H0 rfl rfl rfl rfl ?_
            simp (maxSteps := 500000) (decide := true) (disch := omega) only [EV, ↓reduceIte, Nat.reduceAdd, tt62, encP_f, L2]
            refine dq_skip H0 rfl rfl rfl rfl ?_
            simp (maxSteps := 500000) (decide := true) (disch := omega) only [EV, ↓reduceIte, Nat.reduceAdd, tt62, encP_f, L2]
            refine dq_load H0 rfl ?_
            simp (maxSteps := 500000) (decide := true) (disch := omega) only [EV, ↓reduceIte, Nat.reduceAdd, tt62, encP_f, L2]
            refine dq_act (by decide) rfl ?_
            refine lq_call rfl ?_
            refine Cl.mono (has_ok H hR.up hn hb hk1.1.2) ?_
            rintro _ w ⟨rfl, H⟩
            refine lr_nil ?_
            replace H0 := H.wkTo H0
            refine ⟨fun _ => H0, ?_⟩
            simp (maxSteps := 500000) (decide := true) (disch := omega) only [EV, ↓reduceIte, Nat.reduceAdd, tt62, encP_f, L2]
            refine dq_G (fun g48 => ?_) (fun g48 => ?_)
            · try simp only [HB] at g48
              simp (maxSteps := 500000) (decide := true) (disch := omega) only [EV, ↓reduceIte, Nat.reduceAdd, tt62, encP_f, L2]
              refine dq_skip H0 rfl rfl rfl rfl ?_
              simp (maxSteps := 500000) (decide := true) (disch := omega) only [EV, ↓reduceIte, Nat.reduceAdd, tt62, encP_f, L2]
              refine dq_nil ?_
              refine h13 _ _ ?_
              refine cw_condT rfl ?_
              refine cw_seq (fun K17 h17 => ?_)
              refine cw_region (lq_run ?_)
              simp (maxSteps := 500000) (decide := true) (disch := omega) only [EV, ↓reduceIte, Nat.reduceAdd, tt62, encP_f, L2]
              refine lq_nil ?_
              refine h17 _ _ ?_
              refine cw_ret ?_
              try simp (decide := true) only [EX, ↓reduceIte]
              refine ret1 rfl ?_
              exact ⟨false, rfl, ⟨nofun, fun h => absurd (h.2.2.2.2 s (by rw [hd]; simp)).1 (memB_no.1 g48)⟩, H.wk⟩
            · try simp only [HB] at g48
              simp (maxSteps := 500000) (decide := true) (disch := omega) only [EV, ↓reduceIte, Nat.reduceAdd, tt62, encP_f, L2]
              refine dq_load H0 rfl ?_
              simp (maxSteps := 500000) (decide := true) (disch := omega) only [EV, ↓reduceIte, Nat.reduceAdd, tt62, encP_f, L2]
              refine dq_nil ?_
              refine h13 _ _ ?_
              refine cw_condB rfl (fun c53 => ?_) (fun c53 => ?_)
              · skip
                try simp only [HB] at c53
                refine cw_seq (fun K18 h18 => ?_)
                refine cw_region (lq_run ?_)
                simp (maxSteps := 500000) (decide := true) (disch := omega) only [EV, ↓reduceIte, Nat.reduceAdd, tt62, encP_f, L2]
                refine lq_nil ?_
                refine h18 _ _ ?_
                refine cw_ret ?_
                try simp (decide := true) only [EX, ↓reduceIte]
                refine ret1 rfl ?_
                exact ⟨false, rfl, ⟨nofun, fun h => absurd (h.2.2.2.2 s (by rw [hd]; simp)).2 (by omega)⟩, H.wk⟩
              · skip
                try simp only [HB] at c53
                refine cw_skip ?_
                refine h11 _ _ ?_
                refine cw_region (lq_run ?_)
                simp (maxSteps := 500000) (decide := true) (disch := omega) only [EV, ↓reduceIte, Nat.reduceAdd, tt62, encP_f, L2]
                refine lq_nil ?_
                try (obtain rfl : d = [] := List.eq_nil_of_length_eq_zero (by omega))
                first
                  | exact Exists.intro (d' ++ [z] ++ [s], r2) ⟨⟨(.c (by show look _ 23 = some (.int .i64 (((d' ++ [z] ++ [s]).length : Nat) : Int)); rw [show (d' ++ [z] ++ [s]).length = (d' ++ [z]).length + 1 from by simp]; rfl) .n), (.c rfl (.c rfl (.c rfl (.c rfl .n))))⟩, ⟨by simp [hd], hk.snoc g41 (memB_iff.1 g48) (by omega), H.wk⟩, (by simp)⟩
                  | exact Exists.intro ([] ++ [s], r2) ⟨⟨(.c rfl .n), (.c rfl (.c rfl (.c rfl (.c rfl .n))))⟩, ⟨by simp [hd], .one (memB_iff.1 g48) (by omega), H.wk⟩, (by simp)⟩
        · skip
          try simp only [HB] at c24
          obtain ⟨rfl, rfl⟩ := zip_done hd c24
          refine cw_exit ?_
          refine h7 _ _ ?_
          refine cw_seq (fun K19 h19 => ?_)
          refine cw_region (lq_run ?_)
          simp (maxSteps := 500000) (decide := true) (disch := omega) only [EV, ↓reduceIte, Nat.reduceAdd, tt62, encP_f, L2]
          refine lq_nil ?_
          refine h19 _ _ ?_
          refine cw_ret ?_
          try simp (decide := true) only [EX, ↓reduceIte]
          refine ret1 rfl ?_
          exact ⟨true, rfl, ⟨fun _ => ⟨g11, hk1, by omega, hk⟩, fun _ => rfl⟩, H⟩
end Go.Rp
set_option linter.unusedVariables false
set_option linter.unusedSimpArgs false
set_option maxHeartbeats 1000000
set_option maxRecDepth 100000
namespace Go.Rp
open Go.Proofs
instance iW11_0 : ElT Tryz.prog 43 1 := ElT.mk' (by kernel_rfl)
instance iW11_1 : FnOk Tryz.prog 165 := ⟨⟨Tryz.f165, Tryz.func165, by kernel_rfl, by kernel_rfl⟩⟩
instance iW11_2 : OvT Tryz.prog 164 141 := ⟨⟨Tryz.f164, 4, Tryz.func164, by kernel_rfl, by kernel_rfl, by kernel_rfl, by kernel_rfl⟩⟩
instance iW11_3 : SlT Tryz.prog 141 43 := ⟨by kernel_rfl⟩
theorem tt114 : (LK Tryz.prog 141 = some 1) := by kernel_rfl

theorem encI_flat : ∀ (l : List Int), l.flatMap encI.f = l.map (Value.int .u64)
  | [] => rfl
  | x :: l => by rw [List.flatMap_cons, encI_flat l]; rfl
theorem subA0 {b off sz h c : Nat} : subA (some ⟨b, off, none⟩) sz 0 h c = some ⟨b, off, none⟩ := by
  unfold subA; split
  · rfl
  · simp [Addr.add_lit]
theorem subAne {b off sz l h c : Nat} (hne : c ≠ l) : subA (some ⟨b, off, none⟩) sz l h c = some ⟨b, off + l * sz, none⟩ := by
  unfold subA; rw [if_neg hne]; simp [Addr.add_lit]
theorem ins_grow {α : Type} {cells2 : List α} {i : Nat} {xs : List α} {x : α} (hi : i < xs.length) (hl : xs.length + 1 ≤ cells2.length) (ht : cells2.take i = xs.take i) (s1 s2 : List α) (h1 : s1 = cells2.take i ++ [x] ++ cells2.drop (i + 1)) (h2 : s2 = s1.take (i + 1) ++ xs.drop i ++ s1.drop (i + 1 + (xs.drop i).length)) :
    s2.take (xs.length + 1) = xs.take i ++ x :: xs.drop i := by
  have e1 : s1.take (i + 1) = xs.take i ++ [x] := by
    rw [h1, List.append_assoc, ht, ← List.append_assoc]
    exact List.take_left' (by simp; omega)
  rw [h2, e1, List.append_assoc, List.append_assoc, ← List.append_assoc (xs.take i)]
  rw [List.append_assoc, ← List.append_assoc, ← List.append_assoc, List.take_left' (by simp; omega)]
  simp
theorem ins_place {α : Type} {cells : List α} {i : Nat} {xs : List α} {x : α} (hi : i < xs.length) (hl : xs.length + 1 ≤ cells.length) (ht : cells.take xs.length = xs) (s1 s2 : List α) (h1 : s1 = cells.take (i + 1) ++ xs.drop i ++ cells.drop (i + 1 + (xs.drop i).length)) (h2 : s2 = s1.take i ++ [x] ++ s1.drop (i + 1)) :
    s2.take (xs.length + 1) = xs.take i ++ x :: xs.drop i := by
  have e0 : cells.take i = xs.take i := by
    have := congrArg (List.take i) ht
    rw [List.take_take, Nat.min_eq_left (by omega)] at this; exact this
  have e1 : s1.take i = xs.take i := by
    rw [h1, List.append_assoc, List.take_append_of_le_length (by simp; omega), List.take_take, Nat.min_eq_left (by omega), e0]
  have e2 : s1.drop (i + 1) = xs.drop i ++ cells.drop (i + 1 + (xs.drop i).length) := by
    rw [h1, List.append_assoc, List.drop_left' (by simp; omega)]
  rw [h2, e1, e2, ← List.append_assoc, List.take_left' (by simp; omega)]
  simp
theorem encI_n : encI.n = 1 := rfl
theorem encI_one (l : List Int) : ∀ u ∈ l.map (Value.int .u64), u.oneCell' = true := fun u hu => by obtain ⟨x, _, rfl⟩ := List.mem_map.1 hu; rfl
theorem InsertI_ok {ao : Option Addr} {n c : Nat} {xs : List Int} {i : Nat} {x : Int} {bv : Nat} {F : List HP} {w : World} (H : Own (Os 43 encI (.slice ao n c) xs :: Ce bv ([.int .u64 x], 43) :: F) w) (hn : n = xs.length) (hi : i ≤ xs.length) (hb : xs.length + 1 ≤ 1099511627776) :
  Cl Tryz.prog 114 #[.slice ao n c, .int .i64 i, .slice (some ⟨bv, 0, none⟩) 1 1] w fun v w' => ∃ ao' c', v = .slice ao' (xs.length + 1) c' ∧ Own (Os 43 encI (.slice ao' (xs.length + 1) c') (xs.take i ++ x :: xs.drop i) :: F) w' := by
  subst hn
  refine cl_of_cw Tryz.func114 rfl ?_
  simp only [Tryz.ntmps114, envA, List.size_toArray, List.length_cons, List.length_nil, Nat.reduceAdd, Nat.reduceSub]
  have hcc := H.osRow.2.1
  refine cw_seq (fun K1 h1 => ?_)
  refine cw_region (lq_run ?_)
  simp (maxSteps := 500000) (decide := true) (disch := omega) only [EV, ↓reduceIte, Nat.reduceAdd, tt114, Nat.mul_one, Nat.sub_zero]
  refine lq_nil ?_
  refine h1 _ _ ?_
  refine cw_seq (fun K2 h2 => ?_)
  refine cw_region (lq_run ?_)
  simp (maxSteps := 500000) (decide := true) (disch := omega) only [EV, ↓reduceIte, Nat.reduceAdd, tt114, Nat.mul_one, Nat.sub_zero]
  refine lq_sub i xs.length (xs.length - i) rfl ⟨_, _, rfl, rfl⟩ rfl ⟨by omega, by omega, fun _ => by omega⟩ rfl ?_
  simp (maxSteps := 500000) (decide := true) (disch := omega) only [EV, ↓reduceIte, Nat.reduceAdd, tt114, Nat.mul_one, Nat.sub_zero]
  refine lq_nil ?_
  refine h2 _ _ ?_
  refine cw_seq (fun K3 h3 => ?_)
  refine cw_region (lq_run ?_)
  simp (maxSteps := 500000) (decide := true) (disch := omega) only [EV, ↓reduceIte, Nat.reduceAdd, tt114, Nat.mul_one, Nat.sub_zero]
  refine lq_nil ?_
  refine h3 _ _ ?_
  refine cw_seq (fun K4 h4 => ?_)
  refine cw_seq (fun K5 h5 => ?_)
  refine cw_region (lq_run ?_)
  simp (maxSteps := 500000) (decide := true) (disch := omega) only [EV, ↓reduceIte, Nat.reduceAdd, tt114, Nat.mul_one, Nat.sub_zero]
  refine lq_nil ?_
  refine h5 _ _ ?_
  refine cw_condB rfl (fun c16 => ?_) (fun c16 => ?_)
  · skip
    first
      | (simp only [HB, reduceCtorEq] at c16; done)
      | (try simp only [HB] at c16
         exfalso; omega)
      | skip
        try simp only [HB] at c16
        refine cw_seq (fun K6 h6 => ?_)
        refine cw_region (lq_run ?_)
        simp (maxSteps := 500000) (decide := true) (disch := omega) only [EV, ↓reduceIte, Nat.reduceAdd, tt114, Nat.mul_one, Nat.sub_zero]
        refine lq_nil ?_
        refine h6 _ _ ?_
        refine cw_ret ?_
        try simp (decide := true) only [EX, ↓reduceIte]
        refine ret1 rfl ?_
        exact H
  · skip
    first
      | (simp only [HB, reduceCtorEq] at c16; done)
      | (try simp only [HB] at c16
         exfalso; omega)
      | skip
        try simp only [HB] at c16
        refine cw_skip ?_
        refine h4 _ _ ?_
        refine cw_seq (fun K7 h7 => ?_)
        refine cw_region (lq_run ?_)
        simp (maxSteps := 500000) (decide := true) (disch := omega) only [EV, ↓reduceIte, Nat.reduceAdd, tt114, Nat.mul_one, Nat.sub_zero]
        refine lq_nil ?_
        refine h7 _ _ ?_
        refine cw_seq (fun K8 h8 => ?_)
        refine cw_seq (fun K9 h9 => ?_)
        refine cw_region (lq_run ?_)
        simp (maxSteps := 500000) (decide := true) (disch := omega) only [EV, ↓reduceIte, Nat.reduceAdd, tt114, Nat.mul_one, Nat.sub_zero]
        refine lq_nil ?_
        refine h9 _ _ ?_
        refine cw_condB rfl (fun c22 => ?_) (fun c22 => ?_)
        · skip
          try simp only [HB] at c22
          refine cw_seq (fun K10 h10 => ?_)
          refine cw_region (lq_run ?_)
          simp (maxSteps := 500000) (decide := true) (disch := omega) only [EV, ↓reduceIte, Nat.reduceAdd, tt114, Nat.mul_one, Nat.sub_zero]
          refine lq_app1 (enc := encI) x H rfl rfl rfl (by rw [encI_n]; omega) (fun ao' c' w H => ?_)
          simp (maxSteps := 500000) (decide := true) (disch := omega) only [EV, ↓reduceIte, Nat.reduceAdd, tt114, Nat.mul_one, Nat.sub_zero]
          refine lq_nil ?_
          refine h10 _ _ ?_
          refine cw_ret ?_
          try simp (decide := true) only [EX, ↓reduceIte]
          refine ret1 rfl ?_
          obtain rfl : i = xs.length := by omega
          rw [List.take_length, List.drop_length]; exact ⟨ao', c', rfl, H⟩
        · skip
          try simp only [HB] at c22
          refine cw_skip ?_
          refine h8 _ _ ?_
          refine cw_seq (fun K11 h11 => ?_)
          refine cw_seq (fun K12 h12 => ?_)
          refine cw_region (lq_run ?_)
          have hilt : i < xs.length := by omega
          obtain ⟨b, cells, rfl, -, hncap, hcl, hct, H⟩ := H.osOpen (by rintro rfl; simp at hilt)
          rw [encI_n, Nat.mul_one] at hcl hct
          rw [encI_flat] at hct
          simp (maxSteps := 500000) (decide := true) (disch := omega) only [EV, ↓reduceIte, Nat.reduceAdd, tt114, Nat.mul_one, Nat.sub_zero]
          refine lq_nil ?_
          refine h12 _ _ ?_
          refine cw_condB rfl (fun c31 => ?_) (fun c31 => ?_)
          · skip
            try simp only [HB] at c31
            refine cw_seq (fun K13 h13 => ?_)
            refine cw_region (lq_run ?_)
            simp (maxSteps := 500000) (decide := true) (disch := omega) only [EV, ↓reduceIte, Nat.reduceAdd, tt114, Nat.mul_one, Nat.sub_zero]
            refine lq_sub 0 i i rfl rfl ⟨_, _, rfl, rfl⟩ ⟨by omega, by omega, nofun⟩ (by omega) ?_
            rw [subA0]
            simp (maxSteps := 500000) (decide := true) (disch := omega) only [EV, ↓reduceIte, Nat.reduceAdd, tt114, Nat.mul_one, Nat.sub_zero]
            refine lq_appMake (kn := .i64) (n := xs.length + 1 - i) H rfl rfl (by kernel_rfl) (by omega) (by omega) (by omega) (by omega) (by omega) (fun b2 c2 cells2 w hl2 hc2 ht2 H => ?_)
            simp (maxSteps := 500000) (decide := true) (disch := omega) only [EV, ↓reduceIte, Nat.reduceAdd, tt114, Nat.mul_one, Nat.sub_zero]
            refine lq_nil ?_
            refine h13 _ _ ?_
            refine cw_seq (fun K14 h14 => ?_)
            refine cw_region (lq_run ?_)
            simp (maxSteps := 500000) (decide := true) (disch := omega) only [EV, ↓reduceIte, Nat.reduceAdd, tt114, Nat.mul_one, Nat.sub_zero]
            refine lq_sub i (i + (xs.length + 1 - i)) (xs.length + 1 - i) rfl ⟨_, _, rfl, rfl⟩ rfl ⟨by omega, by omega, fun _ => by omega⟩ (by omega) ?_
            rw [subAne (l := i) (c := c2) (by omega)]
            simp (maxSteps := 500000) (decide := true) (disch := omega) only [EV, ↓reduceIte, Nat.reduceAdd, tt114, Nat.mul_one, Nat.sub_zero]
            refine lq_copy [.int .u64 x] H rfl rfl (by simp; omega) (fun j v hj => by rw [(Own.tkC (b := bv) H).cell (0 + j), Nat.zero_add]; exact hj) (by simp; omega) (encI_one [x]) (fun w H => ?_)
            simp (maxSteps := 500000) (decide := true) (disch := omega) only [EV, ↓reduceIte, Nat.reduceAdd, tt114, Nat.mul_one, Nat.sub_zero]
            refine lq_nil ?_
            refine h14 _ _ ?_
            refine cw_seq (fun K15 h15 => ?_)
            refine cw_draw [(0, 0), (1, 0), (2, 0), (3, 0), (4, 0), (5, 0), (6, 0), (7, 0), (8, 3)] rfl (by kernel_rfl) (fun c env w => by simp (decide := true) only [EX, not_false_eq_true]) H (fun w H => ?_)
            have H0 := H
            refine dq_run ?_
            simp (maxSteps := 500000) (decide := true) (disch := omega) only [EV, ↓reduceIte, Nat.reduceAdd, tt114, Nat.mul_one, Nat.sub_zero]
            refine dq_sub (i + 1) (i + (xs.length + 1 - i)) (xs.length - i) rfl ⟨_, _, rfl, by omega⟩ rfl ⟨by omega, by omega, fun _ => by omega⟩ (by omega) ?_
            rw [subAne (l := i + 1) (c := c2) (by omega)]
            simp (maxSteps := 500000) (decide := true) (disch := omega) only [EV, ↓reduceIte, Nat.reduceAdd, tt114, Nat.mul_one, Nat.sub_zero]
            refine dq_sub i xs.length (xs.length - i) rfl ⟨_, _, rfl, rfl⟩ rfl ⟨by omega, by omega, fun _ => by omega⟩ rfl ?_
            rw [subAne (l := i) (c := c) (by omega)]
            simp (maxSteps := 500000) (decide := true) (disch := omega) only [EV, ↓reduceIte, Nat.reduceAdd, tt114, Nat.mul_one, Nat.sub_zero]
            refine dq_act (by decide) rfl ?_
            refine lq_copy ((xs.drop i).map (Value.int .u64)) H rfl rfl (by simp) (fun j v hj => by
              rw [(Own.tkC (b := b) H).cell]
              have := congrArg (fun l => l[i + j]?) hct
              have hlt := (List.getElem?_eq_some_iff.1 hj).1
              simp at hlt
              simp only [List.getElem?_take] at this
              rw [if_pos (by omega)] at this
              try simp only [Nat.zero_add, Nat.mul_one]
              rw [this]; simpa using hj) (by simp [setR_length]; omega) (encI_one _) (fun w H => ?_)
            refine lr_nil ?_
            refine ⟨fun hh => absurd hh (by decide), ?_⟩
            simp (maxSteps := 500000) (decide := true) (disch := omega) only [EV, ↓reduceIte, Nat.reduceAdd, tt114, Nat.mul_one, Nat.sub_zero]
            refine dq_nil ?_
            refine h15 _ _ ?_
            refine cw_seq (fun K16 h16 => ?_)
            refine cw_region (lq_run ?_)
            simp (maxSteps := 500000) (decide := true) (disch := omega) only [EV, ↓reduceIte, Nat.reduceAdd, tt114, Nat.mul_one, Nat.sub_zero]
            refine lq_nil ?_
            refine h16 _ _ ?_
            refine cw_ret ?_
            try simp (decide := true) only [EX, ↓reduceIte]
            refine ret1 rfl ?_
            have hml : (xs.map (Value.int .u64)).length = xs.length := by simp
            have ht3 : cells2.take i = (xs.map (Value.int .u64)).take i := by
              rw [ht2, ← hct, List.take_take, Nat.min_eq_left (by omega)]
            have e1 := setR_spec [Value.int .u64 x] cells2 i (by simp only [setR_length, List.length_map, List.length_drop, List.length_cons, List.length_nil] <;> omega)
            have e2 := setR_spec ((xs.drop i).map (Value.int .u64)) (setR cells2 i [Value.int .u64 x]) (i + 1) (by simp only [setR_length, List.length_map, List.length_drop, List.length_cons, List.length_nil] <;> omega)
            rw [List.map_drop] at e2
            have hg := ins_grow (cells2 := cells2) (xs := xs.map (Value.int .u64)) (x := Value.int .u64 x) (by rw [hml]; omega) (by rw [hml]; omega) ht3 _ _ e1 e2
            rw [hml, ← List.map_drop, ← List.map_take] at hg
            rw [show i + (xs.length + 1 - i) = xs.length + 1 by omega]
            exact ⟨_, _, rfl, (H.osMake (n := xs.length + 1) (c := c2) encI (xs.take i ++ x :: xs.drop i) (by rw [setR_length, setR_length, encI_n]; omega) (by simp; omega) (by omega) (by rw [encI_n, Nat.mul_one, encI_flat, hg]; simp)).wk⟩
          · skip
            try simp only [HB] at c31
            refine cw_skip ?_
            refine h11 _ _ ?_
            refine cw_seq (fun K17 h17 => ?_)
            refine cw_region (lq_run ?_)
            simp (maxSteps := 500000) (decide := true) (disch := omega) only [EV, ↓reduceIte, Nat.reduceAdd, tt114, Nat.mul_one, Nat.sub_zero]
            refine lq_sub 0 (xs.length + 1) (xs.length + 1) rfl rfl ⟨_, _, rfl, by omega⟩ ⟨by omega, by omega, nofun⟩ rfl ?_
            rw [subA0]
            simp (maxSteps := 500000) (decide := true) (disch := omega) only [EV, ↓reduceIte, Nat.reduceAdd, tt114, Nat.mul_one, Nat.sub_zero]
            refine lq_nil ?_
            refine h17 _ _ ?_
            refine cw_seq (fun K18 h18 => ?_)
            refine cw_seq (fun K19 h19 => ?_)
            refine cw_region (lq_run ?_)
            simp (maxSteps := 500000) (decide := true) (disch := omega) only [EV, ↓reduceIte, Nat.reduceAdd, tt114, Nat.mul_one, Nat.sub_zero]
            refine lq_sub (i + 1) (xs.length + 1) (xs.length - i) rfl ⟨_, _, rfl, by omega⟩ rfl ⟨by omega, by omega, fun _ => by omega⟩ (by omega) ?_
            rw [subAne (l := i + 1) (c := c) (by omega)]
            simp (maxSteps := 500000) (decide := true) (disch := omega) only [EV, ↓reduceIte, Nat.reduceAdd, tt114, Nat.mul_one, Nat.sub_zero]
            refine lq_overlaps H rfl rfl (show 0 < cells.length by omega) ?_
            simp (maxSteps := 500000) (decide := true) (disch := omega) only [EV, ↓reduceIte, Nat.reduceAdd, tt114, Nat.mul_one, Nat.sub_zero]
            refine lq_nil ?_
            refine h19 _ _ ?_
            refine cw_condT rfl ?_
            refine cw_seq (fun K20 h20 => ?_)
            refine cw_draw [(0, 0), (1, 0), (2, 0), (3, 0), (4, 0), (5, 0), (6, 0), (7, 0), (8, 3)] rfl (by kernel_rfl) (fun c env w => by simp (decide := true) only [EX, not_false_eq_true]) H (fun w H => ?_)
            have H0 := H
            refine dq_run ?_
            simp (maxSteps := 500000) (decide := true) (disch := omega) only [EV, ↓reduceIte, Nat.reduceAdd, tt114, Nat.mul_one, Nat.sub_zero]
            refine dq_sub (i + 1) (xs.length + 1) (xs.length - i) rfl ⟨_, _, rfl, by omega⟩ rfl ⟨by omega, by omega, fun _ => by omega⟩ (by omega) ?_
            rw [subAne (l := i + 1) (h := xs.length + 1) (c := c) (by omega)]
            simp (maxSteps := 500000) (decide := true) (disch := omega) only [EV, ↓reduceIte, Nat.reduceAdd, tt114, Nat.mul_one, Nat.sub_zero]
            refine dq_sub i (xs.length + 1) (xs.length + 1 - i) rfl ⟨_, _, rfl, rfl⟩ rfl ⟨by omega, by omega, fun _ => by omega⟩ rfl ?_
            rw [subAne (l := i) (h := xs.length + 1) (c := c) (by omega)]
            simp (maxSteps := 500000) (decide := true) (disch := omega) only [EV, ↓reduceIte, Nat.reduceAdd, tt114, Nat.mul_one, Nat.sub_zero]
            refine dq_act (by decide) rfl ?_
            refine lq_copy ((xs.drop i).map (Value.int .u64)) H rfl rfl (by simp; omega) (fun j v hj => by
              rw [(Own.tkC (b := b) H).cell]
              have := congrArg (fun l => l[i + j]?) hct
              have hlt := (List.getElem?_eq_some_iff.1 hj).1
              simp at hlt
              simp only [List.getElem?_take] at this
              rw [if_pos (by omega)] at this
              try simp only [Nat.zero_add, Nat.mul_one]
              rw [this]; simpa using hj) (by simp; omega) (encI_one _) (fun w H => ?_)
            refine lr_nil ?_
            refine ⟨fun hh => absurd hh (by decide), ?_⟩
            simp (maxSteps := 500000) (decide := true) (disch := omega) only [EV, ↓reduceIte, Nat.reduceAdd, tt114, Nat.mul_one, Nat.sub_zero]
            refine dq_nil ?_
            refine h20 _ _ ?_
            refine cw_seq (fun K21 h21 => ?_)
            refine cw_region (lq_run ?_)
            simp (maxSteps := 500000) (decide := true) (disch := omega) only [EV, ↓reduceIte, Nat.reduceAdd, tt114, Nat.mul_one, Nat.sub_zero]
            refine lq_sub i (xs.length + 1) (xs.length + 1 - i) rfl ⟨_, _, rfl, rfl⟩ rfl ⟨by omega, by omega, fun _ => by omega⟩ rfl ?_
            rw [subAne (l := i) (h := xs.length + 1) (c := c) (by omega)]
            simp (maxSteps := 500000) (decide := true) (disch := omega) only [EV, ↓reduceIte, Nat.reduceAdd, tt114, Nat.mul_one, Nat.sub_zero]
            refine lq_copy [.int .u64 x] H rfl rfl (by simp; omega) (fun j v hj => by rw [(Own.tkC (b := bv) H).cell (0 + j), Nat.zero_add]; exact hj) (by simp [setR_length]; omega) (encI_one [x]) (fun w H => ?_)
            simp (maxSteps := 500000) (decide := true) (disch := omega) only [EV, ↓reduceIte, Nat.reduceAdd, tt114, Nat.mul_one, Nat.sub_zero]
            refine lq_nil ?_
            refine h21 _ _ ?_
            refine cw_seq (fun K22 h22 => ?_)
            refine cw_region (lq_run ?_)
            simp (maxSteps := 500000) (decide := true) (disch := omega) only [EV, ↓reduceIte, Nat.reduceAdd, tt114, Nat.mul_one, Nat.sub_zero]
            refine lq_nil ?_
            refine h22 _ _ ?_
            refine cw_ret ?_
            try simp (decide := true) only [EX, ↓reduceIte]
            refine ret1 rfl ?_
            have hml : (xs.map (Value.int .u64)).length = xs.length := by simp
            have e1 := setR_spec ((xs.drop i).map (Value.int .u64)) cells (i + 1) (by simp only [setR_length, List.length_map, List.length_drop, List.length_cons, List.length_nil] <;> omega)
            have e2 := setR_spec [Value.int .u64 x] (setR cells (i + 1) ((xs.drop i).map (Value.int .u64))) i (by simp only [setR_length, List.length_map, List.length_drop, List.length_cons, List.length_nil] <;> omega)
            rw [List.map_drop] at e1 e2
            have hg := ins_place (cells := cells) (xs := xs.map (Value.int .u64)) (x := Value.int .u64 x) (by rw [hml]; omega) (by rw [hml]; omega) (by rw [hml]; exact hct) _ _ e1 e2
            rw [hml, ← List.map_drop, ← List.map_take] at hg
            exact ⟨_, _, rfl, (H.osMake (n := xs.length + 1) (c := c) encI (xs.take i ++ x :: xs.drop i) (by rw [setR_length, setR_length, encI_n]; omega) (by simp; omega) (by omega) (by rw [encI_n, Nat.mul_one, encI_flat, hg]; simp)).wk⟩
end Go.Rp
set_option linter.unusedVariables false
set_option linter.unusedSimpArgs false
set_option maxHeartbeats 1000000
set_option maxRecDepth 100000
namespace Go.Rp
open Go.Proofs
instance iW12_0 : ElT Tryz.prog 43 1 := ElT.mk' (by kernel_rfl)
instance iW12_1 : ElT Tryz.prog 9 1 := ElT.mk' (by kernel_rfl)
instance iW12_2 : FnOk Tryz.prog 115 := ⟨⟨Tryz.f115, Tryz.func115, by kernel_rfl, by kernel_rfl⟩⟩
instance iW12_3 : FnOk Tryz.prog 116 := ⟨⟨Tryz.f116, Tryz.func116, by kernel_rfl, by kernel_rfl⟩⟩
instance iW12_4 : FnOk Tryz.prog 117 := ⟨⟨Tryz.f117, Tryz.func117, by kernel_rfl, by kernel_rfl⟩⟩
instance iW12_5 : FnOk Tryz.prog 118 := ⟨⟨Tryz.f118, Tryz.func118, by kernel_rfl, by kernel_rfl⟩⟩
instance iW12_6 : FnOk Tryz.prog 166 := ⟨⟨Tryz.f166, Tryz.func166, by kernel_rfl, by kernel_rfl⟩⟩
instance iW12_7 : FnOk Tryz.prog 167 := ⟨⟨Tryz.f167, Tryz.func167, by kernel_rfl, by kernel_rfl⟩⟩
instance iW12_8 : SlT Tryz.prog 141 43 := ⟨by kernel_rfl⟩
instance iW12_9 : SlT Tryz.prog 44 9 := ⟨by kernel_rfl⟩
instance iW12_10 : SzT Tryz.prog 43 1 := ⟨by kernel_rfl⟩
instance iW12_11 : SzT Tryz.prog 9 1 := ⟨by kernel_rfl⟩
instance iW12_12 : ZvT Tryz.prog 43 (.int .u64 0) := ⟨by kernel_rfl⟩
instance iW12_13 : ZvT Tryz.prog 9 (.string ByteArray.empty) := ⟨by kernel_rfl⟩
theorem tt116 : (AG Tryz.prog 43 = some false) := by kernel_rfl
theorem tt166 : (AG Tryz.prog 43 = some false) ∧ (LK Tryz.prog 141 = some 1) := ⟨by kernel_rfl, by kernel_rfl⟩
theorem tt115 : (AG Tryz.prog 43 = some false) ∧ (LK Tryz.prog 141 = some 1) := ⟨by kernel_rfl, by kernel_rfl⟩
theorem tt66 : (True) := trivial
theorem tt118 : (AG Tryz.prog 9 = some false) := by kernel_rfl
theorem tt167 : (AG Tryz.prog 9 = some false) ∧ (LK Tryz.prog 44 = some 1) := ⟨by kernel_rfl, by kernel_rfl⟩
theorem tt117 : (AG Tryz.prog 9 = some false) ∧ (LK Tryz.prog 44 = some 1) := ⟨by kernel_rfl, by kernel_rfl⟩
theorem tt67 : (True) := trivial

theorem encS_flat : ∀ (l : List ByteArray), l.flatMap encS.f = l.map Value.string
  | [] => rfl
  | x :: l => by rw [List.flatMap_cons, encS_flat l]; rfl
theorem encS_one (l : List ByteArray) : ∀ u ∈ l.map Value.string, u.oneCell' = true := fun u hu => by obtain ⟨x, _, rfl⟩ := List.mem_map.1 hu; rfl
theorem get_mid {α : Type} (a : List α) (b : List α) (x : α) (c : List α) (k : Nat) (hk : a.length + b.length = k) : (a ++ b ++ x :: c)[k]? = some x := by
  rw [← hk, ← List.length_append]; simp
theorem set_mid {α : Type} (a : List α) (u v : α) (b c : List α) : (a ++ (u :: b) ++ c).set a.length v = a ++ [v] ++ b ++ c := by
  simp
def fne {κ : Type} [DecidableEq κ] (x : κ) (l : List κ) : List κ := l.filter fun y => decide (¬ y = x)
theorem fne_append {κ : Type} [DecidableEq κ] {x : κ} {a b : List κ} : fne x (a ++ b) = fne x a ++ fne x b := List.filter_append ..
theorem fne_eq {κ : Type} [DecidableEq κ] {x : κ} : fne x [x] = [] := by simp [fne]
theorem fne_ne {κ : Type} [DecidableEq κ] {x s : κ} (h : ¬ s = x) : fne x [s] = [s] := by simp [fne, h]
theorem fne_no {κ : Type} [DecidableEq κ] {x : κ} {l : List κ} (h : ¬ x ∈ l) : fne x l = l := List.filter_eq_self.2 (fun a ha => decide_eq_true (fun (e : a = x) => h (e ▸ ha)))
theorem fne_le {κ : Type} [DecidableEq κ] (x : κ) (l : List κ) : (fne x l).length ≤ l.length := List.length_filter_le ..
theorem fne_mem {κ : Type} [DecidableEq κ] {x a : κ} {l : List κ} : a ∈ fne x l ↔ a ∈ l ∧ ¬ a = x := by simp [fne]
theorem woCI_ok {x y : Int} {bx : Nat} {F : List HP} {w : World} (H : Own (Ce bx ([.int .u64 x], 43) :: F) w) :
  Cl Tryz.prog 116 #[.int .u64 y, .pointer (some ⟨bx, 0, none⟩)] w fun v w' => v = .bool (decide (y = x)) ∧ Own (Ce bx ([.int .u64 x], 43) :: F) w' := by
  refine cl_of_cw Tryz.func116 rfl ?_
  simp only [Tryz.ntmps116, envA, List.size_toArray, List.length_cons, List.length_nil, Nat.reduceAdd, Nat.reduceSub]
  refine cw_seq (fun K1 h1 => ?_)
  refine cw_region (lq_run ?_)
  simp (maxSteps := 500000) (decide := true) (disch := omega) only [EV, ↓reduceIte, Nat.reduceAdd, tt116]
  refine lq_nil ?_
  refine h1 _ _ ?_
  refine cw_seq (fun K2 h2 => ?_)
  refine cw_region (lq_run ?_)
  simp (maxSteps := 500000) (decide := true) (disch := omega) only [EV, ↓reduceIte, Nat.reduceAdd, tt116]
  refine lq_load H rfl ?_
  simp (maxSteps := 500000) (decide := true) (disch := omega) only [EV, ↓reduceIte, Nat.reduceAdd, tt116]
  refine lq_nil ?_
  refine h2 _ _ ?_
  refine cw_ret ?_
  try simp (decide := true) only [EX, ↓reduceIte]
  refine ret1 rfl ?_
  exact ⟨rfl, H⟩
theorem ixI_ok {ao : Option Addr} {n c : Nat} {xs : List Int} {x : Int} {bx : Nat} {F : List HP} {w : World} (H : Own (Ce bx ([.int .u64 x], 43) :: F) w) (hR : Ent F (Row ao encI xs)) (hn : n = xs.length) (hb : xs.length ≤ 1099511627776) :
  Cl Tryz.prog 166 #[.slice ao n c, .func (.func 116) #[] #[.pointer (some ⟨bx, 0, none⟩)]] w fun v w' => ∃ k : Int, v = .int .i64 k ∧ ((k = -1 ∧ ¬ x ∈ xs) ∨ (∃ d r, xs = d ++ x :: r ∧ ¬ x ∈ d ∧ k = (d.length : Nat))) ∧ Own (Ce bx ([.int .u64 x], 43) :: F) w' := by
  subst hn
  refine cl_of_cw Tryz.func166 rfl ?_
  simp only [Tryz.ntmps166, envA, List.size_toArray, List.length_cons, List.length_nil, Nat.reduceAdd, Nat.reduceSub]
  refine cw_seq (fun K1 h1 => ?_)
  refine cw_region (lq_run ?_)
  simp (maxSteps := 500000) (decide := true) (disch := omega) only [EV, ↓reduceIte, Nat.reduceAdd, tt166]
  refine lq_nil ?_
  refine h1 _ _ ?_
  refine cw_seq (fun K2 h2 => ?_)
  refine cw_seq (fun K3 h3 => ?_)
  refine cw_region (lq_run ?_)
  simp (maxSteps := 500000) (decide := true) (disch := omega) only [EV, ↓reduceIte, Nat.reduceAdd, tt166]
  refine lq_nil ?_
  refine h3 _ _ ?_
  refine cw_block ?_
  refine cw_loopC (X := List Int × List Int) [(0, _), (1, _), (7, _)] (fun q => [(8, .int .i64 (q.1.length : Int))]) (fun q w => xs = q.1 ++ q.2 ∧ ¬ x ∈ q.1 ∧ Own (Ce bx ([.int .u64 x], 43) :: F) w) (fun q => q.2.length) ([], xs) (.c rfl (.c rfl (.c rfl .n))) (.c rfl .n) ⟨rfl, by simp, H⟩ ?_
  rintro ⟨d, r⟩ w ⟨hd, hk, H⟩
  simp only [List.cons_append, List.nil_append]
  simp only at hd hk H ⊢
  refine cw_seq (fun K4 h4 => ?_)
  refine cw_region (lq_run ?_)
  simp (maxSteps := 500000) (decide := true) (disch := omega) only [EV, ↓reduceIte, Nat.reduceAdd, tt166]
  refine lq_nil ?_
  refine h4 _ _ ?_
  refine cw_seq (fun K5 h5 => ?_)
  refine cw_condB rfl (fun c9 => ?_) (fun c9 => ?_)
  · skip
    try simp only [HB] at c9
    obtain ⟨s, r2, rfl, he⟩ := zip_more hd c9
    refine cw_skip ?_
    refine h5 _ _ ?_
    refine cw_seq (fun K6 h6 => ?_)
    refine cw_block ?_
    refine cw_seq (fun K7 h7 => ?_)
    refine cw_region (lq_run ?_)
    simp (maxSteps := 500000) (decide := true) (disch := omega) only [EV, ↓reduceIte, Nat.reduceAdd, tt166]
    refine lq_nil ?_
    refine h7 _ _ ?_
    refine cw_seq (fun K8 h8 => ?_)
    refine cw_region (lq_run ?_)
    simp (maxSteps := 500000) (decide := true) (disch := omega) only [EV, ↓reduceIte, Nat.reduceAdd, tt166]
    refine lq_idx (i' := d.length) H rfl rfl hR (Nat.le_refl _) rfl he ?_
    simp (maxSteps := 500000) (decide := true) (disch := omega) only [EV, ↓reduceIte, Nat.reduceAdd, tt166]
    refine lq_loadE H rfl hR he rfl ?_
    simp (maxSteps := 500000) (decide := true) (disch := omega) only [EV, ↓reduceIte, Nat.reduceAdd, tt166]
    refine lq_callf (f := 116) inferInstance rfl (by simp) rfl ?_
    refine Cl.mono (woCI_ok H) ?_
    rintro _ w ⟨rfl, H⟩
    simp (maxSteps := 500000) (decide := true) (disch := omega) only [EV, ↓reduceIte, Nat.reduceAdd, tt166]
    refine lq_nil ?_
    refine h8 _ _ ?_
    refine cw_condB rfl (fun c16 => ?_) (fun c16 => ?_)
    · skip
      try simp only [HB] at c16
      refine cw_seq (fun K9 h9 => ?_)
      refine cw_region (lq_run ?_)
      simp (maxSteps := 500000) (decide := true) (disch := omega) only [EV, ↓reduceIte, Nat.reduceAdd, tt166]
      refine lq_nil ?_
      refine h9 _ _ ?_
      refine cw_ret ?_
      try simp (decide := true) only [EX, ↓reduceIte]
      refine ret1 rfl ?_
      exact ⟨_, rfl, .inr ⟨d, r2, by rw [hd, c16], hk, rfl⟩, H⟩
    · skip
      try simp only [HB] at c16
      refine cw_skip ?_
      refine h6 _ _ ?_
      refine cw_region (lq_run ?_)
      simp (maxSteps := 500000) (decide := true) (disch := omega) only [EV, ↓reduceIte, Nat.reduceAdd, tt166]
      refine lq_nil ?_
      refine Exists.intro (d ++ [s], r2) ⟨⟨(.c (by show look _ 8 = some (.int .i64 (((d ++ [s]).length : Nat) : Int)); rw [List.length_append]; rfl) .n), (.c rfl (.c rfl (.c rfl .n)))⟩, ⟨by simp [hd], by simp [hk, Ne.symm c16], H⟩, (by simp)⟩
  · skip
    try simp only [HB] at c9
    obtain ⟨rfl, rfl⟩ := zip_done hd c9
    refine cw_exit ?_
    refine h2 _ _ ?_
    refine cw_seq (fun K10 h10 => ?_)
    refine cw_region (lq_run ?_)
    simp (maxSteps := 500000) (decide := true) (disch := omega) only [EV, ↓reduceIte, Nat.reduceAdd, tt166]
    refine lq_nil ?_
    refine h10 _ _ ?_
    refine cw_ret ?_
    try simp (decide := true) only [EX, ↓reduceIte]
    refine ret1 rfl ?_
    exact ⟨_, rfl, .inl ⟨rfl, hk⟩, H⟩
theorem delI_ok {ao : Option Addr} {n c : Nat} {xs : List Int} {x : Int} {bx : Nat} {F : List HP} {w : World} (H : Own (Ce bx ([.int .u64 x], 43) :: Os 43 encI (.slice ao n c) xs :: F) w) (hn : n = xs.length) (hb : xs.length ≤ 1099511627776) :
  Cl Tryz.prog 115 #[.slice ao n c, .func (.func 116) #[] #[.pointer (some ⟨bx, 0, none⟩)]] w fun v w' => ∃ ao' c', v = .slice ao' (fne x xs).length c' ∧ Own (Os 43 encI (.slice ao' (fne x xs).length c') (fne x xs) :: F) w' := by
  subst hn
  refine cl_of_cw Tryz.func115 rfl ?_
  simp only [Tryz.ntmps115, envA, List.size_toArray, List.length_cons, List.length_nil, Nat.reduceAdd, Nat.reduceSub]
  refine cw_seq (fun K1 h1 => ?_)
  refine cw_region (lq_run ?_)
  simp (maxSteps := 500000) (decide := true) (disch := omega) only [EV, ↓reduceIte, Nat.reduceAdd, tt115, Nat.mul_one, Nat.sub_zero]
  refine lq_nil ?_
  refine h1 _ _ ?_
  refine cw_seq (fun K2 h2 => ?_)
  refine cw_region (lq_run ?_)
  simp (maxSteps := 500000) (decide := true) (disch := omega) only [EV, ↓reduceIte, Nat.reduceAdd, tt115, Nat.mul_one, Nat.sub_zero]
  refine lq_call rfl ?_
  refine Cl.mono (ixI_ok H Ent.os rfl hb) ?_
  rintro _ w ⟨k, rfl, hk, H⟩
  simp (maxSteps := 500000) (decide := true) (disch := omega) only [EV, ↓reduceIte, Nat.reduceAdd, tt115, Nat.mul_one, Nat.sub_zero]
  refine lq_nil ?_
  refine h2 _ _ ?_
  refine cw_seq (fun K3 h3 => ?_)
  refine cw_seq (fun K4 h4 => ?_)
  refine cw_region (lq_run ?_)
  simp (maxSteps := 500000) (decide := true) (disch := omega) only [EV, ↓reduceIte, Nat.reduceAdd, tt115, Nat.mul_one, Nat.sub_zero]
  refine lq_nil ?_
  refine h4 _ _ ?_
  refine cw_condB rfl (fun c12 => ?_) (fun c12 => ?_)
  · skip
    try simp only [HB] at c12
    refine cw_seq (fun K5 h5 => ?_)
    refine cw_region (lq_run ?_)
    simp (maxSteps := 500000) (decide := true) (disch := omega) only [EV, ↓reduceIte, Nat.reduceAdd, tt115, Nat.mul_one, Nat.sub_zero]
    refine lq_nil ?_
    refine h5 _ _ ?_
    refine cw_ret ?_
    try simp (decide := true) only [EX, ↓reduceIte]
    refine ret1 rfl ?_
    have hnx : ¬ x ∈ xs := by
      rcases hk with ⟨_, h⟩ | ⟨d, r, _, _, h⟩
      · exact h
      · omega
    have hf : (fne x xs) = xs := fne_no hnx
    rw [hf]; exact ⟨_, _, rfl, H.wk⟩
  · skip
    try simp only [HB] at c12
    obtain ⟨d0, r0, hx0, hnd, rfl⟩ : ∃ d r, xs = d ++ x :: r ∧ ¬ x ∈ d ∧ k = (d.length : Nat) := by
      rcases hk with ⟨h, _⟩ | h
      · exact absurd h c12
      · exact h
    have hf0 : (fne x (d0 ++ [x])) = d0 := by
      rw [fne_append, fne_no hnd, fne_eq]; simp
    obtain ⟨b, cells, rfl, -, hncap, hcl, hct, H⟩ := H.swap.osOpen (by rintro rfl; simp at hx0)
    rw [encI_n, Nat.mul_one] at hcl hct
    rw [encI_flat] at hct
    obtain ⟨rest, rfl⟩ : ∃ rest, cells = xs.map (Value.int .u64) ++ rest := ⟨cells.drop xs.length, by rw [← hct, List.take_append_drop]⟩
    have hlen : xs.length = d0.length + 1 + r0.length := by rw [hx0]; simp; omega
    refine cw_skip ?_
    refine h3 _ _ ?_
    refine cw_seq (fun K6 h6 => ?_)
    refine cw_seq (fun K7 h7 => ?_)
    refine cw_region (lq_run ?_)
    simp (maxSteps := 500000) (decide := true) (disch := omega) only [EV, ↓reduceIte, Nat.reduceAdd, tt115, Nat.mul_one, Nat.sub_zero]
    refine lq_nil ?_
    refine h7 _ _ ?_
    refine cw_block ?_
    refine cw_loopC (X := List Int × List Int × List Value) [(0, _), (1, _), (4, _)] (fun q => [(5, .int .i64 (((fne x q.1).length : Nat) : Int)), (6, .int .i64 (q.1.length : Int))]) (fun q w => xs = q.1 ++ q.2.1 ∧ (fne x q.1).length + q.2.2.length = q.1.length ∧ q.2.2 ≠ [] ∧ Own (Ce b ((fne x q.1).map (Value.int .u64) ++ q.2.2 ++ (q.2.1.map (Value.int .u64) ++ rest), 43) :: Ce bx ([.int .u64 x], 43) :: F) w) (fun q => q.2.1.length) (d0 ++ [x], r0, [.int .u64 x]) (.c rfl (.c rfl (.c rfl .n))) (.c (by rw [hf0]; rfl) (.c (by rw [List.length_append]; rfl) .n)) ⟨by rw [hx0]; simp, by rw [hf0]; simp, by simp, by rw [hf0]; rw [hx0] at H; simpa using H⟩ ?_
    rintro ⟨d, r, B⟩ w ⟨hd, hB, hB0, H⟩
    simp only [List.cons_append, List.nil_append]
    simp only at hd hB hB0 H ⊢
    refine cw_seq (fun K8 h8 => ?_)
    refine cw_seq (fun K9 h9 => ?_)
    refine cw_region (lq_run ?_)
    simp (maxSteps := 500000) (decide := true) (disch := omega) only [EV, ↓reduceIte, Nat.reduceAdd, tt115, Nat.mul_one, Nat.sub_zero]
    refine lq_nil ?_
    refine h9 _ _ ?_
    refine cw_condB rfl (fun c19 => ?_) (fun c19 => ?_)
    · skip
      try simp only [HB] at c19
      obtain ⟨s, r2, rfl, he⟩ := zip_more hd c19
      obtain ⟨u, B2, rfl⟩ : ∃ u B2, B = u :: B2 := by cases B with | nil => exact absurd rfl hB0 | cons u B2 => exact ⟨u, B2, rfl⟩
      have hfl := fne_le x d
      have hdl := congrArg List.length hd
      simp only [List.length_append, List.length_cons] at hdl hB
      rw [List.map_cons, List.cons_append] at H
      refine cw_skip ?_
      refine h8 _ _ ?_
      refine cw_seq (fun K10 h10 => ?_)
      refine cw_block ?_
      refine cw_seq (fun K11 h11 => ?_)
      refine cw_region (lq_run ?_)
      simp (maxSteps := 500000) (decide := true) (disch := omega) only [EV, ↓reduceIte, Nat.reduceAdd, tt115, Nat.mul_one, Nat.sub_zero]
      refine lq_pq (pq_iaddrL rfl rfl ⟨by omega, by omega⟩) rfl ?_
      simp (maxSteps := 500000) (decide := true) (disch := omega) only [EV, ↓reduceIte, Nat.reduceAdd, tt115, Nat.mul_one, Nat.sub_zero]
      refine lq_loadV (.int .u64 s) H rfl (by simp only [ldC, tt115]; exact get_mid _ _ _ _ _ (by simp; omega)) ?_
      simp (maxSteps := 500000) (decide := true) (disch := omega) only [EV, ↓reduceIte, Nat.reduceAdd, tt115, Nat.mul_one, Nat.sub_zero]
      refine lq_nil ?_
      refine h11 _ _ ?_
      refine cw_seq (fun K12 h12 => ?_)
      refine cw_region (lq_run ?_)
      simp (maxSteps := 500000) (decide := true) (disch := omega) only [EV, ↓reduceIte, Nat.reduceAdd, tt115, Nat.mul_one, Nat.sub_zero]
      refine lq_callf (f := 116) inferInstance rfl (by simp) rfl ?_
      refine Cl.mono (woCI_ok H.swap) ?_
      rintro _ w ⟨rfl, H⟩
      replace H := H.swap
      simp (maxSteps := 500000) (decide := true) (disch := omega) only [EV, ↓reduceIte, Nat.reduceAdd, tt115, Nat.mul_one, Nat.sub_zero]
      refine lq_nil ?_
      refine h12 _ _ ?_
      refine cw_condB rfl (fun c29 => ?_) (fun c29 => ?_)
      · skip
        try simp only [HB] at c29
        refine cw_seq (fun K13 h13 => ?_)
        refine cw_region (lq_run ?_)
        simp (maxSteps := 500000) (decide := true) (disch := omega) only [EV, ↓reduceIte, Nat.reduceAdd, tt115, Nat.mul_one, Nat.sub_zero]
        refine lq_pq (pq_iaddrL rfl rfl ⟨by omega, by omega⟩) rfl ?_
        simp (maxSteps := 500000) (decide := true) (disch := omega) only [EV, ↓reduceIte, Nat.reduceAdd, tt115, Nat.mul_one, Nat.sub_zero]
        refine lq_stV ((fne x d).map (Value.int .u64) ++ [.int .u64 s] ++ B2 ++ (.int .u64 s :: (r2.map (Value.int .u64) ++ rest))) H rfl rfl ⟨rfl, (by simp [Value.cells] <;> omega), by simp [Value.cells]; rfl⟩ (by
          have := set_mid ((fne x d).map (Value.int .u64)) u (.int .u64 s) B2 (.int .u64 s :: (r2.map (Value.int .u64) ++ rest))
          simp only [List.length_map] at this
          simp only [Value.cells, setR, Int.toNat_natCast, Nat.mul_one, Nat.zero_add]
          exact this) (fun w H => ?_)
        simp (maxSteps := 500000) (decide := true) (disch := omega) only [EV, ↓reduceIte, Nat.reduceAdd, tt115, Nat.mul_one, Nat.sub_zero]
        refine lq_nil ?_
        refine h13 _ _ ?_
        refine cw_region (lq_run ?_)
        simp (maxSteps := 500000) (decide := true) (disch := omega) only [EV, ↓reduceIte, Nat.reduceAdd, tt115, Nat.mul_one, Nat.sub_zero]
        refine lq_nil ?_
        refine h10 _ _ ?_
        refine cw_region (lq_run ?_)
        simp (maxSteps := 500000) (decide := true) (disch := omega) only [EV, ↓reduceIte, Nat.reduceAdd, tt115, Nat.mul_one, Nat.sub_zero]
        refine lq_nil ?_
        try have hfs : (fne x (d ++ [s])) = (fne x d) ++ [s] := by rw [fne_append, fne_ne c29]
        try have hfx : (fne x (d ++ [s])) = (fne x d) := by rw [c29, fne_append, fne_eq, List.append_nil]
        first
          | exact Exists.intro (d ++ [s], r2, B2 ++ [.int .u64 s]) ⟨⟨(.c (by rw [hfs, List.length_append]; rfl) (.c (by show look _ 6 = some (.int .i64 (((d ++ [s]).length : Nat) : Int)); rw [List.length_append]; rfl) .n)), (.c rfl (.c rfl (.c rfl .n)))⟩, ⟨by simp [hd], by rw [hfs]; simp; omega, by simp, by rw [hfs]; simpa using H⟩, (by simp)⟩
          | exact Exists.intro (d ++ [s], r2, u :: B2 ++ [.int .u64 s]) ⟨⟨(.c (by rw [hfx]; rfl) (.c (by show look _ 6 = some (.int .i64 (((d ++ [s]).length : Nat) : Int)); rw [List.length_append]; rfl) .n)), (.c rfl (.c rfl (.c rfl .n)))⟩, ⟨by simp [hd], by rw [hfx]; simp; omega, by simp, by rw [hfx]; simpa using H⟩, (by simp)⟩
      · skip
        try simp only [HB] at c29
        refine cw_skip ?_
        refine h10 _ _ ?_
        refine cw_region (lq_run ?_)
        simp (maxSteps := 500000) (decide := true) (disch := omega) only [EV, ↓reduceIte, Nat.reduceAdd, tt115, Nat.mul_one, Nat.sub_zero]
        refine lq_nil ?_
        try have hfs : (fne x (d ++ [s])) = (fne x d) ++ [s] := by rw [fne_append, fne_ne c29]
        try have hfx : (fne x (d ++ [s])) = (fne x d) := by rw [c29, fne_append, fne_eq, List.append_nil]
        first
          | exact Exists.intro (d ++ [s], r2, B2 ++ [.int .u64 s]) ⟨⟨(.c (by rw [hfs, List.length_append]; rfl) (.c (by show look _ 6 = some (.int .i64 (((d ++ [s]).length : Nat) : Int)); rw [List.length_append]; rfl) .n)), (.c rfl (.c rfl (.c rfl .n)))⟩, ⟨by simp [hd], by rw [hfs]; simp; omega, by simp, by rw [hfs]; simpa using H⟩, (by simp)⟩
          | exact Exists.intro (d ++ [s], r2, u :: B2 ++ [.int .u64 s]) ⟨⟨(.c (by rw [hfx]; rfl) (.c (by show look _ 6 = some (.int .i64 (((d ++ [s]).length : Nat) : Int)); rw [List.length_append]; rfl) .n)), (.c rfl (.c rfl (.c rfl .n)))⟩, ⟨by simp [hd], by rw [hfx]; simp; omega, by simp, by rw [hfx]; simpa using H⟩, (by simp)⟩
    · skip
      try simp only [HB] at c19
      obtain ⟨rfl, rfl⟩ := zip_done hd c19
      have hBp : 0 < B.length := List.length_pos_iff.2 hB0
      refine cw_exit ?_
      refine h6 _ _ ?_
      refine cw_seq (fun K14 h14 => ?_)
      refine cw_region (lq_run ?_)
      simp (maxSteps := 500000) (decide := true) (disch := omega) only [EV, ↓reduceIte, Nat.reduceAdd, tt115, Nat.mul_one, Nat.sub_zero]
      refine lq_sub (fne x xs).length xs.length (xs.length - (fne x xs).length) rfl ⟨_, _, rfl, rfl⟩ rfl ⟨by omega, by omega, fun _ => by omega⟩ rfl ?_
      rw [subAne (by omega)]
      simp (maxSteps := 500000) (decide := true) (disch := omega) only [EV, ↓reduceIte, Nat.reduceAdd, tt115, Nat.mul_one, Nat.sub_zero]
      refine lq_clear H rfl (by simp; omega) rfl (fun l2 w hl2 ht2 H => ?_)
      simp (maxSteps := 500000) (decide := true) (disch := omega) only [EV, ↓reduceIte, Nat.reduceAdd, tt115, Nat.mul_one, Nat.sub_zero]
      refine lq_nil ?_
      refine h14 _ _ ?_
      refine cw_seq (fun K15 h15 => ?_)
      refine cw_region (lq_run ?_)
      simp (maxSteps := 500000) (decide := true) (disch := omega) only [EV, ↓reduceIte, Nat.reduceAdd, tt115, Nat.mul_one, Nat.sub_zero]
      refine lq_sub 0 (fne x xs).length (fne x xs).length rfl rfl ⟨_, _, rfl, rfl⟩ ⟨by omega, by omega, nofun⟩ rfl ?_
      rw [subA0]
      simp (maxSteps := 500000) (decide := true) (disch := omega) only [EV, ↓reduceIte, Nat.reduceAdd, tt115, Nat.mul_one, Nat.sub_zero]
      refine lq_nil ?_
      refine h15 _ _ ?_
      refine cw_ret ?_
      try simp (decide := true) only [EX, ↓reduceIte]
      refine ret1 rfl ?_
      simp only [List.map_nil, List.nil_append, List.length_append, List.length_map] at hl2 hcl
      exact ⟨_, _, rfl, (H.osMake (n := (fne x xs).length) (c := c) encI (fne x xs) (by rw [hl2, encI_n]; omega) rfl (by omega) (by rw [encI_n, Nat.mul_one, ht2, encI_flat, List.append_assoc]; exact List.take_left' (by simp))).wk⟩
theorem woI_ok {ao : Option Addr} {n c : Nat} {xs : List Int} {x : Int} {F : List HP} {w : World} (H : Own (Os 43 encI (.slice ao n c) xs :: F) w) (hn : n = xs.length) (hb : xs.length ≤ 1099511627776) :
  Cl Tryz.prog 66 #[.slice ao n c, .int .u64 x] w fun v w' => ∃ ao' c', v = .slice ao' (fne x xs).length c' ∧ Own (Os 43 encI (.slice ao' (fne x xs).length c') (fne x xs) :: F) w' := by
  refine cl_of_cw Tryz.func66 rfl ?_
  simp only [Tryz.ntmps66, envA, List.size_toArray, List.length_cons, List.length_nil, Nat.reduceAdd, Nat.reduceSub]
  refine cw_seq (fun K1 h1 => ?_)
  refine cw_region (lq_run ?_)
  simp (maxSteps := 500000) (decide := true) (disch := omega) only [EV, ↓reduceIte, Nat.reduceAdd, tt66]
  refine lq_box H rfl (fun b3 w H => ?_)
  try simp only [ES] at H
  simp (maxSteps := 500000) (decide := true) (disch := omega) only [EV, ↓reduceIte, Nat.reduceAdd, tt66]
  refine lq_nil ?_
  refine h1 _ _ ?_
  refine cw_seq (fun K2 h2 => ?_)
  refine cw_region (lq_run ?_)
  simp (maxSteps := 500000) (decide := true) (disch := omega) only [EV, ↓reduceIte, Nat.reduceAdd, tt66]
  refine lq_call rfl ?_
  refine Cl.mono (delI_ok H hn hb) ?_
  rintro _ w ⟨ao', c', rfl, H⟩
  simp (maxSteps := 500000) (decide := true) (disch := omega) only [EV, ↓reduceIte, Nat.reduceAdd, tt66]
  refine lq_nil ?_
  refine h2 _ _ ?_
  refine cw_ret ?_
  try simp (decide := true) only [EX, ↓reduceIte]
  refine ret1 rfl ?_
  exact ⟨ao', c', rfl, H⟩
theorem woCS_ok {x y : ByteArray} {bx : Nat} {F : List HP} {w : World} (H : Own (Ce bx ([.string x], 9) :: F) w) :
  Cl Tryz.prog 118 #[.string y, .pointer (some ⟨bx, 0, none⟩)] w fun v w' => v = .bool (decide (y = x)) ∧ Own (Ce bx ([.string x], 9) :: F) w' := by
  refine cl_of_cw Tryz.func118 rfl ?_
  simp only [Tryz.ntmps118, envA, List.size_toArray, List.length_cons, List.length_nil, Nat.reduceAdd, Nat.reduceSub]
  refine cw_seq (fun K1 h1 => ?_)
  refine cw_region (lq_run ?_)
  simp (maxSteps := 500000) (decide := true) (disch := omega) only [EV, ↓reduceIte, Nat.reduceAdd, tt118]
  refine lq_nil ?_
  refine h1 _ _ ?_
  refine cw_seq (fun K2 h2 => ?_)
  refine cw_region (lq_run ?_)
  simp (maxSteps := 500000) (decide := true) (disch := omega) only [EV, ↓reduceIte, Nat.reduceAdd, tt118]
  refine lq_load H rfl ?_
  simp (maxSteps := 500000) (decide := true) (disch := omega) only [EV, ↓reduceIte, Nat.reduceAdd, tt118]
  refine lq_nil ?_
  refine h2 _ _ ?_
  refine cw_ret ?_
  try simp (decide := true) only [EX, ↓reduceIte]
  refine ret1 rfl ?_
  exact ⟨rfl, H⟩
theorem ixS_ok {ao : Option Addr} {n c : Nat} {xs : List ByteArray} {x : ByteArray} {bx : Nat} {F : List HP} {w : World} (H : Own (Ce bx ([.string x], 9) :: F) w) (hR : Ent F (Row ao encS xs)) (hn : n = xs.length) (hb : xs.length ≤ 1099511627776) :
  Cl Tryz.prog 167 #[.slice ao n c, .func (.func 118) #[] #[.pointer (some ⟨bx, 0, none⟩)]] w fun v w' => ∃ k : Int, v = .int .i64 k ∧ ((k = -1 ∧ ¬ x ∈ xs) ∨ (∃ d r, xs = d ++ x :: r ∧ ¬ x ∈ d ∧ k = (d.length : Nat))) ∧ Own (Ce bx ([.string x], 9) :: F) w' := by
  subst hn
  refine cl_of_cw Tryz.func167 rfl ?_
  simp only [Tryz.ntmps167, envA, List.size_toArray, List.length_cons, List.length_nil, Nat.reduceAdd, Nat.reduceSub]
  refine cw_seq (fun K1 h1 => ?_)
  refine cw_region (lq_run ?_)
  simp (maxSteps := 500000) (decide := true) (disch := omega) only [EV, ↓reduceIte, Nat.reduceAdd, tt167]
  refine lq_nil ?_
  refine h1 _ _ ?_
  refine cw_seq (fun K2 h2 => ?_)
  refine cw_seq (fun K3 h3 => ?_)
  refine cw_region (lq_run ?_)
  simp (maxSteps := 500000) (decide := true) (disch := omega) only [EV, ↓reduceIte, Nat.reduceAdd, tt167]
  refine lq_nil ?_
  refine h3 _ _ ?_
  refine cw_block ?_
  refine cw_loopC (X := List ByteArray × List ByteArray) [(0, _), (1, _), (7, _)] (fun q => [(8, .int .i64 (q.1.length : Int))]) (fun q w => xs = q.1 ++ q.2 ∧ ¬ x ∈ q.1 ∧ Own (Ce bx ([.string x], 9) :: F) w) (fun q => q.2.length) ([], xs) (.c rfl (.c rfl (.c rfl .n))) (.c rfl .n) ⟨rfl, by simp, H⟩ ?_
  rintro ⟨d, r⟩ w ⟨hd, hk, H⟩
  simp only [List.cons_append, List.nil_append]
  simp only at hd hk H ⊢
  refine cw_seq (fun K4 h4 => ?_)
  refine cw_region (lq_run ?_)
  simp (maxSteps := 500000) (decide := true) (disch := omega) only [EV, ↓reduceIte, Nat.reduceAdd, tt167]
  refine lq_nil ?_
  refine h4 _ _ ?_
  refine cw_seq (fun K5 h5 => ?_)
  refine cw_condB rfl (fun c9 => ?_) (fun c9 => ?_)
  · skip
    try simp only [HB] at c9
    obtain ⟨s, r2, rfl, he⟩ := zip_more hd c9
    refine cw_skip ?_
    refine h5 _ _ ?_
    refine cw_seq (fun K6 h6 => ?_)
    refine cw_block ?_
    refine cw_seq (fun K7 h7 => ?_)
    refine cw_region (lq_run ?_)
    simp (maxSteps := 500000) (decide := true) (disch := omega) only [EV, ↓reduceIte, Nat.reduceAdd, tt167]
    refine lq_nil ?_
    refine h7 _ _ ?_
    refine cw_seq (fun K8 h8 => ?_)
    refine cw_region (lq_run ?_)
    simp (maxSteps := 500000) (decide := true) (disch := omega) only [EV, ↓reduceIte, Nat.reduceAdd, tt167]
    refine lq_idx (i' := d.length) H rfl rfl hR (Nat.le_refl _) rfl he ?_
    simp (maxSteps := 500000) (decide := true) (disch := omega) only [EV, ↓reduceIte, Nat.reduceAdd, tt167]
    refine lq_loadE H rfl hR he rfl ?_
    simp (maxSteps := 500000) (decide := true) (disch := omega) only [EV, ↓reduceIte, Nat.reduceAdd, tt167]
    refine lq_callf (f := 118) inferInstance rfl (by simp) rfl ?_
    refine Cl.mono (woCS_ok H) ?_
    rintro _ w ⟨rfl, H⟩
    simp (maxSteps := 500000) (decide := true) (disch := omega) only [EV, ↓reduceIte, Nat.reduceAdd, tt167]
    refine lq_nil ?_
    refine h8 _ _ ?_
    refine cw_condB rfl (fun c16 => ?_) (fun c16 => ?_)
    · skip
      try simp only [HB] at c16
      refine cw_seq (fun K9 h9 => ?_)
      refine cw_region (lq_run ?_)
      simp (maxSteps := 500000) (decide := true) (disch := omega) only [EV, ↓reduceIte, Nat.reduceAdd, tt167]
      refine lq_nil ?_
      refine h9 _ _ ?_
      refine cw_ret ?_
      try simp (decide := true) only [EX, ↓reduceIte]
      refine ret1 rfl ?_
      exact ⟨_, rfl, .inr ⟨d, r2, by rw [hd, c16], hk, rfl⟩, H⟩
    · skip
      try simp only [HB] at c16
      refine cw_skip ?_
      refine h6 _ _ ?_
      refine cw_region (lq_run ?_)
      simp (maxSteps := 500000) (decide := true) (disch := omega) only [EV, ↓reduceIte, Nat.reduceAdd, tt167]
      refine lq_nil ?_
      refine Exists.intro (d ++ [s], r2) ⟨⟨(.c (by show look _ 8 = some (.int .i64 (((d ++ [s]).length : Nat) : Int)); rw [List.length_append]; rfl) .n), (.c rfl (.c rfl (.c rfl .n)))⟩, ⟨by simp [hd], by simp [hk, Ne.symm c16], H⟩, (by simp)⟩
  · skip
    try simp only [HB] at c9
    obtain ⟨rfl, rfl⟩ := zip_done hd c9
    refine cw_exit ?_
    refine h2 _ _ ?_
    refine cw_seq (fun K10 h10 => ?_)
    refine cw_region (lq_run ?_)
    simp (maxSteps := 500000) (decide := true) (disch := omega) only [EV, ↓reduceIte, Nat.reduceAdd, tt167]
    refine lq_nil ?_
    refine h10 _ _ ?_
    refine cw_ret ?_
    try simp (decide := true) only [EX, ↓reduceIte]
    refine ret1 rfl ?_
    exact ⟨_, rfl, .inl ⟨rfl, hk⟩, H⟩
theorem delS_ok {ao : Option Addr} {n c : Nat} {xs : List ByteArray} {x : ByteArray} {bx : Nat} {F : List HP} {w : World} (H : Own (Ce bx ([.string x], 9) :: Os 9 encS (.slice ao n c) xs :: F) w) (hn : n = xs.length) (hb : xs.length ≤ 1099511627776) :
  Cl Tryz.prog 117 #[.slice ao n c, .func (.func 118) #[] #[.pointer (some ⟨bx, 0, none⟩)]] w fun v w' => ∃ ao' c', v = .slice ao' (fne x xs).length c' ∧ Own (Os 9 encS (.slice ao' (fne x xs).length c') (fne x xs) :: F) w' := by
  subst hn
  refine cl_of_cw Tryz.func117 rfl ?_
  simp only [Tryz.ntmps117, envA, List.size_toArray, List.length_cons, List.length_nil, Nat.reduceAdd, Nat.reduceSub]
  refine cw_seq (fun K1 h1 => ?_)
  refine cw_region (lq_run ?_)
  simp (maxSteps := 500000) (decide := true) (disch := omega) only [EV, ↓reduceIte, Nat.reduceAdd, tt117, Nat.mul_one, Nat.sub_zero]
  refine lq_nil ?_
  refine h1 _ _ ?_
  refine cw_seq (fun K2 h2 => ?_)
  refine cw_region (lq_run ?_)
  simp (maxSteps := 500000) (decide := true) (disch := omega) only [EV, ↓reduceIte, Nat.reduceAdd, tt117, Nat.mul_one, Nat.sub_zero]
  refine lq_call rfl ?_
  refine Cl.mono (ixS_ok H Ent.os rfl hb) ?_
  rintro _ w ⟨k, rfl, hk, H⟩
  simp (maxSteps := 500000) (decide := true) (disch := omega) only [EV, ↓reduceIte, Nat.reduceAdd, tt117, Nat.mul_one, Nat.sub_zero]
  refine lq_nil ?_
  refine h2 _ _ ?_
  refine cw_seq (fun K3 h3 => ?_)
  refine cw_seq (fun K4 h4 => ?_)
  refine cw_region (lq_run ?_)
  simp (maxSteps := 500000) (decide := true) (disch := omega) only [EV, ↓reduceIte, Nat.reduceAdd, tt117, Nat.mul_one, Nat.sub_zero]
  refine lq_nil ?_
  refine h4 _ _ ?_
  refine cw_condB rfl (fun c12 => ?_) (fun c12 => ?_)
  · skip
    try simp only [HB] at c12
    refine cw_seq (fun K5 h5 => ?_)
    refine cw_region (lq_run ?_)
    simp (maxSteps := 500000) (decide := true) (disch := omega) only [EV, ↓reduceIte, Nat.reduceAdd, tt117, Nat.mul_one, Nat.sub_zero]
    refine lq_nil ?_
    refine h5 _ _ ?_
    refine cw_ret ?_
    try simp (decide := true) only [EX, ↓reduceIte]
    refine ret1 rfl ?_
    have hnx : ¬ x ∈ xs := by
      rcases hk with ⟨_, h⟩ | ⟨d, r, _, _, h⟩
      · exact h
      · omega
    have hf : (fne x xs) = xs := fne_no hnx
    rw [hf]; exact ⟨_, _, rfl, H.wk⟩
  · skip
    try simp only [HB] at c12
    obtain ⟨d0, r0, hx0, hnd, rfl⟩ : ∃ d r, xs = d ++ x :: r ∧ ¬ x ∈ d ∧ k = (d.length : Nat) := by
      rcases hk with ⟨h, _⟩ | h
      · exact absurd h c12
      · exact h
    have hf0 : (fne x (d0 ++ [x])) = d0 := by
      rw [fne_append, fne_no hnd, fne_eq]; simp
    obtain ⟨b, cells, rfl, -, hncap, hcl, hct, H⟩ := H.swap.osOpen (by rintro rfl; simp at hx0)
    rw [encS_n, Nat.mul_one] at hcl hct
    rw [encS_flat] at hct
    obtain ⟨rest, rfl⟩ : ∃ rest, cells = xs.map (Value.string) ++ rest := ⟨cells.drop xs.length, by rw [← hct, List.take_append_drop]⟩
    have hlen : xs.length = d0.length + 1 + r0.length := by rw [hx0]; simp; omega
    refine cw_skip ?_
    refine h3 _ _ ?_
    refine cw_seq (fun K6 h6 => ?_)
    refine cw_seq (fun K7 h7 => ?_)
    refine cw_region (lq_run ?_)
    simp (maxSteps := 500000) (decide := true) (disch := omega) only [EV, ↓reduceIte, Nat.reduceAdd, tt117, Nat.mul_one, Nat.sub_zero]
    refine lq_nil ?_
    refine h7 _ _ ?_
    refine cw_block ?_
    refine cw_loopC (X := List ByteArray × List ByteArray × List Value) [(0, _), (1, _), (4, _)] (fun q => [(5, .int .i64 (((fne x q.1).length : Nat) : Int)), (6, .int .i64 (q.1.length : Int))]) (fun q w => xs = q.1 ++ q.2.1 ∧ (fne x q.1).length + q.2.2.length = q.1.length ∧ q.2.2 ≠ [] ∧ Own (Ce b ((fne x q.1).map (Value.string) ++ q.2.2 ++ (q.2.1.map (Value.string) ++ rest), 9) :: Ce bx ([.string x], 9) :: F) w) (fun q => q.2.1.length) (d0 ++ [x], r0, [.string x]) (.c rfl (.c rfl (.c rfl .n))) (.c (by rw [hf0]; rfl) (.c (by rw [List.length_append]; rfl) .n)) ⟨by rw [hx0]; simp, by rw [hf0]; simp, by simp, by rw [hf0]; rw [hx0] at H; simpa using H⟩ ?_
    rintro ⟨d, r, B⟩ w ⟨hd, hB, hB0, H⟩
    simp only [List.cons_append, List.nil_append]
    simp only at hd hB hB0 H ⊢
    refine cw_seq (fun K8 h8 => ?_)
    refine cw_seq (fun K9 h9 => ?_)
    refine cw_region (lq_run ?_)
    simp (maxSteps := 500000) (decide := true) (disch := omega) only [EV, ↓reduceIte, Nat.reduceAdd, tt117, Nat.mul_one, Nat.sub_zero]
    refine lq_nil ?_
    refine h9 _ _ ?_
    refine cw_condB rfl (fun c19 => ?_) (fun c19 => ?_)
    · skip
      try simp only [HB] at c19
      obtain ⟨s, r2, rfl, he⟩ := zip_more hd c19
      obtain ⟨u, B2, rfl⟩ : ∃ u B2, B = u :: B2 := by cases B with | nil => exact absurd rfl hB0 | cons u B2 => exact ⟨u, B2, rfl⟩
      have hfl := fne_le x d
      have hdl := congrArg List.length hd
      simp only [List.length_append, List.length_cons] at hdl hB
      rw [List.map_cons, List.cons_append] at H
      refine cw_skip ?_
      refine h8 _ _ ?_
      refine cw_seq (fun K10 h10 => ?_)
      refine cw_block ?_
      refine cw_seq (fun K11 h11 => ?_)
      refine cw_region (lq_run ?_)
      simp (maxSteps := 500000) (decide := true) (disch := omega) only [EV, ↓reduceIte, Nat.reduceAdd, tt117, Nat.mul_one, Nat.sub_zero]
      refine lq_pq (pq_iaddrL rfl rfl ⟨by omega, by omega⟩) rfl ?_
      simp (maxSteps := 500000) (decide := true) (disch := omega) only [EV, ↓reduceIte, Nat.reduceAdd, tt117, Nat.mul_one, Nat.sub_zero]
      refine lq_loadV (.string s) H rfl (by simp only [ldC, tt117]; exact get_mid _ _ _ _ _ (by simp; omega)) ?_
      simp (maxSteps := 500000) (decide := true) (disch := omega) only [EV, ↓reduceIte, Nat.reduceAdd, tt117, Nat.mul_one, Nat.sub_zero]
      refine lq_nil ?_
      refine h11 _ _ ?_
      refine cw_seq (fun K12 h12 => ?_)
      refine cw_region (lq_run ?_)
      simp (maxSteps := 500000) (decide := true) (disch := omega) only [EV, ↓reduceIte, Nat.reduceAdd, tt117, Nat.mul_one, Nat.sub_zero]
      refine lq_callf (f := 118) inferInstance rfl (by simp) rfl ?_
      refine Cl.mono (woCS_ok H.swap) ?_
      rintro _ w ⟨rfl, H⟩
      replace H := H.swap
      simp (maxSteps := 500000) (decide := true) (disch := omega) only [EV, ↓reduceIte, Nat.reduceAdd, tt117, Nat.mul_one, Nat.sub_zero]
      refine lq_nil ?_
      refine h12 _ _ ?_
      refine cw_condB rfl (fun c29 => ?_) (fun c29 => ?_)
      · skip
        try simp only [HB] at c29
        refine cw_seq (fun K13 h13 => ?_)
        refine cw_region (lq_run ?_)
        simp (maxSteps := 500000) (decide := true) (disch := omega) only [EV, ↓reduceIte, Nat.reduceAdd, tt117, Nat.mul_one, Nat.sub_zero]
        refine lq_pq (pq_iaddrL rfl rfl ⟨by omega, by omega⟩) rfl ?_
        simp (maxSteps := 500000) (decide := true) (disch := omega) only [EV, ↓reduceIte, Nat.reduceAdd, tt117, Nat.mul_one, Nat.sub_zero]
        refine lq_stV ((fne x d).map (Value.string) ++ [.string s] ++ B2 ++ (.string s :: (r2.map (Value.string) ++ rest))) H rfl rfl ⟨rfl, (by simp [Value.cells] <;> omega), by simp [Value.cells]; rfl⟩ (by
          have := set_mid ((fne x d).map (Value.string)) u (.string s) B2 (.string s :: (r2.map (Value.string) ++ rest))
          simp only [List.length_map] at this
          simp only [Value.cells, setR, Int.toNat_natCast, Nat.mul_one, Nat.zero_add]
          exact this) (fun w H => ?_)
        simp (maxSteps := 500000) (decide := true) (disch := omega) only [EV, ↓reduceIte, Nat.reduceAdd, tt117, Nat.mul_one, Nat.sub_zero]
        refine lq_nil ?_
        refine h13 _ _ ?_
        refine cw_region (lq_run ?_)
        simp (maxSteps := 500000) (decide := true) (disch := omega) only [EV, ↓reduceIte, Nat.reduceAdd, tt117, Nat.mul_one, Nat.sub_zero]
        refine lq_nil ?_
        refine h10 _ _ ?_
        refine cw_region (lq_run ?_)
        simp (maxSteps := 500000) (decide := true) (disch := omega) only [EV, ↓reduceIte, Nat.reduceAdd, tt117, Nat.mul_one, Nat.sub_zero]
        refine lq_nil ?_
        try have hfs : (fne x (d ++ [s])) = (fne x d) ++ [s] := by rw [fne_append, fne_ne c29]
        try have hfx : (fne x (d ++ [s])) = (fne x d) := by rw [c29, fne_append, fne_eq, List.append_nil]
        first
          | exact Exists.intro (d ++ [s], r2, B2 ++ [.string s]) ⟨⟨(.c (by rw [hfs, List.length_append]; rfl) (.c (by show look _ 6 = some (.int .i64 (((d ++ [s]).length : Nat) : Int)); rw [List.length_append]; rfl) .n)), (.c rfl (.c rfl (.c rfl .n)))⟩, ⟨by simp [hd], by rw [hfs]; simp; omega, by simp, by rw [hfs]; simpa using H⟩, (by simp)⟩
          | exact Exists.intro (d ++ [s], r2, u :: B2 ++ [.string s]) ⟨⟨(.c (by rw [hfx]; rfl) (.c (by show look _ 6 = some (.int .i64 (((d ++ [s]).length : Nat) : Int)); rw [List.length_append]; rfl) .n)), (.c rfl (.c rfl (.c rfl .n)))⟩, ⟨by simp [hd], by rw [hfx]; simp; omega, by simp, by rw [hfx]; simpa using H⟩, (by simp)⟩
      · skip
        try simp only [HB] at c29
        refine cw_skip ?_
        refine h10 _ _ ?_
        refine cw_region (lq_run ?_)
        simp (maxSteps := 500000) (decide := true) (disch := omega) only [EV, ↓reduceIte, Nat.reduceAdd, tt117, Nat.mul_one, Nat.sub_zero]
        refine lq_nil ?_
        try have hfs : (fne x (d ++ [s])) = (fne x d) ++ [s] := by rw [fne_append, fne_ne c29]
        try have hfx : (fne x (d ++ [s])) = (fne x d) := by rw [c29, fne_append, fne_eq, List.append_nil]
        first
          | exact Exists.intro (d ++ [s], r2, B2 ++ [.string s]) ⟨⟨(.c (by rw [hfs, List.length_append]; rfl) (.c (by show look _ 6 = some (.int .i64 (((d ++ [s]).length : Nat) : Int)); rw [List.length_append]; rfl) .n)), (.c rfl (.c rfl (.c rfl .n)))⟩, ⟨by simp [hd], by rw [hfs]; simp; omega, by simp, by rw [hfs]; simpa using H⟩, (by simp)⟩
          | exact Exists.intro (d ++ [s], r2, u :: B2 ++ [.string s]) ⟨⟨(.c (by rw [hfx]; rfl) (.c (by show look _ 6 = some (.int .i64 (((d ++ [s]).length : Nat) : Int)); rw [List.length_append]; rfl) .n)), (.c rfl (.c rfl (.c rfl .n)))⟩, ⟨by simp [hd], by rw [hfx]; simp; omega, by simp, by rw [hfx]; simpa using H⟩, (by simp)⟩
    · skip
      try simp only [HB] at c19
      obtain ⟨rfl, rfl⟩ := zip_done hd c19
      have hBp : 0 < B.length := List.length_pos_iff.2 hB0
      refine cw_exit ?_
      refine h6 _ _ ?_
      refine cw_seq (fun K14 h14 => ?_)
      refine cw_region (lq_run ?_)
      simp (maxSteps := 500000) (decide := true) (disch := omega) only [EV, ↓reduceIte, Nat.reduceAdd, tt117, Nat.mul_one, Nat.sub_zero]
      refine lq_sub (fne x xs).length xs.length (xs.length - (fne x xs).length) rfl ⟨_, _, rfl, rfl⟩ rfl ⟨by omega, by omega, fun _ => by omega⟩ rfl ?_
      rw [subAne (by omega)]
      simp (maxSteps := 500000) (decide := true) (disch := omega) only [EV, ↓reduceIte, Nat.reduceAdd, tt117, Nat.mul_one, Nat.sub_zero]
      refine lq_clear H rfl (by simp; omega) rfl (fun l2 w hl2 ht2 H => ?_)
      simp (maxSteps := 500000) (decide := true) (disch := omega) only [EV, ↓reduceIte, Nat.reduceAdd, tt117, Nat.mul_one, Nat.sub_zero]
      refine lq_nil ?_
      refine h14 _ _ ?_
      refine cw_seq (fun K15 h15 => ?_)
      refine cw_region (lq_run ?_)
      simp (maxSteps := 500000) (decide := true) (disch := omega) only [EV, ↓reduceIte, Nat.reduceAdd, tt117, Nat.mul_one, Nat.sub_zero]
      refine lq_sub 0 (fne x xs).length (fne x xs).length rfl rfl ⟨_, _, rfl, rfl⟩ ⟨by omega, by omega, nofun⟩ rfl ?_
      rw [subA0]
      simp (maxSteps := 500000) (decide := true) (disch := omega) only [EV, ↓reduceIte, Nat.reduceAdd, tt117, Nat.mul_one, Nat.sub_zero]
      refine lq_nil ?_
      refine h15 _ _ ?_
      refine cw_ret ?_
      try simp (decide := true) only [EX, ↓reduceIte]
      refine ret1 rfl ?_
      simp only [List.map_nil, List.nil_append, List.length_append, List.length_map] at hl2 hcl
      exact ⟨_, _, rfl, (H.osMake (n := (fne x xs).length) (c := c) encS (fne x xs) (by rw [hl2, encS_n]; omega) rfl (by omega) (by rw [encS_n, Nat.mul_one, ht2, encS_flat, List.append_assoc]; exact List.take_left' (by simp))).wk⟩
theorem woS_ok {ao : Option Addr} {n c : Nat} {xs : List ByteArray} {x : ByteArray} {F : List HP} {w : World} (H : Own (Os 9 encS (.slice ao n c) xs :: F) w) (hn : n = xs.length) (hb : xs.length ≤ 1099511627776) :
  Cl Tryz.prog 67 #[.slice ao n c, .string x] w fun v w' => ∃ ao' c', v = .slice ao' (fne x xs).length c' ∧ Own (Os 9 encS (.slice ao' (fne x xs).length c') (fne x xs) :: F) w' := by
  refine cl_of_cw Tryz.func67 rfl ?_
  simp only [Tryz.ntmps67, envA, List.size_toArray, List.length_cons, List.length_nil, Nat.reduceAdd, Nat.reduceSub]
  refine cw_seq (fun K1 h1 => ?_)
  refine cw_region (lq_run ?_)
  simp (maxSteps := 500000) (decide := true) (disch := omega) only [EV, ↓reduceIte, Nat.reduceAdd, tt67]
  refine lq_box H rfl (fun b3 w H => ?_)
  try simp only [ES] at H
  simp (maxSteps := 500000) (decide := true) (disch := omega) only [EV, ↓reduceIte, Nat.reduceAdd, tt67]
  refine lq_nil ?_
  refine h1 _ _ ?_
  refine cw_seq (fun K2 h2 => ?_)
  refine cw_region (lq_run ?_)
  simp (maxSteps := 500000) (decide := true) (disch := omega) only [EV, ↓reduceIte, Nat.reduceAdd, tt67]
  refine lq_call rfl ?_
  refine Cl.mono (delS_ok H hn hb) ?_
  rintro _ w ⟨ao', c', rfl, H⟩
  simp (maxSteps := 500000) (decide := true) (disch := omega) only [EV, ↓reduceIte, Nat.reduceAdd, tt67]
  refine lq_nil ?_
  refine h2 _ _ ?_
  refine cw_ret ?_
  try simp (decide := true) only [EX, ↓reduceIte]
  refine ret1 rfl ?_
  exact ⟨ao', c', rfl, H⟩
end Go.Rp
