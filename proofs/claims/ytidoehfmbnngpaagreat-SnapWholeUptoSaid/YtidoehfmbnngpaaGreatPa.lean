/-
  pack: writing and reading.
-/
import Derived.Test.YtidoehfmbnngpaaGreatProg
import Derived.Laws.Bits64b
import Derived.Test.YtidoehfmbnngpaaGreatLc
set_option linter.unusedVariables false
set_option linter.unusedSimpArgs false
set_option maxHeartbeats 1000000
set_option maxRecDepth 100000
namespace Go.Rp
open Go.Proofs
instance iW1_0 : ElT Tryz.prog 5 1 := ElT.mk' (by kernel_rfl)
instance iW1_1 : ElT Tryz.prog 9 1 := ElT.mk' (by kernel_rfl)
instance iW1_2 : FnOk Tryz.prog 100 := ⟨⟨Tryz.f100, Tryz.func100, by kernel_rfl, by kernel_rfl⟩⟩
instance iW1_3 : FnOk Tryz.prog 101 := ⟨⟨Tryz.f101, Tryz.func101, by kernel_rfl, by kernel_rfl⟩⟩
instance iW1_4 : FnOk Tryz.prog 51 := ⟨⟨Tryz.f51, Tryz.func51, by kernel_rfl, by kernel_rfl⟩⟩
instance iW1_5 : SlT Tryz.prog 23 5 := ⟨by kernel_rfl⟩
instance iW1_6 : SlT Tryz.prog 44 9 := ⟨by kernel_rfl⟩
instance iW1_7 : StT Tryz.prog 9 := ⟨by kernel_rfl⟩
instance iW1_8 : SzT Tryz.prog 23 1 := ⟨by kernel_rfl⟩
instance iW1_9 : SzT Tryz.prog 26 1 := ⟨by kernel_rfl⟩
theorem tt100 : (AG Tryz.prog 23 = some false) ∧ (AG Tryz.prog 26 = some false) ∧ (AG Tryz.prog 3 = some false) ∧ (FO Tryz.prog 188 0 = some 0) ∧ (FO Tryz.prog 188 1 = some 1) ∧ (FO Tryz.prog 188 2 = some 2) ∧ (LK Tryz.prog 23 = some 1) := ⟨by kernel_rfl, by kernel_rfl, by kernel_rfl, by kernel_rfl, by kernel_rfl, by kernel_rfl, by kernel_rfl⟩
theorem tt101 : (AG Tryz.prog 23 = some false) ∧ (FO Tryz.prog 188 1 = some 1) ∧ (IKn Tryz.prog 42 = some .u64) ∧ (IKn Tryz.prog 5 = some .u8) := ⟨by kernel_rfl, by kernel_rfl, by kernel_rfl, by kernel_rfl⟩
theorem tt49 : (IKn Tryz.prog 42 = some .u64) ∧ (IKn Tryz.prog 5 = some .u8) := ⟨by kernel_rfl, by kernel_rfl⟩
theorem tt48 : (IKn Tryz.prog 42 = some .u64) ∧ (IKn Tryz.prog 89 = some .u32) := ⟨by kernel_rfl, by kernel_rfl⟩
theorem tt50 : (True) := trivial
theorem tt51 : (AG Tryz.prog 23 = some false) ∧ (FO Tryz.prog 188 1 = some 1) ∧ (IKn Tryz.prog 3 = some .i64) ∧ (IKn Tryz.prog 42 = some .u64) ∧ (LK Tryz.prog 9 = some 0) := ⟨by kernel_rfl, by kernel_rfl, by kernel_rfl, by kernel_rfl, by kernel_rfl⟩
theorem tt52 : (AG Tryz.prog 9 = some false) ∧ (IKn Tryz.prog 3 = some .i64) ∧ (IKn Tryz.prog 42 = some .u64) ∧ (LK Tryz.prog 44 = some 1) ∧ (LK Tryz.prog 9 = some 0) := ⟨by kernel_rfl, by kernel_rfl, by kernel_rfl, by kernel_rfl, by kernel_rfl⟩

def Wr (p : Nat) (x : Int × List UInt8 × Int) : HP := fun h => ∃ ao c, Sep [Ce p ([.int .i64 x.1, .slice ao x.2.1.length c, .int .i64 x.2.2], 188), Os 5 encB (.slice ao x.2.1.length c) x.2.1] h
theorem Own.wrO {p : Nat} {x : Int × List UInt8 × Int} {L : List HP} {w : World} (H : Own (Wr p x :: L) w) : ∃ ao c, Own (Ce p ([.int .i64 x.1, .slice ao x.2.1.length c, .int .i64 x.2.2], 188) :: Os 5 encB (.slice ao x.2.1.length c) x.2.1 :: L) w := by
  obtain ⟨ao, H⟩ := Sep.ex.1 H
  obtain ⟨c, H⟩ := Sep.ex.1 H
  exact ⟨ao, c, Sep.flat.1 H⟩
theorem Own.wrC {p : Nat} {lim e : Int} {out : List UInt8} {n c : Nat} {ao : Option Addr} {L M : List HP} {w : World} (H : Own L w) [t : TkC p L [.int .i64 lim, .slice ao n c, .int .i64 e] 188 M] {M' : List HP} [u : TkR (Os 5 encB) (.slice ao n c) M out M'] : Own (Wr p (lim, out, e) :: M') w := by
  have H1 := t.out _ H
  have H2 := Sep.under u.out H1
  have hn : n = out.length := by
    obtain ⟨ao', c', e'⟩ := Own.osv (Sep.tl H2)
    cases e'; rfl
  subst hn
  exact Sep.ex.2 ⟨ao, Sep.ex.2 ⟨c, Sep.flat.2 H2⟩⟩
def roomE (lim : Int) (out : List UInt8) (e n : Int) : Int := if e = 0 ∧ lim - out.length < n then 3 else e
def byteI (x : Int) : UInt8 := UInt8.ofNat (x % 256).toNat
theorem wrap_byte (x : Int) : IntKind.u8.wrap x = ((byteI x).toNat : Int) := by
  simp only [IntKind.wrap, IntKind.bits, IntKind.signed, byteI]
  simp
  omega
/-- A number's n bytes, the highest first. -/
def beL (v : Int) : Nat → List UInt8
  | 0 => []
  | i + 1 => byteI (v.fdiv (2 ^ (8 * i))) :: beL v i
theorem beL_length (v : Int) : ∀ n, (beL v n).length = n
  | 0 => rfl
  | n + 1 => by simp [beL, beL_length v n]
def wput (x : Int × List UInt8 × Int) (b : List UInt8) : Int × List UInt8 × Int :=
  if roomE x.1 x.2.1 x.2.2 b.length = 0 then (x.1, x.2.1 ++ b, 0) else (x.1, x.2.1, roomE x.1 x.2.1 x.2.2 b.length)
theorem room_ok {p : Nat} {lim n : Int} {out : List UInt8} {e : Int} {F : List HP} {w : World} (H : Own (Wr p (lim, out, e) :: F) w) (hl : 0 ≤ lim ∧ lim ≤ 4611686018427387904) (ho : out.length ≤ 1099511627776) :
  Cl Tryz.prog 100 #[.pointer (some ⟨p, 0, none⟩), .int .i64 n] w fun v w' => v = .bool (decide (roomE lim out e n = 0)) ∧ Own (Wr p (lim, out, roomE lim out e n) :: F) w' := by
  refine cl_of_cw Tryz.func100 rfl ?_
  simp only [Tryz.ntmps100, envA, List.size_toArray, List.length_cons, List.length_nil, Nat.reduceAdd, Nat.reduceSub]
  obtain ⟨ao, c, H⟩ := H.wrO
  simp only at H
  refine cw_seq (fun K1 h1 => ?_)
  refine cw_region (lq_run ?_)
  simp (maxSteps := 500000) (decide := true) (disch := omega) only [EV, ↓reduceIte, Nat.reduceAdd, tt100]
  refine lq_nil ?_
  refine h1 _ _ ?_
  refine cw_seq (fun K2 h2 => ?_)
  refine cw_seq (fun K3 h3 => ?_)
  refine cw_draw [(0, 0), (1, 0), (2, 0), (3, 1), (4, 0), (5, 0), (6, 0), (7, 0), (8, 0), (9, 0), (10, 1), (11, 0), (12, 0), (13, 0), (14, 1), (15, 0), (16, 0), (17, 0), (18, 0)] rfl (by kernel_rfl) (fun c env w => by simp (decide := true) only [EX, not_false_eq_true]) H (fun w H => ?_)
  have H0 := H
  refine dq_run ?_
  simp (maxSteps := 500000) (decide := true) (disch := omega) only [EV, ↓reduceIte, Nat.reduceAdd, tt100]
  refine dq_load H0 rfl ?_
  simp (maxSteps := 500000) (decide := true) (disch := omega) only [EV, ↓reduceIte, Nat.reduceAdd, tt100]
  refine dq_G (fun g10 => ?_) (fun g10 => ?_)
  · try simp only [HB] at g10
    simp (maxSteps := 500000) (decide := true) (disch := omega) only [EV, ↓reduceIte, Nat.reduceAdd, tt100]
    refine dq_load H0 rfl ?_
    simp (maxSteps := 500000) (decide := true) (disch := omega) only [EV, ↓reduceIte, Nat.reduceAdd, tt100]
    refine dq_load H0 rfl ?_
    simp (maxSteps := 500000) (decide := true) (disch := omega) only [EV, ↓reduceIte, Nat.reduceAdd, tt100]
    refine dq_nil ?_
    refine h3 _ _ ?_
    refine cw_condB rfl (fun c23 => ?_) (fun c23 => ?_)
    · skip
      try simp only [HB] at c23
      refine cw_region (lq_run ?_)
      simp (maxSteps := 500000) (decide := true) (disch := omega) only [EV, ↓reduceIte, Nat.reduceAdd, tt100]
      refine lq_st H rfl rfl rfl (fun w H => ?_)
      try simp only [ES] at H
      simp (maxSteps := 500000) (decide := true) (disch := omega) only [EV, ↓reduceIte, Nat.reduceAdd, tt100]
      refine lq_nil ?_
      refine h2 _ _ ?_
      refine cw_seq (fun K4 h4 => ?_)
      refine cw_region (lq_run ?_)
      simp (maxSteps := 500000) (decide := true) (disch := omega) only [EV, ↓reduceIte, Nat.reduceAdd, tt100]
      refine lq_load H rfl ?_
      simp (maxSteps := 500000) (decide := true) (disch := omega) only [EV, ↓reduceIte, Nat.reduceAdd, tt100]
      refine lq_nil ?_
      refine h4 _ _ ?_
      refine cw_ret ?_
      try simp (decide := true) only [EX, ↓reduceIte]
      refine ret1 rfl ?_
      first
        | (have hr : roomE lim out e n = 3 := if_pos (by omega)
           rw [hr]; exact ⟨by simp, H.wrC⟩)
        | (have hr : roomE lim out e n = e := if_neg (by omega)
           rw [hr]; exact ⟨by simp [g10], H.wrC⟩)
    · skip
      try simp only [HB] at c23
      refine cw_skip ?_
      refine h2 _ _ ?_
      refine cw_seq (fun K5 h5 => ?_)
      refine cw_region (lq_run ?_)
      simp (maxSteps := 500000) (decide := true) (disch := omega) only [EV, ↓reduceIte, Nat.reduceAdd, tt100]
      refine lq_load H rfl ?_
      simp (maxSteps := 500000) (decide := true) (disch := omega) only [EV, ↓reduceIte, Nat.reduceAdd, tt100]
      refine lq_nil ?_
      refine h5 _ _ ?_
      refine cw_ret ?_
      try simp (decide := true) only [EX, ↓reduceIte]
      refine ret1 rfl ?_
      first
        | (have hr : roomE lim out e n = 3 := if_pos (by omega)
           rw [hr]; exact ⟨by simp, H.wrC⟩)
        | (have hr : roomE lim out e n = e := if_neg (by omega)
           rw [hr]; exact ⟨by simp [g10], H.wrC⟩)
  · try simp only [HB] at g10
    simp (maxSteps := 500000) (decide := true) (disch := omega) only [EV, ↓reduceIte, Nat.reduceAdd, tt100]
    refine dq_skip H0 rfl rfl rfl rfl ?_
    simp (maxSteps := 500000) (decide := true) (disch := omega) only [EV, ↓reduceIte, Nat.reduceAdd, tt100]
    refine dq_skip H0 rfl rfl rfl rfl ?_
    simp (maxSteps := 500000) (decide := true) (disch := omega) only [EV, ↓reduceIte, Nat.reduceAdd, tt100]
    refine dq_nil ?_
    refine h3 _ _ ?_
    refine cw_condF rfl ?_
    refine cw_skip ?_
    refine h2 _ _ ?_
    refine cw_seq (fun K6 h6 => ?_)
    refine cw_region (lq_run ?_)
    simp (maxSteps := 500000) (decide := true) (disch := omega) only [EV, ↓reduceIte, Nat.reduceAdd, tt100]
    refine lq_load H rfl ?_
    simp (maxSteps := 500000) (decide := true) (disch := omega) only [EV, ↓reduceIte, Nat.reduceAdd, tt100]
    refine lq_nil ?_
    refine h6 _ _ ?_
    refine cw_ret ?_
    try simp (decide := true) only [EX, ↓reduceIte]
    refine ret1 rfl ?_
    first
      | (have hr : roomE lim out e n = 3 := if_pos (by omega)
         rw [hr]; exact ⟨by simp, H.wrC⟩)
      | (have hr : roomE lim out e n = e := if_neg (by omega)
         rw [hr]; exact ⟨by simp [g10], H.wrC⟩)
theorem wnumber_ok {p : Nat} {lim v : Int} {n : Nat} {out : List UInt8} {e : Int} {F : List HP} {w : World} (H : Own (Wr p (lim, out, e) :: F) w) (hn : n ≤ 8) (ho : out.length + n ≤ 1099511627776) :
  Cl Tryz.prog 101 #[.pointer (some ⟨p, 0, none⟩), .int .u64 v, .int .i64 n] w fun r w' => Own (Wr p (lim, out ++ beL v n, e) :: F) w' := by
  refine cl_of_cw Tryz.func101 rfl ?_
  simp only [Tryz.ntmps101, envA, List.size_toArray, List.length_cons, List.length_nil, Nat.reduceAdd, Nat.reduceSub]
  refine cw_seq (fun K1 h1 => ?_)
  refine cw_region (lq_run ?_)
  simp (maxSteps := 500000) (decide := true) (disch := omega) only [EV, ↓reduceIte, Nat.reduceAdd, tt101]
  refine lq_nil ?_
  refine h1 _ _ ?_
  refine cw_block ?_
  refine cw_loopC (X := Nat × List UInt8) [(0, _), (1, _)] (fun x => [(6, .int .i64 ((x.1 : Int) - 1))]) (fun x w => x.2 ++ beL v x.1 = beL v n ∧ x.1 ≤ n ∧ Own (Wr p (lim, out ++ x.2, e) :: F) w) (fun x => x.1) (n, []) (.c rfl (.c rfl .n)) (.c rfl .n) ⟨rfl, Nat.le_refl _, by simpa using H⟩ ?_
  rintro ⟨k, d⟩ w ⟨hd, hk, H⟩
  simp only [List.cons_append, List.nil_append]
  simp only at hd hk H ⊢
  refine cw_seq (fun K2 h2 => ?_)
  refine cw_seq (fun K3 h3 => ?_)
  refine cw_region (lq_run ?_)
  simp (maxSteps := 500000) (decide := true) (disch := omega) only [EV, ↓reduceIte, Nat.reduceAdd, tt101]
  refine lq_nil ?_
  refine h3 _ _ ?_
  refine cw_condB rfl (fun c10 => ?_) (fun c10 => ?_)
  · skip
    try simp only [HB] at c10
    obtain ⟨k', rfl⟩ : ∃ k', k = k' + 1 := ⟨k - 1, by omega⟩
    obtain ⟨ao, c, H⟩ := H.wrO
    simp only at H
    have hl : d.length + (k' + 1) = n := by have := congrArg List.length hd; simpa [beL_length] using this
    refine cw_skip ?_
    refine h2 _ _ ?_
    refine cw_seq (fun K4 h4 => ?_)
    refine cw_block ?_
    refine cw_draw [(0, 0), (1, 0), (2, 0), (3, 0), (4, 1), (5, 0), (6, 0), (7, 0), (8, 0), (9, 0), (10, 2), (11, 3), (12, 0), (13, 0), (14, 3)] rfl (by kernel_rfl) (fun c env w => by simp (decide := true) only [EX, not_false_eq_true]) H (fun w H => ?_)
    have H0 := H
    refine dq_run ?_
    simp (maxSteps := 500000) (decide := true) (disch := omega) only [EV, ↓reduceIte, Nat.reduceAdd, tt101]
    refine dq_load H0 rfl ?_
    simp (maxSteps := 500000) (decide := true) (disch := omega) only [EV, ↓reduceIte, Nat.reduceAdd, tt101]
    refine dq_act (by decide) rfl ?_
    refine lq_bs H rfl rfl (by rfl) rfl (by decide) (fun b23 w H => ?_)
    try simp only [ES] at H
    have hb : IntKind.u8.wrap (v.fdiv (2 ^ min (8 * (((k' + 1 : Nat) : Int) - 1)).toNat IntKind.u64.bits)) = ((byteI (v.fdiv (2 ^ (8 * k')))).toNat : Int) := by
      rw [wrap_byte, show min (8 * (((k' + 1 : Nat) : Int) - 1)).toNat IntKind.u64.bits = 8 * k' by simp only [IntKind.bits]; omega]
    rw [hb] at H
    refine lr_nil ?_
    replace H0 := H.wkTo H0
    refine ⟨fun _ => H0, ?_⟩
    simp (maxSteps := 500000) (decide := true) (disch := omega) only [EV, ↓reduceIte, Nat.reduceAdd, tt101]
    refine dq_act (by decide) rfl ?_
    refine lq_app1 (enc := encB) (byteI (v.fdiv (2 ^ (8 * k')))) H rfl rfl rfl (by simp [encB]; omega) (fun ao c w H => ?_)
    refine lr_nil ?_
    refine ⟨fun hh => absurd hh (by decide), ?_⟩
    simp (maxSteps := 500000) (decide := true) (disch := omega) only [EV, ↓reduceIte, Nat.reduceAdd, tt101]
    refine dq_act (by decide) rfl ?_
    refine lq_st H rfl rfl rfl (fun w H => ?_)
    try simp only [ES] at H
    refine lr_nil ?_
    refine ⟨fun hh => absurd hh (by decide), ?_⟩
    simp (maxSteps := 500000) (decide := true) (disch := omega) only [EV, ↓reduceIte, Nat.reduceAdd, tt101]
    refine dq_nil ?_
    refine h4 _ _ ?_
    refine cw_region (lq_run ?_)
    simp (maxSteps := 500000) (decide := true) (disch := omega) only [EV, ↓reduceIte, Nat.reduceAdd, tt101]
    refine lq_nil ?_
    refine Exists.intro (k', d ++ [byteI (v.fdiv (2 ^ (8 * k')))]) ⟨⟨(.c (by simp only [EV, ↓reduceIte, Nat.reduceEqDiff, Nat.reduceLT]; congr 2; omega) .n), (.c rfl (.c rfl .n))⟩, ⟨by rw [← hd]; simp [beL], by omega, by rw [← List.append_assoc]; exact H.wrC⟩, (by omega)⟩
  · skip
    try simp only [HB] at c10
    obtain rfl : k = 0 := by omega
    simp [beL] at hd; subst hd
    refine cw_exit ?_
    try simp (decide := true) only [EX, ↓reduceIte]
    refine end0 ?_
    exact H
theorem wU8_ok {p : Nat} {lim : Int} {out : List UInt8} {e : Int} {F : List HP} {w : World} {v : Int} (H : Own (Wr p (lim, out, e) :: F) w) (hl : 0 ≤ lim ∧ lim ≤ 4611686018427387904) (hv : 0 ≤ v ∧ v ≤ 255) (ho : out.length + 1 ≤ 1099511627776) :
  Cl Tryz.prog 49 #[.pointer (some ⟨p, 0, none⟩), .int .u8 v] w fun r w' => Own (Wr p (wput (lim, out, e) (beL v 1)) :: F) w' := by
  refine cl_of_cw Tryz.func49 rfl ?_
  simp only [Tryz.ntmps49, envA, List.size_toArray, List.length_cons, List.length_nil, Nat.reduceAdd, Nat.reduceSub]
  refine cw_seq (fun K1 h1 => ?_)
  refine cw_region (lq_run ?_)
  simp (maxSteps := 500000) (decide := true) (disch := omega) only [EV, ↓reduceIte, Nat.reduceAdd, tt49]
  refine lq_call rfl ?_
  refine Cl.mono (room_ok H hl (by omega)) ?_
  rintro _ w ⟨rfl, H⟩
  simp (maxSteps := 500000) (decide := true) (disch := omega) only [EV, ↓reduceIte, Nat.reduceAdd, tt49]
  refine lq_nil ?_
  refine h1 _ _ ?_
  refine cw_condB rfl (fun c5 => ?_) (fun c5 => ?_)
  · skip
    try simp only [HB] at c5
    refine cw_region (lq_run ?_)
    simp (maxSteps := 500000) (decide := true) (disch := omega) only [EV, ↓reduceIte, Nat.reduceAdd, tt49]
    refine lq_call rfl ?_
    refine Cl.mono (wnumber_ok (n := 1) H (by omega) (by omega)) ?_
    rintro r w H
    simp (maxSteps := 500000) (decide := true) (disch := omega) only [EV, ↓reduceIte, Nat.reduceAdd, tt49]
    refine lq_nil ?_
    try simp (decide := true) only [EX, ↓reduceIte]
    refine end0 ?_
    rw [wput, if_pos (by simpa [beL_length] using c5)]; exact c5 ▸ H
  · skip
    try simp only [HB] at c5
    refine cw_skip ?_
    try simp (decide := true) only [EX, ↓reduceIte]
    refine end0 ?_
    rw [wput, if_neg (by simpa [beL_length] using c5)]; simpa [beL_length] using H
theorem wU32_ok {p : Nat} {lim : Int} {out : List UInt8} {e : Int} {F : List HP} {w : World} {v : Int} (H : Own (Wr p (lim, out, e) :: F) w) (hl : 0 ≤ lim ∧ lim ≤ 4611686018427387904) (hv : 0 ≤ v ∧ v ≤ 4294967295) (ho : out.length + 4 ≤ 1099511627776) :
  Cl Tryz.prog 48 #[.pointer (some ⟨p, 0, none⟩), .int .u32 v] w fun r w' => Own (Wr p (wput (lim, out, e) (beL v 4)) :: F) w' := by
  refine cl_of_cw Tryz.func48 rfl ?_
  simp only [Tryz.ntmps48, envA, List.size_toArray, List.length_cons, List.length_nil, Nat.reduceAdd, Nat.reduceSub]
  refine cw_seq (fun K1 h1 => ?_)
  refine cw_region (lq_run ?_)
  simp (maxSteps := 500000) (decide := true) (disch := omega) only [EV, ↓reduceIte, Nat.reduceAdd, tt48]
  refine lq_call rfl ?_
  refine Cl.mono (room_ok H hl (by omega)) ?_
  rintro _ w ⟨rfl, H⟩
  simp (maxSteps := 500000) (decide := true) (disch := omega) only [EV, ↓reduceIte, Nat.reduceAdd, tt48]
  refine lq_nil ?_
  refine h1 _ _ ?_
  refine cw_condB rfl (fun c5 => ?_) (fun c5 => ?_)
  · skip
    try simp only [HB] at c5
    refine cw_region (lq_run ?_)
    simp (maxSteps := 500000) (decide := true) (disch := omega) only [EV, ↓reduceIte, Nat.reduceAdd, tt48]
    refine lq_call rfl ?_
    refine Cl.mono (wnumber_ok (n := 4) H (by omega) (by omega)) ?_
    rintro r w H
    simp (maxSteps := 500000) (decide := true) (disch := omega) only [EV, ↓reduceIte, Nat.reduceAdd, tt48]
    refine lq_nil ?_
    try simp (decide := true) only [EX, ↓reduceIte]
    refine end0 ?_
    rw [wput, if_pos (by simpa [beL_length] using c5)]; exact c5 ▸ H
  · skip
    try simp only [HB] at c5
    refine cw_skip ?_
    try simp (decide := true) only [EX, ↓reduceIte]
    refine end0 ?_
    rw [wput, if_neg (by simpa [beL_length] using c5)]; simpa [beL_length] using H
theorem wU64_ok {p : Nat} {lim : Int} {out : List UInt8} {e : Int} {F : List HP} {w : World} {v : Int} (H : Own (Wr p (lim, out, e) :: F) w) (hl : 0 ≤ lim ∧ lim ≤ 4611686018427387904) (hv : 0 ≤ v ∧ v ≤ 18446744073709551615) (ho : out.length + 8 ≤ 1099511627776) :
  Cl Tryz.prog 50 #[.pointer (some ⟨p, 0, none⟩), .int .u64 v] w fun r w' => Own (Wr p (wput (lim, out, e) (beL v 8)) :: F) w' := by
  refine cl_of_cw Tryz.func50 rfl ?_
  simp only [Tryz.ntmps50, envA, List.size_toArray, List.length_cons, List.length_nil, Nat.reduceAdd, Nat.reduceSub]
  refine cw_seq (fun K1 h1 => ?_)
  refine cw_region (lq_run ?_)
  simp (maxSteps := 500000) (decide := true) (disch := omega) only [EV, ↓reduceIte, Nat.reduceAdd, tt50]
  refine lq_call rfl ?_
  refine Cl.mono (room_ok H hl (by omega)) ?_
  rintro _ w ⟨rfl, H⟩
  simp (maxSteps := 500000) (decide := true) (disch := omega) only [EV, ↓reduceIte, Nat.reduceAdd, tt50]
  refine lq_nil ?_
  refine h1 _ _ ?_
  refine cw_condB rfl (fun c5 => ?_) (fun c5 => ?_)
  · skip
    try simp only [HB] at c5
    refine cw_region (lq_run ?_)
    simp (maxSteps := 500000) (decide := true) (disch := omega) only [EV, ↓reduceIte, Nat.reduceAdd, tt50]
    refine lq_call rfl ?_
    refine Cl.mono (wnumber_ok (n := 8) H (by omega) (by omega)) ?_
    rintro r w H
    simp (maxSteps := 500000) (decide := true) (disch := omega) only [EV, ↓reduceIte, Nat.reduceAdd, tt50]
    refine lq_nil ?_
    try simp (decide := true) only [EX, ↓reduceIte]
    refine end0 ?_
    rw [wput, if_pos (by simpa [beL_length] using c5)]; exact c5 ▸ H
  · skip
    try simp only [HB] at c5
    refine cw_skip ?_
    try simp (decide := true) only [EX, ↓reduceIte]
    refine end0 ?_
    rw [wput, if_neg (by simpa [beL_length] using c5)]; simpa [beL_length] using H

def textB (s : ByteArray) : List UInt8 := beL s.size 4 ++ s.data.toList
theorem textB_length (s : ByteArray) : (textB s).length = 4 + s.size := by simp [textB, beL_length]
def textsB (l : List ByteArray) : List UInt8 := beL l.length 4 ++ l.flatMap textB
def tlen (l : List ByteArray) : Nat := (l.map fun s => 4 + s.size).sum
theorem tlen_append (d r : List ByteArray) : tlen (d ++ r) = tlen d + tlen r := by simp [tlen]
theorem tlen_cons (s : ByteArray) (r : List ByteArray) : tlen (s :: r) = 4 + s.size + tlen r := by simp [tlen]
theorem flat_textB_length : ∀ (l : List ByteArray), (l.flatMap textB).length = tlen l
  | [] => rfl
  | s :: l => by rw [List.flatMap_cons, List.length_append, textB_length, flat_textB_length l, tlen_cons]
theorem tlen_ge : ∀ (l : List ByteArray), 4 * l.length ≤ tlen l
  | [] => Nat.le_refl _
  | s :: l => by have := tlen_ge l; rw [tlen_cons, List.length_cons]; omega
theorem roomE_zero {lim : Int} {out : List UInt8} {e n : Int} : roomE lim out e n = 0 ↔ e = 0 ∧ n ≤ lim - out.length := by
  unfold roomE; split <;> omega
theorem textsB_length (l : List ByteArray) : (textsB l).length = 4 + tlen l := by rw [textsB, List.length_append, beL_length, flat_textB_length]
theorem wText_ok {p : Nat} {lim : Int} {out : List UInt8} {e : Int} {F : List HP} {w : World} {s : ByteArray} (H : Own (Wr p (lim, out, e) :: F) w) (hl : 0 ≤ lim ∧ lim ≤ 4611686018427387904) (ho : out.length + 4 + s.size ≤ 1099511627776) :
  Cl Tryz.prog 51 #[.pointer (some ⟨p, 0, none⟩), .string s] w fun r w' => Own (Wr p (wput (lim, out, e) (textB s)) :: F) w' := by
  refine cl_of_cw Tryz.func51 rfl ?_
  simp only [Tryz.ntmps51, envA, List.size_toArray, List.length_cons, List.length_nil, Nat.reduceAdd, Nat.reduceSub]
  refine cw_seq (fun K1 h1 => ?_)
  refine cw_region (lq_run ?_)
  simp (maxSteps := 500000) (decide := true) (disch := omega) only [EV, ↓reduceIte, Nat.reduceAdd, tt51]
  refine lq_call rfl ?_
  refine Cl.mono (room_ok H hl (by omega)) ?_
  rintro _ w ⟨rfl, H⟩
  simp (maxSteps := 500000) (decide := true) (disch := omega) only [EV, ↓reduceIte, Nat.reduceAdd, tt51]
  refine lq_nil ?_
  refine h1 _ _ ?_
  refine cw_condB rfl (fun c8 => ?_) (fun c8 => ?_)
  · skip
    try simp only [HB] at c8
    rw [c8] at H
    refine cw_seq (fun K2 h2 => ?_)
    refine cw_region (lq_run ?_)
    simp (maxSteps := 500000) (decide := true) (disch := omega) only [EV, ↓reduceIte, Nat.reduceAdd, tt51]
    refine lq_call rfl ?_
    refine Cl.mono (wnumber_ok (n := 4) H (by omega) (by omega)) ?_
    rintro r w H
    obtain ⟨ao, c, H⟩ := H.wrO
    simp only [List.length_append, beL_length] at H
    simp (maxSteps := 500000) (decide := true) (disch := omega) only [EV, ↓reduceIte, Nat.reduceAdd, tt51]
    refine lq_nil ?_
    refine h2 _ _ ?_
    refine cw_region (lq_run ?_)
    simp (maxSteps := 500000) (decide := true) (disch := omega) only [EV, ↓reduceIte, Nat.reduceAdd, tt51]
    refine lq_load H rfl ?_
    simp (maxSteps := 500000) (decide := true) (disch := omega) only [EV, ↓reduceIte, Nat.reduceAdd, tt51]
    refine lq_appS H rfl rfl (by simp [beL_length]; omega) (fun ao c w H => ?_)
    simp (maxSteps := 500000) (decide := true) (disch := omega) only [EV, ↓reduceIte, Nat.reduceAdd, tt51]
    refine lq_st H rfl rfl rfl (fun w H => ?_)
    try simp only [ES] at H
    simp (maxSteps := 500000) (decide := true) (disch := omega) only [EV, ↓reduceIte, Nat.reduceAdd, tt51]
    refine lq_nil ?_
    try simp (decide := true) only [EX, ↓reduceIte]
    refine end0 ?_
    rw [wput, if_pos (by rw [textB_length]; simpa using c8), textB, ← List.append_assoc]; exact H.wrC
  · skip
    try simp only [HB] at c8
    refine cw_skip ?_
    try simp (decide := true) only [EX, ↓reduceIte]
    refine end0 ?_
    rw [wput, if_neg (by rw [textB_length]; simpa using c8), textB_length]; simpa using H
theorem wTexts_ok {p : Nat} {lim : Int} {out : List UInt8} {e : Int} {F : List HP} {w : World} {l : List ByteArray} {ao : Option Addr} {n c : Nat} (H : Own (Wr p (lim, out, e) :: F) w) (hl : 0 ≤ lim ∧ lim ≤ 4611686018427387904) (hR : Ent F (Row ao encS l)) (hn : n = l.length) (ho : out.length + 4 + tlen l ≤ 1099511627776) :
  Cl Tryz.prog 52 #[.pointer (some ⟨p, 0, none⟩), .slice ao n c] w fun r w' => Own (Wr p (wput (lim, out, e) (textsB l)) :: F) w' := by
  subst hn
  have htg := tlen_ge l
  refine cl_of_cw Tryz.func52 rfl ?_
  simp only [Tryz.ntmps52, envA, List.size_toArray, List.length_cons, List.length_nil, Nat.reduceAdd, Nat.reduceSub]
  refine cw_seq (fun K1 h1 => ?_)
  refine cw_region (lq_run ?_)
  simp (maxSteps := 500000) (decide := true) (disch := omega) only [EV, ↓reduceIte, Nat.reduceAdd, tt52]
  refine lq_nil ?_
  refine h1 _ _ ?_
  refine cw_seq (fun K2 h2 => ?_)
  refine cw_seq (fun K3 h3 => ?_)
  refine cw_region (lq_run ?_)
  simp (maxSteps := 500000) (decide := true) (disch := omega) only [EV, ↓reduceIte, Nat.reduceAdd, tt52]
  refine lq_nil ?_
  refine h3 _ _ ?_
  refine cw_block ?_
  refine cw_loopC (X := List ByteArray × List ByteArray) [(0, _), (1, _), (9, _), (10, _)] (fun x => [(4, .int .i64 (4 + (tlen x.1 : Int))), (11, .int .i64 (x.1.length : Int))]) (fun x w => l = x.1 ++ x.2 ∧ Own (Wr p (lim, out, e) :: F) w) (fun x => x.2.length) ([], l) (.c rfl (.c rfl (.c rfl (.c rfl .n)))) (.c rfl (.c rfl .n)) ⟨rfl, H⟩ ?_
  rintro ⟨d, r⟩ w ⟨hd, H⟩
  simp only [List.cons_append, List.nil_append]
  simp only at hd H ⊢
  refine cw_seq (fun K4 h4 => ?_)
  refine cw_region (lq_run ?_)
  simp (maxSteps := 500000) (decide := true) (disch := omega) only [EV, ↓reduceIte, Nat.reduceAdd, tt52]
  refine lq_nil ?_
  refine h4 _ _ ?_
  refine cw_seq (fun K5 h5 => ?_)
  refine cw_condB rfl (fun c12 => ?_) (fun c12 => ?_)
  · skip
    try simp only [HB] at c12
    obtain ⟨s, r', rfl, he⟩ := zip_more hd c12
    have htl : tlen l = tlen d + (4 + s.size + tlen r') := by rw [hd, tlen_append, tlen_cons]
    refine cw_skip ?_
    refine h5 _ _ ?_
    refine cw_seq (fun K6 h6 => ?_)
    refine cw_block ?_
    refine cw_seq (fun K7 h7 => ?_)
    refine cw_region (lq_run ?_)
    simp (maxSteps := 500000) (decide := true) (disch := omega) only [EV, ↓reduceIte, Nat.reduceAdd, tt52]
    refine lq_idx (i' := d.length) H rfl rfl hR (Nat.le_refl _) rfl he ?_
    simp (maxSteps := 500000) (decide := true) (disch := omega) only [EV, ↓reduceIte, Nat.reduceAdd, tt52]
    refine lq_loadE H rfl hR he rfl ?_
    simp (maxSteps := 500000) (decide := true) (disch := omega) only [EV, ↓reduceIte, Nat.reduceAdd, tt52]
    refine lq_nil ?_
    refine h7 _ _ ?_
    refine cw_region (lq_run ?_)
    simp (maxSteps := 500000) (decide := true) (disch := omega) only [EV, ↓reduceIte, Nat.reduceAdd, tt52]
    refine lq_nil ?_
    refine h6 _ _ ?_
    refine cw_region (lq_run ?_)
    simp (maxSteps := 500000) (decide := true) (disch := omega) only [EV, ↓reduceIte, Nat.reduceAdd, tt52]
    refine lq_nil ?_
    refine Exists.intro (d ++ [s], r') ⟨⟨(.c (by simp only [EV, ↓reduceIte, Nat.reduceEqDiff, Nat.reduceLT, tlen_append, tlen_cons, show tlen [] = 0 from rfl]; congr 2; omega) (.c (by rw [List.length_append]; rfl) .n)), (.c rfl (.c rfl (.c rfl (.c rfl .n))))⟩, ⟨by simp [hd], H⟩, (by simp)⟩
  · skip
    try simp only [HB] at c12
    obtain ⟨rfl, rfl⟩ := zip_done hd c12
    refine cw_exit ?_
    refine h2 _ _ ?_
    refine cw_seq (fun K8 h8 => ?_)
    refine cw_seq (fun K9 h9 => ?_)
    refine cw_region (lq_run ?_)
    simp (maxSteps := 500000) (decide := true) (disch := omega) only [EV, ↓reduceIte, Nat.reduceAdd, tt52]
    refine lq_call rfl ?_
    refine Cl.mono (room_ok (n := 4 + (tlen l : Int)) H hl (by omega)) ?_
    rintro _ w ⟨rfl, H⟩
    simp (maxSteps := 500000) (decide := true) (disch := omega) only [EV, ↓reduceIte, Nat.reduceAdd, tt52]
    refine lq_nil ?_
    refine h9 _ _ ?_
    refine cw_condB rfl (fun c24 => ?_) (fun c24 => ?_)
    · skip
      try simp only [HB] at c24
      refine cw_ret ?_
      try simp (decide := true) only [EX, ↓reduceIte]
      refine ret0 ?_
      rw [wput, if_neg (by rw [textsB_length]; simpa using c24), textsB_length]; simpa using H
    · skip
      try simp only [HB] at c24
      rw [c24] at H
      refine cw_skip ?_
      refine h8 _ _ ?_
      refine cw_seq (fun K10 h10 => ?_)
      refine cw_region (lq_run ?_)
      simp (maxSteps := 500000) (decide := true) (disch := omega) only [EV, ↓reduceIte, Nat.reduceAdd, tt52]
      refine lq_call rfl ?_
      refine Cl.mono (wnumber_ok (n := 4) H (by omega) (by omega)) ?_
      rintro r w H
      simp (maxSteps := 500000) (decide := true) (disch := omega) only [EV, ↓reduceIte, Nat.reduceAdd, tt52]
      refine lq_nil ?_
      refine h10 _ _ ?_
      refine cw_seq (fun K11 h11 => ?_)
      refine cw_region (lq_run ?_)
      simp (maxSteps := 500000) (decide := true) (disch := omega) only [EV, ↓reduceIte, Nat.reduceAdd, tt52]
      refine lq_nil ?_
      refine h11 _ _ ?_
      refine cw_block ?_
      refine cw_loopC (X := List ByteArray × List ByteArray) [(0, _), (30, _), (31, _)] (fun x => [(32, .int .i64 (x.1.length : Int))]) (fun x w => l = x.1 ++ x.2 ∧ Own (Wr p (lim, out ++ (beL l.length 4 ++ x.1.flatMap textB), 0) :: F) w) (fun x => x.2.length) ([], l) (.c rfl (.c rfl (.c rfl .n))) (.c rfl .n) ⟨rfl, by simpa using H⟩ ?_
      rintro ⟨d, r⟩ w ⟨hd, H⟩
      simp only [List.cons_append, List.nil_append]
      simp only at hd H ⊢
      refine cw_seq (fun K12 h12 => ?_)
      refine cw_region (lq_run ?_)
      simp (maxSteps := 500000) (decide := true) (disch := omega) only [EV, ↓reduceIte, Nat.reduceAdd, tt52]
      refine lq_nil ?_
      refine h12 _ _ ?_
      refine cw_seq (fun K13 h13 => ?_)
      refine cw_condB rfl (fun c33 => ?_) (fun c33 => ?_)
      · skip
        try simp only [HB] at c33
        obtain ⟨s, r', rfl, he⟩ := zip_more hd c33
        have htl : tlen l = tlen d + (4 + s.size + tlen r') := by rw [hd, tlen_append, tlen_cons]
        refine cw_skip ?_
        refine h13 _ _ ?_
        refine cw_seq (fun K14 h14 => ?_)
        refine cw_block ?_
        refine cw_seq (fun K15 h15 => ?_)
        refine cw_region (lq_run ?_)
        simp (maxSteps := 500000) (decide := true) (disch := omega) only [EV, ↓reduceIte, Nat.reduceAdd, tt52]
        refine lq_idx (i' := d.length) H rfl rfl hR (Nat.le_refl _) rfl he ?_
        simp (maxSteps := 500000) (decide := true) (disch := omega) only [EV, ↓reduceIte, Nat.reduceAdd, tt52]
        refine lq_loadE H rfl hR he rfl ?_
        simp (maxSteps := 500000) (decide := true) (disch := omega) only [EV, ↓reduceIte, Nat.reduceAdd, tt52]
        refine lq_nil ?_
        refine h15 _ _ ?_
        refine cw_region (lq_run ?_)
        simp (maxSteps := 500000) (decide := true) (disch := omega) only [EV, ↓reduceIte, Nat.reduceAdd, tt52]
        refine lq_call rfl ?_
        refine Cl.mono (wText_ok H hl (by simp only [List.length_append, beL_length, flat_textB_length]; omega)) ?_
        rintro r w H
        have hz := roomE_zero.1 c24
        rw [wput, if_pos (by rw [textB_length]; refine roomE_zero.2 ⟨rfl, ?_⟩; simp only [List.length_append, beL_length, flat_textB_length]; omega)] at H
        simp (maxSteps := 500000) (decide := true) (disch := omega) only [EV, ↓reduceIte, Nat.reduceAdd, tt52]
        refine lq_nil ?_
        refine h14 _ _ ?_
        refine cw_region (lq_run ?_)
        simp (maxSteps := 500000) (decide := true) (disch := omega) only [EV, ↓reduceIte, Nat.reduceAdd, tt52]
        refine lq_nil ?_
        refine Exists.intro (d ++ [s], r') ⟨⟨(.c (by rw [List.length_append]; rfl) .n), (.c rfl (.c rfl (.c rfl .n)))⟩, ⟨by simp [hd], by simpa using H⟩, (by simp)⟩
      · skip
        try simp only [HB] at c33
        obtain ⟨rfl, rfl⟩ := zip_done hd c33
        refine cw_exit ?_
        try simp (decide := true) only [EX, ↓reduceIte]
        refine end0 ?_
        rw [wput, if_pos (by rw [textsB_length]; simpa using c24)]; exact H
end Go.Rp
set_option linter.unusedVariables false
set_option linter.unusedSimpArgs false
set_option maxHeartbeats 1000000
set_option maxRecDepth 100000
namespace Go.Rp
open Go.Proofs
instance iW3_0 : ByT Tryz.prog 23 := ⟨⟨5, by kernel_rfl, by kernel_rfl⟩⟩
instance iW3_1 : ElT Tryz.prog 5 1 := ElT.mk' (by kernel_rfl)
instance iW3_2 : FnOk Tryz.prog 153 := ⟨⟨Tryz.f153, Tryz.func153, by kernel_rfl, by kernel_rfl⟩⟩
instance iW3_3 : FnOk Tryz.prog 97 := ⟨⟨Tryz.f97, Tryz.func97, by kernel_rfl, by kernel_rfl⟩⟩
instance iW3_4 : FnOk Tryz.prog 98 := ⟨⟨Tryz.f98, Tryz.func98, by kernel_rfl, by kernel_rfl⟩⟩
instance iW3_5 : SlT Tryz.prog 23 5 := ⟨by kernel_rfl⟩
instance iW3_6 : StT Tryz.prog 9 := ⟨by kernel_rfl⟩
instance iW3_7 : SzT Tryz.prog 23 1 := ⟨by kernel_rfl⟩
instance iW3_8 : SzT Tryz.prog 26 1 := ⟨by kernel_rfl⟩
theorem tt153 : (AG Tryz.prog 23 = some false) ∧ (AG Tryz.prog 26 = some false) ∧ (AG Tryz.prog 5 = some false) ∧ (FO Tryz.prog 182 0 = some 0) ∧ (FO Tryz.prog 182 1 = some 1) ∧ (IKn Tryz.prog 42 = some .u64) ∧ (IKn Tryz.prog 5 = some .u8) ∧ (LK Tryz.prog 23 = some 1) := ⟨by kernel_rfl, by kernel_rfl, by kernel_rfl, by kernel_rfl, by kernel_rfl, by kernel_rfl, by kernel_rfl, by kernel_rfl⟩
theorem tt97 : (AG Tryz.prog 23 = some false) ∧ (FO Tryz.prog 182 0 = some 0) := ⟨by kernel_rfl, by kernel_rfl⟩
theorem tt38 : (IKn Tryz.prog 42 = some .u64) ∧ (IKn Tryz.prog 5 = some .u8) := ⟨by kernel_rfl, by kernel_rfl⟩
theorem tt37 : (IKn Tryz.prog 42 = some .u64) ∧ (IKn Tryz.prog 89 = some .u32) := ⟨by kernel_rfl, by kernel_rfl⟩
theorem tt39 : (True) := trivial
theorem tt98 : (FO Tryz.prog 182 1 = some 1) ∧ (IKn Tryz.prog 3 = some .i64) ∧ (IKn Tryz.prog 42 = some .u64) := ⟨by kernel_rfl, by kernel_rfl, by kernel_rfl⟩
theorem tt41 : (AG Tryz.prog 23 = some false) ∧ (FO Tryz.prog 182 0 = some 0) := ⟨by kernel_rfl, by kernel_rfl⟩
theorem tt42 : (AG Tryz.prog 26 = some false) ∧ (FO Tryz.prog 182 1 = some 1) := ⟨by kernel_rfl, by kernel_rfl⟩
theorem tt45 : (AG Tryz.prog 23 = some false) ∧ (AG Tryz.prog 26 = some false) ∧ (FO Tryz.prog 182 0 = some 0) ∧ (FO Tryz.prog 182 1 = some 1) ∧ (LK Tryz.prog 23 = some 1) := ⟨by kernel_rfl, by kernel_rfl, by kernel_rfl, by kernel_rfl, by kernel_rfl⟩
theorem tt43 : (AG Tryz.prog 23 = some false) ∧ (FO Tryz.prog 182 0 = some 0) ∧ (FO Tryz.prog 182 1 = some 1) ∧ (IKn Tryz.prog 23 = none) ∧ (IKn Tryz.prog 9 = none) ∧ (LK Tryz.prog 23 = some 1) := ⟨by kernel_rfl, by kernel_rfl, by kernel_rfl, by kernel_rfl, by kernel_rfl, by kernel_rfl⟩

def Rr (R : List HP) (p : Nat) (x : List UInt8 × Int) : HP := fun h => ∃ ao c, (x.1.length ≤ c ∧ Ent R (Row ao encB x.1)) ∧ Sep (Ce p ([.slice ao x.1.length c, .int .i64 x.2], 182) :: R) h
theorem Own.rrO {R : List HP} {p : Nat} {x : List UInt8 × Int} {L : List HP} {w : World} (H : Own (Rr R p x :: L) w) : ∃ ao c, x.1.length ≤ c ∧ Ent R (Row ao encB x.1) ∧ Own (Ce p ([.slice ao x.1.length c, .int .i64 x.2], 182) :: (R ++ L)) w := by
  obtain ⟨ao, H⟩ := Sep.ex.1 H
  obtain ⟨c, H⟩ := Sep.ex.1 H
  obtain ⟨h, H⟩ := Sep.pure.1 H
  exact ⟨ao, c, h.1, h.2, Sep.flat1.1 H⟩
theorem Own.rrC {R : List HP} {p : Nat} {e : Int} {out : List UInt8} {n c : Nat} {ao : Option Addr} {L : List HP} {w : World} (H : Own (Ce p ([.slice ao n c, .int .i64 e], 182) :: (R ++ L)) w) (hR : Ent R (Row ao encB out)) (hn : n = out.length) (hc : n ≤ c) : Own (Rr R p (out, e) :: L) w := by
  subst hn
  exact Sep.ex.2 ⟨ao, Sep.ex.2 ⟨c, Sep.pure.2 ⟨⟨hc, hR⟩, Sep.flat1.2 H⟩⟩⟩
def pkE (rest : List UInt8) (e n : Int) : Int := if e = 0 ∧ (rest.length : Int) < n then 4 else e
def beV (l : List UInt8) : Int := l.foldl (fun v c => v * 256 + c.toNat) 0
theorem beV_snoc (l : List UInt8) (c : UInt8) : beV (l ++ [c]) = beV l * 256 + c.toNat := by simp [beV]
theorem beV_aux : ∀ (l : List UInt8) (a : Int), 0 ≤ a → 0 ≤ l.foldl (fun (v : Int) (c : UInt8) => v * 256 + c.toNat) a ∧ l.foldl (fun (v : Int) (c : UInt8) => v * 256 + c.toNat) a < (a + 1) * 256 ^ l.length
  | [], a, h => by simp; omega
  | c :: l, a, h => by
    have hc := c.toNat_lt
    obtain ⟨h1, h2⟩ := beV_aux l (a * 256 + c.toNat) (by omega)
    refine ⟨h1, Int.lt_of_lt_of_le h2 ?_⟩
    rw [List.length_cons, Int.pow_succ, Int.mul_comm (256 ^ l.length) 256, ← Int.mul_assoc]
    exact Int.mul_le_mul_of_nonneg_right (by omega) (Int.pow_nonneg (by decide))
theorem beV_bound (l : List UInt8) : 0 ≤ beV l ∧ beV l < 256 ^ l.length := by
  have := beV_aux l 0 (Int.le_refl 0)
  simpa [beV] using this
theorem beV_lt7 {l : List UInt8} (h : l.length ≤ 7) : 0 ≤ beV l ∧ beV l < 256 ^ 7 := by
  have h1 := beV_bound l
  have h2 := Nat.pow_le_pow_right (n := 256) (by decide) h
  have h3 : (256 : Int) ^ l.length = ((256 ^ l.length : Nat) : Int) := by simp
  omega
theorem beV_step (v : Int) (c : UInt8) (h : 0 ≤ v ∧ v < 256 ^ 7) : bits .or .u64 (IntKind.u64.wrap (v * 2 ^ (min (Int.toNat 8) IntKind.u64.bits))) (IntKind.u64.wrap (c.toNat : Int)) = v * 256 + c.toNat := by
  have hc := c.toNat_lt
  obtain ⟨n, rfl⟩ : ∃ n : Nat, v = n := ⟨v.toNat, by omega⟩
  have e : IntKind.u64.wrap ((n : Int) * 2 ^ (min (Int.toNat 8) IntKind.u64.bits)) = ((n * 256 : Nat) : Int) := by
    have : (2 : Int) ^ (min (Int.toNat 8) IntKind.u64.bits) = 256 := by decide
    rw [this, wrap_u64 (by omega)]; omega
  rw [e, wrap_u64 (x := (c.toNat : Int)) (by omega), bits_or_u64_nat _ _ (by omega) (by omega)]
  have h2 : n * 256 ||| c.toNat = n * 256 + c.toNat := by
    have := Nat.two_pow_add_eq_or_of_lt (i := 8) (b := c.toNat) (by omega) n
    rw [show n * 256 = 2 ^ 8 * n by omega]; exact this.symm
  rw [h2]; omega
theorem rpeek_ok {R : List HP} {p : Nat} {rest : List UInt8} {e : Int} {F : List HP} {w : World} {n : Nat} (H : Own (Rr R p (rest, e) :: F) w) (hn : n ≤ 8) (hl : rest.length ≤ 1099511627776) :
  Cl Tryz.prog 153 #[.pointer (some ⟨p, 0, none⟩), .int .i64 n] w fun v w' => v = .tuple #[.int .u64 (if pkE rest e n = 0 then beV (rest.take n) else 0), .bool (decide (pkE rest e n = 0))] ∧ Own (Rr R p (rest, pkE rest e n) :: F) w' := by
  refine cl_of_cw Tryz.func153 rfl ?_
  simp only [Tryz.ntmps153, envA, List.size_toArray, List.length_cons, List.length_nil, Nat.reduceAdd, Nat.reduceSub]
  obtain ⟨ao, c, hc, hR0, H⟩ := H.rrO
  simp only at H hc hR0
  refine cw_seq (fun K1 h1 => ?_)
  refine cw_region (lq_run ?_)
  simp (maxSteps := 500000) (decide := true) (disch := omega) only [EV, ↓reduceIte, Nat.reduceAdd, tt153]
  refine lq_nil ?_
  refine h1 _ _ ?_
  refine cw_seq (fun K2 h2 => ?_)
  refine cw_seq (fun K3 h3 => ?_)
  refine cw_region (lq_run ?_)
  simp (maxSteps := 500000) (decide := true) (disch := omega) only [EV, ↓reduceIte, Nat.reduceAdd, tt153]
  refine lq_load H rfl ?_
  simp (maxSteps := 500000) (decide := true) (disch := omega) only [EV, ↓reduceIte, Nat.reduceAdd, tt153]
  refine lq_G (fun g14 => ?_) (fun g14 => ?_)
  · try simp only [HB] at g14
    simp (maxSteps := 500000) (decide := true) (disch := omega) only [EV, ↓reduceIte, Nat.reduceAdd, tt153]
    refine lq_load H rfl ?_
    simp (maxSteps := 500000) (decide := true) (disch := omega) only [EV, ↓reduceIte, Nat.reduceAdd, tt153]
    refine lq_nil ?_
    refine h3 _ _ ?_
    refine cw_condB rfl (fun c22 => ?_) (fun c22 => ?_)
    · skip
      first
        | (simp only [HB, reduceCtorEq] at c22; done)
        | (try simp only [HB] at c22
           exfalso; omega)
        | skip
          try simp only [HB] at c22
          refine cw_region (lq_run ?_)
          simp (maxSteps := 500000) (decide := true) (disch := omega) only [EV, ↓reduceIte, Nat.reduceAdd, tt153]
          refine lq_st H rfl rfl rfl (fun w H => ?_)
          try simp only [ES] at H
          simp (maxSteps := 500000) (decide := true) (disch := omega) only [EV, ↓reduceIte, Nat.reduceAdd, tt153]
          refine lq_nil ?_
          refine h2 _ _ ?_
          refine cw_seq (fun K4 h4 => ?_)
          refine cw_seq (fun K5 h5 => ?_)
          refine cw_region (lq_run ?_)
          simp (maxSteps := 500000) (decide := true) (disch := omega) only [EV, ↓reduceIte, Nat.reduceAdd, tt153]
          refine lq_load H rfl ?_
          simp (maxSteps := 500000) (decide := true) (disch := omega) only [EV, ↓reduceIte, Nat.reduceAdd, tt153]
          refine lq_nil ?_
          refine h5 _ _ ?_
          refine cw_condB rfl (fun c30 => ?_) (fun c30 => ?_)
          · skip
            first
              | (simp only [HB, reduceCtorEq] at c30; done)
              | (try simp only [HB] at c30
                 exfalso; omega)
              | skip
                try simp only [HB] at c30
                refine cw_seq (fun K6 h6 => ?_)
                refine cw_region (lq_run ?_)
                simp (maxSteps := 500000) (decide := true) (disch := omega) only [EV, ↓reduceIte, Nat.reduceAdd, tt153]
                refine lq_nil ?_
                refine h6 _ _ ?_
                refine cw_ret ?_
                try simp (decide := true) only [EX, ↓reduceIte]
                refine ret2 rfl rfl ?_
                first
                  | (have hr : pkE rest e n = 4 := if_pos (by omega)
                     rw [hr]; exact ⟨by simp, H.rrC hR0 rfl hc⟩)
                  | (have hr : pkE rest e n = e := if_neg (by omega)
                     rw [hr]; refine ⟨?_, H.rrC hR0 rfl hc⟩; simp [*])
          · skip
            first
              | (simp only [HB, reduceCtorEq] at c30; done)
              | (try simp only [HB] at c30
                 exfalso; omega)
              | skip
                try simp only [HB] at c30
                refine cw_skip ?_
                refine h4 _ _ ?_
                refine cw_seq (fun K7 h7 => ?_)
                refine cw_region (lq_run ?_)
                simp (maxSteps := 500000) (decide := true) (disch := omega) only [EV, ↓reduceIte, Nat.reduceAdd, tt153]
                refine lq_nil ?_
                refine h7 _ _ ?_
                refine cw_seq (fun K8 h8 => ?_)
                refine cw_seq (fun K9 h9 => ?_)
                refine cw_region (lq_run ?_)
                simp (maxSteps := 500000) (decide := true) (disch := omega) only [EV, ↓reduceIte, Nat.reduceAdd, tt153]
                refine lq_load H rfl ?_
                simp (maxSteps := 500000) (decide := true) (disch := omega) only [EV, ↓reduceIte, Nat.reduceAdd, tt153]
                refine lq_sub 0 n n rfl rfl ⟨_, _, rfl, rfl⟩ ⟨by omega, by omega, nofun⟩ (by omega) ?_
                have hR := (hR0.appR (F := F)).sub 0 n c (by omega)
                rw [List.drop_zero] at hR
                have htl : (rest.take n).length = n := by simp; omega
                simp (maxSteps := 500000) (decide := true) (disch := omega) only [EV, ↓reduceIte, Nat.reduceAdd, tt153]
                refine lq_nil ?_
                refine h9 _ _ ?_
                refine cw_block ?_
                refine cw_loopC (X := List UInt8 × List UInt8) [(4, _), (5, _), (36, _), (37, _)] (fun x => [(6, .int .u64 (beV x.1)), (38, .int .i64 (x.1.length : Int))]) (fun x w => rest.take n = x.1 ++ x.2 ∧ Own (Ce p ([.slice ao rest.length c, .int .i64 e], 182) ::  (R ++ F)) w) (fun x => x.2.length) ([], rest.take n) (.c rfl (.c rfl (.c rfl (.c rfl .n)))) (.c rfl (.c rfl .n)) ⟨rfl, H⟩ ?_
                rintro ⟨d, r⟩ w ⟨hd, H⟩
                simp only [List.cons_append, List.nil_append]
                simp only at hd H ⊢
                refine cw_seq (fun K10 h10 => ?_)
                refine cw_region (lq_run ?_)
                simp (maxSteps := 500000) (decide := true) (disch := omega) only [EV, ↓reduceIte, Nat.reduceAdd, tt153]
                refine lq_nil ?_
                refine h10 _ _ ?_
                refine cw_seq (fun K11 h11 => ?_)
                refine cw_condB rfl (fun c39 => ?_) (fun c39 => ?_)
                · skip
                  try simp only [HB] at c39
                  rw [← htl] at c39
                  obtain ⟨s, r', rfl, he⟩ := zip_more hd c39
                  have hv := beV_lt7 (l := d) (by omega)
                  refine cw_skip ?_
                  refine h11 _ _ ?_
                  refine cw_seq (fun K12 h12 => ?_)
                  refine cw_block ?_
                  refine cw_seq (fun K13 h13 => ?_)
                  refine cw_region (lq_run ?_)
                  simp (maxSteps := 500000) (decide := true) (disch := omega) only [EV, ↓reduceIte, Nat.reduceAdd, tt153]
                  refine lq_idx (i' := d.length) H rfl rfl hR (by omega) rfl he ?_
                  simp (maxSteps := 500000) (decide := true) (disch := omega) only [EV, ↓reduceIte, Nat.reduceAdd, tt153]
                  refine lq_loadE H rfl hR he rfl ?_
                  simp (maxSteps := 500000) (decide := true) (disch := omega) only [EV, ↓reduceIte, Nat.reduceAdd, tt153]
                  refine lq_nil ?_
                  refine h13 _ _ ?_
                  refine cw_region (lq_run ?_)
                  simp (maxSteps := 500000) (decide := true) (disch := omega) only [EV, ↓reduceIte, Nat.reduceAdd, tt153]
                  refine lq_nil ?_
                  refine h12 _ _ ?_
                  refine cw_region (lq_run ?_)
                  simp (maxSteps := 500000) (decide := true) (disch := omega) only [EV, ↓reduceIte, Nat.reduceAdd, tt153]
                  refine lq_nil ?_
                  refine Exists.intro (d ++ [s], r') ⟨⟨(.c (by rw [beV_snoc, ← beV_step (beV d) s hv]; rfl) (.c (by rw [List.length_append]; rfl) .n)), (.c rfl (.c rfl (.c rfl (.c rfl .n))))⟩, ⟨by simp [hd], H⟩, (by simp)⟩
                · skip
                  try simp only [HB] at c39
                  rw [← htl] at c39
                  obtain ⟨rfl, hd'⟩ := zip_done hd c39
                  refine cw_exit ?_
                  refine h8 _ _ ?_
                  refine cw_seq (fun K14 h14 => ?_)
                  refine cw_region (lq_run ?_)
                  simp (maxSteps := 500000) (decide := true) (disch := omega) only [EV, ↓reduceIte, Nat.reduceAdd, tt153]
                  refine lq_nil ?_
                  refine h14 _ _ ?_
                  refine cw_ret ?_
                  try simp (decide := true) only [EX, ↓reduceIte]
                  refine ret2 rfl rfl ?_
                  first
                    | (have hr : pkE rest e n = 4 := if_pos (by omega)
                       rw [hr]; exact ⟨by simp, H.rrC hR0 rfl hc⟩)
                    | (have hr : pkE rest e n = e := if_neg (by omega)
                       rw [hr]; refine ⟨?_, H.rrC hR0 rfl hc⟩; simp [*])
    · skip
      first
        | (simp only [HB, reduceCtorEq] at c22; done)
        | (try simp only [HB] at c22
           exfalso; omega)
        | skip
          try simp only [HB] at c22
          refine cw_skip ?_
          refine h2 _ _ ?_
          refine cw_seq (fun K15 h15 => ?_)
          refine cw_seq (fun K16 h16 => ?_)
          refine cw_region (lq_run ?_)
          simp (maxSteps := 500000) (decide := true) (disch := omega) only [EV, ↓reduceIte, Nat.reduceAdd, tt153]
          refine lq_load H rfl ?_
          simp (maxSteps := 500000) (decide := true) (disch := omega) only [EV, ↓reduceIte, Nat.reduceAdd, tt153]
          refine lq_nil ?_
          refine h16 _ _ ?_
          refine cw_condB rfl (fun c30 => ?_) (fun c30 => ?_)
          · skip
            first
              | (simp only [HB, reduceCtorEq] at c30; done)
              | (try simp only [HB] at c30
                 exfalso; omega)
              | skip
                try simp only [HB] at c30
                refine cw_seq (fun K17 h17 => ?_)
                refine cw_region (lq_run ?_)
                simp (maxSteps := 500000) (decide := true) (disch := omega) only [EV, ↓reduceIte, Nat.reduceAdd, tt153]
                refine lq_nil ?_
                refine h17 _ _ ?_
                refine cw_ret ?_
                try simp (decide := true) only [EX, ↓reduceIte]
                refine ret2 rfl rfl ?_
                first
                  | (have hr : pkE rest e n = 4 := if_pos (by omega)
                     rw [hr]; exact ⟨by simp, H.rrC hR0 rfl hc⟩)
                  | (have hr : pkE rest e n = e := if_neg (by omega)
                     rw [hr]; refine ⟨?_, H.rrC hR0 rfl hc⟩; simp [*])
          · skip
            first
              | (simp only [HB, reduceCtorEq] at c30; done)
              | (try simp only [HB] at c30
                 exfalso; omega)
              | skip
                try simp only [HB] at c30
                refine cw_skip ?_
                refine h15 _ _ ?_
                refine cw_seq (fun K18 h18 => ?_)
                refine cw_region (lq_run ?_)
                simp (maxSteps := 500000) (decide := true) (disch := omega) only [EV, ↓reduceIte, Nat.reduceAdd, tt153]
                refine lq_nil ?_
                refine h18 _ _ ?_
                refine cw_seq (fun K19 h19 => ?_)
                refine cw_seq (fun K20 h20 => ?_)
                refine cw_region (lq_run ?_)
                simp (maxSteps := 500000) (decide := true) (disch := omega) only [EV, ↓reduceIte, Nat.reduceAdd, tt153]
                refine lq_load H rfl ?_
                simp (maxSteps := 500000) (decide := true) (disch := omega) only [EV, ↓reduceIte, Nat.reduceAdd, tt153]
                refine lq_sub 0 n n rfl rfl ⟨_, _, rfl, rfl⟩ ⟨by omega, by omega, nofun⟩ (by omega) ?_
                have hR := (hR0.appR (F := F)).sub 0 n c (by omega)
                rw [List.drop_zero] at hR
                have htl : (rest.take n).length = n := by simp; omega
                simp (maxSteps := 500000) (decide := true) (disch := omega) only [EV, ↓reduceIte, Nat.reduceAdd, tt153]
                refine lq_nil ?_
                refine h20 _ _ ?_
                refine cw_block ?_
                refine cw_loopC (X := List UInt8 × List UInt8) [(4, _), (5, _), (36, _), (37, _)] (fun x => [(6, .int .u64 (beV x.1)), (38, .int .i64 (x.1.length : Int))]) (fun x w => rest.take n = x.1 ++ x.2 ∧ Own (Ce p ([.slice ao rest.length c, .int .i64 e], 182) ::  (R ++ F)) w) (fun x => x.2.length) ([], rest.take n) (.c rfl (.c rfl (.c rfl (.c rfl .n)))) (.c rfl (.c rfl .n)) ⟨rfl, H⟩ ?_
                rintro ⟨d, r⟩ w ⟨hd, H⟩
                simp only [List.cons_append, List.nil_append]
                simp only at hd H ⊢
                refine cw_seq (fun K21 h21 => ?_)
                refine cw_region (lq_run ?_)
                simp (maxSteps := 500000) (decide := true) (disch := omega) only [EV, ↓reduceIte, Nat.reduceAdd, tt153]
                refine lq_nil ?_
                refine h21 _ _ ?_
                refine cw_seq (fun K22 h22 => ?_)
                refine cw_condB rfl (fun c39 => ?_) (fun c39 => ?_)
                · skip
                  try simp only [HB] at c39
                  rw [← htl] at c39
                  obtain ⟨s, r', rfl, he⟩ := zip_more hd c39
                  have hv := beV_lt7 (l := d) (by omega)
                  refine cw_skip ?_
                  refine h22 _ _ ?_
                  refine cw_seq (fun K23 h23 => ?_)
                  refine cw_block ?_
                  refine cw_seq (fun K24 h24 => ?_)
                  refine cw_region (lq_run ?_)
                  simp (maxSteps := 500000) (decide := true) (disch := omega) only [EV, ↓reduceIte, Nat.reduceAdd, tt153]
                  refine lq_idx (i' := d.length) H rfl rfl hR (by omega) rfl he ?_
                  simp (maxSteps := 500000) (decide := true) (disch := omega) only [EV, ↓reduceIte, Nat.reduceAdd, tt153]
                  refine lq_loadE H rfl hR he rfl ?_
                  simp (maxSteps := 500000) (decide := true) (disch := omega) only [EV, ↓reduceIte, Nat.reduceAdd, tt153]
                  refine lq_nil ?_
                  refine h24 _ _ ?_
                  refine cw_region (lq_run ?_)
                  simp (maxSteps := 500000) (decide := true) (disch := omega) only [EV, ↓reduceIte, Nat.reduceAdd, tt153]
                  refine lq_nil ?_
                  refine h23 _ _ ?_
                  refine cw_region (lq_run ?_)
                  simp (maxSteps := 500000) (decide := true) (disch := omega) only [EV, ↓reduceIte, Nat.reduceAdd, tt153]
                  refine lq_nil ?_
                  refine Exists.intro (d ++ [s], r') ⟨⟨(.c (by rw [beV_snoc, ← beV_step (beV d) s hv]; rfl) (.c (by rw [List.length_append]; rfl) .n)), (.c rfl (.c rfl (.c rfl (.c rfl .n))))⟩, ⟨by simp [hd], H⟩, (by simp)⟩
                · skip
                  try simp only [HB] at c39
                  rw [← htl] at c39
                  obtain ⟨rfl, hd'⟩ := zip_done hd c39
                  refine cw_exit ?_
                  refine h19 _ _ ?_
                  refine cw_seq (fun K25 h25 => ?_)
                  refine cw_region (lq_run ?_)
                  simp (maxSteps := 500000) (decide := true) (disch := omega) only [EV, ↓reduceIte, Nat.reduceAdd, tt153]
                  refine lq_nil ?_
                  refine h25 _ _ ?_
                  refine cw_ret ?_
                  try simp (decide := true) only [EX, ↓reduceIte]
                  refine ret2 rfl rfl ?_
                  first
                    | (have hr : pkE rest e n = 4 := if_pos (by omega)
                       rw [hr]; exact ⟨by simp, H.rrC hR0 rfl hc⟩)
                    | (have hr : pkE rest e n = e := if_neg (by omega)
                       rw [hr]; refine ⟨?_, H.rrC hR0 rfl hc⟩; simp [*])
  · try simp only [HB] at g14
    simp (maxSteps := 500000) (decide := true) (disch := omega) only [EV, ↓reduceIte, Nat.reduceAdd, tt153]
    refine lq_nil ?_
    refine h3 _ _ ?_
    refine cw_condF rfl ?_
    refine cw_skip ?_
    refine h2 _ _ ?_
    refine cw_seq (fun K26 h26 => ?_)
    refine cw_seq (fun K27 h27 => ?_)
    refine cw_region (lq_run ?_)
    simp (maxSteps := 500000) (decide := true) (disch := omega) only [EV, ↓reduceIte, Nat.reduceAdd, tt153]
    refine lq_load H rfl ?_
    simp (maxSteps := 500000) (decide := true) (disch := omega) only [EV, ↓reduceIte, Nat.reduceAdd, tt153]
    refine lq_nil ?_
    refine h27 _ _ ?_
    refine cw_condB rfl (fun c30 => ?_) (fun c30 => ?_)
    · skip
      first
        | (simp only [HB, reduceCtorEq] at c30; done)
        | (try simp only [HB] at c30
           exfalso; omega)
        | skip
          try simp only [HB] at c30
          refine cw_seq (fun K28 h28 => ?_)
          refine cw_region (lq_run ?_)
          simp (maxSteps := 500000) (decide := true) (disch := omega) only [EV, ↓reduceIte, Nat.reduceAdd, tt153]
          refine lq_nil ?_
          refine h28 _ _ ?_
          refine cw_ret ?_
          try simp (decide := true) only [EX, ↓reduceIte]
          refine ret2 rfl rfl ?_
          first
            | (have hr : pkE rest e n = 4 := if_pos (by omega)
               rw [hr]; exact ⟨by simp, H.rrC hR0 rfl hc⟩)
            | (have hr : pkE rest e n = e := if_neg (by omega)
               rw [hr]; refine ⟨?_, H.rrC hR0 rfl hc⟩; simp [*])
    · skip
      first
        | (simp only [HB, reduceCtorEq] at c30; done)
        | (try simp only [HB] at c30
           exfalso; omega)
        | skip
          try simp only [HB] at c30
          refine cw_skip ?_
          refine h26 _ _ ?_
          refine cw_seq (fun K29 h29 => ?_)
          refine cw_region (lq_run ?_)
          simp (maxSteps := 500000) (decide := true) (disch := omega) only [EV, ↓reduceIte, Nat.reduceAdd, tt153]
          refine lq_nil ?_
          refine h29 _ _ ?_
          refine cw_seq (fun K30 h30 => ?_)
          refine cw_seq (fun K31 h31 => ?_)
          refine cw_region (lq_run ?_)
          simp (maxSteps := 500000) (decide := true) (disch := omega) only [EV, ↓reduceIte, Nat.reduceAdd, tt153]
          refine lq_load H rfl ?_
          simp (maxSteps := 500000) (decide := true) (disch := omega) only [EV, ↓reduceIte, Nat.reduceAdd, tt153]
          refine lq_sub 0 n n rfl rfl ⟨_, _, rfl, rfl⟩ ⟨by omega, by omega, nofun⟩ (by omega) ?_
          have hR := (hR0.appR (F := F)).sub 0 n c (by omega)
          rw [List.drop_zero] at hR
          have htl : (rest.take n).length = n := by simp; omega
          simp (maxSteps := 500000) (decide := true) (disch := omega) only [EV, ↓reduceIte, Nat.reduceAdd, tt153]
          refine lq_nil ?_
          refine h31 _ _ ?_
          refine cw_block ?_
          refine cw_loopC (X := List UInt8 × List UInt8) [(4, _), (5, _), (36, _), (37, _)] (fun x => [(6, .int .u64 (beV x.1)), (38, .int .i64 (x.1.length : Int))]) (fun x w => rest.take n = x.1 ++ x.2 ∧ Own (Ce p ([.slice ao rest.length c, .int .i64 e], 182) ::  (R ++ F)) w) (fun x => x.2.length) ([], rest.take n) (.c rfl (.c rfl (.c rfl (.c rfl .n)))) (.c rfl (.c rfl .n)) ⟨rfl, H⟩ ?_
          rintro ⟨d, r⟩ w ⟨hd, H⟩
          simp only [List.cons_append, List.nil_append]
          simp only at hd H ⊢
          refine cw_seq (fun K32 h32 => ?_)
          refine cw_region (lq_run ?_)
          simp (maxSteps := 500000) (decide := true) (disch := omega) only [EV, ↓reduceIte, Nat.reduceAdd, tt153]
          refine lq_nil ?_
          refine h32 _ _ ?_
          refine cw_seq (fun K33 h33 => ?_)
          refine cw_condB rfl (fun c39 => ?_) (fun c39 => ?_)
          · skip
            try simp only [HB] at c39
            rw [← htl] at c39
            obtain ⟨s, r', rfl, he⟩ := zip_more hd c39
            have hv := beV_lt7 (l := d) (by omega)
            refine cw_skip ?_
            refine h33 _ _ ?_
            refine cw_seq (fun K34 h34 => ?_)
            refine cw_block ?_
            refine cw_seq (fun K35 h35 => ?_)
            refine cw_region (lq_run ?_)
            simp (maxSteps := 500000) (decide := true) (disch := omega) only [EV, ↓reduceIte, Nat.reduceAdd, tt153]
            refine lq_idx (i' := d.length) H rfl rfl hR (by omega) rfl he ?_
            simp (maxSteps := 500000) (decide := true) (disch := omega) only [EV, ↓reduceIte, Nat.reduceAdd, tt153]
            refine lq_loadE H rfl hR he rfl ?_
            simp (maxSteps := 500000) (decide := true) (disch := omega) only [EV, ↓reduceIte, Nat.reduceAdd, tt153]
            refine lq_nil ?_
            refine h35 _ _ ?_
            refine cw_region (lq_run ?_)
            simp (maxSteps := 500000) (decide := true) (disch := omega) only [EV, ↓reduceIte, Nat.reduceAdd, tt153]
            refine lq_nil ?_
            refine h34 _ _ ?_
            refine cw_region (lq_run ?_)
            simp (maxSteps := 500000) (decide := true) (disch := omega) only [EV, ↓reduceIte, Nat.reduceAdd, tt153]
            refine lq_nil ?_
            refine Exists.intro (d ++ [s], r') ⟨⟨(.c (by rw [beV_snoc, ← beV_step (beV d) s hv]; rfl) (.c (by rw [List.length_append]; rfl) .n)), (.c rfl (.c rfl (.c rfl (.c rfl .n))))⟩, ⟨by simp [hd], H⟩, (by simp)⟩
          · skip
            try simp only [HB] at c39
            rw [← htl] at c39
            obtain ⟨rfl, hd'⟩ := zip_done hd c39
            refine cw_exit ?_
            refine h30 _ _ ?_
            refine cw_seq (fun K36 h36 => ?_)
            refine cw_region (lq_run ?_)
            simp (maxSteps := 500000) (decide := true) (disch := omega) only [EV, ↓reduceIte, Nat.reduceAdd, tt153]
            refine lq_nil ?_
            refine h36 _ _ ?_
            refine cw_ret ?_
            try simp (decide := true) only [EX, ↓reduceIte]
            refine ret2 rfl rfl ?_
            first
              | (have hr : pkE rest e n = 4 := if_pos (by omega)
                 rw [hr]; exact ⟨by simp, H.rrC hR0 rfl hc⟩)
              | (have hr : pkE rest e n = e := if_neg (by omega)
                 rw [hr]; refine ⟨?_, H.rrC hR0 rfl hc⟩; simp [*])

def mx (m : Int) : Int := if m < 0 then 0 else m
def rdNum (n : Nat) (x : List UInt8 × Int) : Int × (List UInt8 × Int) :=
  if pkE x.1 x.2 n = 0 then (beV (x.1.take n), (x.1.drop n, 0)) else (0, (x.1, pkE x.1 x.2 n))
theorem rdNum_pos {n : Nat} {rest : List UInt8} {e : Int} (h : pkE rest e n = 0) : rdNum n (rest, e) = (beV (rest.take n), (rest.drop n, 0)) := if_pos h
theorem rdNum_neg {n : Nat} {rest : List UInt8} {e : Int} (h : ¬ pkE rest e n = 0) : rdNum n (rest, e) = (0, (rest, pkE rest e n)) := if_neg h
def rdBd (most : Int) (x : List UInt8 × Int) : (Int × Bool) × (List UInt8 × Int) :=
  if pkE x.1 x.2 4 = 0 then (if mx most < beV (x.1.take 4) then ((0, false), (x.1, 3)) else ((beV (x.1.take 4), true), (x.1, 0))) else ((0, false), (x.1, pkE x.1 x.2 4))
def rdCount (most : Int) (x : List UInt8 × Int) : Int × (List UInt8 × Int) :=
  if (rdBd most x).1.2 = true then ((rdBd most x).1.1, (x.1.drop 4, (rdBd most x).2.2)) else ((rdBd most x).1.1, (rdBd most x).2)
def rdText (most : Int) (x : List UInt8 × Int) : ByteArray × (List UInt8 × Int) :=
  if (rdBd most x).1.2 = true then
    (if (x.1.length : Int) - 4 < (rdBd most x).1.1 then (ByteArray.empty, (x.1, 4))
     else (bs ((x.1.drop 4).take (rdBd most x).1.1.toNat), (x.1.drop (4 + (rdBd most x).1.1.toNat), (rdBd most x).2.2)))
  else (ByteArray.empty, (rdBd most x).2)
theorem pkE_zero {rest : List UInt8} {e n : Int} : pkE rest e n = 0 ↔ e = 0 ∧ n ≤ rest.length := by
  unfold pkE; split <;> omega
theorem beV_lt4 {l : List UInt8} (h : l.length ≤ 4) : 0 ≤ beV l ∧ beV l < 4294967296 := by
  have h1 := beV_bound l
  have h2 := Nat.pow_le_pow_right (n := 256) (by decide) h
  have h3 : (256 : Int) ^ l.length = ((256 ^ l.length : Nat) : Int) := by simp
  omega
theorem beV_take4 (l : List UInt8) : 0 ≤ beV (l.take 4) ∧ beV (l.take 4) < 4294967296 := beV_lt4 (by simp; omega)
theorem rnumber_ok {R : List HP} {p : Nat} {rest : List UInt8} {e : Int} {F : List HP} {w : World} {n : Nat} (H : Own (Rr R p (rest, e) :: F) w) (hn : n ≤ 8) (hl : rest.length ≤ 1099511627776) :
  Cl Tryz.prog 97 #[.pointer (some ⟨p, 0, none⟩), .int .i64 n] w fun v w' => v = .int .u64 (rdNum n (rest, e)).1 ∧ Own (Rr R p (rdNum n (rest, e)).2 :: F) w' := by
  refine cl_of_cw Tryz.func97 rfl ?_
  simp only [Tryz.ntmps97, envA, List.size_toArray, List.length_cons, List.length_nil, Nat.reduceAdd, Nat.reduceSub]
  refine cw_seq (fun K1 h1 => ?_)
  refine cw_region (lq_run ?_)
  simp (maxSteps := 500000) (decide := true) (disch := omega) only [EV, ↓reduceIte, Nat.reduceAdd, tt97]
  refine lq_nil ?_
  refine h1 _ _ ?_
  refine cw_seq (fun K2 h2 => ?_)
  refine cw_region (lq_run ?_)
  simp (maxSteps := 500000) (decide := true) (disch := omega) only [EV, ↓reduceIte, Nat.reduceAdd, tt97]
  refine lq_call rfl ?_
  refine Cl.mono (rpeek_ok (n := n) H (by omega) hl) ?_
  rintro _ w ⟨rfl, H⟩
  simp (maxSteps := 500000) (decide := true) (disch := omega) only [EV, ↓reduceIte, Nat.reduceAdd, tt97]
  refine lq_nil ?_
  refine h2 _ _ ?_
  refine cw_seq (fun K3 h3 => ?_)
  refine cw_seq (fun K4 h4 => ?_)
  refine cw_region (lq_run ?_)
  simp (maxSteps := 500000) (decide := true) (disch := omega) only [EV, ↓reduceIte, Nat.reduceAdd, tt97]
  refine lq_nil ?_
  refine h4 _ _ ?_
  refine cw_condB rfl (fun c13 => ?_) (fun c13 => ?_)
  · skip
    try simp only [HB] at c13
    have hz := pkE_zero.1 c13
    rw [c13] at H
    obtain ⟨ao, c, hc, hR0, H⟩ := H.rrO
    simp only at H hc hR0
    refine cw_region (lq_run ?_)
    simp (maxSteps := 500000) (decide := true) (disch := omega) only [EV, ↓reduceIte, Nat.reduceAdd, tt97]
    refine lq_load H rfl ?_
    simp (maxSteps := 500000) (decide := true) (disch := omega) only [EV, ↓reduceIte, Nat.reduceAdd, tt97]
    refine lq_sub n rest.length (rest.length - n) rfl ⟨_, _, rfl, rfl⟩ rfl ⟨by omega, by omega, fun _ => by omega⟩ rfl ?_
    simp (maxSteps := 500000) (decide := true) (disch := omega) only [EV, ↓reduceIte, Nat.reduceAdd, tt97]
    refine lq_st H rfl rfl rfl (fun w H => ?_)
    try simp only [ES] at H
    simp (maxSteps := 500000) (decide := true) (disch := omega) only [EV, ↓reduceIte, Nat.reduceAdd, tt97]
    refine lq_nil ?_
    refine h3 _ _ ?_
    refine cw_seq (fun K5 h5 => ?_)
    refine cw_region (lq_run ?_)
    simp (maxSteps := 500000) (decide := true) (disch := omega) only [EV, ↓reduceIte, Nat.reduceAdd, tt97]
    refine lq_nil ?_
    refine h5 _ _ ?_
    refine cw_ret ?_
    try simp (decide := true) only [EX, ↓reduceIte]
    refine ret1 rfl ?_
    rw [rdNum_pos c13]; refine ⟨by simp [c13], H.rrC ?_ (by simp) (by omega)⟩
    have := hR0.sub n rest.length c (by omega)
    rwa [List.take_length] at this
  · skip
    try simp only [HB] at c13
    refine cw_skip ?_
    refine h3 _ _ ?_
    refine cw_seq (fun K6 h6 => ?_)
    refine cw_region (lq_run ?_)
    simp (maxSteps := 500000) (decide := true) (disch := omega) only [EV, ↓reduceIte, Nat.reduceAdd, tt97]
    refine lq_nil ?_
    refine h6 _ _ ?_
    refine cw_ret ?_
    try simp (decide := true) only [EX, ↓reduceIte]
    refine ret1 rfl ?_
    rw [rdNum_neg c13]; exact ⟨by simp [c13], H⟩

theorem rdNum_range {n : Nat} (hn : n ≤ 8) (x : List UInt8 × Int) : 0 ≤ (rdNum n x).1 ∧ (rdNum n x).1 < 256 ^ n := by
  have hp : (0 : Int) < 256 ^ n := Int.pow_pos (by decide)
  unfold rdNum
  split
  · rename_i h
    have h1 := beV_bound (x.1.take n)
    have h2 := pkE_zero.1 h
    have h3 : (x.1.take n).length = n := by simp; omega
    rw [h3] at h1; exact h1
  · exact ⟨Int.le_refl 0, hp⟩
theorem rdNum_len {n : Nat} (x : List UInt8 × Int) : (rdNum n x).2.1.length ≤ x.1.length := by
  unfold rdNum; split <;> simp
theorem rdBd_zero {most : Int} {rest : List UInt8} {e : Int} (h : pkE rest e 4 = 0) : rdBd most (rest, e) = (if mx most < beV (rest.take 4) then ((0, false), (rest, 3)) else ((beV (rest.take 4), true), (rest, 0))) := if_pos h
theorem rdBd_err {most : Int} {rest : List UInt8} {e : Int} (h : ¬ pkE rest e 4 = 0) : rdBd most (rest, e) = ((0, false), (rest, pkE rest e 4)) := if_neg h
theorem rdBd_rest {most : Int} {rest : List UInt8} {e : Int} : (rdBd most (rest, e)).2.1 = rest := by
  unfold rdBd; split
  · split <;> rfl
  · rfl
theorem rdBd_ok {most : Int} {rest : List UInt8} {e : Int} (h : (rdBd most (rest, e)).1.2 = true) : rdBd most (rest, e) = ((beV (rest.take 4), true), (rest, 0)) ∧ e = 0 ∧ 4 ≤ rest.length ∧ beV (rest.take 4) ≤ mx most := by
  unfold rdBd at h ⊢
  split at h
  · rename_i hz
    rw [if_pos hz]
    split at h
    · cases h
    · rename_i hm
      have := pkE_zero.1 hz
      simp only at this
      simp only at hm
      exact ⟨if_neg hm, this.1, by omega, by omega⟩
  · cases h
theorem rU8_ok {R : List HP} {p : Nat} {rest : List UInt8} {e : Int} {F : List HP} {w : World} (H : Own (Rr R p (rest, e) :: F) w) (hl : rest.length ≤ 1099511627776) :
  Cl Tryz.prog 38 #[.pointer (some ⟨p, 0, none⟩)] w fun v w' => v = .int .u8 (rdNum 1 (rest, e)).1 ∧ Own (Rr R p (rdNum 1 (rest, e)).2 :: F) w' := by
  refine cl_of_cw Tryz.func38 rfl ?_
  simp only [Tryz.ntmps38, envA, List.size_toArray, List.length_cons, List.length_nil, Nat.reduceAdd, Nat.reduceSub]
  have hr := rdNum_range (n := 1) (by omega) (rest, e)
  refine cw_seq (fun K1 h1 => ?_)
  refine cw_region (lq_run ?_)
  simp (maxSteps := 500000) (decide := true) (disch := omega) only [EV, ↓reduceIte, Nat.reduceAdd, tt38]
  refine lq_nil ?_
  refine h1 _ _ ?_
  refine cw_seq (fun K2 h2 => ?_)
  refine cw_region (lq_run ?_)
  simp (maxSteps := 500000) (decide := true) (disch := omega) only [EV, ↓reduceIte, Nat.reduceAdd, tt38]
  refine lq_call rfl ?_
  refine Cl.mono (rnumber_ok (n := 1) H (by omega) hl) ?_
  rintro _ w ⟨rfl, H⟩
  simp (maxSteps := 500000) (decide := true) (disch := omega) only [EV, ↓reduceIte, Nat.reduceAdd, tt38]
  refine lq_nil ?_
  refine h2 _ _ ?_
  refine cw_ret ?_
  try simp (decide := true) only [EX, ↓reduceIte]
  refine ret1 rfl ?_
  exact ⟨rfl, H⟩
theorem rU32_ok {R : List HP} {p : Nat} {rest : List UInt8} {e : Int} {F : List HP} {w : World} (H : Own (Rr R p (rest, e) :: F) w) (hl : rest.length ≤ 1099511627776) :
  Cl Tryz.prog 37 #[.pointer (some ⟨p, 0, none⟩)] w fun v w' => v = .int .u32 (rdNum 4 (rest, e)).1 ∧ Own (Rr R p (rdNum 4 (rest, e)).2 :: F) w' := by
  refine cl_of_cw Tryz.func37 rfl ?_
  simp only [Tryz.ntmps37, envA, List.size_toArray, List.length_cons, List.length_nil, Nat.reduceAdd, Nat.reduceSub]
  have hr := rdNum_range (n := 4) (by omega) (rest, e)
  refine cw_seq (fun K1 h1 => ?_)
  refine cw_region (lq_run ?_)
  simp (maxSteps := 500000) (decide := true) (disch := omega) only [EV, ↓reduceIte, Nat.reduceAdd, tt37]
  refine lq_nil ?_
  refine h1 _ _ ?_
  refine cw_seq (fun K2 h2 => ?_)
  refine cw_region (lq_run ?_)
  simp (maxSteps := 500000) (decide := true) (disch := omega) only [EV, ↓reduceIte, Nat.reduceAdd, tt37]
  refine lq_call rfl ?_
  refine Cl.mono (rnumber_ok (n := 4) H (by omega) hl) ?_
  rintro _ w ⟨rfl, H⟩
  simp (maxSteps := 500000) (decide := true) (disch := omega) only [EV, ↓reduceIte, Nat.reduceAdd, tt37]
  refine lq_nil ?_
  refine h2 _ _ ?_
  refine cw_ret ?_
  try simp (decide := true) only [EX, ↓reduceIte]
  refine ret1 rfl ?_
  exact ⟨rfl, H⟩
theorem rU64_ok {R : List HP} {p : Nat} {rest : List UInt8} {e : Int} {F : List HP} {w : World} (H : Own (Rr R p (rest, e) :: F) w) (hl : rest.length ≤ 1099511627776) :
  Cl Tryz.prog 39 #[.pointer (some ⟨p, 0, none⟩)] w fun v w' => v = .int .u64 (rdNum 8 (rest, e)).1 ∧ Own (Rr R p (rdNum 8 (rest, e)).2 :: F) w' := by
  refine cl_of_cw Tryz.func39 rfl ?_
  simp only [Tryz.ntmps39, envA, List.size_toArray, List.length_cons, List.length_nil, Nat.reduceAdd, Nat.reduceSub]
  have hr := rdNum_range (n := 8) (by omega) (rest, e)
  refine cw_seq (fun K1 h1 => ?_)
  refine cw_region (lq_run ?_)
  simp (maxSteps := 500000) (decide := true) (disch := omega) only [EV, ↓reduceIte, Nat.reduceAdd, tt39]
  refine lq_nil ?_
  refine h1 _ _ ?_
  refine cw_seq (fun K2 h2 => ?_)
  refine cw_region (lq_run ?_)
  simp (maxSteps := 500000) (decide := true) (disch := omega) only [EV, ↓reduceIte, Nat.reduceAdd, tt39]
  refine lq_call rfl ?_
  refine Cl.mono (rnumber_ok (n := 8) H (by omega) hl) ?_
  rintro _ w ⟨rfl, H⟩
  simp (maxSteps := 500000) (decide := true) (disch := omega) only [EV, ↓reduceIte, Nat.reduceAdd, tt39]
  refine lq_nil ?_
  refine h2 _ _ ?_
  refine cw_ret ?_
  try simp (decide := true) only [EX, ↓reduceIte]
  refine ret1 rfl ?_
  exact ⟨rfl, H⟩
theorem rbounded_ok {R : List HP} {p : Nat} {rest : List UInt8} {e : Int} {F : List HP} {w : World} {most : Int} (H : Own (Rr R p (rest, e) :: F) w) (hl : rest.length ≤ 1099511627776) (hm : most ≤ 4611686018427387904) :
  Cl Tryz.prog 98 #[.pointer (some ⟨p, 0, none⟩), .int .i64 most] w fun v w' => v = .tuple #[.int .i64 (rdBd most (rest, e)).1.1, .bool (rdBd most (rest, e)).1.2] ∧ Own (Rr R p (rdBd most (rest, e)).2 :: F) w' := by
  refine cl_of_cw Tryz.func98 rfl ?_
  simp only [Tryz.ntmps98, envA, List.size_toArray, List.length_cons, List.length_nil, Nat.reduceAdd, Nat.reduceSub]
  have ht4 := beV_take4 rest
  refine cw_seq (fun K1 h1 => ?_)
  refine cw_region (lq_run ?_)
  simp (maxSteps := 500000) (decide := true) (disch := omega) only [EV, ↓reduceIte, Nat.reduceAdd, tt98]
  refine lq_nil ?_
  refine h1 _ _ ?_
  refine cw_seq (fun K2 h2 => ?_)
  refine cw_region (lq_run ?_)
  simp (maxSteps := 500000) (decide := true) (disch := omega) only [EV, ↓reduceIte, Nat.reduceAdd, tt98]
  refine lq_call rfl ?_
  refine Cl.mono (rpeek_ok (n := 4) H (by omega) hl) ?_
  rintro _ w ⟨rfl, H⟩
  simp only [Int.cast_ofNat_Int] at H ⊢
  simp (maxSteps := 500000) (decide := true) (disch := omega) only [EV, ↓reduceIte, Nat.reduceAdd, tt98]
  refine lq_nil ?_
  refine h2 _ _ ?_
  refine cw_seq (fun K3 h3 => ?_)
  refine cw_seq (fun K4 h4 => ?_)
  refine cw_region (lq_run ?_)
  simp (maxSteps := 500000) (decide := true) (disch := omega) only [EV, ↓reduceIte, Nat.reduceAdd, tt98]
  refine lq_G (fun g14 => ?_) (fun g14 => ?_)
  · try simp only [HB] at g14
    simp (maxSteps := 500000) (decide := true) (disch := omega) only [EV, ↓reduceIte, Nat.reduceAdd, tt98]
    refine lq_nil ?_
    refine h4 _ _ ?_
    refine cw_condB rfl (fun c20 => ?_) (fun c20 => ?_)
    · skip
      try simp only [HB] at c20
      refine cw_seq (fun K5 h5 => ?_)
      refine cw_region (lq_run ?_)
      simp (maxSteps := 500000) (decide := true) (disch := omega) only [EV, ↓reduceIte, Nat.reduceAdd, tt98]
      obtain ⟨ao, c, hc, hR0, H⟩ := H.rrO
      simp only at H hc hR0
      refine lq_st H rfl rfl rfl (fun w H => ?_)
      try simp only [ES] at H
      simp (maxSteps := 500000) (decide := true) (disch := omega) only [EV, ↓reduceIte, Nat.reduceAdd, tt98]
      refine lq_nil ?_
      refine h5 _ _ ?_
      refine cw_seq (fun K6 h6 => ?_)
      refine cw_region (lq_run ?_)
      simp (maxSteps := 500000) (decide := true) (disch := omega) only [EV, ↓reduceIte, Nat.reduceAdd, tt98]
      refine lq_nil ?_
      refine h6 _ _ ?_
      refine cw_ret ?_
      try simp (decide := true) only [EX, ↓reduceIte]
      refine ret2 rfl rfl ?_
      rw [if_pos g14] at c20; rw [rdBd_zero g14, if_pos (show mx most < _ from c20)]; exact ⟨rfl, H.rrC hR0 rfl hc⟩
    · skip
      try simp only [HB] at c20
      refine cw_skip ?_
      refine h3 _ _ ?_
      refine cw_seq (fun K7 h7 => ?_)
      refine cw_region (lq_run ?_)
      simp (maxSteps := 500000) (decide := true) (disch := omega) only [EV, ↓reduceIte, Nat.reduceAdd, tt98]
      refine lq_nil ?_
      refine h7 _ _ ?_
      refine cw_ret ?_
      try simp (decide := true) only [EX, ↓reduceIte]
      refine ret2 rfl rfl ?_
      rw [if_pos g14] at c20; rw [rdBd_zero g14, if_neg (show ¬ mx most < _ from Int.not_lt.2 c20)]; simp only [g14, if_true] at H ⊢; exact ⟨by simp, H⟩
  · try simp only [HB] at g14
    simp (maxSteps := 500000) (decide := true) (disch := omega) only [EV, ↓reduceIte, Nat.reduceAdd, tt98]
    refine lq_nil ?_
    refine h4 _ _ ?_
    refine cw_condF rfl ?_
    refine cw_skip ?_
    refine h3 _ _ ?_
    refine cw_seq (fun K8 h8 => ?_)
    refine cw_region (lq_run ?_)
    simp (maxSteps := 500000) (decide := true) (disch := omega) only [EV, ↓reduceIte, Nat.reduceAdd, tt98]
    refine lq_nil ?_
    refine h8 _ _ ?_
    refine cw_ret ?_
    try simp (decide := true) only [EX, ↓reduceIte]
    refine ret2 rfl rfl ?_
    rw [rdBd_err g14, if_neg g14]; exact ⟨by simp [g14], H⟩
theorem rCount_ok {R : List HP} {p : Nat} {rest : List UInt8} {e : Int} {F : List HP} {w : World} {most : Int} (H : Own (Rr R p (rest, e) :: F) w) (hl : rest.length ≤ 1099511627776) (hm : most ≤ 4611686018427387904) :
  Cl Tryz.prog 41 #[.pointer (some ⟨p, 0, none⟩), .int .i64 most] w fun v w' => v = .int .i64 (rdCount most (rest, e)).1 ∧ Own (Rr R p (rdCount most (rest, e)).2 :: F) w' := by
  refine cl_of_cw Tryz.func41 rfl ?_
  simp only [Tryz.ntmps41, envA, List.size_toArray, List.length_cons, List.length_nil, Nat.reduceAdd, Nat.reduceSub]
  have ht4 := beV_take4 rest
  refine cw_seq (fun K1 h1 => ?_)
  refine cw_region (lq_run ?_)
  simp (maxSteps := 500000) (decide := true) (disch := omega) only [EV, ↓reduceIte, Nat.reduceAdd, tt41]
  refine lq_nil ?_
  refine h1 _ _ ?_
  refine cw_seq (fun K2 h2 => ?_)
  refine cw_region (lq_run ?_)
  simp (maxSteps := 500000) (decide := true) (disch := omega) only [EV, ↓reduceIte, Nat.reduceAdd, tt41]
  refine lq_call rfl ?_
  refine Cl.mono (rbounded_ok H hl hm) ?_
  rintro _ w ⟨rfl, H⟩
  simp (maxSteps := 500000) (decide := true) (disch := omega) only [EV, ↓reduceIte, Nat.reduceAdd, tt41]
  refine lq_nil ?_
  refine h2 _ _ ?_
  refine cw_seq (fun K3 h3 => ?_)
  refine cw_seq (fun K4 h4 => ?_)
  refine cw_region (lq_run ?_)
  simp (maxSteps := 500000) (decide := true) (disch := omega) only [EV, ↓reduceIte, Nat.reduceAdd, tt41]
  refine lq_nil ?_
  refine h4 _ _ ?_
  refine cw_condB rfl (fun c13 => ?_) (fun c13 => ?_)
  · skip
    try simp only [HB] at c13
    have hk := rdBd_ok c13
    rw [hk.1] at H
    obtain ⟨ao, c, hc, hR0, H⟩ := H.rrO
    simp only at H hc hR0
    refine cw_region (lq_run ?_)
    simp (maxSteps := 500000) (decide := true) (disch := omega) only [EV, ↓reduceIte, Nat.reduceAdd, tt41]
    refine lq_load H rfl ?_
    simp (maxSteps := 500000) (decide := true) (disch := omega) only [EV, ↓reduceIte, Nat.reduceAdd, tt41]
    refine lq_sub 4 rest.length (rest.length - 4) rfl ⟨_, _, rfl, rfl⟩ rfl ⟨by omega, by omega, fun _ => by omega⟩ rfl ?_
    simp (maxSteps := 500000) (decide := true) (disch := omega) only [EV, ↓reduceIte, Nat.reduceAdd, tt41]
    refine lq_st H rfl rfl rfl (fun w H => ?_)
    try simp only [ES] at H
    simp (maxSteps := 500000) (decide := true) (disch := omega) only [EV, ↓reduceIte, Nat.reduceAdd, tt41]
    refine lq_nil ?_
    refine h3 _ _ ?_
    refine cw_seq (fun K5 h5 => ?_)
    refine cw_region (lq_run ?_)
    simp (maxSteps := 500000) (decide := true) (disch := omega) only [EV, ↓reduceIte, Nat.reduceAdd, tt41]
    refine lq_nil ?_
    refine h5 _ _ ?_
    refine cw_ret ?_
    try simp (decide := true) only [EX, ↓reduceIte]
    refine ret1 rfl ?_
    rw [rdCount, if_pos c13, hk.1]; refine ⟨rfl, H.rrC ?_ (by simp) (by omega)⟩
    have := hR0.sub 4 rest.length c (by omega)
    rwa [List.take_length] at this
  · skip
    try simp only [HB] at c13
    refine cw_skip ?_
    refine h3 _ _ ?_
    refine cw_seq (fun K6 h6 => ?_)
    refine cw_region (lq_run ?_)
    simp (maxSteps := 500000) (decide := true) (disch := omega) only [EV, ↓reduceIte, Nat.reduceAdd, tt41]
    refine lq_nil ?_
    refine h6 _ _ ?_
    refine cw_ret ?_
    try simp (decide := true) only [EX, ↓reduceIte]
    refine ret1 rfl ?_
    rw [rdCount, if_neg (by simp [c13])]; exact ⟨rfl, H⟩
theorem rErr_ok {R : List HP} {p : Nat} {rest : List UInt8} {e : Int} {F : List HP} {w : World} (H : Own (Rr R p (rest, e) :: F) w) :
  Cl Tryz.prog 42 #[.pointer (some ⟨p, 0, none⟩)] w fun v w' => v = .int .i64 e ∧ Own (Rr R p (rest, e) :: F) w' := by
  refine cl_of_cw Tryz.func42 rfl ?_
  simp only [Tryz.ntmps42, envA, List.size_toArray, List.length_cons, List.length_nil, Nat.reduceAdd, Nat.reduceSub]
  obtain ⟨ao, c, hc, hR0, H⟩ := H.rrO
  simp only at H hc hR0
  refine cw_seq (fun K1 h1 => ?_)
  refine cw_region (lq_run ?_)
  simp (maxSteps := 500000) (decide := true) (disch := omega) only [EV, ↓reduceIte, Nat.reduceAdd, tt42]
  refine lq_nil ?_
  refine h1 _ _ ?_
  refine cw_seq (fun K2 h2 => ?_)
  refine cw_region (lq_run ?_)
  simp (maxSteps := 500000) (decide := true) (disch := omega) only [EV, ↓reduceIte, Nat.reduceAdd, tt42]
  refine lq_load H rfl ?_
  simp (maxSteps := 500000) (decide := true) (disch := omega) only [EV, ↓reduceIte, Nat.reduceAdd, tt42]
  refine lq_nil ?_
  refine h2 _ _ ?_
  refine cw_ret ?_
  try simp (decide := true) only [EX, ↓reduceIte]
  refine ret1 rfl ?_
  exact ⟨rfl, H.rrC hR0 rfl hc⟩
theorem rEnd_ok {R : List HP} {p : Nat} {rest : List UInt8} {e : Int} {F : List HP} {w : World} (H : Own (Rr R p (rest, e) :: F) w) (hl : rest.length ≤ 1099511627776) :
  Cl Tryz.prog 45 #[.pointer (some ⟨p, 0, none⟩)] w fun v w' => v = .int .i64 (if e = 0 ∧ rest ≠ [] then 5 else e) ∧ Own (Rr R p (rest, e) :: F) w' := by
  refine cl_of_cw Tryz.func45 rfl ?_
  simp only [Tryz.ntmps45, envA, List.size_toArray, List.length_cons, List.length_nil, Nat.reduceAdd, Nat.reduceSub]
  obtain ⟨ao, c, hc, hR0, H⟩ := H.rrO
  simp only at H hc hR0
  refine cw_seq (fun K1 h1 => ?_)
  refine cw_region (lq_run ?_)
  simp (maxSteps := 500000) (decide := true) (disch := omega) only [EV, ↓reduceIte, Nat.reduceAdd, tt45]
  refine lq_nil ?_
  refine h1 _ _ ?_
  refine cw_seq (fun K2 h2 => ?_)
  refine cw_seq (fun K3 h3 => ?_)
  refine cw_region (lq_run ?_)
  simp (maxSteps := 500000) (decide := true) (disch := omega) only [EV, ↓reduceIte, Nat.reduceAdd, tt45]
  refine lq_load H rfl ?_
  simp (maxSteps := 500000) (decide := true) (disch := omega) only [EV, ↓reduceIte, Nat.reduceAdd, tt45]
  refine lq_G (fun g8 => ?_) (fun g8 => ?_)
  · try simp only [HB] at g8
    simp (maxSteps := 500000) (decide := true) (disch := omega) only [EV, ↓reduceIte, Nat.reduceAdd, tt45]
    refine lq_load H rfl ?_
    simp (maxSteps := 500000) (decide := true) (disch := omega) only [EV, ↓reduceIte, Nat.reduceAdd, tt45]
    refine lq_nil ?_
    refine h3 _ _ ?_
    refine cw_condB rfl (fun c15 => ?_) (fun c15 => ?_)
    · skip
      try simp only [HB] at c15
      refine cw_seq (fun K4 h4 => ?_)
      refine cw_region (lq_run ?_)
      simp (maxSteps := 500000) (decide := true) (disch := omega) only [EV, ↓reduceIte, Nat.reduceAdd, tt45]
      refine lq_nil ?_
      refine h4 _ _ ?_
      refine cw_ret ?_
      try simp (decide := true) only [EX, ↓reduceIte]
      refine ret1 rfl ?_
      refine ⟨?_, H.rrC hR0 rfl hc⟩
      rw [if_pos ⟨g8, by rintro rfl; simp at c15⟩]
    · skip
      try simp only [HB] at c15
      refine cw_skip ?_
      refine h2 _ _ ?_
      refine cw_seq (fun K5 h5 => ?_)
      refine cw_region (lq_run ?_)
      simp (maxSteps := 500000) (decide := true) (disch := omega) only [EV, ↓reduceIte, Nat.reduceAdd, tt45]
      refine lq_load H rfl ?_
      simp (maxSteps := 500000) (decide := true) (disch := omega) only [EV, ↓reduceIte, Nat.reduceAdd, tt45]
      refine lq_nil ?_
      refine h5 _ _ ?_
      refine cw_ret ?_
      try simp (decide := true) only [EX, ↓reduceIte]
      refine ret1 rfl ?_
      refine ⟨?_, H.rrC hR0 rfl hc⟩
      rw [if_neg (fun q => q.2 (List.eq_nil_of_length_eq_zero (by omega)))]
  · try simp only [HB] at g8
    simp (maxSteps := 500000) (decide := true) (disch := omega) only [EV, ↓reduceIte, Nat.reduceAdd, tt45]
    refine lq_nil ?_
    refine h3 _ _ ?_
    refine cw_condF rfl ?_
    refine cw_skip ?_
    refine h2 _ _ ?_
    refine cw_seq (fun K6 h6 => ?_)
    refine cw_region (lq_run ?_)
    simp (maxSteps := 500000) (decide := true) (disch := omega) only [EV, ↓reduceIte, Nat.reduceAdd, tt45]
    refine lq_load H rfl ?_
    simp (maxSteps := 500000) (decide := true) (disch := omega) only [EV, ↓reduceIte, Nat.reduceAdd, tt45]
    refine lq_nil ?_
    refine h6 _ _ ?_
    refine cw_ret ?_
    try simp (decide := true) only [EX, ↓reduceIte]
    refine ret1 rfl ?_
    refine ⟨?_, H.rrC hR0 rfl hc⟩
    rw [if_neg (fun q => g8 q.1)]

theorem rdText_err {most : Int} {rest : List UInt8} {e : Int} (h : (rdBd most (rest, e)).1.2 = false) : rdText most (rest, e) = (ByteArray.empty, (rdBd most (rest, e)).2) := if_neg (by simp [h])
theorem rdText_short {most : Int} {rest : List UInt8} {e : Int} (h : (rdBd most (rest, e)).1.2 = true) (h2 : (rest.length : Int) - 4 < (rdBd most (rest, e)).1.1) : rdText most (rest, e) = (ByteArray.empty, (rest, 4)) := by rw [rdText, if_pos h, if_pos h2]
theorem rdText_ok {most : Int} {rest : List UInt8} {e : Int} (h : (rdBd most (rest, e)).1.2 = true) (h2 : ¬ (rest.length : Int) - 4 < (rdBd most (rest, e)).1.1) : rdText most (rest, e) = (bs ((rest.drop 4).take (rdBd most (rest, e)).1.1.toNat), (rest.drop (4 + (rdBd most (rest, e)).1.1.toNat), (rdBd most (rest, e)).2.2)) := by rw [rdText, if_pos h, if_neg h2]
theorem rText_ok {R : List HP} {p : Nat} {rest : List UInt8} {e : Int} {F : List HP} {w : World} {most : Int} (H : Own (Rr R p (rest, e) :: F) w) (hl : rest.length ≤ 1099511627776) (hm : most ≤ 4611686018427387904) :
  Cl Tryz.prog 43 #[.pointer (some ⟨p, 0, none⟩), .int .i64 most] w fun v w' => v = .string (rdText most (rest, e)).1 ∧ Own (Rr R p (rdText most (rest, e)).2 :: F) w' := by
  refine cl_of_cw Tryz.func43 rfl ?_
  simp only [Tryz.ntmps43, envA, List.size_toArray, List.length_cons, List.length_nil, Nat.reduceAdd, Nat.reduceSub]
  have ht4 := beV_take4 rest
  refine cw_seq (fun K1 h1 => ?_)
  refine cw_region (lq_run ?_)
  simp (maxSteps := 500000) (decide := true) (disch := omega) only [EV, ↓reduceIte, Nat.reduceAdd, tt43]
  refine lq_nil ?_
  refine h1 _ _ ?_
  refine cw_seq (fun K2 h2 => ?_)
  refine cw_region (lq_run ?_)
  simp (maxSteps := 500000) (decide := true) (disch := omega) only [EV, ↓reduceIte, Nat.reduceAdd, tt43]
  refine lq_call rfl ?_
  refine Cl.mono (rbounded_ok H hl hm) ?_
  rintro _ w ⟨rfl, H⟩
  simp (maxSteps := 500000) (decide := true) (disch := omega) only [EV, ↓reduceIte, Nat.reduceAdd, tt43]
  refine lq_nil ?_
  refine h2 _ _ ?_
  refine cw_seq (fun K3 h3 => ?_)
  refine cw_seq (fun K4 h4 => ?_)
  refine cw_region (lq_run ?_)
  simp (maxSteps := 500000) (decide := true) (disch := omega) only [EV, ↓reduceIte, Nat.reduceAdd, tt43]
  refine lq_nil ?_
  refine h4 _ _ ?_
  refine cw_condB rfl (fun c15 => ?_) (fun c15 => ?_)
  · skip
    try simp only [HB] at c15
    refine cw_seq (fun K5 h5 => ?_)
    refine cw_region (lq_run ?_)
    simp (maxSteps := 500000) (decide := true) (disch := omega) only [EV, ↓reduceIte, Nat.reduceAdd, tt43]
    refine lq_nil ?_
    refine h5 _ _ ?_
    refine cw_ret ?_
    try simp (decide := true) only [EX, ↓reduceIte]
    refine ret1 rfl ?_
    rw [rdText_err (by simpa using c15)]; exact ⟨rfl, H⟩
  · skip
    try simp only [HB] at c15
    have hk := rdBd_ok c15
    rw [hk.1] at H
    obtain ⟨ao, c, hc, hR0, H⟩ := H.rrO
    simp only at H hc hR0
    have hv : 0 ≤ (rdBd most (rest, e)).1.1 ∧ (rdBd most (rest, e)).1.1 < 4294967296 := by rw [hk.1]; exact ht4
    refine cw_skip ?_
    refine h3 _ _ ?_
    refine cw_seq (fun K6 h6 => ?_)
    refine cw_seq (fun K7 h7 => ?_)
    refine cw_region (lq_run ?_)
    simp (maxSteps := 500000) (decide := true) (disch := omega) only [EV, ↓reduceIte, Nat.reduceAdd, tt43]
    refine lq_load H rfl ?_
    simp (maxSteps := 500000) (decide := true) (disch := omega) only [EV, ↓reduceIte, Nat.reduceAdd, tt43]
    refine lq_nil ?_
    refine h7 _ _ ?_
    refine cw_condB rfl (fun c23 => ?_) (fun c23 => ?_)
    · skip
      try simp only [HB] at c23
      refine cw_seq (fun K8 h8 => ?_)
      refine cw_region (lq_run ?_)
      simp (maxSteps := 500000) (decide := true) (disch := omega) only [EV, ↓reduceIte, Nat.reduceAdd, tt43]
      refine lq_st H rfl rfl rfl (fun w H => ?_)
      try simp only [ES] at H
      simp (maxSteps := 500000) (decide := true) (disch := omega) only [EV, ↓reduceIte, Nat.reduceAdd, tt43]
      refine lq_nil ?_
      refine h8 _ _ ?_
      refine cw_seq (fun K9 h9 => ?_)
      refine cw_region (lq_run ?_)
      simp (maxSteps := 500000) (decide := true) (disch := omega) only [EV, ↓reduceIte, Nat.reduceAdd, tt43]
      refine lq_nil ?_
      refine h9 _ _ ?_
      refine cw_ret ?_
      try simp (decide := true) only [EX, ↓reduceIte]
      refine ret1 rfl ?_
      rw [rdText_short c15 c23]; exact ⟨rfl, H.rrC hR0 rfl hc⟩
    · skip
      try simp only [HB] at c23
      refine cw_skip ?_
      refine h6 _ _ ?_
      refine cw_seq (fun K10 h10 => ?_)
      refine cw_region (lq_run ?_)
      simp (maxSteps := 500000) (decide := true) (disch := omega) only [EV, ↓reduceIte, Nat.reduceAdd, tt43]
      refine lq_load H rfl ?_
      simp (maxSteps := 500000) (decide := true) (disch := omega) only [EV, ↓reduceIte, Nat.reduceAdd, tt43]
      obtain ⟨m, hm'⟩ : ∃ m : Nat, (rdBd most (rest, e)).1.1 = m := ⟨(rdBd most (rest, e)).1.1.toNat, by omega⟩
      refine lq_sub 4 (4 + m) m rfl ⟨_, _, rfl, rfl⟩ ⟨_, _, rfl, by omega⟩ ⟨by omega, by omega, nofun⟩ (by omega) ?_
      have hR1 := hR0.appR (F := F) |>.sub 4 (4 + m) c (by omega)
      simp (maxSteps := 500000) (decide := true) (disch := omega) only [EV, ↓reduceIte, Nat.reduceAdd, tt43]
      refine lq_str H rfl hR1 (by simp; omega) ?_
      simp (maxSteps := 500000) (decide := true) (disch := omega) only [EV, ↓reduceIte, Nat.reduceAdd, tt43]
      refine lq_nil ?_
      refine h10 _ _ ?_
      refine cw_seq (fun K11 h11 => ?_)
      refine cw_region (lq_run ?_)
      simp (maxSteps := 500000) (decide := true) (disch := omega) only [EV, ↓reduceIte, Nat.reduceAdd, tt43]
      refine lq_load H rfl ?_
      simp (maxSteps := 500000) (decide := true) (disch := omega) only [EV, ↓reduceIte, Nat.reduceAdd, tt43]
      refine lq_sub (4 + m) rest.length (rest.length - (4 + m)) rfl ⟨_, _, rfl, by omega⟩ rfl ⟨by omega, by omega, fun _ => by omega⟩ rfl ?_
      simp (maxSteps := 500000) (decide := true) (disch := omega) only [EV, ↓reduceIte, Nat.reduceAdd, tt43]
      refine lq_st H rfl rfl rfl (fun w H => ?_)
      try simp only [ES] at H
      simp (maxSteps := 500000) (decide := true) (disch := omega) only [EV, ↓reduceIte, Nat.reduceAdd, tt43]
      refine lq_nil ?_
      refine h11 _ _ ?_
      refine cw_seq (fun K12 h12 => ?_)
      refine cw_region (lq_run ?_)
      simp (maxSteps := 500000) (decide := true) (disch := omega) only [EV, ↓reduceIte, Nat.reduceAdd, tt43]
      refine lq_nil ?_
      refine h12 _ _ ?_
      refine cw_ret ?_
      try simp (decide := true) only [EX, ↓reduceIte]
      refine ret1 rfl ?_
      rw [rdText_ok c15 (Int.not_lt.2 c23), hm', Int.toNat_natCast, hk.1]; refine ⟨by rw [List.drop_take]; simp, H.rrC ?_ (by simp) (by omega)⟩
      have := hR0.sub (4 + m) rest.length c (by omega)
      rwa [List.take_length] at this

/-- n texts, one behind another, till one fails. -/
def rdLoop (most : Int) : Nat → List ByteArray → (List UInt8 × Int) → List ByteArray × (List UInt8 × Int)
  | 0, acc, x => (acc, x)
  | n + 1, acc, x => if (rdText most x).2.2 = 0 then rdLoop most n (acc ++ [(rdText most x).1]) (rdText most x).2 else (acc ++ [(rdText most x).1], (rdText most x).2)
def rdTexts (count most : Int) (x : List UInt8 × Int) : List ByteArray × (List UInt8 × Int) :=
  let y := rdCount count x
  let z := rdLoop most y.1.toNat [] y.2
  if z.2.2 = 0 then z else ([], (x.1, z.2.2))
theorem rdCount_len (most : Int) (x : List UInt8 × Int) : (rdCount most x).2.1.length ≤ x.1.length ∧ 0 ≤ (rdCount most x).1 ∧ (rdCount most x).1 < 4294967296 := by
  have ht := beV_take4 x.1
  obtain ⟨rest, e⟩ := x
  unfold rdCount
  split
  · rename_i h
    rw [(rdBd_ok h).1]; simp only at ht ⊢; simp; omega
  · rename_i h
    unfold rdBd
    split
    · split
      · simp
      · simp at ht ⊢; omega
    · simp
theorem rdText_len (most : Int) (x : List UInt8 × Int) : (rdText most x).2.1.length ≤ x.1.length := by
  obtain ⟨rest, e⟩ := x
  unfold rdText
  split
  · split <;> simp
  · rw [rdBd_rest]; exact Nat.le_refl _
end Go.Rp
