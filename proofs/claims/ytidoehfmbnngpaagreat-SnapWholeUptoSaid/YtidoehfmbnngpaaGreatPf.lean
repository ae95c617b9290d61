/-
  A snapshot as bytes: there and back; which stores may be.
-/
import Derived.Test.YtidoehfmbnngpaaGreatProg
import Derived.Test.YtidoehfmbnngpaaGreatPe
set_option linter.unusedVariables false
set_option linter.unusedSimpArgs false
set_option maxHeartbeats 1000000
set_option maxRecDepth 100000
namespace Go.Rp
open Go.Proofs


/-! ### Bytes, there and back -/
theorem byteI_toNat (x : Int) : ((byteI x).toNat : Int) = x % 256 := by
  unfold byteI
  have h1 : 0 ≤ x % 256 := Int.emod_nonneg _ (by decide)
  have h2 : x % 256 < 256 := Int.emod_lt_of_pos _ (by decide)
  rw [UInt8.toNat_ofNat']
  omega
theorem byteI_of (c : UInt8) (k : Int) : byteI (k * 256 + c.toNat) = c := by
  apply UInt8.toNat_inj.1
  have h := byteI_toNat (k * 256 + c.toNat)
  have hc := c.toNat_lt
  omega
theorem beV_foldl : ∀ (l : List UInt8) (a : Int), l.foldl (fun (v : Int) (c : UInt8) => v * 256 + c.toNat) a = a * 256 ^ l.length + beV l
  | [], a => by simp [beV]
  | c :: l, a => by
    rw [List.foldl_cons, beV_foldl l, show beV (c :: l) = l.foldl (fun (v : Int) (c : UInt8) => v * 256 + c.toNat) (0 * 256 + c.toNat) from rfl, beV_foldl l, List.length_cons, Int.pow_succ]
    generalize (256 : Int) ^ l.length = m
    generalize beV l = b
    rw [Int.add_mul, Int.add_mul, Int.zero_mul, Int.zero_mul, Int.zero_add, Int.mul_assoc, Int.mul_comm 256 m]; omega
theorem beV_cons (c : UInt8) (l : List UInt8) : beV (c :: l) = c.toNat * 256 ^ l.length + beV l := by
  show l.foldl (fun (v : Int) (c : UInt8) => v * 256 + c.toNat) (0 * 256 + c.toNat) = _
  rw [beV_foldl]; simp
theorem beV_append (l r : List UInt8) : beV (l ++ r) = beV l * 256 ^ r.length + beV r := by
  unfold beV
  rw [List.foldl_append, beV_foldl r]; rfl
theorem pow8 (n : Nat) : (2 : Int) ^ (8 * n) = 256 ^ n := by rw [Int.pow_mul]; rfl
theorem beL_beV : ∀ (l : List UInt8) (k : Int), beL (k * 256 ^ l.length + beV l) l.length = l
  | [], k => rfl
  | c :: l, k => by
    have hb := beV_bound l
    have hp : (0 : Int) < 256 ^ l.length := Int.pow_pos (by decide)
    rw [List.length_cons, beL, pow8]
    have e1 : k * 256 ^ (l.length + 1) + beV (c :: l) = (k * 256 + c.toNat) * 256 ^ l.length + beV l := by
      rw [beV_cons, Int.pow_succ, Int.add_mul, Int.mul_assoc, Int.mul_comm 256]; omega
    rw [e1]
    have e2 : ((k * 256 + c.toNat) * 256 ^ l.length + beV l).fdiv (256 ^ l.length) = k * 256 + c.toNat := by
      rw [Int.fdiv_eq_ediv_of_nonneg _ (Int.le_of_lt hp), Int.add_comm, Int.add_mul_ediv_right _ _ (by omega), Int.ediv_eq_zero_of_lt hb.1 hb.2, Int.zero_add]
    rw [e2, byteI_of, beL_beV l]
theorem beL_of (l : List UInt8) {n : Nat} (h : l.length = n) : beL (beV l) n = l := by
  subst h
  have := beL_beV l 0
  simpa using this
theorem emod_m (v m : Int) (hm : 0 < m) : v % (m * 256) = m * (v / m % 256) + v % m := by
  have h1 := Int.mul_ediv_add_emod v m
  have h2 := Int.mul_ediv_add_emod (v / m) 256
  have h3 := Int.emod_nonneg v (show m ≠ 0 by omega)
  have h4 := Int.emod_lt_of_pos v hm
  have h5 := Int.emod_nonneg (v / m) (show (256 : Int) ≠ 0 by decide)
  have h6 := Int.emod_lt_of_pos (v / m) (show (0 : Int) < 256 by decide)
  generalize v % m = r at *
  generalize v / m % 256 = s at *
  generalize v / m / 256 = t at *
  have e : v = m * s + r + m * 256 * t := by
    rw [← h1, ← h2, Int.mul_add, Int.mul_assoc]; omega
  have h7 : m * s ≤ m * 255 := Int.mul_le_mul_of_nonneg_left (by omega) (by omega)
  have h8 : 0 ≤ m * s := Int.mul_nonneg (by omega) h5
  conv => lhs; rw [e]
  rw [Int.add_mul_emod_self_left, Int.emod_eq_of_lt (by omega) (by omega)]
theorem beV_beL (v : Int) : ∀ (n : Nat), 0 ≤ v → beV (beL v n) = v % 256 ^ n
  | 0, _ => by simp [beL, beV]
  | n + 1, h => by
    have hp : (0 : Int) < 256 ^ n := Int.pow_pos (by decide)
    rw [beL, beV_cons, beL_length, beV_beL v n h, byteI_toNat, pow8, Int.fdiv_eq_ediv_of_nonneg _ (Int.le_of_lt hp), Int.pow_succ]
    rw [emod_m, Int.mul_comm]
    exact hp
theorem beV_of {v : Int} {n : Nat} (h : 0 ≤ v) (h2 : v < 256 ^ n) : beV (beL v n) = v := by
  rw [beV_beL v n h, Int.emod_eq_of_lt h h2]
/-! ### One number, one text, texts -/
theorem rdNum_lay {n : Nat} {v : Int} (h : 0 ≤ v) (h2 : v < 256 ^ n) (r : List UInt8) : rdNum n (beL v n ++ r, 0) = (v, (r, 0)) := by
  rw [rdNum_pos (pkE_zero.2 ⟨rfl, by simp [beL_length]; omega⟩), List.take_left' (beL_length v n), List.drop_left' (beL_length v n), beV_of h h2]
theorem rdNum_inv {n : Nat} {rest : List UInt8} {e : Int} (h : (rdNum n (rest, e)).2.2 = 0) : e = 0 ∧ rest = beL (rdNum n (rest, e)).1 n ++ (rdNum n (rest, e)).2.1 := by
  by_cases hz : pkE rest e n = 0
  · have hz' := pkE_zero.1 hz
    rw [rdNum_pos hz]
    refine ⟨hz'.1, ?_⟩
    rw [beL_of _ (by simp; omega), List.take_append_drop]
  · rw [rdNum_neg hz] at h; exact absurd h hz
theorem rdNum_err {n : Nat} {rest : List UInt8} {e : Int} (h : ¬ e = 0) : rdNum n (rest, e) = (0, (rest, e)) := by
  have : pkE rest e n = e := if_neg (fun q => h q.1)
  rw [rdNum_neg (by rw [this]; exact h), this]
theorem rdCount_lay {most v : Int} (h : 0 ≤ v) (h2 : v ≤ most) (h3 : v < 4294967296) (r : List UInt8) : rdCount most (beL v 4 ++ r, 0) = (v, (r, 0)) := by
  have hb : rdBd most (beL v 4 ++ r, 0) = ((v, true), (beL v 4 ++ r, 0)) := by
    rw [rdBd_zero (pkE_zero.2 ⟨rfl, by simp [beL_length]; omega⟩), List.take_left' (beL_length v 4), beV_of h h3, if_neg (by unfold mx; split <;> omega)]
  unfold rdCount
  rw [hb]
  simp only [if_true]
  rw [List.drop_left' (beL_length v 4)]
theorem rdCount_inv {most : Int} {rest : List UInt8} {e : Int} (h : (rdCount most (rest, e)).2.2 = 0) :
    e = 0 ∧ rest = beL (rdCount most (rest, e)).1 4 ++ (rdCount most (rest, e)).2.1 ∧ (rdCount most (rest, e)).1 ≤ mx most ∧ 0 ≤ (rdCount most (rest, e)).1 ∧ (rdCount most (rest, e)).1 < 4294967296 := by
  have ht := beV_take4 rest
  unfold rdCount at *
  by_cases hb : (rdBd most (rest, e)).1.2 = true
  · have hk := rdBd_ok hb
    rw [if_pos hb] at *
    rw [hk.1] at *
    refine ⟨hk.2.1, ?_, hk.2.2.2, ht.1, ht.2⟩
    simp only
    rw [beL_of _ (by simp; omega), List.take_append_drop]
  · rw [if_neg hb] at *
    simp only at h
    exfalso
    unfold rdBd at h hb
    split at h
    · rename_i hz
      rw [if_pos hz] at hb
      split at h
      · cases h
      · rename_i hm; rw [if_neg hm] at hb; exact hb rfl
    · rename_i hz; exact hz h
theorem rdCount_err {most : Int} {rest : List UInt8} {e : Int} (h : ¬ e = 0) : rdCount most (rest, e) = (0, (rest, e)) := by
  have : pkE rest e 4 = e := if_neg (fun q => h q.1)
  unfold rdCount
  rw [rdBd_err (by rw [this]; exact h), this]
  rfl
theorem rdText_lay {most : Int} {s : ByteArray} (h : (s.size : Int) ≤ most) (h2 : s.size < 4294967296) (r : List UInt8) : rdText most (textB s ++ r, 0) = (s, (r, 0)) := by
  have hd4 : (textB s ++ r).drop 4 = s.data.toList ++ r := by
    rw [textB, List.append_assoc, List.drop_left' (beL_length _ 4)]
  have hb : rdBd most (textB s ++ r, 0) = (((s.size : Int), true), (textB s ++ r, 0)) := by
    rw [rdBd_zero (pkE_zero.2 ⟨rfl, by simp [textB_length]; omega⟩)]
    rw [show (textB s ++ r).take 4 = beL s.size 4 by rw [textB, List.append_assoc, List.take_left' (beL_length _ 4)], beV_of (by omega) (by omega), if_neg (by unfold mx; split <;> omega)]
  rw [rdText_ok (by rw [hb]) (by rw [hb]; simp only [List.length_append, textB_length]; omega), hb]
  simp only [Int.toNat_natCast]
  rw [hd4, ← List.drop_drop, hd4, List.take_left' (by simp), List.drop_left' (by simp)]
  rfl
theorem bs_size (l : List UInt8) : (bs l).size = l.length := by simp [bs, ByteArray.size]
theorem rdText_inv {most : Int} {rest : List UInt8} {e : Int} (h : (rdText most (rest, e)).2.2 = 0) :
    e = 0 ∧ rest = textB (rdText most (rest, e)).1 ++ (rdText most (rest, e)).2.1 ∧ ((rdText most (rest, e)).1.size : Int) ≤ mx most ∧ (rdText most (rest, e)).1.size < 4294967296 := by
  have ht := beV_take4 rest
  by_cases hb : (rdBd most (rest, e)).1.2 = true
  · have hk := rdBd_ok hb
    by_cases hs : (rest.length : Int) - 4 < (rdBd most (rest, e)).1.1
    · rw [rdText_short hb hs] at h; cases h
    · rw [rdText_ok hb hs]
      rw [hk.1] at hs ⊢
      simp only at hs ⊢
      obtain ⟨m, hm⟩ : ∃ m : Nat, beV (rest.take 4) = m := ⟨(beV (rest.take 4)).toNat, by omega⟩
      rw [hm] at hs ht ⊢
      simp only [Int.toNat_natCast]
      have hl : ((rest.drop 4).take m).length = m := by simp; omega
      refine ⟨hk.2.1, ?_, ?_, ?_⟩
      · rw [textB, bs_size, hl, ← hm, beL_of _ (by simp; omega)]
        show rest = rest.take 4 ++ (rest.drop 4).take m ++ rest.drop (4 + m)
        rw [← List.drop_drop, List.append_assoc, List.take_append_drop, List.take_append_drop]
      · rw [bs_size, hl, ← hm]; exact hk.2.2.2
      · rw [bs_size, hl]; omega
  · rw [rdText_err (by simpa using hb)] at h
    exfalso
    simp only at h
    unfold rdBd at h hb
    split at h
    · rename_i hz
      rw [if_pos hz] at hb
      split at h
      · cases h
      · rename_i hm; rw [if_neg hm] at hb; exact hb rfl
    · rename_i hz; exact hz h
theorem rdText_fail {most : Int} {rest : List UInt8} {e : Int} (h : ¬ e = 0) : rdText most (rest, e) = (ByteArray.empty, (rest, e)) := by
  have : pkE rest e 4 = e := if_neg (fun q => h q.1)
  have hb : rdBd most (rest, e) = ((0, false), (rest, e)) := by rw [rdBd_err (by rw [this]; exact h), this]
  rw [rdText_err (by rw [hb]), hb]
theorem rdLoop_lay {most : Int} : ∀ (l acc : List ByteArray) (r : List UInt8), (∀ s ∈ l, (s.size : Int) ≤ most ∧ s.size < 4294967296) → rdLoop most l.length acc (l.flatMap textB ++ r, 0) = (acc ++ l, (r, 0))
  | [], acc, r, _ => by simp [rdLoop]
  | s :: l, acc, r, h => by
    have hs := h s (List.mem_cons_self ..)
    have e : rdText most ((s :: l).flatMap textB ++ r, 0) = (s, (l.flatMap textB ++ r, 0)) := by
      rw [List.flatMap_cons, List.append_assoc, rdText_lay hs.1 hs.2]
    rw [List.length_cons, rdLoop_step (by rw [e]), e, rdLoop_lay l _ r (fun a ha => h a (List.mem_cons_of_mem _ ha))]
    simp
theorem rdLoop_inv {most : Int} : ∀ (n : Nat) (acc : List ByteArray) (rest : List UInt8) (e : Int), (rdLoop most n acc (rest, e)).2.2 = 0 → e = 0 ∧
    ∃ l, l.length = n ∧ (rdLoop most n acc (rest, e)).1 = acc ++ l ∧ rest = l.flatMap textB ++ (rdLoop most n acc (rest, e)).2.1 ∧ ∀ s ∈ l, (s.size : Int) ≤ mx most ∧ s.size < 4294967296
  | 0, acc, rest, e, h => ⟨h, [], rfl, by simp [rdLoop], by simp [rdLoop], by simp⟩
  | n + 1, acc, rest, e, h => by
    by_cases hz : (rdText most (rest, e)).2.2 = 0
    · rw [rdLoop_step hz] at h ⊢
      have hi := rdText_inv hz
      generalize hx : rdText most (rest, e) = x at *
      obtain ⟨s, rest', e'⟩ := x
      simp only at hz hi h ⊢
      subst hz
      obtain ⟨_, l, h1, h2, h3, h4⟩ := rdLoop_inv n _ rest' 0 h
      refine ⟨hi.1, s :: l, by simp [h1], by rw [h2]; simp, ?_, ?_⟩
      · rw [hi.2.1, List.flatMap_cons, List.append_assoc, ← h3]
      · intro a ha
        rcases List.mem_cons.1 ha with rfl | ha
        · exact hi.2.2
        · exact h4 a ha
    · rw [rdLoop_stop hz] at h; exact absurd h hz
theorem rdTexts_lay {count most : Int} {l : List ByteArray} (hl : (l.length : Int) ≤ count) (hl2 : l.length < 4294967296) (h : ∀ s ∈ l, (s.size : Int) ≤ most ∧ s.size < 4294967296) (r : List UInt8) : rdTexts count most (textsB l ++ r, 0) = (l, (r, 0)) := by
  have e1 : rdCount count (textsB l ++ r, 0) = ((l.length : Int), (l.flatMap textB ++ r, 0)) := by
    rw [textsB, List.append_assoc, rdCount_lay (by omega) hl (by omega)]
  have e2 := rdLoop_lay (most := most) l [] r h
  rw [rdTexts_eq (k := l.length) (z := (l, (r, 0))) (by rw [e1]) (by rw [e1]; simpa using e2.symm)]
  simp
theorem rdTexts_inv {count most : Int} {rest : List UInt8} {e : Int} (h : (rdTexts count most (rest, e)).2.2 = 0) :
    e = 0 ∧ rest = textsB (rdTexts count most (rest, e)).1 ++ (rdTexts count most (rest, e)).2.1 ∧ ((rdTexts count most (rest, e)).1.length : Int) ≤ mx count ∧ ∀ s ∈ (rdTexts count most (rest, e)).1, (s.size : Int) ≤ mx most ∧ s.size < 4294967296 := by
  have hc := rdCount_len count (rest, e)
  obtain ⟨k, hk⟩ : ∃ k : Nat, (rdCount count (rest, e)).1 = k := ⟨(rdCount count (rest, e)).1.toNat, by omega⟩
  have e1 := rdTexts_eq (most := most) hk rfl
  rw [e1] at h ⊢
  split at h
  · rename_i hz
    rw [if_pos hz]
    generalize hx : rdCount count (rest, e) = x at *
    obtain ⟨n, rest', e'⟩ := x
    simp only at hk; subst hk
    obtain ⟨he', l, h1, h2, h3, h4⟩ := rdLoop_inv k [] rest' e' hz
    subst he'
    have hi := rdCount_inv (most := count) (rest := rest) (e := e) (by rw [hx])
    rw [hx] at hi
    simp only [List.nil_append] at h2 hi
    rw [h2]
    refine ⟨hi.1, ?_, by rw [h1]; exact hi.2.2.1, h4⟩
    rw [textsB, h1, List.append_assoc, ← h3]
    exact hi.2.1
  · rename_i hz; exact absurd h hz
theorem rdTexts_fail {count most : Int} {rest : List UInt8} {e : Int} (h : ¬ e = 0) : rdTexts count most (rest, e) = ([], (rest, e)) := by
  have e1 := rdCount_err (most := count) (rest := rest) h
  rw [rdTexts_eq (k := 0) (z := ([], (rest, e))) (by rw [e1]; rfl) (by rw [e1]; rfl), if_neg h]
end Go.Rp
set_option linter.unusedVariables false
set_option linter.unusedSimpArgs false
set_option maxHeartbeats 1000000
set_option maxRecDepth 100000
namespace Go.Rp
open Go.Proofs


/-! ### A snapshot's bytes -/
def lastB (p : ByteArray × Int) : List UInt8 := textB p.1 ++ beL p.2 8
def keptB (p : Nm × Hd) : List UInt8 := textB p.1.1 ++ (beL p.1.2 8 ++ (textB p.2.val ++ textsB p.2.keys))
def bodyB (g : Int) (S : Sto) : List UInt8 := beL 1918987632 4 ++ (beL 1 1 ++ (beL g 8 ++ (beL S.L.length 4 ++ (S.L.flatMap lastB ++ (beL S.V.length 4 ++ S.V.flatMap keptB)))))
def sealB (b : List UInt8) : List UInt8 := beL (crc 0 b) 4
def snapB (g : Int) (S : Sto) : List UInt8 := bodyB g S ++ sealB (bodyB g S)
def rdLast (x : List UInt8 × Int) : (ByteArray × Int) × (List UInt8 × Int) := (((rdText 65535 x).1, (rdNum 8 (rdText 65535 x).2).1), (rdNum 8 (rdText 65535 x).2).2)
def rdLasts : Nat → List (ByteArray × Int) → (List UInt8 × Int) → List (ByteArray × Int) × (List UInt8 × Int)
  | 0, acc, x => (acc, x)
  | n + 1, acc, x => if x.2 = 0 then rdLasts n (acc ++ [(rdLast x).1]) (rdLast x).2 else (acc, x)
def rdK1 (x : List UInt8 × Int) := rdText 65535 x
def rdK2 (x : List UInt8 × Int) := rdNum 8 (rdK1 x).2
def rdK3 (x : List UInt8 × Int) := rdText 65535 (rdK2 x).2
def rdK4 (x : List UInt8 × Int) := rdTexts 1024 65535 (rdK3 x).2
def stampOf (m : List (ByteArray × Int)) (now : Int) (n : Nm) : Int := if n.2 < (mget m n.1).getD 0 then now else -1
def rdKept (m : List (ByteArray × Int)) (now : Int) (x : List UInt8 × Int) : Nm × Hd := (((rdK1 x).1, (rdK2 x).1), ⟨(rdK3 x).1, (rdK4 x).1, stampOf m now ((rdK1 x).1, (rdK2 x).1)⟩)
def rdKepts (m : List (ByteArray × Int)) (now : Int) : Nat → List (Nm × Hd) → (List UInt8 × Int) → List (Nm × Hd) × (List UInt8 × Int)
  | 0, acc, x => (acc, x)
  | n + 1, acc, x => if x.2 = 0 then rdKepts m now n (acc ++ [rdKept m now x]) (rdK4 x).2 else (acc, x)
def byOf (l : List (ByteArray × Int)) : List (ByteArray × Int) := l.foldl (fun m p => mset m p.1 p.2) []
structure LoadOk (V : List (Nm × Hd)) (L : List (ByteArray × Int)) : Prop where
  rl : Rise (keys L)
  rv : Rise (keys V)
  lo : ∀ p ∈ V, LoadsP ⟨V, L⟩ p.1.1 p.1.2 p.2.val p.2.keys p.2.stamp
  la : ∀ q ∈ L, (mget V (q.1, q.2)).isSome = true
/-- A store that may be: what calls make. -/
structure WfS (S : Sto) : Prop where
  ok : LoadOk S.V S.L
  iv : ∀ p ∈ S.V, p.1.2 < 18446744073709551616
theorem mget_msetF : ∀ (l m : List (ByteArray × Int)) (k : ByteArray), (keys l).Nodup → mget (l.foldl (fun m p => mset m p.1 p.2) m) k = (mget l k).or (mget m k)
  | [], m, k, _ => rfl
  | (a, v) :: l, m, k, h => by
    simp only [keys, List.map_cons, List.nodup_cons] at h
    rw [List.foldl_cons, mget_msetF l _ k h.2, mset_get]
    simp only [mget]
    by_cases e : a = k
    · subst e
      have : mget l a = none := mget_none.2 h.1
      simp [this]
    · simp [e]
theorem byOf_get {l : List (ByteArray × Int)} (h : (keys l).Nodup) (k : ByteArray) : mget (byOf l) k = mget l k := by
  unfold byOf
  rw [mget_msetF l [] k h]
  cases mget l k <;> rfl
/-! ### Lasts -/
theorem rdLast_lay {p : ByteArray × Int} (h1 : p.1.size ≤ 65535) (h2 : 0 ≤ p.2) (h3 : p.2 < 18446744073709551616) (r : List UInt8) : rdLast (lastB p ++ r, 0) = (p, (r, 0)) := by
  unfold rdLast lastB
  rw [List.append_assoc, rdText_lay (by omega) (by omega)]
  simp only
  rw [rdNum_lay h2 (by omega)]
theorem rdLast_inv {rest : List UInt8} {e : Int} (h : (rdLast (rest, e)).2.2 = 0) : e = 0 ∧ rest = lastB (rdLast (rest, e)).1 ++ (rdLast (rest, e)).2.1 ∧ 0 ≤ (rdLast (rest, e)).1.2 ∧ (rdLast (rest, e)).1.2 < 18446744073709551616 := by
  unfold rdLast at *
  simp only at h ⊢
  have hr := rdNum_range (n := 8) (by omega) (rdText 65535 (rest, e)).2
  generalize hx : rdText 65535 (rest, e) = x at *
  obtain ⟨s, rest', e'⟩ := x
  simp only at h hr ⊢
  have hn := rdNum_inv h
  have ht := rdText_inv (most := 65535) (rest := rest) (e := e) (by rw [hx]; exact hn.1)
  rw [hx] at ht
  refine ⟨ht.1, ?_, hr.1, by omega⟩
  unfold lastB
  rw [List.append_assoc, ← hn.2]; exact ht.2.1
theorem rdLasts_lay : ∀ (l acc : List (ByteArray × Int)) (r : List UInt8), (∀ p ∈ l, p.1.size ≤ 65535 ∧ 0 ≤ p.2 ∧ p.2 < 18446744073709551616) → rdLasts l.length acc (l.flatMap lastB ++ r, 0) = (acc ++ l, (r, 0))
  | [], acc, r, _ => by simp [rdLasts]
  | p :: l, acc, r, h => by
    have hp := h p (List.mem_cons_self ..)
    have e : rdLast ((p :: l).flatMap lastB ++ r, 0) = (p, (l.flatMap lastB ++ r, 0)) := by
      rw [List.flatMap_cons, List.append_assoc, rdLast_lay hp.1 hp.2.1 hp.2.2]
    rw [List.length_cons, rdLasts, if_pos rfl, e, rdLasts_lay l _ r (fun a ha => h a (List.mem_cons_of_mem _ ha))]
    simp
theorem rdLasts_inv : ∀ (n : Nat) (acc : List (ByteArray × Int)) (rest : List UInt8) (e : Int), (rdLasts n acc (rest, e)).2.2 = 0 → e = 0 ∧
    ∃ l, l.length = n ∧ (rdLasts n acc (rest, e)).1 = acc ++ l ∧ rest = l.flatMap lastB ++ (rdLasts n acc (rest, e)).2.1 ∧ ∀ p ∈ l, 0 ≤ p.2 ∧ p.2 < 18446744073709551616
  | 0, acc, rest, e, h => ⟨h, [], rfl, by simp [rdLasts], by simp [rdLasts], by simp⟩
  | n + 1, acc, rest, e, h => by
    rw [rdLasts] at h ⊢
    by_cases he : e = 0
    · subst he
      rw [if_pos rfl] at h ⊢
      generalize hx : rdLast (rest, 0) = x at *
      obtain ⟨p, rest', e'⟩ := x
      obtain ⟨he', l, h1, h2, h3, h4⟩ := rdLasts_inv n _ rest' e' h
      subst he'
      have hi := rdLast_inv (rest := rest) (e := 0) (by rw [hx])
      rw [hx] at hi
      refine ⟨rfl, p :: l, by simp [h1], by simp only; rw [h2]; simp, ?_, ?_⟩
      · simp only
        rw [List.flatMap_cons, List.append_assoc, ← h3]; exact hi.2.1
      · intro a ha
        rcases List.mem_cons.1 ha with rfl | ha
        · exact hi.2.2
        · exact h4 a ha
    · rw [if_neg he] at h; exact absurd h he
/-! ### Versions -/
theorem rdKept_lay {m : List (ByteArray × Int)} {now : Int} {p : Nm × Hd} (h1 : p.1.1.size ≤ 65535) (h2 : 0 ≤ p.1.2) (h3 : p.1.2 < 18446744073709551616) (h4 : p.2.val.size ≤ 65535) (h5 : p.2.keys.length ≤ 1024) (h6 : ∀ k ∈ p.2.keys, k.size ≤ 65535) (r : List UInt8) :
    rdKept m now (keptB p ++ r, 0) = (p.1, ⟨p.2.val, p.2.keys, stampOf m now p.1⟩) ∧ (rdK4 (keptB p ++ r, 0)).2 = (r, 0) := by
  have e1 : rdK1 (keptB p ++ r, 0) = (p.1.1, (beL p.1.2 8 ++ (textB p.2.val ++ textsB p.2.keys) ++ r, 0)) := by
    unfold rdK1 keptB
    rw [List.append_assoc, rdText_lay (by omega) (by omega)]
  have e2 : rdK2 (keptB p ++ r, 0) = (p.1.2, (textB p.2.val ++ textsB p.2.keys ++ r, 0)) := by
    unfold rdK2
    rw [e1]; simp only
    rw [List.append_assoc, rdNum_lay h2 (by omega)]
  have e3 : rdK3 (keptB p ++ r, 0) = (p.2.val, (textsB p.2.keys ++ r, 0)) := by
    unfold rdK3
    rw [e2]; simp only
    rw [List.append_assoc, rdText_lay (by omega) (by omega)]
  have e4 : rdK4 (keptB p ++ r, 0) = (p.2.keys, (r, 0)) := by
    unfold rdK4
    rw [e3]; simp only
    rw [rdTexts_lay (by omega) (by omega) (fun s hs => ⟨by have := h6 s hs; omega, by have := h6 s hs; omega⟩)]
  exact ⟨by unfold rdKept; rw [e1, e2, e3, e4], by rw [e4]⟩
theorem rdKept_inv {m : List (ByteArray × Int)} {now : Int} {rest : List UInt8} {e : Int} (h : (rdK4 (rest, e)).2.2 = 0) :
    e = 0 ∧ rest = keptB (rdKept m now (rest, e)) ++ (rdK4 (rest, e)).2.1 ∧ (rdKept m now (rest, e)).1.2 < 18446744073709551616 := by
  have h4 := rdTexts_inv (show (rdTexts 1024 65535 ((rdK3 (rest, e)).2.1, (rdK3 (rest, e)).2.2)).2.2 = 0 from h)
  have h3 := rdText_inv (show (rdText 65535 ((rdK2 (rest, e)).2.1, (rdK2 (rest, e)).2.2)).2.2 = 0 from h4.1)
  have h2 := rdNum_inv (show (rdNum 8 ((rdK1 (rest, e)).2.1, (rdK1 (rest, e)).2.2)).2.2 = 0 from h3.1)
  have h1 := rdText_inv (show (rdText 65535 (rest, e)).2.2 = 0 from h2.1)
  have hr := rdNum_range (n := 8) (by omega) (rdK1 (rest, e)).2
  refine ⟨h1.1, ?_, by show (rdNum 8 (rdK1 (rest, e)).2).1 < _; omega⟩
  have q4 : (rdK3 (rest, e)).2.1 = textsB (rdK4 (rest, e)).1 ++ (rdK4 (rest, e)).2.1 := h4.2.1
  have q3 : (rdK2 (rest, e)).2.1 = textB (rdK3 (rest, e)).1 ++ (rdK3 (rest, e)).2.1 := h3.2.1
  have q2 : (rdK1 (rest, e)).2.1 = beL (rdK2 (rest, e)).1 8 ++ (rdK2 (rest, e)).2.1 := h2.2
  have q1 : rest = textB (rdK1 (rest, e)).1 ++ (rdK1 (rest, e)).2.1 := h1.2.1
  unfold keptB
  simp only [rdKept]
  rw [List.append_assoc, List.append_assoc, List.append_assoc, ← q4, ← q3, ← q2]; exact q1
theorem rdKepts_lay {m : List (ByteArray × Int)} {now : Int} : ∀ (l acc : List (Nm × Hd)) (r : List UInt8),
    (∀ p ∈ l, p.1.1.size ≤ 65535 ∧ 0 ≤ p.1.2 ∧ p.1.2 < 18446744073709551616 ∧ p.2.val.size ≤ 65535 ∧ p.2.keys.length ≤ 1024 ∧ ∀ k ∈ p.2.keys, k.size ≤ 65535) →
    rdKepts m now l.length acc (l.flatMap keptB ++ r, 0) = (acc ++ l.map (fun p => (p.1, (⟨p.2.val, p.2.keys, stampOf m now p.1⟩ : Hd))), (r, 0))
  | [], acc, r, _ => by simp [rdKepts]
  | p :: l, acc, r, h => by
    have hp := h p (List.mem_cons_self ..)
    have e := rdKept_lay (m := m) (now := now) hp.1 hp.2.1 hp.2.2.1 hp.2.2.2.1 hp.2.2.2.2.1 hp.2.2.2.2.2 (l.flatMap keptB ++ r)
    rw [List.length_cons, rdKepts, if_pos rfl, List.flatMap_cons, List.append_assoc, e.1, e.2, rdKepts_lay l _ r (fun a ha => h a (List.mem_cons_of_mem _ ha))]
    simp
theorem rdKepts_inv {m : List (ByteArray × Int)} {now : Int} : ∀ (n : Nat) (acc : List (Nm × Hd)) (rest : List UInt8) (e : Int), (rdKepts m now n acc (rest, e)).2.2 = 0 → e = 0 ∧
    ∃ l, l.length = n ∧ (rdKepts m now n acc (rest, e)).1 = acc ++ l ∧ rest = l.flatMap keptB ++ (rdKepts m now n acc (rest, e)).2.1 ∧ ∀ p ∈ l, p.1.2 < 18446744073709551616 ∧ p.2.stamp = stampOf m now p.1
  | 0, acc, rest, e, h => ⟨h, [], rfl, by simp [rdKepts], by simp [rdKepts], by simp⟩
  | n + 1, acc, rest, e, h => by
    rw [rdKepts] at h ⊢
    by_cases he : e = 0
    · subst he
      rw [if_pos rfl] at h ⊢
      generalize hx : (rdK4 (rest, 0)).2 = x at *
      obtain ⟨rest', e'⟩ := x
      obtain ⟨he', l, h1, h2, h3, h4⟩ := rdKepts_inv n _ rest' e' h
      subst he'
      have hi := rdKept_inv (m := m) (now := now) (rest := rest) (e := 0) (by rw [hx])
      rw [hx] at hi
      refine ⟨rfl, rdKept m now (rest, 0) :: l, by simp [h1], by rw [h2]; simp, ?_, ?_⟩
      · rw [List.flatMap_cons, List.append_assoc, ← h3]; exact hi.2.1
      · intro a ha
        rcases List.mem_cons.1 ha with rfl | ha
        · exact ⟨hi.2.2, rfl⟩
        · exact h4 a ha
    · rw [if_neg he] at h; exact absurd h he
/-! ### The whole -/
open Classical in
noncomputable def snapOf (b : List UInt8) (now : Int) : Int ⊕ (Int × Sto) :=
  if b.length < 4 ∨ ¬ sealB (b.take (b.length - 4)) = b.drop (b.length - 4) then .inl 90
  else
    let f := rdNum 4 (b.take (b.length - 4), 0)
    let k := rdNum 1 f.2
    let g := rdNum 8 k.2
    if ¬ f.1 = 1918987632 ∨ ¬ k.1 = 1 ∨ g.1 < 1 ∨ 9223372036854775807 < g.1 then .inl 2
    else
      let c := rdCount 2147483647 g.2
      let l := rdLasts c.1.toNat [] c.2
      let d := rdCount 2147483647 l.2
      let q := rdKepts (byOf l.1) now d.1.toNat [] d.2
      if (q.2.2 = 0 ∧ q.2.1 = []) ∧ LoadOk q.1 l.1 then .inr (g.1, ⟨q.1, l.1⟩) else .inl 2
def restamp (now : Int) (S : Sto) : Sto := ⟨S.V.map (fun p => (p.1, (⟨p.2.val, p.2.keys, if p.1.2 < lastOf S p.1.1 then now else -1⟩ : Hd))), S.L⟩
theorem restamp_bytes (now : Int) (S : Sto) (g : Int) : snapB g (restamp now S) = snapB g S := by
  have e : (restamp now S).V.flatMap keptB = S.V.flatMap keptB := by
    unfold restamp
    simp only [List.flatMap_map]
    rfl
  unfold snapB bodyB
  rw [e, show (restamp now S).V.length = S.V.length by simp [restamp]]
  rfl
theorem WfS.ver {S : Sto} (h : WfS S) {p : Nm × Hd} (hp : p ∈ S.V) : p.1.1.size ≤ 65535 ∧ 0 ≤ p.1.2 ∧ p.1.2 < 18446744073709551616 ∧ p.2.val.size ≤ 65535 ∧ p.2.keys.length ≤ 1024 ∧ ∀ k ∈ p.2.keys, k.size ≤ 65535 := by
  have hl := h.ok.lo p hp
  exact ⟨hl.2.1.1.1 _ hl.2.2.1, by have := hl.1; omega, h.iv p hp, hl.2.2.2.1, hl.2.1.2.2, hl.2.1.1.1⟩
theorem WfS.last {S : Sto} (h : WfS S) {q : ByteArray × Int} (hq : q ∈ S.L) : q.1.size ≤ 65535 ∧ 0 ≤ q.2 ∧ q.2 < 18446744073709551616 := by
  obtain ⟨v, hv⟩ := Option.isSome_iff_exists.1 (h.ok.la q hq)
  have := h.ver (mget_mem hv)
  exact ⟨this.1, this.2.1, this.2.2.1⟩
theorem restamp_ok {now : Int} {S : Sto} (h : WfS S) (hn : 0 ≤ now ∧ now ≤ 1099511627776) : WfS (restamp now S) := by
  have hk : keys (restamp now S).V = keys S.V := by simp [restamp, keys]
  refine ⟨⟨h.ok.rl, by rw [hk]; exact h.ok.rv, fun p hp => ?_, fun q hq => ?_⟩, fun p hp => ?_⟩
  · obtain ⟨p0, hp0, rfl⟩ := List.mem_map.1 hp
    have := h.ok.lo p0 hp0
    refine ⟨this.1, this.2.1, this.2.2.1, this.2.2.2.1, ?_⟩
    show if p0.1.2 < lastOf S p0.1.1 then _ else _
    split
    · rename_i hlt; simp only [hlt, if_true]; exact hn
    · rename_i hlt; simp only [hlt, if_false]
  · rw [mget_keys, hk, ← mget_keys]; exact h.ok.la q hq
  · obtain ⟨p0, hp0, rfl⟩ := List.mem_map.1 hp
    exact h.iv p0 hp0
theorem snapOf_eq {b : List UInt8} {now : Int} {f k g c d : Int × (List UInt8 × Int)} {l : List (ByteArray × Int) × (List UInt8 × Int)} {q : List (Nm × Hd) × (List UInt8 × Int)}
    (hf : rdNum 4 (b.take (b.length - 4), 0) = f) (hk : rdNum 1 f.2 = k) (hg : rdNum 8 k.2 = g) (hc : rdCount 2147483647 g.2 = c) (hl : rdLasts c.1.toNat [] c.2 = l) (hd : rdCount 2147483647 l.2 = d) (hq : rdKepts (byOf l.1) now d.1.toNat [] d.2 = q) :
    (b.length < 4 ∨ ¬ sealB (b.take (b.length - 4)) = b.drop (b.length - 4) → snapOf b now = .inl 90) ∧
    (¬ (b.length < 4 ∨ ¬ sealB (b.take (b.length - 4)) = b.drop (b.length - 4)) →
      ((¬ f.1 = 1918987632 ∨ ¬ k.1 = 1 ∨ g.1 < 1 ∨ 9223372036854775807 < g.1) → snapOf b now = .inl 2) ∧
      (¬ (¬ f.1 = 1918987632 ∨ ¬ k.1 = 1 ∨ g.1 < 1 ∨ 9223372036854775807 < g.1) →
        (((q.2.2 = 0 ∧ q.2.1 = []) ∧ LoadOk q.1 l.1) → snapOf b now = .inr (g.1, ⟨q.1, l.1⟩)) ∧ (¬ ((q.2.2 = 0 ∧ q.2.1 = []) ∧ LoadOk q.1 l.1) → snapOf b now = .inl 2))) := by
  subst hf; subst hk; subst hg; subst hc; subst hl; subst hd; subst hq
  refine ⟨fun h => if_pos h, fun h => ⟨fun h1 => ?_, fun h1 => ⟨fun h2 => ?_, fun h2 => ?_⟩⟩⟩
  · unfold snapOf; rw [if_neg h]; exact if_pos h1
  · unfold snapOf; rw [if_neg h]; exact (if_neg h1).trans (if_pos h2)
  · unfold snapOf; rw [if_neg h]; exact (if_neg h1).trans (if_neg h2)
theorem snapOf_lay {now g : Int} {S : Sto} (h : WfS S) (hg : 1 ≤ g) (hg2 : g ≤ 9223372036854775807) (hV : S.V.length ≤ 2147483647) (hL : S.L.length ≤ 2147483647) (hn : 0 ≤ now ∧ now ≤ 1099511627776) : snapOf (snapB g S) now = .inr (g, restamp now S) := by
  have hlen : (snapB g S).length - 4 = (bodyB g S).length := by simp [snapB, sealB, beL_length]
  have e1 : (snapB g S).take ((snapB g S).length - 4) = bodyB g S := by rw [hlen]; exact List.take_left' rfl
  have e2 : (snapB g S).drop ((snapB g S).length - 4) = sealB (bodyB g S) := by rw [hlen]; exact List.drop_left' rfl
  have f1 : rdNum 4 (bodyB g S, 0) = (1918987632, (beL 1 1 ++ (beL g 8 ++ (beL S.L.length 4 ++ (S.L.flatMap lastB ++ (beL S.V.length 4 ++ S.V.flatMap keptB)))), 0)) := rdNum_lay (by decide) (by decide) _
  have f2 := rdNum_lay (n := 1) (v := 1) (by decide) (by decide) (beL g 8 ++ (beL S.L.length 4 ++ (S.L.flatMap lastB ++ (beL S.V.length 4 ++ S.V.flatMap keptB))))
  have f3 := rdNum_lay (n := 8) (v := g) (by omega) (by omega) (beL S.L.length 4 ++ (S.L.flatMap lastB ++ (beL S.V.length 4 ++ S.V.flatMap keptB)))
  have f4 := rdCount_lay (most := 2147483647) (v := S.L.length) (by omega) (by omega) (by omega) (S.L.flatMap lastB ++ (beL S.V.length 4 ++ S.V.flatMap keptB))
  have f5 := rdLasts_lay S.L [] (beL S.V.length 4 ++ S.V.flatMap keptB) (fun p hp => h.last hp)
  have f6 := rdCount_lay (most := 2147483647) (v := S.V.length) (by omega) (by omega) (by omega) (S.V.flatMap keptB)
  have f7 := rdKepts_lay (m := byOf S.L) (now := now) S.V [] [] (fun p hp => h.ver hp)
  rw [List.append_nil] at f7
  simp only [List.nil_append] at f5 f7
  have hst : S.V.map (fun p => (p.1, (⟨p.2.val, p.2.keys, stampOf (byOf S.L) now p.1⟩ : Hd))) = (restamp now S).V := by
    unfold restamp stampOf lastOf
    simp only [byOf_get h.ok.rl.nodup]
  rw [hst] at f7
  have hs : ¬ ((snapB g S).length < 4 ∨ ¬ sealB ((snapB g S).take ((snapB g S).length - 4)) = (snapB g S).drop ((snapB g S).length - 4)) := by
    rw [e1, e2]
    rintro (q | q)
    · simp [snapB, sealB, beL_length] at q
      omega
    · exact q rfl
  have hq := snapOf_eq (b := snapB g S) (now := now) (c := ((S.L.length : Int), (S.L.flatMap lastB ++ (beL S.V.length 4 ++ S.V.flatMap keptB), 0))) (d := ((S.V.length : Int), (S.V.flatMap keptB, 0))) ((congrArg (fun z => rdNum 4 (z, (0 : Int))) e1).trans f1) f2 f3 f4 f5 f6 f7
  exact ((hq.2 hs).2 (by
    rintro (q | q | q | q)
    · exact q rfl
    · exact q rfl
    · exact absurd (show g < 1 from q) (by omega)
    · exact absurd (show 9223372036854775807 < g from q) (by omega))).1 ⟨⟨rfl, rfl⟩, (restamp_ok h hn).ok⟩
theorem snapOf_inv {now g : Int} {S : Sto} {b : List UInt8} (h : snapOf b now = .inr (g, S)) : snapB g S = b ∧ 1 ≤ g ∧ g ≤ 9223372036854775807 ∧ WfS S ∧ S.V.length ≤ 2147483647 ∧ S.L.length ≤ 2147483647 := by
  unfold snapOf at h
  split at h
  · cases h
  rename_i h0
  simp only at h
  split at h
  · cases h
  rename_i h1
  split at h
  · rename_i h2
    obtain ⟨⟨he, hr⟩, hok⟩ := h2
    generalize hf : rdNum 4 (b.take (b.length - 4), 0) = f at *
    generalize hk : rdNum 1 f.2 = k at *
    generalize hgg : rdNum 8 k.2 = gg at *
    generalize hc : rdCount 2147483647 gg.2 = c at *
    generalize hl : rdLasts c.1.toNat [] c.2 = l at *
    generalize hd : rdCount 2147483647 l.2 = d at *
    generalize hq : rdKepts (byOf l.1) now d.1.toNat [] d.2 = q at *
    cases h
    have i7 := rdKepts_inv (m := byOf l.1) (now := now) d.1.toNat [] d.2.1 d.2.2 (by rw [show (d.2.1, d.2.2) = d.2 from rfl, hq]; exact he)
    rw [show (d.2.1, d.2.2) = d.2 from rfl, hq] at i7
    obtain ⟨i7e, lv, v1, v2, v3, v4⟩ := i7
    have i6 := rdCount_inv (most := 2147483647) (rest := l.2.1) (e := l.2.2) (by rw [show (l.2.1, l.2.2) = l.2 from rfl, hd]; exact i7e)
    rw [show (l.2.1, l.2.2) = l.2 from rfl, hd] at i6
    have i5 := rdLasts_inv c.1.toNat [] c.2.1 c.2.2 (by rw [show (c.2.1, c.2.2) = c.2 from rfl, hl]; exact i6.1)
    rw [show (c.2.1, c.2.2) = c.2 from rfl, hl] at i5
    obtain ⟨i5e, ll, l1, l2, l3, l4⟩ := i5
    have i4 := rdCount_inv (most := 2147483647) (rest := gg.2.1) (e := gg.2.2) (by rw [show (gg.2.1, gg.2.2) = gg.2 from rfl, hc]; exact i5e)
    rw [show (gg.2.1, gg.2.2) = gg.2 from rfl, hc] at i4
    have i3 := rdNum_inv (n := 8) (rest := k.2.1) (e := k.2.2) (by rw [show (k.2.1, k.2.2) = k.2 from rfl, hgg]; exact i4.1)
    rw [show (k.2.1, k.2.2) = k.2 from rfl, hgg] at i3
    have i2 := rdNum_inv (n := 1) (rest := f.2.1) (e := f.2.2) (by rw [show (f.2.1, f.2.2) = f.2 from rfl, hk]; exact i3.1)
    rw [show (f.2.1, f.2.2) = f.2 from rfl, hk] at i2
    have i1 := rdNum_inv (n := 4) (rest := b.take (b.length - 4)) (e := 0) (by rw [hf]; exact i2.1)
    rw [hf] at i1
    simp only [List.nil_append] at v2 l2
    have hfm : f.1 = 1918987632 := by omega
    have hkm : k.1 = 1 := by omega
    have hcl : (ll.length : Int) = c.1 := by omega
    have hdl : (lv.length : Int) = d.1 := by omega
    have hmx : mx 2147483647 = 2147483647 := rfl
    rw [hmx] at i4 i6
    have hbody : bodyB gg.1 ⟨q.1, l.1⟩ = b.take (b.length - 4) := by
      rw [i1.2, i2.2, i3.2, i4.2.1, l3, i6.2.1, v3, hr]
      unfold bodyB
      simp only
      rw [v2, l2, hcl, hdl, hfm, hkm, List.append_nil]
    refine ⟨?_, by omega, by omega, ⟨hok, fun p hp => (v4 p (by rw [← v2]; exact hp)).1⟩, ?_, ?_⟩
    · unfold snapB
      rw [hbody]
      have : sealB (b.take (b.length - 4)) = b.drop (b.length - 4) := by
        by_cases hh : sealB (b.take (b.length - 4)) = b.drop (b.length - 4)
        · exact hh
        · exact absurd (.inr hh) h0
      rw [this, List.take_append_drop]
    · simp only; rw [v2]; omega
    · simp only; rw [l2]; omega
  · cases h
theorem snapOf_err {now e : Int} {b : List UInt8} (h : snapOf b now = .inl e) : e = 90 ∨ e = 2 := by
  unfold snapOf at h
  split at h
  · cases h; exact .inl rfl
  simp only at h
  split at h
  · cases h; exact .inr rfl
  split at h
  · cases h
  · cases h; exact .inr rfl
end Go.Rp
set_option linter.unusedVariables false
set_option linter.unusedSimpArgs false
set_option maxHeartbeats 1000000
set_option maxRecDepth 100000
namespace Go.Rp
open Go.Proofs


/-! ### What calls make may be -/
theorem WfS.nil : WfS ⟨[], []⟩ := ⟨⟨.nil, .nil, fun p hp => by simp at hp, fun q hq => by simp at hq⟩, fun p hp => by simp at hp⟩
theorem sins_pair {κ β : Type} [DecidableEq κ] [Lt κ] : ∀ (m : List (κ × β)) (k : κ) (v : β) (p : κ × β), p ∈ sins m k v → p = (k, v) ∨ p ∈ m
  | [], k, v, p, h => by simp [sins] at h; exact .inl h
  | (a, u) :: m, k, v, p, h => by
    unfold sins at h
    split at h
    · rcases List.mem_cons.1 h with h | h
      · exact .inl h
      · exact .inr (List.mem_cons_of_mem _ h)
    · split at h
      · rcases List.mem_cons.1 h with h | h
        · exact .inl h
        · exact .inr h
      · rcases List.mem_cons.1 h with h | h
        · exact .inr (h ▸ List.mem_cons_self ..)
        · rcases sins_pair m k v p h with h | h
          · exact .inl h
          · exact .inr (List.mem_cons_of_mem _ h)
theorem LoadsP.of {S S' : Sto} {k : ByteArray} {id : Int} {val : ByteArray} {ks : List ByteArray} {st : Int} (h : LoadsP S k id val ks st) (e : lastOf S' k = lastOf S k) : LoadsP S' k id val ks st := by
  unfold LoadsP at *; rw [e]; exact h
theorem WfS.put1 {S : Sto} (h : WfS S) {id now : Int} {ks : List ByteArray} {p : ByteArray × ByteArray} (h1 : 65536 ≤ id) (h2 : id < 18446744073709551616) (h3 : RisingP ks) (h4 : p.1 ∈ ks) (h5 : p.2.size ≤ 65535) (ht : 0 ≤ now ∧ now ≤ 1099511627776) (x : Bool) : WfS (putS id ks now (x, S) p).2 := by
  unfold putS
  split
  · exact h
  · refine ⟨⟨h.ok.rl, sins_rise _ _ _ h.ok.rv, fun q hq => ?_, fun q hq => ?_⟩, fun q hq => ?_⟩
    · rcases sins_pair _ _ _ _ hq with rfl | hq
      · refine ⟨h1, h3, h4, h5, ?_⟩
        show if id < lastOf S p.1 then _ else _
        simp only
        split
        · exact ht
        · rfl
      · exact (h.ok.lo q hq).of rfl
    · rw [sins_get _ _ _ _ h.ok.rv]
      split
      · rfl
      · exact h.ok.la q hq
    · rcases sins_pair _ _ _ _ hq with rfl | hq
      · exact h2
      · exact h.iv q hq
theorem WfS.putF {id now : Int} {ks : List ByteArray} (h1 : 65536 ≤ id) (h2 : id < 18446744073709551616) (h3 : RisingP ks) (ht : 0 ≤ now ∧ now ≤ 1099511627776) : ∀ (ps : List (ByteArray × ByteArray)) (x : Bool × Sto), (∀ p ∈ ps, p.1 ∈ ks ∧ p.2.size ≤ 65535) → WfS x.2 → WfS (ps.foldl (putS id ks now) x).2
  | [], x, _, h => h
  | p :: ps, x, hp, h => by
    rw [List.foldl_cons]
    have := hp p (List.mem_cons_self ..)
    exact WfS.putF h1 h2 h3 ht ps _ (fun q hq => hp q (List.mem_cons_of_mem _ hq)) (WfS.put1 h h1 h2 h3 this.1 this.2 ht x.1)
theorem WfS.put {S : Sto} (h : WfS S) {id now : Int} {ps : List (ByteArray × ByteArray)} {ks : List ByteArray} (hm : MayP id ps ks) (h2 : id < 18446744073709551616) (ht : 0 ≤ now ∧ now ≤ 1099511627776) : WfS (putP id ps ks now S).2 :=
  WfS.putF hm.1 h2 hm.2.1 ht ps (false, S) hm.2.2.2.2 h
theorem lastOf_cmK {id now : Int} {S : Sto} {k a : ByteArray} (h2 : Rise (keys S.L)) : lastOf (cmK id now S k) a = if k = a ∧ ¬ id ≤ lastOf S k then id else lastOf S a := by
  unfold lastOf
  rw [cmK_L h2]
  unfold lastOf
  split <;> rfl
theorem cmH_stamp (b : Bool) (id now : Int) (n : Nm) (h : Hd) : (cmH b id now n h).stamp = if b = true ∧ n.2 < id ∧ h.stamp = -1 then now else h.stamp := by unfold cmH; split <;> rfl
theorem WfS.cm1 {S : Sto} (h : WfS S) {id now : Int} {k : ByteArray} (hv : (mget S.V (k, id)).isSome = true) (ht : 0 ≤ now ∧ now ≤ 1099511627776) : WfS (cmK id now S k) := by
  have hr := cmK_rise (id := id) (now := now) (k := k) h.ok.rv h.ok.rl
  have hl : ∀ a, lastOf (cmK id now S k) a = if k = a ∧ ¬ id ≤ lastOf S k then id else lastOf S a := fun a => lastOf_cmK h.ok.rl
  by_cases hle : id ≤ lastOf S k
  · have : cmK id now S k = S := if_pos hle
    rw [this]; exact h
  · have hV : (cmK id now S k).V = S.V.map (fun p => (p.1, cmH (decide (p.1.1 = k)) id now p.1 p.2)) := by unfold cmK; rw [if_neg hle]
    have hL : (cmK id now S k).L = sins S.L k id := by unfold cmK; rw [if_neg hle]
    refine ⟨⟨hr.2, hr.1, fun p hp => ?_, fun q hq => ?_⟩, fun p hp => ?_⟩
    · rw [hV] at hp
      obtain ⟨p0, hp0, rfl⟩ := List.mem_map.1 hp
      have h0 := h.ok.lo p0 hp0
      have e1 : (cmH (decide (p0.1.1 = k)) id now p0.1 p0.2).val = p0.2.val := by unfold cmH; split <;> rfl
      have e2 : (cmH (decide (p0.1.1 = k)) id now p0.1 p0.2).keys = p0.2.keys := by unfold cmH; split <;> rfl
      refine ⟨h0.1, by rw [e2]; exact h0.2.1, by rw [e2]; exact h0.2.2.1, by rw [e1]; exact h0.2.2.2.1, ?_⟩
      have h5 : if p0.1.2 < lastOf S p0.1.1 then 0 ≤ p0.2.stamp ∧ p0.2.stamp ≤ 1099511627776 else p0.2.stamp = -1 := h0.2.2.2.2
      have hst := cmH_stamp (decide (p0.1.1 = k)) id now p0.1 p0.2
      show if p0.1.2 < lastOf (cmK id now S k) p0.1.1 then 0 ≤ (cmH (decide (p0.1.1 = k)) id now p0.1 p0.2).stamp ∧ (cmH (decide (p0.1.1 = k)) id now p0.1 p0.2).stamp ≤ 1099511627776 else (cmH (decide (p0.1.1 = k)) id now p0.1 p0.2).stamp = -1
      generalize (cmH (decide (p0.1.1 = k)) id now p0.1 p0.2).stamp = st at hst ⊢
      by_cases e : k = p0.1.1
      · have hl' : lastOf (cmK id now S k) p0.1.1 = id := by rw [hl, if_pos ⟨e, hle⟩]
        rw [hl']
        rw [← e] at h5
        have hd : decide (p0.1.1 = k) = true := decide_eq_true e.symm
        rw [hd] at hst
        by_cases hlt : p0.1.2 < id
        · rw [if_pos hlt]
          by_cases hs : p0.2.stamp = -1
          · rw [if_pos ⟨rfl, hlt, hs⟩] at hst
            rw [hst]; exact ht
          · rw [if_neg (fun q => hs q.2.2)] at hst
            rw [hst]
            split at h5
            · exact h5
            · exact absurd h5 hs
        · rw [if_neg hlt]
          rw [if_neg (fun q => hlt q.2.1)] at hst
          rw [if_neg (by omega)] at h5
          rw [hst]; exact h5
      · have hl' : lastOf (cmK id now S k) p0.1.1 = lastOf S p0.1.1 := by rw [hl, if_neg (fun q => e q.1)]
        have hd : decide (p0.1.1 = k) = false := decide_eq_false (fun q => e q.symm)
        rw [hd, if_neg (fun q => by cases q.1)] at hst
        rw [hl', hst]; exact h5
    · rw [hL] at hq
      rw [cmK_V, Option.isSome_map]
      rcases sins_pair _ _ _ _ hq with rfl | hq
      · exact hv
      · exact h.ok.la q hq
    · rw [hV] at hp
      obtain ⟨p0, hp0, rfl⟩ := List.mem_map.1 hp
      exact h.iv p0 hp0
theorem WfS.cmF {id now : Int} (ht : 0 ≤ now ∧ now ≤ 1099511627776) : ∀ (l : List ByteArray) (S : Sto), (∀ k ∈ l, (mget S.V (k, id)).isSome = true) → WfS S → WfS (l.foldl (cmK id now) S)
  | [], S, _, h => h
  | k :: l, S, hk, h => by
    rw [List.foldl_cons]
    exact WfS.cmF ht l _ (fun a ha => by rw [cmK_V, Option.isSome_map]; exact hk a (List.mem_cons_of_mem _ ha)) (h.cm1 (hk k (List.mem_cons_self ..)) ht)
theorem WfS.commit {S : Sto} (h : WfS S) {id now : Int} (ht : 0 ≤ now ∧ now ≤ 1099511627776) : WfS (commitS id now S) :=
  WfS.cmF ht _ S (fun k hk => cmL_mem.1 hk) h
theorem sdel_mem {κ β : Type} [DecidableEq κ] : ∀ {m : List (κ × β)} {k : κ} {p : κ × β}, p ∈ sdel m k → p ∈ m
  | (a, u) :: m, k, p, h => by
    unfold sdel at h
    split at h
    · exact List.mem_cons_of_mem _ h
    · rcases List.mem_cons.1 h with h | h
      · exact h ▸ List.mem_cons_self ..
      · exact List.mem_cons_of_mem _ (sdel_mem h)
theorem WfS.drop {S : Sto} (h : WfS S) (k : ByteArray) (id : Int) : WfS (dropS S k id).2 := by
  unfold dropS
  cases hg : mget S.V (k, id) with
  | none => exact h
  | some x =>
    simp only
    split
    · exact h
    · rename_i hs
      refine ⟨⟨h.ok.rl, sdel_rise h.ok.rv, fun p hp => (h.ok.lo p (sdel_mem hp)).of rfl, fun q hq => ?_⟩, fun p hp => h.iv p (sdel_mem hp)⟩
      rw [sdel_get _ _ _ h.ok.rv.nodup]
      split
      · rename_i e
        exfalso
        have h0 := h.ok.lo _ (mget_mem hg)
        have hl : lastOf S k = id := by
          have := mem_mget h.ok.rl.nodup (show (k, id) ∈ S.L by cases e; exact hq)
          unfold lastOf; rw [this]; rfl
        have h5 := h0.2.2.2.2
        simp only at h5
        rw [hl, if_neg (Int.lt_irrefl _)] at h5
        exact hs h5
      · exact h.ok.la q hq
/-! ### How much they hold -/
def volV (V : List (Nm × Hd)) : Nat := (V.map fun p => (keptB p).length).sum
def volL (L : List (ByteArray × Int)) : Nat := (L.map fun p => (lastB p).length).sum
theorem flat_sum {α : Type} (f : α → List UInt8) : ∀ (l : List α), (l.flatMap f).length = (l.map fun a => (f a).length).sum
  | [] => rfl
  | a :: l => by rw [List.flatMap_cons, List.length_append, flat_sum f l]; rfl
theorem bodyB_len (g : Int) (S : Sto) : (bodyB g S).length = 21 + volL S.L + volV S.V := by
  unfold bodyB volL volV
  simp only [List.length_append, beL_length, flat_sum]
  omega
theorem keptB_len (p : Nm × Hd) : (keptB p).length = 20 + p.1.1.size + p.2.val.size + tlen p.2.keys := by
  unfold keptB
  simp only [List.length_append, beL_length, textB_length, textsB_length]
  omega
theorem lastB_len (p : ByteArray × Int) : (lastB p).length = 12 + p.1.size := by
  unfold lastB
  simp only [List.length_append, beL_length, textB_length]
  omega
theorem sum_sub {α : Type} (f : α → Nat) : ∀ {l m : List α}, l.Nodup → (∀ a ∈ l, a ∈ m) → (l.map f).sum ≤ (m.map f).sum
  | [], m, _, _ => Nat.zero_le _
  | a :: l, m, hn, h => by
    obtain ⟨m1, m2, rfl⟩ := List.append_of_mem (h a (List.mem_cons_self ..))
    have hn' := List.nodup_cons.1 hn
    have := sum_sub f (m := m1 ++ m2) hn'.2 (fun b hb => by
      have h1 := h b (List.mem_cons_of_mem _ hb)
      rcases List.mem_append.1 h1 with h1 | h1
      · exact List.mem_append_left _ h1
      · rcases List.mem_cons.1 h1 with rfl | h1
        · exact absurd hb hn'.1
        · exact List.mem_append_right _ h1)
    simp only [List.map_append, List.sum_append, List.map_cons, List.sum_cons] at this ⊢; omega
theorem tlen_mem : ∀ {l : List ByteArray} {k : ByteArray}, k ∈ l → 4 + k.size ≤ tlen l
  | a :: l, k, h => by
    rw [tlen_cons]
    rcases List.mem_cons.1 h with rfl | h
    · omega
    · have := tlen_mem h; omega
theorem WfS.volL {S : Sto} (h : WfS S) : 2 * volL S.L ≤ volV S.V := by
  have h1 := sum_sub (fun n : Nm => 24 + 2 * n.1.size) (l := S.L.map fun q => (q.1, q.2)) (m := keys S.V) (by
    have := h.ok.rl.nodup
    unfold keys at this
    rw [List.map_congr_left (fun q _ => rfl : ∀ q ∈ S.L, (q.1, q.2) = q), List.map_id']
    exact List.Pairwise.imp (fun h e => h (congrArg Prod.fst e)) (List.pairwise_map.1 this)) (fun a ha => by
      obtain ⟨q, hq, rfl⟩ := List.mem_map.1 ha
      exact mget_keys.1 (h.ok.la q hq))
  have h2 : ((S.L.map fun q => (q.1, q.2)).map fun n : Nm => 24 + 2 * n.1.size).sum = 2 * Rp.volL S.L := by
    unfold Rp.volL
    generalize S.L = l
    induction l with
    | nil => rfl
    | cons a l ih =>
      simp only [List.map_cons, List.sum_cons, lastB_len]
      simp only [lastB_len] at ih
      omega
  have h3 : ((keys S.V).map fun n : Nm => 24 + 2 * n.1.size).sum ≤ volV S.V := by
    have hk : ∀ p ∈ S.V, 4 + p.1.1.size ≤ tlen p.2.keys := fun p hp => tlen_mem (h.ok.lo p hp).2.2.1
    unfold keys volV
    revert hk
    generalize S.V = l
    intro hk
    induction l with
    | nil => exact Nat.le_refl _
    | cons a l ih =>
      simp only [List.map_cons, List.sum_cons, keptB_len]
      have h4 := hk a (List.mem_cons_self ..)
      have h5 := ih (fun p hp => hk p (List.mem_cons_of_mem _ hp))
      simp only [keptB_len] at h5
      omega
  omega
theorem volV_sins : ∀ (V : List (Nm × Hd)) (n : Nm) (h : Hd), volV (sins V n h) ≤ volV V + (keptB (n, h)).length
  | [], n, h => by simp [sins, volV]
  | (a, u) :: V, n, h => by
    have := volV_sins V n h
    unfold volV at *
    unfold sins
    split
    · simp only [List.map_cons, List.sum_cons]; omega
    · split
      · simp only [List.map_cons, List.sum_cons]; omega
      · simp only [List.map_cons, List.sum_cons]; omega
theorem volV_cmK {id now : Int} {S : Sto} {k : ByteArray} : volV (cmK id now S k).V = volV S.V := by
  unfold cmK
  split
  · rfl
  · unfold volV
    rw [List.map_map]
    congr 1
    refine List.map_congr_left fun p _ => ?_
    simp only [Function.comp, keptB_len]
    have e1 : (cmH (decide (p.1.1 = k)) id now p.1 p.2).val = p.2.val := by unfold cmH; split <;> rfl
    have e2 : (cmH (decide (p.1.1 = k)) id now p.1 p.2).keys = p.2.keys := by unfold cmH; split <;> rfl
    rw [e1, e2]
theorem volV_commit {id now : Int} {S : Sto} : volV (commitS id now S).V = volV S.V := by
  unfold commitS
  generalize cmL id S = l
  induction l generalizing S with
  | nil => rfl
  | cons k l ih => rw [List.foldl_cons, ih, volV_cmK]
theorem volV_sdel : ∀ (V : List (Nm × Hd)) (n : Nm), volV (sdel V n) ≤ volV V
  | [], n => Nat.le_refl _
  | (a, u) :: V, n => by
    have := volV_sdel V n
    unfold volV at *
    unfold sdel
    split
    · simp only [List.map_cons, List.sum_cons]; omega
    · simp only [List.map_cons, List.sum_cons]; omega
theorem volV_drop {S : Sto} {k : ByteArray} {id : Int} : volV (dropS S k id).2.V ≤ volV S.V := by
  unfold dropS
  cases mget S.V (k, id) with
  | none => exact Nat.le_refl _
  | some x =>
    simp only
    split
    · exact Nat.le_refl _
    · exact volV_sdel _ _
theorem V_len (V : List (Nm × Hd)) : 20 * V.length ≤ volV V := by
  unfold volV
  induction V with
  | nil => exact Nat.le_refl _
  | cons a V ih => simp only [List.map_cons, List.sum_cons, List.length_cons, keptB_len] at *; omega
/-- What a put's arguments weigh. -/
def wtP (ps : List (ByteArray × ByteArray)) : Nat := (ps.map fun p => p.1.size + p.2.size + 3).sum
def wtK (ks : List ByteArray) : Nat := (ks.map fun k => k.size + 1).sum
theorem wtP_len : ∀ (ps : List (ByteArray × ByteArray)), 3 * ps.length ≤ wtP ps
  | [] => Nat.le_refl _
  | p :: ps => by have := wtP_len ps; simp only [wtP, List.map_cons, List.sum_cons, List.length_cons] at *; omega
theorem wtK_tlen : ∀ (ks : List ByteArray), tlen ks = wtK ks + 3 * ks.length ∧ ks.length ≤ wtK ks
  | [] => ⟨rfl, Nat.le_refl _⟩
  | k :: ks => by have := wtK_tlen ks; rw [tlen_cons]; simp only [wtK, List.map_cons, List.sum_cons, List.length_cons] at *; omega
theorem volV_putF {id now : Int} {ks : List ByteArray} : ∀ (ps : List (ByteArray × ByteArray)) (x : Bool × Sto), volV (ps.foldl (putS id ks now) x).2.V ≤ volV x.2.V + (ps.map fun p => 20 + p.1.size + p.2.size + tlen ks).sum
  | [], x => by simp
  | p :: ps, x => by
    rw [List.foldl_cons]
    have h1 := volV_putF (id := id) (now := now) (ks := ks) ps (putS id ks now x p)
    have h2 : volV (putS id ks now x p).2.V ≤ volV x.2.V + (20 + p.1.size + p.2.size + tlen ks) := by
      unfold putS
      split
      · omega
      · have := volV_sins x.2.V (p.1, id) ⟨p.2, ks, if id < lastOf x.2 p.1 then now else -1⟩
        rw [keptB_len] at this
        exact this
    simp only [List.map_cons, List.sum_cons]
    omega
theorem sum_put (t : Nat) : ∀ (ps : List (ByteArray × ByteArray)), (ps.map fun p => 20 + p.1.size + p.2.size + t).sum = 17 * ps.length + wtP ps + t * ps.length
  | [] => by simp [wtP]
  | p :: ps => by
    have := sum_put t ps
    simp only [wtP, List.map_cons, List.sum_cons, List.length_cons, Nat.mul_add] at *
    omega
theorem MayP.lens {id : Int} {ps : List (ByteArray × ByteArray)} {ks : List ByteArray} (h : MayP id ps ks) : ps.length ≤ ks.length ∧ ks.length ≤ 1024 := by
  refine ⟨?_, h.2.1.2.2⟩
  have := sum_sub (fun _ : ByteArray => 1) (l := ps.map (·.1)) (m := ks) h.2.2.2.1.nodup (fun a ha => by
    obtain ⟨p, hp, rfl⟩ := List.mem_map.1 ha
    exact (h.2.2.2.2 p hp).1)
  have e : ∀ {α : Type} (l : List α), (l.map fun _ => 1).sum = l.length := fun l => by
    induction l with
    | nil => rfl
    | cons a l ih => simp only [List.map_cons, List.sum_cons, List.length_cons, ih]; omega
  rw [e, e, List.length_map] at this; exact this
theorem volV_put {S : Sto} {id now : Int} {ps : List (ByteArray × ByteArray)} {ks : List ByteArray} (hm : MayP id ps ks) : volV (putP id ps ks now S).2.V ≤ volV S.V + 1031 * (wtP ps + wtK ks) := by
  have h1 := volV_putF (id := id) (now := now) (ks := ks) ps (false, S)
  rw [sum_put] at h1
  have h2 := hm.lens
  have h3 := wtK_tlen ks
  have h4 := wtP_len ps
  have h5 : tlen ks * ps.length ≤ 1024 * (wtK ks) + 3072 * ps.length := by
    rw [h3.1, Nat.add_mul]
    have a1 : wtK ks * ps.length ≤ wtK ks * 1024 := Nat.mul_le_mul_left _ (by omega)
    have a2 : 3 * ks.length * ps.length ≤ 3 * 1024 * ps.length := Nat.mul_le_mul_right _ (by omega)
    omega
  show volV (ps.foldl (putS id ks now) (false, S)).2.V ≤ _
  simp only at h1
  omega
end Go.Rp
