/-
  Lemmas of the law SnapWhole: five rows of bytes written.
-/
import Derived.Test.YtidoehfmbnngpaaGreatProg
import Derived.Test.YtidoehfmbnngpaaGreatPl
set_option linter.unusedVariables false
set_option linter.unusedSimpArgs false
set_option maxHeartbeats 1000000
set_option maxRecDepth 100000
namespace Go.Rp
open Go.Proofs


theorem and_mask (x : Int) : 0 ≤ bits .and .i64 x 1099511627775 ∧ bits .and .i64 x 1099511627775 ≤ 1099511627775 := by
  have h : bits .and .i64 x 1099511627775 = IntKind.i64.wrap ((BitVec.ofInt 64 x &&& BitVec.ofInt 64 1099511627775).toNat : Int) := rfl
  have h2 : (BitVec.ofInt 64 x &&& BitVec.ofInt 64 1099511627775).toNat ≤ 1099511627775 := by
    rw [BitVec.toNat_and]
    exact Nat.and_le_right
  rw [h, wrap_i64 (by omega)]
  omega
theorem tmod_lo (g : Int) (h : g < 1) : -999 ≤ g.tmod 1000 ∧ g.tmod 1000 ≤ 0 := by
  obtain ⟨n, rfl⟩ : ∃ n : Nat, g = -(n : Int) := ⟨(-g).toNat, by omega⟩
  have e : ((n : Int).tmod 1000) = ((n % 1000 : Nat) : Int) := rfl
  rw [Int.neg_tmod, e]
  omega
theorem volV_restamp (now : Int) (S : Sto) : volV (restamp now S).V = volV S.V := by
  unfold volV restamp
  simp only [List.map_map]
  rfl
theorem len_restamp (now g : Int) (S : Sto) : (bodyB g (restamp now S)).length = (bodyB g S).length := by
  rw [bodyB_len, bodyB_len, volV_restamp]; rfl
theorem restamp_get {l m : List KT} {S : Sto} {now : Int} {i : Nat} {x y : KT} (h1 : l.map (·.1) = S.V) (h2 : m.map (·.1) = (restamp now S).V) (hx : l[i]? = some x) (hy : m[i]? = some y) :
    y.1 = (x.1.1, (⟨x.1.2.val, x.1.2.keys, if x.1.1.2 < lastOf S x.1.1.1 then now else -1⟩ : Hd)) := by
  have e1 : S.V[i]? = some x.1 := by rw [← h1, List.getElem?_map, hx]; rfl
  have e2 : (restamp now S).V[i]? = some y.1 := by rw [← h2, List.getElem?_map, hy]; rfl
  unfold restamp at e2
  simp only [List.getElem?_map, e1, Option.map_some] at e2
  exact (Option.some.inj e2).symm
theorem same_get {l m : List KT} {V : List (Nm × Hd)} {i : Nat} {x y : KT} (h1 : l.map (·.1) = V) (h2 : m.map (·.1) = V) (hx : l[i]? = some x) (hy : m[i]? = some y) : SameK x y ∧ x.1.2.stamp = y.1.2.stamp := by
  have e1 : V[i]? = some x.1 := by rw [← h1, List.getElem?_map, hx]; rfl
  have e2 : V[i]? = some y.1 := by rw [← h2, List.getElem?_map, hy]; rfl
  have : x.1 = y.1 := Option.some.inj (e1.symm.trans e2)
  exact ⟨⟨by rw [this], by rw [this], by rw [this]⟩, by rw [this]⟩
/-- What a script of some weight makes. -/
structure Fits (S : Sto) : Prop where
  wf : WfS S
  vol : volV S.V ≤ 1081081856
theorem Fits.run {F : List HP} {ops : List OT} (h : Script F ops) : Fits (runS ⟨[], []⟩ ops) := by
  have h1 := volV_runS ops ⟨[], []⟩
  have h2 := h.wt
  have h3 : volV ([] : List (Nm × Hd)) = 0 := rfl
  rw [h3] at h1
  exact ⟨WfS.nil.runS ops (fun o ho => (h.id o ho).2), by omega⟩
theorem Fits.restamp {S : Sto} (h : Fits S) {now : Int} (hn : 0 ≤ now ∧ now ≤ 1099511627776) : Fits (restamp now S) := ⟨restamp_ok h.wf hn, by rw [volV_restamp]; exact h.vol⟩
theorem Fits.body {S : Sto} (h : Fits S) (g : Int) : (bodyB g S).length ≤ 2147483647 := by
  have h1 := h.wf.volL
  have h2 := h.vol
  rw [bodyB_len]; omega
theorem Fits.V {S : Sto} (h : Fits S) : S.V.length ≤ 1073741824 := by
  have h1 := V_len S.V
  have h2 := h.vol
  omega
theorem Fits.L {S : Sto} (h : Fits S) : S.L.length ≤ 1073741824 := by
  have h1 := h.wf.volL
  have h2 := h.vol
  have := flat_ge (f := lastB) (k := 12) (fun a => by rw [lastB_len]; omega) S.L
  rw [flat_sum] at this
  unfold volL at h1
  omega
theorem Fits.K {S : Sto} (h : Fits S) : ∀ x ∈ S.V, x.2.keys.length ≤ 1024 := fun x hx => (h.wf.ver hx).2.2.2.2.1
theorem Fits.Kl {S : Sto} (h : Fits S) {l : List KT} (hl : l.map (·.1) = S.V) : l.length ≤ 1099511627776 ∧ ∀ x ∈ l, x.1.2.keys.length ≤ 1099511627776 := by
  have h1 := h.V
  have h2 : l.length = S.V.length := by rw [← hl, List.length_map]
  exact ⟨by omega, fun x hx => by have := h.K x.1 (by rw [← hl]; exact List.mem_map_of_mem hx); omega⟩
theorem len_eq {l m : List KT} {V V' : List (Nm × Hd)} (h1 : l.map (·.1) = V) (h2 : m.map (·.1) = V') (h : V.length = V'.length) : l.length = m.length := by
  rw [← List.length_map (f := fun x : KT => x.1), h1, h, ← h2, List.length_map]
noncomputable def step3 (S : Sto) (o : OT) : Sto := (dropS (stepC (stepP S o) o.id o.now) o.key o.id).2
theorem volV_step3 (S : Sto) (o : OT) : volV (step3 S o).V ≤ volV S.V + 1031 * wtO o := by
  have h1 := volV_drop (S := stepC (stepP S o) o.id o.now) (k := o.key) (id := o.id)
  have h2 := volV_stepC (stepP S o) o.id o.now
  have h3 := volV_stepP S o
  unfold step3; omega
theorem vol3 {v : Nat} {R : Sto} {d : List OT} {o : OT} (h : volV R.V ≤ v + 1031 * wtOs d) : volV (step3 R o).V ≤ v + 1031 * wtOs (d ++ [o]) := by
  have h1 := volV_step3 R o
  have e : wtOs (d ++ [o]) = wtOs d + wtO o := by rw [wtOs_append]; simp [wtOs]
  omega
end Go.Rp
set_option linter.unusedVariables false
set_option linter.unusedSimpArgs false
set_option maxHeartbeats 1000000
set_option maxRecDepth 100000
namespace Go.Rp
open Go.Proofs


section
variable {P : Program} {N : Nat} {ops : Array Oper} {r : List Oper} {env : Env} {w : World} {K : Env → World → Prop}
theorem Own.osOpn {α : Type} {T : TypeId} {enc : Enc α} {ao : Option Addr} {n c : Nat} {xs : List α} {L : List HP} (H : Own (Os T enc (.slice ao n c) xs :: L) w) (h : xs ≠ []) :
    ∃ (b : Nat) (cells : List Value), ao = some ⟨b, 0, none⟩ ∧ n = xs.length ∧ cells.length = c * enc.n ∧ n ≤ c ∧ cells.take (n * enc.n) = xs.flatMap enc.f ∧ Own (Ce b (cells, T) :: L) w := by
  obtain ⟨h1, h2, d, a, b, x, y⟩ := H
  obtain ⟨⟨ao', c', e⟩, m, hm, h3⟩ := x
  cases e
  rw [flatMap_length] at hm
  have hm' : xs.length = m := Nat.eq_of_mul_eq_mul_right enc.pos hm
  rcases h3 with ⟨e, h4⟩ | ⟨b0, cap, cells, e, h4, h5, h6, h7⟩
  · exact absurd (List.eq_nil_of_length_eq_zero (by omega)) h
  · simp only at e h5 h6
    cases e
    exact ⟨b0, cells, rfl, rfl, h5, h4, h6, ⟨h1, h2, d, a, b, h7, y⟩⟩
theorem Own.osCls {α : Type} {T : TypeId} {enc : Enc α} {b c : Nat} {cells : List Value} {xs : List α} {L : List HP} (H : Own (Ce b (cells, T) :: L) w) (h1 : cells.length = c * enc.n) (h2 : xs.length ≤ c) (h3 : cells.take (xs.length * enc.n) = xs.flatMap enc.f) :
    Own (Os T enc (.slice (some ⟨b, 0, none⟩) xs.length c) xs :: L) w := by
  obtain ⟨g1, g2, d, a, b0, x, y⟩ := H
  exact ⟨g1, g2, d, a, b0, ⟨⟨_, _, rfl⟩, xs.length, flatMap_length enc xs, .inr ⟨b, c, cells, rfl, h2, h1, h3, x⟩⟩, y⟩
theorem flat_set {α β : Type} {f : α → List β} {e : α} {v : β} (h : ∀ a, (f a).length = 1) (he : f e = [v]) : ∀ (xs : List α) (i : Nat), (xs.set i e).flatMap f = (xs.flatMap f).set i v
  | [], i => by simp
  | a :: xs, 0 => by
    obtain ⟨u, hu⟩ : ∃ u, f a = [u] := List.length_eq_one_iff.1 (h a)
    simp [he, hu]
  | a :: xs, i + 1 => by
    obtain ⟨u, hu⟩ : ∃ u, f a = [u] := List.length_eq_one_iff.1 (h a)
    simp [hu, flat_set h he xs i]
theorem set_take {β : Type} : ∀ (l : List β) (i m : Nat) (v : β), i < m → (l.set i v).take m = (l.take m).set i v
  | [], i, m, v, _ => by simp
  | a :: l, 0, m + 1, v, _ => by simp
  | a :: l, i + 1, m + 1, v, h => by simp [set_take l i m v (by omega)]
/-- A place of an own slice written. -/
theorem lq_stO {α : Type} {t T n c i : Nat} {x y : Operand} {ao : Option Addr} {enc : Enc α} {xs : List α} (e : α) {v : Value} {dst : Option Tmp} {ty : TypeId} {p : String} {af : Array Edge} {L M : List HP} (H : Own L w)
    (hx : evo env x = some (.pointer (some (elA ao enc.n i 0)))) (hy : evo env y = some v) [tk : TkR (Os T enc) (.slice ao n c) L xs M] [sz : SzT P t 1] (h1 : enc.n = 1) (he : enc.f e = [v]) (hv : v.cells.toList = [v]) (hi : i < xs.length)
    (h : ∀ w', Own (Os T enc (.slice ao n c) (xs.set i e) :: M) w' → lr P N ops r (put N env dst undef) w' K) : lq P N ops (⟨dst, .store t x y, ty, p, af, none⟩ :: r) env w K := by
  have H1 : Own (Os T enc (.slice ao n c) xs :: M) w := tk.out _ H
  obtain ⟨b, cells, rfl, hn, hl, hc, ht, H2⟩ := H1.osOpn (fun q => by rw [q] at hi; simp at hi)
  rw [h1, Nat.mul_one] at ht
  have hlen : i < cells.length := by rw [hl, h1]; omega
  have hone : v.oneCell' = true := enc.one e v (by rw [he]; simp)
  have hx' : evo env x = some (.pointer (some ⟨b, i, none⟩)) := by
    rw [hx]; simp [elA, bO, h1]
  refine lq_st H2 hx' hy (by rw [hv]; simp [stB, hone, hlen]; omega) (fun w' H3 => h w' ?_)
  rw [hv] at H3
  have hs : setR cells i [v] = cells.set i v := rfl
  rw [hs] at H3
  have H4 := Own.osCls (T := T) (enc := enc) (c := c) (xs := xs.set i e) H3 (by rw [List.length_set]; exact hl) (by rw [List.length_set]; omega) (by
    rw [List.length_set, h1, Nat.mul_one, ← hn, set_take _ _ _ _ (by omega), ht, flat_set (fun a => by rw [enc.len, h1]) he])
  rw [List.length_set, ← hn] at H4
  exact H4
end
def encV : Enc Sl := ⟨fun s => [slv s], 1, fun _ => rfl, fun x u hu => by simp at hu; subst hu; rfl, by decide⟩
/-- Five rows of bytes. -/
def rest5 (i : Nat) (f : Nat → Sl × List UInt8) : HP := Bigs ((List.range 5).erase i) fun j => Os 5 encB (slv (f j).1) (f j).2
def AllR (f : Nat → Sl × List UInt8) : HP := Bigs (List.range 5) fun j => Os 5 encB (slv (f j).1) (f j).2
def upd (f : Nat → Sl × List UInt8) (i : Nat) (x : Sl × List UInt8) (j : Nat) : Sl × List UInt8 := if j = i then x else f j
theorem Own.allTake {f : Nat → Sl × List UInt8} {i : Nat} {L : List HP} {w : World} (H : Own (AllR f :: L) w) (hi : i < 5) : Own (Os 5 encB (slv (f i).1) (f i).2 :: rest5 i f :: L) w := by
  have hpm : (List.range 5).Perm (i :: (List.range 5).erase i) := List.perm_cons_erase (List.mem_range.2 hi)
  have H1 := Sep.imp (B := Sep (Os 5 encB (slv (f i).1) (f i).2 :: [rest5 i f])) (fun g q => by
    have q1 : Sep ((i :: (List.range 5).erase i).map fun j => Os 5 encB (slv (f j).1) (f j).2) g := Sep.perm (hpm.map _) q
    exact Sep.under (fun g q => ⟨g, g.emp, Hp.dj_symm g.emp_dj, Hp.le_refl _, g.emp_le, q, trivial⟩) q1) H
  exact Sep.flat.1 H1
theorem Own.allPut {f : Nat → Sl × List UInt8} {i : Nat} {s : Sl} {xs : List UInt8} {L : List HP} {w : World} (H : Own (Os 5 encB (slv s) xs :: rest5 i f :: L) w) (hi : i < 5) : Own (AllR (upd f i (s, xs)) :: L) w := by
  have hpm : (List.range 5).Perm (i :: (List.range 5).erase i) := List.perm_cons_erase (List.mem_range.2 hi)
  have e : (((List.range 5).erase i).map fun j => Os 5 encB (slv (f j).1) (f j).2) = ((List.range 5).erase i).map fun j => Os 5 encB (slv (upd f i (s, xs) j).1) (upd f i (s, xs) j).2 :=
    List.map_congr_left fun j hj => by
      have : j ≠ i := fun q => by rw [q] at hj; exact (List.Nodup.not_mem_erase List.nodup_range) hj
      unfold upd; rw [if_neg this]
  have e0 : upd f i (s, xs) i = (s, xs) := if_pos rfl
  unfold rest5 Bigs at H
  rw [e] at H
  have H1 : Sep (Sep [Os 5 encB (slv s) xs, Sep (((List.range 5).erase i).map fun j => Os 5 encB (slv (upd f i (s, xs) j).1) (upd f i (s, xs) j).2)] :: L) (hp w) := Sep.flat.2 H
  refine Sep.imp (fun g q => ?_) H1
  have q1 : Sep ((i :: (List.range 5).erase i).map fun j => Os 5 encB (slv (upd f i (s, xs) j).1) (upd f i (s, xs) j).2) g := by
    rw [List.map_cons, e0]
    exact Sep.under (fun g q => by
      obtain ⟨g1, g2, d, a, b, x, y⟩ := q
      exact Sep.mono a x) q
  exact Sep.perm (hpm.symm.map _) q1
/-- The five rows' lengths. -/
def Len5 (n : Nat) (f : Nat → Sl × List UInt8) : Prop := ∀ j, j < 5 → (f j).1.2.1 = (f j).2.length ∧ n ≤ (f j).2.length
theorem firsts_upd {f : Nat → Sl × List UInt8} {i : Nat} {x : Sl × List UInt8} (h : x.1 = (f i).1) : ((List.range 5).map fun j => (upd f i x j).1) = (List.range 5).map fun j => (f j).1 :=
  List.map_congr_left fun j _ => by
    unfold upd; split
    · rename_i e; rw [e]; exact h
    · rfl
theorem firsts_set {f : Nat → Sl × List UInt8} {i : Nat} {x : Sl × List UInt8} (hi : i < 5) : ((List.range 5).map fun j => (upd f i x j).1) = ((List.range 5).map fun j => (f j).1).set i x.1 := by
  apply List.ext_getElem?
  intro k
  rw [List.getElem?_set]
  by_cases hk : k < 5
  · simp only [List.getElem?_map, List.getElem?_range hk, Option.map_some, List.length_map, List.length_range]
    unfold upd
    by_cases e : i = k
    · subst e; simp [hk]
    · rw [if_neg (fun q => e q.symm), if_neg e]
  · rw [List.getElem?_eq_none (by simp; omega), if_neg (by omega), List.getElem?_eq_none (by simp; omega)]
theorem firsts_at {f : Nat → Sl × List UInt8} {i : Nat} (hi : i < 5) : ((List.range 5).map fun j => (f j).1)[i]? = some (f i).1 := by
  rw [List.getElem?_map, List.getElem?_range hi]; rfl
theorem take_set_rep {xs : List UInt8} {k : Nat} {b : UInt8} (h : xs.take k = List.replicate k b) (hk : k < xs.length) : (xs.set k b).take (k + 1) = List.replicate (k + 1) b := by
  rw [List.replicate_succ', ← h, List.take_succ_eq_append_getElem (by rw [List.length_set]; exact hk)]
  congr 1
  · rw [List.take_set_of_le (Nat.le_refl _)]
  · simp
end Go.Rp
