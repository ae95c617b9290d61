/-
  store: Put, Drop.
-/
import Derived.Test.YtidoehfmbnngpaaGreatProg
import Derived.Test.YtidoehfmbnngpaaGreatPc
set_option linter.unusedVariables false
set_option linter.unusedSimpArgs false
set_option maxHeartbeats 1000000
set_option maxRecDepth 100000
namespace Go.Rp
open Go.Proofs


theorem Sep.perm {L M : List HP} (p : List.Perm L M) : ∀ {h : Hp}, Sep L h → Sep M h := by
  induction p with
  | nil => exact fun x => x
  | cons _ _ ih => exact fun x => Sep.under (fun _ y => ih y) x
  | swap => exact fun x => Sep.swap x
  | trans _ _ ih1 ih2 => exact fun x => ih2 (ih1 x)
section
variable {κ β : Type} [DecidableEq κ] {f f' : κ × β → HP} {m : List (κ × β)} {k : κ} {v v' : β} {L : List HP} {w : World}
theorem mdel_perm : ∀ {m : List (κ × β)} {k : κ} {v : β}, mget m k = some v → List.Perm m ((k, v) :: mdel m k)
  | (a, u) :: m, k, v, h => by
    unfold mget at h
    unfold mdel
    split at h
    · rename_i e; subst e; cases h; rw [if_pos rfl]
    · rename_i e; rw [if_neg e]
      exact ((mdel_perm h).cons _).trans (.swap ..)
theorem mdel_none : ∀ {m : List (κ × β)} {k : κ}, mget m k = none → mdel m k = m
  | [], _, _ => rfl
  | (a, u) :: m, k, h => by
    unfold mget at h
    unfold mdel
    split at h
    · cases h
    · rename_i e; rw [if_neg e, mdel_none h]
theorem mset_perm : ∀ (m : List (κ × β)) (k : κ) (v : β), List.Perm (mset m k v) ((k, v) :: mdel m k)
  | [], k, v => .refl _
  | (a, u) :: m, k, v => by
    unfold mset mdel
    split
    · exact .refl _
    · exact ((mset_perm m k v).cons _).trans (.swap ..)
theorem mdel_mem : ∀ {m : List (κ × β)} {k : κ} {p : κ × β}, (keys m).Nodup → p ∈ mdel m k → p ∈ m ∧ p.1 ≠ k
  | [], _, _, _, h => by cases h
  | (a, u) :: m, k, p, hn, h => by
    simp only [keys, List.map_cons, List.nodup_cons] at hn
    unfold mdel at h
    split at h
    · rename_i e; subst e
      exact ⟨List.mem_cons_of_mem _ h, fun e => hn.1 (e ▸ List.mem_map.2 ⟨p, h, rfl⟩)⟩
    · rename_i e
      rcases List.mem_cons.1 h with rfl | h
      · exact ⟨List.mem_cons_self .., e⟩
      · have := mdel_mem hn.2 h
        exact ⟨List.mem_cons_of_mem _ this.1, this.2⟩
theorem Own.bigTake (H : Own (Bigs m f :: L) w) (h : mget m k = some v) : Own (f (k, v) :: Bigs (mdel m k) f :: L) w := by
  have H1 := Sep.imp (B := Sep (f (k, v) :: [Sep ((mdel m k).map f)])) (fun g q => by
    have q1 : Sep (((k, v) :: mdel m k).map f) g := Sep.perm ((mdel_perm h).map f) q
    exact Sep.under (fun g q => ⟨g, g.emp, Hp.dj_symm g.emp_dj, Hp.le_refl _, g.emp_le, q, trivial⟩) q1) H
  exact Sep.flat.1 H1
theorem Own.bigPut (H : Own (f' (k, v') :: Bigs (mdel m k) f :: L) w) (hf : ∀ e ∈ mdel m k, f e = f' e) : Own (Bigs (mset m k v') f' :: L) w := by
  have e : (mdel m k).map f = (mdel m k).map f' := List.map_congr_left hf
  have H1 : Sep (Sep [f' (k, v'), Sep ((mdel m k).map f')] :: L) (hp w) := Sep.flat.2 (by rw [← e]; exact H)
  refine Sep.imp (fun g q => ?_) H1
  refine Sep.perm ((mset_perm m k v').map f').symm ?_
  exact Sep.under (fun g q => by
    obtain ⟨g1, g2, d, a, b, x, y⟩ := q
    exact Sep.mono a x) q
end
theorem Own.bigSame {κ β : Type} {m : List (κ × β)} {f f' : κ × β → HP} {L : List HP} {w : World} (H : Own (Bigs m f :: L) w) (hf : ∀ e ∈ m, f e = f' e) : Own (Bigs m f' :: L) w := by
  have e : m.map f = m.map f' := List.map_congr_left hf
  unfold Bigs at H ⊢; rw [← e]; exact H
theorem Own.bagAdd {ao : Option Addr} {xs : List ByteArray} {rs : List (Option Addr × List ByteArray)} {L : List HP} {w : World} (H : Own (Row ao encS xs :: Bag rs :: L) w) : Own (Bag ((ao, xs) :: rs) :: L) w := by
  have H1 : Sep (Sep [Row ao encS xs, Bag rs] :: L) (hp w) := Sep.flat.2 H
  refine Sep.imp (fun g q => ?_) H1
  exact Sep.under (fun g q => by
    obtain ⟨g1, g2, d, a, b, x, y⟩ := q
    exact Sep.mono a x) q
theorem Bag.ent {rs : List (Option Addr × List ByteArray)} {L : List HP} {r : Option Addr × List ByteArray} (h : r ∈ rs) : Ent (Bag rs :: L) (Row r.1 encS r.2) := fun g ⟨g1, g2, d, a, b, x, y⟩ => by
  refine Row.mono a ?_
  have hm : Row r.1 encS r.2 ∈ rs.map fun r => Row r.1 encS r.2 := List.mem_map.2 ⟨r, h, rfl⟩
  have key : ∀ (l : List HP) (A : HP), A ∈ l → (∀ g h, Hp.le g h → A g → A h) → ∀ g, Sep l g → A g := by
    intro l
    induction l with
    | nil => intro A h; cases h
    | cons B l ih =>
      intro A hA mono g ⟨g1, g2, d, a, b, x, y⟩
      rcases List.mem_cons.1 hA with rfl | hA
      · exact mono _ _ a x
      · exact mono _ _ b (ih A hA mono _ y)
  exact key _ _ hm (fun g h l q => Row.mono l q) _ x
/-! ### The IDs of a key -/
theorem idsOf_mem {V : List (Nm × Hd)} {k : ByteArray} {i : Int} : i ∈ idsOf V k ↔ (mget V (k, i)).isSome = true := by
  rw [mget_keys]
  simp only [idsOf, keys, List.mem_map, List.mem_filter, decide_eq_true_eq]
  constructor
  · rintro ⟨⟨⟨a, b⟩, h⟩, ⟨h1, h2⟩, h3⟩
    simp only at h2 h3; subst h2; subst h3
    exact ⟨_, h1, rfl⟩
  · rintro ⟨⟨⟨a, b⟩, h⟩, h1, h2⟩
    cases h2
    exact ⟨_, ⟨h1, rfl⟩, rfl⟩
theorem idsOf_rise : ∀ {V : List (Nm × Hd)} (k : ByteArray), Rise (keys V) → Rise (idsOf V k)
  | [], _, _ => .nil
  | ((a, i), h) :: V, k, hr => by
    have hr' := List.pairwise_cons.1 hr
    have ih := idsOf_rise (V := V) k hr'.2
    unfold idsOf
    rw [List.filter_cons]
    split
    · rename_i e
      simp only [decide_eq_true_eq] at e; subst e
      refine List.pairwise_cons.2 ⟨fun x hx => ?_, ih⟩
      have hx' : (mget V (a, x)).isSome = true := idsOf_mem.1 hx
      have := hr'.1 (a, x) (mget_keys.1 hx')
      simp only [Lt.lt, Bool.or_eq_true, Bool.and_eq_true] at this
      rcases this with h | h
      · have h0 := Lt.irr (κ := ByteArray) a
        rw [show Lt.lt a a = sless a a from rfl] at h0
        rw [h0] at h; cases h
      · exact h.2
    · exact ih
theorem bs_insert {xs : List Int} {x : Int} {i : Nat} (hr : Rise xs) (hb : BsAt xs x i) (hx : ¬ x ∈ xs) : Rise (xs.take i ++ x :: xs.drop i) := by
  refine List.pairwise_append.2 ⟨List.Pairwise.sublist (List.take_sublist _ _) hr, List.pairwise_cons.2 ⟨fun a ha => ?_, List.Pairwise.sublist (List.drop_sublist _ _) hr⟩, fun a ha b hb' => ?_⟩
  · obtain ⟨n, hn⟩ := List.mem_iff_getElem?.1 ha
    rw [List.getElem?_drop] at hn
    have := hb.hi _ _ (Nat.le_add_right i n) hn
    rcases Lt.tri x a with h | h | h
    · exact h
    · subst h; exact absurd (List.mem_of_getElem? hn) hx
    · rw [h] at this; cases this
  · obtain ⟨n, hn⟩ := List.mem_iff_getElem?.1 ha
    rw [List.getElem?_take] at hn
    split at hn
    · rename_i hni
      have h1 := hb.lo _ _ hni hn
      rcases List.mem_cons.1 hb' with rfl | hb'
      · exact h1
      · obtain ⟨n2, hn2⟩ := List.mem_iff_getElem?.1 hb'
        rw [List.getElem?_drop] at hn2
        exact hr.get (by omega) hn hn2
    · cases hn
theorem idsOf_ins {V : List (Nm × Hd)} {k : ByteArray} {id : Int} {h : Hd} {i : Nat} (hr : Rise (keys V)) (hb : BsAt (idsOf V k) id i) (hn : mget V (k, id) = none) :
    idsOf (sins V (k, id) h) k = (idsOf V k).take i ++ id :: (idsOf V k).drop i := by
  have hni : ¬ id ∈ idsOf V k := fun q => by rw [idsOf_mem, hn] at q; cases q
  refine Rise.ext (idsOf_rise k (sins_rise _ _ _ hr)) (bs_insert (idsOf_rise k hr) hb hni) fun a => ?_
  rw [idsOf_mem, sins_get _ _ _ _ hr]
  have hm : a ∈ (idsOf V k).take i ++ id :: (idsOf V k).drop i ↔ a = id ∨ a ∈ idsOf V k := by
    rw [List.mem_append, List.mem_cons]
    conv => rhs; rw [← List.take_append_drop i (idsOf V k), List.mem_append]
    constructor
    · rintro (h | h | h) <;> simp [h]
    · rintro (h | h | h) <;> simp [h]
  rw [hm, idsOf_mem]
  by_cases e : a = id
  · subst e; simp
  · rw [if_neg (by simp [Ne.symm e])]; simp [e]
theorem idsOf_other {V : List (Nm × Hd)} {k k' : ByteArray} {id : Int} {h : Hd} (hr : Rise (keys V)) (hne : k' ≠ k) : idsOf (sins V (k, id) h) k' = idsOf V k' := by
  refine Rise.ext (idsOf_rise k' (sins_rise _ _ _ hr)) (idsOf_rise k' hr) fun a => ?_
  rw [idsOf_mem, idsOf_mem, sins_get _ _ _ _ hr, if_neg (by simp [Ne.symm hne])]
theorem idsTake {V : List (Nm × Hd)} {mi : List (ByteArray × Sl)} {k : ByteArray} {L : List HP} {w : World} (h0 : mget mi k = none → idsOf V k = []) (H : Own (IdsR V mi :: L) w) :
    ∃ ao c, mval EmI mi k (.slice none 0 0) = .slice ao (idsOf V k).length c ∧ Own (Os 43 encI (.slice ao (idsOf V k).length c) (idsOf V k) :: Bigs (mdel mi k) (fun e => Os 43 encI (slv e.2) (idsOf V e.1)) :: L) w := by
  cases h : mget mi k with
  | none =>
    have h1 := h0 h
    refine ⟨none, 0, by rw [mval_none h, h1]; rfl, ?_⟩
    rw [h1, mdel_none h]
    exact Os.nil _ encI H
  | some s =>
    have H1 := Own.bigTake H h
    obtain ⟨ao, c, e⟩ := H1.osv
    exact ⟨ao, c, by rw [mval_some h]; exact e, by rw [← e]; exact H1⟩
theorem plTake {pl : Int → List ByteArray} {mp : List (Int × Sl)} {id : Int} {L : List HP} {w : World} (h0 : mget mp id = none → pl id = []) (H : Own (PlR pl mp :: L) w) :
    ∃ ao c, mval EmP mp id (.slice none 0 0) = .slice ao (pl id).length c ∧ Own (Os 9 encS (.slice ao (pl id).length c) (pl id) :: Bigs (mdel mp id) (fun e => Os 9 encS (slv e.2) (pl e.1)) :: L) w := by
  cases h : mget mp id with
  | none =>
    have h1 := h0 h
    refine ⟨none, 0, by rw [mval_none h, h1]; rfl, ?_⟩
    rw [h1, mdel_none h]
    exact Os.nil _ encS H
  | some s =>
    have H1 := Own.bigTake H h
    obtain ⟨ao, c, e⟩ := H1.osv
    exact ⟨ao, c, by rw [mval_some h]; exact e, by rw [← e]; exact H1⟩
end Go.Rp
set_option linter.unusedVariables false
set_option linter.unusedSimpArgs false
set_option maxHeartbeats 1000000
set_option maxRecDepth 100000
namespace Go.Rp
open Go.Proofs
instance iW14_0 : ElT Tryz.prog 43 1 := ElT.mk' (by kernel_rfl)
instance iW14_1 : ElT Tryz.prog 9 1 := ElT.mk' (by kernel_rfl)
instance iW14_2 : FnOk Tryz.prog 113 := ⟨⟨Tryz.f113, Tryz.func113, by kernel_rfl, by kernel_rfl⟩⟩
instance iW14_3 : FnOk Tryz.prog 114 := ⟨⟨Tryz.f114, Tryz.func114, by kernel_rfl, by kernel_rfl⟩⟩
instance iW14_4 : MpT Tryz.prog 123 119 125 := ⟨by kernel_rfl⟩
instance iW14_5 : MpT Tryz.prog 126 9 141 := ⟨by kernel_rfl⟩
instance iW14_6 : MpT Tryz.prog 127 43 44 := ⟨by kernel_rfl⟩
instance iW14_7 : SlT Tryz.prog 141 43 := ⟨by kernel_rfl⟩
instance iW14_8 : SlT Tryz.prog 44 9 := ⟨by kernel_rfl⟩
instance iW14_9 : ZvT Tryz.prog 141 (.slice none 0 0) := ⟨by kernel_rfl⟩
instance iW14_10 : ZvT Tryz.prog 44 (.slice none 0 0) := ⟨by kernel_rfl⟩
theorem tt64 : (AG Tryz.prog 119 = some true) ∧ (AG Tryz.prog 123 = some false) ∧ (AG Tryz.prog 125 = some true) ∧ (AG Tryz.prog 126 = some false) ∧ (AG Tryz.prog 127 = some false) ∧ (AG Tryz.prog 43 = some false) ∧ (AG Tryz.prog 9 = some false) ∧ (FO Tryz.prog 119 0 = some 0) ∧ (FO Tryz.prog 119 1 = some 1) ∧ (FO Tryz.prog 129 0 = some 0) ∧ (FO Tryz.prog 129 1 = some 1) ∧ (FO Tryz.prog 129 2 = some 2) ∧ (SZ Tryz.prog 119 = some 2) ∧ (SZ Tryz.prog 125 = some 3) := ⟨by kernel_rfl, by kernel_rfl, by kernel_rfl, by kernel_rfl, by kernel_rfl, by kernel_rfl, by kernel_rfl, by kernel_rfl, by kernel_rfl, by kernel_rfl, by kernel_rfl, by kernel_rfl, by kernel_rfl, by kernel_rfl⟩

theorem Own.stC2 {p : Nat} {V : List (Nm × Hd)} {LL : List (ByteArray × Int)} {bv bi bp bl : Nat} {mv : List (Nm × (ByteArray × Sl × Int))} {mi : List (ByteArray × Sl)} {mp : List (Int × Sl)} {ml : List (ByteArray × Int)} {rs : List (Option Addr × List ByteArray)} {pl : Int → List ByteArray} {L M : List HP} {w : World}
    (hq : LoOk ⟨V, LL⟩ ⟨bv, bi, bp, bl, mv, mi, mp, ml, rs, pl⟩) (H : Own M w) [wk : Wk M (Ce p ([.map (some bv), .map (some bi), .map (some bp), .map (some bl)], 129) :: Mp EmV bv mv :: Mp EmI bi mi :: Mp EmP bp mp :: Mp EmL bl ml :: Bag rs :: Bigs mi (fun e => Os 43 encI (slv e.2) (idsOf V e.1)) :: Bigs mp (fun e => Os 9 encS (slv e.2) (pl e.1)) :: L)] : Own (StoreAt p ⟨V, LL⟩ :: L) w :=
  Sep.ex.2 ⟨⟨bv, bi, bp, bl, mv, mi, mp, ml, rs, pl⟩, Sep.pure.2 ⟨hq, Sep.flat.2 (wk.out _ H)⟩⟩
theorem nodup_len {α : Type} : ∀ {l m : List α}, l.Nodup → (∀ a ∈ l, a ∈ m) → l.length ≤ m.length
  | [], _, _, _ => Nat.zero_le _
  | a :: l, m, hn, h => by
    obtain ⟨m1, m2, rfl⟩ := List.append_of_mem (h a (List.mem_cons_self ..))
    have hn' := List.nodup_cons.1 hn
    have := nodup_len (m := m1 ++ m2) hn'.2 (fun b hb => by
      have h1 := h b (List.mem_cons_of_mem _ hb)
      rcases List.mem_append.1 h1 with h1 | h1
      · exact List.mem_append_left _ h1
      · rcases List.mem_cons.1 h1 with rfl | h1
        · exact absurd hb hn'.1
        · exact List.mem_append_right _ h1)
    simp only [List.length_append, List.length_cons] at this ⊢; omega
theorem idsOf_len (V : List (Nm × Hd)) (k : ByteArray) : (idsOf V k).length ≤ V.length := by
  unfold idsOf; rw [List.length_map]; exact List.length_filter_le ..
theorem LoOk.pl_len {S : Sto} {q : Lo} (hq : LoOk S q) (id : Int) : (q.pl id).length ≤ S.V.length := by
  have := nodup_len (l := (q.pl id).map fun k => (k, id)) (m := keys S.V) (by
    have := hq.pn id
    exact List.Pairwise.map _ (fun a b h e => h (by cases e; rfl)) this) (fun a ha => by
    obtain ⟨k, hk, rfl⟩ := List.mem_map.1 ha
    exact mget_keys.1 ((hq.p id k).1 hk))
  simpa [keys] using this
theorem HvRel.mono {rs rs' : List (Option Addr × List ByteArray)} {a : Option (ByteArray × Sl × Int)} {b : Option Hd} (h : HvRel rs a b) (hs : ∀ r ∈ rs, r ∈ rs') : HvRel rs' a b := by
  unfold HvRel at *
  cases a <;> cases b <;> simp_all
theorem LoOk.put {S : Sto} {q : Lo} (hq : LoOk S q) {k : ByteArray} {id : Int} {h : Hd} {ao : Option Addr} {c : Nat} (hn : mget S.V (k, id) = none) (si : Sl) (sp : Sl) :
    LoOk ⟨sins S.V (k, id) h, S.L⟩ { q with mv := mset q.mv (k, id) (h.val, (ao, h.keys.length, c), h.stamp), mi := mset q.mi k si, mp := mset q.mp id sp, rs := (ao, h.keys) :: q.rs, pl := fun i => if i = id then q.pl id ++ [k] else q.pl i } where
  rv := sins_rise _ _ _ hq.rv
  rl := hq.rl
  v := fun n => by
    simp only
    rw [mset_get, sins_get _ _ _ _ hq.rv]
    by_cases e : (k, id) = n
    · rw [if_pos e, if_pos e]
      exact ⟨rfl, rfl, rfl, List.mem_cons_self ..⟩
    · rw [if_neg e, if_neg e]
      exact (hq.v n).mono fun r hr => List.mem_cons_of_mem _ hr
  i := fun k' h' => by
    simp only at h'
    rw [mset_get] at h'
    split at h'
    · cases h'
    · rename_i e
      show idsOf _ _ = _
      rw [idsOf_other hq.rv (Ne.symm e)]; exact hq.i k' h'
  p := fun i k' => by
    simp only
    rw [sins_get _ _ _ _ hq.rv]
    by_cases e : i = id
    · subst e
      rw [if_pos rfl]
      by_cases e2 : k' = k
      · subst e2; simp
      · rw [if_neg (by simp [Ne.symm e2]), List.mem_append, hq.p]; simp [e2]
    · rw [if_neg e, if_neg (by simp [Ne.symm e]), hq.p]
  pn := fun i => by
    simp only
    split
    · rw [List.nodup_append]
      refine ⟨hq.pn id, by simp, fun a ha b hb => ?_⟩
      simp only [List.mem_singleton] at hb; subst hb
      rintro rfl
      rw [hq.p, hn] at ha; cases ha
    · exact hq.pn i
  p0 := fun i h' => by
    simp only at h' ⊢
    rw [mset_get] at h'
    split at h'
    · cases h'
    · rename_i e
      rw [if_neg (Ne.symm e)]; exact hq.p0 i h'
  l := hq.l
theorem putv_ok {p : Nat} {S : Sto} {k val : ByteArray} {id stamp : Int} {ks : List ByteArray} {ao : Option Addr} {n c : Nat} {F : List HP} {w : World} (H : Own (StoreAt p S :: Row ao encS ks :: F) w) (hn : n = ks.length) (hnew : mget S.V (k, id) = none) (hbv : S.V.length ≤ 1073741824) :
  Cl Tryz.prog 64 #[.pointer (some ⟨p, 0, none⟩), .agg #[.string k, .int .u64 id], .agg #[.string val, .slice ao n c, .int .i64 stamp]] w fun v w' => Own (StoreAt p ⟨sins S.V (k, id) ⟨val, ks, stamp⟩, S.L⟩ :: F) w' := by
  subst hn
  refine cl_of_cw Tryz.func64 rfl ?_
  simp only [Tryz.ntmps64, envA, List.size_toArray, List.length_cons, List.length_nil, Nat.reduceAdd, Nat.reduceSub]
  obtain ⟨q, hq, H⟩ := H.stO
  obtain ⟨_, _, _, _, _, _, hni⟩ := (H.tkR (R := Mp EmI) (k := q.bi)).mp
  obtain ⟨_, _, _, _, _, _, hnp⟩ := (H.tkR (R := Mp EmP) (k := q.bp)).mp
  have hil := idsOf_len S.V k
  have hpl := hq.pl_len id
  refine cw_seq (fun K1 h1 => ?_)
  refine cw_region (lq_run ?_)
  simp (maxSteps := 500000) (decide := true) (disch := omega) only [EV, ↓reduceIte, Nat.reduceAdd, tt64]
  refine lq_box H rfl (fun b4 w H => ?_)
  try simp only [ES] at H
  simp (maxSteps := 500000) (decide := true) (disch := omega) only [EV, ↓reduceIte, Nat.reduceAdd, tt64]
  refine lq_box H rfl (fun b5 w H => ?_)
  try simp only [ES] at H
  simp (maxSteps := 500000) (decide := true) (disch := omega) only [EV, ↓reduceIte, Nat.reduceAdd, tt64]
  refine lq_nil ?_
  refine h1 _ _ ?_
  refine cw_seq (fun K2 h2 => ?_)
  refine cw_draw [(0, 0), (1, 0), (2, 0), (3, 1), (4, 1), (5, 1), (6, 3)] rfl (by kernel_rfl) (fun c env w => by simp (decide := true) only [EX, not_false_eq_true]) H (fun w H => ?_)
  have H0 := H
  refine dq_run ?_
  simp (maxSteps := 500000) (decide := true) (disch := omega) only [EV, ↓reduceIte, Nat.reduceAdd, tt64]
  refine dq_load H0 rfl ?_
  simp (maxSteps := 500000) (decide := true) (disch := omega) only [EV, ↓reduceIte, Nat.reduceAdd, tt64]
  refine dq_load H0 rfl ?_
  simp (maxSteps := 500000) (decide := true) (disch := omega) only [EV, ↓reduceIte, Nat.reduceAdd, tt64]
  refine dq_load H0 rfl ?_
  simp (maxSteps := 500000) (decide := true) (disch := omega) only [EV, ↓reduceIte, Nat.reduceAdd, tt64]
  refine dq_act (by decide) rfl ?_
  refine lq_mapUpdate (E := EmV) (k, id) (val, (ao, ks.length, c), stamp) H rfl rfl rfl (fun w H => ?_)
  refine lr_nil ?_
  refine ⟨fun hh => absurd hh (by decide), ?_⟩
  simp (maxSteps := 500000) (decide := true) (disch := omega) only [EV, ↓reduceIte, Nat.reduceAdd, tt64]
  refine dq_nil ?_
  refine h2 _ _ ?_
  refine cw_seq (fun K3 h3 => ?_)
  obtain ⟨aoi, ci, hiv, H⟩ := idsTake (hq.i k) (H.tkR (R := IdsR) (k := S.V))
  refine cw_drawW (L0 := [Ce p ([.map (some q.bv), .map (some q.bi), .map (some q.bp), .map (some q.bl)], 129), Ce b4 ([.string k, .int .u64 id], 119), Mp EmI q.bi q.mi]) [(0, 0), (1, 0), (2, 0), (3, 1), (4, 0), (5, 1), (6, 1), (7, 0), (8, 1), (9, 3), (10, 0), (11, 0), (12, 0), (13, 0), (14, 0)] rfl (by kernel_rfl) (fun c env w => by simp (decide := true) only [EX, not_false_eq_true]) H (fun w H => ?_)
  have H0 : Own [Ce p ([.map (some q.bv), .map (some q.bi), .map (some q.bp), .map (some q.bl)], 129), Ce b4 ([.string k, .int .u64 id], 119), Mp EmI q.bi q.mi] w := H.wk
  refine dq_run ?_
  simp (maxSteps := 500000) (decide := true) (disch := omega) only [EV, ↓reduceIte, Nat.reduceAdd, tt64]
  refine dq_load H0 rfl ?_
  simp (maxSteps := 500000) (decide := true) (disch := omega) only [EV, ↓reduceIte, Nat.reduceAdd, tt64]
  refine dq_load H0 rfl ?_
  simp (maxSteps := 500000) (decide := true) (disch := omega) only [EV, ↓reduceIte, Nat.reduceAdd, tt64]
  refine dq_lookup (E := EmI) k H0 rfl rfl ?_
  rw [hiv]
  simp (maxSteps := 500000) (decide := true) (disch := omega) only [EV, ↓reduceIte, Nat.reduceAdd, tt64]
  refine dq_load H0 rfl ?_
  simp (maxSteps := 500000) (decide := true) (disch := omega) only [EV, ↓reduceIte, Nat.reduceAdd, tt64]
  refine dq_act (by decide) rfl ?_
  refine lq_call rfl ?_
  refine Cl.mono (bsI_ok H Ent.os rfl (by omega) (idsOf_rise k hq.rv)) ?_
  rintro _ w ⟨i, hbs, rfl, H⟩
  refine lr_nil ?_
  refine ⟨fun hh => absurd hh (by decide), ?_⟩
  simp (maxSteps := 500000) (decide := true) (disch := omega) only [EV, ↓reduceIte, Nat.reduceAdd, tt64]
  refine dq_nil ?_
  refine h3 _ _ ?_
  refine cw_seq (fun K4 h4 => ?_)
  refine cw_drawW (L0 := [Ce p ([.map (some q.bv), .map (some q.bi), .map (some q.bp), .map (some q.bl)], 129), Ce b4 ([.string k, .int .u64 id], 119), Mp EmI q.bi q.mi]) [(0, 0), (1, 0), (2, 0), (3, 1), (4, 0), (5, 1), (6, 0), (7, 0), (8, 0), (9, 1), (10, 0), (11, 1), (12, 1), (13, 0), (14, 0), (15, 1), (16, 2), (17, 2), (18, 3)] rfl (by kernel_rfl) (fun c env w => by simp (decide := true) only [EX, not_false_eq_true]) H (fun w H => ?_)
  have H0 : Own [Ce p ([.map (some q.bv), .map (some q.bi), .map (some q.bp), .map (some q.bl)], 129), Ce b4 ([.string k, .int .u64 id], 119), Mp EmI q.bi q.mi] w := H.wk
  refine dq_run ?_
  simp (maxSteps := 500000) (decide := true) (disch := omega) only [EV, ↓reduceIte, Nat.reduceAdd, tt64]
  refine dq_load H0 rfl ?_
  simp (maxSteps := 500000) (decide := true) (disch := omega) only [EV, ↓reduceIte, Nat.reduceAdd, tt64]
  refine dq_load H0 rfl ?_
  simp (maxSteps := 500000) (decide := true) (disch := omega) only [EV, ↓reduceIte, Nat.reduceAdd, tt64]
  refine dq_load H0 rfl ?_
  simp (maxSteps := 500000) (decide := true) (disch := omega) only [EV, ↓reduceIte, Nat.reduceAdd, tt64]
  refine dq_load H0 rfl ?_
  simp (maxSteps := 500000) (decide := true) (disch := omega) only [EV, ↓reduceIte, Nat.reduceAdd, tt64]
  refine dq_lookup (E := EmI) k H0 rfl rfl ?_
  rw [hiv]
  simp (maxSteps := 500000) (decide := true) (disch := omega) only [EV, ↓reduceIte, Nat.reduceAdd, tt64]
  refine dq_load H0 rfl ?_
  simp (maxSteps := 500000) (decide := true) (disch := omega) only [EV, ↓reduceIte, Nat.reduceAdd, tt64]
  refine dq_act (by decide) rfl ?_
  refine lq_bs H rfl rfl (by rfl) rfl (by decide) (fun b43 w H => ?_)
  try simp only [ES] at H
  refine lr_nil ?_
  replace H0 := H.wkTo H0
  refine ⟨fun _ => H0, ?_⟩
  simp (maxSteps := 500000) (decide := true) (disch := omega) only [EV, ↓reduceIte, Nat.reduceAdd, tt64]
  refine dq_act (by decide) rfl ?_
  refine lq_call rfl ?_
  refine Cl.mono (InsertI_ok (i := i) (x := id) H.swap rfl hbs.le (by omega)) ?_
  rintro _ w ⟨ao3, c3, rfl, H⟩
  refine lr_nil ?_
  replace H0 := H.wkTo H0
  refine ⟨fun _ => H0, ?_⟩
  simp (maxSteps := 500000) (decide := true) (disch := omega) only [EV, ↓reduceIte, Nat.reduceAdd, tt64]
  refine dq_act (by decide) rfl ?_
  refine lq_mapUpdate (E := EmI) k (ao3, (idsOf S.V k).length + 1, c3) H rfl rfl rfl (fun w H => ?_)
  refine lr_nil ?_
  refine ⟨fun hh => absurd hh (by decide), ?_⟩
  simp (maxSteps := 500000) (decide := true) (disch := omega) only [EV, ↓reduceIte, Nat.reduceAdd, tt64]
  refine dq_nil ?_
  refine h4 _ _ ?_
  obtain ⟨aop, cp, hpv, H⟩ := plTake (hq.p0 id) (H.tkR (R := PlR) (k := q.pl))
  refine cw_drawW (L0 := [Ce p ([.map (some q.bv), .map (some q.bi), .map (some q.bp), .map (some q.bl)], 129), Ce b4 ([.string k, .int .u64 id], 119), Mp EmP q.bp q.mp]) [(0, 0), (1, 0), (2, 0), (3, 1), (4, 0), (5, 1), (6, 0), (7, 0), (8, 0), (9, 1), (10, 0), (11, 1), (12, 1), (13, 0), (14, 1), (15, 2), (16, 2), (17, 3)] rfl (by kernel_rfl) (fun c env w => by simp (decide := true) only [EX, not_false_eq_true]) H (fun w H => ?_)
  have H0 : Own [Ce p ([.map (some q.bv), .map (some q.bi), .map (some q.bp), .map (some q.bl)], 129), Ce b4 ([.string k, .int .u64 id], 119), Mp EmP q.bp q.mp] w := H.wk
  refine dq_run ?_
  simp (maxSteps := 500000) (decide := true) (disch := omega) only [EV, ↓reduceIte, Nat.reduceAdd, tt64]
  refine dq_load H0 rfl ?_
  simp (maxSteps := 500000) (decide := true) (disch := omega) only [EV, ↓reduceIte, Nat.reduceAdd, tt64]
  refine dq_load H0 rfl ?_
  simp (maxSteps := 500000) (decide := true) (disch := omega) only [EV, ↓reduceIte, Nat.reduceAdd, tt64]
  refine dq_load H0 rfl ?_
  simp (maxSteps := 500000) (decide := true) (disch := omega) only [EV, ↓reduceIte, Nat.reduceAdd, tt64]
  refine dq_load H0 rfl ?_
  simp (maxSteps := 500000) (decide := true) (disch := omega) only [EV, ↓reduceIte, Nat.reduceAdd, tt64]
  refine dq_lookup (E := EmP) id H0 rfl rfl ?_
  rw [hpv]
  simp (maxSteps := 500000) (decide := true) (disch := omega) only [EV, ↓reduceIte, Nat.reduceAdd, tt64]
  refine dq_load H0 rfl ?_
  simp (maxSteps := 500000) (decide := true) (disch := omega) only [EV, ↓reduceIte, Nat.reduceAdd, tt64]
  refine dq_act (by decide) rfl ?_
  refine lq_bs H rfl rfl (by rfl) rfl (by decide) (fun b60 w H => ?_)
  try simp only [ES] at H
  refine lr_nil ?_
  replace H0 := H.wkTo H0
  refine ⟨fun _ => H0, ?_⟩
  simp (maxSteps := 500000) (decide := true) (disch := omega) only [EV, ↓reduceIte, Nat.reduceAdd, tt64]
  refine dq_act (by decide) rfl ?_
  refine lq_app1 (enc := encS) k H rfl rfl rfl (by rw [encS_n]; omega) (fun ao5 c5 w H => ?_)
  refine lr_nil ?_
  replace H0 := H.wkTo H0
  refine ⟨fun _ => H0, ?_⟩
  simp (maxSteps := 500000) (decide := true) (disch := omega) only [EV, ↓reduceIte, Nat.reduceAdd, tt64]
  refine dq_act (by decide) rfl ?_
  refine lq_mapUpdate (E := EmP) id (ao5, (q.pl id).length + 1, c5) H rfl rfl rfl (fun w H => ?_)
  refine lr_nil ?_
  refine ⟨fun hh => absurd hh (by decide), ?_⟩
  simp (maxSteps := 500000) (decide := true) (disch := omega) only [EV, ↓reduceIte, Nat.reduceAdd, tt64]
  refine dq_nil ?_
  try simp (decide := true) only [EX, ↓reduceIte]
  refine end0 ?_
  have e1 := idsOf_ins (h := ⟨val, ks, stamp⟩) hq.rv hbs hnew
  have H1 := (H.tkR (R := Bigs) (k := mdel q.mi k)).tkR (R := Os 43 encI) (k := .slice ao3 ((idsOf S.V k).length + 1) c3)
  rw [← e1] at H1
  have H2 := Own.bigPut (f' := fun e => Os 43 encI (slv e.2) (idsOf (sins S.V (k, id) ⟨val, ks, stamp⟩) e.1)) (v' := (ao3, (idsOf S.V k).length + 1, c3)) H1 (fun e he => by rw [idsOf_other hq.rv (mdel_mem hni he).2])
  have H3 := (H2.tkR (R := Bigs) (k := mdel q.mp id)).tkR (R := Os 9 encS) (k := .slice ao5 ((q.pl id).length + 1) c5)
  have H4 := Own.bigPut (f' := fun e => Os 9 encS (slv e.2) (if e.1 = id then q.pl id ++ [k] else q.pl e.1)) (k := id) (v' := (ao5, (q.pl id).length + 1, c5)) (by simp only [if_true]; exact H3) (fun e he => by rw [if_neg (mdel_mem hnp he).2])
  have H5 := (H4.tkR (R := fun (_ : Unit) rs => Bag rs) (k := ())).tkR (R := fun a xs => Row a encS xs) (k := ao)
  exact (Own.bagAdd H5).stC2 (LoOk.put (h := ⟨val, ks, stamp⟩) (ao := ao) (c := c) hq hnew (ao3, (idsOf S.V k).length + 1, c3) (ao5, (q.pl id).length + 1, c5))
end Go.Rp
set_option linter.unusedVariables false
set_option linter.unusedSimpArgs false
set_option maxHeartbeats 1000000
set_option maxRecDepth 100000
namespace Go.Rp
open Go.Proofs
instance iW15_0 : ElT Tryz.prog 88 2 := ElT.mk' (by kernel_rfl)
instance iW15_1 : FnOk Tryz.prog 62 := ⟨⟨Tryz.f62, Tryz.func62, by kernel_rfl, by kernel_rfl⟩⟩
instance iW15_2 : FnOk Tryz.prog 63 := ⟨⟨Tryz.f63, Tryz.func63, by kernel_rfl, by kernel_rfl⟩⟩
instance iW15_3 : FnOk Tryz.prog 64 := ⟨⟨Tryz.f64, Tryz.func64, by kernel_rfl, by kernel_rfl⟩⟩
instance iW15_4 : FnOk Tryz.prog 65 := ⟨⟨Tryz.f65, Tryz.func65, by kernel_rfl, by kernel_rfl⟩⟩
instance iW15_5 : MpT Tryz.prog 123 119 125 := ⟨by kernel_rfl⟩
instance iW15_6 : MpT Tryz.prog 96 9 43 := ⟨by kernel_rfl⟩
instance iW15_7 : SlT Tryz.prog 50 88 := ⟨by kernel_rfl⟩
instance iW15_8 : SzT Tryz.prog 119 2 := ⟨by kernel_rfl⟩
instance iW15_9 : SzT Tryz.prog 125 3 := ⟨by kernel_rfl⟩
instance iW15_10 : SzT Tryz.prog 88 2 := ⟨by kernel_rfl⟩
instance iW15_11 : ZvT Tryz.prog 119 (.agg #[(.string ByteArray.empty), (.int .u64 0)]) := ⟨by kernel_rfl⟩
instance iW15_12 : ZvT Tryz.prog 125 (.agg #[(.string ByteArray.empty), (.slice none 0 0), (.int .i64 0)]) := ⟨by kernel_rfl⟩
instance iW15_13 : ZvT Tryz.prog 43 (.int .u64 0) := ⟨by kernel_rfl⟩
instance iW15_14 : ZvT Tryz.prog 88 (.agg #[(.string ByteArray.empty), (.string ByteArray.empty)]) := ⟨by kernel_rfl⟩
theorem tt17 : (AG Tryz.prog 119 = some true) ∧ (AG Tryz.prog 123 = some false) ∧ (AG Tryz.prog 88 = some true) ∧ (AG Tryz.prog 9 = some false) ∧ (AG Tryz.prog 96 = some false) ∧ (BU Tryz.prog 119 = some ([(.string ByteArray.empty), (.int .u64 0)], [(0, 1), (1, 1)])) ∧ (BU Tryz.prog 125 = some ([(.string ByteArray.empty), (.slice none 0 0), (.int .i64 0)], [(0, 1), (1, 1), (2, 1)])) ∧ (FO Tryz.prog 129 0 = some 0) ∧ (FO Tryz.prog 129 3 = some 3) ∧ (FO Tryz.prog 88 0 = some 0) ∧ (FO Tryz.prog 88 1 = some 1) ∧ (LK Tryz.prog 50 = some 1) ∧ (SZ Tryz.prog 119 = some 2) ∧ (SZ Tryz.prog 88 = some 2) := ⟨by kernel_rfl, by kernel_rfl, by kernel_rfl, by kernel_rfl, by kernel_rfl, by kernel_rfl, by kernel_rfl, by kernel_rfl, by kernel_rfl, by kernel_rfl, by kernel_rfl, by kernel_rfl, by kernel_rfl, by kernel_rfl⟩

def putS (id : Int) (ks : List ByteArray) (now : Int) (x : Bool × Sto) (p : ByteArray × ByteArray) : Bool × Sto :=
  if (mget x.2.V (p.1, id)).isSome = true then x
  else (true, ⟨sins x.2.V (p.1, id) ⟨p.2, ks, if id < lastOf x.2 p.1 then now else -1⟩, x.2.L⟩)
def putP (id : Int) (ps : List (ByteArray × ByteArray)) (ks : List ByteArray) (now : Int) (S : Sto) : Bool × Sto := ps.foldl (putS id ks now) (false, S)
theorem hvForm {S : Sto} {q : Lo} (hq : LoOk S q) (n : Nm) : (∃ a s st, mval EmV q.mv n (.agg #[.string ByteArray.empty, .slice none 0 0, .int .i64 0]) = .agg #[.string a, slv s, .int .i64 st]) ∧ (mget q.mv n).isSome = (mget S.V n).isSome := by
  have h := hq.v n
  cases h1 : mget q.mv n with
  | none =>
    rw [h1] at h
    refine ⟨⟨ByteArray.empty, (none, 0, 0), 0, by rw [mval_none h1]; rfl⟩, ?_⟩
    cases h2 : mget S.V n with
    | none => rfl
    | some y => rw [h2] at h; exact h.elim
  | some x =>
    rw [h1] at h
    refine ⟨⟨x.1, x.2.1, x.2.2, by rw [mval_some h1]; rfl⟩, ?_⟩
    cases h2 : mget S.V n with
    | none => rw [h2] at h; exact h.elim
    | some y => rfl
theorem sins_len {κ β : Type} [DecidableEq κ] [Lt κ] : ∀ (m : List (κ × β)) (k : κ) (v : β), (sins m k v).length ≤ m.length + 1
  | [], _, _ => by simp [sins]
  | (a, u) :: m, k, v => by
    have := sins_len m k v
    unfold sins; split
    · simp
    · split
      · simp
      · simp only [List.length_cons]; omega
theorem Put_ok {p : Nat} {S : Sto} {id now : Int} {ap : Option Addr} {np cp : Nat} {ps : List (ByteArray × ByteArray)} {ao : Option Addr} {n c : Nat} {ks : List ByteArray} {F : List HP} {w : World} (H : Own (StoreAt p S :: F) w) (hP : Ent F (Row ap encP ps)) (hnp : np = ps.length) (hR : Ent F (Row ao encS ks)) (hn : n = ks.length) (hb : ks.length ≤ 1073741824) (hbv : S.V.length + ps.length ≤ 1073741824) :
  Cl Tryz.prog 17 #[.pointer (some ⟨p, 0, none⟩), .int .u64 id, .slice ap np cp, .slice ao n c, .int .i64 now] w fun v w' => (MayP id ps ks ∧ (0 ≤ now ∧ now ≤ 1099511627776) ∧ v = .tuple #[.bool (putP id ps ks now S).1, .int .i64 0] ∧ Own (StoreAt p (putP id ps ks now S).2 :: F) w') ∨ (¬ (MayP id ps ks ∧ (0 ≤ now ∧ now ≤ 1099511627776)) ∧ v = .tuple #[.bool false, .int .i64 1] ∧ Own (StoreAt p S :: F) w') := by
  subst hnp
  subst hn
  refine cl_of_cw Tryz.func17 rfl ?_
  simp only [Tryz.ntmps17, envA, List.size_toArray, List.length_cons, List.length_nil, Nat.reduceAdd, Nat.reduceSub]
  refine cw_seq (fun K1 h1 => ?_)
  refine cw_region (lq_run ?_)
  simp (maxSteps := 500000) (decide := true) (disch := omega) only [EV, ↓reduceIte, Nat.reduceAdd, tt17, encP_f, L2]
  refine lq_nil ?_
  refine h1 _ _ ?_
  refine cw_seq (fun K2 h2 => ?_)
  refine cw_seq (fun K3 h3 => ?_)
  refine cw_region (lq_run ?_)
  simp (maxSteps := 500000) (decide := true) (disch := omega) only [EV, ↓reduceIte, Nat.reduceAdd, tt17, encP_f, L2]
  refine lq_call rfl ?_
  refine Cl.mono (may_ok H hP.up rfl (by omega) hR.up rfl (by omega)) ?_
  rintro _ w ⟨b1, rfl, hb1, H⟩
  simp (maxSteps := 500000) (decide := true) (disch := omega) only [EV, ↓reduceIte, Nat.reduceAdd, tt17, encP_f, L2]
  refine lq_G (fun g24 => ?_) (fun g24 => ?_)
  · try simp only [HB] at g24
    simp (maxSteps := 500000) (decide := true) (disch := omega) only [EV, ↓reduceIte, Nat.reduceAdd, tt17, encP_f, L2]
    refine lq_nil ?_
    refine h3 _ _ ?_
    refine cw_condT rfl ?_
    refine cw_seq (fun K4 h4 => ?_)
    refine cw_region (lq_run ?_)
    simp (maxSteps := 500000) (decide := true) (disch := omega) only [EV, ↓reduceIte, Nat.reduceAdd, tt17, encP_f, L2]
    refine lq_nil ?_
    refine h4 _ _ ?_
    refine cw_ret ?_
    try simp (decide := true) only [EX, ↓reduceIte]
    refine ret2 rfl rfl ?_
    exact .inr ⟨fun h => (by rw [hb1.2 h.1] at g24; cases g24), rfl, H⟩
  · try simp only [HB] at g24
    simp (maxSteps := 500000) (decide := true) (disch := omega) only [EV, ↓reduceIte, Nat.reduceAdd, tt17, encP_f, L2]
    refine lq_call rfl ?_
    refine Cl.mono (tick_ok H) ?_
    rintro _ w ⟨rfl, H⟩
    simp (maxSteps := 500000) (decide := true) (disch := omega) only [EV, ↓reduceIte, Nat.reduceAdd, tt17, encP_f, L2]
    refine lq_nil ?_
    refine h3 _ _ ?_
    refine cw_condB rfl (fun c28 => ?_) (fun c28 => ?_)
    · skip
      try simp only [HB] at c28
      refine cw_seq (fun K5 h5 => ?_)
      refine cw_region (lq_run ?_)
      simp (maxSteps := 500000) (decide := true) (disch := omega) only [EV, ↓reduceIte, Nat.reduceAdd, tt17, encP_f, L2]
      refine lq_nil ?_
      refine h5 _ _ ?_
      refine cw_ret ?_
      try simp (decide := true) only [EX, ↓reduceIte]
      refine ret2 rfl rfl ?_
      exact .inr ⟨fun h => c28 h.2, rfl, H⟩
    · skip
      try simp only [HB] at c28
      refine cw_skip ?_
      refine h2 _ _ ?_
      refine cw_seq (fun K6 h6 => ?_)
      refine cw_region (lq_run ?_)
      simp (maxSteps := 500000) (decide := true) (disch := omega) only [EV, ↓reduceIte, Nat.reduceAdd, tt17, encP_f, L2]
      refine lq_nil ?_
      refine h6 _ _ ?_
      refine cw_seq (fun K7 h7 => ?_)
      refine cw_seq (fun K8 h8 => ?_)
      refine cw_region (lq_run ?_)
      simp (maxSteps := 500000) (decide := true) (disch := omega) only [EV, ↓reduceIte, Nat.reduceAdd, tt17, encP_f, L2]
      refine lq_nil ?_
      refine h8 _ _ ?_
      refine cw_block ?_
      refine cw_loopC (X := List (ByteArray × ByteArray) × List (ByteArray × ByteArray) × (Bool × Sto)) [(0, _), (1, _), (3, _), (4, _), (10, _), (11, _), (29, _), (30, _)] (fun x => [(12, .bool x.2.2.1), (31, .int .i64 (x.1.length : Int))]) (fun x w => ps = x.1 ++ x.2.1 ∧ x.1.foldl (putS id ks now) (false, S) = x.2.2 ∧ x.2.2.2.V.length ≤ S.V.length + x.1.length ∧ Own (StoreAt p x.2.2.2 :: F) w) (fun x => x.2.1.length) ([], ps, (false, S)) (.c rfl (.c rfl (.c rfl (.c rfl (.c rfl (.c rfl (.c rfl (.c rfl .n)))))))) (.c rfl (.c rfl .n)) ⟨rfl, rfl, by simp, H⟩ ?_
      rintro ⟨d, r, ⟨fr, S'⟩⟩ w ⟨hd, hf, hl, H⟩
      simp only [List.cons_append, List.nil_append]
      simp only at hd hf hl H ⊢
      refine cw_seq (fun K9 h9 => ?_)
      refine cw_region (lq_run ?_)
      simp (maxSteps := 500000) (decide := true) (disch := omega) only [EV, ↓reduceIte, Nat.reduceAdd, tt17, encP_f, L2]
      refine lq_nil ?_
      refine h9 _ _ ?_
      refine cw_seq (fun K10 h10 => ?_)
      refine cw_condB rfl (fun c32 => ?_) (fun c32 => ?_)
      · skip
        try simp only [HB] at c32
        obtain ⟨s, r2, rfl, he⟩ := zip_more hd c32
        have hdl := congrArg List.length hd
        simp only [List.length_append, List.length_cons] at hdl
        refine cw_skip ?_
        refine h10 _ _ ?_
        refine cw_seq (fun K11 h11 => ?_)
        refine cw_block ?_
        refine cw_seq (fun K12 h12 => ?_)
        refine cw_region (lq_run ?_)
        simp (maxSteps := 500000) (decide := true) (disch := omega) only [EV, ↓reduceIte, Nat.reduceAdd, tt17, encP_f, L2]
        refine lq_idx (i' := d.length) H rfl rfl hP (Nat.le_refl _) rfl he ?_
        simp (maxSteps := 500000) (decide := true) (disch := omega) only [EV, ↓reduceIte, Nat.reduceAdd, tt17, encP_f, L2]
        refine lq_loadE H rfl hP he rfl ?_
        simp (maxSteps := 500000) (decide := true) (disch := omega) only [EV, ↓reduceIte, Nat.reduceAdd, tt17, encP_f, L2]
        refine lq_new H (fun b14 w H => ?_)
        try simp only [ES, encP_f, L2] at H
        simp (maxSteps := 500000) (decide := true) (disch := omega) only [EV, ↓reduceIte, Nat.reduceAdd, tt17, encP_f, L2]
        refine lq_st H rfl rfl rfl (fun w H => ?_)
        try simp only [ES, encP_f, L2] at H
        simp (maxSteps := 500000) (decide := true) (disch := omega) only [EV, ↓reduceIte, Nat.reduceAdd, tt17, encP_f, L2]
        refine lq_nil ?_
        refine h12 _ _ ?_
        refine cw_seq (fun K13 h13 => ?_)
        refine cw_region (lq_run ?_)
        simp (maxSteps := 500000) (decide := true) (disch := omega) only [EV, ↓reduceIte, Nat.reduceAdd, tt17, encP_f, L2]
        refine lq_load H rfl ?_
        simp (maxSteps := 500000) (decide := true) (disch := omega) only [EV, ↓reduceIte, Nat.reduceAdd, tt17, encP_f, L2]
        refine lq_new H (fun b15 w H => ?_)
        try simp only [ES, encP_f, L2] at H
        simp (maxSteps := 500000) (decide := true) (disch := omega) only [EV, ↓reduceIte, Nat.reduceAdd, tt17, encP_f, L2]
        refine lq_st H rfl rfl rfl (fun w H => ?_)
        try simp only [ES, encP_f, L2] at H
        simp (maxSteps := 500000) (decide := true) (disch := omega) only [EV, ↓reduceIte, Nat.reduceAdd, tt17, encP_f, L2]
        refine lq_nil ?_
        refine h13 _ _ ?_
        refine cw_seq (fun K14 h14 => ?_)
        refine cw_seq (fun K15 h15 => ?_)
        obtain ⟨q, hq, H⟩ := (H.tkR (R := StoreAt) (k := p)).stO
        obtain ⟨⟨va, vs, vt, hm3⟩, hs3⟩ := hvForm hq (s.1, id)
        refine cw_draw [(0, 0), (1, 0), (2, 0), (3, 1), (4, 1), (5, 1), (6, 0), (7, 0), (8, 0), (9, 2), (10, 3), (11, 0)] rfl (by kernel_rfl) (fun c env w => by simp (decide := true) only [EX, not_false_eq_true]) H (fun w H => ?_)
        have H0 := H
        refine dq_run ?_
        simp (maxSteps := 500000) (decide := true) (disch := omega) only [EV, ↓reduceIte, Nat.reduceAdd, tt17, encP_f, L2]
        refine dq_load H0 rfl ?_
        simp (maxSteps := 500000) (decide := true) (disch := omega) only [EV, ↓reduceIte, Nat.reduceAdd, tt17, encP_f, L2]
        refine dq_load H0 rfl ?_
        simp (maxSteps := 500000) (decide := true) (disch := omega) only [EV, ↓reduceIte, Nat.reduceAdd, tt17, encP_f, L2]
        refine dq_lookup (E := EmV) (s.1, id) H0 rfl rfl ?_
        rw [hm3, hs3]
        simp (maxSteps := 500000) (decide := true) (disch := omega) only [EV, ↓reduceIte, Nat.reduceAdd, tt17, encP_f, L2]
        refine dq_act (by decide) rfl ?_
        refine lq_new H (fun b16 w H => ?_)
        try simp only [ES, encP_f, L2] at H
        refine lr_nil ?_
        replace H0 := H.wkTo H0
        refine ⟨fun _ => H0, ?_⟩
        simp (maxSteps := 500000) (decide := true) (disch := omega) only [EV, ↓reduceIte, Nat.reduceAdd, tt17, encP_f, L2]
        refine dq_act (by decide) rfl ?_
        refine lq_st H rfl rfl rfl (fun w H => ?_)
        try simp only [ES, encP_f, L2] at H
        refine lr_nil ?_
        refine ⟨fun hh => absurd hh (by decide), ?_⟩
        simp (maxSteps := 500000) (decide := true) (disch := omega) only [EV, ↓reduceIte, Nat.reduceAdd, tt17, encP_f, L2]
        refine dq_nil ?_
        refine h15 _ _ ?_
        refine cw_seq (fun K16 h16 => ?_)
        refine cw_region (lq_run ?_)
        simp (maxSteps := 500000) (decide := true) (disch := omega) only [EV, ↓reduceIte, Nat.reduceAdd, tt17, encP_f, L2]
        refine lq_nil ?_
        refine h16 _ _ ?_
        refine cw_condB rfl (fun c48 => ?_) (fun c48 => ?_)
        · skip
          try simp only [HB] at c48
          refine cw_exit ?_
          refine h11 _ _ ?_
          refine cw_region (lq_run ?_)
          simp (maxSteps := 500000) (decide := true) (disch := omega) only [EV, ↓reduceIte, Nat.reduceAdd, tt17, encP_f, L2]
          refine lq_nil ?_
          first
            | exact Exists.intro (d ++ [s], r2, (fr, S')) ⟨⟨(.c rfl (.c (by show look _ 31 = some (.int .i64 (((d ++ [s]).length : Nat) : Int)); rw [List.length_append]; rfl) .n)), (.c rfl (.c rfl (.c rfl (.c rfl (.c rfl (.c rfl (.c rfl (.c rfl .n))))))))⟩, ⟨by simp [hd], by rw [List.foldl_append, hf]; exact if_pos c48, (by simp; omega), H.stC q hq⟩, (by simp)⟩
            | exact Exists.intro (d ++ [s], r2, (true, ⟨sins S'.V (s.1, id) ⟨s.2, ks, now⟩, S'.L⟩)) ⟨⟨(.c rfl (.c (by show look _ 31 = some (.int .i64 (((d ++ [s]).length : Nat) : Int)); rw [List.length_append]; rfl) .n)), (.c rfl (.c rfl (.c rfl (.c rfl (.c rfl (.c rfl (.c rfl (.c rfl .n))))))))⟩, ⟨by simp [hd], by rw [List.foldl_append, hf]; show putS id ks now (fr, S') s = _; rw [putS, if_neg (by simp [c48]), if_pos c57], (by have := sins_len S'.V (s.1, id) (⟨s.2, ks, now⟩ : Hd); simp; omega), H⟩, (by simp)⟩
            | exact Exists.intro (d ++ [s], r2, (true, ⟨sins S'.V (s.1, id) ⟨s.2, ks, -1⟩, S'.L⟩)) ⟨⟨(.c rfl (.c (by show look _ 31 = some (.int .i64 (((d ++ [s]).length : Nat) : Int)); rw [List.length_append]; rfl) .n)), (.c rfl (.c rfl (.c rfl (.c rfl (.c rfl (.c rfl (.c rfl (.c rfl .n))))))))⟩, ⟨by simp [hd], by rw [List.foldl_append, hf]; show putS id ks now (fr, S') s = _; rw [putS, if_neg (by simp [c48]), if_neg (Int.not_lt.2 c57)], (by have := sins_len S'.V (s.1, id) (⟨s.2, ks, -1⟩ : Hd); simp; omega), H⟩, (by simp)⟩
        · skip
          try simp only [HB] at c48
          have hnew : mget S'.V (s.1, id) = none := by cases h : mget S'.V (s.1, id) <;> simp_all
          refine cw_skip ?_
          refine h14 _ _ ?_
          refine cw_seq (fun K17 h17 => ?_)
          refine cw_region (lq_run ?_)
          simp (maxSteps := 500000) (decide := true) (disch := omega) only [EV, ↓reduceIte, Nat.reduceAdd, tt17, encP_f, L2]
          refine lq_nil ?_
          refine h17 _ _ ?_
          refine cw_seq (fun K18 h18 => ?_)
          refine cw_region (lq_run ?_)
          simp (maxSteps := 500000) (decide := true) (disch := omega) only [EV, ↓reduceIte, Nat.reduceAdd, tt17, encP_f, L2]
          refine lq_nil ?_
          refine h18 _ _ ?_
          refine cw_seq (fun K19 h19 => ?_)
          refine cw_seq (fun K20 h20 => ?_)
          refine cw_draw [(0, 0), (1, 0), (2, 0), (3, 0), (4, 1), (5, 0), (6, 1), (7, 1), (8, 0)] rfl (by kernel_rfl) (fun c env w => by simp (decide := true) only [EX, not_false_eq_true]) H (fun w H => ?_)
          have H0 := H
          refine dq_run ?_
          simp (maxSteps := 500000) (decide := true) (disch := omega) only [EV, ↓reduceIte, Nat.reduceAdd, tt17, encP_f, L2]
          refine dq_load H0 rfl ?_
          simp (maxSteps := 500000) (decide := true) (disch := omega) only [EV, ↓reduceIte, Nat.reduceAdd, tt17, encP_f, L2]
          refine dq_load H0 rfl ?_
          simp (maxSteps := 500000) (decide := true) (disch := omega) only [EV, ↓reduceIte, Nat.reduceAdd, tt17, encP_f, L2]
          refine dq_lookup (E := EmL) s.1 H0 rfl rfl ?_
          rw [mval_last hq]
          simp (maxSteps := 500000) (decide := true) (disch := omega) only [EV, ↓reduceIte, Nat.reduceAdd, tt17, encP_f, L2]
          refine dq_nil ?_
          refine h20 _ _ ?_
          refine cw_condB rfl (fun c57 => ?_) (fun c57 => ?_)
          · skip
            try simp only [HB] at c57
            refine cw_region (lq_run ?_)
            simp (maxSteps := 500000) (decide := true) (disch := omega) only [EV, ↓reduceIte, Nat.reduceAdd, tt17, encP_f, L2]
            refine lq_nil ?_
            refine h19 _ _ ?_
            refine cw_draw [(0, 0), (1, 1), (2, 0), (3, 1), (4, 0), (6, 0), (5, 2), (7, 0), (8, 3)] rfl (by kernel_rfl) (fun c env w => by simp (decide := true) only [EX, not_false_eq_true]) H (fun w H => ?_)
            have H0 := H
            refine dq_run ?_
            simp (maxSteps := 500000) (decide := true) (disch := omega) only [EV, ↓reduceIte, Nat.reduceAdd, tt17, encP_f, L2]
            refine dq_load H0 rfl ?_
            simp (maxSteps := 500000) (decide := true) (disch := omega) only [EV, ↓reduceIte, Nat.reduceAdd, tt17, encP_f, L2]
            refine dq_load H0 rfl ?_
            simp (maxSteps := 500000) (decide := true) (disch := omega) only [EV, ↓reduceIte, Nat.reduceAdd, tt17, encP_f, L2]
            refine dq_act (by decide) rfl ?_
            refine lq_call rfl ?_
            refine Cl.mono (CloneS_ok H hR.up rfl (by omega)) ?_
            rintro _ w ⟨ao2, c2, rfl, H⟩
            refine lr_nil ?_
            replace H0 := H.wkTo H0
            refine ⟨fun _ => H0, ?_⟩
            simp (maxSteps := 500000) (decide := true) (disch := omega) only [EV, ↓reduceIte, Nat.reduceAdd, tt17, encP_f, L2]
            refine dq_act (by decide) rfl ?_
            refine lq_call rfl ?_
            refine Cl.mono (putv_ok (Own.stC (L := Row ao2 encS ks :: F) q hq H.osRow.2.2) rfl hnew (by omega)) ?_
            rintro r w H
            refine lr_nil ?_
            refine ⟨fun hh => absurd hh (by decide), ?_⟩
            simp (maxSteps := 500000) (decide := true) (disch := omega) only [EV, ↓reduceIte, Nat.reduceAdd, tt17, encP_f, L2]
            refine dq_nil ?_
            refine h11 _ _ ?_
            refine cw_region (lq_run ?_)
            simp (maxSteps := 500000) (decide := true) (disch := omega) only [EV, ↓reduceIte, Nat.reduceAdd, tt17, encP_f, L2]
            refine lq_nil ?_
            first
              | exact Exists.intro (d ++ [s], r2, (fr, S')) ⟨⟨(.c rfl (.c (by show look _ 31 = some (.int .i64 (((d ++ [s]).length : Nat) : Int)); rw [List.length_append]; rfl) .n)), (.c rfl (.c rfl (.c rfl (.c rfl (.c rfl (.c rfl (.c rfl (.c rfl .n))))))))⟩, ⟨by simp [hd], by rw [List.foldl_append, hf]; exact if_pos c48, (by simp; omega), H.stC q hq⟩, (by simp)⟩
              | exact Exists.intro (d ++ [s], r2, (true, ⟨sins S'.V (s.1, id) ⟨s.2, ks, now⟩, S'.L⟩)) ⟨⟨(.c rfl (.c (by show look _ 31 = some (.int .i64 (((d ++ [s]).length : Nat) : Int)); rw [List.length_append]; rfl) .n)), (.c rfl (.c rfl (.c rfl (.c rfl (.c rfl (.c rfl (.c rfl (.c rfl .n))))))))⟩, ⟨by simp [hd], by rw [List.foldl_append, hf]; show putS id ks now (fr, S') s = _; rw [putS, if_neg (by simp [c48]), if_pos c57], (by have := sins_len S'.V (s.1, id) (⟨s.2, ks, now⟩ : Hd); simp; omega), H⟩, (by simp)⟩
              | exact Exists.intro (d ++ [s], r2, (true, ⟨sins S'.V (s.1, id) ⟨s.2, ks, -1⟩, S'.L⟩)) ⟨⟨(.c rfl (.c (by show look _ 31 = some (.int .i64 (((d ++ [s]).length : Nat) : Int)); rw [List.length_append]; rfl) .n)), (.c rfl (.c rfl (.c rfl (.c rfl (.c rfl (.c rfl (.c rfl (.c rfl .n))))))))⟩, ⟨by simp [hd], by rw [List.foldl_append, hf]; show putS id ks now (fr, S') s = _; rw [putS, if_neg (by simp [c48]), if_neg (Int.not_lt.2 c57)], (by have := sins_len S'.V (s.1, id) (⟨s.2, ks, -1⟩ : Hd); simp; omega), H⟩, (by simp)⟩
          · skip
            try simp only [HB] at c57
            refine cw_skip ?_
            refine h19 _ _ ?_
            refine cw_draw [(0, 0), (1, 1), (2, 0), (3, 1), (4, 0), (6, 0), (5, 2), (7, 0), (8, 3)] rfl (by kernel_rfl) (fun c env w => by simp (decide := true) only [EX, not_false_eq_true]) H (fun w H => ?_)
            have H0 := H
            refine dq_run ?_
            simp (maxSteps := 500000) (decide := true) (disch := omega) only [EV, ↓reduceIte, Nat.reduceAdd, tt17, encP_f, L2]
            refine dq_load H0 rfl ?_
            simp (maxSteps := 500000) (decide := true) (disch := omega) only [EV, ↓reduceIte, Nat.reduceAdd, tt17, encP_f, L2]
            refine dq_load H0 rfl ?_
            simp (maxSteps := 500000) (decide := true) (disch := omega) only [EV, ↓reduceIte, Nat.reduceAdd, tt17, encP_f, L2]
            refine dq_act (by decide) rfl ?_
            refine lq_call rfl ?_
            refine Cl.mono (CloneS_ok H hR.up rfl (by omega)) ?_
            rintro _ w ⟨ao2, c2, rfl, H⟩
            refine lr_nil ?_
            replace H0 := H.wkTo H0
            refine ⟨fun _ => H0, ?_⟩
            simp (maxSteps := 500000) (decide := true) (disch := omega) only [EV, ↓reduceIte, Nat.reduceAdd, tt17, encP_f, L2]
            refine dq_act (by decide) rfl ?_
            refine lq_call rfl ?_
            refine Cl.mono (putv_ok (Own.stC (L := Row ao2 encS ks :: F) q hq H.osRow.2.2) rfl hnew (by omega)) ?_
            rintro r w H
            refine lr_nil ?_
            refine ⟨fun hh => absurd hh (by decide), ?_⟩
            simp (maxSteps := 500000) (decide := true) (disch := omega) only [EV, ↓reduceIte, Nat.reduceAdd, tt17, encP_f, L2]
            refine dq_nil ?_
            refine h11 _ _ ?_
            refine cw_region (lq_run ?_)
            simp (maxSteps := 500000) (decide := true) (disch := omega) only [EV, ↓reduceIte, Nat.reduceAdd, tt17, encP_f, L2]
            refine lq_nil ?_
            first
              | exact Exists.intro (d ++ [s], r2, (fr, S')) ⟨⟨(.c rfl (.c (by show look _ 31 = some (.int .i64 (((d ++ [s]).length : Nat) : Int)); rw [List.length_append]; rfl) .n)), (.c rfl (.c rfl (.c rfl (.c rfl (.c rfl (.c rfl (.c rfl (.c rfl .n))))))))⟩, ⟨by simp [hd], by rw [List.foldl_append, hf]; exact if_pos c48, (by simp; omega), H.stC q hq⟩, (by simp)⟩
              | exact Exists.intro (d ++ [s], r2, (true, ⟨sins S'.V (s.1, id) ⟨s.2, ks, now⟩, S'.L⟩)) ⟨⟨(.c rfl (.c (by show look _ 31 = some (.int .i64 (((d ++ [s]).length : Nat) : Int)); rw [List.length_append]; rfl) .n)), (.c rfl (.c rfl (.c rfl (.c rfl (.c rfl (.c rfl (.c rfl (.c rfl .n))))))))⟩, ⟨by simp [hd], by rw [List.foldl_append, hf]; show putS id ks now (fr, S') s = _; rw [putS, if_neg (by simp [c48]), if_pos c57], (by have := sins_len S'.V (s.1, id) (⟨s.2, ks, now⟩ : Hd); simp; omega), H⟩, (by simp)⟩
              | exact Exists.intro (d ++ [s], r2, (true, ⟨sins S'.V (s.1, id) ⟨s.2, ks, -1⟩, S'.L⟩)) ⟨⟨(.c rfl (.c (by show look _ 31 = some (.int .i64 (((d ++ [s]).length : Nat) : Int)); rw [List.length_append]; rfl) .n)), (.c rfl (.c rfl (.c rfl (.c rfl (.c rfl (.c rfl (.c rfl (.c rfl .n))))))))⟩, ⟨by simp [hd], by rw [List.foldl_append, hf]; show putS id ks now (fr, S') s = _; rw [putS, if_neg (by simp [c48]), if_neg (Int.not_lt.2 c57)], (by have := sins_len S'.V (s.1, id) (⟨s.2, ks, -1⟩ : Hd); simp; omega), H⟩, (by simp)⟩
      · skip
        try simp only [HB] at c32
        obtain ⟨rfl, rfl⟩ := zip_done hd c32
        refine cw_exit ?_
        refine h7 _ _ ?_
        refine cw_seq (fun K21 h21 => ?_)
        refine cw_region (lq_run ?_)
        simp (maxSteps := 500000) (decide := true) (disch := omega) only [EV, ↓reduceIte, Nat.reduceAdd, tt17, encP_f, L2]
        refine lq_nil ?_
        refine h21 _ _ ?_
        refine cw_ret ?_
        try simp (decide := true) only [EX, ↓reduceIte]
        refine ret2 rfl rfl ?_
        exact .inl ⟨hb1.1 g24, c28, by rw [putP, hf], by rw [putP, hf]; exact H⟩
end Go.Rp
set_option linter.unusedVariables false
set_option linter.unusedSimpArgs false
set_option maxHeartbeats 1000000
set_option maxRecDepth 100000
namespace Go.Rp
open Go.Proofs
instance iW16_0 : FnOk Tryz.prog 65 := ⟨⟨Tryz.f65, Tryz.func65, by kernel_rfl, by kernel_rfl⟩⟩
instance iW16_1 : MpT Tryz.prog 123 119 125 := ⟨by kernel_rfl⟩
instance iW16_2 : SzT Tryz.prog 125 3 := ⟨by kernel_rfl⟩
instance iW16_3 : SzT Tryz.prog 46 4 := ⟨by kernel_rfl⟩
instance iW16_4 : ZvT Tryz.prog 125 (.agg #[(.string ByteArray.empty), (.slice none 0 0), (.int .i64 0)]) := ⟨by kernel_rfl⟩
instance iW16_5 : ZvT Tryz.prog 46 (.agg #[(.string ByteArray.empty), (.int .u64 0), (.string ByteArray.empty), (.slice none 0 0)]) := ⟨by kernel_rfl⟩
theorem tt58 : (AG Tryz.prog 119 = some true) ∧ (AG Tryz.prog 123 = some false) ∧ (AG Tryz.prog 43 = some false) ∧ (AG Tryz.prog 44 = some false) ∧ (AG Tryz.prog 46 = some true) ∧ (AG Tryz.prog 9 = some false) ∧ (BU Tryz.prog 46 = some ([(.string ByteArray.empty), (.int .u64 0), (.string ByteArray.empty), (.slice none 0 0)], [(0, 1), (1, 1), (2, 1), (3, 1)])) ∧ (FO Tryz.prog 119 0 = some 0) ∧ (FO Tryz.prog 119 1 = some 1) ∧ (FO Tryz.prog 125 0 = some 0) ∧ (FO Tryz.prog 125 1 = some 1) ∧ (FO Tryz.prog 129 0 = some 0) ∧ (SZ Tryz.prog 119 = some 2) ∧ (SZ Tryz.prog 46 = some 4) := ⟨by kernel_rfl, by kernel_rfl, by kernel_rfl, by kernel_rfl, by kernel_rfl, by kernel_rfl, by kernel_rfl, by kernel_rfl, by kernel_rfl, by kernel_rfl, by kernel_rfl, by kernel_rfl, by kernel_rfl, by kernel_rfl⟩

theorem hvGet {S : Sto} {q : Lo} (hq : LoOk S q) {n : Nm} {h : Hd} (hn : mget S.V n = some h) (z : Value) : ∃ ao c, mval EmV q.mv n z = .agg #[.string h.val, .slice ao h.keys.length c, .int .i64 h.stamp] ∧ (ao, h.keys) ∈ q.rs ∧ mget q.mv n = some (h.val, (ao, h.keys.length, c), h.stamp) := by
  have h1 := hq.v n
  rw [hn] at h1
  cases h2 : mget q.mv n with
  | none => rw [h2] at h1; exact h1.elim
  | some x =>
    rw [h2] at h1
    obtain ⟨a, ⟨b, m, c⟩, d⟩ := x
    obtain ⟨e1, e2, e3, e4⟩ := h1
    simp only at e1 e2 e3 e4
    subst e1; subst e2; subst e3
    exact ⟨b, c, by rw [mval_some h2]; rfl, e4, rfl⟩
theorem version2_ok {p : Nat} {S : Sto} {q : Lo} {k : ByteArray} {id : Int} {h : Hd} {F : List HP} {w : World} (hq : LoOk S q) (H : Own (Ce p ([.map (some q.bv), .map (some q.bi), .map (some q.bp), .map (some q.bl)], 129) :: Mp EmV q.bv q.mv :: Bag q.rs :: F) w) (hh : mget S.V (k, id) = some h) (hb : h.keys.length ≤ 1073741824) :
  Cl Tryz.prog 58 #[.pointer (some ⟨p, 0, none⟩), .agg #[.string k, .int .u64 id]] w fun v w' => ∃ ao c, v = .agg #[.string k, .int .u64 id, .string h.val, .slice ao h.keys.length c] ∧ Own (Os 9 encS (.slice ao h.keys.length c) h.keys :: Ce p ([.map (some q.bv), .map (some q.bi), .map (some q.bp), .map (some q.bl)], 129) :: Mp EmV q.bv q.mv :: Bag q.rs :: F) w' := by
  refine cl_of_cw Tryz.func58 rfl ?_
  simp only [Tryz.ntmps58, envA, List.size_toArray, List.length_cons, List.length_nil, Nat.reduceAdd, Nat.reduceSub]
  obtain ⟨aok, ck, hvv, hrs, -⟩ := hvGet hq hh (.agg #[.string ByteArray.empty, .slice none 0 0, .int .i64 0])
  refine cw_seq (fun K1 h1 => ?_)
  refine cw_region (lq_run ?_)
  simp (maxSteps := 500000) (decide := true) (disch := omega) only [EV, ↓reduceIte, Nat.reduceAdd, tt58]
  refine lq_box H rfl (fun b3 w H => ?_)
  try simp only [ES] at H
  simp (maxSteps := 500000) (decide := true) (disch := omega) only [EV, ↓reduceIte, Nat.reduceAdd, tt58]
  refine lq_new H (fun b4 w H => ?_)
  try simp only [ES] at H
  simp (maxSteps := 500000) (decide := true) (disch := omega) only [EV, ↓reduceIte, Nat.reduceAdd, tt58]
  refine lq_nil ?_
  refine h1 _ _ ?_
  refine cw_seq (fun K2 h2 => ?_)
  refine cw_draw [(0, 0), (1, 0), (2, 0), (3, 1), (4, 1), (5, 1), (6, 2), (7, 3)] rfl (by kernel_rfl) (fun c env w => by simp (decide := true) only [EX, not_false_eq_true]) H (fun w H => ?_)
  have H0 := H
  refine dq_run ?_
  simp (maxSteps := 500000) (decide := true) (disch := omega) only [EV, ↓reduceIte, Nat.reduceAdd, tt58]
  refine dq_load H0 rfl ?_
  simp (maxSteps := 500000) (decide := true) (disch := omega) only [EV, ↓reduceIte, Nat.reduceAdd, tt58]
  refine dq_load H0 rfl ?_
  simp (maxSteps := 500000) (decide := true) (disch := omega) only [EV, ↓reduceIte, Nat.reduceAdd, tt58]
  refine dq_lookup (E := EmV) (k, id) H0 rfl rfl ?_
  rw [hvv]
  simp (maxSteps := 500000) (decide := true) (disch := omega) only [EV, ↓reduceIte, Nat.reduceAdd, tt58]
  refine dq_act (by decide) rfl ?_
  refine lq_new H (fun b5 w H => ?_)
  try simp only [ES] at H
  refine lr_nil ?_
  replace H0 := H.wkTo H0
  refine ⟨fun _ => H0, ?_⟩
  simp (maxSteps := 500000) (decide := true) (disch := omega) only [EV, ↓reduceIte, Nat.reduceAdd, tt58]
  refine dq_act (by decide) rfl ?_
  refine lq_st H rfl rfl rfl (fun w H => ?_)
  try simp only [ES] at H
  refine lr_nil ?_
  refine ⟨fun hh => absurd hh (by decide), ?_⟩
  simp (maxSteps := 500000) (decide := true) (disch := omega) only [EV, ↓reduceIte, Nat.reduceAdd, tt58]
  refine dq_nil ?_
  refine h2 _ _ ?_
  refine cw_seq (fun K3 h3 => ?_)
  refine cw_draw [(0, 0), (1, 1), (2, 0), (3, 1), (4, 0), (5, 1), (6, 0), (7, 1), (8, 2), (9, 0), (10, 3)] rfl (by kernel_rfl) (fun c env w => by simp (decide := true) only [EX, not_false_eq_true]) H (fun w H => ?_)
  have H0 := H
  refine dq_run ?_
  simp (maxSteps := 500000) (decide := true) (disch := omega) only [EV, ↓reduceIte, Nat.reduceAdd, tt58]
  refine dq_load H0 rfl ?_
  simp (maxSteps := 500000) (decide := true) (disch := omega) only [EV, ↓reduceIte, Nat.reduceAdd, tt58]
  refine dq_load H0 rfl ?_
  simp (maxSteps := 500000) (decide := true) (disch := omega) only [EV, ↓reduceIte, Nat.reduceAdd, tt58]
  refine dq_load H0 rfl ?_
  simp (maxSteps := 500000) (decide := true) (disch := omega) only [EV, ↓reduceIte, Nat.reduceAdd, tt58]
  refine dq_load H0 rfl ?_
  simp (maxSteps := 500000) (decide := true) (disch := omega) only [EV, ↓reduceIte, Nat.reduceAdd, tt58]
  refine dq_act (by decide) rfl ?_
  refine lq_call rfl ?_
  refine Cl.mono (CloneS_ok H (Ent.up (M := [Bag q.rs]) (Bag.ent hrs)) rfl (show h.keys.length ≤ _ by omega)) ?_
  rintro _ w ⟨ao2, c2, rfl, H⟩
  refine lr_nil ?_
  replace H0 := H.wkTo H0
  refine ⟨fun _ => H0, ?_⟩
  simp (maxSteps := 500000) (decide := true) (disch := omega) only [EV, ↓reduceIte, Nat.reduceAdd, tt58]
  refine dq_act (by decide) rfl ?_
  refine lq_st H rfl rfl rfl (fun w H => ?_)
  try simp only [ES] at H
  refine lr_nil ?_
  refine ⟨fun hh => absurd hh (by decide), ?_⟩
  simp (maxSteps := 500000) (decide := true) (disch := omega) only [EV, ↓reduceIte, Nat.reduceAdd, tt58]
  refine dq_nil ?_
  refine h3 _ _ ?_
  refine cw_ret ?_
  try simp (decide := true) only [EX, ↓reduceIte]
  refine retc H rfl ?_
  simp (maxSteps := 500000) (decide := true) (disch := omega) only [EV, ↓reduceIte, Nat.reduceAdd, tt58]
  exact ⟨ao2, c2, rfl, H.wk⟩
theorem version_ok {p : Nat} {S : Sto} {k : ByteArray} {id : Int} {h : Hd} {F : List HP} {w : World} (H : Own (StoreAt p S :: F) w) (hh : mget S.V (k, id) = some h) (hb : h.keys.length ≤ 1073741824) :
  Cl Tryz.prog 58 #[.pointer (some ⟨p, 0, none⟩), .agg #[.string k, .int .u64 id]] w fun v w' => ∃ ao c, v = .agg #[.string k, .int .u64 id, .string h.val, .slice ao h.keys.length c] ∧ Own (Os 9 encS (.slice ao h.keys.length c) h.keys :: StoreAt p S :: F) w' := by
  obtain ⟨q, hq, H⟩ := H.stO
  refine Cl.mono (version2_ok (F := Mp EmI q.bi q.mi :: Mp EmP q.bp q.mp :: Mp EmL q.bl q.ml :: IdsR S.V q.mi :: PlR q.pl q.mp :: F) hq H.wk hh hb) ?_
  rintro v w' ⟨ao, c, rfl, H'⟩
  exact ⟨ao, c, rfl, Own.swap (H'.stC (L := Os 9 encS (.slice ao h.keys.length c) h.keys :: F) q hq)⟩
end Go.Rp
set_option linter.unusedVariables false
set_option linter.unusedSimpArgs false
set_option maxHeartbeats 1000000
set_option maxRecDepth 100000
namespace Go.Rp
open Go.Proofs
instance iW17_0 : FnOk Tryz.prog 66 := ⟨⟨Tryz.f66, Tryz.func66, by kernel_rfl, by kernel_rfl⟩⟩
instance iW17_1 : FnOk Tryz.prog 67 := ⟨⟨Tryz.f67, Tryz.func67, by kernel_rfl, by kernel_rfl⟩⟩
instance iW17_2 : MpT Tryz.prog 123 119 125 := ⟨by kernel_rfl⟩
instance iW17_3 : MpT Tryz.prog 126 9 141 := ⟨by kernel_rfl⟩
instance iW17_4 : MpT Tryz.prog 127 43 44 := ⟨by kernel_rfl⟩
instance iW17_5 : SzT Tryz.prog 119 2 := ⟨by kernel_rfl⟩
instance iW17_6 : SzT Tryz.prog 125 3 := ⟨by kernel_rfl⟩
instance iW17_7 : ZvT Tryz.prog 119 (.agg #[(.string ByteArray.empty), (.int .u64 0)]) := ⟨by kernel_rfl⟩
instance iW17_8 : ZvT Tryz.prog 125 (.agg #[(.string ByteArray.empty), (.slice none 0 0), (.int .i64 0)]) := ⟨by kernel_rfl⟩
instance iW17_9 : ZvT Tryz.prog 141 (.slice none 0 0) := ⟨by kernel_rfl⟩
instance iW17_10 : ZvT Tryz.prog 44 (.slice none 0 0) := ⟨by kernel_rfl⟩
theorem tt19 : (AG Tryz.prog 119 = some true) ∧ (AG Tryz.prog 123 = some false) ∧ (AG Tryz.prog 126 = some false) ∧ (AG Tryz.prog 127 = some false) ∧ (AG Tryz.prog 2 = some false) ∧ (BU Tryz.prog 119 = some ([(.string ByteArray.empty), (.int .u64 0)], [(0, 1), (1, 1)])) ∧ (FO Tryz.prog 125 2 = some 2) ∧ (FO Tryz.prog 129 0 = some 0) ∧ (FO Tryz.prog 129 1 = some 1) ∧ (FO Tryz.prog 129 2 = some 2) ∧ (LK Tryz.prog 44 = some 1) ∧ (SZ Tryz.prog 119 = some 2) := ⟨by kernel_rfl, by kernel_rfl, by kernel_rfl, by kernel_rfl, by kernel_rfl, by kernel_rfl, by kernel_rfl, by kernel_rfl, by kernel_rfl, by kernel_rfl, by kernel_rfl, by kernel_rfl⟩

def dropS (S : Sto) (k : ByteArray) (id : Int) : Int × Sto :=
  match mget S.V (k, id) with
  | none => (110, S)
  | some h => if h.stamp = -1 then (1, S) else (0, ⟨sdel S.V (k, id), S.L⟩)
theorem idsOf_del {V : List (Nm × Hd)} {k : ByteArray} {id : Int} (hr : Rise (keys V)) : idsOf (sdel V (k, id)) k = fne id (idsOf V k) := by
  refine Rise.ext (idsOf_rise k (sdel_rise hr)) (List.Pairwise.sublist (List.filter_sublist ..) (idsOf_rise k hr)) fun a => ?_
  rw [idsOf_mem, sdel_get _ _ _ hr.nodup, fne_mem, idsOf_mem]
  by_cases e : a = id
  · subst e; simp
  · rw [if_neg (by simp [Ne.symm e])]; simp [e]
theorem idsOf_delO {V : List (Nm × Hd)} {k k' : ByteArray} {id : Int} (hr : Rise (keys V)) (hne : k' ≠ k) : idsOf (sdel V (k, id)) k' = idsOf V k' := by
  refine Rise.ext (idsOf_rise k' (sdel_rise hr)) (idsOf_rise k' hr) fun a => ?_
  rw [idsOf_mem, idsOf_mem, sdel_get _ _ _ hr.nodup, if_neg (by simp [Ne.symm hne])]
theorem mdel_mset {κ β : Type} [DecidableEq κ] : ∀ (m : List (κ × β)) (k : κ) (v : β), mdel (mset m k v) k = mdel m k
  | [], k, v => by simp [mset, mdel]
  | (a, u) :: m, k, v => by
    unfold mset
    split
    · rename_i e; subst e; simp [mdel]
    · rename_i e; rw [mdel, if_neg e, mdel_mset m k v, mdel, if_neg e]
theorem LoOk.drop {S : Sto} {q : Lo} (hq : LoOk S q) {k : ByteArray} {id : Int} (hmv : (keys q.mv).Nodup) (si : Sl) (mp' : List (Int × Sl)) (hmp : ∀ i, mget mp' i = none → (i = id → fne k (q.pl id) = []) ∧ (i ≠ id → mget q.mp i = none)) :
    LoOk ⟨sdel S.V (k, id), S.L⟩ { q with mv := mdel q.mv (k, id), mi := mset q.mi k si, mp := mp', pl := fun i => if i = id then fne k (q.pl id) else q.pl i } where
  rv := sdel_rise hq.rv
  rl := hq.rl
  v := fun n => by
    simp only
    rw [mdel_eq, sdel_get _ _ _ hmv, sdel_get _ _ _ hq.rv.nodup]
    split
    · trivial
    · exact hq.v n
  i := fun k' h' => by
    simp only at h'
    rw [mset_get] at h'
    split at h'
    · cases h'
    · rename_i e
      show idsOf _ _ = _
      rw [idsOf_delO hq.rv (Ne.symm e)]; exact hq.i k' h'
  p := fun i k' => by
    simp only
    rw [sdel_get _ _ _ hq.rv.nodup]
    by_cases e : i = id
    · subst e
      rw [if_pos rfl, fne_mem, hq.p]
      by_cases e2 : k' = k
      · subst e2; simp
      · rw [if_neg (by simp [Ne.symm e2])]; simp [e2]
    · rw [if_neg e, if_neg (by simp [Ne.symm e]), hq.p]
  pn := fun i => by
    simp only
    split
    · exact List.Nodup.sublist (List.filter_sublist ..) (hq.pn id)
    · exact hq.pn i
  p0 := fun i h' => by
    simp only at h' ⊢
    split
    · rename_i e; exact (hmp i h').1 e
    · rename_i e; exact hq.p0 i ((hmp i h').2 e)
  l := hq.l
theorem Drop_ok {p : Nat} {S : Sto} {k : ByteArray} {id : Int} {F : List HP} {w : World} (H : Own (StoreAt p S :: F) w) (hbv : S.V.length ≤ 1073741824) :
  Cl Tryz.prog 19 #[.pointer (some ⟨p, 0, none⟩), .string k, .int .u64 id] w fun v w' => v = .int .i64 (dropS S k id).1 ∧ Own (StoreAt p (dropS S k id).2 :: F) w' := by
  refine cl_of_cw Tryz.func19 rfl ?_
  simp only [Tryz.ntmps19, envA, List.size_toArray, List.length_cons, List.length_nil, Nat.reduceAdd, Nat.reduceSub]
  obtain ⟨q, hq, H⟩ := H.stO
  obtain ⟨_, _, _, _, _, _, hnv⟩ := (H.tkR (R := Mp EmV) (k := q.bv)).mp
  obtain ⟨_, _, _, _, _, _, hni⟩ := (H.tkR (R := Mp EmI) (k := q.bi)).mp
  obtain ⟨_, _, _, _, _, _, hnp⟩ := (H.tkR (R := Mp EmP) (k := q.bp)).mp
  have hil := idsOf_len S.V k
  have hpl := hq.pl_len id
  obtain ⟨⟨va, vs, vt, hm3⟩, hs3⟩ := hvForm hq (k, id)
  refine cw_seq (fun K1 h1 => ?_)
  refine cw_region (lq_run ?_)
  simp (maxSteps := 500000) (decide := true) (disch := omega) only [EV, ↓reduceIte, Nat.reduceAdd, tt19]
  refine lq_nil ?_
  refine h1 _ _ ?_
  refine cw_seq (fun K2 h2 => ?_)
  refine cw_region (lq_run ?_)
  simp (maxSteps := 500000) (decide := true) (disch := omega) only [EV, ↓reduceIte, Nat.reduceAdd, tt19]
  refine lq_new H (fun b7 w H => ?_)
  try simp only [ES] at H
  simp (maxSteps := 500000) (decide := true) (disch := omega) only [EV, ↓reduceIte, Nat.reduceAdd, tt19]
  refine lq_st H rfl rfl rfl (fun w H => ?_)
  try simp only [ES] at H
  simp (maxSteps := 500000) (decide := true) (disch := omega) only [EV, ↓reduceIte, Nat.reduceAdd, tt19]
  refine lq_nil ?_
  refine h2 _ _ ?_
  refine cw_seq (fun K3 h3 => ?_)
  refine cw_draw [(0, 0), (1, 0), (2, 0), (3, 1), (4, 1), (5, 1), (6, 0), (7, 0), (8, 0), (9, 2), (10, 3), (11, 0)] rfl (by kernel_rfl) (fun c env w => by simp (decide := true) only [EX, not_false_eq_true]) H (fun w H => ?_)
  have H0 := H
  refine dq_run ?_
  simp (maxSteps := 500000) (decide := true) (disch := omega) only [EV, ↓reduceIte, Nat.reduceAdd, tt19]
  refine dq_load H0 rfl ?_
  simp (maxSteps := 500000) (decide := true) (disch := omega) only [EV, ↓reduceIte, Nat.reduceAdd, tt19]
  refine dq_load H0 rfl ?_
  simp (maxSteps := 500000) (decide := true) (disch := omega) only [EV, ↓reduceIte, Nat.reduceAdd, tt19]
  refine dq_lookup (E := EmV) (k, id) H0 rfl rfl ?_
  rw [hm3, hs3]
  simp (maxSteps := 500000) (decide := true) (disch := omega) only [EV, ↓reduceIte, Nat.reduceAdd, tt19]
  refine dq_act (by decide) rfl ?_
  refine lq_new H (fun b8 w H => ?_)
  try simp only [ES] at H
  refine lr_nil ?_
  replace H0 := H.wkTo H0
  refine ⟨fun _ => H0, ?_⟩
  simp (maxSteps := 500000) (decide := true) (disch := omega) only [EV, ↓reduceIte, Nat.reduceAdd, tt19]
  refine dq_act (by decide) rfl ?_
  refine lq_st H rfl rfl rfl (fun w H => ?_)
  try simp only [ES] at H
  refine lr_nil ?_
  refine ⟨fun hh => absurd hh (by decide), ?_⟩
  simp (maxSteps := 500000) (decide := true) (disch := omega) only [EV, ↓reduceIte, Nat.reduceAdd, tt19]
  refine dq_nil ?_
  refine h3 _ _ ?_
  refine cw_seq (fun K4 h4 => ?_)
  refine cw_seq (fun K5 h5 => ?_)
  refine cw_region (lq_run ?_)
  simp (maxSteps := 500000) (decide := true) (disch := omega) only [EV, ↓reduceIte, Nat.reduceAdd, tt19]
  refine lq_nil ?_
  refine h5 _ _ ?_
  refine cw_condB rfl (fun c23 => ?_) (fun c23 => ?_)
  · skip
    try simp only [HB] at c23
    refine cw_seq (fun K6 h6 => ?_)
    refine cw_region (lq_run ?_)
    simp (maxSteps := 500000) (decide := true) (disch := omega) only [EV, ↓reduceIte, Nat.reduceAdd, tt19]
    refine lq_nil ?_
    refine h6 _ _ ?_
    refine cw_ret ?_
    try simp (decide := true) only [EX, ↓reduceIte]
    refine ret1 rfl ?_
    have e0 : mget S.V (k, id) = none := by cases h : mget S.V (k, id) <;> simp_all
    simp only [dropS, e0]; exact ⟨trivial, H.stC q hq⟩
  · skip
    try simp only [HB] at c23
    obtain ⟨h, hh⟩ := Option.isSome_iff_exists.1 c23
    obtain ⟨ao0, c0, hvv, -, -⟩ := hvGet hq hh (.agg #[.string ByteArray.empty, .slice none 0 0, .int .i64 0])
    have hst : vt = h.stamp := by rw [hvv] at hm3; simp at hm3; exact hm3.2.2.symm
    refine cw_skip ?_
    refine h4 _ _ ?_
    refine cw_seq (fun K7 h7 => ?_)
    refine cw_seq (fun K8 h8 => ?_)
    refine cw_region (lq_run ?_)
    simp (maxSteps := 500000) (decide := true) (disch := omega) only [EV, ↓reduceIte, Nat.reduceAdd, tt19]
    refine lq_load H rfl ?_
    simp (maxSteps := 500000) (decide := true) (disch := omega) only [EV, ↓reduceIte, Nat.reduceAdd, tt19]
    refine lq_nil ?_
    refine h8 _ _ ?_
    refine cw_condB rfl (fun c26 => ?_) (fun c26 => ?_)
    · skip
      try simp only [HB] at c26
      refine cw_seq (fun K9 h9 => ?_)
      refine cw_region (lq_run ?_)
      simp (maxSteps := 500000) (decide := true) (disch := omega) only [EV, ↓reduceIte, Nat.reduceAdd, tt19]
      refine lq_nil ?_
      refine h9 _ _ ?_
      refine cw_ret ?_
      try simp (decide := true) only [EX, ↓reduceIte]
      refine ret1 rfl ?_
      simp only [dropS, hh]; rw [if_pos (by rw [← hst]; exact c26)]; exact ⟨rfl, H.stC q hq⟩
    · skip
      try simp only [HB] at c26
      refine cw_skip ?_
      refine h7 _ _ ?_
      refine cw_seq (fun K10 h10 => ?_)
      refine cw_draw [(0, 0), (1, 0), (2, 0), (3, 1), (4, 1), (5, 3)] rfl (by kernel_rfl) (fun c env w => by simp (decide := true) only [EX, not_false_eq_true]) H (fun w H => ?_)
      have H0 := H
      refine dq_run ?_
      simp (maxSteps := 500000) (decide := true) (disch := omega) only [EV, ↓reduceIte, Nat.reduceAdd, tt19]
      refine dq_load H0 rfl ?_
      simp (maxSteps := 500000) (decide := true) (disch := omega) only [EV, ↓reduceIte, Nat.reduceAdd, tt19]
      refine dq_load H0 rfl ?_
      simp (maxSteps := 500000) (decide := true) (disch := omega) only [EV, ↓reduceIte, Nat.reduceAdd, tt19]
      refine dq_act (by decide) rfl ?_
      refine lq_delete (E := EmV) (k, id) H rfl rfl (fun w H => ?_)
      refine lr_nil ?_
      refine ⟨fun hh => absurd hh (by decide), ?_⟩
      simp (maxSteps := 500000) (decide := true) (disch := omega) only [EV, ↓reduceIte, Nat.reduceAdd, tt19]
      refine dq_nil ?_
      refine h10 _ _ ?_
      refine cw_seq (fun K11 h11 => ?_)
      obtain ⟨aoi, ci, hiv, H⟩ := idsTake (hq.i k) (H.tkR (R := IdsR) (k := S.V))
      refine cw_drawW (L0 := [Ce p ([.map (some q.bv), .map (some q.bi), .map (some q.bp), .map (some q.bl)], 129), Mp EmI q.bi q.mi]) [(0, 0), (1, 0), (2, 0), (3, 1), (4, 0), (5, 0), (6, 0), (7, 0), (8, 1), (9, 0), (10, 1), (11, 0), (12, 2), (13, 3)] rfl (by kernel_rfl) (fun c env w => by simp (decide := true) only [EX, not_false_eq_true]) H (fun w H => ?_)
      have H0 : Own [Ce p ([.map (some q.bv), .map (some q.bi), .map (some q.bp), .map (some q.bl)], 129), Mp EmI q.bi q.mi] w := H.wk
      refine dq_run ?_
      simp (maxSteps := 500000) (decide := true) (disch := omega) only [EV, ↓reduceIte, Nat.reduceAdd, tt19]
      refine dq_load H0 rfl ?_
      simp (maxSteps := 500000) (decide := true) (disch := omega) only [EV, ↓reduceIte, Nat.reduceAdd, tt19]
      refine dq_load H0 rfl ?_
      simp (maxSteps := 500000) (decide := true) (disch := omega) only [EV, ↓reduceIte, Nat.reduceAdd, tt19]
      refine dq_lookup (E := EmI) k H0 rfl rfl ?_
      rw [hiv]
      simp (maxSteps := 500000) (decide := true) (disch := omega) only [EV, ↓reduceIte, Nat.reduceAdd, tt19]
      refine dq_act (by decide) rfl ?_
      refine lq_call rfl ?_
      refine Cl.mono (woI_ok H rfl (by omega)) ?_
      rintro _ w ⟨ao3, c3, rfl, H⟩
      refine lr_nil ?_
      replace H0 := H.wkTo H0
      refine ⟨fun _ => H0, ?_⟩
      simp (maxSteps := 500000) (decide := true) (disch := omega) only [EV, ↓reduceIte, Nat.reduceAdd, tt19]
      refine dq_act (by decide) rfl ?_
      refine lq_mapUpdate (E := EmI) k (ao3, (fne id (idsOf S.V k)).length, c3) H rfl rfl rfl (fun w H => ?_)
      refine lr_nil ?_
      refine ⟨fun hh => absurd hh (by decide), ?_⟩
      simp (maxSteps := 500000) (decide := true) (disch := omega) only [EV, ↓reduceIte, Nat.reduceAdd, tt19]
      refine dq_nil ?_
      refine h11 _ _ ?_
      refine cw_seq (fun K12 h12 => ?_)
      obtain ⟨aop, cp, hpv, H⟩ := plTake (hq.p0 id) (H.tkR (R := PlR) (k := q.pl))
      refine cw_drawW (L0 := [Ce p ([.map (some q.bv), .map (some q.bi), .map (some q.bp), .map (some q.bl)], 129), Mp EmP q.bp q.mp]) [(0, 0), (1, 0), (2, 0), (3, 1), (4, 0), (5, 0), (6, 0), (7, 0), (8, 1), (9, 0), (10, 1), (11, 0), (12, 2), (13, 3)] rfl (by kernel_rfl) (fun c env w => by simp (decide := true) only [EX, not_false_eq_true]) H (fun w H => ?_)
      have H0 : Own [Ce p ([.map (some q.bv), .map (some q.bi), .map (some q.bp), .map (some q.bl)], 129), Mp EmP q.bp q.mp] w := H.wk
      refine dq_run ?_
      simp (maxSteps := 500000) (decide := true) (disch := omega) only [EV, ↓reduceIte, Nat.reduceAdd, tt19]
      refine dq_load H0 rfl ?_
      simp (maxSteps := 500000) (decide := true) (disch := omega) only [EV, ↓reduceIte, Nat.reduceAdd, tt19]
      refine dq_load H0 rfl ?_
      simp (maxSteps := 500000) (decide := true) (disch := omega) only [EV, ↓reduceIte, Nat.reduceAdd, tt19]
      refine dq_lookup (E := EmP) id H0 rfl rfl ?_
      rw [hpv]
      simp (maxSteps := 500000) (decide := true) (disch := omega) only [EV, ↓reduceIte, Nat.reduceAdd, tt19]
      refine dq_act (by decide) rfl ?_
      refine lq_call rfl ?_
      refine Cl.mono (woS_ok H rfl (by omega)) ?_
      rintro _ w ⟨ao5, c5, rfl, H⟩
      refine lr_nil ?_
      replace H0 := H.wkTo H0
      refine ⟨fun _ => H0, ?_⟩
      simp (maxSteps := 500000) (decide := true) (disch := omega) only [EV, ↓reduceIte, Nat.reduceAdd, tt19]
      refine dq_act (by decide) rfl ?_
      refine lq_mapUpdate (E := EmP) id (ao5, (fne k (q.pl id)).length, c5) H rfl rfl rfl (fun w H => ?_)
      refine lr_nil ?_
      refine ⟨fun hh => absurd hh (by decide), ?_⟩
      simp (maxSteps := 500000) (decide := true) (disch := omega) only [EV, ↓reduceIte, Nat.reduceAdd, tt19]
      refine dq_nil ?_
      refine h12 _ _ ?_
      refine cw_seq (fun K13 h13 => ?_)
      refine cw_seq (fun K14 h14 => ?_)
      refine cw_region (lq_run ?_)
      simp (maxSteps := 500000) (decide := true) (disch := omega) only [EV, ↓reduceIte, Nat.reduceAdd, tt19]
      refine lq_load H rfl ?_
      simp (maxSteps := 500000) (decide := true) (disch := omega) only [EV, ↓reduceIte, Nat.reduceAdd, tt19]
      refine lq_lookup (E := EmP) id H rfl rfl ?_
      rw [mval_some (show mget (mset q.mp id (ao5, (fne k (q.pl id)).length, c5)) id = some (ao5, (fne k (q.pl id)).length, c5) by rw [mset_get, if_pos rfl]), show EmP.ve (ao5, (fne k (q.pl id)).length, c5) = .slice ao5 (fne k (q.pl id)).length c5 from rfl]
      simp (maxSteps := 500000) (decide := true) (disch := omega) only [EV, ↓reduceIte, Nat.reduceAdd, tt19]
      refine lq_nil ?_
      refine h14 _ _ ?_
      refine cw_condB rfl (fun c65 => ?_) (fun c65 => ?_)
      · skip
        try simp only [HB] at c65
        refine cw_region (lq_run ?_)
        simp (maxSteps := 500000) (decide := true) (disch := omega) only [EV, ↓reduceIte, Nat.reduceAdd, tt19]
        refine lq_load H rfl ?_
        simp (maxSteps := 500000) (decide := true) (disch := omega) only [EV, ↓reduceIte, Nat.reduceAdd, tt19]
        refine lq_delete (E := EmP) id H rfl rfl (fun w H => ?_)
        simp (maxSteps := 500000) (decide := true) (disch := omega) only [EV, ↓reduceIte, Nat.reduceAdd, tt19]
        refine lq_nil ?_
        refine h13 _ _ ?_
        refine cw_seq (fun K15 h15 => ?_)
        refine cw_region (lq_run ?_)
        simp (maxSteps := 500000) (decide := true) (disch := omega) only [EV, ↓reduceIte, Nat.reduceAdd, tt19]
        refine lq_nil ?_
        refine h15 _ _ ?_
        refine cw_ret ?_
        try simp (decide := true) only [EX, ↓reduceIte]
        refine ret1 rfl ?_
        simp only [dropS, hh]; rw [if_neg (by rw [← hst]; exact c26)]; refine ⟨rfl, ?_⟩
        have hlz : fne k (q.pl id) = [] := List.eq_nil_of_length_eq_zero (by omega)
        rw [mdel_mset] at H
        have H1 := (H.tkR (R := Bigs) (k := mdel q.mi k)).tkR (R := Os 43 encI) (k := .slice ao3 (fne id (idsOf S.V k)).length c3)
        rw [← idsOf_del (k := k) (id := id) hq.rv] at H1
        have H2 := Own.bigPut (f' := fun e => Os 43 encI (slv e.2) (idsOf (sdel S.V (k, id)) e.1)) (v' := (ao3, (idsOf (sdel S.V (k, id)) k).length, c3)) H1 (fun e he => by rw [idsOf_delO hq.rv (mdel_mem hni he).2])
        have H3 := H2.tkR (R := Bigs) (k := mdel q.mp id)
        have H4 := Own.bigSame (f' := fun e => Os 9 encS (slv e.2) (if e.1 = id then fne k (q.pl id) else q.pl e.1)) H3 (fun e he => by rw [if_neg (mdel_mem hnp he).2])
        exact H4.stC2 (LoOk.drop hq hnv (ao3, (idsOf (sdel S.V (k, id)) k).length, c3) (mdel q.mp id) (fun i hi => ⟨fun _ => hlz, fun hne => by rw [mdel_eq, sdel_get _ _ _ hnp, if_neg (Ne.symm hne)] at hi; exact hi⟩))
      · skip
        try simp only [HB] at c65
        refine cw_skip ?_
        refine h13 _ _ ?_
        refine cw_seq (fun K16 h16 => ?_)
        refine cw_region (lq_run ?_)
        simp (maxSteps := 500000) (decide := true) (disch := omega) only [EV, ↓reduceIte, Nat.reduceAdd, tt19]
        refine lq_nil ?_
        refine h16 _ _ ?_
        refine cw_ret ?_
        try simp (decide := true) only [EX, ↓reduceIte]
        refine ret1 rfl ?_
        simp only [dropS, hh]; rw [if_neg (by rw [← hst]; exact c26)]; refine ⟨rfl, ?_⟩
        have H1 := (H.tkR (R := Bigs) (k := mdel q.mi k)).tkR (R := Os 43 encI) (k := .slice ao3 (fne id (idsOf S.V k)).length c3)
        rw [← idsOf_del (k := k) (id := id) hq.rv] at H1
        have H2 := Own.bigPut (f' := fun e => Os 43 encI (slv e.2) (idsOf (sdel S.V (k, id)) e.1)) (v' := (ao3, (idsOf (sdel S.V (k, id)) k).length, c3)) H1 (fun e he => by rw [idsOf_delO hq.rv (mdel_mem hni he).2])
        have H3 := (H2.tkR (R := Bigs) (k := mdel q.mp id)).tkR (R := Os 9 encS) (k := .slice ao5 (fne k (q.pl id)).length c5)
        have H4 := Own.bigPut (f' := fun e => Os 9 encS (slv e.2) (if e.1 = id then fne k (q.pl id) else q.pl e.1)) (k := id) (v' := (ao5, (fne k (q.pl id)).length, c5)) (by simp only [if_true]; exact H3) (fun e he => by rw [if_neg (mdel_mem hnp he).2])
        exact H4.stC2 (LoOk.drop hq hnv (ao3, (idsOf (sdel S.V (k, id)) k).length, c3) (mset q.mp id (ao5, (fne k (q.pl id)).length, c5)) (fun i hi => by
          rw [mset_get] at hi
          split at hi
          · cases hi
          · rename_i hne; exact ⟨fun e => absurd e.symm hne, fun _ => hi⟩))
end Go.Rp
