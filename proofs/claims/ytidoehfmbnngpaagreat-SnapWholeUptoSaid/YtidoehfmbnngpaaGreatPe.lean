/-
  store: Commit, loads.
-/
import Derived.Test.YtidoehfmbnngpaaGreatProg
import Derived.Test.YtidoehfmbnngpaaGreatPd
set_option linter.unusedVariables false
set_option linter.unusedSimpArgs false
set_option maxHeartbeats 1000000
set_option maxRecDepth 100000
namespace Go.Rp
open Go.Proofs


/-- What a commit of id says at one version. -/
def cmH (b : Bool) (id now : Int) (n : Nm) (h : Hd) : Hd := if b = true ∧ n.2 < id ∧ h.stamp = -1 then { h with stamp := now } else h
/-- A commit of id at one key. -/
def cmK (id now : Int) (S : Sto) (k : ByteArray) : Sto :=
  if id ≤ lastOf S k then S else ⟨S.V.map (fun p => (p.1, cmH (decide (p.1.1 = k)) id now p.1 p.2)), sins S.L k id⟩
theorem keys_map {κ β : Type} (f : κ → β → β) (m : List (κ × β)) : keys (m.map fun p => (p.1, f p.1 p.2)) = keys m := by simp [keys, Function.comp]
theorem mget_mapF {κ β : Type} [DecidableEq κ] (f : κ → β → β) : ∀ (m : List (κ × β)) (k : κ), mget (m.map fun p => (p.1, f p.1 p.2)) k = (mget m k).map (f k)
  | [], _ => rfl
  | (a, v) :: m, k => by
    simp only [List.map_cons, mget]; split
    · rename_i e; subst e; rfl
    · exact mget_mapF f m k
theorem cmK_rise {id now : Int} {S : Sto} {k : ByteArray} (h1 : Rise (keys S.V)) (h2 : Rise (keys S.L)) : Rise (keys (cmK id now S k).V) ∧ Rise (keys (cmK id now S k).L) := by
  unfold cmK; split
  · exact ⟨h1, h2⟩
  · exact ⟨by rw [keys_map (fun n h => cmH (decide (n.1 = k)) id now n h)]; exact h1, sins_rise _ _ _ h2⟩
theorem cmH_no {id now : Int} {n : Nm} {h : Hd} : cmH false id now n h = h := by simp [cmH]
theorem cmK_L {id now : Int} {S : Sto} {k a : ByteArray} (h2 : Rise (keys S.L)) : mget (cmK id now S k).L a = if k = a ∧ ¬ id ≤ lastOf S k then some id else mget S.L a := by
  unfold cmK; split
  · rename_i h; rw [if_neg (fun q => q.2 h)]
  · rename_i h
    rw [sins_get _ _ _ _ h2]
    by_cases e : k = a
    · rw [if_pos e, if_pos ⟨e, h⟩]
    · rw [if_neg e, if_neg (fun q => e q.1)]
theorem cmK_V {id now : Int} {S : Sto} {k : ByteArray} {n : Nm} : mget (cmK id now S k).V n = (mget S.V n).map (cmH (decide (n.1 = k ∧ ¬ id ≤ lastOf S k)) id now n) := by
  unfold cmK; split
  · rename_i h
    rw [show decide (n.1 = k ∧ ¬ id ≤ lastOf S k) = false from decide_eq_false (fun q => q.2 h)]
    cases mget S.V n <;> simp [cmH_no]
  · rename_i h
    rw [mget_mapF (fun n h => cmH (decide (n.1 = k)) id now n h)]
    congr 1
    simp [h]
theorem memB_cons {κ : Type} [DecidableEq κ] {l : List κ} {a k : κ} : memB (k :: l) a = (decide (k = a) || memB l a) := rfl
theorem memB_nil {κ : Type} [DecidableEq κ] {a : κ} : memB ([] : List κ) a = false := rfl
theorem cmF {id now : Int} : ∀ (l : List ByteArray) (S : Sto), l.Nodup → Rise (keys S.V) → Rise (keys S.L) →
    (Rise (keys (l.foldl (cmK id now) S).V) ∧ Rise (keys (l.foldl (cmK id now) S).L)) ∧
    (∀ a, mget (l.foldl (cmK id now) S).L a = if memB l a = true ∧ ¬ id ≤ lastOf S a then some id else mget S.L a) ∧
    (∀ n, mget (l.foldl (cmK id now) S).V n = (mget S.V n).map (cmH (decide (memB l n.1 = true ∧ ¬ id ≤ lastOf S n.1)) id now n))
  | [], S, _, h1, h2 => ⟨⟨h1, h2⟩, fun a => by simp [memB_nil], fun n => by
      show mget S.V n = _
      rw [show decide (memB [] n.1 = true ∧ ¬ id ≤ lastOf S n.1) = false from decide_eq_false (fun q => by cases q.1)]
      cases mget S.V n <;> simp [cmH_no]⟩
  | k :: l, S, hn, h1, h2 => by
    have hn' := List.nodup_cons.1 hn
    have hkl : memB l k = false := memB_no.2 hn'.1
    have hr := cmK_rise (id := id) (now := now) (k := k) h1 h2
    obtain ⟨r, eL, eV⟩ := cmF l (cmK id now S k) hn'.2 hr.1 hr.2
    have hlast : ∀ a, a ≠ k → lastOf (cmK id now S k) a = lastOf S a := fun a ha => by
      unfold lastOf; rw [cmK_L h2, if_neg (fun q => ha q.1.symm)]
    refine ⟨r, fun a => ?_, fun n => ?_⟩
    · rw [List.foldl_cons, eL a]
      by_cases e : a = k
      · subst e
        rw [if_neg (by simp [hkl]), cmK_L h2]
        simp [memB_cons]
      · rw [hlast a e, cmK_L h2]
        have e2 : ¬ k = a := fun q => e q.symm
        simp [memB_cons, e2]
    · rw [List.foldl_cons, eV n, cmK_V, Option.map_map]
      congr 1
      funext h
      simp only [Function.comp]
      by_cases e : n.1 = k
      · rw [show decide (memB l n.1 = true ∧ ¬ id ≤ lastOf (cmK id now S k) n.1) = false from decide_eq_false (by rw [e, hkl]; simp), cmH_no]
        congr 1
        simp [memB_cons, e]
      · have e2 : ¬ k = n.1 := fun q => e q.symm
        rw [hlast _ e, show decide (n.1 = k ∧ ¬ id ≤ lastOf S k) = false from decide_eq_false (fun q => e q.1), cmH_no]
        congr 1
        simp [memB_cons, e2]
theorem cmF_same {id now : Int} {l l' : List ByteArray} {S : Sto} (hn : l.Nodup) (hn' : l'.Nodup) (h1 : Rise (keys S.V)) (h2 : Rise (keys S.L)) (hm : ∀ a, a ∈ l ↔ a ∈ l') : l.foldl (cmK id now) S = l'.foldl (cmK id now) S := by
  obtain ⟨r, eL, eV⟩ := cmF (id := id) (now := now) l S hn h1 h2
  obtain ⟨r', eL', eV'⟩ := cmF (id := id) (now := now) l' S hn' h1 h2
  have hb : ∀ a, memB l a = memB l' a := fun a => by rw [Bool.eq_iff_iff, memB_iff, memB_iff]; exact hm a
  have hV : (l.foldl (cmK id now) S).V = (l'.foldl (cmK id now) S).V := maps_ext r.1 r'.1 fun n => by
    rw [eV, eV', hb]
  have hL : (l.foldl (cmK id now) S).L = (l'.foldl (cmK id now) S).L := maps_ext r.2 r'.2 fun a => by
    rw [eL, eL', hb]
  generalize l.foldl (cmK id now) S = x at hV hL ⊢
  generalize l'.foldl (cmK id now) S = y at hV hL ⊢
  cases x; cases y; simp only at hV hL; subst hV; subst hL; rfl
/-- The whole commit, said at once. -/
def cmL (id : Int) (S : Sto) : List ByteArray := (S.V.filter fun p => decide (p.1.2 = id)).map (·.1.1)
def commitS (id now : Int) (S : Sto) : Sto := (cmL id S).foldl (cmK id now) S
end Go.Rp
set_option linter.unusedVariables false
set_option linter.unusedSimpArgs false
set_option maxHeartbeats 1000000
set_option maxRecDepth 100000
namespace Go.Rp
open Go.Proofs


theorem sep_mem {A B : HP} (hA : ∀ g, A g → B g) (mono : ∀ g h, Hp.le g h → B g → B h) : ∀ (l : List HP), A ∈ l → ∀ g, Sep l g → B g
  | [], h, _, _ => by cases h
  | C :: l, h, g, ⟨g1, g2, d, a, b, x, y⟩ => by
    rcases List.mem_cons.1 h with rfl | h
    · exact mono _ _ a (hA _ x)
    · exact mono _ _ b (sep_mem hA mono l h _ y)
theorem ent_bigs {α : Type} {l : List α} {f : α → HP} {L : List HP} {a : α} {B : HP} (h : a ∈ l) (hA : ∀ g, f a g → B g) (mono : ∀ g h, Hp.le g h → B g → B h) : Ent (Bigs l f :: L) B := fun g ⟨g1, g2, d, p, q, x, y⟩ =>
  mono _ _ p (sep_mem hA mono _ (List.mem_map.2 ⟨a, h, rfl⟩) _ x)
theorem ids_row {V : List (Nm × Hd)} {mi : List (ByteArray × Sl)} {k : ByteArray} {L : List HP} {w : World} (h0 : mget mi k = none → idsOf V k = []) (H : Own (IdsR V mi :: L) w) :
    ∃ ao c, mval EmI mi k (.slice none 0 0) = .slice ao (idsOf V k).length c ∧ Ent [IdsR V mi] (Row ao encI (idsOf V k)) := by
  cases h : mget mi k with
  | none =>
    have h1 := h0 h
    exact ⟨none, 0, by rw [mval_none h, h1]; rfl, fun g _ => by rw [h1]; exact ⟨.inl rfl, fun i x hx => by simp at hx⟩⟩
  | some s =>
    have H1 := Own.bigTake H h
    obtain ⟨ao, c, e⟩ := H1.osv
    refine ⟨ao, c, by rw [mval_some h]; exact e, ent_bigs (mget_mem h) (fun g q => ?_) (fun g h l q => q.mono l)⟩
    have q' : Os 43 encI (slv s) (idsOf V k) g := q
    rw [show slv s = .slice ao (idsOf V k).length c from e] at q'
    exact q'.row
theorem pl_row {pl : Int → List ByteArray} {mp : List (Int × Sl)} {id : Int} {L : List HP} {w : World} (h0 : mget mp id = none → pl id = []) (H : Own (PlR pl mp :: L) w) :
    ∃ ao c, mval EmP mp id (.slice none 0 0) = .slice ao (pl id).length c ∧ Ent [PlR pl mp] (Row ao encS (pl id)) := by
  cases h : mget mp id with
  | none =>
    have h1 := h0 h
    exact ⟨none, 0, by rw [mval_none h, h1]; rfl, fun g _ => by rw [h1]; exact ⟨.inl rfl, fun i x hx => by simp at hx⟩⟩
  | some s =>
    have H1 := Own.bigTake H h
    obtain ⟨ao, c, e⟩ := H1.osv
    refine ⟨ao, c, by rw [mval_some h]; exact e, ent_bigs (mget_mem h) (fun g q => ?_) (fun g h l q => q.mono l)⟩
    have q' : Os 9 encS (slv s) (pl id) g := q
    rw [show slv s = .slice ao (pl id).length c from e] at q'
    exact q'.row
end Go.Rp
set_option linter.unusedVariables false
set_option linter.unusedSimpArgs false
set_option maxHeartbeats 1000000
set_option maxRecDepth 100000
namespace Go.Rp
open Go.Proofs
instance iW20_0 : ElT Tryz.prog 43 1 := ElT.mk' (by kernel_rfl)
instance iW20_1 : ElT Tryz.prog 9 1 := ElT.mk' (by kernel_rfl)
instance iW20_2 : FnOk Tryz.prog 63 := ⟨⟨Tryz.f63, Tryz.func63, by kernel_rfl, by kernel_rfl⟩⟩
instance iW20_3 : MpT Tryz.prog 123 119 125 := ⟨by kernel_rfl⟩
instance iW20_4 : MpT Tryz.prog 126 9 141 := ⟨by kernel_rfl⟩
instance iW20_5 : MpT Tryz.prog 127 43 44 := ⟨by kernel_rfl⟩
instance iW20_6 : MpT Tryz.prog 96 9 43 := ⟨by kernel_rfl⟩
instance iW20_7 : SlT Tryz.prog 141 43 := ⟨by kernel_rfl⟩
instance iW20_8 : SlT Tryz.prog 44 9 := ⟨by kernel_rfl⟩
instance iW20_9 : SzT Tryz.prog 125 3 := ⟨by kernel_rfl⟩
instance iW20_10 : SzT Tryz.prog 2 1 := ⟨by kernel_rfl⟩
instance iW20_11 : ZvT Tryz.prog 125 (.agg #[(.string ByteArray.empty), (.slice none 0 0), (.int .i64 0)]) := ⟨by kernel_rfl⟩
instance iW20_12 : ZvT Tryz.prog 141 (.slice none 0 0) := ⟨by kernel_rfl⟩
instance iW20_13 : ZvT Tryz.prog 43 (.int .u64 0) := ⟨by kernel_rfl⟩
instance iW20_14 : ZvT Tryz.prog 44 (.slice none 0 0) := ⟨by kernel_rfl⟩
theorem tt18 : (AG Tryz.prog 123 = some false) ∧ (AG Tryz.prog 125 = some true) ∧ (AG Tryz.prog 126 = some false) ∧ (AG Tryz.prog 127 = some false) ∧ (AG Tryz.prog 2 = some false) ∧ (AG Tryz.prog 43 = some false) ∧ (AG Tryz.prog 9 = some false) ∧ (AG Tryz.prog 96 = some false) ∧ (BU Tryz.prog 119 = some ([(.string ByteArray.empty), (.int .u64 0)], [(0, 1), (1, 1)])) ∧ (FO Tryz.prog 125 2 = some 2) ∧ (FO Tryz.prog 129 0 = some 0) ∧ (FO Tryz.prog 129 1 = some 1) ∧ (FO Tryz.prog 129 2 = some 2) ∧ (FO Tryz.prog 129 3 = some 3) ∧ (LK Tryz.prog 141 = some 1) ∧ (LK Tryz.prog 44 = some 1) ∧ (SZ Tryz.prog 125 = some 3) := ⟨by kernel_rfl, by kernel_rfl, by kernel_rfl, by kernel_rfl, by kernel_rfl, by kernel_rfl, by kernel_rfl, by kernel_rfl, by kernel_rfl, by kernel_rfl, by kernel_rfl, by kernel_rfl, by kernel_rfl, by kernel_rfl, by kernel_rfl, by kernel_rfl, by kernel_rfl⟩

theorem cmL_mem {id : Int} {S : Sto} {a : ByteArray} : a ∈ cmL id S ↔ (mget S.V (a, id)).isSome = true := by
  rw [mget_keys]
  simp only [cmL, keys, List.mem_map, List.mem_filter, decide_eq_true_eq]
  constructor
  · rintro ⟨⟨⟨b, i⟩, h⟩, ⟨h1, h2⟩, h3⟩
    simp only at h2 h3; subst h2; subst h3
    exact ⟨_, h1, rfl⟩
  · rintro ⟨⟨⟨b, i⟩, h⟩, h1, h2⟩
    cases h2
    exact ⟨_, ⟨h1, rfl⟩, rfl⟩
theorem cmL_nodup {id : Int} : ∀ {V : List (Nm × Hd)}, Rise (keys V) → ((V.filter fun p => decide (p.1.2 = id)).map (·.1.1)).Nodup
  | [], _ => List.nodup_nil
  | ((a, i), h) :: V, hr => by
    have hr' := List.pairwise_cons.1 hr
    rw [List.filter_cons]
    split
    · rename_i e
      simp only [decide_eq_true_eq] at e; subst e
      refine List.nodup_cons.2 ⟨fun hx => ?_, cmL_nodup hr'.2⟩
      have : (mget V (a, i)).isSome = true := cmL_mem (S := ⟨V, []⟩).1 hx
      have := hr'.1 (a, i) (mget_keys.1 this)
      rw [Lt.irr] at this; cases this
    · exact cmL_nodup hr'.2
/-- Some IDs of a key have been looked at. -/
def cmP (id now : Int) (s : ByteArray) (d : List Int) (n : Nm) (h : Hd) : Hd := cmH (decide (n.1 = s) && memB d n.2) id now n h
theorem cmP_nil {id now : Int} {s : ByteArray} {n : Nm} {h : Hd} : cmP id now s [] n h = h := by simp [cmP, memB_nil, cmH_no]
theorem cmP_all {id now : Int} {s : ByteArray} {d r : List Int} {n : Nm} {h : Hd} (hm : n.1 = s → n.2 ∈ d ++ r) (hr : ∀ o ∈ r, id ≤ o) : cmP id now s d n h = cmH (decide (n.1 = s)) id now n h := by
  unfold cmP cmH
  by_cases e : n.1 = s
  · by_cases e2 : n.2 < id
    · have : n.2 ∈ d := by
        rcases List.mem_append.1 (hm e) with h | h
        · exact h
        · have := hr _ h; omega
      rw [memB_iff.2 this]; simp
    · simp [e2]
  · simp [e]
theorem HvRel.stamp {rs : List (Option Addr × List ByteArray)} {a : ByteArray × Sl × Int} {h : Hd} (q : HvRel rs (some a) (some h)) (now : Int) : HvRel rs (some (a.1, a.2.1, now)) (some { h with stamp := now }) := ⟨q.1, rfl, q.2.2.1, q.2.2.2⟩
theorem idsOf_map {V : List (Nm × Hd)} {f : Nm → Hd → Hd} {k : ByteArray} : idsOf (V.map fun p => (p.1, f p.1 p.2)) k = idsOf V k := by
  unfold idsOf
  rw [List.filter_map, List.map_map]; rfl
theorem idsOf_cmK {id now : Int} {S : Sto} {k a : ByteArray} : idsOf (cmK id now S k).V a = idsOf S.V a := by
  unfold cmK; split
  · rfl
  · exact idsOf_map (f := fun n h => cmH (decide (n.1 = k)) id now n h)
theorem idsOf_cmF {id now : Int} {a : ByteArray} : ∀ (l : List ByteArray) (S : Sto), idsOf (l.foldl (cmK id now) S).V a = idsOf S.V a
  | [], _ => rfl
  | k :: l, S => by rw [List.foldl_cons, idsOf_cmF l, idsOf_cmK]
theorem sto_eta (S : Sto) : S = ⟨S.V, S.L⟩ := rfl
theorem HvRel.get {rs : List (Option Addr × List ByteArray)} {a : Option (ByteArray × Sl × Int)} {h : Hd} (q : HvRel rs a (some h)) : ∃ ao c, a = some (h.val, (ao, h.keys.length, c), h.stamp) ∧ (ao, h.keys) ∈ rs := by
  cases a with
  | none => exact q.elim
  | some x =>
    obtain ⟨a, ⟨b, m, c⟩, d⟩ := x
    obtain ⟨e1, e2, e3, e4⟩ := q
    simp only at e1 e2 e3 e4
    subst e1; subst e2; subst e3
    exact ⟨b, c, rfl, e4⟩
theorem cmP_snoc {id now : Int} {s : ByteArray} {d : List Int} {o : Int} {n : Nm} {h : Hd} (hne : n ≠ (s, o)) : cmP id now s (d ++ [o]) n h = cmP id now s d n h := by
  unfold cmP
  have : (decide (n.1 = s) && memB (d ++ [o]) n.2) = (decide (n.1 = s) && memB d n.2) := by
    by_cases e : n.1 = s
    · have e2 : ¬ o = n.2 := fun q => hne (by obtain ⟨a, b⟩ := n; simp only at e q; subst e; subst q; rfl)
      simp [memB, e2]
    · simp [e]
  rw [this]
theorem cmP_new {id now : Int} {s : ByteArray} {d : List Int} {o : Int} {h : Hd} (ho : ¬ o ∈ d) : cmP id now s d (s, o) h = h := by
  unfold cmP; rw [memB_no.2 ho, Bool.and_false, cmH_no]
theorem cmP_here {id now : Int} {s : ByteArray} {d : List Int} {o : Int} {h : Hd} (ho : o < id) : cmP id now s (d ++ [o]) (s, o) h = if h.stamp = -1 then { h with stamp := now } else h := by
  unfold cmP cmH
  have : memB (d ++ [o]) o = true := memB_iff.2 (by simp)
  simp [this, ho]
theorem hv_step {rs : List (Option Addr × List ByteArray)} {V : List (Nm × Hd)} {mv2 : List (Nm × (ByteArray × Sl × Int))} {id now : Int} {s : ByteArray} {d : List Int} {o : Int} {h : Hd} {ao : Option Addr} {c : Nat}
    (hv : ∀ n, HvRel rs (mget mv2 n) ((mget V n).map (cmP id now s d n))) (hh : mget V (s, o) = some h) (hk : (ao, h.keys) ∈ rs) (ho : o < id) (hs : h.stamp = -1) :
    ∀ n, HvRel rs (mget (mset mv2 (s, o) (h.val, (ao, h.keys.length, c), now)) n) ((mget V n).map (cmP id now s (d ++ [o]) n)) := fun n => by
  rw [mset_get]
  by_cases e : (s, o) = n
  · subst e
    rw [if_pos rfl, hh, Option.map_some, cmP_here ho, if_pos hs]
    exact ⟨rfl, rfl, rfl, hk⟩
  · rw [if_neg e]
    have := hv n
    cases h2 : mget V n with
    | none => rw [h2] at this; exact this
    | some h' => rw [h2] at this; simp only [Option.map_some] at this ⊢; rw [cmP_snoc (Ne.symm e)]; exact this
theorem hv_keep {rs : List (Option Addr × List ByteArray)} {V : List (Nm × Hd)} {mv2 : List (Nm × (ByteArray × Sl × Int))} {id now : Int} {s : ByteArray} {d : List Int} {o : Int} {h : Hd}
    (hv : ∀ n, HvRel rs (mget mv2 n) ((mget V n).map (cmP id now s d n))) (hh : mget V (s, o) = some h) (ho : ¬ o ∈ d) (hid : o < id) (hs : ¬ h.stamp = -1) :
    ∀ n, HvRel rs (mget mv2 n) ((mget V n).map (cmP id now s (d ++ [o]) n)) := fun n => by
  by_cases e : (s, o) = n
  · subst e
    have := hv (s, o)
    rw [hh, Option.map_some, cmP_new ho] at this
    rw [hh, Option.map_some, cmP_here hid, if_neg hs]; exact this
  · have := hv n
    cases h2 : mget V n with
    | none => rw [h2] at this; exact this
    | some h' => rw [h2] at this; simp only [Option.map_some] at this ⊢; rw [cmP_snoc (Ne.symm e)]; exact this
/-- One key has been gone through. -/
theorem LoOk.cm {S : Sto} {q : Lo} (hq : LoOk S q) {s : ByteArray} {id now : Int} {mv2 : List (Nm × (ByteArray × Sl × Int))} {d r : List Int} (hlt : ¬ id ≤ lastOf S s) (hd : idsOf S.V s = d ++ r) (hr : ∀ o ∈ r, id ≤ o)
    (hv : ∀ n, HvRel q.rs (mget mv2 n) ((mget S.V n).map (cmP id now s d n))) : LoOk (cmK id now S s) { q with mv := mv2, ml := mset q.ml s id } where
  rv := (cmK_rise hq.rv hq.rl).1
  rl := (cmK_rise hq.rv hq.rl).2
  v := fun n => by
    have h1 := hv n
    rw [cmK_V]
    cases h2 : mget S.V n with
    | none => rw [h2] at h1; exact h1
    | some h =>
      rw [h2] at h1
      simp only [Option.map_some] at h1 ⊢
      rw [cmP_all (r := r) (fun e => by
        rw [← hd, idsOf_mem, ← e, h2]; rfl) hr] at h1
      have e3 : decide (n.1 = s ∧ ¬ id ≤ lastOf S s) = decide (n.1 = s) := by simp only [hlt, not_false_eq_true, and_true]
      rw [e3]; exact h1
  i := fun k h => by rw [idsOf_cmK]; exact hq.i k h
  p := fun i k => by
    show k ∈ q.pl i ↔ _
    rw [cmK_V, Option.isSome_map, hq.p]
  pn := hq.pn
  p0 := hq.p0
  l := fun k => by
    show mget (mset q.ml s id) k = _
    rw [mset_get, cmK_L hq.rl, hq.l]
    by_cases e : s = k
    · rw [if_pos e, if_pos ⟨e, hlt⟩]
    · rw [if_neg e, if_neg (fun q => e q.1)]
theorem Commit_ok {p : Nat} {S : Sto} {id now : Int} {F : List HP} {w : World} (H : Own (StoreAt p S :: F) w) (hbv : S.V.length ≤ 1073741824) :
  Cl Tryz.prog 18 #[.pointer (some ⟨p, 0, none⟩), .int .u64 id, .int .i64 now] w fun v w' => ((65536 ≤ id ∧ (0 ≤ now ∧ now ≤ 1099511627776)) ∧ v = .tuple #[.int .i64 (cmL id S).length, .int .i64 0] ∧ Own (StoreAt p (commitS id now S) :: F) w') ∨ (¬ (65536 ≤ id ∧ (0 ≤ now ∧ now ≤ 1099511627776)) ∧ v = .tuple #[.int .i64 0, .int .i64 1] ∧ Own (StoreAt p S :: F) w') := by
  refine cl_of_cw Tryz.func18 rfl ?_
  simp only [Tryz.ntmps18, envA, List.size_toArray, List.length_cons, List.length_nil, Nat.reduceAdd, Nat.reduceSub]
  obtain ⟨q, hq, H⟩ := H.stO
  have hpl := hq.pl_len id
  obtain ⟨aop, cp, hpv, hPR⟩ := pl_row (hq.p0 id) (H.tkR (R := PlR) (k := q.pl))
  refine cw_seq (fun K1 h1 => ?_)
  refine cw_region (lq_run ?_)
  simp (maxSteps := 500000) (decide := true) (disch := omega) only [EV, ↓reduceIte, Nat.reduceAdd, tt18]
  refine lq_nil ?_
  refine h1 _ _ ?_
  refine cw_seq (fun K2 h2 => ?_)
  refine cw_seq (fun K3 h3 => ?_)
  refine cw_region (lq_run ?_)
  simp (maxSteps := 500000) (decide := true) (disch := omega) only [EV, ↓reduceIte, Nat.reduceAdd, tt18]
  refine lq_G (fun g15 => ?_) (fun g15 => ?_)
  · try simp only [HB] at g15
    simp (maxSteps := 500000) (decide := true) (disch := omega) only [EV, ↓reduceIte, Nat.reduceAdd, tt18]
    refine lq_nil ?_
    refine h3 _ _ ?_
    refine cw_condT rfl ?_
    refine cw_seq (fun K4 h4 => ?_)
    refine cw_region (lq_run ?_)
    simp (maxSteps := 500000) (decide := true) (disch := omega) only [EV, ↓reduceIte, Nat.reduceAdd, tt18]
    refine lq_nil ?_
    refine h4 _ _ ?_
    refine cw_ret ?_
    try simp (decide := true) only [EX, ↓reduceIte]
    refine ret2 rfl rfl ?_
    exact .inr ⟨fun h => by omega, rfl, H.stC q hq⟩
  · try simp only [HB] at g15
    simp (maxSteps := 500000) (decide := true) (disch := omega) only [EV, ↓reduceIte, Nat.reduceAdd, tt18]
    refine lq_call rfl ?_
    refine Cl.mono (tick_ok H) ?_
    rintro _ w ⟨rfl, H⟩
    simp (maxSteps := 500000) (decide := true) (disch := omega) only [EV, ↓reduceIte, Nat.reduceAdd, tt18]
    refine lq_nil ?_
    refine h3 _ _ ?_
    refine cw_condB rfl (fun c19 => ?_) (fun c19 => ?_)
    · skip
      try simp only [HB] at c19
      refine cw_seq (fun K5 h5 => ?_)
      refine cw_region (lq_run ?_)
      simp (maxSteps := 500000) (decide := true) (disch := omega) only [EV, ↓reduceIte, Nat.reduceAdd, tt18]
      refine lq_nil ?_
      refine h5 _ _ ?_
      refine cw_ret ?_
      try simp (decide := true) only [EX, ↓reduceIte]
      refine ret2 rfl rfl ?_
      exact .inr ⟨fun h => c19 h.2, rfl, H.stC q hq⟩
    · skip
      try simp only [HB] at c19
      refine cw_skip ?_
      refine h2 _ _ ?_
      refine cw_seq (fun K6 h6 => ?_)
      refine cw_seq (fun K7 h7 => ?_)
      refine cw_region (lq_run ?_)
      simp (maxSteps := 500000) (decide := true) (disch := omega) only [EV, ↓reduceIte, Nat.reduceAdd, tt18]
      refine lq_load H rfl ?_
      simp (maxSteps := 500000) (decide := true) (disch := omega) only [EV, ↓reduceIte, Nat.reduceAdd, tt18]
      refine lq_lookup (E := EmP) id H rfl rfl ?_
      rw [hpv]
      simp (maxSteps := 500000) (decide := true) (disch := omega) only [EV, ↓reduceIte, Nat.reduceAdd, tt18]
      refine lq_nil ?_
      refine h7 _ _ ?_
      refine cw_block ?_
      refine cw_loopC (X := List ByteArray × List ByteArray × List (Nm × (ByteArray × Sl × Int)) × List (ByteArray × Int)) [(0, _), (1, _), (2, _), (6, _), (7, _), (25, _), (26, _)] (fun x => [(27, .int .i64 (x.1.length : Int))]) (fun x w => q.pl id = x.1 ++ x.2.1 ∧ LoOk (x.1.foldl (cmK id now) S) ⟨q.bv, q.bi, q.bp, q.bl, x.2.2.1, q.mi, q.mp, x.2.2.2, q.rs, q.pl⟩ ∧ Own (Ce p ([.map (some q.bv), .map (some q.bi), .map (some q.bp), .map (some q.bl)], 129) :: Mp EmV q.bv x.2.2.1 :: Mp EmI q.bi q.mi :: Mp EmP q.bp q.mp :: Mp EmL q.bl x.2.2.2 :: Bag q.rs :: IdsR S.V q.mi :: PlR q.pl q.mp :: F) w) (fun x => x.2.1.length) ([], q.pl id, q.mv, q.ml) (.c rfl (.c rfl (.c rfl (.c rfl (.c rfl (.c rfl (.c rfl .n))))))) (.c rfl .n) ⟨rfl, hq, H.wk⟩ ?_
      rintro ⟨d, r, mv, ml⟩ w ⟨hd, hq2, H⟩
      simp only [List.cons_append, List.nil_append]
      simp only at hd hq2 H ⊢
      refine cw_seq (fun K8 h8 => ?_)
      refine cw_region (lq_run ?_)
      simp (maxSteps := 500000) (decide := true) (disch := omega) only [EV, ↓reduceIte, Nat.reduceAdd, tt18]
      refine lq_nil ?_
      refine h8 _ _ ?_
      refine cw_seq (fun K9 h9 => ?_)
      refine cw_condB rfl (fun c28 => ?_) (fun c28 => ?_)
      · skip
        try simp only [HB] at c28
        obtain ⟨s, r2, rfl, he⟩ := zip_more hd c28
        have hil := idsOf_len S.V s
        refine cw_skip ?_
        refine h9 _ _ ?_
        refine cw_seq (fun K10 h10 => ?_)
        refine cw_block ?_
        refine cw_seq (fun K11 h11 => ?_)
        refine cw_region (lq_run ?_)
        simp (maxSteps := 500000) (decide := true) (disch := omega) only [EV, ↓reduceIte, Nat.reduceAdd, tt18]
        refine lq_idx (i' := d.length) H rfl rfl hPR (Nat.le_refl _) rfl he ?_
        simp (maxSteps := 500000) (decide := true) (disch := omega) only [EV, ↓reduceIte, Nat.reduceAdd, tt18]
        refine lq_loadE H rfl hPR he rfl ?_
        simp (maxSteps := 500000) (decide := true) (disch := omega) only [EV, ↓reduceIte, Nat.reduceAdd, tt18]
        refine lq_nil ?_
        refine h11 _ _ ?_
        refine cw_seq (fun K12 h12 => ?_)
        refine cw_seq (fun K13 h13 => ?_)
        refine cw_region (lq_run ?_)
        simp (maxSteps := 500000) (decide := true) (disch := omega) only [EV, ↓reduceIte, Nat.reduceAdd, tt18]
        refine lq_load H rfl ?_
        simp (maxSteps := 500000) (decide := true) (disch := omega) only [EV, ↓reduceIte, Nat.reduceAdd, tt18]
        refine lq_lookup (E := EmL) s H rfl rfl ?_
        rw [mval_last hq2]
        simp (maxSteps := 500000) (decide := true) (disch := omega) only [EV, ↓reduceIte, Nat.reduceAdd, tt18]
        refine lq_nil ?_
        refine h13 _ _ ?_
        refine cw_condB rfl (fun c38 => ?_) (fun c38 => ?_)
        · skip
          try simp only [HB] at c38
          refine cw_exit ?_
          refine h10 _ _ ?_
          refine cw_region (lq_run ?_)
          simp (maxSteps := 500000) (decide := true) (disch := omega) only [EV, ↓reduceIte, Nat.reduceAdd, tt18]
          refine lq_nil ?_
          try have hr0 : ∀ o' ∈ ([] : List Int), id ≤ o' := by simp
          try
            have hr1 : ∀ o' ∈ o :: r4, id ≤ o' := by
              intro o' ho'
              have hri := idsOf_rise s hq.rv
              rw [hd2] at hri
              rcases List.mem_cons.1 ho' with rfl | ho'
              · exact c58
              · have := (List.pairwise_cons.1 (List.pairwise_append.1 hri).2.1).1 o' ho'
                have h9 : o < o' := of_decide_eq_true this
                omega
          first
            | exact Exists.intro (d ++ [s], r2, mv, ml) ⟨⟨(.c (by show look _ 27 = some (.int .i64 (((d ++ [s]).length : Nat) : Int)); rw [List.length_append]; rfl) .n), (.c rfl (.c rfl (.c rfl (.c rfl (.c rfl (.c rfl (.c rfl .n)))))))⟩, ⟨by simp [hd], by rw [List.foldl_append]; show LoOk (cmK id now _ s) _; rw [cmK, if_pos c38]; exact hq2, H.wk⟩, (by simp)⟩
            | exact Exists.intro (d ++ [s], r2, mv2, mset ml s id) ⟨⟨(.c (by show look _ 27 = some (.int .i64 (((d ++ [s]).length : Nat) : Int)); rw [List.length_append]; rfl) .n), (.c rfl (.c rfl (.c rfl (.c rfl (.c rfl (.c rfl (.c rfl .n)))))))⟩, ⟨by simp [hd], by rw [List.foldl_append]; exact LoOk.cm hq2 (Int.not_le.2 c38) (by rw [idsOf_cmF]; exact hd2) hr1 hv2, H.wk⟩, (by simp)⟩
            | exact Exists.intro (d ++ [s], r2, mv2, mset ml s id) ⟨⟨(.c (by show look _ 27 = some (.int .i64 (((d ++ [s]).length : Nat) : Int)); rw [List.length_append]; rfl) .n), (.c rfl (.c rfl (.c rfl (.c rfl (.c rfl (.c rfl (.c rfl .n)))))))⟩, ⟨by simp [hd], by rw [List.foldl_append]; exact LoOk.cm (d := idsOf S.V s) (r := []) hq2 (Int.not_le.2 c38) (by rw [idsOf_cmF, List.append_nil]) hr0 hv2, H.wk⟩, (by simp)⟩
        · skip
          try simp only [HB] at c38
          refine cw_skip ?_
          refine h12 _ _ ?_
          refine cw_seq (fun K14 h14 => ?_)
          refine cw_region (lq_run ?_)
          simp (maxSteps := 500000) (decide := true) (disch := omega) only [EV, ↓reduceIte, Nat.reduceAdd, tt18]
          refine lq_load H rfl ?_
          simp (maxSteps := 500000) (decide := true) (disch := omega) only [EV, ↓reduceIte, Nat.reduceAdd, tt18]
          refine lq_mapUpdate (E := EmL) s id H rfl rfl rfl (fun w H => ?_)
          simp (maxSteps := 500000) (decide := true) (disch := omega) only [EV, ↓reduceIte, Nat.reduceAdd, tt18]
          refine lq_nil ?_
          refine h14 _ _ ?_
          refine cw_seq (fun K15 h15 => ?_)
          refine cw_region (lq_run ?_)
          simp (maxSteps := 500000) (decide := true) (disch := omega) only [EV, ↓reduceIte, Nat.reduceAdd, tt18]
          refine lq_load H rfl ?_
          simp (maxSteps := 500000) (decide := true) (disch := omega) only [EV, ↓reduceIte, Nat.reduceAdd, tt18]
          obtain ⟨aoi, ci, hiv, hIR⟩ := ids_row (hq.i s) (H.tkR (R := IdsR) (k := S.V))
          refine lq_lookup (E := EmI) s H rfl rfl ?_
          rw [hiv]
          simp (maxSteps := 500000) (decide := true) (disch := omega) only [EV, ↓reduceIte, Nat.reduceAdd, tt18]
          refine lq_nil ?_
          refine h15 _ _ ?_
          refine cw_block ?_
          refine cw_loopC (X := List Int × List Int × List (Nm × (ByteArray × Sl × Int))) [(0, _), (1, _), (2, _), (6, _), (7, _), (9, _), (25, _), (26, _), (27, _), (28, _), (29, _), (30, _), (31, _), (32, _), (33, _), (34, _), (35, _), (36, _), (37, _), (38, _), (39, _), (40, _), (41, _), (42, _), (43, _), (44, _), (45, _), (46, _), (47, _), (48, _), (49, _), (50, _), (51, _)] (fun x => [(52, .int .i64 (x.1.length : Int))]) (fun x w => idsOf S.V s = x.1 ++ x.2.1 ∧ (∀ o ∈ x.1, o < id) ∧ (∀ n, HvRel q.rs (mget x.2.2 n) ((mget (d.foldl (cmK id now) S).V n).map (cmP id now s x.1 n))) ∧ Own (Ce p ([.map (some q.bv), .map (some q.bi), .map (some q.bp), .map (some q.bl)], 129) :: Mp EmV q.bv x.2.2 :: Mp EmI q.bi q.mi :: Mp EmP q.bp q.mp :: Mp EmL q.bl (mset ml s id) :: Bag q.rs :: IdsR S.V q.mi :: PlR q.pl q.mp :: F) w) (fun x => x.2.1.length) ([], idsOf S.V s, mv) (.c rfl (.c rfl (.c rfl (.c rfl (.c rfl (.c rfl (.c rfl (.c rfl (.c rfl (.c rfl (.c rfl (.c rfl (.c rfl (.c rfl (.c rfl (.c rfl (.c rfl (.c rfl (.c rfl (.c rfl (.c rfl (.c rfl (.c rfl (.c rfl (.c rfl (.c rfl (.c rfl (.c rfl (.c rfl (.c rfl (.c rfl (.c rfl (.c rfl .n))))))))))))))))))))))))))))))))) (.c rfl .n) ⟨rfl, by simp, fun n => by have h := hq2.v n; rw [show (mget (d.foldl (cmK id now) S).V n).map (cmP id now s [] n) = mget (d.foldl (cmK id now) S).V n by cases mget (d.foldl (cmK id now) S).V n <;> simp [cmP_nil]]; exact h, H.wk⟩ ?_
          rintro ⟨d2, r3, mv2⟩ w ⟨hd2, hlt2, hv2, H⟩
          simp only [List.cons_append, List.nil_append]
          simp only at hd2 hlt2 hv2 H ⊢
          refine cw_seq (fun K16 h16 => ?_)
          refine cw_region (lq_run ?_)
          simp (maxSteps := 500000) (decide := true) (disch := omega) only [EV, ↓reduceIte, Nat.reduceAdd, tt18]
          refine lq_nil ?_
          refine h16 _ _ ?_
          refine cw_seq (fun K17 h17 => ?_)
          refine cw_condB rfl (fun c53 => ?_) (fun c53 => ?_)
          · skip
            try simp only [HB] at c53
            obtain ⟨o, r4, rfl, he2⟩ := zip_more hd2 c53
            refine cw_skip ?_
            refine h17 _ _ ?_
            refine cw_seq (fun K18 h18 => ?_)
            refine cw_block ?_
            refine cw_seq (fun K19 h19 => ?_)
            refine cw_region (lq_run ?_)
            simp (maxSteps := 500000) (decide := true) (disch := omega) only [EV, ↓reduceIte, Nat.reduceAdd, tt18]
            refine lq_idx (i' := d2.length) H rfl rfl hIR (Nat.le_refl _) rfl he2 ?_
            simp (maxSteps := 500000) (decide := true) (disch := omega) only [EV, ↓reduceIte, Nat.reduceAdd, tt18]
            refine lq_loadE H rfl hIR he2 rfl ?_
            simp (maxSteps := 500000) (decide := true) (disch := omega) only [EV, ↓reduceIte, Nat.reduceAdd, tt18]
            refine lq_nil ?_
            refine h19 _ _ ?_
            refine cw_seq (fun K20 h20 => ?_)
            refine cw_seq (fun K21 h21 => ?_)
            refine cw_region (lq_run ?_)
            simp (maxSteps := 500000) (decide := true) (disch := omega) only [EV, ↓reduceIte, Nat.reduceAdd, tt18]
            refine lq_nil ?_
            refine h21 _ _ ?_
            refine cw_condB rfl (fun c58 => ?_) (fun c58 => ?_)
            · skip
              try simp only [HB] at c58
              refine cw_exit ?_
              refine h10 _ _ ?_
              refine cw_region (lq_run ?_)
              simp (maxSteps := 500000) (decide := true) (disch := omega) only [EV, ↓reduceIte, Nat.reduceAdd, tt18]
              refine lq_nil ?_
              try have hr0 : ∀ o' ∈ ([] : List Int), id ≤ o' := by simp
              try
                have hr1 : ∀ o' ∈ o :: r4, id ≤ o' := by
                  intro o' ho'
                  have hri := idsOf_rise s hq.rv
                  rw [hd2] at hri
                  rcases List.mem_cons.1 ho' with rfl | ho'
                  · exact c58
                  · have := (List.pairwise_cons.1 (List.pairwise_append.1 hri).2.1).1 o' ho'
                    have h9 : o < o' := of_decide_eq_true this
                    omega
              first
                | exact Exists.intro (d ++ [s], r2, mv, ml) ⟨⟨(.c (by show look _ 27 = some (.int .i64 (((d ++ [s]).length : Nat) : Int)); rw [List.length_append]; rfl) .n), (.c rfl (.c rfl (.c rfl (.c rfl (.c rfl (.c rfl (.c rfl .n)))))))⟩, ⟨by simp [hd], by rw [List.foldl_append]; show LoOk (cmK id now _ s) _; rw [cmK, if_pos c38]; exact hq2, H.wk⟩, (by simp)⟩
                | exact Exists.intro (d ++ [s], r2, mv2, mset ml s id) ⟨⟨(.c (by show look _ 27 = some (.int .i64 (((d ++ [s]).length : Nat) : Int)); rw [List.length_append]; rfl) .n), (.c rfl (.c rfl (.c rfl (.c rfl (.c rfl (.c rfl (.c rfl .n)))))))⟩, ⟨by simp [hd], by rw [List.foldl_append]; exact LoOk.cm hq2 (Int.not_le.2 c38) (by rw [idsOf_cmF]; exact hd2) hr1 hv2, H.wk⟩, (by simp)⟩
                | exact Exists.intro (d ++ [s], r2, mv2, mset ml s id) ⟨⟨(.c (by show look _ 27 = some (.int .i64 (((d ++ [s]).length : Nat) : Int)); rw [List.length_append]; rfl) .n), (.c rfl (.c rfl (.c rfl (.c rfl (.c rfl (.c rfl (.c rfl .n)))))))⟩, ⟨by simp [hd], by rw [List.foldl_append]; exact LoOk.cm (d := idsOf S.V s) (r := []) hq2 (Int.not_le.2 c38) (by rw [idsOf_cmF, List.append_nil]) hr0 hv2, H.wk⟩, (by simp)⟩
            · skip
              try simp only [HB] at c58
              refine cw_skip ?_
              refine h20 _ _ ?_
              refine cw_seq (fun K22 h22 => ?_)
              refine cw_region (lq_run ?_)
              simp (maxSteps := 500000) (decide := true) (disch := omega) only [EV, ↓reduceIte, Nat.reduceAdd, tt18]
              refine lq_load H rfl ?_
              simp (maxSteps := 500000) (decide := true) (disch := omega) only [EV, ↓reduceIte, Nat.reduceAdd, tt18]
              have hmem : o ∈ idsOf (d.foldl (cmK id now) S).V s := by rw [idsOf_cmF, hd2]; simp
              obtain ⟨h0, hh0⟩ := Option.isSome_iff_exists.1 (idsOf_mem.1 hmem)
              have hno : ¬ o ∈ d2 := by
                have := (idsOf_rise s hq.rv).nodup
                rw [hd2] at this
                exact fun q => (List.nodup_append.1 this).2.2 o q o (by simp) rfl
              have hr0 := hv2 (s, o)
              rw [hh0, Option.map_some, cmP_new hno] at hr0
              obtain ⟨aoh, ch, hmv, hkk⟩ := hr0.get
              refine lq_lookup (E := EmV) (s, o) H rfl rfl ?_
              rw [mval_some hmv, show EmV.ve (h0.val, (aoh, h0.keys.length, ch), h0.stamp) = .agg #[.string h0.val, .slice aoh h0.keys.length ch, .int .i64 h0.stamp] from rfl]
              simp (maxSteps := 500000) (decide := true) (disch := omega) only [EV, ↓reduceIte, Nat.reduceAdd, tt18]
              refine lq_new H (fun b12 w H => ?_)
              try simp only [ES] at H
              simp (maxSteps := 500000) (decide := true) (disch := omega) only [EV, ↓reduceIte, Nat.reduceAdd, tt18]
              refine lq_st H rfl rfl rfl (fun w H => ?_)
              try simp only [ES] at H
              simp (maxSteps := 500000) (decide := true) (disch := omega) only [EV, ↓reduceIte, Nat.reduceAdd, tt18]
              refine lq_nil ?_
              refine h22 _ _ ?_
              refine cw_seq (fun K23 h23 => ?_)
              refine cw_region (lq_run ?_)
              simp (maxSteps := 500000) (decide := true) (disch := omega) only [EV, ↓reduceIte, Nat.reduceAdd, tt18]
              refine lq_load H rfl ?_
              simp (maxSteps := 500000) (decide := true) (disch := omega) only [EV, ↓reduceIte, Nat.reduceAdd, tt18]
              refine lq_nil ?_
              refine h23 _ _ ?_
              refine cw_condB rfl (fun c69 => ?_) (fun c69 => ?_)
              · skip
                try simp only [HB] at c69
                refine cw_seq (fun K24 h24 => ?_)
                refine cw_region (lq_run ?_)
                simp (maxSteps := 500000) (decide := true) (disch := omega) only [EV, ↓reduceIte, Nat.reduceAdd, tt18]
                refine lq_st H rfl rfl rfl (fun w H => ?_)
                try simp only [ES] at H
                simp (maxSteps := 500000) (decide := true) (disch := omega) only [EV, ↓reduceIte, Nat.reduceAdd, tt18]
                refine lq_nil ?_
                refine h24 _ _ ?_
                refine cw_draw [(0, 0), (1, 0), (2, 0), (3, 1), (4, 0), (5, 0), (6, 0), (7, 1), (8, 3)] rfl (by kernel_rfl) (fun c env w => by simp (decide := true) only [EX, not_false_eq_true]) H (fun w H => ?_)
                have H0 := H
                refine dq_run ?_
                simp (maxSteps := 500000) (decide := true) (disch := omega) only [EV, ↓reduceIte, Nat.reduceAdd, tt18]
                refine dq_load H0 rfl ?_
                simp (maxSteps := 500000) (decide := true) (disch := omega) only [EV, ↓reduceIte, Nat.reduceAdd, tt18]
                refine dq_load H0 rfl ?_
                simp (maxSteps := 500000) (decide := true) (disch := omega) only [EV, ↓reduceIte, Nat.reduceAdd, tt18]
                refine dq_act (by decide) rfl ?_
                refine lq_mapUpdate (E := EmV) (s, o) (h0.val, (aoh, h0.keys.length, ch), now) H rfl rfl rfl (fun w H => ?_)
                refine lr_nil ?_
                refine ⟨fun hh => absurd hh (by decide), ?_⟩
                simp (maxSteps := 500000) (decide := true) (disch := omega) only [EV, ↓reduceIte, Nat.reduceAdd, tt18]
                refine dq_nil ?_
                refine h18 _ _ ?_
                refine cw_region (lq_run ?_)
                simp (maxSteps := 500000) (decide := true) (disch := omega) only [EV, ↓reduceIte, Nat.reduceAdd, tt18]
                refine lq_nil ?_
                have hlt3 : ∀ a ∈ d2 ++ [o], a < id := by
                  intro a ha
                  rcases List.mem_append.1 ha with h | h
                  · exact hlt2 a h
                  · simp at h; subst h; exact c58
                first
                  | exact Exists.intro (d2 ++ [o], r4, mset mv2 (s, o) (h0.val, (aoh, h0.keys.length, ch), now)) ⟨⟨(.c (by show look _ 52 = some (.int .i64 (((d2 ++ [o]).length : Nat) : Int)); rw [List.length_append]; rfl) .n), (.c rfl (.c rfl (.c rfl (.c rfl (.c rfl (.c rfl (.c rfl (.c rfl (.c rfl (.c rfl (.c rfl (.c rfl (.c rfl (.c rfl (.c rfl (.c rfl (.c rfl (.c rfl (.c rfl (.c rfl (.c rfl (.c rfl (.c rfl (.c rfl (.c rfl (.c rfl (.c rfl (.c rfl (.c rfl (.c rfl (.c rfl (.c rfl (.c rfl .n)))))))))))))))))))))))))))))))))⟩, ⟨by simp [hd2], hlt3, hv_step hv2 hh0 hkk c58 c69, H.wk⟩, (by simp)⟩
                  | exact Exists.intro (d2 ++ [o], r4, mv2) ⟨⟨(.c (by show look _ 52 = some (.int .i64 (((d2 ++ [o]).length : Nat) : Int)); rw [List.length_append]; rfl) .n), (.c rfl (.c rfl (.c rfl (.c rfl (.c rfl (.c rfl (.c rfl (.c rfl (.c rfl (.c rfl (.c rfl (.c rfl (.c rfl (.c rfl (.c rfl (.c rfl (.c rfl (.c rfl (.c rfl (.c rfl (.c rfl (.c rfl (.c rfl (.c rfl (.c rfl (.c rfl (.c rfl (.c rfl (.c rfl (.c rfl (.c rfl (.c rfl (.c rfl .n)))))))))))))))))))))))))))))))))⟩, ⟨by simp [hd2], hlt3, hv_keep hv2 hh0 hno c58 c69, H.wk⟩, (by simp)⟩
              · skip
                try simp only [HB] at c69
                refine cw_skip ?_
                refine h18 _ _ ?_
                refine cw_region (lq_run ?_)
                simp (maxSteps := 500000) (decide := true) (disch := omega) only [EV, ↓reduceIte, Nat.reduceAdd, tt18]
                refine lq_nil ?_
                have hlt3 : ∀ a ∈ d2 ++ [o], a < id := by
                  intro a ha
                  rcases List.mem_append.1 ha with h | h
                  · exact hlt2 a h
                  · simp at h; subst h; exact c58
                first
                  | exact Exists.intro (d2 ++ [o], r4, mset mv2 (s, o) (h0.val, (aoh, h0.keys.length, ch), now)) ⟨⟨(.c (by show look _ 52 = some (.int .i64 (((d2 ++ [o]).length : Nat) : Int)); rw [List.length_append]; rfl) .n), (.c rfl (.c rfl (.c rfl (.c rfl (.c rfl (.c rfl (.c rfl (.c rfl (.c rfl (.c rfl (.c rfl (.c rfl (.c rfl (.c rfl (.c rfl (.c rfl (.c rfl (.c rfl (.c rfl (.c rfl (.c rfl (.c rfl (.c rfl (.c rfl (.c rfl (.c rfl (.c rfl (.c rfl (.c rfl (.c rfl (.c rfl (.c rfl (.c rfl .n)))))))))))))))))))))))))))))))))⟩, ⟨by simp [hd2], hlt3, hv_step hv2 hh0 hkk c58 c69, H.wk⟩, (by simp)⟩
                  | exact Exists.intro (d2 ++ [o], r4, mv2) ⟨⟨(.c (by show look _ 52 = some (.int .i64 (((d2 ++ [o]).length : Nat) : Int)); rw [List.length_append]; rfl) .n), (.c rfl (.c rfl (.c rfl (.c rfl (.c rfl (.c rfl (.c rfl (.c rfl (.c rfl (.c rfl (.c rfl (.c rfl (.c rfl (.c rfl (.c rfl (.c rfl (.c rfl (.c rfl (.c rfl (.c rfl (.c rfl (.c rfl (.c rfl (.c rfl (.c rfl (.c rfl (.c rfl (.c rfl (.c rfl (.c rfl (.c rfl (.c rfl (.c rfl .n)))))))))))))))))))))))))))))))))⟩, ⟨by simp [hd2], hlt3, hv_keep hv2 hh0 hno c58 c69, H.wk⟩, (by simp)⟩
          · skip
            try simp only [HB] at c53
            obtain ⟨rfl, hdd⟩ := zip_done hd2 c53
            subst hdd
            refine cw_exit ?_
            refine h10 _ _ ?_
            refine cw_region (lq_run ?_)
            simp (maxSteps := 500000) (decide := true) (disch := omega) only [EV, ↓reduceIte, Nat.reduceAdd, tt18]
            refine lq_nil ?_
            try have hr0 : ∀ o' ∈ ([] : List Int), id ≤ o' := by simp
            try
              have hr1 : ∀ o' ∈ o :: r4, id ≤ o' := by
                intro o' ho'
                have hri := idsOf_rise s hq.rv
                rw [hd2] at hri
                rcases List.mem_cons.1 ho' with rfl | ho'
                · exact c58
                · have := (List.pairwise_cons.1 (List.pairwise_append.1 hri).2.1).1 o' ho'
                  have h9 : o < o' := of_decide_eq_true this
                  omega
            first
              | exact Exists.intro (d ++ [s], r2, mv, ml) ⟨⟨(.c (by show look _ 27 = some (.int .i64 (((d ++ [s]).length : Nat) : Int)); rw [List.length_append]; rfl) .n), (.c rfl (.c rfl (.c rfl (.c rfl (.c rfl (.c rfl (.c rfl .n)))))))⟩, ⟨by simp [hd], by rw [List.foldl_append]; show LoOk (cmK id now _ s) _; rw [cmK, if_pos c38]; exact hq2, H.wk⟩, (by simp)⟩
              | exact Exists.intro (d ++ [s], r2, mv2, mset ml s id) ⟨⟨(.c (by show look _ 27 = some (.int .i64 (((d ++ [s]).length : Nat) : Int)); rw [List.length_append]; rfl) .n), (.c rfl (.c rfl (.c rfl (.c rfl (.c rfl (.c rfl (.c rfl .n)))))))⟩, ⟨by simp [hd], by rw [List.foldl_append]; exact LoOk.cm hq2 (Int.not_le.2 c38) (by rw [idsOf_cmF]; exact hd2) hr1 hv2, H.wk⟩, (by simp)⟩
              | exact Exists.intro (d ++ [s], r2, mv2, mset ml s id) ⟨⟨(.c (by show look _ 27 = some (.int .i64 (((d ++ [s]).length : Nat) : Int)); rw [List.length_append]; rfl) .n), (.c rfl (.c rfl (.c rfl (.c rfl (.c rfl (.c rfl (.c rfl .n)))))))⟩, ⟨by simp [hd], by rw [List.foldl_append]; exact LoOk.cm (d := idsOf S.V s) (r := []) hq2 (Int.not_le.2 c38) (by rw [idsOf_cmF, List.append_nil]) hr0 hv2, H.wk⟩, (by simp)⟩
      · skip
        try simp only [HB] at c28
        obtain ⟨rfl, hdd⟩ := zip_done hd c28
        refine cw_exit ?_
        refine h6 _ _ ?_
        refine cw_seq (fun K25 h25 => ?_)
        refine cw_region (lq_run ?_)
        simp (maxSteps := 500000) (decide := true) (disch := omega) only [EV, ↓reduceIte, Nat.reduceAdd, tt18]
        refine lq_load H rfl ?_
        simp (maxSteps := 500000) (decide := true) (disch := omega) only [EV, ↓reduceIte, Nat.reduceAdd, tt18]
        refine lq_lookup (E := EmP) id H rfl rfl ?_
        rw [hpv]
        simp (maxSteps := 500000) (decide := true) (disch := omega) only [EV, ↓reduceIte, Nat.reduceAdd, tt18]
        refine lq_nil ?_
        refine h25 _ _ ?_
        refine cw_ret ?_
        try simp (decide := true) only [EX, ↓reduceIte]
        refine ret2 rfl rfl ?_
        have hsame : (q.pl id).foldl (cmK id now) S = commitS id now S := cmF_same (hq.pn id) (cmL_nodup hq.rv) hq.rv hq.rl (fun a => by rw [hq.p, cmL_mem])
        have hlen : (q.pl id).length = (cmL id S).length := Nat.le_antisymm (nodup_len (hq.pn id) (fun a ha => cmL_mem.2 ((hq.p id a).1 ha))) (nodup_len (cmL_nodup hq.rv) (fun a ha => (hq.p id a).2 (cmL_mem.1 ha)))
        subst hdd
        refine .inl ⟨⟨g15, c19⟩, by rw [hlen], ?_⟩
        rw [← hsame]
        have H1 := Own.bigSame (f' := fun e => Os 43 encI (slv e.2) (idsOf (List.foldl (cmK id now) S (q.pl id)).V e.1)) (H.tkR (R := IdsR) (k := S.V)) (fun e he => by rw [idsOf_cmF])
        have H2 := Own.bigSame (f' := fun e => Os 9 encS (slv e.2) (q.pl e.1)) (H1.tkR (R := PlR) (k := q.pl)) (fun e he => rfl)
        exact H2.stC2 hq2
end Go.Rp
set_option linter.unusedVariables false
set_option linter.unusedSimpArgs false
set_option maxHeartbeats 1000000
set_option maxRecDepth 100000
namespace Go.Rp
open Go.Proofs
instance iW21_0 : FnOk Tryz.prog 111 := ⟨⟨Tryz.f111, Tryz.func111, by kernel_rfl, by kernel_rfl⟩⟩
instance iW21_1 : FnOk Tryz.prog 112 := ⟨⟨Tryz.f112, Tryz.func112, by kernel_rfl, by kernel_rfl⟩⟩
instance iW21_2 : FnOk Tryz.prog 63 := ⟨⟨Tryz.f63, Tryz.func63, by kernel_rfl, by kernel_rfl⟩⟩
instance iW21_3 : MpT Tryz.prog 96 9 43 := ⟨by kernel_rfl⟩
instance iW21_4 : SzT Tryz.prog 46 4 := ⟨by kernel_rfl⟩
instance iW21_5 : ZvT Tryz.prog 43 (.int .u64 0) := ⟨by kernel_rfl⟩
instance iW21_6 : ZvT Tryz.prog 46 (.agg #[(.string ByteArray.empty), (.int .u64 0), (.string ByteArray.empty), (.slice none 0 0)]) := ⟨by kernel_rfl⟩
theorem tt99 : (AG Tryz.prog 2 = some false) ∧ (AG Tryz.prog 43 = some false) ∧ (AG Tryz.prog 44 = some false) ∧ (AG Tryz.prog 46 = some true) ∧ (AG Tryz.prog 9 = some false) ∧ (AG Tryz.prog 96 = some false) ∧ (FO Tryz.prog 129 3 = some 3) ∧ (FO Tryz.prog 46 0 = some 0) ∧ (FO Tryz.prog 46 1 = some 1) ∧ (FO Tryz.prog 46 2 = some 2) ∧ (FO Tryz.prog 46 3 = some 3) ∧ (FO Tryz.prog 48 0 = some 0) ∧ (FO Tryz.prog 48 1 = some 4) ∧ (LK Tryz.prog 9 = some 0) ∧ (SZ Tryz.prog 46 = some 4) := ⟨by kernel_rfl, by kernel_rfl, by kernel_rfl, by kernel_rfl, by kernel_rfl, by kernel_rfl, by kernel_rfl, by kernel_rfl, by kernel_rfl, by kernel_rfl, by kernel_rfl, by kernel_rfl, by kernel_rfl, by kernel_rfl, by kernel_rfl⟩

def LoadsP (S : Sto) (k : ByteArray) (id : Int) (val : ByteArray) (ks : List ByteArray) (stamp : Int) : Prop :=
  65536 ≤ id ∧ RisingP ks ∧ k ∈ ks ∧ val.size ≤ 65535 ∧ (if id < lastOf S k then 0 ≤ stamp ∧ stamp ≤ 1099511627776 else stamp = -1)
theorem loads_ok {p : Nat} {S : Sto} {k val : ByteArray} {id stamp : Int} {ao : Option Addr} {n c : Nat} {ks : List ByteArray} {F : List HP} {w : World} (H : Own (StoreAt p S :: F) w) (hR : Ent F (Row ao encS ks)) (hn : n = ks.length) (hb : ks.length ≤ 1099511627776) :
  Cl Tryz.prog 99 #[.pointer (some ⟨p, 0, none⟩), .agg #[.string k, .int .u64 id, .string val, .slice ao n c, .int .i64 stamp]] w fun v w' => ∃ b, v = .bool b ∧ (b = true ↔ LoadsP S k id val ks stamp) ∧ Own (StoreAt p S :: F) w' := by
  subst hn
  refine cl_of_cw Tryz.func99 rfl ?_
  simp only [Tryz.ntmps99, envA, List.size_toArray, List.length_cons, List.length_nil, Nat.reduceAdd, Nat.reduceSub]
  refine cw_seq (fun K1 h1 => ?_)
  refine cw_region (lq_run ?_)
  simp (maxSteps := 500000) (decide := true) (disch := omega) only [EV, ↓reduceIte, Nat.reduceAdd, tt99]
  refine lq_box H rfl (fun b3 w H => ?_)
  try simp only [ES] at H
  simp (maxSteps := 500000) (decide := true) (disch := omega) only [EV, ↓reduceIte, Nat.reduceAdd, tt99]
  refine lq_nil ?_
  refine h1 _ _ ?_
  refine cw_seq (fun K2 h2 => ?_)
  refine cw_region (lq_run ?_)
  simp (maxSteps := 500000) (decide := true) (disch := omega) only [EV, ↓reduceIte, Nat.reduceAdd, tt99]
  refine lq_load H rfl ?_
  simp (maxSteps := 500000) (decide := true) (disch := omega) only [EV, ↓reduceIte, Nat.reduceAdd, tt99]
  refine lq_new H (fun b5 w H => ?_)
  try simp only [ES] at H
  simp (maxSteps := 500000) (decide := true) (disch := omega) only [EV, ↓reduceIte, Nat.reduceAdd, tt99]
  refine lq_st H rfl rfl rfl (fun w H => ?_)
  try simp only [ES] at H
  simp (maxSteps := 500000) (decide := true) (disch := omega) only [EV, ↓reduceIte, Nat.reduceAdd, tt99]
  refine lq_nil ?_
  refine h2 _ _ ?_
  refine cw_seq (fun K3 h3 => ?_)
  refine cw_seq (fun K4 h4 => ?_)
  refine cw_region (lq_run ?_)
  simp (maxSteps := 500000) (decide := true) (disch := omega) only [EV, ↓reduceIte, Nat.reduceAdd, tt99]
  refine lq_load H rfl ?_
  simp (maxSteps := 500000) (decide := true) (disch := omega) only [EV, ↓reduceIte, Nat.reduceAdd, tt99]
  refine lq_G (fun g11 => ?_) (fun g11 => ?_)
  · try simp only [HB] at g11
    simp (maxSteps := 500000) (decide := true) (disch := omega) only [EV, ↓reduceIte, Nat.reduceAdd, tt99]
    refine lq_nil ?_
    refine h4 _ _ ?_
    refine cw_condT rfl ?_
    refine cw_seq (fun K5 h5 => ?_)
    refine cw_region (lq_run ?_)
    simp (maxSteps := 500000) (decide := true) (disch := omega) only [EV, ↓reduceIte, Nat.reduceAdd, tt99]
    refine lq_nil ?_
    refine h5 _ _ ?_
    refine cw_ret ?_
    try simp (decide := true) only [EX, ↓reduceIte]
    refine ret1 rfl ?_
    exact ⟨false, rfl, ⟨nofun, fun h => by have := h.1; omega⟩, H.wk⟩
  · try simp only [HB] at g11
    simp (maxSteps := 500000) (decide := true) (disch := omega) only [EV, ↓reduceIte, Nat.reduceAdd, tt99]
    refine lq_load H rfl ?_
    simp (maxSteps := 500000) (decide := true) (disch := omega) only [EV, ↓reduceIte, Nat.reduceAdd, tt99]
    refine lq_call rfl ?_
    refine Cl.mono (rising_ok H hR.up rfl hb) ?_
    rintro _ w ⟨b1, rfl, hb1, H⟩
    simp (maxSteps := 500000) (decide := true) (disch := omega) only [EV, ↓reduceIte, Nat.reduceAdd, tt99]
    refine lq_G (fun g17 => ?_) (fun g17 => ?_)
    · try simp only [HB] at g17
      simp (maxSteps := 500000) (decide := true) (disch := omega) only [EV, ↓reduceIte, Nat.reduceAdd, tt99]
      refine lq_nil ?_
      refine h4 _ _ ?_
      refine cw_condT rfl ?_
      refine cw_seq (fun K6 h6 => ?_)
      refine cw_region (lq_run ?_)
      simp (maxSteps := 500000) (decide := true) (disch := omega) only [EV, ↓reduceIte, Nat.reduceAdd, tt99]
      refine lq_nil ?_
      refine h6 _ _ ?_
      refine cw_ret ?_
      try simp (decide := true) only [EX, ↓reduceIte]
      refine ret1 rfl ?_
      exact ⟨false, rfl, ⟨nofun, fun h => by rw [hb1.2 h.2.1] at g17; cases g17⟩, H.wk⟩
    · try simp only [HB] at g17
      simp (maxSteps := 500000) (decide := true) (disch := omega) only [EV, ↓reduceIte, Nat.reduceAdd, tt99]
      refine lq_load H rfl ?_
      simp (maxSteps := 500000) (decide := true) (disch := omega) only [EV, ↓reduceIte, Nat.reduceAdd, tt99]
      refine lq_load H rfl ?_
      simp (maxSteps := 500000) (decide := true) (disch := omega) only [EV, ↓reduceIte, Nat.reduceAdd, tt99]
      have g11x : b1 = true := by simpa using g17
      refine lq_call rfl ?_
      refine Cl.mono (has_ok H hR.up rfl hb (hb1.1 g11x).1.2) ?_
      rintro _ w ⟨rfl, H⟩
      simp (maxSteps := 500000) (decide := true) (disch := omega) only [EV, ↓reduceIte, Nat.reduceAdd, tt99]
      refine lq_G (fun g25 => ?_) (fun g25 => ?_)
      · try simp only [HB] at g25
        simp (maxSteps := 500000) (decide := true) (disch := omega) only [EV, ↓reduceIte, Nat.reduceAdd, tt99]
        refine lq_nil ?_
        refine h4 _ _ ?_
        refine cw_condT rfl ?_
        refine cw_seq (fun K7 h7 => ?_)
        refine cw_region (lq_run ?_)
        simp (maxSteps := 500000) (decide := true) (disch := omega) only [EV, ↓reduceIte, Nat.reduceAdd, tt99]
        refine lq_nil ?_
        refine h7 _ _ ?_
        refine cw_ret ?_
        try simp (decide := true) only [EX, ↓reduceIte]
        refine ret1 rfl ?_
        exact ⟨false, rfl, ⟨nofun, fun h => absurd h.2.2.1 (memB_no.1 g25)⟩, H.wk⟩
      · try simp only [HB] at g25
        simp (maxSteps := 500000) (decide := true) (disch := omega) only [EV, ↓reduceIte, Nat.reduceAdd, tt99]
        refine lq_load H rfl ?_
        simp (maxSteps := 500000) (decide := true) (disch := omega) only [EV, ↓reduceIte, Nat.reduceAdd, tt99]
        refine lq_nil ?_
        refine h4 _ _ ?_
        refine cw_condB rfl (fun c30 => ?_) (fun c30 => ?_)
        · skip
          try simp only [HB] at c30
          refine cw_seq (fun K8 h8 => ?_)
          refine cw_region (lq_run ?_)
          simp (maxSteps := 500000) (decide := true) (disch := omega) only [EV, ↓reduceIte, Nat.reduceAdd, tt99]
          refine lq_nil ?_
          refine h8 _ _ ?_
          refine cw_ret ?_
          try simp (decide := true) only [EX, ↓reduceIte]
          refine ret1 rfl ?_
          exact ⟨false, rfl, ⟨nofun, fun h => by have := h.2.2.2.1; omega⟩, H.wk⟩
        · skip
          try simp only [HB] at c30
          refine cw_skip ?_
          refine h3 _ _ ?_
          refine cw_seq (fun K9 h9 => ?_)
          refine cw_seq (fun K10 h10 => ?_)
          obtain ⟨q, hq, H⟩ := (H.tkR (R := StoreAt) (k := p)).stO
          refine cw_draw [(0, 0), (1, 1), (2, 0), (3, 0), (4, 0), (5, 1), (6, 0), (7, 1), (8, 1), (9, 0)] rfl (by kernel_rfl) (fun c env w => by simp (decide := true) only [EX, not_false_eq_true]) H (fun w H => ?_)
          have H0 := H
          refine dq_run ?_
          simp (maxSteps := 500000) (decide := true) (disch := omega) only [EV, ↓reduceIte, Nat.reduceAdd, tt99]
          refine dq_load H0 rfl ?_
          simp (maxSteps := 500000) (decide := true) (disch := omega) only [EV, ↓reduceIte, Nat.reduceAdd, tt99]
          refine dq_load H0 rfl ?_
          simp (maxSteps := 500000) (decide := true) (disch := omega) only [EV, ↓reduceIte, Nat.reduceAdd, tt99]
          refine dq_load H0 rfl ?_
          simp (maxSteps := 500000) (decide := true) (disch := omega) only [EV, ↓reduceIte, Nat.reduceAdd, tt99]
          refine dq_lookup (E := EmL) k H0 rfl rfl ?_
          rw [mval_last hq]
          simp (maxSteps := 500000) (decide := true) (disch := omega) only [EV, ↓reduceIte, Nat.reduceAdd, tt99]
          refine dq_nil ?_
          refine h10 _ _ ?_
          refine cw_condB rfl (fun c40 => ?_) (fun c40 => ?_)
          · skip
            try simp only [HB] at c40
            refine cw_seq (fun K11 h11 => ?_)
            refine cw_region (lq_run ?_)
            simp (maxSteps := 500000) (decide := true) (disch := omega) only [EV, ↓reduceIte, Nat.reduceAdd, tt99]
            refine lq_load H rfl ?_
            simp (maxSteps := 500000) (decide := true) (disch := omega) only [EV, ↓reduceIte, Nat.reduceAdd, tt99]
            refine lq_call rfl ?_
            refine Cl.mono (tick_ok H) ?_
            rintro _ w ⟨rfl, H⟩
            simp (maxSteps := 500000) (decide := true) (disch := omega) only [EV, ↓reduceIte, Nat.reduceAdd, tt99]
            refine lq_nil ?_
            refine h11 _ _ ?_
            refine cw_ret ?_
            try simp (decide := true) only [EX, ↓reduceIte]
            refine ret1 rfl ?_
            refine ⟨_, rfl, ⟨fun h => ⟨g11, hb1.1 g17, memB_iff.1 g25, by omega, by rw [if_pos c40]; exact of_decide_eq_true h⟩, fun h => decide_eq_true (by have := h.2.2.2.2; rwa [if_pos c40] at this)⟩, H.stC q hq⟩
          · skip
            try simp only [HB] at c40
            refine cw_skip ?_
            refine h9 _ _ ?_
            refine cw_seq (fun K12 h12 => ?_)
            refine cw_region (lq_run ?_)
            simp (maxSteps := 500000) (decide := true) (disch := omega) only [EV, ↓reduceIte, Nat.reduceAdd, tt99]
            refine lq_load H rfl ?_
            simp (maxSteps := 500000) (decide := true) (disch := omega) only [EV, ↓reduceIte, Nat.reduceAdd, tt99]
            refine lq_nil ?_
            refine h12 _ _ ?_
            refine cw_ret ?_
            try simp (decide := true) only [EX, ↓reduceIte]
            refine ret1 rfl ?_
            refine ⟨_, rfl, ⟨fun h => ⟨g11, hb1.1 g17, memB_iff.1 g25, by omega, by rw [if_neg (Int.not_lt.2 c40)]; exact of_decide_eq_true h⟩, fun h => decide_eq_true (by have := h.2.2.2.2; rwa [if_neg (Int.not_lt.2 c40)] at this)⟩, H.stC q hq⟩
end Go.Rp
