/-
  Sorts; Lasts and Kept.
-/
import Derived.Test.YtidoehfmbnngpaaGreatProg
import Derived.Shelf.SlGeneric
import Derived.Ground.SlsfProg
import Derived.Ground.SlgnProg
import Derived.Shelf.SlSortCmp.NoneTotal
import Derived.Shelf.SortG.Plain
import Derived.Shelf.SortG.SortNone
import Derived.Test.YtidoehfmbnngpaaGreatPg
set_option linter.unusedVariables false
set_option linter.unusedSimpArgs false
set_option maxHeartbeats 1000000
set_option maxRecDepth 100000
namespace Go.Rp
open Go.Proofs

end Go.Rp
namespace Go.Proofs
open Go.Shelf

def Tryz.layK_ren : Go.Shelf.Ren := ⟨fun | 6 => 103 | 15 => 156 | 14 => 155 | 28 => 197 | 29 => 198 | 20 => 189 | 21 => 190 | 22 => 191 | 23 => 192 | 24 => 193 | 25 => 194 | 26 => 195 | 27 => 196 | 46 => 223 | 47 => 224 | 48 => 225 | 49 => 226 | 50 => 227 | 57 => 237 | n => n, fun | 22 => 116 | 24 => 119 | 25 => 130 | 3 => 3 | 39 => 179 | 0 => 0 | 53 => 89 | 55 => 42 | 4 => 4 | 46 => 265 | 45 => 264 | 50 => 184 | 5 => 5 | 9 => 9 | 66 => 285 | 70 => 288 | 76 => 294 | 77 => 295 | n => n, fun | n => n⟩
theorem Tryz.layK : Go.Proofs.SlLaysF0.n6 Tryz.prog Tryz.layK_ren := {
  mixed := by kernel_rfl
  f6 := ⟨Tryz.f103.name, by decide, Tryz.func103.trans (congrArg some (by kernel_rfl))⟩
  f14 := ⟨Tryz.f155.name, by decide, Tryz.func155.trans (congrArg some (by kernel_rfl))⟩
  f15 := Tryz.func156.trans (congrArg some (by kernel_rfl))
  f20 := ⟨Tryz.f189.name, by decide, Tryz.func189.trans (congrArg some (by kernel_rfl))⟩
  f21 := ⟨Tryz.f190.name, by decide, Tryz.func190.trans (congrArg some (by kernel_rfl))⟩
  f22 := ⟨Tryz.f191.name, by decide, Tryz.func191.trans (congrArg some (by kernel_rfl))⟩
  f23 := ⟨Tryz.f192.name, by decide, Tryz.func192.trans (congrArg some (by kernel_rfl))⟩
  f24 := ⟨Tryz.f193.name, by decide, Tryz.func193.trans (congrArg some (by kernel_rfl))⟩
  f25 := ⟨Tryz.f194.name, by decide, Tryz.func194.trans (congrArg some (by kernel_rfl))⟩
  f26 := ⟨Tryz.f195.name, by decide, Tryz.func195.trans (congrArg some (by kernel_rfl))⟩
  f27 := ⟨Tryz.f196.name, by decide, Tryz.func196.trans (congrArg some (by kernel_rfl))⟩
  f28 := Tryz.func197.trans (congrArg some (by kernel_rfl))
  f29 := Tryz.func198.trans (congrArg some (by kernel_rfl))
  f46 := ⟨Tryz.f223.name, by decide, Tryz.func223.trans (congrArg some (by kernel_rfl))⟩
  f47 := Tryz.func224.trans (congrArg some (by kernel_rfl))
  f48 := Tryz.func225.trans (congrArg some (by kernel_rfl))
  f49 := ⟨Tryz.f226.name, by decide, Tryz.func226.trans (congrArg some (by kernel_rfl))⟩
  f50 := ⟨Tryz.f227.name, by decide, Tryz.func227.trans (congrArg some (by kernel_rfl))⟩
  f57 := ⟨Tryz.f237.name, by decide, Tryz.func237.trans (congrArg some (by kernel_rfl))⟩
  t0 := Tryz.underlying0
  a0 := Tryz.isAgg0
  z0 := Tryz.sizeOf0
  v0 := Tryz.zeroValue0
  t3 := Tryz.underlying3
  a3 := Tryz.isAgg3
  z3 := Tryz.sizeOf3
  v3 := Tryz.zeroValue3
  t4 := Tryz.underlying4
  a4 := Tryz.isAgg4
  z4 := Tryz.sizeOf4
  v4 := Tryz.zeroValue4
  t5 := Tryz.underlying5
  a5 := Tryz.isAgg5
  z5 := Tryz.sizeOf5
  v5 := Tryz.zeroValue5
  t9 := Tryz.underlying9
  a9 := Tryz.isAgg9
  z9 := Tryz.sizeOf9
  v9 := Tryz.zeroValue9
  t22 := Tryz.underlying116
  a22 := Tryz.isAgg116
  z22 := Tryz.sizeOf116
  v22 := Tryz.zeroValue116
  t25 := Tryz.underlying130
  a25 := Tryz.isAgg130
  z25 := Tryz.sizeOf130
  v25 := Tryz.zeroValue130
  t39 := Tryz.underlying179
  a39 := Tryz.isAgg179
  z39 := Tryz.sizeOf179
  v39 := Tryz.zeroValue179
  t45 := Tryz.underlying264
  a45 := Tryz.isAgg264
  z45 := Tryz.sizeOf264
  v45 := Tryz.zeroValue264
  t46 := Tryz.underlying265
  a46 := Tryz.isAgg265
  z46 := Tryz.sizeOf265
  v46 := Tryz.zeroValue265
  t50 := Tryz.underlying184
  a50 := Tryz.isAgg184
  z50 := Tryz.sizeOf184
  v50 := Tryz.zeroValue184
  t53 := Tryz.underlying89
  a53 := Tryz.isAgg89
  z53 := Tryz.sizeOf89
  v53 := Tryz.zeroValue89
  t55 := Tryz.underlying42
  a55 := Tryz.isAgg42
  z55 := Tryz.sizeOf42
  v55 := Tryz.zeroValue42
  t66 := Tryz.underlying285
  a66 := Tryz.isAgg285
  z66 := Tryz.sizeOf285
  v66 := Tryz.zeroValue285
  t70 := Tryz.underlying288
  a70 := Tryz.isAgg288
  z70 := Tryz.sizeOf288
  v70 := Tryz.zeroValue288
  t76 := Tryz.underlying294
  a76 := Tryz.isAgg294
  z76 := Tryz.sizeOf294
  v76 := Tryz.zeroValue294
  t77 := Tryz.underlying295
  a77 := Tryz.isAgg295
  z77 := Tryz.sizeOf295
  v77 := Tryz.zeroValue295 }
def Tryz.layS_ren : Go.Shelf.Ren := ⟨fun | 54 => 109 | 64 => 156 | 65 => 160 | 78 => 197 | 79 => 198 | 80 => 199 | 81 => 200 | 82 => 201 | 83 => 202 | 84 => 203 | 85 => 204 | 61 => 205 | 86 => 206 | 87 => 207 | 93 => 228 | 89 => 224 | 90 => 225 | 94 => 229 | 95 => 230 | 69 => 157 | 97 => 238 | n => n, fun | 25 => 44 | 26 => 9 | 3 => 3 | 51 => 179 | 0 => 0 | 67 => 89 | 69 => 42 | 4 => 4 | 61 => 265 | 60 => 264 | 44 => 184 | 5 => 5 | 9 => 9 | 75 => 285 | 79 => 288 | 83 => 294 | 84 => 295 | n => n, fun | n => n⟩
theorem Tryz.layS : Go.Proofs.SlLaysN.n54 Tryz.prog Tryz.layS_ren := {
  mixed := by kernel_rfl
  f54 := ⟨Tryz.f109.name, by decide, Tryz.func109.trans (congrArg some (by kernel_rfl))⟩
  f61 := ⟨Tryz.f205.name, by decide, Tryz.func205.trans (congrArg some (by kernel_rfl))⟩
  f64 := Tryz.func156.trans (congrArg some (by kernel_rfl))
  f65 := ⟨Tryz.f160.name, by decide, Tryz.func160.trans (congrArg some (by kernel_rfl))⟩
  f69 := ⟨Tryz.f157.name, by decide, Tryz.func157.trans (congrArg some (by kernel_rfl))⟩
  f78 := Tryz.func197.trans (congrArg some (by kernel_rfl))
  f79 := Tryz.func198.trans (congrArg some (by kernel_rfl))
  f80 := ⟨Tryz.f199.name, by decide, Tryz.func199.trans (congrArg some (by kernel_rfl))⟩
  f81 := ⟨Tryz.f200.name, by decide, Tryz.func200.trans (congrArg some (by kernel_rfl))⟩
  f82 := ⟨Tryz.f201.name, by decide, Tryz.func201.trans (congrArg some (by kernel_rfl))⟩
  f83 := ⟨Tryz.f202.name, by decide, Tryz.func202.trans (congrArg some (by kernel_rfl))⟩
  f84 := ⟨Tryz.f203.name, by decide, Tryz.func203.trans (congrArg some (by kernel_rfl))⟩
  f85 := ⟨Tryz.f204.name, by decide, Tryz.func204.trans (congrArg some (by kernel_rfl))⟩
  f86 := ⟨Tryz.f206.name, by decide, Tryz.func206.trans (congrArg some (by kernel_rfl))⟩
  f87 := ⟨Tryz.f207.name, by decide, Tryz.func207.trans (congrArg some (by kernel_rfl))⟩
  f89 := Tryz.func224.trans (congrArg some (by kernel_rfl))
  f90 := Tryz.func225.trans (congrArg some (by kernel_rfl))
  f93 := ⟨Tryz.f228.name, by decide, Tryz.func228.trans (congrArg some (by kernel_rfl))⟩
  f94 := ⟨Tryz.f229.name, by decide, Tryz.func229.trans (congrArg some (by kernel_rfl))⟩
  f95 := ⟨Tryz.f230.name, by decide, Tryz.func230.trans (congrArg some (by kernel_rfl))⟩
  f97 := ⟨Tryz.f238.name, by decide, Tryz.func238.trans (congrArg some (by kernel_rfl))⟩
  t0 := Tryz.underlying0
  a0 := Tryz.isAgg0
  z0 := Tryz.sizeOf0
  v0 := Tryz.zeroValue0
  t3 := Tryz.underlying3
  a3 := Tryz.isAgg3
  z3 := Tryz.sizeOf3
  v3 := Tryz.zeroValue3
  t4 := Tryz.underlying4
  a4 := Tryz.isAgg4
  z4 := Tryz.sizeOf4
  v4 := Tryz.zeroValue4
  t5 := Tryz.underlying5
  a5 := Tryz.isAgg5
  z5 := Tryz.sizeOf5
  v5 := Tryz.zeroValue5
  t9 := Tryz.underlying9
  a9 := Tryz.isAgg9
  z9 := Tryz.sizeOf9
  v9 := Tryz.zeroValue9
  t25 := Tryz.underlying44
  a25 := Tryz.isAgg44
  z25 := Tryz.sizeOf44
  v25 := Tryz.zeroValue44
  t26 := Tryz.underlying9
  a26 := Tryz.isAgg9
  z26 := Tryz.sizeOf9
  v26 := Tryz.zeroValue9
  t44 := Tryz.underlying184
  a44 := Tryz.isAgg184
  z44 := Tryz.sizeOf184
  v44 := Tryz.zeroValue184
  t51 := Tryz.underlying179
  a51 := Tryz.isAgg179
  z51 := Tryz.sizeOf179
  v51 := Tryz.zeroValue179
  t60 := Tryz.underlying264
  a60 := Tryz.isAgg264
  z60 := Tryz.sizeOf264
  v60 := Tryz.zeroValue264
  t61 := Tryz.underlying265
  a61 := Tryz.isAgg265
  z61 := Tryz.sizeOf265
  v61 := Tryz.zeroValue265
  t67 := Tryz.underlying89
  a67 := Tryz.isAgg89
  z67 := Tryz.sizeOf89
  v67 := Tryz.zeroValue89
  t69 := Tryz.underlying42
  a69 := Tryz.isAgg42
  z69 := Tryz.sizeOf42
  v69 := Tryz.zeroValue42
  t75 := Tryz.underlying285
  a75 := Tryz.isAgg285
  z75 := Tryz.sizeOf285
  v75 := Tryz.zeroValue285
  t79 := Tryz.underlying288
  a79 := Tryz.isAgg288
  z79 := Tryz.sizeOf288
  v79 := Tryz.zeroValue288
  t83 := Tryz.underlying294
  a83 := Tryz.isAgg294
  z83 := Tryz.sizeOf294
  v83 := Tryz.zeroValue294
  t84 := Tryz.underlying295
  a84 := Tryz.isAgg295
  z84 := Tryz.sizeOf295
  v84 := Tryz.zeroValue295 }

end Go.Proofs
namespace Go.Rp
open Go.Proofs

open Go.Sort
theorem swo_of {κ : Type} [Lt κ] (lt : κ → κ → Bool) (h : ∀ a b, lt a b = Lt.lt a b) : SWO lt where
  irrefl x := by rw [h]; exact Lt.irr x
  trans x y z h1 h2 := by rw [h] at *; exact Lt.tr h1 h2
  ntrans x y z h1 h2 := by
    rw [h] at *
    rcases Lt.tri x z with q | q | q
    · rcases Lt.tri y z with r | r | r
      · rw [r] at h2; cases h2
      · subst r; rw [q] at h1; cases h1
      · have := Lt.tr q r; rw [this] at h1; cases h1
    · subst q; exact Lt.irr _
    · exact Lt.asy q
theorem ltN (a b : Nm) : ltOf cmpN a b = Lt.lt a b := by
  unfold ltOf
  rw [Bool.eq_iff_iff, decide_eq_true_eq]; exact cmpN_neg a b
/-- In order, of whatever elements. -/
def Ord {κ : Type} [Lt κ] (l : List κ) : Prop := l.Pairwise (fun a b => Lt.lt b a = false)
theorem Ord.rise {κ : Type} [Lt κ] : ∀ {l : List κ}, Ord l → l.Nodup → Rise l
  | [], _, _ => .nil
  | a :: l, h, hn => by
    have h' := List.pairwise_cons.1 h
    have hn' := List.nodup_cons.1 hn
    refine List.pairwise_cons.2 ⟨fun b hb => ?_, Ord.rise h'.2 hn'.2⟩
    rcases Lt.tri a b with q | q | q
    · exact q
    · exact absurd (q ▸ hb) hn'.1
    · rw [h'.1 b hb] at q; cases q
theorem sortedIn_ord {κ : Type} [Inhabited κ] [Lt κ] {lt : κ → κ → Bool} (hl : ∀ a b, lt a b = Lt.lt a b) {d : Array κ} (h : SortedIn lt 0 d.size d) : Ord d.toList := by
  unfold Ord
  rw [List.pairwise_iff_getElem]
  intro i j hi hj hij
  have := h i j (Nat.zero_le _) hij (by simpa using hj)
  rw [hl] at this
  rw [getElem!_pos d i (by simpa using hi), getElem!_pos d j (by simpa using hj)] at this
  simpa using this
theorem permIn_perm {κ : Type} [Inhabited κ] {d d' : Array κ} (h : PermIn 0 d.size d d') : d'.toList.Perm d.toList := by
  have h1 := h.2.2
  have hs := h.1
  rw [← hs] at h1
  rw [Array.extract_size] at h1
  rw [hs, Array.extract_size] at h1
  exact h1
instance : Inhabited Nm := ⟨(ByteArray.empty, 0)⟩
end Go.Rp
set_option linter.unusedVariables false
set_option linter.unusedSimpArgs false
set_option maxHeartbeats 1000000
set_option maxRecDepth 100000
namespace Go.Rp
open Go.Proofs
instance iW28_0 : FnOk Tryz.prog 102 := ⟨⟨Tryz.f102, Tryz.func102, by kernel_rfl, by kernel_rfl⟩⟩
instance iW28_1 : FnOk Tryz.prog 103 := ⟨⟨Tryz.f103, Tryz.func103, by kernel_rfl, by kernel_rfl⟩⟩
instance iW28_2 : FnOk Tryz.prog 108 := ⟨⟨Tryz.f108, Tryz.func108, by kernel_rfl, by kernel_rfl⟩⟩
instance iW28_3 : FnOk Tryz.prog 109 := ⟨⟨Tryz.f109, Tryz.func109, by kernel_rfl, by kernel_rfl⟩⟩
instance iW28_4 : FnOk Tryz.prog 154 := ⟨⟨Tryz.f154, Tryz.func154, by kernel_rfl, by kernel_rfl⟩⟩
instance iW28_5 : FnOk Tryz.prog 159 := ⟨⟨Tryz.f159, Tryz.func159, by kernel_rfl, by kernel_rfl⟩⟩
theorem tt102 : (True) := trivial
theorem tt108 : (True) := trivial
theorem tt55 : (True) := trivial
theorem tt60 : (True) := trivial

theorem enter_of {P : Program} {f : FuncId} (hf : FnOk P f) : ∀ args w, (callFunc f args).run P w = .ok (.enter f args) w := by
  obtain ⟨fn, h1, h2, h3⟩ := hf.out
  intro args w
  have h2' : ¬ fn.name = "runtime.NumGoroutine" := by simpa using h2
  have h3' : ¬ fn.body = none := fun e => by simp [e] at h3
  simp [callFunc, Sem.run_bind, Result.andThen, h1, h2', h3']
theorem Cl.calls {P : Program} {f : FuncId} {args : Array Value} {w : World} {Q : Value → World → Prop} (h : Cl P f args w Q) : Calls P f args w fun e w' => ∃ v, e = .returned v ∧ Q v w' :=
  Calls.mono h fun e w' q => by
    cases e with
    | returned v => exact ⟨v, rfl, q⟩
    | panicked c => exact q.elim
    | outgrown => exact q.elim
theorem cl_of_calls {P : Program} {f : FuncId} {args : Array Value} {w : World} {R : Ending → World → Prop} {Q : Value → World → Prop} (h : Calls P f args w R) (i : ∀ e w', R e w' → ∃ v, e = .returned v ∧ Q v w') : Cl P f args w Q :=
  Calls.mono h fun e w' q => by
    obtain ⟨v, rfl, q'⟩ := i e w' q
    exact q'
instance iFnByName : FnOk Tryz.prog 57 := ⟨⟨Tryz.f57, Tryz.func57, by kernel_rfl, by kernel_rfl⟩⟩
theorem agName : AG Tryz.prog 119 = some true ∧ SZ Tryz.prog 119 = some 2 := ⟨by kernel_rfl, by kernel_rfl⟩
theorem sortN_ok {ao : Option Addr} {n c : Nat} {xs : List Nm} {F : List HP} {w : World} (H : Own (Os 119 encN (.slice ao n c) xs :: F) w) (hn : n = xs.length) (hb : xs.length ≤ 1099511627776) :
    Cl Tryz.prog 103 #[.slice ao n c, .func (.func 57) #[] #[]] w fun v w' => v = .tuple #[] ∧ ∃ ys : List Nm, ys.Perm xs ∧ Ord ys ∧ Own (Os 119 encN (.slice ao n c) ys :: F) w' := by
  subst hn
  by_cases hx : xs = []
  · subst hx
    refine cl_of_calls (AnyF.slices_SortFunc_none Tryz.layK ao c _ w) ?_
    rintro e w' ⟨rfl, rfl⟩
    exact ⟨_, rfl, rfl, [], .refl _, .nil, H⟩
  · obtain ⟨b, cells, rfl, -, hnc, hcl, hct, H⟩ := H.osOpen hx
    obtain ⟨rest, rfl⟩ : ∃ rest, cells = xs.flatMap encN.f ++ rest := ⟨cells.drop (xs.length * encN.n), by rw [← hct, List.take_append_drop]⟩
    have hlt : b < w.heap.size := (Array.getElem?_eq_some_iff.1 H.ceq).1
    refine cl_of_calls (AnyQ.slices_SortFunc Tryz.layK 2 (fun w => AG_run agName.1 w) (fun w => SZ_run agName.2 w) encN.f encN.len encN.one cmpN (swo_of _ ltN) 57 #[] b 0 c xs.toArray w (enter_of inferInstance) ?_ (holdsK_of H) hlt (by simp; omega)) ?_
    · intro m os dk hs x y
      refine Calls.mono (Cl.calls (byName_ok (x := x) (y := y) (Own.old _))) ?_
      rintro e w' ⟨v, rfl, rfl, H'⟩
      exact ⟨rfl, grown_of H'⟩
    · rintro e w' ⟨rfl, d', q, os, hp, hs, rfl⟩
      have hsz : d'.size = xs.length := by have := hp.1; simpa using this
      refine ⟨_, rfl, rfl, d'.toList, ?_, sortedIn_ord ltN (by rw [show d'.size = xs.toArray.size by simpa using hsz]; exact hs), ?_⟩
      · have := permIn_perm hp; simpa using this
      · have H1 := own_sorted (n := q) (os := os) H hsz
        refine H1.osMake encN d'.toList ?_ (by simp [hsz]) hnc ?_
        · simp only [List.length_append, flatMap_length] at hcl ⊢
          rw [← hcl]; simp [hsz]
        · exact List.take_left' (by rw [flatMap_length]; simp [hsz])
/-! ### Texts -/
def bytesOf (s : ByteArray) : List UInt8 := s.data.toList
theorem bytesOf_bs (l : List UInt8) : (⟨(bytesOf ⟨l.toArray⟩).toArray⟩ : ByteArray) = ⟨l.toArray⟩ := by simp [bytesOf]
theorem leS (x y : List UInt8) : decide (x ≤ y) = !Op.bytesLess y x := by
  rw [bytesLess_eq, Bool.eq_iff_iff]
  simp only [decide_eq_true_eq, Bool.not_eq_true', decide_eq_false_iff_not]
  exact Iff.rfl
theorem leS_tr (a b c : List UInt8) (h1 : decide (a ≤ b) = true) (h2 : decide (b ≤ c) = true) : decide (a ≤ c) = true := by
  rw [leS] at *
  simp only [Bool.not_eq_true'] at *
  have := (swo_of (κ := ByteArray) sless (fun _ _ => rfl)).ntrans ⟨c.toArray⟩ ⟨b.toArray⟩ ⟨a.toArray⟩ h2 h1
  exact this
theorem leS_tot (a b : List UInt8) : (decide (a ≤ b) || decide (b ≤ a)) = true := by
  rw [leS, leS]
  cases h : Op.bytesLess b a
  · rfl
  · have : Lt.lt (κ := ByteArray) ⟨b.toArray⟩ ⟨a.toArray⟩ = true := h
    have := Lt.asy this
    have h2 : Op.bytesLess a b = false := this
    rw [h2]; rfl
def sortS (xs : List ByteArray) : List ByteArray := ((xs.map bytesOf).mergeSort fun x y => decide (x ≤ y)).map fun l => ⟨l.toArray⟩
theorem sortS_perm (xs : List ByteArray) : (sortS xs).Perm xs := by
  have h := (List.mergeSort_perm (xs.map bytesOf) fun x y => decide (x ≤ y)).map fun l : List UInt8 => (⟨l.toArray⟩ : ByteArray)
  rw [List.map_map] at h
  have e : (fun l : List UInt8 => (⟨l.toArray⟩ : ByteArray)) ∘ bytesOf = id := by
    funext s; cases s; simp [bytesOf]
  rw [e, List.map_id] at h
  exact h
theorem sortS_ord (xs : List ByteArray) : Ord (sortS xs) := by
  unfold Ord sortS
  rw [List.pairwise_map]
  refine List.Pairwise.imp ?_ (List.pairwise_mergeSort leS_tr leS_tot (xs.map bytesOf))
  intro a b h
  rw [leS] at h
  have h2 : Op.bytesLess b a = false := by simpa using h
  exact h2
theorem holdsS {b : Nat} {T : TypeId} {rest : List Value} {L : List HP} {w : World} {xs : List ByteArray} (H : Own (Ce b (xs.flatMap encS.f ++ rest, T) :: L) w) : Sort.Holds encStr w b 0 (xs.map bytesOf).toArray := by
  have h := holdsK_of H
  intro j hj
  have hj' : j < xs.length := by simpa using hj
  have := h j (by simpa [encS] using hj')
  refine ⟨this.1.trans ?_, this.2⟩
  rw [Sort.get_flatK _ _ _ _ (by simpa [encS] using hj')]
  simp only [encS, Nat.div_one, Nat.mod_one, id]
  rw [getElem!_pos xs.toArray j (by simpa using hj'), getElem!_pos _ j hj]
  simp [encStr, bytesOf]
theorem putRowS (w : World) (b : Nat) (ss : List (List UInt8)) : Sort.putRow encStr w b 0 ss.toArray = Sort.putRowK encS.f encS.n w b 0 (ss.map fun l => (⟨l.toArray⟩ : ByteArray)).toArray := by
  unfold Sort.putRowK Sort.putRow
  congr 1
  funext c
  unfold Sort.putCells
  have hsz : (Sort.flatK encS.f encS.n (ss.map fun l => (⟨l.toArray⟩ : ByteArray)).toArray).size = ss.toArray.size := by simp [encS]
  apply Array.ext
  · simp
  · intro i h1 h2
    simp only [Array.getElem_mapIdx, hsz]
    split
    · rename_i hi
      have hi' : i < ss.length := by simpa using hi.2
      rw [Sort.get_flatK _ _ _ _ (by simpa [encS] using hi')]
      simp only [encS, Nat.div_one, Nat.mod_one, id, Nat.sub_zero]
      rw [getElem!_pos ss.toArray i (by simpa using hi'), getElem!_pos _ i (by simpa using hi')]
      simp [encStr]
    · rfl
theorem sortS_ok {ao : Option Addr} {n c : Nat} {xs : List ByteArray} {F : List HP} {w : World} (H : Own (Os 9 encS (.slice ao n c) xs :: F) w) (hn : n = xs.length) (hb : xs.length ≤ 1099511627776) :
    Cl Tryz.prog 109 #[.slice ao n c] w fun v w' => v = .tuple #[] ∧ ∃ ys : List ByteArray, ys.Perm xs ∧ Ord ys ∧ Own (Os 9 encS (.slice ao n c) ys :: F) w' := by
  subst hn
  by_cases hx : xs = []
  · subst hx
    refine cl_of_calls (AnyG.slices_Sort_string_none Tryz.layS ao c w) ?_
    rintro e w' ⟨rfl, rfl⟩
    exact ⟨_, rfl, rfl, [], .refl _, .nil, H⟩
  · obtain ⟨b, cells, rfl, -, hnc, hcl, hct, H⟩ := H.osOpen hx
    obtain ⟨rest, rfl⟩ : ∃ rest, cells = xs.flatMap encS.f ++ rest := ⟨cells.drop (xs.length * encS.n), by rw [← hct, List.take_append_drop]⟩
    have hlt : b < w.heap.size := (Array.getElem?_eq_some_iff.1 H.ceq).1
    have hc := AnyG.slices_Sort_string Tryz.layS b 0 c (xs.map bytesOf) w (holdsS H) hlt (by simp; omega)
    rw [List.length_map] at hc
    refine cl_of_calls hc ?_
    rintro e w' ⟨rfl, q, os, rfl⟩
    have hsz : (sortS xs).toArray.size = xs.length := by simpa using (sortS_perm xs).length_eq
    refine ⟨_, rfl, rfl, sortS xs, sortS_perm xs, sortS_ord xs, ?_⟩
    rw [putRowS]
    have H1 := own_sorted (n := q) (os := os) H hsz
    refine Own.osMake encS (sortS xs) H1 ?_ (by rw [(sortS_perm xs).length_eq]) hnc ?_
    · simp only [List.length_append, flatMap_length] at hcl ⊢
      rw [← hcl]; simp [(sortS_perm xs).length_eq]
    · exact List.take_left' (by rw [flatMap_length]; simp [(sortS_perm xs).length_eq])
theorem givesN {b Bm : Nat} {m : List (Nm × (ByteArray × Sl × Int))} {F : List HP} : Gives Tryz.prog 104 #[.pointer (some ⟨Bm, 0, none⟩)] EmV.ke (Ce Bm ([.map (some b)], 123) :: Mp EmV b m :: F) m.length (fun xs => xs.Perm (keys m)) :=
  fun l J w hY H => keysN1_ok hY H
theorem givesS {b Bm : Nat} {m : List (ByteArray × Int)} {F : List HP} : Gives Tryz.prog 110 #[.pointer (some ⟨Bm, 0, none⟩)] EmL.ke (Ce Bm ([.map (some b)], 96) :: Mp EmL b m :: F) m.length (fun xs => xs.Perm (keys m)) :=
  fun l J w hY H => keysS1_ok hY H
theorem collN_ok {gf : Nat} {lb : Array Value} {n : Nat} {S : List Nm → Prop} {F : List HP} {w : World} (eg : ∀ args w, (callFunc gf args).run Tryz.prog w = .ok (.enter gf args) w) (hS : Gives Tryz.prog gf lb EmV.ke F n S) (hb : n ≤ 1073741824) (H : Own F w) :
  Cl Tryz.prog 102 #[.func (.func gf) #[] lb] w fun v w' => ∃ xs ao c, v = .slice ao xs.length c ∧ S xs ∧ Own (Os 119 encN (.slice ao xs.length c) xs :: F) w' := by
  refine cl_of_cw Tryz.func102 rfl ?_
  simp only [Tryz.ntmps102, envA, List.size_toArray, List.length_cons, List.length_nil, Nat.reduceAdd, Nat.reduceSub]
  refine cw_seq (fun K1 h1 => ?_)
  refine cw_region (lq_run ?_)
  simp (maxSteps := 500000) (decide := true) (disch := omega) only [EV, ↓reduceIte, Nat.reduceAdd, tt102]
  refine lq_nil ?_
  refine h1 _ _ ?_
  refine cw_seq (fun K2 h2 => ?_)
  refine cw_region (lq_run ?_)
  simp (maxSteps := 500000) (decide := true) (disch := omega) only [EV, ↓reduceIte, Nat.reduceAdd, tt102]
  refine lq_call rfl ?_
  refine Cl.mono (apN_ok eg hS hb H) ?_
  rintro _ w ⟨xs, ao, c, rfl, hxs, H⟩
  simp (maxSteps := 500000) (decide := true) (disch := omega) only [EV, ↓reduceIte, Nat.reduceAdd, tt102]
  refine lq_nil ?_
  refine h2 _ _ ?_
  refine cw_ret ?_
  try simp (decide := true) only [EX, ↓reduceIte]
  refine ret1 rfl ?_
  exact ⟨xs, ao, c, rfl, hxs, H⟩
theorem collS_ok {gf : Nat} {lb : Array Value} {n : Nat} {S : List ByteArray → Prop} {F : List HP} {w : World} (eg : ∀ args w, (callFunc gf args).run Tryz.prog w = .ok (.enter gf args) w) (hS : Gives Tryz.prog gf lb EmL.ke F n S) (hb : n ≤ 1073741824) (H : Own F w) :
  Cl Tryz.prog 108 #[.func (.func gf) #[] lb] w fun v w' => ∃ xs ao c, v = .slice ao xs.length c ∧ S xs ∧ Own (Os 9 encS (.slice ao xs.length c) xs :: F) w' := by
  refine cl_of_cw Tryz.func108 rfl ?_
  simp only [Tryz.ntmps108, envA, List.size_toArray, List.length_cons, List.length_nil, Nat.reduceAdd, Nat.reduceSub]
  refine cw_seq (fun K1 h1 => ?_)
  refine cw_region (lq_run ?_)
  simp (maxSteps := 500000) (decide := true) (disch := omega) only [EV, ↓reduceIte, Nat.reduceAdd, tt108]
  refine lq_nil ?_
  refine h1 _ _ ?_
  refine cw_seq (fun K2 h2 => ?_)
  refine cw_region (lq_run ?_)
  simp (maxSteps := 500000) (decide := true) (disch := omega) only [EV, ↓reduceIte, Nat.reduceAdd, tt108]
  refine lq_call rfl ?_
  refine Cl.mono (apS_ok eg hS hb H) ?_
  rintro _ w ⟨xs, ao, c, rfl, hxs, H⟩
  simp (maxSteps := 500000) (decide := true) (disch := omega) only [EV, ↓reduceIte, Nat.reduceAdd, tt108]
  refine lq_nil ?_
  refine h2 _ _ ?_
  refine cw_ret ?_
  try simp (decide := true) only [EX, ↓reduceIte]
  refine ret1 rfl ?_
  exact ⟨xs, ao, c, rfl, hxs, H⟩
theorem sortedN_ok {gf : Nat} {lb : Array Value} {n : Nat} {S : List Nm → Prop} {F : List HP} {w : World} (eg : ∀ args w, (callFunc gf args).run Tryz.prog w = .ok (.enter gf args) w) (hS : Gives Tryz.prog gf lb EmV.ke F n S) (hb : n ≤ 1073741824) (H : Own F w) (hl : ∀ xs, S xs → xs.length ≤ 1099511627776) :
  Cl Tryz.prog 55 #[.func (.func gf) #[] lb, .func (.func 57) #[] #[]] w fun v w' => ∃ xs ys ao c, v = .slice ao ys.length c ∧ S xs ∧ ys.Perm xs ∧ Ord ys ∧ Own (Os 119 encN (.slice ao ys.length c) ys :: F) w' := by
  refine cl_of_cw Tryz.func55 rfl ?_
  simp only [Tryz.ntmps55, envA, List.size_toArray, List.length_cons, List.length_nil, Nat.reduceAdd, Nat.reduceSub]
  refine cw_seq (fun K1 h1 => ?_)
  refine cw_region (lq_run ?_)
  simp (maxSteps := 500000) (decide := true) (disch := omega) only [EV, ↓reduceIte, Nat.reduceAdd, tt55]
  refine lq_nil ?_
  refine h1 _ _ ?_
  refine cw_seq (fun K2 h2 => ?_)
  refine cw_region (lq_run ?_)
  simp (maxSteps := 500000) (decide := true) (disch := omega) only [EV, ↓reduceIte, Nat.reduceAdd, tt55]
  refine lq_call rfl ?_
  refine Cl.mono (collN_ok eg hS hb H) ?_
  rintro _ w ⟨xs, ao, c, rfl, hxs, H⟩
  simp (maxSteps := 500000) (decide := true) (disch := omega) only [EV, ↓reduceIte, Nat.reduceAdd, tt55]
  refine lq_nil ?_
  refine h2 _ _ ?_
  refine cw_seq (fun K3 h3 => ?_)
  refine cw_region (lq_run ?_)
  simp (maxSteps := 500000) (decide := true) (disch := omega) only [EV, ↓reduceIte, Nat.reduceAdd, tt55]
  refine lq_call rfl ?_
  refine Cl.mono (sortN_ok H rfl (hl xs hxs)) ?_
  rintro _ w ⟨rfl, ys, hp, ho, H⟩
  simp (maxSteps := 500000) (decide := true) (disch := omega) only [EV, ↓reduceIte, Nat.reduceAdd, tt55]
  refine lq_nil ?_
  refine h3 _ _ ?_
  refine cw_seq (fun K4 h4 => ?_)
  refine cw_region (lq_run ?_)
  simp (maxSteps := 500000) (decide := true) (disch := omega) only [EV, ↓reduceIte, Nat.reduceAdd, tt55]
  refine lq_nil ?_
  refine h4 _ _ ?_
  refine cw_ret ?_
  try simp (decide := true) only [EX, ↓reduceIte]
  refine ret1 rfl ?_
  refine ⟨xs, ys, ao, c, ?_, hxs, hp, ho, ?_⟩
  · rw [hp.length_eq]
  · rw [hp.length_eq]; exact H
theorem sortedS_ok {gf : Nat} {lb : Array Value} {n : Nat} {S : List ByteArray → Prop} {F : List HP} {w : World} (eg : ∀ args w, (callFunc gf args).run Tryz.prog w = .ok (.enter gf args) w) (hS : Gives Tryz.prog gf lb EmL.ke F n S) (hb : n ≤ 1073741824) (H : Own F w) (hl : ∀ xs, S xs → xs.length ≤ 1099511627776) :
  Cl Tryz.prog 60 #[.func (.func gf) #[] lb] w fun v w' => ∃ xs ys ao c, v = .slice ao ys.length c ∧ S xs ∧ ys.Perm xs ∧ Ord ys ∧ Own (Os 9 encS (.slice ao ys.length c) ys :: F) w' := by
  refine cl_of_cw Tryz.func60 rfl ?_
  simp only [Tryz.ntmps60, envA, List.size_toArray, List.length_cons, List.length_nil, Nat.reduceAdd, Nat.reduceSub]
  refine cw_seq (fun K1 h1 => ?_)
  refine cw_region (lq_run ?_)
  simp (maxSteps := 500000) (decide := true) (disch := omega) only [EV, ↓reduceIte, Nat.reduceAdd, tt60]
  refine lq_nil ?_
  refine h1 _ _ ?_
  refine cw_seq (fun K2 h2 => ?_)
  refine cw_region (lq_run ?_)
  simp (maxSteps := 500000) (decide := true) (disch := omega) only [EV, ↓reduceIte, Nat.reduceAdd, tt60]
  refine lq_call rfl ?_
  refine Cl.mono (collS_ok eg hS hb H) ?_
  rintro _ w ⟨xs, ao, c, rfl, hxs, H⟩
  simp (maxSteps := 500000) (decide := true) (disch := omega) only [EV, ↓reduceIte, Nat.reduceAdd, tt60]
  refine lq_nil ?_
  refine h2 _ _ ?_
  refine cw_seq (fun K3 h3 => ?_)
  refine cw_region (lq_run ?_)
  simp (maxSteps := 500000) (decide := true) (disch := omega) only [EV, ↓reduceIte, Nat.reduceAdd, tt60]
  refine lq_call rfl ?_
  refine Cl.mono (sortS_ok H rfl (hl xs hxs)) ?_
  rintro _ w ⟨rfl, ys, hp, ho, H⟩
  simp (maxSteps := 500000) (decide := true) (disch := omega) only [EV, ↓reduceIte, Nat.reduceAdd, tt60]
  refine lq_nil ?_
  refine h3 _ _ ?_
  refine cw_seq (fun K4 h4 => ?_)
  refine cw_region (lq_run ?_)
  simp (maxSteps := 500000) (decide := true) (disch := omega) only [EV, ↓reduceIte, Nat.reduceAdd, tt60]
  refine lq_nil ?_
  refine h4 _ _ ?_
  refine cw_ret ?_
  try simp (decide := true) only [EX, ↓reduceIte]
  refine ret1 rfl ?_
  refine ⟨xs, ys, ao, c, ?_, hxs, hp, ho, ?_⟩
  · rw [hp.length_eq]
  · rw [hp.length_eq]; exact H
end Go.Rp
set_option linter.unusedVariables false
set_option linter.unusedSimpArgs false
set_option maxHeartbeats 1000000
set_option maxRecDepth 100000
namespace Go.Rp
open Go.Proofs
instance iW29_0 : ElT Tryz.prog 111 2 := ElT.mk' (by kernel_rfl)
instance iW29_1 : ElT Tryz.prog 119 2 := ElT.mk' (by kernel_rfl)
instance iW29_2 : ElT Tryz.prog 48 5 := ElT.mk' (by kernel_rfl)
instance iW29_3 : ElT Tryz.prog 9 1 := ElT.mk' (by kernel_rfl)
instance iW29_4 : FnOk Tryz.prog 55 := ⟨⟨Tryz.f55, Tryz.func55, by kernel_rfl, by kernel_rfl⟩⟩
instance iW29_5 : FnOk Tryz.prog 56 := ⟨⟨Tryz.f56, Tryz.func56, by kernel_rfl, by kernel_rfl⟩⟩
instance iW29_6 : FnOk Tryz.prog 57 := ⟨⟨Tryz.f57, Tryz.func57, by kernel_rfl, by kernel_rfl⟩⟩
instance iW29_7 : FnOk Tryz.prog 58 := ⟨⟨Tryz.f58, Tryz.func58, by kernel_rfl, by kernel_rfl⟩⟩
instance iW29_8 : FnOk Tryz.prog 60 := ⟨⟨Tryz.f60, Tryz.func60, by kernel_rfl, by kernel_rfl⟩⟩
instance iW29_9 : FnOk Tryz.prog 61 := ⟨⟨Tryz.f61, Tryz.func61, by kernel_rfl, by kernel_rfl⟩⟩
instance iW29_10 : MpT Tryz.prog 123 119 125 := ⟨by kernel_rfl⟩
instance iW29_11 : MpT Tryz.prog 96 9 43 := ⟨by kernel_rfl⟩
instance iW29_12 : SlT Tryz.prog 116 119 := ⟨by kernel_rfl⟩
instance iW29_13 : SlT Tryz.prog 34 48 := ⟨by kernel_rfl⟩
instance iW29_14 : SlT Tryz.prog 39 111 := ⟨by kernel_rfl⟩
instance iW29_15 : SlT Tryz.prog 44 9 := ⟨by kernel_rfl⟩
instance iW29_16 : SzT Tryz.prog 119 2 := ⟨by kernel_rfl⟩
instance iW29_17 : ZvT Tryz.prog 119 (.agg #[(.string ByteArray.empty), (.int .u64 0)]) := ⟨by kernel_rfl⟩
instance iW29_18 : ZvT Tryz.prog 125 (.agg #[(.string ByteArray.empty), (.slice none 0 0), (.int .i64 0)]) := ⟨by kernel_rfl⟩
instance iW29_19 : ZvT Tryz.prog 43 (.int .u64 0) := ⟨by kernel_rfl⟩
theorem tt14 : (AG Tryz.prog 9 = some false) ∧ (AG Tryz.prog 96 = some false) ∧ (BU Tryz.prog 111 = some ([(.string ByteArray.empty), (.int .u64 0)], [(0, 1), (1, 1)])) ∧ (FO Tryz.prog 129 3 = some 3) ∧ (LK Tryz.prog 44 = some 1) := ⟨by kernel_rfl, by kernel_rfl, by kernel_rfl, by kernel_rfl, by kernel_rfl⟩
theorem tt12 : (AG Tryz.prog 119 = some true) ∧ (AG Tryz.prog 123 = some false) ∧ (BU Tryz.prog 48 = some ([(.string ByteArray.empty), (.int .u64 0), (.string ByteArray.empty), (.slice none 0 0), (.int .i64 0)], [(0, 4), (4, 1)])) ∧ (FO Tryz.prog 129 0 = some 0) ∧ (FP Tryz.prog 125 2 = some (2, 1, false)) ∧ (LK Tryz.prog 116 = some 1) ∧ (SZ Tryz.prog 119 = some 2) := ⟨by kernel_rfl, by kernel_rfl, by kernel_rfl, by kernel_rfl, by kernel_rfl, by kernel_rfl, by kernel_rfl⟩

theorem keysL_eq {S : Sto} {q : Lo} {xs ys : List ByteArray} (hq : LoOk S q) (hn : (keys q.ml).Nodup) (hx : xs.Perm (keys q.ml)) (hp : ys.Perm xs) (ho : Ord ys) : ys = keys S.L := by
  have h1 := hp.trans hx
  refine Rise.ext (ho.rise ((h1.nodup_iff).2 hn)) hq.rl fun a => ?_
  rw [h1.mem_iff, ← mget_keys, ← mget_keys, hq.l]
theorem hv_some {S : Sto} {q : Lo} (hq : LoOk S q) (n : Nm) : (mget q.mv n).isSome = (mget S.V n).isSome := (hvForm hq n).2
theorem keysV_eq {S : Sto} {q : Lo} {xs ys : List Nm} (hq : LoOk S q) (hn : (keys q.mv).Nodup) (hx : xs.Perm (keys q.mv)) (hp : ys.Perm xs) (ho : Ord ys) : ys = keys S.V := by
  have h1 := hp.trans hx
  refine Rise.ext (ho.rise ((h1.nodup_iff).2 hn)) hq.rv fun a => ?_
  rw [h1.mem_iff, ← mget_keys, ← mget_keys, hv_some hq]
theorem ml_len {S : Sto} {q : Lo} (hq : LoOk S q) (hn : (keys q.ml).Nodup) : q.ml.length ≤ S.L.length := by
  have := nodup_len (l := keys q.ml) (m := keys S.L) hn (fun a ha => by rw [← mget_keys] at ha ⊢; rw [← hq.l]; exact ha)
  rwa [keys_len, keys_len] at this
theorem mv_len {S : Sto} {q : Lo} (hq : LoOk S q) (hn : (keys q.mv).Nodup) : q.mv.length ≤ S.V.length := by
  have := nodup_len (l := keys q.mv) (m := keys S.V) hn (fun a ha => by rw [← mget_keys] at ha ⊢; rw [← hv_some hq]; exact ha)
  rwa [keys_len, keys_len] at this
theorem keys_at {κ β : Type} {l d r : List (κ × β)} {p : κ × β} (h : l = d ++ p :: r) : (keys l)[d.length]? = some p.1 := by
  subst h; simp [keys]
theorem mget_at {κ β : Type} [DecidableEq κ] [Lt κ] {l d r : List (κ × β)} {p : κ × β} (h : l = d ++ p :: r) (hn : (keys l).Nodup) : mget l p.1 = some p.2 := mem_mget hn (by subst h; simp)
theorem zip_moreK {κ β : Type} {l d r : List (κ × β)} (h : l = d ++ r) (c : (d.length : Int) < ((keys l).length : Int)) : ∃ s r', r = s :: r' ∧ (keys l)[d.length]? = some s.1 := by
  rw [keys_len] at c
  obtain ⟨s, r', rfl, _⟩ := zip_more h c
  exact ⟨s, r', rfl, keys_at h⟩
theorem zip_doneK {κ β : Type} {l d r : List (κ × β)} (h : l = d ++ r) (c : ((keys l).length : Int) ≤ (d.length : Int)) : r = [] ∧ l = d := by
  rw [keys_len] at c; exact zip_done h c
abbrev KT := (Nm × Hd) × (Option Addr × Nat)
def encK : Enc KT := ⟨fun x => [.string x.1.1.1, .int .u64 x.1.1.2, .string x.1.2.val, .slice x.2.1 x.1.2.keys.length x.2.2, .int .i64 x.1.2.stamp], 5, fun _ => rfl, fun x u hu => by simp at hu; rcases hu with rfl | rfl | rfl | rfl | rfl <;> rfl, by decide⟩
theorem encK_f (x : KT) : encK.f x = [.string x.1.1.1, .int .u64 x.1.1.2, .string x.1.2.val, .slice x.2.1 x.1.2.keys.length x.2.2, .int .i64 x.1.2.stamp] := rfl
theorem encK_n : encK.n = 5 := rfl
def KeysR (l : List KT) : HP := Bigs l fun x => Os 9 encS (.slice x.2.1 x.1.2.keys.length x.2.2) x.1.2.keys
theorem Own.keysNil {L : List HP} {w : World} (H : Own L w) : Own (KeysR [] :: L) w := Own.triv (fun _ => trivial) H
theorem Own.keysAdd {l : List KT} {x : KT} {L : List HP} {w : World} (H : Own (Os 9 encS (.slice x.2.1 x.1.2.keys.length x.2.2) x.1.2.keys :: KeysR l :: L) w) : Own (KeysR (l ++ [x]) :: L) w := by
  have H1 : Sep (Sep [Os 9 encS (.slice x.2.1 x.1.2.keys.length x.2.2) x.1.2.keys, KeysR l] :: L) (hp w) := Sep.flat.2 H
  refine Sep.imp (fun g q => ?_) H1
  unfold KeysR Bigs
  rw [List.map_append]
  refine Sep.perm (List.perm_append_comm (l₁ := [x].map _)) ?_
  exact Sep.under (fun g q => by
    obtain ⟨g1, g2, d, a, b, x, y⟩ := q
    exact Sep.mono a x) q
theorem KeysR.ent {l : List KT} {x : KT} {L : List HP} (h : x ∈ l) : Ent (KeysR l :: L) (Row x.2.1 encS x.1.2.keys) := ent_bigs h (fun g q => q.row) (fun g h l q => q.mono l)
theorem Lasts_ok {p : Nat} {S : Sto} {F : List HP} {w : World} (H : Own (StoreAt p S :: F) w) (hL : S.L.length ≤ 1073741824) :
  Cl Tryz.prog 14 #[.pointer (some ⟨p, 0, none⟩)] w fun v w' => ∃ ao c, v = .slice ao S.L.length c ∧ Own (Os 111 encN (.slice ao S.L.length c) S.L :: StoreAt p S :: F) w' := by
  refine cl_of_cw Tryz.func14 rfl ?_
  simp only [Tryz.ntmps14, envA, List.size_toArray, List.length_cons, List.length_nil, Nat.reduceAdd, Nat.reduceSub]
  obtain ⟨q, hq, H⟩ := H.stO
  obtain ⟨_, _, _, _, _, _, hnl⟩ := (H.tkR (R := Mp EmL) (k := q.bl)).mp
  have hml := ml_len hq hnl
  refine cw_seq (fun K1 h1 => ?_)
  refine cw_region (lq_run ?_)
  simp (maxSteps := 500000) (decide := true) (disch := omega) only [EV, ↓reduceIte, Nat.reduceAdd, tt14]
  refine lq_nil ?_
  refine h1 _ _ ?_
  refine cw_seq (fun K2 h2 => ?_)
  refine cw_region (lq_run ?_)
  simp (maxSteps := 500000) (decide := true) (disch := omega) only [EV, ↓reduceIte, Nat.reduceAdd, tt14]
  refine lq_nil ?_
  refine h2 _ _ ?_
  refine cw_seq (fun K3 h3 => ?_)
  refine cw_seq (fun K4 h4 => ?_)
  refine cw_region (lq_run ?_)
  simp (maxSteps := 500000) (decide := true) (disch := omega) only [EV, ↓reduceIte, Nat.reduceAdd, tt14]
  refine lq_load H rfl ?_
  simp (maxSteps := 500000) (decide := true) (disch := omega) only [EV, ↓reduceIte, Nat.reduceAdd, tt14]
  refine lq_call rfl ?_
  refine Cl.mono (mapKeysS_ok (b := q.bl) H) ?_
  rintro _ w ⟨Bm, rfl, H⟩
  simp (maxSteps := 500000) (decide := true) (disch := omega) only [EV, ↓reduceIte, Nat.reduceAdd, tt14]
  refine lq_call rfl ?_
  refine Cl.mono (sortedS_ok (enter_of inferInstance) (givesS (b := q.bl) (Bm := Bm) (m := q.ml) (F := Ce p ([.map (some q.bv), .map (some q.bi), .map (some q.bp), .map (some q.bl)], 129) :: Mp EmV q.bv q.mv :: Mp EmI q.bi q.mi :: Mp EmP q.bp q.mp :: Bag q.rs :: IdsR S.V q.mi :: PlR q.pl q.mp :: F)) (by omega) H.wk (fun xs hx => by rw [hx.length_eq, keys_len]; omega)) ?_
  rintro _ w ⟨xs, ys, aoy, cy, rfl, hxs, hp, ho, H⟩
  obtain rfl := keysL_eq hq hnl hxs hp ho
  have hkl := keys_len S.L
  have hnd := hq.rl.nodup
  simp (maxSteps := 500000) (decide := true) (disch := omega) only [EV, ↓reduceIte, Nat.reduceAdd, tt14]
  refine lq_nil ?_
  refine h4 _ _ ?_
  refine cw_block ?_
  refine cw_loopC (X := List (ByteArray × Int) × List (ByteArray × Int) × (Option Addr × Nat)) [(0, _), (2, _), (11, _), (12, _)] (fun x => [(3, .slice x.2.2.1 x.1.length x.2.2.2), (13, .int .i64 (x.1.length : Int))]) (fun x w => S.L = x.1 ++ x.2.1 ∧ Own (Os 111 encN (.slice x.2.2.1 x.1.length x.2.2.2) x.1 :: Os 9 encS (.slice aoy (keys S.L).length cy) (keys S.L) :: Ce p ([.map (some q.bv), .map (some q.bi), .map (some q.bp), .map (some q.bl)], 129) :: Mp EmV q.bv q.mv :: Mp EmI q.bi q.mi :: Mp EmP q.bp q.mp :: Mp EmL q.bl q.ml :: Bag q.rs :: IdsR S.V q.mi :: PlR q.pl q.mp :: F) w) (fun x => x.2.1.length) ([], S.L, (none, 0)) (.c rfl (.c rfl (.c rfl (.c rfl .n)))) (.c rfl (.c rfl .n)) ⟨rfl, Os.nil 111 encN H.wk⟩ ?_
  rintro ⟨d, r, ⟨aor, cr⟩⟩ w ⟨hd, H⟩
  simp only [List.cons_append, List.nil_append]
  simp only at hd H ⊢
  refine cw_seq (fun K5 h5 => ?_)
  refine cw_region (lq_run ?_)
  simp (maxSteps := 500000) (decide := true) (disch := omega) only [EV, ↓reduceIte, Nat.reduceAdd, tt14]
  refine lq_nil ?_
  refine h5 _ _ ?_
  refine cw_seq (fun K6 h6 => ?_)
  refine cw_condB rfl (fun c14 => ?_) (fun c14 => ?_)
  · skip
    try simp only [HB] at c14
    obtain ⟨s, r2, rfl, he⟩ := zip_moreK hd c14
    have hg := mget_at hd hnd
    have hls : lastOf S s.1 = s.2 := by unfold lastOf; rw [hg]; rfl
    have hdl := congrArg List.length hd
    simp only [List.length_append, List.length_cons] at hdl
    refine cw_skip ?_
    refine h6 _ _ ?_
    refine cw_seq (fun K7 h7 => ?_)
    refine cw_block ?_
    refine cw_seq (fun K8 h8 => ?_)
    refine cw_region (lq_run ?_)
    simp (maxSteps := 500000) (decide := true) (disch := omega) only [EV, ↓reduceIte, Nat.reduceAdd, tt14]
    refine lq_idx (i' := d.length) H rfl rfl (Ent.os (L := []) (T := 9) (enc := encS) (n := (keys S.L).length) (c := cy) (xs := keys S.L)) (by omega) rfl he ?_
    simp (maxSteps := 500000) (decide := true) (disch := omega) only [EV, ↓reduceIte, Nat.reduceAdd, tt14]
    refine lq_loadE H rfl (Ent.os (L := []) (T := 9) (enc := encS) (n := (keys S.L).length) (c := cy) (xs := keys S.L)) he rfl ?_
    simp (maxSteps := 500000) (decide := true) (disch := omega) only [EV, ↓reduceIte, Nat.reduceAdd, tt14]
    refine lq_nil ?_
    refine h8 _ _ ?_
    refine cw_region (lq_run ?_)
    simp (maxSteps := 500000) (decide := true) (disch := omega) only [EV, ↓reduceIte, Nat.reduceAdd, tt14]
    refine lq_load H rfl ?_
    simp (maxSteps := 500000) (decide := true) (disch := omega) only [EV, ↓reduceIte, Nat.reduceAdd, tt14]
    refine lq_lookup (E := EmL) s.1 H rfl rfl ?_
    rw [mval_last hq, hls]
    simp (maxSteps := 500000) (decide := true) (disch := omega) only [EV, ↓reduceIte, Nat.reduceAdd, tt14]
    refine lq_bs H rfl rfl (by rfl) rfl (by decide) (fun b26 w H => ?_)
    try simp only [ES] at H
    simp (maxSteps := 500000) (decide := true) (disch := omega) only [EV, ↓reduceIte, Nat.reduceAdd, tt14]
    refine lq_app1 (enc := encN) s H rfl rfl rfl (by rw [encN_n]; omega) (fun ao5 c5 w H => ?_)
    simp (maxSteps := 500000) (decide := true) (disch := omega) only [EV, ↓reduceIte, Nat.reduceAdd, tt14]
    refine lq_nil ?_
    refine h7 _ _ ?_
    refine cw_region (lq_run ?_)
    simp (maxSteps := 500000) (decide := true) (disch := omega) only [EV, ↓reduceIte, Nat.reduceAdd, tt14]
    refine lq_nil ?_
    refine Exists.intro (d ++ [s], r2, (ao5, c5)) ⟨⟨(.c (by rw [List.length_append]; rfl) (.c (by rw [List.length_append]; rfl) .n)), (.c rfl (.c rfl (.c rfl (.c rfl .n))))⟩, ⟨by simp [hd], by simpa using H⟩, (by simp)⟩
  · skip
    try simp only [HB] at c14
    obtain ⟨rfl, hdd⟩ := zip_doneK hd c14
    refine cw_exit ?_
    refine h3 _ _ ?_
    refine cw_seq (fun K9 h9 => ?_)
    refine cw_region (lq_run ?_)
    simp (maxSteps := 500000) (decide := true) (disch := omega) only [EV, ↓reduceIte, Nat.reduceAdd, tt14]
    refine lq_nil ?_
    refine h9 _ _ ?_
    refine cw_ret ?_
    try simp (decide := true) only [EX, ↓reduceIte]
    refine ret1 rfl ?_
    rw [← hdd] at H
    exact ⟨aor, cr, by rw [← hdd], H.stC (L := Os 111 encN (.slice aor S.L.length cr) S.L :: F) q hq |>.swap⟩
theorem Kept_ok {p : Nat} {S : Sto} {F : List HP} {w : World} (H : Own (StoreAt p S :: F) w) (hV : S.V.length ≤ 1073741824) (hK : ∀ x ∈ S.V, x.2.keys.length ≤ 1073741824) :
  Cl Tryz.prog 12 #[.pointer (some ⟨p, 0, none⟩)] w fun v w' => ∃ (l : List KT) (ao : Option Addr) (c : Nat), v = .slice ao l.length c ∧ l.map (·.1) = S.V ∧ Own (Os 48 encK (.slice ao l.length c) l :: KeysR l :: StoreAt p S :: F) w' := by
  refine cl_of_cw Tryz.func12 rfl ?_
  simp only [Tryz.ntmps12, envA, List.size_toArray, List.length_cons, List.length_nil, Nat.reduceAdd, Nat.reduceSub]
  obtain ⟨q, hq, H⟩ := H.stO
  obtain ⟨_, _, _, _, _, _, hnv⟩ := (H.tkR (R := Mp EmV) (k := q.bv)).mp
  have hml := mv_len hq hnv
  refine cw_seq (fun K1 h1 => ?_)
  refine cw_region (lq_run ?_)
  simp (maxSteps := 500000) (decide := true) (disch := omega) only [EV, ↓reduceIte, Nat.reduceAdd, tt12, encN_f, L2]
  refine lq_nil ?_
  refine h1 _ _ ?_
  refine cw_seq (fun K2 h2 => ?_)
  refine cw_region (lq_run ?_)
  simp (maxSteps := 500000) (decide := true) (disch := omega) only [EV, ↓reduceIte, Nat.reduceAdd, tt12, encN_f, L2]
  refine lq_nil ?_
  refine h2 _ _ ?_
  refine cw_seq (fun K3 h3 => ?_)
  refine cw_seq (fun K4 h4 => ?_)
  refine cw_region (lq_run ?_)
  simp (maxSteps := 500000) (decide := true) (disch := omega) only [EV, ↓reduceIte, Nat.reduceAdd, tt12, encN_f, L2]
  refine lq_load H rfl ?_
  simp (maxSteps := 500000) (decide := true) (disch := omega) only [EV, ↓reduceIte, Nat.reduceAdd, tt12, encN_f, L2]
  refine lq_call rfl ?_
  refine Cl.mono (mapKeysN_ok (b := q.bv) H) ?_
  rintro _ w ⟨Bm, rfl, H⟩
  simp (maxSteps := 500000) (decide := true) (disch := omega) only [EV, ↓reduceIte, Nat.reduceAdd, tt12, encN_f, L2]
  refine lq_call rfl ?_
  refine Cl.mono (sortedN_ok (enter_of inferInstance) (givesN (b := q.bv) (Bm := Bm) (m := q.mv) (F := Ce p ([.map (some q.bv), .map (some q.bi), .map (some q.bp), .map (some q.bl)], 129) :: Mp EmI q.bi q.mi :: Mp EmP q.bp q.mp :: Mp EmL q.bl q.ml :: Bag q.rs :: IdsR S.V q.mi :: PlR q.pl q.mp :: F)) (by omega) H.wk (fun xs hx => by rw [hx.length_eq, keys_len]; omega)) ?_
  rintro _ w ⟨xs, ys, aoy, cy, rfl, hxs, hp, ho, H⟩
  obtain rfl := keysV_eq hq hnv hxs hp ho
  have hkl := keys_len S.V
  have hnd := hq.rv.nodup
  simp (maxSteps := 500000) (decide := true) (disch := omega) only [EV, ↓reduceIte, Nat.reduceAdd, tt12, encN_f, L2]
  refine lq_nil ?_
  refine h4 _ _ ?_
  refine cw_block ?_
  refine cw_loopC (X := List KT × List (Nm × Hd) × (Option Addr × Nat)) [(0, _), (2, _), (11, _), (12, _)] (fun x => [(3, .slice x.2.2.1 x.1.length x.2.2.2), (13, .int .i64 (x.1.length : Int))]) (fun x w => S.V = x.1.map (·.1) ++ x.2.1 ∧ Own (Os 48 encK (.slice x.2.2.1 x.1.length x.2.2.2) x.1 :: KeysR x.1 :: Os 119 encN (.slice aoy (keys S.V).length cy) (keys S.V) :: Ce p ([.map (some q.bv), .map (some q.bi), .map (some q.bp), .map (some q.bl)], 129) :: Mp EmV q.bv q.mv :: Mp EmI q.bi q.mi :: Mp EmP q.bp q.mp :: Mp EmL q.bl q.ml :: Bag q.rs :: IdsR S.V q.mi :: PlR q.pl q.mp :: F) w) (fun x => x.2.1.length) ([], S.V, (none, 0)) (.c rfl (.c rfl (.c rfl (.c rfl .n)))) (.c rfl (.c rfl .n)) ⟨rfl, Os.nil 48 encK H.wk.keysNil⟩ ?_
  rintro ⟨d, r, ⟨aor, cr⟩⟩ w ⟨hd, H⟩
  simp only [List.cons_append, List.nil_append]
  simp only at hd H ⊢
  refine cw_seq (fun K5 h5 => ?_)
  refine cw_region (lq_run ?_)
  simp (maxSteps := 500000) (decide := true) (disch := omega) only [EV, ↓reduceIte, Nat.reduceAdd, tt12, encN_f, L2]
  refine lq_nil ?_
  refine h5 _ _ ?_
  refine cw_seq (fun K6 h6 => ?_)
  refine cw_condB rfl (fun c14 => ?_) (fun c14 => ?_)
  · skip
    try simp only [HB] at c14
    rw [show (d.length : Int) = ((d.map (·.1)).length : Int) by simp] at c14
    obtain ⟨s, r2, rfl, he⟩ := zip_moreK hd c14
    have hg := mget_at hd hnd
    have hks := hK s (by rw [hd]; simp)
    have hdl := congrArg List.length hd
    simp only [List.length_append, List.length_cons, List.length_map] at hdl he
    obtain ⟨aow, cw, hvv, -, -⟩ := hvGet hq hg (.agg #[.string ByteArray.empty, .slice none 0 0, .int .i64 0])
    refine cw_skip ?_
    refine h6 _ _ ?_
    refine cw_seq (fun K7 h7 => ?_)
    refine cw_block ?_
    refine cw_seq (fun K8 h8 => ?_)
    refine cw_region (lq_run ?_)
    simp (maxSteps := 500000) (decide := true) (disch := omega) only [EV, ↓reduceIte, Nat.reduceAdd, tt12, encN_f, L2]
    refine lq_idx (i' := d.length) H rfl rfl (Ent.os (L := []) (T := 119) (enc := encN) (n := (keys S.V).length) (c := cy) (xs := keys S.V)) (by omega) rfl he ?_
    simp (maxSteps := 500000) (decide := true) (disch := omega) only [EV, ↓reduceIte, Nat.reduceAdd, tt12, encN_f, L2]
    refine lq_loadE H rfl (Ent.os (L := []) (T := 119) (enc := encN) (n := (keys S.V).length) (c := cy) (xs := keys S.V)) he rfl ?_
    simp (maxSteps := 500000) (decide := true) (disch := omega) only [EV, ↓reduceIte, Nat.reduceAdd, tt12, encN_f, L2]
    refine lq_new H (fun b5 w H => ?_)
    try simp only [ES, encN_f, L2] at H
    simp (maxSteps := 500000) (decide := true) (disch := omega) only [EV, ↓reduceIte, Nat.reduceAdd, tt12, encN_f, L2]
    refine lq_st H rfl rfl rfl (fun w H => ?_)
    try simp only [ES, encN_f, L2] at H
    simp (maxSteps := 500000) (decide := true) (disch := omega) only [EV, ↓reduceIte, Nat.reduceAdd, tt12, encN_f, L2]
    refine lq_nil ?_
    refine h8 _ _ ?_
    refine cw_drawW (L0 := [Ce b5 ([.string s.1.1, .int .u64 s.1.2], 119), Ce p ([.map (some q.bv), .map (some q.bi), .map (some q.bp), .map (some q.bl)], 129), Mp EmV q.bv q.mv]) [(0, 0), (1, 0), (2, 1), (4, 0), (5, 0), (6, 0), (7, 1), (8, 1), (9, 1), (10, 0), (3, 2), (11, 0), (12, 3), (13, 3), (14, 0)] rfl (by kernel_rfl) (fun c env w => by simp (decide := true) only [EX, not_false_eq_true]) H (fun w H => ?_)
    have H0 : Own [Ce b5 ([.string s.1.1, .int .u64 s.1.2], 119), Ce p ([.map (some q.bv), .map (some q.bi), .map (some q.bp), .map (some q.bl)], 129), Mp EmV q.bv q.mv] w := H.wk
    refine dq_run ?_
    simp (maxSteps := 500000) (decide := true) (disch := omega) only [EV, ↓reduceIte, Nat.reduceAdd, tt12, encN_f, L2]
    refine dq_load H0 rfl ?_
    simp (maxSteps := 500000) (decide := true) (disch := omega) only [EV, ↓reduceIte, Nat.reduceAdd, tt12, encN_f, L2]
    refine dq_load H0 rfl ?_
    simp (maxSteps := 500000) (decide := true) (disch := omega) only [EV, ↓reduceIte, Nat.reduceAdd, tt12, encN_f, L2]
    refine dq_load H0 rfl ?_
    simp (maxSteps := 500000) (decide := true) (disch := omega) only [EV, ↓reduceIte, Nat.reduceAdd, tt12, encN_f, L2]
    refine dq_lookup (E := EmV) s.1 H0 rfl rfl ?_
    rw [hvv]
    simp (maxSteps := 500000) (decide := true) (disch := omega) only [EV, ↓reduceIte, Nat.reduceAdd, tt12, encN_f, L2]
    refine dq_act (by decide) rfl ?_
    refine lq_call rfl ?_
    refine Cl.mono (version2_ok (F := Ce b5 ([.string s.1.1, .int .u64 s.1.2], 119) :: Os 48 encK (.slice aor d.length cr) d :: KeysR d :: Os 119 encN (.slice aoy (keys S.V).length cy) (keys S.V) :: Mp EmI q.bi q.mi :: Mp EmP q.bp q.mp :: Mp EmL q.bl q.ml :: IdsR S.V q.mi :: PlR q.pl q.mp :: F) hq H.wk hg hks) ?_
    rintro _ w ⟨aov, cv, rfl, H⟩
    refine lr_nil ?_
    replace H0 := H.wkTo H0
    refine ⟨fun _ => H0, ?_⟩
    simp (maxSteps := 500000) (decide := true) (disch := omega) only [EV, ↓reduceIte, Nat.reduceAdd, tt12, encN_f, L2]
    refine dq_act (by decide) rfl ?_
    refine lq_bs H rfl rfl (by rfl) rfl (by decide) (fun b29 w H => ?_)
    try simp only [ES, encN_f, L2] at H
    refine lr_nil ?_
    refine ⟨fun hh => absurd hh (by decide), ?_⟩
    simp (maxSteps := 500000) (decide := true) (disch := omega) only [EV, ↓reduceIte, Nat.reduceAdd, tt12, encN_f, L2]
    refine dq_act (by decide) rfl ?_
    refine lq_app1 (enc := encK) (s, (aov, cv)) H rfl rfl rfl (by rw [encK_n]; omega) (fun ao5 c5 w H => ?_)
    refine lr_nil ?_
    refine ⟨fun hh => absurd hh (by decide), ?_⟩
    simp (maxSteps := 500000) (decide := true) (disch := omega) only [EV, ↓reduceIte, Nat.reduceAdd, tt12, encN_f, L2]
    refine dq_nil ?_
    refine h7 _ _ ?_
    refine cw_region (lq_run ?_)
    simp (maxSteps := 500000) (decide := true) (disch := omega) only [EV, ↓reduceIte, Nat.reduceAdd, tt12, encN_f, L2]
    refine lq_nil ?_
    have HF : Own (Os 48 encK (.slice ao5 (d ++ [(s, (aov, cv))]).length c5) (d ++ [(s, (aov, cv))]) :: KeysR (d ++ [(s, (aov, cv))]) :: Os 119 encN (.slice aoy (keys S.V).length cy) (keys S.V) :: Ce p ([.map (some q.bv), .map (some q.bi), .map (some q.bp), .map (some q.bl)], 129) :: Mp EmV q.bv q.mv :: Mp EmI q.bi q.mi :: Mp EmP q.bp q.mp :: Mp EmL q.bl q.ml :: Bag q.rs :: IdsR S.V q.mi :: PlR q.pl q.mp :: F) w := by
      rw [List.length_append]
      have H1 : Own (Os 9 encS (.slice aov s.2.keys.length cv) s.2.keys :: KeysR d :: Os 48 encK (.slice ao5 (d.length + 1) c5) (d ++ [(s, (aov, cv))]) :: Os 119 encN (.slice aoy (keys S.V).length cy) (keys S.V) :: Ce p ([.map (some q.bv), .map (some q.bi), .map (some q.bp), .map (some q.bl)], 129) :: Mp EmV q.bv q.mv :: Mp EmI q.bi q.mi :: Mp EmP q.bp q.mp :: Mp EmL q.bl q.ml :: Bag q.rs :: IdsR S.V q.mi :: PlR q.pl q.mp :: F) w := H.wk
      exact (Own.keysAdd (x := (s, (aov, cv))) H1).swap
    refine Exists.intro (d ++ [(s, (aov, cv))], r2, (ao5, c5)) ⟨⟨(.c (by rw [List.length_append]; rfl) (.c (by rw [List.length_append]; rfl) .n)), (.c rfl (.c rfl (.c rfl (.c rfl .n))))⟩, ⟨by simp [hd], HF⟩, (by simp)⟩
  · skip
    try simp only [HB] at c14
    rw [show (d.length : Int) = ((d.map (·.1)).length : Int) by simp] at c14
    obtain ⟨rfl, hdd⟩ := zip_doneK hd c14
    refine cw_exit ?_
    refine h3 _ _ ?_
    refine cw_seq (fun K9 h9 => ?_)
    refine cw_region (lq_run ?_)
    simp (maxSteps := 500000) (decide := true) (disch := omega) only [EV, ↓reduceIte, Nat.reduceAdd, tt12, encN_f, L2]
    refine lq_nil ?_
    refine h9 _ _ ?_
    refine cw_ret ?_
    try simp (decide := true) only [EX, ↓reduceIte]
    refine ret1 rfl ?_
    refine ⟨d, aor, cr, rfl, hdd.symm, ?_⟩
    exact (Own.stC (p := p) (S := S) (L := Os 48 encK (.slice aor d.length cr) d :: KeysR d :: F) q hq H).wk
end Go.Rp
