/- A part of the proofs of the seat YtdbfejminjaheaaGreatDoor: the abstract machine, the contracts of the functions, the laws. No condition of its own. -/
import Derived.Test.YtdbfejminjaheaaGreatDoorVerP
import Derived.Test.YtdbfejminjaheaaGreatDoorMvLibB
import Derived.Test.YtdbfejminjaheaaGreatDoorLayV
import Derived.Shelf.Strings.SplitShaped
set_option linter.unusedSimpArgs false
set_option linter.unusedVariables false
set_option linter.unusedSectionVars false
open Go Go.Proofs Go.Proofs.Mv.V Go.RowKit
set_option maxRecDepth 10000
namespace Go.Proofs.Mv.App
theorem splitK_D : ∀ (s : List UInt8) (k : Nat), Lib.count s [46] = k → Lib.splitK [46] 0 k s = splitD s
  | [], k, h => by
    have : k = 0 := by rw [← h]; rfl
    subst this; rfl
  | x :: s, k, h => by
    by_cases e : x = 46
    · subst e
      rw [Lib.count_cons_eq] at h
      obtain ⟨j, rfl⟩ : ∃ j, k = j + 1 := ⟨k - 1, by omega⟩
      have hi : Lib.index (46 :: s) [46] = 0 := by rw [Lib.index]; simp [List.isPrefixOf]
      have ih := splitK_D s j (by omega)
      rw [Lib.splitK, hi, splitD, if_pos rfl]
      simp [ih]
    · rw [Lib.count_cons_ne x 46 s e] at h
      have ih := splitK_D s k h
      rw [splitD, if_neg e, ← ih]
      cases k with
      | zero => rfl
      | succ j =>
        have hp : ([46] : List UInt8).isPrefixOf (x :: s) = false := by simp [List.isPrefixOf, Ne.symm e]
        have hm : Lib.index s [46] ≠ -1 := fun hm => by rw [Lib.count_miss hm] at h; omega
        have hge := Lib.index_ge s [46]
        obtain ⟨q, hq⟩ : ∃ q : Nat, Lib.index s [46] = q := ⟨(Lib.index s [46]).toNat, by omega⟩
        have hix : Lib.index (x :: s) [46] = ((q + 1 : Nat) : Int) := by
          rw [Lib.index, hp]
          simp only [Bool.false_eq_true, if_false]
          rw [if_neg (by simpa using hm), hq]; omega
        have n1 : ¬ (Lib.index (x :: s) [46] == -1) = true := by rw [hix]; simp; omega
        have n2 : ¬ (Lib.index s [46] == -1) = true := by simpa using hm
        rw [Lib.splitK, if_neg n1, Lib.splitK, if_neg n2, hix, hq]
        simp
/-- Texts laid out in one block read as a list of texts. -/
theorem conEs_txt {w : World} {ν : Nu} {F : Nat → Prop} {b : Nat} : ∀ (ss : List (List UInt8)) (o : Nat), (∀ i (h : i < ss.length), w.cell? ⟨b, o + i, none⟩ = some (.string (ofL ss[i]))) → ConEs w ν F 1 (ss.map fun s => [S s]) b o
  | [], _, _ => by simp [ConEs]
  | s :: ss, o, h => by
    simp only [List.map_cons, ConEs, ConCs]
    refine ⟨rfl, ⟨⟨_, by simpa using h 0 (by simp), rfl, by simp [Con, S]⟩, trivial⟩, conEs_txt ss (o + 1) fun i hi => ?_⟩
    have := h (i + 1) (by simpa using hi)
    rw [show o + 1 + i = o + (i + 1) by omega, this]
    simp
section
variable [GI]
/-- strings.Split at a dot: the library's variable MaxLen holds a number, whatever it is. -/
theorem cSplit (hM : ∀ {w : World} {F : Nat → Prop}, GI.inv w F → ∃ x : Int, w.cell? ⟨2, 0, none⟩ = some (.int .i64 x)) (s : List UInt8) (hs : s.length ≤ 4000000000) (m : Mem) (n : Nat) :
    ACalls Tryz.prog 102 [S s, S [46]] m n (fun d m' n' => d = sl1 (splitD s) ∧ m' = m ∧ n' = n) := by
  refine acalls_libF ⟨_, Tryz.func102, by kernel_rfl, by kernel_rfl⟩ fun w ν F vals hst hv => ?_
  obtain ⟨a, b, rfl, h1, h2⟩ := conVs_arr2 hv
  simp only [Con, S] at h1 h2
  subst h1; subst h2
  obtain ⟨mx, hmx⟩ := hM hst.gi
  have hsz : (ofL s).size = s.length := by show (s.toArray).size = _; simp
  have hdl : (ofL s).data.toList = s := rfl
  have hparts : (Lib.splitB (ofL [46]) 0 (Lib.countB (ofL s) (ofL [46])) (ofL s)).map (fun x => x.data.toList) = splitD s := by
    rw [Lib.splitB_data]
    exact splitK_D s _ rfl
  have hlen : (splitD s).length = Lib.countB (ofL s) (ofL [46]) + 1 := by
    rw [← hparts, List.length_map, Lib.splitB_all (ofL [46]) (by decide) 0 _ _ rfl]
  refine Calls.mono (show Calls Tryz.prog 102 _ _ _ from Any.strings_Split { Tryz.laysSplit with } Tryz.laysSplit.i9 (ofL s) (ofL [46]) mx w (by omega) hmx (by decide)) ?_
  rintro e w' ⟨rfl, rfl⟩
  refine ⟨_, rfl, Below.alloc (Below.refl _ _) (Nat.le_refl _) _, fun b => F b ∨ b = w.heap.size, fun b h => .inl h, fun b h => ?_, sl1 (splitD s), ?_, rfl, rfl, rfl⟩
  · rcases h with h | rfl
    · exact .inl h
    · exact .inr ⟨Nat.le_refl _, by show w.heap.size < (w.heap.push _).size; rw [Array.size_push]; exact Nat.lt_succ_self _⟩
  · simp only [sl1, Con]
    refine .inl ⟨w.heap.size, 0, _, by rw [List.length_map, hlen], by rw [List.length_map, hlen]; exact Nat.le_refl _, .inr rfl, conEs_txt _ _ fun i hi => ?_⟩
    rw [Nat.zero_add, World.cell?_alloc_new]
    have hi2 : i < (Lib.splitB (ofL [46]) 0 (Lib.countB (ofL s) (ofL [46])) (ofL s)).length := by
      have := congrArg List.length hparts
      rw [List.length_map] at this; omega
    have hg : (splitD s)[i] = (Lib.splitB (ofL [46]) 0 (Lib.countB (ofL s) (ofL [46])) (ofL s))[i].data.toList := by
      have := List.getElem_of_eq hparts.symm hi
      rw [this, List.getElem_map]
    rw [hg]
    simp [hi2]
    generalize (Lib.splitB (ofL [46]) 0 (Lib.countB (ofL s) (ofL [46])) (ofL s))[i] = y
    obtain ⟨⟨y⟩⟩ := y
    rfl
end
end Go.Proofs.Mv.App
