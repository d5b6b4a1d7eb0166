/- A part of the proofs of the seat YtdbfejminjaheaaGreatDoor: the abstract machine, the contracts of the functions, the laws. No condition of its own. -/
import Derived.Test.YtdbfejminjaheaaGreatDoorLckG
set_option linter.unusedSimpArgs false
set_option linter.unusedVariables false
set_option linter.unusedSectionVars false
open Go Go.Proofs Go.Proofs.Mv.V Go.RowKit
set_option maxRecDepth 10000
namespace Go.Proofs.Mv.App
theorem replX : Builder.Extra Tryz.prog Tryz.laysReplAll_ren where
  sizeBuilder := by kernel_rfl
  liesBuilder := by kernel_rfl
  t5 := Tryz.laysReplAll.t5
  a5 := Tryz.laysReplAll.a5
  z5 := Tryz.laysReplAll.z5
  v5 := Tryz.laysReplAll.v5
  infoByte := by kernel_rfl
  cellsByte := by kernel_rfl
  sizeByte := by kernel_rfl
  neB5 := by decide
def noSp (s : List UInt8) : List UInt8 := s.filter fun x => decide (x ≠ 32)
theorem replK_sp : ∀ (s : List UInt8) (k : Nat), Lib.count s [32] = k → Lib.replaceK [32] [] k s = noSp s
  | [], k, h => by
    have : k = 0 := by rw [← h]; rfl
    subst this; rfl
  | x :: s, k, h => by
    by_cases e : x = 32
    · subst e
      rw [Lib.count_cons_eq] at h
      obtain ⟨j, rfl⟩ : ∃ j, k = j + 1 := ⟨k - 1, by omega⟩
      have hi : Lib.index (32 :: s) [32] = 0 := by rw [Lib.index]; simp [List.isPrefixOf]
      have ih := replK_sp s j (by omega)
      rw [Lib.replaceK, hi]
      simp [ih, noSp]
    · rw [Lib.count_cons_ne x 32 s e] at h
      have ih := replK_sp s k h
      have hf : noSp (x :: s) = x :: noSp s := by simp [noSp, e]
      rw [hf, ← ih]
      cases k with
      | zero => rfl
      | succ j =>
        have hp : ([32] : List UInt8).isPrefixOf (x :: s) = false := by simp [List.isPrefixOf, Ne.symm e]
        have hm : Lib.index s [32] ≠ -1 := fun hm => by rw [Lib.count_miss hm] at h; omega
        have hge := Lib.index_ge s [32]
        obtain ⟨q, hq⟩ : ∃ q : Nat, Lib.index s [32] = q := ⟨(Lib.index s [32]).toNat, by omega⟩
        have hix : Lib.index (x :: s) [32] = ((q + 1 : Nat) : Int) := by
          rw [Lib.index, hp]
          simp only [Bool.false_eq_true, if_false]
          rw [if_neg (by simpa using hm), hq]; omega
        have n1 : ¬ (Lib.index (x :: s) [32] == -1) = true := by rw [hix]; simp; omega
        have n2 : ¬ (Lib.index s [32] == -1) = true := by simpa using hm
        rw [Lib.replaceK, if_neg n1, Lib.replaceK, if_neg n2, hix, hq]
        simp
theorem replAll_sp (s : List UInt8) : Lib.replaceAll s [32] [] = noSp s := by
  unfold Lib.replaceAll Lib.replace
  rw [if_neg (by simp)]
  have : Lib.replaceNum s [32] (-1) = Lib.count s [32] := by unfold Lib.replaceNum; rw [if_pos (.inl (by omega))]
  rw [this]
  exact replK_sp s _ rfl
theorem noSp_app (a b : List UInt8) : noSp (a ++ b) = noSp a ++ noSp b := by simp [noSp]
theorem noSp_id {s : List UInt8} (h : ∀ x ∈ s, x ≠ 32) : noSp s = s := by
  unfold noSp; rw [List.filter_eq_self]; simpa using h
theorem noSp_join : ∀ (l : List (List UInt8)), (∀ s ∈ l, ∀ x ∈ s, x ≠ 32) → noSp (joinB [32] l) = l.flatten
  | [], _ => rfl
  | [s], h => by simp only [joinB]; rw [noSp_id (h s (by simp))]; simp
  | s :: t :: r, h => by
    have ih := noSp_join (t :: r) fun u hu => h u (List.mem_cons_of_mem _ hu)
    rw [show joinB [32] (s :: t :: r) = s ++ [32] ++ joinB [32] (t :: r) from rfl, noSp_app, noSp_app, ih, noSp_id (h s (by simp))]
    simp [noSp]
theorem cReplSp (hM : ∀ {w : World} {F : Nat → Prop}, GI.inv w F → ∃ x : Int, w.cell? ⟨2, 0, none⟩ = some (.int .i64 x)) (s : List UInt8) (hs : s.length ≤ 4000000000) (m : Mem) (n : Nat) :
    ACalls Tryz.prog 104 [S s, S [32], S []] m n (fun d m' n' => d = S (noSp s) ∧ m' = m ∧ n' = n) := by
  refine acalls_lib ⟨_, Tryz.func104, by kernel_rfl, by kernel_rfl⟩ fun w ν F vals hst hv => ?_
  obtain ⟨a, b, c, rfl, h1, h2, h3⟩ := conVs_arr3 hv
  simp only [Con, S] at h1 h2 h3
  subst h1; subst h2; subst h3
  obtain ⟨mx, hmx⟩ := hM hst.gi
  have hsz : (ofL s).size = s.length := by show (s.toArray).size = _; simp
  have h0 : (ofL ([] : List UInt8)).size = 0 := rfl
  refine Calls.mono (show Calls Tryz.prog 104 _ _ _ from Any.strings_ReplaceAll { Tryz.laysReplAll with } replX (ofL s) (ofL [32]) (ofL []) mx w (by omega) hmx (by decide) (by rw [h0]; omega)) ?_
  rintro e w' ⟨rfl, hb⟩
  refine ⟨_, rfl, hb, S (noSp s), ?_, rfl, rfl, rfl⟩
  simp only [Con, S]
  have hdl : (ofL s).data.toList = s := rfl
  have h32 : (ofL [32]).data.toList = [32] := rfl
  have hnil : (ofL ([] : List UInt8)).data.toList = [] := rfl
  rw [hdl, h32, hnil, replAll_sp]
  rfl
set_option maxHeartbeats 1000000 in
/-- Tokens' texts, put together. -/
theorem cLexed (hM : ∀ {w : World} {F : Nat → Prop}, GI.inv w F → ∃ x : Int, w.cell? ⟨2, 0, none⟩ = some (.int .i64 x)) {l : List Tok} (hl : l.length ≤ 1000000) (hj : (joinB [32] (l.map (·.text))).length ≤ 4000000000)
    (hsp : ∀ t ∈ l, ∀ x ∈ t.text, x ≠ 32) (m : Mem) (n : Nat) :
    ACalls Tryz.prog 55 [toksD l] m n (fun d m' n' => d = S (l.map (·.text)).flatten ∧ m' = m ∧ n' = n) := by
  refine acalls_done (R' := Hq (fun d m' n' => d = S (l.map (·.text)).flatten ∧ ∀ j, j < n → m' j = m j) tg) ?_ ?_
  · have c1 := fun m n => cLexJoin hl (by omega) m n
    have c2 := fun m n => cReplSp hM (joinB [32] (l.map (·.text))) hj m n
    rw [noSp_join _ (fun s hs x hx => by obtain ⟨t, ht, rfl⟩ := List.mem_map.1 hs; exact hsp t ht x hx)] at c2
    have hT : toksD l = .sl 3 (l.map tokD) := rfl
    rw [hT] at c1 ⊢
    simp only [S] at c2
    generalize l.map tokD = TL at c1
    refine acalls_vc [0, 2] Tryz.func55 Tryz.ntmps55 (by kernel_rfl) rfl rfl (by simp) ?_
    simp -dsimp [I]
    refine aCall_of (c1 _ _) ?_
    rintro d m' n' ⟨rfl, rfl, rfl⟩
    simp -dsimp [S]
    refine aCall_of (c2 _ _) ?_
    rintro d m' n' ⟨rfl, rfl, rfl⟩
    simp -dsimp
    exact hq ⟨rfl, fun _ _ => rfl⟩
  · rintro d m' n' ⟨rfl, h⟩
    exact ⟨_, (pur_S _).pub, h, rfl⟩
end Go.Proofs.Mv.App
