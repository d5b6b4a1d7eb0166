/- A part of the proofs of the seat YtbgkkoloflcnbaaGreatDoor: the abstract machine, the contracts of the functions, the laws. No condition of its own. -/
import Derived.Test.YtbgkkoloflcnbaaGreatDoorSynR
set_option linter.unusedSimpArgs false
set_option linter.unusedVariables false
set_option linter.unusedSectionVars false
open Go Go.Proofs Go.Proofs.Mv.V
set_option maxRecDepth 10000
namespace Go.Proofs.Mv.App
theorem typS_sm (l : List Tok) (p : PS) : TySm (typS l p).1 := by
  unfold typS; split
  · split
    · exact Ty0_sm
    · exact atF_sm _ _
  · exact Ty0_sm
theorem declF_sm (l : List Tok) (p : PS) : TySm (declF l p).1.typ := by
  unfold declF; split
  · exact Ty0_sm
  · split
    · exact Ty0_sm
    · split <;> exact typS_sm _ _
theorem declsF_sm {l : List Tok} : ∀ (k : Nat) (acc : List Dcl) (p : PS), (∀ d ∈ acc, TySm d.typ) → (declsF l k acc p).1.length ≤ acc.length + k ∧ ∀ d ∈ (declsF l k acc p).1, TySm d.typ
  | 0, acc, p, h => ⟨by simp [declsF], h⟩
  | k + 1, acc, p, h => by
    simp only [declsF]
    split
    · split
      · exact ⟨by simp only; omega, h⟩
      · have := declsF_sm (l := l) k (acc ++ [(declF l p).1]) (declF l p).2 (fun d hd => by
          rcases List.mem_append.1 hd with hd | hd
          · exact h d hd
          · simp only [List.mem_singleton] at hd; rw [hd]; exact declF_sm l p)
        refine ⟨?_, this.2⟩
        have h1 := this.1
        rw [List.length_append] at h1
        simp only [List.length_singleton] at h1
        omega
    · exact ⟨by simp only; omega, h⟩
theorem impsF_len {l : List Tok} : ∀ (k : Nat) (acc : List Imp) (p : PS), (impsF l k acc p).1.length ≤ acc.length + k
  | 0, acc, p => by simp [impsF]
  | k + 1, acc, p => by
    simp only [impsF]
    split
    · split
      · simp only; omega
      · have h1 := impsF_len (l := l) k (acc ++ [(impF l (stepF p)).1]) (impF l (stepF p)).2
        rw [List.length_append] at h1
        simp only [List.length_singleton] at h1
        omega
    · simp only; omega
theorem Md0_sm : MdSm Md0 := ⟨by simp [Md0], by simp [Md0], by simp [Md0]⟩
theorem modF_sm (s : List UInt8) : MdSm (modF s).1 := by
  unfold modF; split
  · exact Md0_sm
  · split
    · exact Md0_sm
    · split
      · have h1 := impsF_len (l := (toksAt s 0).1) 21 [] (nameP (toksAt s 0).1).2
        have h2 := declsF_sm (l := (toksAt s 0).1) 61 [] (impsP (toksAt s 0).1).2 (by simp)
        simp only [List.length_nil] at h1 h2
        exact ⟨by show (impsF _ 21 [] _).1.length ≤ 1000; omega, by show (declsF _ 61 [] _).1.length ≤ 1000; omega, h2.2⟩
      · exact Md0_sm
theorem mod_spot {s : List UInt8} {a : Int} {c : Nat} (h : (modF s).2 = .spot a c) : c ≠ 0 ∧ (modF s).1 = Md0 := by
  unfold modF at h ⊢
  split at h
  · cases h
  · rename_i h1
    rw [if_neg h1]
    split at h
    · simp only [PErr.spot.injEq] at h
      exact ⟨by omega, rfl⟩
    · split at h
      · cases h
      · rename_i hb
        simp only [if_neg hb] at h ⊢
        simp only [PErr.spot.injEq] at h
        exact ⟨by omega, trivial⟩
theorem mod_large {s : List UInt8} (h1 : ¬ 20000 < s.length) : (modF s).2 ≠ .large := by
  intro h
  unfold modF at h
  rw [if_neg h1] at h
  split at h
  · cases h
  · split at h <;> cases h
def tm1 : List UInt8 := [109, 111, 100, 117, 108, 101, 32, 109, 32, 111, 112, 97, 113, 117, 101, 32, 84, 32, 118, 97, 108, 32, 102, 32, 58, 32, 40, 84, 41, 32, 45, 62, 32, 73, 110, 116]
def tm2 : List UInt8 := [109, 111, 100, 117, 108, 101, 32, 109, 32, 111, 112, 97, 113, 117, 101, 32, 116]
theorem m1e : (modF tm1).2 = .none := by rfl
theorem m1n : (modF tm1).1.name = [109] := by rfl
theorem m1k : (modF tm1).1.decls.map (·.kind) = [1, 4] := by rfl
theorem m2e : modF tm2 = (Md0, .spot 3 2) := by rfl
theorem le_md0 {d : D} : LeL [d, .agg [S [], .v (.slice none 0 0), .v (.slice none 0 0)]] [d, .agg (mdD Md0)] := by
  simp only [mdD, Md0, List.map_nil]
  exact .cons (Le.refl _) (.cons (Le_agg (.cons (Le.refl _) (.cons (Le_nil 4) (.cons (Le_nil 9) .nil)))) .nil)
set_option maxHeartbeats 1000000 in
theorem cUpS (m : Mem) (n : Nat) : ACalls Tryz.prog 27 [] m n (fun d m' n' => d = Tt true ∧ m' = m ∧ n' = n) := by
  refine acalls_done (R' := Hq (fun d m' n' => d = Tt true ∧ ∀ j, j < n → m' j = m j) tg) ?_ ?_
  · have nn1 : n ≠ n + 1 := by omega
    have n1n : n + 1 ≠ n := by omega
    refine acalls_vc [0, 1, 2, 4] Tryz.func27 Tryz.ntmps27 (by kernel_rfl) rfl rfl (by simp) ?_
    simp -dsimp
    refine aCall_of (cYParse tm1 _ _) ?_
    rintro d m' n' ⟨rfl, rfl, rfl⟩
    have h1 := m1e
    have h2 := m1n
    have h3 := m1k
    generalize modF tm1 = A at h1 h2 h3 ⊢
    obtain ⟨⟨nm, is, ds⟩, e⟩ := A
    simp only at h1 h2 h3
    subst h1; subst h2
    have hlen : ds.length = 2 := by have := congrArg List.length h3; simpa using this
    obtain ⟨d1, d2, rfl⟩ : ∃ d1 d2, ds = [d1, d2] := by
      match ds, hlen with
      | [a, b], _ => exact ⟨a, b, rfl⟩
    · simp only [List.map_cons, List.map_nil, List.cons.injEq, and_true] at h3
      have hd2 : dclD d2 = I 4 :: S d2.name :: tyD d2.typ := by rw [← h3.2]; rfl
      have hln : ∀ x, (mdD x).length = 3 := fun _ => rfl
      simp -dsimp [hln]
      refine aCall_of (cYParse tm2 _ _) ?_
      rintro d m2 n2 ⟨rfl, rfl, rfl⟩
      rw [m2e]
      simp -dsimp [errP, nilE, mdD, I, S, set_ne, nn1, n1n, hd2]
      refine aCall_of (cIsLaw 3 2 _ _) ?_
      rintro d m3 n3 ⟨rfl, rfl, rfl⟩
      simp -dsimp [Tt]
      refine hq ⟨rfl, fun j hj => ?_⟩
      have j1 : j ≠ n' := by omega
      have j2 : j ≠ n' + 1 := by omega
      simp [set_ne, j1, j2]
  · rintro d m' n' ⟨rfl, h⟩
    exact ⟨_, (pur_T _).pub, h, rfl⟩
set_option maxHeartbeats 1000000 in
theorem cSyntaxParses (s : List UInt8) (m : Mem) (n : Nat) : ACalls Tryz.prog 6 [S s] m n (fun d m' n' => d = Tt true ∧ m' = m ∧ n' = n) := by
  refine acalls_done (R' := Hq (fun d m' n' => d = Tt true ∧ ∀ j, j < n → m' j = m j) tg) ?_ ?_
  · have nn1 : n ≠ n + 1 := by omega
    have n1n : n + 1 ≠ n := by omega
    have hsm := modF_sm s
    have hln : ∀ x, (mdD x).length = 3 := fun _ => rfl
    refine acalls_vc [0, 2, 3, 4, 5, 6, 7, 8, 17, 36] Tryz.func6 Tryz.ntmps6 (by kernel_rfl) rfl rfl (by simp) ?_
    simp -dsimp
    refine aCall_of (cUpS _ _) ?_
    rintro d m' n' ⟨rfl, rfl, rfl⟩
    simp -dsimp
    refine aCall_of (cYParse s _ _) ?_
    rintro d m' n' ⟨rfl, rfl, rfl⟩
    by_cases h1 : 20000 < s.length
    · have hp : modF s = (Md0, .large) := by rw [modF, if_pos h1]
      rw [hp]
      have h1' : (20000 : Int) < s.length := by omega
      simp -dsimp [S, h1, h1', errP, code, I, Tt, set_ne, nn1, n1n, hln]
      refine aCall_le le_md0 ?_
      refine aCall_of (cSameM Md0_sm _ _) ?_
      rintro d m3 n3 ⟨rfl, rfl, rfl⟩
      simp -dsimp [Tt]
      refine hq ⟨rfl, fun j hj => ?_⟩
      have j1 : j ≠ n' := by omega
      simp [set_ne, j1]
    have h1' : ¬ (20000 : Int) < s.length := by omega
    simp -dsimp [S, h1, h1', hln]
    refine aCall_of (cYParseR s h1 _ _) ?_
    rintro d m2 n2 ⟨rfl, rfl, rfl⟩
    have hsp := fun a c => mod_spot (s := s) (a := a) (c := c)
    have hlg := mod_large h1
    generalize modF s = P at hsm hsp hlg ⊢
    obtain ⟨t, e⟩ := P
    cases e with
    | large => exact absurd rfl hlg
    | none =>
      simp -dsimp [badP, placeP, errP, nilE, I, Tt, set_ne, nn1, n1n, hln]
      refine aCall_of (cSameM hsm _ _) ?_
      rintro d m3 n3 ⟨rfl, rfl, rfl⟩
      simp -dsimp [Tt]
      refine hq ⟨rfl, fun j hj => ?_⟩
      have j1 : j ≠ n' := by omega
      have j2 : j ≠ n' + 1 := by omega
      simp [set_ne, j1, j2]
    | spot a c =>
      obtain ⟨hc, ht⟩ := hsp a c rfl
      simp only at ht
      subst ht
      have hc' : ((c : Int) != 0) = true := by simp; omega
      simp -dsimp [badP, placeP, errP, I, Tt, set_ne, nn1, n1n, hc, hc', hln]
      refine aCall_of (cIsLaw a c _ _) ?_
      rintro d m3 n3 ⟨rfl, rfl, rfl⟩
      simp -dsimp [Tt, set_ne, nn1, n1n, I, hln]
      refine aCall_le le_md0 ?_
      refine aCall_of (cSameM Md0_sm _ _) ?_
      rintro d m4 n4 ⟨rfl, rfl, rfl⟩
      simp -dsimp [Tt]
      refine hq ⟨rfl, fun j hj => ?_⟩
      have j1 : j ≠ n' := by omega
      have j2 : j ≠ n' + 1 := by omega
      simp [set_ne, j1, j2]
  · rintro d m' n' ⟨rfl, h⟩
    exact ⟨_, (pur_T _).pub, h, rfl⟩
end Go.Proofs.Mv.App
