/- A part of the proofs of the seat YtdbfejminjaheaaGreatDoor: the abstract machine, the contracts of the functions, the laws. No condition of its own. -/
import Derived.Test.YtdbfejminjaheaaGreatDoorLckB
import Derived.Test.YtdbfejminjaheaaGreatDoorLns
set_option linter.unusedSimpArgs false
set_option linter.unusedVariables false
set_option linter.unusedSectionVars false
open Go Go.Proofs Go.Proofs.Mv.V
set_option maxRecDepth 10000
namespace Go.Proofs.Mv.App
def pkLine (p : Pck) : List UInt8 := p.pkg ++ [32] ++ textV p.ver
theorem okPk_parts {p : Pck} (h : okPk p = true) : p.pkg.length ≤ 20 ∧ mayV p.ver = true := by
  simp only [okPk, Bool.and_eq_true] at h
  exact ⟨small_len h.1, h.2⟩
theorem allN_get {α : Type} {ok : α → Bool} {nm : α → List UInt8} {l : List α} {k i : Nat} (h : allN ok nm l k = true) (hi : i < k) (hl : i < l.length) : ok l[i] = true := by
  unfold allN at h
  rw [List.all_eq_true] at h
  have := h i (by simpa using hi)
  unfold stepN at this
  rw [List.getElem?_eq_getElem hl] at this
  simp only [Bool.and_eq_true] at this
  exact this.1
theorem mayL_parts {l : List Pck} (h : mayL l = true) : l.length ≤ 200 ∧ ∀ i (hi : i < l.length), okPk l[i] = true := by
  simp only [mayL, Bool.and_eq_true, decide_eq_true_eq] at h
  exact ⟨h.2, fun i hi => allN_get h.1 hi hi⟩
def textL (l : List Pck) : List UInt8 := linesF (l.map pkLine)
structure LkPInv (l : List Pck) (SL : List (List D)) (m : Mem) (n : Nat) (i : Nat) (σ : Nat → D) (m2 : Mem) (n2 : Nat) : Prop where
  h0 : σ 0 = .sl 4 SL
  h3 : σ 3 = S (linesF ((l.take i).map pkLine))
  h4 : σ 4 = I i
  le : i ≤ l.length
  mm : m2 = m
  nn : n2 = n
set_option maxHeartbeats 1000000 in
theorem cRLockPrint {l : List Pck} (h : mayL l = true) (m : Mem) (n : Nat) : ACalls Tryz.prog 14 [.sl 4 (l.map pkD)] m n (fun d m' n' => d = S (textL l) ∧ m' = m ∧ n' = n) := by
  obtain ⟨hl, hok⟩ := mayL_parts h
  refine acalls_done (R' := Hq (fun d m' n' => d = S (textL l) ∧ ∀ j, j < n → m' j = m j) tg) ?_ ?_
  · have hL2 : (l.map pkD).length = l.length := by simp
    have hG2 : ∀ i (h : i < l.length), (l.map pkD)[i]? = some (pkD l[i]) := fun i h => by simp [h]
    generalize l.map pkD = SL at hL2 hG2
    have hlen : ∀ i, (linesF ((l.take i).map pkLine)).length ≤ 20000 := fun i => by
      have h1 : (linesF ((l.take i).map pkLine)).length ≤ ((l.take i).map pkLine).length * (90 + 1) := linesF_len fun s hs => by
        obtain ⟨p, hp, rfl⟩ := List.mem_map.1 hs
        obtain ⟨k, hk, rfl⟩ := List.getElem_of_mem (List.mem_of_mem_take hp)
        have h1 := (okPk_parts (hok k hk)).1
        have h2 := textV_len l[k].ver
        simp [pkLine]; omega
      rw [List.length_map, List.length_take] at h1
      omega
    refine acalls_vc [0, 2, 3, 4, 8] Tryz.func14 Tryz.ntmps14 (by kernel_rfl) rfl rfl (by simp) ?_
    simp -dsimp [I, hL2]
    refine vloop_of (β := Nat) (LkPInv l SL m n) (fun i => l.length - i) 0 ⟨by simp, by simp [S, linesF], by simp [I], by omega, rfl, rfl⟩ ?_
    rintro i σ m2 n2 ⟨h0, h3, h4, le, rfl, rfl⟩
    have hli := hlen i
    by_cases hi : (i : Int) < l.length
    · have hi' : i < l.length := by omega
      have wi : IntKind.i64.wrap ((i : Int) + 1) = (i : Int) + 1 := wrap_i64 (by omega) (by omega)
      have hiN : i < SL.length := by omega
      have hgi : SL[i] = pkD l[i] := get_opt (hG2 i hi') hiN
      obtain ⟨t1, t2⟩ := okPk_parts (hok i hi')
      have hc := fun m n => cRPrintV l[i].ver t2 m n
      have t3 := textV_len l[i].ver
      have hsn : linesF ((l.take (i + 1)).map pkLine) = linesF ((l.take i).map pkLine) ++ pkLine l[i] ++ [10] := by
        rw [take_snoc hi', List.map_append, List.map_cons, List.map_nil, linesF_snoc]
      have him : pkD l[i] = S l[i].pkg :: verD l[i].ver := rfl
      have hv3 : verD l[i].ver = [I l[i].ver.major, I l[i].ver.minor, I l[i].ver.patch] := rfl
      have hpl : pkLine l[i] = l[i].pkg ++ [32] ++ textV l[i].ver := rfl
      rw [hpl] at hsn
      clear hpl
      rw [him] at hgi
      generalize l[i].pkg = y1 at t1 hgi hsn
      generalize textV l[i].ver = y2 at t3 hsn hc
      rw [hv3] at hgi hc
      simp -dsimp [h0, h3, h4, I, S, hL2, hi, hi', hiN, hgi]
      refine vdraw_tree [0, 0, 0, 6, 14, 30, 63, 127, 0, 0, 768, 1792, 3840, 7936, 16383, 32767, 65535] (.rd 0 (.rd 1 (.rd 2 (.rd 3 (.rd 4 (.rd 5 (.rd 6 (.rd 7 (.rd 8 (.rd 9 (.rd 10 (.rd 11 (.rd 12 (.wr (.cons 13 (.rd 14 (.rd 15 (.rd 16 (.fin)))) (.nil)))))))))))))))) (by kernel_rfl) (by kernel_rfl) ?_
      simp -dsimp [h0, h3, h4, I, S, hL2, hi, hi', hiN, hgi]
      rw [List.map_take] at hli
      refine ⟨by omega, by omega, ?_⟩
      refine aCall_of (hc _ _) ?_
      rintro d m' n' ⟨rfl, rfl, rfl⟩
      simp -dsimp [h0, h3, h4, I, S, wi]
      refine ⟨by omega, by omega, ?_⟩
      exact ⟨i + 1, by omega, by simp [h0], by rw [hsn]; simp [S], by simp [I], by omega, rfl, rfl⟩
    · have : i = l.length := by omega
      subst this
      rw [List.take_length] at h3
      simp -dsimp [h0, h3, h4, I, S, hL2]
      exact hq ⟨rfl, fun _ _ => rfl⟩
  · rintro d m' n' ⟨rfl, h⟩
    exact ⟨_, (pur_S _).pub, h, rfl⟩
structure LkSInv (SL : List (List D)) (m : Mem) (n : Nat) (q : Nat) (i : Nat) (σ : Nat → D) (m2 : Mem) (n2 : Nat) : Prop where
  h0 : σ 0 = .sl 4 SL
  h1 : σ 1 = .sl 4 SL
  h5 : σ 5 = I i
  le : i ≤ q
  mm : m2 = m
  nn : n2 = n
set_option maxHeartbeats 1000000 in
theorem cSameL {l : List Pck} (hl : l.length ≤ 1000000) (m : Mem) (n : Nat) : ACalls Tryz.prog 18 [.sl 4 (l.map pkD), .sl 4 (l.map pkD)] m n (fun d m' n' => d = Tt true ∧ m' = m ∧ n' = n) := by
  refine acalls_done (R' := Hq (fun d m' n' => d = Tt true ∧ ∀ j, j < n → m' j = m j) tg) ?_ ?_
  · have hL2 : (l.map pkD).length = l.length := by simp
    have hG2 : ∀ i (h : i < l.length), (l.map pkD)[i]? = some (pkD l[i]) := fun i h => by simp [h]
    generalize l.map pkD = SL at hL2 hG2
    refine acalls_vc [0, 1, 4, 5, 10, 14, 25] Tryz.func18 Tryz.ntmps18 (by kernel_rfl) rfl rfl (by simp) ?_
    simp -dsimp [I, hL2]
    refine vloop_of (β := Nat) (LkSInv SL m n l.length) (fun i => l.length - i) 0 ⟨by simp, by simp, by simp [I], by omega, rfl, rfl⟩ ?_
    rintro i σ m2 n2 ⟨h0, h1, h5, le, rfl, rfl⟩
    by_cases hi : (i : Int) < l.length
    · have hi' : i < l.length := by omega
      have wi : IntKind.i64.wrap ((i : Int) + 1) = (i : Int) + 1 := wrap_i64 (by omega) (by omega)
      have hiN : i < SL.length := by omega
      have hgi : SL[i] = pkD l[i] := get_opt (hG2 i hi') hiN
      have him : pkD l[i] = [S l[i].pkg, I l[i].ver.major, I l[i].ver.minor, I l[i].ver.patch] := rfl
      simp -dsimp [h0, h1, h5, I, S, hL2, hi, hi', hiN, hgi, him]
      refine vdraw_of [0, 0, 3, 7, 0, 0, 48, 112, 255] [0, 1, 2, 3, 4, 5, 6, 7, 8] (by kernel_rfl) (by kernel_rfl) ?_
      simp -dsimp [h0, h1, h5, I, S, hL2, hi, hi', hiN, hgi, him, wi]
      exact ⟨i + 1, by omega, by simp [h0], by simp [h1], by simp [I], by omega, rfl, rfl⟩
    · simp -dsimp [h0, h1, h5, I, S, hL2, hi]
      exact hq ⟨rfl, fun _ _ => rfl⟩
  · rintro d m' n' ⟨rfl, h⟩
    exact ⟨_, (pur_T _).pub, h, rfl⟩
end Go.Proofs.Mv.App
