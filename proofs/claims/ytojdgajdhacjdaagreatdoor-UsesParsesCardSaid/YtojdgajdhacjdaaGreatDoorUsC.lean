/- A part of the proofs of the seat YtojdgajdhacjdaaGreatDoor: the abstract machine, the contracts of the functions, the laws. No condition of its own. -/
import Derived.Test.YtojdgajdhacjdaaGreatDoorUs
import Derived.Test.YtojdgajdhacjdaaGreatDoorSynR
import Derived.Test.YtojdgajdhacjdaaGreatDoorRef
import Derived.Test.YtojdgajdhacjdaaGreatDoorMvPc
import Derived.Test.YtojdgajdhacjdaaGreatDoorUsUp
set_option linter.unusedSimpArgs false
set_option linter.unusedVariables false
set_option linter.unusedSectionVars false
open Go Go.Proofs Go.Proofs.Mv.V
set_option maxRecDepth 10000
namespace Go.Proofs.Mv.App
structure VImp (l : List Tok) (p1 : PS) (m : Mem) (n : Nat) (k : Nat) (σ : Nat → D) (m' : Mem) (n' : Nat) : Prop where
  h2 : σ 2 = .ptr n 0 0 0
  h4 : σ 5 = toksD l
  h6 : σ 7 = .ptr (n + 1) 0 0 0
  h7 : σ 8 = .ptr (n + 1 + 1) 0 0 0
  nn : n + 1 + 1 + 1 ≤ n'
  fr : ∀ j, j < n → m' j = m j
  m2 : m' n = some ⟨2, [[.v (.slice none 0 0), .v (.slice none 0 0)]], 0⟩
  ex : ∃ acc acc0 p dI, k + acc.length = 21 ∧ acc.length ≤ 20 ∧ acc0.length = acc.length ∧ (p.bad = 0 → acc = acc0) ∧ impsF l 21 [] p1 = impsF l k acc0 p ∧ m' (n + 1) = some (yObj l p) ∧
    m' (n + 1 + 1) = some ⟨2, [[dI, .v (.slice none 0 0)]], 0⟩ ∧ Lst m' 4 (acc.map impD) dI ∧ ∀ j, kof dI = some j → n + 1 + 1 + 1 ≤ j ∧ j < n'
structure VMid (l : List Tok) (is : List Imp) (p : PS) (m : Mem) (n : Nat) (σ : Nat → D) (m' : Mem) (n' : Nat) : Prop where
  h2 : σ 2 = .ptr n 0 0 0
  h4 : σ 5 = toksD l
  h6 : σ 7 = .ptr (n + 1) 0 0 0
  h7 : σ 8 = .ptr (n + 1 + 1) 0 0 0
  nn : n + 1 + 1 + 1 ≤ n'
  fr : ∀ j, j < n → m' j = m j
  m2 : m' n = some ⟨2, [[.v (.slice none 0 0), .v (.slice none 0 0)]], 0⟩
  mo : m' (n + 1) = some (yObj l p)
  ex : ∃ acc dI, (p.bad = 0 → acc = is) ∧ m' (n + 1 + 1) = some ⟨2, [[dI, .v (.slice none 0 0)]], 0⟩ ∧ Lst m' 4 (acc.map impD) dI ∧ ∀ j, kof dI = some j → n + 1 + 1 + 1 ≤ j ∧ j < n'
structure VLin (l : List Tok) (is : List Imp) (dI : D) (p1 : PS) (m : Mem) (n : Nat) (k : Nat) (σ : Nat → D) (m' : Mem) (n' : Nat) : Prop where
  h2 : σ 2 = .ptr n 0 0 0
  h4 : σ 5 = toksD l
  h6 : σ 7 = .ptr (n + 1) 0 0 0
  h7 : σ 8 = .ptr (n + 1 + 1) 0 0 0
  nn : n + 1 + 1 + 1 ≤ n'
  fr : ∀ j, j < n → m' j = m j
  m2 : m' n = some ⟨2, [[.v (.slice none 0 0), .v (.slice none 0 0)]], 0⟩
  li : Lst m' 4 (is.map impD) dI
  ki : ∀ j, kof dI = some j → n + 1 + 1 + 1 ≤ j ∧ j < n'
  ex : ∃ acc p dD, k + acc.length = 61 ∧ acc.length ≤ 60 ∧ linesF l 61 [] p1 = linesF l k acc p ∧ m' (n + 1) = some (yObj l p) ∧
    m' (n + 1 + 1) = some ⟨2, [[dI, dD]], 0⟩ ∧ Lst m' 10 (acc.map lnD) dD ∧ ∀ j, kof dD = some j → n + 1 + 1 + 1 ≤ j ∧ j < n' ∧ kof dI ≠ some j
structure VGo (l : List Tok) (p : PS) (n : Nat) (m2 : Mem) (n2 : Nat) (σ : Nat → D) (m' : Mem) (n' : Nat) : Prop where
  h2 : σ 2 = .ptr n 0 0 0
  h4 : σ 5 = toksD l
  h6 : σ 7 = .ptr (n + 1) 0 0 0
  h7 : σ 8 = .ptr (n + 1 + 1) 0 0 0
  ky : isLine l p = true
  mm : m' = m2
  nn : n' = n2
structure VMid2 (l : List Tok) (is : List Imp) (dI : D) (ds : List Ln) (p : PS) (m : Mem) (n : Nat) (σ : Nat → D) (m' : Mem) (n' : Nat) : Prop where
  h2 : σ 2 = .ptr n 0 0 0
  h4 : σ 5 = toksD l
  h6 : σ 7 = .ptr (n + 1) 0 0 0
  h7 : σ 8 = .ptr (n + 1 + 1) 0 0 0
  nn : n + 1 + 1 + 1 ≤ n'
  fr : ∀ j, j < n → m' j = m j
  m2 : m' n = some ⟨2, [[.v (.slice none 0 0), .v (.slice none 0 0)]], 0⟩
  li : Lst m' 4 (is.map impD) dI
  ki : ∀ j, kof dI = some j → n + 1 + 1 + 1 ≤ j ∧ j < n'
  mo : m' (n + 1) = some (yObj l p)
  ex : ∃ dD, m' (n + 1 + 1) = some ⟨2, [[dI, dD]], 0⟩ ∧ Lst m' 10 (ds.map lnD) dD ∧ ∀ j, kof dD = some j → n + 1 + 1 + 1 ≤ j ∧ j < n' ∧ kof dI ≠ some j
theorem ueP_ul {l : List Tok} (h : (ulP l).2.bad ≠ 0) : ueP l = (ulP l).2 := by
  unfold ueP; split
  · exact failS_bad h
  · rfl
theorem ulP_ui {l : List Tok} (h : (uiP l).2.bad ≠ 0) : ulP l = ([], (uiP l).2) := by
  simp [ulP, linesF, isLine, isKey_bad h]
theorem ueP_ui {l : List Tok} (h : (uiP l).2.bad ≠ 0) : ueP l = (uiP l).2 := by
  have e := ulP_ui h
  rw [ueP_ul (by rw [e]; exact h), e]
set_option maxHeartbeats 4000000 in
theorem cUParseR (s : List UInt8) (hs : ¬ 20000 < s.length) (m : Mem) (n : Nat) : ACalls Tryz.prog 8 [S s] m n (fun d m' n' => d = .tup [.agg (usD (usesF s).1), I (badP (usesF s).2), I (placeP (usesF s).2)] ∧ m' = m ∧ n' = n) := by
  refine acalls_done (R' := Hq (fun d m' n' => (∃ dt, d = .tup [dt, I (badP (usesF s).2), I (placeP (usesF s).2)] ∧ PubAs n m' dt (.agg (usD (usesF s).1))) ∧ ∀ j, j < n → m' j = m j) tg) ?_ ?_
  · have nn1 : n ≠ n + 1 := by omega
    have n1n : n + 1 ≠ n := by omega
    have pub0 : ∀ m', PubAs n m' (.agg [.v (.slice none 0 0), .v (.slice none 0 0)]) (.agg (usD Us0)) := fun m' => by
      simp only [usD, Us0, List.map_nil]
      exact .agg (.cons (pub_nil 4) (.cons (pub_nil 10) .nil))
    refine acalls_vcC [0, 2, 3, 4, 5, 6, 7, 8, 9, 16, 23, 27, 45, 49, 57, 73, 106, 114] Tryz.func8 Tryz.ntmps8 (by kernel_rfl) rfl rfl (by simp) ?_
    simp -dsimp
    refine aCall_of (cRefTokens s (by omega) _ _) ?_
    rintro d m' n' ⟨rfl, rfl, rfl⟩
    have hl := toks_tk (s := s) (by omega)
    have hp : usesF s = (match (toksAt s 0).2 with
    | some a => (Us0, .spot a 2)
    | Option.none => if (ueP (toksAt s 0).1).bad = 0 then (⟨(uiP (toksAt s 0).1).1, (ulP (toksAt s 0).1).1⟩, .none)
      else (Us0, .spot (ueP (toksAt s 0).1).cnt (ueP (toksAt s 0).1).bad)) := by rw [usesF, if_neg hs]; rfl
    rw [hp]
    generalize toksAt s 0 = T at hl ⊢
    obtain ⟨l, o⟩ := T
    cases o with
    | some a =>
      have ha : (0 : Int) ≤ a := by omega
      simp -dsimp [I, ha]
      refine hq ⟨⟨_, rfl, pub0 _⟩, fun j hj => ?_⟩
      have j1 : j ≠ n := by omega
      simp [set_ne, j1]
    | none =>
      simp only at hl ⊢
      have e0 : (⟨3, [[.sl 3 (l.map tokD), .v (.int .i64 0), .v (.int .i64 0)]], 0⟩ : V.Obj) = yObj l ⟨0, 0, 0⟩ := by simp [yObj, yC, plc, I, toksD]
      have nn2 : n ≠ n + 1 + 1 := by omega
      have n12 : n + 1 ≠ n + 1 + 1 := by omega
      have n21 : n + 1 + 1 ≠ n + 1 := by omega
      have n2n : n + 1 + 1 ≠ n := by omega
      simp -dsimp [I, S, -vc_block, set_ne, nn1, n1n]
      rw [e0]
      refine vc_mid (VMid l (uiP l).1 (uiP l).2 m n) ?_ ?_
      · rw [vc_block]
        simp -dsimp [-vc_block]
        refine vloop_of (β := Nat) (VImp l ⟨0, 0, 0⟩ m n) (fun b => b) 21 ⟨by simp, by simp [toksD], by simp, by simp, by omega, fun j hj => ?_, ?_, [], [], ⟨0, 0, 0⟩, .v (.slice none 0 0), rfl, by simp, rfl, fun _ => rfl, rfl, ?_, ?_, by simpa using Lst.nil, by simp⟩ ?_
        · have j1 : j ≠ n := by omega
          have j2 : j ≠ n + 1 := by omega
          have j3 : j ≠ n + 1 + 1 := by omega
          simp [set_ne, j1, j2, j3]
        · simp [set_ne, nn1, nn2, S, I]
        · simp [set_ne, n12, nn1]
        · simp [S, set_ne, n21]
        rintro rem σ m2 n2 ⟨g2, g4, g6, g7, nn, fr, m2n, acc, acc0, p, dI, hrem, hle, hlen, hacc, hmod, hmk, hm7, hL, hkk⟩
        have hlen2 := lenD_lst hL
        rw [List.length_map] at hlen2
        have hk2 : n + 1 < n2 := by omega
        simp -dsimp [-vc_block, g2, g4, g6, g7]
        refine aCall_of (cYKey (p := p) wImp hmk) ?_
        rintro d m3 n3 ⟨rfl, rfl, rfl⟩
        cases hkey : isKey wImp l p
        case false =>
          simp -dsimp [-vc_block, Tt]
          have hend : uiP l = (acc0, p) := by
            rw [uiP, hmod]; cases rem with
            | zero => rfl
            | succ r => simp [impsF, hkey]
          exact ⟨by simp [g2], by simp [g4], by simp [g6], by simp [g7], nn, fr, m2n, by rw [hend]; exact hmk, acc, dI, by rw [hend]; exact hacc, hm7, hL, hkk⟩
        obtain ⟨hpb, hpa⟩ := key_ok hl hkey
        have hae := hacc hpb
        subst hae
        obtain ⟨r, rfl⟩ : ∃ r, rem = r + 1 := ⟨rem - 1, by omega⟩
        simp -dsimp [-vc_block, Tt]
        rw [vc_block]
        by_cases h20 : acc.length = 20
        · have h20b : ((acc.length : Int) == 20) = true := by simp; omega
          have hend : uiP l = (acc, failS 3 p) := by rw [uiP, hmod]; simp [impsF, hkey, h20]
          have hE : ueP l = failS 3 p := by rw [ueP_ui (by rw [hend]; simp [failS, hpb]), hend]
          rw [hE]
          have hfb : (failS 3 p).bad ≠ 0 := by simp [failS, hpb]
          rw [if_neg hfb]
          have hmx : m3 (n + 1) = some ⟨3, [[toksD l, .v (.int .i64 p.at_), .v (.int .i64 0)]], 0⟩ := by rw [hmk, yObj_ok hpb]
          simp -dsimp [g2, g4, g6, g7, hm7, hlen2, h20b, hmx, m2n]
          refine vdraw_of [0, 0, 2, 6, 14, 1, 33, 127] [0, 1, 2, 3, 4, 5, 6, 7] (by kernel_rfl) (by kernel_rfl) ?_
          simp -dsimp [g2, g4, g6, g7, hmx, m2n]
          refine hq ⟨⟨_, by simp [badP, placeP, failS, hpb, I], pub0 _⟩, fun j hj => ?_⟩
          have j1 : j ≠ n := by omega
          simp [set_ne, j1]; exact fr j hj
        have h20b : ((acc.length : Int) == 20) = false := by simp; omega
        have h20' : ¬ 20 ≤ acc.length := by omega
        simp -dsimp [-vc_block, g2, g4, g6, g7, hm7, hlen2, h20b]
        refine vdraw_tree [0, 1, 0, 4, 12, 31, 63, 127] (.rd 0 (.rd 1 (.rd 2 (.wr (.cons 3 (.wr (.cons 4 (.wr (.cons 5 (.rd 6 (.wr (.cons 7 (.fin) (.nil)))) (.nil))) (.nil))) (.nil)))))) (by kernel_rfl) (by kernel_rfl) ?_
        simp -dsimp [-vc_block, g2, g4, g6, g7, hm7, hlen2, set_ne, n21, n12]
        refine aCall_of (cYImpR hl hpb hpa (by omega) hmk) ?_
        rintro d m4 n4 ⟨rfl, rfl, rfl⟩
        have kn3 : n4 ≠ n + 1 := by omega
        have kn4 : n4 ≠ n + 1 + 1 := by omega
        have nk3 : n + 1 ≠ n4 := by omega
        have nk4 : n + 1 + 1 ≠ n4 := by omega
        have hx := @impR_ok l (stepF p)
        generalize impR l (stepF p) = x at hx ⊢
        have hil : (impD x).length = 4 := rfl
        simp -dsimp [-vc_block, g2, g4, g6, g7, hm7, set_ne, n21, n12, kn3, kn4, nk3, nk4, hil]
        refine b4_append (hL.frame fun j hj => ?_) (fun j hj => by have := hkk j hj; omega) trivial trivial (by omega) (by simp; omega) ?_
        · have := hkk j hj
          rw [set_ne _ _ _ _ (by omega), set_ne _ _ _ _ (by omega)]
        intro d5 m5 n5 p1 p2 p3 p4
        have q4 : ∀ j, j < n4 → j ≠ n + 1 → kof dI ≠ some j → m5 j = m3 j := fun j h1 h2 h3 => by rw [p4 j (by omega) h3, set_ne _ _ _ _ (by omega), set_ne _ _ _ _ h2]
        have nd : ∀ j, j < n + 1 + 1 + 1 → kof dI ≠ some j := fun j hj e => by have := hkk j e; omega
        have e7 : m5 (n + 1 + 1) = some ⟨2, [[dI, .v (.slice none 0 0)]], 0⟩ := by rw [q4 _ (by omega) n21 (nd _ (by omega))]; exact hm7
        have ek : m5 (n + 1) = some (yObj l (impF l (stepF p)).2) := by rw [p4 _ (by omega) (nd _ (by omega)), set_ne _ _ _ _ (by omega), set_same]
        have ok5 := okD_lst p1
        simp -dsimp [-vc_block, g2, g4, g6, g7, e7, ok5, S]
        have hkd : ∀ j, kof d5 = some j → n + 1 + 1 + 1 ≤ j ∧ j < n5 := fun j hj => by
          have := p3 j hj
          rcases this.2 with e | e
          · have := hkk j e; omega
          · omega
        refine ⟨r, by omega, by simp, by simp, by simp, by simp, by omega, fun j hj => ?_, ?_, acc ++ [x], acc ++ [(impF l (stepF p)).1], (impF l (stepF p)).2, d5, by simp; omega, by simp; omega, by simp, fun h => by rw [hx h], ?_, ?_, by simp [S], ?_, hkd⟩
        · rw [set_ne _ _ _ _ (by omega), q4 j (by omega) (by omega) (nd j (by omega))]; exact fr j hj
        · rw [set_ne _ _ _ _ nn2, q4 n (by omega) nn1 (nd n (by omega))]; exact m2n
        · rw [hmod]; simp [impsF, hkey, h20']
        · rw [set_ne _ _ _ _ n12]; exact ek
        · rw [List.map_append]
          exact p1.frame fun j hj => set_ne _ _ _ _ (by have := hkd j hj; omega)
      rintro σ0 m0 n0 ⟨g2, g4, g6, g7, nn, fr, m2n, mo, is, dI, hiso, hm7, hLi, hki⟩
      simp -dsimp [-vc_block, g2, g4, g6, g7]
      refine vc_mid (VMid2 l is dI (ulP l).1 (ulP l).2 m n) ?_ ?_
      · rw [vc_block]
        simp -dsimp [-vc_block]
        refine vloop_of (β := Nat) (VLin l is dI (uiP l).2 m n) (fun b => b) 61 ⟨by simp [g2], by simp [g4], by simp [g6], by simp [g7], nn, fr, m2n, hLi, hki, [], (uiP l).2, .v (.slice none 0 0), rfl, by simp, rfl, mo, hm7, by simpa using Lst.nil, by simp⟩ ?_
        rintro rem σ m2 n2 ⟨g2, g4, g6, g7, nn, fr, m2n, hLi, hki, acc, p, dD, hrem, hle, hmod, hmk, hm7, hL, hkk⟩
        have hk2 : n + 1 < n2 := by omega
        have hlen2 := lenD_lst hL
        rw [List.length_map] at hlen2
        rw [vc_seq]
        refine vc_mid (VGo l p n m2 n2) ?_ ?_
        · simp -dsimp [-vc_block, g2, g4, g6, g7]
          refine aCall_of (cYKey (p := p) wUse hmk) ?_
          rintro d m3 n3 ⟨rfl, rfl, rfl⟩
          cases o1 : isKey wUse l p
          case true =>
            simp -dsimp [-vc_block, Tt]
            exact ⟨by simp [g2], by simp [g4], by simp [g6], by simp [g7], by simp [isLine, o1], rfl, rfl⟩
          simp -dsimp [-vc_block, Tt, g6]
          refine aCall_of (cYKey (p := p) wIs hmk) ?_
          rintro d m3 n3 ⟨rfl, rfl, rfl⟩
          cases o2 : isKey wIs l p
          case true =>
            simp -dsimp [-vc_block, Tt]
            exact ⟨by simp [g2], by simp [g4], by simp [g6], by simp [g7], by simp [isLine, o1, o2], rfl, rfl⟩
          simp -dsimp [-vc_block, Tt, g6]
          have hend : ulP l = (acc, p) := by
            rw [ulP, hmod]; cases rem with
            | zero => rfl
            | succ r => simp [linesF, isLine, o1, o2]
          exact ⟨by simp [g2], by simp [g4], by simp [g6], by simp [g7], nn, fr, m2n, hLi, hki, by rw [hend]; exact hmk, dD, hm7, by rw [hend]; exact hL, hkk⟩
        rintro σ1 m3 n3 ⟨g2, g4, g6, g7, hkey, rfl, rfl⟩
        obtain ⟨hpb, hpa⟩ : p.bad = 0 ∧ p.at_ < l.length := by
          have hkey' := hkey
          simp only [isLine, Bool.or_eq_true] at hkey'
          rcases hkey' with h | h <;> exact key_ok hl h
        obtain ⟨r, rfl⟩ : ∃ r, rem = r + 1 := ⟨rem - 1, by omega⟩
        rw [vc_block]
        by_cases h20 : acc.length = 60
        · have h20b : ((acc.length : Int) == 60) = true := by simp; omega
          have hend : ulP l = (acc, failS 3 p) := by rw [ulP, hmod]; simp [linesF, hkey, h20]
          have hE : ueP l = failS 3 p := by rw [ueP_ul (by rw [hend]; simp [failS, hpb]), hend]
          rw [hE]
          have hfb : (failS 3 p).bad ≠ 0 := by simp [failS, hpb]
          rw [if_neg hfb]
          have hmx : m3 (n + 1) = some ⟨3, [[toksD l, .v (.int .i64 p.at_), .v (.int .i64 0)]], 0⟩ := by rw [hmk, yObj_ok hpb]
          simp -dsimp [g2, g4, g6, g7, hm7, hlen2, h20b, hmx, m2n]
          refine vdraw_of [0, 0, 2, 6, 14, 1, 33, 127] [0, 1, 2, 3, 4, 5, 6, 7] (by kernel_rfl) (by kernel_rfl) ?_
          simp -dsimp [g2, g4, g6, g7, hmx, m2n]
          refine hq ⟨⟨_, by simp [badP, placeP, failS, hpb, I], pub0 _⟩, fun j hj => ?_⟩
          have j1 : j ≠ n := by omega
          simp [set_ne, j1]; exact fr j hj
        have h20b : ((acc.length : Int) == 60) = false := by simp; omega
        have h20' : ¬ 60 ≤ acc.length := by omega
        have hmx : m3 (n + 1) = some ⟨3, [[toksD l, .v (.int .i64 p.at_), .v (.int .i64 0)]], 0⟩ := by rw [hmk, yObj_ok hpb]
        have wa := wrap_at hl hpa
        have hst := yObj_step (l := l) hpb
        have a1 : n3 ≠ n + 1 := by omega
        have a2 : n + 1 ≠ n3 := by omega
        have a3 : n3 ≠ n + 1 + 1 := by omega
        have a4 : n + 1 + 1 ≠ n3 := by omega
        have a5 : n3 + 1 ≠ n + 1 := by omega
        have a6 : n + 1 ≠ n3 + 1 := by omega
        have a7 : n3 + 1 ≠ n + 1 + 1 := by omega
        have a8 : n + 1 + 1 ≠ n3 + 1 := by omega
        have a9 : n3 + 1 ≠ n3 := by omega
        have a10 : n3 ≠ n3 + 1 := by omega
        have a11 : ¬ n = n3 := by omega
        have a12 : ¬ n3 = n := by omega
        have hnext : linesF l (r + 1) acc p = linesF l r (acc ++ [(lineF l p).1]) (lineF l p).2 := by simp [linesF, hkey, h20']
        simp -dsimp [-vc_block, I, S, g2, g4, g6, g7, set_ne, n21, n12, a1, a2, a3, a4, a5, a6, a7, a8, a9, a10, hmx, wa, hm7, hlen2, h20b]
        refine aCall_of (cYKey (l := l) (p := p) wIs (by simp [I, S, g2, g4, g6, g7, set_ne, n21, n12, a1, a2, a3, a4, a5, a6, a7, a8, a9, a10, hmk, wa])) ?_
        rintro d m4 n4 ⟨rfl, rfl, rfl⟩
        cases hg : isKey wIs l p
        · have e : lineF l p = (⟨1, (ln1 l (stepF p)).1, (ln3 false l (stepF p)).1, (ln5 false l (stepF p)).1⟩, (ln5 false l (stepF p)).2) := by simp [lineF, hg]
          rw [e] at hnext
          simp -dsimp [-vc_block, Tt, g2, g4, g6, g7, I, S, g2, g4, g6, g7, set_ne, n21, n12, a1, a2, a3, a4, a5, a6, a7, a8, a9, a10, hmx, wa]
          rw [← hst]
          generalize stepF p = q at hnext
          refine aCall_of (cYW false hl (p := q) (by simp [I, S, g2, g4, g6, g7, set_ne, n21, n12, a1, a2, a3, a4, a5, a6, a7, a8, a9, a10, hmk, wa])) ?_
          rintro d m4 n4 ⟨rfl, rfl, rfl⟩
          have e1 : nameS false l q = ln1 l q := rfl
          rw [e1]
          simp -dsimp [-vc_block, g2, g4, g6, g7, I, S, g2, g4, g6, g7, set_ne, n21, n12, a1, a2, a3, a4, a5, a6, a7, a8, a9, a10, hmx, wa]
          refine aCall_of (cYWs [46] hl (p := (ln1 l q).2) (by simp [I, S, g2, g4, g6, g7, set_ne, n21, n12, a1, a2, a3, a4, a5, a6, a7, a8, a9, a10, hmk, wa])) ?_
          rintro d m4 n4 ⟨rfl, rfl, rfl⟩
          have e2 : mustS [46] l (ln1 l q).2 = ln2 l q := rfl
          rw [e2]
          simp -dsimp [-vc_block, g2, g4, g6, g7, I, S, g2, g4, g6, g7, set_ne, n21, n12, a1, a2, a3, a4, a5, a6, a7, a8, a9, a10, hmx, wa]
          refine aCall_of (cYW false hl (p := ln2 l q) (by simp [I, S, g2, g4, g6, g7, set_ne, n21, n12, a1, a2, a3, a4, a5, a6, a7, a8, a9, a10, hmk, wa])) ?_
          rintro d m4 n4 ⟨rfl, rfl, rfl⟩
          have e3 : nameS false l (ln2 l q) = ln3 false l q := rfl
          rw [e3]
          simp -dsimp [-vc_block, g2, g4, g6, g7, I, S, g2, g4, g6, g7, set_ne, n21, n12, a1, a2, a3, a4, a5, a6, a7, a8, a9, a10, hmx, wa]
          refine aCall_of (cYWs [58] hl (p := (ln3 false l q).2) (by simp [I, S, g2, g4, g6, g7, set_ne, n21, n12, a1, a2, a3, a4, a5, a6, a7, a8, a9, a10, hmk, wa])) ?_
          rintro d m4 n4 ⟨rfl, rfl, rfl⟩
          have e4 : mustS [58] l (ln3 false l q).2 = ln4 false l q := rfl
          rw [e4]
          simp -dsimp [-vc_block, g2, g4, g6, g7, I, S, g2, g4, g6, g7, set_ne, n21, n12, a1, a2, a3, a4, a5, a6, a7, a8, a9, a10, hmx, wa]
          refine aCall_of (cYType hl (p := ln4 false l q) (by omega) (by simp [I, S, g2, g4, g6, g7, set_ne, n21, n12, a1, a2, a3, a4, a5, a6, a7, a8, a9, a10, hmk, wa])) ?_
          rintro d m4 n4 ⟨rfl, rfl, rfl⟩
          have e5 : typS l (ln4 false l q) = ln5 false l q := rfl
          rw [e5]
          generalize hX : (⟨1, (ln1 l q).1, (ln3 false l q).1, (ln5 false l q).1⟩ : Ln) = X at hnext
          have hXc : lnD X = .v (.int .i64 1) :: .v (.string (ofL (ln1 l q).1)) :: .v (.string (ofL (ln3 false l q).1)) :: tyD (ln5 false l q).1 := by rw [← hX]; simp [lnD, I, S]
          have hXl : (lnD X).length = 10 := lnD_len X
          generalize (ln5 false l q).2 = q' at hnext ⊢
          have hdl : (tyD (ln5 false l q).1).length = 7 := tyD_len _
          generalize tyD (ln5 false l q).1 = YT at hXc hdl
          have ht7 : List.take 7 YT = YT := List.take_of_length_le (by omega)
          simp -dsimp [-vc_block, g2, g4, g6, g7, hm7, I, S, g2, g4, g6, g7, set_ne, n21, n12, a1, a2, a3, a4, a5, a6, a7, a8, a9, a10, hmx, wa, hdl, ht7]
          rw [← hXc]
          clear hXc hX
          generalize hXX : lnD X = XX at hXl ⊢
          refine b4_append (hL.frame fun j hj => ?_) (fun j hj => by have := hkk j hj; omega) trivial trivial (by omega) (by simp; omega) ?_
          · have := hkk j hj
            have j1 : j ≠ n + 1 := by omega
            have j2 : j ≠ n3 := by omega
            have j3 : j ≠ n3 + 1 := by omega
            simp [set_ne, j1, j2, j3]
          intro d5 m5 n5 p1 p2 p3 p4
          have q4 : ∀ j, j < n3 → j ≠ n + 1 → kof dD ≠ some j → m5 j = m3 j := fun j h1 h2 h3 => by
            have j2 : j ≠ n3 := by omega
            have j3 : j ≠ n3 + 1 := by omega
            rw [p4 j (by omega) h3]
            simp [set_ne, h2, j2, j3]
          have nd : ∀ j, j < n + 1 + 1 + 1 → kof dD ≠ some j := fun j hj e => by have := hkk j e; omega
          have e7 : m5 (n + 1 + 1) = some ⟨2, [[dI, dD]], 0⟩ := by rw [q4 _ (by omega) n21 (nd _ (by omega))]; exact hm7
          have ek : m5 (n + 1) = some (yObj l q') := by rw [p4 _ (by omega) (nd _ (by omega))]; simp [a11, a12, I, S, g2, g4, g6, g7, set_ne, n21, n12, a1, a2, a3, a4, a5, a6, a7, a8, a9, a10, hmk, wa]
          have ok5 := okD_lst p1
          simp -dsimp [-vc_block, g2, g4, g6, g7, e7, ok5, S]
          have hkd : ∀ j, kof d5 = some j → n + 1 + 1 + 1 ≤ j ∧ j < n5 ∧ kof dI ≠ some j := fun j hj => by
            have := p3 j hj
            rcases this.2 with e | e
            · have := hkk j e; exact ⟨by omega, by omega, this.2.2⟩
            · exact ⟨by omega, by omega, fun h => by have := hki j h; omega⟩
          refine ⟨r, by omega, by simp, by simp, by simp, by simp, by omega, fun j hj => ?_, ?_, hLi.frame fun j hj => ?_, fun j hj => by have := hki j hj; omega, acc ++ [X], q', d5, by simp; omega, by simp; omega, ?_, ?_, by simp [S], ?_, hkd⟩
          · rw [set_ne _ _ _ _ (by omega), q4 j (by omega) (by omega) (nd j (by omega))]; exact fr j hj
          · rw [set_ne _ _ _ _ nn2, q4 n (by omega) nn1 (nd n (by omega))]; exact m2n
          · have := hki j hj
            rw [set_ne _ _ _ _ (by omega), q4 j (by omega) (by omega) (fun e => (hkk j e).2.2 hj)]
          · rw [hmod]; exact hnext
          · rw [set_ne _ _ _ _ n12]; exact ek
          · rw [List.map_append]
            simp only [List.map_cons, List.map_nil, hXX]
            exact p1.frame fun j hj => set_ne _ _ _ _ (by have := hkd j hj; omega)
        · have e : lineF l p = (⟨2, (ln1 l (stepF p)).1, (ln3 true l (stepF p)).1, (ln5 true l (stepF p)).1⟩, (ln5 true l (stepF p)).2) := by simp [lineF, hg]
          rw [e] at hnext
          simp -dsimp [-vc_block, Tt, g2, g4, g6, g7, I, S, g2, g4, g6, g7, set_ne, n21, n12, a1, a2, a3, a4, a5, a6, a7, a8, a9, a10, hmx, wa]
          rw [← hst]
          generalize stepF p = q at hnext
          refine aCall_of (cYW false hl (p := q) (by simp [I, S, g2, g4, g6, g7, set_ne, n21, n12, a1, a2, a3, a4, a5, a6, a7, a8, a9, a10, hmk, wa])) ?_
          rintro d m4 n4 ⟨rfl, rfl, rfl⟩
          have e1 : nameS false l q = ln1 l q := rfl
          rw [e1]
          simp -dsimp [-vc_block, g2, g4, g6, g7, I, S, g2, g4, g6, g7, set_ne, n21, n12, a1, a2, a3, a4, a5, a6, a7, a8, a9, a10, hmx, wa]
          refine aCall_of (cYWs [46] hl (p := (ln1 l q).2) (by simp [I, S, g2, g4, g6, g7, set_ne, n21, n12, a1, a2, a3, a4, a5, a6, a7, a8, a9, a10, hmk, wa])) ?_
          rintro d m4 n4 ⟨rfl, rfl, rfl⟩
          have e2 : mustS [46] l (ln1 l q).2 = ln2 l q := rfl
          rw [e2]
          simp -dsimp [-vc_block, g2, g4, g6, g7, I, S, g2, g4, g6, g7, set_ne, n21, n12, a1, a2, a3, a4, a5, a6, a7, a8, a9, a10, hmx, wa]
          refine aCall_of (cYW true hl (p := ln2 l q) (by simp [I, S, g2, g4, g6, g7, set_ne, n21, n12, a1, a2, a3, a4, a5, a6, a7, a8, a9, a10, hmk, wa])) ?_
          rintro d m4 n4 ⟨rfl, rfl, rfl⟩
          have e3 : nameS true l (ln2 l q) = ln3 true l q := rfl
          rw [e3]
          simp -dsimp [-vc_block, g2, g4, g6, g7, I, S, g2, g4, g6, g7, set_ne, n21, n12, a1, a2, a3, a4, a5, a6, a7, a8, a9, a10, hmx, wa]
          refine aCall_of (cYWs [61] hl (p := (ln3 true l q).2) (by simp [I, S, g2, g4, g6, g7, set_ne, n21, n12, a1, a2, a3, a4, a5, a6, a7, a8, a9, a10, hmk, wa])) ?_
          rintro d m4 n4 ⟨rfl, rfl, rfl⟩
          have e4 : mustS [61] l (ln3 true l q).2 = ln4 true l q := rfl
          rw [e4]
          simp -dsimp [-vc_block, g2, g4, g6, g7, I, S, g2, g4, g6, g7, set_ne, n21, n12, a1, a2, a3, a4, a5, a6, a7, a8, a9, a10, hmx, wa]
          refine aCall_of (cYType hl (p := ln4 true l q) (by omega) (by simp [I, S, g2, g4, g6, g7, set_ne, n21, n12, a1, a2, a3, a4, a5, a6, a7, a8, a9, a10, hmk, wa])) ?_
          rintro d m4 n4 ⟨rfl, rfl, rfl⟩
          have e5 : typS l (ln4 true l q) = ln5 true l q := rfl
          rw [e5]
          generalize hX : (⟨2, (ln1 l q).1, (ln3 true l q).1, (ln5 true l q).1⟩ : Ln) = X at hnext
          have hXc : lnD X = .v (.int .i64 2) :: .v (.string (ofL (ln1 l q).1)) :: .v (.string (ofL (ln3 true l q).1)) :: tyD (ln5 true l q).1 := by rw [← hX]; simp [lnD, I, S]
          have hXl : (lnD X).length = 10 := lnD_len X
          generalize (ln5 true l q).2 = q' at hnext ⊢
          have hdl : (tyD (ln5 true l q).1).length = 7 := tyD_len _
          generalize tyD (ln5 true l q).1 = YT at hXc hdl
          have ht7 : List.take 7 YT = YT := List.take_of_length_le (by omega)
          simp -dsimp [-vc_block, g2, g4, g6, g7, hm7, I, S, g2, g4, g6, g7, set_ne, n21, n12, a1, a2, a3, a4, a5, a6, a7, a8, a9, a10, hmx, wa, hdl, ht7]
          rw [← hXc]
          clear hXc hX
          generalize hXX : lnD X = XX at hXl ⊢
          refine b4_append (hL.frame fun j hj => ?_) (fun j hj => by have := hkk j hj; omega) trivial trivial (by omega) (by simp; omega) ?_
          · have := hkk j hj
            have j1 : j ≠ n + 1 := by omega
            have j2 : j ≠ n3 := by omega
            have j3 : j ≠ n3 + 1 := by omega
            simp [set_ne, j1, j2, j3]
          intro d5 m5 n5 p1 p2 p3 p4
          have q4 : ∀ j, j < n3 → j ≠ n + 1 → kof dD ≠ some j → m5 j = m3 j := fun j h1 h2 h3 => by
            have j2 : j ≠ n3 := by omega
            have j3 : j ≠ n3 + 1 := by omega
            rw [p4 j (by omega) h3]
            simp [set_ne, h2, j2, j3]
          have nd : ∀ j, j < n + 1 + 1 + 1 → kof dD ≠ some j := fun j hj e => by have := hkk j e; omega
          have e7 : m5 (n + 1 + 1) = some ⟨2, [[dI, dD]], 0⟩ := by rw [q4 _ (by omega) n21 (nd _ (by omega))]; exact hm7
          have ek : m5 (n + 1) = some (yObj l q') := by rw [p4 _ (by omega) (nd _ (by omega))]; simp [a11, a12, I, S, g2, g4, g6, g7, set_ne, n21, n12, a1, a2, a3, a4, a5, a6, a7, a8, a9, a10, hmk, wa]
          have ok5 := okD_lst p1
          simp -dsimp [-vc_block, g2, g4, g6, g7, e7, ok5, S]
          have hkd : ∀ j, kof d5 = some j → n + 1 + 1 + 1 ≤ j ∧ j < n5 ∧ kof dI ≠ some j := fun j hj => by
            have := p3 j hj
            rcases this.2 with e | e
            · have := hkk j e; exact ⟨by omega, by omega, this.2.2⟩
            · exact ⟨by omega, by omega, fun h => by have := hki j h; omega⟩
          refine ⟨r, by omega, by simp, by simp, by simp, by simp, by omega, fun j hj => ?_, ?_, hLi.frame fun j hj => ?_, fun j hj => by have := hki j hj; omega, acc ++ [X], q', d5, by simp; omega, by simp; omega, ?_, ?_, by simp [S], ?_, hkd⟩
          · rw [set_ne _ _ _ _ (by omega), q4 j (by omega) (by omega) (nd j (by omega))]; exact fr j hj
          · rw [set_ne _ _ _ _ nn2, q4 n (by omega) nn1 (nd n (by omega))]; exact m2n
          · have := hki j hj
            rw [set_ne _ _ _ _ (by omega), q4 j (by omega) (by omega) (fun e => (hkk j e).2.2 hj)]
          · rw [hmod]; exact hnext
          · rw [set_ne _ _ _ _ n12]; exact ek
          · rw [List.map_append]
            simp only [List.map_cons, List.map_nil, hXX]
            exact p1.frame fun j hj => set_ne _ _ _ _ (by have := hkd j hj; omega)
      rintro σ1 m1 n1 ⟨g2, g4, g6, g7, nn, fr, m2n, hLi, hki, mo, dD, hm7, hL, hkk⟩
      have hnp : ∀ (l : List Tok), ueP l = if (ulP l).2.at_ < l.length then failS 2 (ulP l).2 else (ulP l).2 := fun _ => rfl
      rw [hnp]
      have hqi : (ulP l).2.bad = 0 → (uiP l).2.bad = 0 := linesF_ok _ _ _
      generalize (ulP l).2 = q at mo hqi ⊢
      have hT : toksD l = .sl 3 (l.map tokD) := rfl
      have hll : (l.map tokD).length = l.length := by simp
      have fin : ∀ (j : Nat), j < n → j ≠ n ∧ j ≠ n + 1 ∧ j ≠ n + 1 + 1 := fun j hj => by omega
      by_cases hqb : q.bad = 0
      case neg =>
        have e : (if q.at_ < l.length then failS 2 q else q) = q := by split
                                                                       · exact failS_bad hqb
                                                                       · rfl
        rw [e, if_neg hqb]
        have hb1 : ((q.bad : Int) == 0) = false := by simp; omega
        have hb2 : ((q.bad : Int) != 0) = true := by simp; omega
        have hmx : m1 (n + 1) = some ⟨3, [[toksD l, I (q.cnt : Int), I (q.bad : Int)]], 0⟩ := by rw [mo]; simp [yObj, yC, plc, hqb]
        generalize hLL : l.map tokD = L at hT hll
        simp -dsimp [g2, g4, g6, g7, hmx, I, hb1, hb2]
        refine vdraw_of [0, 0, 2, 6, 14, 0, 32, 96, 224, 1, 543, 2047] [0, 1, 2, 3, 4, 5, 6, 7, 8, 9, 10, 11] (by kernel_rfl) (by kernel_rfl) ?_
        simp -dsimp [g2, g4, g6, g7, hmx, I, hb1, hb2, set_ne, nn1, n1n, m2n]
        refine hq ⟨⟨_, by simp [badP, placeP, I], pub0 _⟩, fun j hj => ?_⟩
        obtain ⟨j1, j2, _⟩ := fin j hj
        simp [set_ne, j1, j2]; exact fr j hj
      have hmx : m1 (n + 1) = some ⟨3, [[toksD l, .v (.int .i64 q.at_), .v (.int .i64 0)]], 0⟩ := by rw [mo, yObj_ok hqb]
      generalize hLL : l.map tokD = L at hT hll
      by_cases hat : (q.at_ : Int) < l.length
      · have hat' : q.at_ < l.length := by omega
        have hfb : (failS 2 q).bad ≠ 0 := by simp [failS, hqb]
        rw [if_pos hat', if_neg hfb]
        simp -dsimp [g2, g4, g6, g7, hmx, hT, hll, hat, hat']
        refine vdraw_of [0, 0, 2, 6, 14, 0, 32, 96, 224, 1, 543, 2047] [0, 1, 2, 3, 4, 5, 6, 7, 8, 9, 10, 11] (by kernel_rfl) (by kernel_rfl) ?_
        simp -dsimp [g2, g4, g6, g7, hmx, set_ne, nn1, n1n, m2n]
        refine hq ⟨⟨_, by simp [badP, placeP, failS, hqb, I], pub0 _⟩, fun j hj => ?_⟩
        obtain ⟨j1, j2, _⟩ := fin j hj
        simp [set_ne, j1, j2]; exact fr j hj
      · have hat' : ¬ q.at_ < l.length := by omega
        rw [if_neg hat', if_pos hqb]
        simp -dsimp [g2, g4, g6, g7, hmx, hT, hll, hat, hat', hm7, m2n]
        refine hq ⟨⟨.agg [dI, dD], by simp [badP, placeP, I, S], .agg (.cons ?_ (.cons ?_ .nil))⟩, fun j hj => ?_⟩
        · rw [← hiso (hqi hqb)]
          exact .lstP (hLi.frame fun j hj => set_ne _ _ _ _ (by have := hki j hj; omega)) (fun j hj => by have := hki j hj; omega) pur_imps
        · exact .lstP (hL.frame fun j hj => set_ne _ _ _ _ (by have := hkk j hj; omega)) (fun j hj => by have := hkk j hj; omega) pur_lns
        · obtain ⟨j1, j2, _⟩ := fin j hj
          simp [set_ne, j1, j2]; exact fr j hj
  · rintro d m' n' ⟨⟨dt, rfl, h⟩, hf⟩
    exact ⟨_, pub_three h (pur_I _).pub (pur_I _).pub, hf, rfl⟩
end Go.Proofs.Mv.App
open Go Go.Proofs Go.Proofs.Mv.V
set_option maxRecDepth 10000
namespace Go.Proofs.Mv.App
structure UsSm (x : Us) : Prop where
  il : x.imps.length ≤ 1000
  ll : x.lines.length ≤ 1000
  sm : ∀ d ∈ x.lines, TySm d.typ
set_option maxHeartbeats 4000000 in
theorem cSameU {x : Us} (hx : UsSm x) : Pc Tryz.prog 7 [.agg (usD x), .agg (usD x)] (Tt true) := by
  obtain ⟨l1, l2, l3⟩ := hx
  obtain ⟨imps, lines⟩ := x
  simp only at l1 l2 l3
  refine pc_of (pur_T _) (fun m n => ?_)
  have nn1 : n ≠ n + 1 := by omega
  have n1n : n + 1 ≠ n := by omega
  have hL1 : (imps.map impD).length = imps.length := by simp
  have hG1 : ∀ i (h : i < imps.length), (imps.map impD)[i]? = some (impD imps[i]) := fun i h => by simp [h]
  have hL2 : (lines.map lnD).length = lines.length := by simp
  have hG2 : ∀ i (h : i < lines.length), (lines.map lnD)[i]? = some (lnD lines[i]) := fun i h => by simp [h]
  simp only [usD]
  generalize imps.map impD = NL at hL1 hG1
  generalize lines.map lnD = SL at hL2 hG2
  refine acalls_vc [0, 1, 2, 3, 4, 5, 6, 7, 8, 9, 25, 30, 43, 48, 88] Tryz.func7 Tryz.ntmps7 (by kernel_rfl) rfl rfl (by simp) ?_
  simp -dsimp [I, S, set_ne, nn1, n1n, hL1, hL2]
  refine vloop_as (β := Nat) (fun i => [(2, .ptr n 0 0 0), (3, .ptr (n + 1) 0 0 0), (5, I i)]) (fun i m2 n2 => m2 = (m.set n ⟨2, [[.sl 4 NL, .sl 10 SL]], 0⟩).set (n + 1) ⟨2, [[.sl 4 NL, .sl 10 SL]], 0⟩ ∧ n2 = n + 1 + 1 ∧ i ≤ imps.length) (fun i => imps.length - i) 0 (by simp [I]) ⟨rfl, rfl, by omega⟩ ?_
  rintro i m2 n2 ⟨rfl, rfl, le⟩
  by_cases hi : (i : Int) < imps.length
  · have hi' : i < imps.length := by omega
    have wi : IntKind.i64.wrap ((i : Int) + 1) = (i : Int) + 1 := wrap_i64 (by omega) (by omega)
    have hiN : i < NL.length := by omega
    have hgi : NL[i] = impD imps[i] := get_opt (hG1 i hi') hiN
    have him : impD imps[i] = [S imps[i].pkg, I imps[i].major, S imps[i].mod, S imps[i].as_] := rfl
    simp -dsimp [I, S, set_ne, nn1, n1n, hL1, hL2, hi, hi']
    refine vdraw_of [0, 1, 0, 7, 15, 0, 32, 0, 224, 480, 1023] [0, 1, 2, 3, 4, 5, 6, 7, 8, 9, 10] (by kernel_rfl) (by kernel_rfl) ?_
    simp -dsimp [I, S, set_ne, nn1, n1n, hL1, hL2, hi, hi', hiN, hgi, him, wi]
    exact rnd (i + 1) (by omega) (by simp [I]) ⟨rfl, rfl, by omega⟩
  · simp -dsimp [I, S, set_ne, nn1, n1n, hL1, hL2, hi]
    refine vloop_as (β := Nat) (fun i => [(2, .ptr n 0 0 0), (3, .ptr (n + 1) 0 0 0), (6, I i)]) (fun i m2 n2 => (∀ j, j < n + 1 + 1 → m2 j = ((m.set n ⟨2, [[.sl 4 NL, .sl 10 SL]], 0⟩).set (n + 1) ⟨2, [[.sl 4 NL, .sl 10 SL]], 0⟩) j) ∧ n + 1 + 1 ≤ n2 ∧ i ≤ lines.length) (fun i => lines.length - i) 0 (by simp [I]) ⟨fun _ _ => rfl, by omega, by omega⟩ ?_
    rintro i m2 n2 ⟨hm2, nn, le⟩
    have e0 : m2 n = some ⟨2, [[.sl 4 NL, .sl 10 SL]], 0⟩ := by rw [hm2 n (by omega)]; simp [set_ne, nn1]
    have e1 : m2 (n + 1) = some ⟨2, [[.sl 4 NL, .sl 10 SL]], 0⟩ := by rw [hm2 (n + 1) (by omega)]; simp
    by_cases hi : (i : Int) < lines.length
    · have hi' : i < lines.length := by omega
      have wi : IntKind.i64.wrap ((i : Int) + 1) = (i : Int) + 1 := wrap_i64 (by omega) (by omega)
      have hiN : i < SL.length := by omega
      have hgi : SL[i] = lnD lines[i] := get_opt (hG2 i hi') hiN
      have him : lnD lines[i] = I lines[i].kind :: S lines[i].mod :: S lines[i].name :: tyD lines[i].typ := rfl
      have hself := fun m n => cSame (l3 _ (List.getElem_mem hi')) m n
      have h7 := tyD_len lines[i].typ
      generalize tyD lines[i].typ = TT at him h7 hself
      have ht7 : List.take 7 TT = TT := List.take_of_length_le (by omega)
      have a1 : n2 ≠ n := by omega
      have a2 : n ≠ n2 := by omega
      have a3 : n2 ≠ n + 1 := by omega
      have a4 : n + 1 ≠ n2 := by omega
      have a5 : n2 + 1 ≠ n2 := by omega
      have a6 : n2 ≠ n2 + 1 := by omega
      simp -dsimp [I, S, Tt, e0, e1, set_ne, nn1, n1n, a1, a2, a3, a4, a5, a6, hL2, hi, hi', hiN, hgi, him, h7, ht7]
      refine pcall hself ?_
      simp -dsimp [I, S, Tt, e0, e1, set_ne, nn1, n1n, a1, a2, a3, a4, a5, a6, hL2, hi, hi', wi, h7, ht7]
      refine rnd (i + 1) (by omega) (by simp [I]) ⟨fun j hj => ?_, by omega, by omega⟩
      have j1 : j ≠ n2 := by omega
      have j2 : j ≠ n2 + 1 := by omega
      simp only [set_ne, j1, j2, ne_eq, not_false_eq_true]
      exact hm2 j hj
    · simp -dsimp [I, S, Tt, e0, e1, set_ne, nn1, n1n, hL2, hi]
      refine pcq (by simp [Tt]) fun j hj => ?_
      have j1 : j ≠ n := by omega
      have j2 : j ≠ n + 1 := by omega
      rw [hm2 j (by omega)]
      simp [set_ne, j1, j2]
end Go.Proofs.Mv.App
open Go Go.Proofs Go.Proofs.Mv.V
set_option maxRecDepth 10000
namespace Go.Proofs.Mv.App
theorem typS_smU (l : List Tok) (p : PS) : TySm (typS l p).1 := by
  unfold typS; split
  · split
    · exact Ty0_sm
    · exact atF_sm _ _
  · exact Ty0_sm
theorem linesF_sm {l : List Tok} : ∀ (k : Nat) (acc : List Ln) (p : PS), (∀ d ∈ acc, TySm d.typ) → (linesF l k acc p).1.length ≤ acc.length + k ∧ ∀ d ∈ (linesF l k acc p).1, TySm d.typ
  | 0, acc, p, h => ⟨by simp [linesF], h⟩
  | k + 1, acc, p, h => by
    simp only [linesF]
    split
    · split
      · exact ⟨by simp only; omega, h⟩
      · have := linesF_sm (l := l) k (acc ++ [(lineF l p).1]) (lineF l p).2 (fun d hd => by
          rcases List.mem_append.1 hd with hd | hd
          · exact h d hd
          · simp only [List.mem_singleton] at hd; rw [hd]; exact typS_smU l _)
        refine ⟨?_, this.2⟩
        have h1 := this.1
        rw [List.length_append] at h1
        simp only [List.length_singleton] at h1
        omega
    · exact ⟨by simp only; omega, h⟩
theorem impsF_lenU {l : List Tok} : ∀ (k : Nat) (acc : List Imp) (p : PS), (impsF l k acc p).1.length ≤ acc.length + k
  | 0, acc, p => by simp [impsF]
  | k + 1, acc, p => by
    simp only [impsF]
    split
    · split
      · simp only; omega
      · have h1 := impsF_lenU (l := l) k (acc ++ [(impF l (stepF p)).1]) (impF l (stepF p)).2
        rw [List.length_append] at h1
        simp only [List.length_singleton] at h1
        omega
    · simp only; omega
theorem Us0_sm : UsSm Us0 := ⟨by simp [Us0], by simp [Us0], by simp [Us0]⟩
theorem usesF_sm (s : List UInt8) : UsSm (usesF s).1 := by
  unfold usesF; split
  · exact Us0_sm
  · split
    · exact Us0_sm
    · split
      · have h1 := impsF_lenU (l := (toksAt s 0).1) 21 [] ⟨0, 0, 0⟩
        have h2 := linesF_sm (l := (toksAt s 0).1) 61 [] (uiP (toksAt s 0).1).2 (by simp)
        simp only [List.length_nil] at h1 h2
        exact ⟨by show (impsF _ 21 [] _).1.length ≤ 1000; omega, by show (linesF _ 61 [] _).1.length ≤ 1000; omega, h2.2⟩
      · exact Us0_sm
theorem uses_spot {s : List UInt8} {a : Int} {c : Nat} (h : (usesF s).2 = .spot a c) : c ≠ 0 ∧ (usesF s).1 = Us0 := by
  unfold usesF at h ⊢
  split at h
  · cases h
  · rename_i h1
    rw [if_neg h1]
    split at h
    · simp only [PErr.spot.injEq] at h
      exact ⟨by omega, rfl⟩
    · split at h
      · cases h
      · rename_i hb
        simp only [if_neg hb] at h ⊢
        simp only [PErr.spot.injEq] at h
        exact ⟨by omega, trivial⟩
theorem uses_large {s : List UInt8} (h1 : ¬ 20000 < s.length) : (usesF s).2 ≠ .large := by
  intro h
  unfold usesF at h
  rw [if_neg h1] at h
  split at h
  · cases h
  · split at h <;> cases h
theorem le_us0 {d : D} : LeL [d, .agg [.v (.slice none 0 0), .v (.slice none 0 0)]] [d, .agg (usD Us0)] := by
  simp only [usD, Us0, List.map_nil]
  exact .cons (Le.refl _) (.cons (Le_agg (.cons (Le_nil 4) (.cons (Le_nil 10) .nil))) .nil)
set_option maxHeartbeats 1000000 in
theorem cUsesParses (s : List UInt8) (m : Mem) (n : Nat) : ACalls Tryz.prog 3 [S s] m n (fun d m' n' => d = Tt true ∧ m' = m ∧ n' = n) := by
  refine pc_of (pur_T _) (fun m n => ?_) m n
  have nn1 : n ≠ n + 1 := by omega
  have n1n : n + 1 ≠ n := by omega
  have hsm := usesF_sm s
  have hln : ∀ x, (usD x).length = 2 := fun _ => rfl
  refine acalls_vc [0, 2, 3, 4, 5, 6, 7, 8, 17, 36] Tryz.func3 Tryz.ntmps3 (by kernel_rfl) rfl rfl (by simp) ?_
  simp -dsimp
  refine pcall cUpU ?_
  simp -dsimp
  refine pcall (cUParse s) ?_
  by_cases h1 : 20000 < s.length
  · have hp : usesF s = (Us0, .large) := by rw [usesF, if_pos h1]
    rw [hp]
    have h1' : (20000 : Int) < s.length := by omega
    simp -dsimp [S, h1, h1', errP, code, I, Tt, set_ne, nn1, n1n, hln]
    refine aCall_le le_us0 ?_
    refine pcall (cSameU Us0_sm) ?_
    simp -dsimp [Tt]
    refine pcq rfl fun j hj => ?_
    have j1 : j ≠ n := by omega
    simp [set_ne, j1]
  have h1' : ¬ (20000 : Int) < s.length := by omega
  simp -dsimp [S, h1, h1', hln]
  refine pcall (cUParseR s h1) ?_
  have hsp := fun a c => uses_spot (s := s) (a := a) (c := c)
  have hlg := uses_large h1
  generalize usesF s = P at hsm hsp hlg ⊢
  obtain ⟨t, e⟩ := P
  cases e with
  | large => exact absurd rfl hlg
  | none =>
    simp -dsimp [badP, placeP, errP, nilE, I, Tt, set_ne, nn1, n1n, hln]
    refine pcall (cSameU hsm) ?_
    simp -dsimp [Tt]
    refine pcq rfl fun j hj => ?_
    have j1 : j ≠ n := by omega
    have j2 : j ≠ n + 1 := by omega
    simp [set_ne, j1, j2]
  | spot a c =>
    obtain ⟨hc, ht⟩ := hsp a c rfl
    simp only at ht
    subst ht
    have hc' : ((c : Int) != 0) = true := by simp; omega
    simp -dsimp [badP, placeP, errP, I, Tt, set_ne, nn1, n1n, hc, hc', hln]
    refine pcall (cIsU a c) ?_
    simp -dsimp [Tt, set_ne, nn1, n1n, I, hln]
    refine aCall_le le_us0 ?_
    refine pcall (cSameU Us0_sm) ?_
    simp -dsimp [Tt]
    refine pcq rfl fun j hj => ?_
    have j1 : j ≠ n := by omega
    have j2 : j ≠ n + 1 := by omega
    simp [set_ne, j1, j2]
end Go.Proofs.Mv.App
