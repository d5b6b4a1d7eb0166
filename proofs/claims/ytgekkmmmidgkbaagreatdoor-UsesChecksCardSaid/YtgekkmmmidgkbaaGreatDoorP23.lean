/- A part of the proofs of the seat YtgekkmmmidgkbaaGreatDoor: the abstract machine, the contracts of the functions, the laws. No condition of its own. -/
import Derived.Test.YtgekkmmmidgkbaaGreatDoorP22
import Derived.Test.YtgekkmmmidgkbaaGreatDoorP10
import Derived.KernelRfl
import Derived.Test.YtgekkmmmidgkbaaGreatDoorP19
set_option linter.unusedSimpArgs false
set_option linter.unusedVariables false
set_option linter.unusedSectionVars false
open Go Go.Proofs Go.Proofs.Mv.V
set_option maxRecDepth 10000
namespace Go.Proofs.Mv.App
theorem cUImpX {l : List Tok} (hl : TkOk l) {p : PS} (hb : p.bad = 0) (ha : p.at_ < l.length) {k : Nat} {m : Mem} {n : Nat} (hk : k < n) (hm : m k = some (sObj l p)) :
    ACalls Tryz.prog 24 [.ptr k 0 0 0] m n (fun d m' n' => (∃ i, d = .agg (impD i) ∧ ((impF l (stepF p)).2.bad = 0 → i = (impF l (stepF p)).1)) ∧ m' = m.set k (sObj l (impF l (stepF p)).2) ∧ n' = n) :=
  (cUImp hl hb ha hk hm).mono fun d m' n' ⟨h1, h2, h3⟩ => ⟨⟨_, h1, impR_ok⟩, h2, h3⟩
structure UImp (l : List Tok) (p1 : PS) (m : Mem) (n : Nat) (k : Nat) (σ : Nat → D) (m' : Mem) (n' : Nat) : Prop where
  h2 : σ 2 = .ptr n 0 0 0
  h3 : σ 3 = nilE
  h4 : σ 4 = toksD l
  h6 : σ 6 = .ptr (n + 1) 0 0 0
  h7 : σ 7 = .ptr (n + 1 + 1) 0 0 0
  nn : n + 1 + 1 + 1 ≤ n'
  fr : ∀ j, j < n → m' j = m j
  m2 : m' n = some ⟨2, [[.v (.slice none 0 0), .v (.slice none 0 0)]], 0⟩
  ex : ∃ acc acc0 p dI, k + acc.length = 21 ∧ acc.length ≤ 20 ∧ acc0.length = acc.length ∧ (p.bad = 0 → acc = acc0) ∧ impsF l 21 [] p1 = impsF l k acc0 p ∧ m' (n + 1) = some (sObj l p) ∧
    m' (n + 1 + 1) = some ⟨2, [[dI, .v (.slice none 0 0)]], 0⟩ ∧ Lst m' 4 (acc.map impD) dI ∧ ∀ j, kof dI = some j → n + 1 + 1 + 1 ≤ j ∧ j < n'
structure UMid (l : List Tok) (is : List Imp) (p : PS) (m : Mem) (n : Nat) (σ : Nat → D) (m' : Mem) (n' : Nat) : Prop where
  h2 : σ 2 = .ptr n 0 0 0
  h3 : σ 3 = nilE
  h4 : σ 4 = toksD l
  h6 : σ 6 = .ptr (n + 1) 0 0 0
  h7 : σ 7 = .ptr (n + 1 + 1) 0 0 0
  nn : n + 1 + 1 + 1 ≤ n'
  fr : ∀ j, j < n → m' j = m j
  m2 : m' n = some ⟨2, [[.v (.slice none 0 0), .v (.slice none 0 0)]], 0⟩
  mo : m' (n + 1) = some (sObj l p)
  ex : ∃ acc dI, (p.bad = 0 → acc = is) ∧ m' (n + 1 + 1) = some ⟨2, [[dI, .v (.slice none 0 0)]], 0⟩ ∧ Lst m' 4 (acc.map impD) dI ∧ ∀ j, kof dI = some j → n + 1 + 1 + 1 ≤ j ∧ j < n'
structure UDec (l : List Tok) (is : List Imp) (dI : D) (p1 : PS) (m : Mem) (n : Nat) (k : Nat) (σ : Nat → D) (m' : Mem) (n' : Nat) : Prop where
  h2 : σ 2 = .ptr n 0 0 0
  h3 : σ 3 = nilE
  h4 : σ 4 = toksD l
  h6 : σ 6 = .ptr (n + 1) 0 0 0
  h7 : σ 7 = .ptr (n + 1 + 1) 0 0 0
  nn : n + 1 + 1 + 1 ≤ n'
  fr : ∀ j, j < n → m' j = m j
  m2 : m' n = some ⟨2, [[.v (.slice none 0 0), .v (.slice none 0 0)]], 0⟩
  li : Lst m' 4 (is.map impD) dI
  ki : ∀ j, kof dI = some j → n + 1 + 1 + 1 ≤ j ∧ j < n'
  ex : ∃ acc p dD, k + acc.length = 61 ∧ acc.length ≤ 60 ∧ linesF l 61 [] p1 = linesF l k acc p ∧ m' (n + 1) = some (sObj l p) ∧
    m' (n + 1 + 1) = some ⟨2, [[dI, dD]], 0⟩ ∧ Lst m' 10 (acc.map lnD) dD ∧ ∀ j, kof dD = some j → n + 1 + 1 + 1 ≤ j ∧ j < n' ∧ kof dI ≠ some j
structure LnGo (l : List Tok) (p : PS) (n : Nat) (m2 : Mem) (n2 : Nat) (σ : Nat → D) (m' : Mem) (n' : Nat) : Prop where
  h2 : σ 2 = .ptr n 0 0 0
  h3 : σ 3 = nilE
  h4 : σ 4 = toksD l
  h6 : σ 6 = .ptr (n + 1) 0 0 0
  h7 : σ 7 = .ptr (n + 1 + 1) 0 0 0
  ky : isLine l p = true
  mm : m' = m2
  nn : n' = n2
structure UMid2 (l : List Tok) (is : List Imp) (dI : D) (ds : List Ln) (p : PS) (m : Mem) (n : Nat) (σ : Nat → D) (m' : Mem) (n' : Nat) : Prop where
  h2 : σ 2 = .ptr n 0 0 0
  h3 : σ 3 = nilE
  h4 : σ 4 = toksD l
  h6 : σ 6 = .ptr (n + 1) 0 0 0
  h7 : σ 7 = .ptr (n + 1 + 1) 0 0 0
  nn : n + 1 + 1 + 1 ≤ n'
  fr : ∀ j, j < n → m' j = m j
  m2 : m' n = some ⟨2, [[.v (.slice none 0 0), .v (.slice none 0 0)]], 0⟩
  li : Lst m' 4 (is.map impD) dI
  ki : ∀ j, kof dI = some j → n + 1 + 1 + 1 ≤ j ∧ j < n'
  mo : m' (n + 1) = some (sObj l p)
  ex : ∃ dD, m' (n + 1 + 1) = some ⟨2, [[dI, dD]], 0⟩ ∧ Lst m' 10 (ds.map lnD) dD ∧ ∀ j, kof dD = some j → n + 1 + 1 + 1 ≤ j ∧ j < n' ∧ kof dI ≠ some j
set_option maxHeartbeats 4000000 in
theorem cUParse (s : List UInt8) (m : Mem) (n : Nat) : ACalls Tryz.prog 11 [S s] m n (fun d m' n' => d = .tup [.agg (usD (usesF s).1), errP (usesF s).2] ∧ m' = m ∧ n' = n) := by
  refine acalls_done (R' := Hq (fun d m' n' => (∃ dt, d = .tup [dt, errP (usesF s).2] ∧ PubAs n m' dt (.agg (usD (usesF s).1))) ∧ ∀ j, j < n → m' j = m j) tg) ?_ ?_
  · have nn1 : n ≠ n + 1 := by omega
    have n1n : n + 1 ≠ n := by omega
    have pub0 : ∀ m', PubAs n m' (.agg [.v (.slice none 0 0), .v (.slice none 0 0)]) (.agg (usD Us0)) := fun m' => by
      simp only [usD, Us0, List.map_nil]
      exact .agg (.cons (pub_nil 4) (.cons (pub_nil 10) .nil))
    refine acalls_vcC [0, 2, 3, 4, 5, 6, 7, 14, 21, 25, 40, 44, 60, 67] Tryz.func11 Tryz.ntmps11 (by kernel_rfl) rfl rfl (by simp) ?_
    simp -dsimp
    refine aCall_of (cTokens s _ _) ?_
    rintro d m' n' ⟨rfl, rfl, rfl⟩
    have fr0 : ∀ (o : V.Obj) (j : Nat), j < n → (m.set n o) j = m j := fun o j hj => set_ne _ _ _ _ (by omega)
    by_cases h1 : 20000 < s.length
    · have hp : usesF s = (Us0, .large) := by rw [usesF, if_pos h1]
      rw [if_pos h1, hp]
      simp -dsimp [code, I]
      exact hq ⟨⟨_, rfl, pub0 _⟩, fun j hj => by have j1 : j ≠ n := by omega
                                                 simp [set_ne, j1]⟩
    have hl := toks_tk (s := s) (by omega)
    rw [if_neg h1]
    have hp : usesF s = (match (toksAt s 0).2 with
    | some a => (Us0, .spot a 2)
    | Option.none => if (ueP (toksAt s 0).1).bad = 0 then (⟨(uiP (toksAt s 0).1).1, (ulP (toksAt s 0).1).1⟩, .none)
      else (Us0, .spot (ueP (toksAt s 0).1).cnt (ueP (toksAt s 0).1).bad)) := by rw [usesF, if_neg h1]; rfl
    rw [hp]
    generalize toksAt s 0 = T at hl ⊢
    obtain ⟨l, o⟩ := T
    cases o with
    | some a =>
      simp -dsimp [spotE]
      exact hq ⟨⟨_, rfl, pub0 _⟩, fun j hj => by have j1 : j ≠ n := by omega
                                                 simp [set_ne, j1]⟩
    | none =>
      simp only at hl ⊢
      have e0 : (⟨3, [[.sl 3 (l.map tokD), .v (.int .i64 0), .v .nilIface]], 0⟩ : V.Obj) = sObj l ⟨0, 0, 0⟩ := by simp [sObj, sC, errS, I, nilE, toksD]
      have hlt2 : n + 1 < n + 1 + 1 := by omega
      have nn2 : n ≠ n + 1 + 1 := by omega
      have n12 : n + 1 ≠ n + 1 + 1 := by omega
      have n21 : n + 1 + 1 ≠ n + 1 := by omega
      have n2n : n + 1 + 1 ≠ n := by omega
      simp -dsimp [-vc_block, nilE, set_ne, nn1, n1n]
      rw [e0]
      refine vc_mid (UMid l (uiP l).1 (uiP l).2 m n) ?_ ?_
      · rw [vc_block]
        simp -dsimp [-vc_block]
        refine vloop_of (β := Nat) (UImp l ⟨0, 0, 0⟩ m n) (fun b => b) 21 ⟨by simp, by simp [nilE], by simp [toksD], by simp, by simp, by omega, fun j hj => ?_, ?_, [], [], ⟨0, 0, 0⟩, .v (.slice none 0 0), rfl, by simp, rfl, fun _ => rfl, rfl, ?_, ?_, by simpa using Lst.nil, by simp⟩ ?_
        · have j1 : j ≠ n := by omega
          have j2 : j ≠ n + 1 := by omega
          have j3 : j ≠ n + 1 + 1 := by omega
          simp [set_ne, j1, j2, j3]
        · simp [set_ne, nn1, nn2, S, I]
        · simp [set_ne, n12, nn1]
        · simp [S]
        rintro rem σ m2 n2 ⟨g2, g3, g4, g6, g7, nn, fr, m2n, acc, acc0, p, dI, hrem, hle, hlen, hacc, hmod, hmk, hm7, hL, hkk⟩
        have kn : n + 1 ≠ n2 := by omega
        have hlen2 := lenD_lst hL
        rw [List.length_map] at hlen2
        have hk2 : n + 1 < n2 := by omega
        simp -dsimp [-vc_block, g2, g3, g4, g6, g7]
        refine aCall_of (cUBeg hl (p := p) wImp hk2 hmk) ?_
        rintro d m3 n3 ⟨rfl, rfl, rfl⟩
        cases hkey : isKey wImp l p
        case false =>
          simp -dsimp [-vc_block, Tt]
          have hend : uiP l = (acc0, p) := by
            rw [uiP, hmod]; cases rem with
            | zero => rfl
            | succ r => simp [impsF, hkey]
          exact ⟨by simp [g2], by simp [g3], by simp [g4], by simp [g6], by simp [g7], nn, fr, m2n, by rw [hend]; exact hmk, acc, dI, by rw [hend]; exact hacc, hm7, hL, hkk⟩
        obtain ⟨hpb, hpa⟩ := key_ok hl hkey
        have hae := hacc hpb
        subst hae
        obtain ⟨r, rfl⟩ : ∃ r, rem = r + 1 := ⟨rem - 1, by omega⟩
        simp -dsimp [-vc_block, Tt]
        rw [vc_block]
        by_cases h20 : (20 : Int) ≤ acc.length
        · have h20' : 20 ≤ acc.length := by omega
          have hend : uiP l = (acc, failS 3 p) := by rw [uiP, hmod]; simp [impsF, hkey, h20']
          simp -dsimp [-vc_block, g2, g3, g4, g6, g7, hm7, hlen2, h20, h20']
          refine aCall_of (cUSpoil (l := l) (p := p) 3 (by omega) hk2 hmk) ?_
          rintro d m3 n3 ⟨rfl, rfl, rfl⟩
          simp -dsimp [-vc_block]
          refine ⟨by simp [g2], by simp [g3], by simp [g4], by simp [g6], by simp [g7], nn, fun j hj => by rw [set_ne _ _ _ _ (by omega)]; exact fr j hj, by rw [set_ne _ _ _ _ nn1]; exact m2n, by rw [hend]; simp, acc, dI, by rw [hend]; exact fun _ => rfl,
            by rw [set_ne _ _ _ _ n21]; exact hm7, hL.frame fun j hj => set_ne _ _ _ _ (by have := hkk j hj; omega), hkk⟩
        have h20' : ¬ 20 ≤ acc.length := by omega
        have hmx : m3 (n + 1) = some ⟨3, [[toksD l, .v (.int .i64 p.at_), .v .nilIface]], 0⟩ := by rw [hmk]; simp [sObj, sC, errS, hpb, I, nilE]
        simp -dsimp [-vc_block, g2, g3, g4, g6, g7, hm7, hlen2, h20, h20']
        refine vdraw_tree [0, 1, 0, 4, 12, 31, 63, 127] (.rd 0 (.rd 1 (.rd 2 (.wr (.cons 3 (.wr (.cons 4 (.wr (.cons 5 (.rd 6 (.wr (.cons 7 (.fin) (.nil)))) (.nil))) (.nil))) (.nil)))))) (by kernel_rfl) (by kernel_rfl) ?_
        simp -dsimp [-vc_block, g2, g3, g4, g6, g7, hm7, hlen2, hmx, set_ne, n21, n12]
        refine aCall_of (cUImpX hl hpb hpa (by omega) hmk) ?_
        rintro d m4 n4 ⟨⟨x, rfl, hx⟩, rfl, rfl⟩
        have kn3 : n4 ≠ n + 1 := by omega
        have kn4 : n4 ≠ n + 1 + 1 := by omega
        have nk3 : n + 1 ≠ n4 := by omega
        have nk4 : n + 1 + 1 ≠ n4 := by omega
        have hil : (impD x).length = 4 := rfl
        simp -dsimp [-vc_block, g2, g3, g4, g6, g7, hm7, set_ne, n21, n12, kn3, kn4, nk3, nk4, hil]
        refine b4_append (hL.frame fun j hj => ?_) (fun j hj => by have := hkk j hj; omega) trivial trivial (by omega) (by simp; omega) ?_
        · have := hkk j hj
          rw [set_ne _ _ _ _ (by omega), set_ne _ _ _ _ (by omega)]
        intro d5 m5 n5 p1 p2 p3 p4
        have q4 : ∀ j, j < n4 → j ≠ n + 1 → kof dI ≠ some j → m5 j = m3 j := fun j h1 h2 h3 => by rw [p4 j (by omega) h3, set_ne _ _ _ _ (by omega), set_ne _ _ _ _ h2]
        have nd : ∀ j, j < n + 1 + 1 + 1 → kof dI ≠ some j := fun j hj e => by have := hkk j e; omega
        have e7 : m5 (n + 1 + 1) = some ⟨2, [[dI, .v (.slice none 0 0)]], 0⟩ := by rw [q4 _ (by omega) n21 (nd _ (by omega))]; exact hm7
        have ek : m5 (n + 1) = some (sObj l (impF l (stepF p)).2) := by rw [p4 _ (by omega) (nd _ (by omega)), set_ne _ _ _ _ (by omega), set_same]
        have ok5 := okD_lst p1
        simp -dsimp [-vc_block, g2, g3, g4, g6, g7, e7, ok5, S]
        have hkd : ∀ j, kof d5 = some j → n + 1 + 1 + 1 ≤ j ∧ j < n5 := fun j hj => by
          have := p3 j hj
          rcases this.2 with e | e
          · have := hkk j e; omega
          · omega
        refine ⟨r, by omega, by simp, by simp, by simp, by simp, by simp, by omega, fun j hj => ?_, ?_, acc ++ [x], acc ++ [(impF l (stepF p)).1], (impF l (stepF p)).2, d5, by simp; omega, by simp; omega, by simp, fun h => by rw [hx h], ?_, ?_, by simp [S], ?_, hkd⟩
        · rw [set_ne _ _ _ _ (by omega), q4 j (by omega) (by omega) (nd j (by omega))]; exact fr j hj
        · rw [set_ne _ _ _ _ nn2, q4 n (by omega) nn1 (nd n (by omega))]; exact m2n
        · rw [hmod]; simp [impsF, hkey, h20']
        · rw [set_ne _ _ _ _ n12]; exact ek
        · rw [List.map_append]
          exact p1.frame fun j hj => set_ne _ _ _ _ (by have := hkd j hj; omega)
      rintro σ0 m0 n0 ⟨g2, g3, g4, g6, g7, nn, fr, m2n, mo, is, dI, hiso, hm7, hLi, hki⟩
      simp -dsimp [-vc_block, g2, g3, g4, g6, g7]
      refine vc_mid (UMid2 l is dI (ulP l).1 (ulP l).2 m n) ?_ ?_
      · rw [vc_block]
        simp -dsimp [-vc_block]
        refine vloop_of (β := Nat) (UDec l is dI (uiP l).2 m n) (fun b => b) 61 ⟨by simp [g2], by simp [g3], by simp [g4], by simp [g6], by simp [g7], nn, fr, m2n, hLi, hki, [], (uiP l).2, .v (.slice none 0 0), rfl, by simp, rfl, mo, hm7, by simpa using Lst.nil, by simp⟩ ?_
        rintro rem σ m2 n2 ⟨g2, g3, g4, g6, g7, nn, fr, m2n, hLi, hki, acc, p, dD, hrem, hle, hmod, hmk, hm7, hL, hkk⟩
        have hk2 : n + 1 < n2 := by omega
        have hlen2 := lenD_lst hL
        rw [List.length_map] at hlen2
        rw [vc_seq]
        refine vc_mid (LnGo l p n m2 n2) ?_ ?_
        · simp -dsimp [-vc_block, g2, g3, g4, g6, g7]
          refine aCall_of (cUBeg hl (p := p) wUse hk2 hmk) ?_
          rintro d m3 n3 ⟨rfl, rfl, rfl⟩
          cases o1 : isKey wUse l p
          case true =>
            simp -dsimp [-vc_block, Tt]
            exact ⟨by simp [g2], by simp [g3], by simp [g4], by simp [g6], by simp [g7], by simp [isLine, o1], rfl, rfl⟩
          simp -dsimp [-vc_block, Tt, g6]
          refine aCall_of (cUBeg hl (p := p) wIs hk2 hmk) ?_
          rintro d m3 n3 ⟨rfl, rfl, rfl⟩
          cases o2 : isKey wIs l p
          case true =>
            simp -dsimp [-vc_block, Tt]
            exact ⟨by simp [g2], by simp [g3], by simp [g4], by simp [g6], by simp [g7], by simp [isLine, o1, o2], rfl, rfl⟩
          simp -dsimp [-vc_block, Tt, g6]
          have hend : ulP l = (acc, p) := by
            rw [ulP, hmod]; cases rem with
            | zero => rfl
            | succ r => simp [linesF, isLine, o1, o2]
          exact ⟨by simp [g2], by simp [g3], by simp [g4], by simp [g6], by simp [g7], nn, fr, m2n, hLi, hki, by rw [hend]; exact hmk, dD, hm7, by rw [hend]; exact hL, hkk⟩
        rintro σ1 m1 n1 ⟨g2, g3, g4, g6, g7, hkey, rfl, rfl⟩
        obtain ⟨hpb, hpa⟩ : p.bad = 0 ∧ p.at_ < l.length := by
          simp only [isLine, Bool.or_eq_true] at hkey
          rcases hkey with h | h <;> exact key_ok hl h
        obtain ⟨r, rfl⟩ : ∃ r, rem = r + 1 := ⟨rem - 1, by omega⟩
        rw [vc_block]
        by_cases h20 : (60 : Int) ≤ acc.length
        · have h20' : 60 ≤ acc.length := by omega
          have hend : ulP l = (acc, failS 3 p) := by rw [ulP, hmod]; simp [linesF, hkey, h20']
          simp -dsimp [-vc_block, g2, g3, g4, g6, g7, hm7, hlen2, h20, h20']
          refine aCall_of (cUSpoil (l := l) (p := p) 3 (by omega) hk2 hmk) ?_
          rintro d m3 n3 ⟨rfl, rfl, rfl⟩
          simp -dsimp [-vc_block]
          refine ⟨by simp [g2], by simp [g3], by simp [g4], by simp [g6], by simp [g7], nn, fun j hj => by rw [set_ne _ _ _ _ (by omega)]; exact fr j hj, by rw [set_ne _ _ _ _ nn1]; exact m2n, hLi.frame fun j hj => set_ne _ _ _ _ (by have := hki j hj; omega), hki, by rw [hend]; simp, dD,
            by rw [set_ne _ _ _ _ n21]; exact hm7, by rw [hend]; exact hL.frame fun j hj => set_ne _ _ _ _ (by have := hkk j hj; omega), hkk⟩
        have h20' : ¬ 60 ≤ acc.length := by omega
        simp -dsimp [-vc_block, g2, g3, g4, g6, g7, hm7, hlen2, h20, h20']
        refine vdraw_tree [0, 1, 0, 4, 12, 31, 63, 127] (.rd 0 (.rd 1 (.rd 2 (.wr (.cons 3 (.wr (.cons 4 (.wr (.cons 5 (.rd 6 (.wr (.cons 7 (.fin) (.nil)))) (.nil))) (.nil))) (.nil)))))) (by kernel_rfl) (by kernel_rfl) ?_
        simp -dsimp [-vc_block, g2, g3, g4, g6, g7, hm7, hlen2, set_ne, n21, n12]
        refine aCall_of (cULine hl hpb hpa (by omega) hmk) ?_
        rintro d m4 n4 ⟨rfl, rfl, rfl⟩
        have kn3 : n4 ≠ n + 1 := by omega
        have kn4 : n4 ≠ n + 1 + 1 := by omega
        have nk3 : n + 1 ≠ n4 := by omega
        have nk4 : n + 1 + 1 ≠ n4 := by omega
        have hil : (lnD (lineF l p).1).length = 10 := lnD_len _
        generalize hX : lnD (lineF l p).1 = X at hil
        simp -dsimp [-vc_block, g2, g3, g4, g6, g7, hm7, set_ne, n21, n12, kn3, kn4, nk3, nk4, hil]
        refine b4_append (hL.frame fun j hj => ?_) (fun j hj => by have := hkk j hj; omega) trivial trivial (by omega) (by simp; omega) ?_
        · have := hkk j hj
          rw [set_ne _ _ _ _ (by omega), set_ne _ _ _ _ (by omega)]
        intro d5 m5 n5 p1 p2 p3 p4
        have q4 : ∀ j, j < n4 → j ≠ n + 1 → kof dD ≠ some j → m5 j = m1 j := fun j h1 h2 h3 => by rw [p4 j (by omega) h3, set_ne _ _ _ _ (by omega), set_ne _ _ _ _ h2]
        have nd : ∀ j, j < n + 1 + 1 + 1 → kof dD ≠ some j := fun j hj e => by have := hkk j e; omega
        have e7 : m5 (n + 1 + 1) = some ⟨2, [[dI, dD]], 0⟩ := by rw [q4 _ (by omega) n21 (nd _ (by omega))]; exact hm7
        have ek : m5 (n + 1) = some (sObj l (lineF l p).2) := by rw [p4 _ (by omega) (nd _ (by omega)), set_ne _ _ _ _ (by omega), set_same]
        have ok5 := okD_lst p1
        simp -dsimp [-vc_block, g2, g3, g4, g6, g7, e7, ok5, S]
        have hkd : ∀ j, kof d5 = some j → n + 1 + 1 + 1 ≤ j ∧ j < n5 ∧ kof dI ≠ some j := fun j hj => by
          have := p3 j hj
          rcases this.2 with e | e
          · have := hkk j e; exact ⟨by omega, by omega, this.2.2⟩
          · exact ⟨by omega, by omega, fun h => by have := hki j h; omega⟩
        refine ⟨r, by omega, by simp, by simp, by simp, by simp, by simp, by omega, fun j hj => ?_, ?_, hLi.frame fun j hj => ?_, fun j hj => by have := hki j hj; omega, acc ++ [(lineF l p).1], (lineF l p).2, d5, by simp; omega, by simp; omega, ?_, ?_, by simp [S], ?_, hkd⟩
        · rw [set_ne _ _ _ _ (by omega), q4 j (by omega) (by omega) (nd j (by omega))]; exact fr j hj
        · rw [set_ne _ _ _ _ nn2, q4 n (by omega) nn1 (nd n (by omega))]; exact m2n
        · have := hki j hj
          rw [set_ne _ _ _ _ (by omega), q4 j (by omega) (by omega) (fun e => (hkk j e).2.2 hj)]
        · rw [hmod]; simp [linesF, hkey, h20']
        · rw [set_ne _ _ _ _ n12]; exact ek
        · rw [List.map_append]
          simp only [List.map_cons, List.map_nil, hX]
          exact p1.frame fun j hj => set_ne _ _ _ _ (by have := hkd j hj; omega)
      rintro σ1 m1 n1 ⟨g2, g3, g4, g6, g7, nn, fr, m2n, hLi, hki, mo, dD, hm7, hL, hkk⟩
      have hnp : ∀ (l : List Tok), ueP l = if (ulP l).2.at_ < l.length then failS 2 (ulP l).2 else (ulP l).2 := fun _ => rfl
      rw [hnp]
      have hqi : (ulP l).2.bad = 0 → (uiP l).2.bad = 0 := linesF_ok _ _ _
      generalize (ulP l).2 = q at mo hqi ⊢
      have hT : toksD l = .sl 3 (l.map tokD) := rfl
      have hll : (l.map tokD).length = l.length := by simp
      have hmx : m1 (n + 1) = some ⟨3, [[toksD l, .v (.int .i64 q.at_), errS q]], 0⟩ := by rw [mo]; simp [sObj, sC, I]
      generalize hLL : l.map tokD = L at hT hll
      have fin : ∀ (j : Nat), j < n → j ≠ n ∧ j ≠ n + 1 ∧ j ≠ n + 1 + 1 := fun j hj => by omega
      by_cases hat : (q.at_ : Int) < l.length
      · have hat' : q.at_ < l.length := by omega
        have hqb : (failS 2 q).bad ≠ 0 := by unfold failS; split <;> simp_all
        rw [if_pos hat', if_neg hqb]
        simp -dsimp [g2, g3, g4, g6, g7, hmx, hT, hll, hat, hat']
        refine aCall_of (cUSpoil (l := l) (p := q) 2 (by omega) (by omega) mo) ?_
        rintro d m5 n5 ⟨rfl, rfl, rfl⟩
        generalize failS 2 q = qq at hqb ⊢
        have hob : sObj l qq = ⟨3, [[toksD l, I qq.at_, spotE qq.cnt qq.bad]], 0⟩ := by simp [sObj, sC, errS, hqb]
        rw [hob]
        simp -dsimp [g2, g3, g4, g6, g7, hqb, spotE]
        refine vdraw_of [0, 0, 2, 6, 14, 1, 63] [0, 1, 2, 3, 4, 5, 6] (by kernel_rfl) (by kernel_rfl) ?_
        simp -dsimp [g2, g3, g4, g6, g7, hqb, spotE, set_ne, nn1, n1n, m2n]
        refine hq ⟨⟨_, rfl, pub0 _⟩, fun j hj => ?_⟩
        obtain ⟨j1, j2, _⟩ := fin j hj
        simp [set_ne, j1, j2]; exact fr j hj
      · have hat' : ¬ q.at_ < l.length := by omega
        rw [if_neg hat']
        by_cases hqb : q.bad = 0
        · rw [if_pos hqb]
          simp -dsimp [g2, g3, g4, g6, g7, hmx, hT, hll, hat, hat', hqb, errS, nilE, hm7, m2n]
          refine hq ⟨⟨_, rfl, .agg (.cons ?_ (.cons ?_ .nil))⟩, fun j hj => ?_⟩
          · rw [← hiso (hqi hqb)]
            exact .lstP (hLi.frame fun j hj => set_ne _ _ _ _ (by have := hki j hj; omega)) (fun j hj => by have := hki j hj; omega) pur_imps
          · exact .lstP (hL.frame fun j hj => set_ne _ _ _ _ (by have := hkk j hj; omega)) (fun j hj => by have := hkk j hj; omega) pur_lns
          · obtain ⟨j1, j2, _⟩ := fin j hj
            simp [set_ne, j1, j2]; exact fr j hj
        · rw [if_neg hqb]
          simp -dsimp [g2, g3, g4, g6, g7, hmx, hT, hll, hat, hat', hqb, errS, spotE]
          refine vdraw_of [0, 0, 2, 6, 14, 1, 63] [0, 1, 2, 3, 4, 5, 6] (by kernel_rfl) (by kernel_rfl) ?_
          simp -dsimp [g2, g3, g4, g6, g7, hmx, hqb, errS, spotE, set_ne, nn1, n1n, m2n]
          refine hq ⟨⟨_, rfl, pub0 _⟩, fun j hj => ?_⟩
          obtain ⟨j1, j2, _⟩ := fin j hj
          simp [set_ne, j1, j2]; exact fr j hj
  · rintro d m' n' ⟨⟨dt, rfl, h⟩, hf⟩
    exact ⟨_, pub_pair h (pur_errP _).pub, hf, rfl⟩
end Go.Proofs.Mv.App
open Go Go.Proofs Go.Proofs.Mv.V
set_option maxRecDepth 10000
namespace Go.Proofs.Mv.App
theorem cIsU (a : Int) (c : Int) (m : Mem) (n : Nat) : ACalls Tryz.prog 12 [spotE a c, I a, I c] m n (fun d m' n' => d = Tt true ∧ m' = m ∧ n' = n) := a_is none a c m n
def utx : List UInt8 := [105, 109, 112, 111, 114, 116, 32, 112, 32, 49, 32, 109, 32, 97, 115, 32, 109, 32, 117, 115, 101, 32, 109, 46, 102, 32, 58, 32, 73, 110, 116]
def utU : Us := ⟨[⟨[112], 1, [109], [109]⟩], [⟨1, [109], [102], .mk 1 [] 0 [] [] [] []⟩]⟩
theorem utP : usesF utx = (utU, .none) := by rfl
/-- A copy of no texts. -/
theorem cClone0 (m : Mem) (n : Nat) : ACalls Tryz.prog 129 [.sl 1 []] m n (fun d m' n' => d = .sl 1 [] ∧ m' = m ∧ n' = n) := by
  refine acalls_done (R' := Hq (fun d m' n' => PubAs n m' d (.sl 1 []) ∧ ∀ j, j < n → m' j = m j) tg) ?_ ?_
  · refine acalls_vc [0, 2, 4] Tryz.func129 Tryz.ntmps129 (by kernel_rfl) rfl rfl (by simp) ?_
    simp -dsimp
    refine ⟨hq ⟨pub_nil 1, fun _ _ => rfl⟩, hq ⟨?_, fun j hj => ?_⟩⟩
    · exact .lst (Lst.own (es := []) (set_same _ _ _)) (fun k hk => by simp [kof] at hk; omega) .nil
    · exact set_ne _ _ _ _ (by omega)
  · rintro d m' n' ⟨h1, h2⟩
    exact ⟨_, h1, h2, rfl⟩
/-- The calls that are answered for by contracts. -/
def orcU : CallE := fun id args M =>
  if Nat.beq id 11 then (if eqLE args [S utx] then some (.tup [.agg (usD utU), nilE], M, []) else none)
  else if Nat.beq id 12 then (if eqLE args [spotE 0 9, I 0, I 9] then some (Tt true, M, []) else none)
  else if Nat.beq id 129 then (if eqLE args [.sl 1 []] then some (.sl 1 [], M, []) else none)
  else none
theorem orcU_cs : CS Tryz.prog orcU := by
  intro id args M d M' W h
  unfold orcU at h
  split at h
  · rename_i h1
    split at h
    · rename_i h2
      have e1 := Nat.eq_of_beq_eq_true h1
      have e2 := eqLE_eq _ _ h2
      simp only [Option.some.injEq, Prod.mk.injEq] at h
      obtain ⟨rfl, rfl, rfl⟩ := h
      subst e1; subst e2
      refine ⟨?_, FrE.refl _ _⟩
      have := cUParse utx (toMem M) M.length
      rw [utP] at this
      exact this
    · cases h
  · split at h
    · rename_i h1
      split at h
      · rename_i h2
        have e1 := Nat.eq_of_beq_eq_true h1
        have e2 := eqLE_eq _ _ h2
        simp only [Option.some.injEq, Prod.mk.injEq] at h
        obtain ⟨rfl, rfl, rfl⟩ := h
        subst e1; subst e2
        exact ⟨cIsU 0 9 (toMem M) M.length, FrE.refl _ _⟩
      · cases h
    · split at h
      · rename_i h1
        split at h
        · rename_i h2
          have e1 := Nat.eq_of_beq_eq_true h1
          have e2 := eqLE_eq _ _ h2
          simp only [Option.some.injEq, Prod.mk.injEq] at h
          obtain ⟨rfl, rfl, rfl⟩ := h
          subst e1; subst e2
          exact ⟨cClone0 (toMem M) M.length, FrE.refl _ _⟩
        · cases h
      · cases h
theorem cUpU (m : Mem) (n : Nat) : ACalls Tryz.prog 5 [] m n (fun d m' n' => d = Tt true ∧ m' = m ∧ n' = n) :=
  run_true orcU_cs ev_mixed ev_names (fun _ => false) 200 30 (by kernel_rfl) m n
end Go.Proofs.Mv.App
open Go Go.Proofs Go.Proofs.Mv.V
set_option maxRecDepth 10000
namespace Go.Proofs.Mv.App
theorem cToldN (m : Mem) (n : Nat) : ACalls Tryz.prog 9 [nilE, I 0, I (-1)] m n (fun d m' n' => d = Tt true ∧ m' = m ∧ n' = n) :=
  run_at 200 20 (by rfl) (by kernel_rfl) m n
theorem cTold1 (m : Mem) (n : Nat) : ACalls Tryz.prog 9 [code 1, I 1, I (-1)] m n (fun d m' n' => d = Tt true ∧ m' = m ∧ n' = n) :=
  run_at 200 20 (by rfl) (by kernel_rfl) m n
theorem cToldS (a c : Int) (ha : 0 ≤ a) (m : Mem) (n : Nat) : ACalls Tryz.prog 9 [spotE a c, I c, I a] m n (fun d m' n' => d = Tt true ∧ m' = m ∧ n' = n) := by
  refine pc_of (pur_T _) (fun m n => ?_) m n
  have h : ¬ a < 0 := by omega
  refine acalls_vc [0, 1, 2, 6, 8] Tryz.func9 Tryz.ntmps9 (by kernel_rfl) rfl rfl (by simp) ?_
  simp -dsimp [I, h]
  refine pcall (cIsU a c) ?_
  simp -dsimp [Tt]
  exact pcq' rfl
theorem chkU_form (x : Us) (env : List Ifc) : ((chkU x env).1 = 1 ∧ (chkU x env).2 = -1) ∨ ((chkU x env).1 = 0 ∧ (chkU x env).2 = -1) ∨ (¬ (chkU x env).1 = 0 ∧ 0 ≤ (chkU x env).2) := by
  unfold chkU
  split
  · split
    · right; right; exact ⟨by simp, by simp⟩
    · split
      · rename_i i hb
        right; right
        have := List.find?_some hb
        simp only [decide_eq_true_eq] at this
        exact ⟨this, by simp⟩
      · right; left; exact ⟨rfl, rfl⟩
  · left; exact ⟨rfl, rfl⟩
theorem cToldU (x : Us) (env : List Ifc) : Pc Tryz.prog 9 [chkD (chkU x env), I (chkU x env).1, I (chkU x env).2] (Tt true) := by
  rcases chkU_form x env with ⟨h1, h2⟩ | ⟨h1, h2⟩ | ⟨h1, h2⟩
  · have : chkD (chkU x env) = code 1 := by unfold chkD; rw [if_neg (by omega), if_pos (by omega), h1]
    rw [this, h1, h2]; exact cTold1
  · have : chkD (chkU x env) = nilE := by unfold chkD; rw [if_pos h1]
    rw [this, h1, h2]; exact cToldN
  · have : chkD (chkU x env) = spotE (chkU x env).2 (chkU x env).1 := by unfold chkD; rw [if_neg h1, if_neg (by omega)]
    rw [this]; exact cToldS _ _ h2
set_option maxHeartbeats 1000000 in
theorem cUsesChecks {x : Us} {env : List Ifc} (hx : UsW x) (hw : ∀ f ∈ env, IfcW f) : Pc Tryz.prog 3 [.agg (usD x), .sl 5 (env.map ifD)] (Tt true) := by
  refine pc_of (pur_T _) (fun m n => ?_)
  have c1 := cRUFew hx
  have c2 := cRFewE hw
  have c3 : fewU x = true → fewE env = true → Pc Tryz.prog 8 [.agg (usD x), .sl 5 (env.map ifD)] (.tup [I (chkU x env).1, I (chkU x env).2]) := fun h1 h2 => cRCheckU hx h1 hw h2
  have c4 : fewU x = true → fewE env = true → Pc Tryz.prog 10 [.agg (usD x), .sl 5 (env.map ifD)] (chkD (chkU x env)) := fun h1 h2 =>
    cCheckU hx (by have := fewU_parts h1; omega) (by have := fewU_parts h1; omega) (by have := fewE_len h2; omega) hw
  have c5 := cToldU x env
  have fr : ∀ o j, j < n → (m.set n o) j = m j := fun o j hj => set_ne _ _ _ _ (by omega)
  have hz : (usD x).length = 2 := rfl
  generalize usD x = XX at c1 c3 c4 hz
  have htz : List.take 2 XX = XX := List.take_of_length_le (by omega)
  generalize env.map ifD = EL at c2 c3 c4
  generalize chkD (chkU x env) = CD at c4 c5
  generalize (chkU x env).1 = C1 at c3 c5
  generalize (chkU x env).2 = C2 at c3 c5
  refine acalls_vc [0, 1, 2, 4, 5, 6, 7, 8, 9, 20] Tryz.func3 Tryz.ntmps3 (by kernel_rfl) rfl rfl (by simp) ?_
  simp -dsimp [hz, htz]
  refine pcall cUpU ?_
  simp -dsimp [Tt, hz, htz]
  refine pcall c1 ?_
  simp -dsimp [Tt, hz, htz]
  refine pcall c2 ?_
  cases hf : fewU x
  · simp -dsimp [Tt]
    exact pcq rfl (fr _)
  cases hf2 : fewE env
  · simp -dsimp [Tt]
    exact pcq rfl (fr _)
  have c3 := c3 hf hf2
  have c4 := c4 hf hf2
  simp -dsimp [Tt, hz, htz]
  refine pcall c3 ?_
  simp -dsimp [Tt, I, hz, htz]
  refine pcall c4 ?_
  simp -dsimp [Tt, I, hz, htz]
  refine pcall c5 ?_
  simp -dsimp [Tt]
  exact pcq rfl (fr _)
end Go.Proofs.Mv.App
