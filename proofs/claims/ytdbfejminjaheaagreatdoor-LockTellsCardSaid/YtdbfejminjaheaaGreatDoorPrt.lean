/- A part of the proofs of the seat YtdbfejminjaheaaGreatDoor: the abstract machine, the contracts of the functions, the laws. No condition of its own. -/
import Derived.WalkKit
import Derived.LoopTactic
import Derived.Shelf.Strings.OnBuilder
import Derived.Test.YtdbfejminjaheaaGreatDoorLckC
import Derived.Test.YtdbfejminjaheaaGreatDoorLckF
import Derived.Test.YtdbfejminjaheaaGreatDoorMvFlat
import Derived.Test.YtdbfejminjaheaaGreatDoorMvPc
import Derived.Test.YtdbfejminjaheaaGreatDoorLayB
import Derived.Test.YtdbfejminjaheaaGreatDoorTyF
set_option linter.unusedSimpArgs false
set_option linter.unusedVariables false
set_option linter.unusedSectionVars false
open Go Go.Proofs Go.Proofs.Mv.V Go.RowKit
namespace Go.Proofs.Mv.App
theorem stX : Builder.Extra Tryz.prog Tryz.laysSt_ren where
  sizeBuilder := by kernel_rfl
  liesBuilder := by kernel_rfl
  t5 := Tryz.laysItoa.t5
  a5 := Tryz.laysItoa.a5
  z5 := Tryz.laysItoa.z5
  v5 := Tryz.laysItoa.v5
  infoByte := by kernel_rfl
  cellsByte := by kernel_rfl
  sizeByte := by kernel_rfl
  neB5 := by decide
/-- A builder goes on to hold what it holds while only new blocks are made. -/
theorem isB_blw {B b : Nat} {T e : TypeId} {bs : List Value} {w w' : World} (h : Lib.IsBuilder T e B b bs w) (hb : Blw w.heap.size w w') : Lib.IsBuilder T e B b bs w' := by
  have hat : ∀ {p}, Lib.BuilderAt T e B b p bs w → Lib.BuilderAt T e B b p bs w' := by
    rintro p ⟨h1, v, h2, ⟨h3, h4⟩, h5⟩
    refine ⟨h1, v, by rw [hb.block _ (Array.getElem?_eq_some_iff.1 h2).1]; exact h2, ⟨h3, ?_⟩, h5⟩
    rcases h4 with h4 | ⟨g, cap, cur, q1, q2, q3, q4⟩
    · exact .inl h4
    · exact .inr ⟨g, cap, cur, q1, q2, by rw [hb.block _ (Array.getElem?_eq_some_iff.1 q3).1]; exact q3, q4⟩
  exact h.imp hat hat
theorem cWS {B b : Nat} {l s : List UInt8} {w : World} (h : Lib.IsBuilder 74 5 B b (Lib.byteCells l) w) (hl : l.length + s.length ≤ 1000000000) (hB : B ≤ w.heap.size) :
    Calls Tryz.prog 43 #[.pointer (some ⟨b, 0, none⟩), .string (ofL s)] w fun e w' => e = .returned (.tuple #[.int .i64 (ofL s).size, .nilIface]) ∧ Lib.IsBuilder 74 5 B b (Lib.byteCells (l ++ s)) w' ∧ Below B w w' := by
  refine Calls.mono (show Calls Tryz.prog 43 _ _ _ from Any.Builder_WriteString { Tryz.laysJoin with } joinX B b (Lib.byteCells l) (ofL s) w h ?_ hB) ?_
  · rw [Lib.byteCells_length]; have : (ofL s).size = s.length := by show (s.toArray).size = _; simp
    omega
  · rintro e w' ⟨rfl, h1, h2⟩
    refine ⟨rfl, .inr ?_, h2⟩
    have : Lib.byteCells (l ++ s) = Lib.byteCells l ++ Lib.strCells (ofL s) := by rw [Lib.strCells_eq]; show _ = Lib.byteCells l ++ Lib.byteCells s; simp [Lib.byteCells]
    rw [this]; exact h1
theorem cST {B b : Nat} {l : List UInt8} {w : World} (h : Lib.IsBuilder 74 5 B b (Lib.byteCells l) w) (hB : B ≤ w.heap.size) :
    Calls Tryz.prog 44 #[.pointer (some ⟨b, 0, none⟩)] w fun e w' => e = .returned (.string (ofL l)) ∧ Below B w w' :=
  show Calls Tryz.prog 44 _ _ _ from Any.Builder_String_any { Tryz.laysSt with } stX B b l w h hB
/-- A pick's cells. -/
theorem pk_cells {w : World} {ν : Nu} {F : Nat → Prop} {b : Nat} : ∀ (l : List Pck) (o : Nat), ConEs w ν F 4 (l.map pkD) b o → ∀ (k : Nat) (h : k < l.length),
    w.cell? ⟨b, o + k * 4, none⟩ = some (.string (ofL l[k].pkg)) ∧ w.cell? ⟨b, o + k * 4 + 1, none⟩ = some (.int .i64 l[k].ver.major) ∧
    w.cell? ⟨b, o + k * 4 + 2, none⟩ = some (.int .i64 l[k].ver.minor) ∧ w.cell? ⟨b, o + k * 4 + 3, none⟩ = some (.int .i64 l[k].ver.patch)
  | [], _, _, k, h => by simp at h
  | p :: l, o, h, k, hk => by
    simp only [List.map_cons, ConEs, pkD, verD, ConCs] at h
    obtain ⟨_, ⟨⟨y0, c0, _, e0⟩, ⟨y1, c1, _, e1⟩, ⟨y2, c2, _, e2⟩, ⟨y3, c3, _, e3⟩, _⟩, hr⟩ := h
    cases k with
    | zero =>
      simp only [Con, S, I] at e0 e1 e2 e3
      subst e0; subst e1; subst e2; subst e3
      simpa using ⟨c0, c1, c2, c3⟩
    | succ k =>
      have := pk_cells l (o + 4) hr k (by simpa using hk)
      rw [show o + 4 + k * 4 = o + (k + 1) * 4 by omega] at this
      simpa using this
theorem cSP {w : World} {ν : Nu} {F : Nat → Prop} {m : Mem} {n : Nat} (hst : St w ν F m n) {W : World} (hb : Blw w.heap.size w W) {v : Ver} (hv : mayV v = true) :
    Calls Tryz.prog 42 #[.agg #[.int .i64 v.major, .int .i64 v.minor, .int .i64 v.patch]] W fun e w' => e = .returned (.tuple #[.string (ofL (textV v)), .nilIface]) ∧ Blw W.heap.size W w' := by
  have hst' := st_blw hst hb
  refine (calls_all (args := [.agg (verD v)]) (d := .tup [S (textV v), nilE]) ?_ rfl hst' (vals := #[.agg #[.int .i64 v.major, .int .i64 v.minor, .int .i64 v.patch]]) ?_).mono ?_
  · have := cPrintV v (fun _ => none) 0
    rw [hv] at this
    exact this
  · simp only [ConVs]
    refine ⟨_, [], rfl, ?_, rfl⟩
    simp [Con, ConVs, verD, I, oneC]
  · rintro e w' ⟨y, rfl, hb2, ν', F', hcv⟩
    simp only [Con, ConVs, S, nilE] at hcv
    obtain ⟨ys, rfl, y1, r1, e1, rfl, y2, r2, e2, rfl, e3⟩ := hcv
    subst e3; subst e2
    exact ⟨by rw [show ys = #[.string (ofL (textV v)), .nilIface] from Array.toList_inj.1 e1], hb2⟩
set_option maxRecDepth 100000 in
set_option maxHeartbeats 8000000 in
theorem lockPrint_w {l : List Pck} (hm : mayL l = true) {w : World} {ν : Nu} {F : Nat → Prop} {m : Mem} {n : Nat} (hst : St w ν F m n) {sa : Option Addr} {c : Nat}
    (hv : Con w ν F (.sl 4 (l.map pkD)) (.slice sa l.length c)) (hc : ∀ k, k < l.length → ∃ b o, sa = some ⟨b, o, none⟩ ∧ b < w.heap.size ∧ ConEs w ν F 4 (l.map pkD) b o) (hlc : l.length ≤ c) :
    Calls Tryz.prog 9 #[.slice sa l.length c] w fun e w' => e = .returned (.tuple #[.string (ofL (textL l)), .nilIface]) ∧ Blw w.heap.size w w' := by
  obtain ⟨hl, hpk⟩ := mayL_parts hm
  have cMay : Calls Tryz.prog 11 #[.slice sa l.length c] w fun e w' => e = .returned (.bool true) ∧ Blw w.heap.size w w' := by
    refine (calls_all (args := [.sl 4 (l.map pkD)]) (d := Tt true) ?_ ?_ hst (vals := #[.slice sa l.length c]) ?_).mono ?_
    · have := cLockMay (l := l) (fun p hp => by
        obtain ⟨i, hi, rfl⟩ := List.getElem_of_mem hp
        have := (okPk_parts (hpk i hi)).1; omega) (by omega) (fun _ => none) 0
      rw [hm] at this; exact this
    · simp only [belowL, Bool.and_true]; exact (Pur.sl pur_pks).2 0
    · simp only [ConVs]; exact ⟨_, [], rfl, hv, rfl⟩
    · rintro e w' ⟨v, rfl, hb, ν', F', hcv⟩
      simp only [Con, Tt] at hcv; subst hcv
      exact ⟨rfl, hb⟩
  refine calls_of_wp Tryz.func9 rfl ?_
  simp only [Tryz.ntmps9, List.size_toArray, List.length_cons, List.length_nil, Nat.reduceAdd, Nat.reduceSub, Array.replicate_succ, Array.replicate_zero, List.push_toArray, List.append_toArray, List.nil_append, List.cons_append]
  go_wp2_with fail
  refine cMay.mono ?_
  rintro e w1 ⟨rfl, hb1⟩
  go_wp2_with fail
  have hB0 : w.heap.size ≤ w1.heap.size := hb1.size
  have hbA : Blw w.heap.size w (w1.alloc (.cells #[.pointer none, .slice none 0 0] 74)) := hb1.alloc hB0 _
  have hiB : Lib.IsBuilder 74 5 w.heap.size w1.heap.size (Lib.byteCells []) (w1.alloc (.cells #[.pointer none, .slice none 0 0] 74)) :=
    .inl ⟨hB0, _, World.alloc_heap_new w1 _, ⟨rfl, .inl ⟨rfl, rfl⟩⟩, by simp [Value.ownBlock]⟩
  go_loopw [15] (fun i wx => ∃ k : Nat, k ≤ l.length ∧ i = .int .i64 k ∧ Lib.IsBuilder 74 5 w.heap.size w1.heap.size (Lib.byteCells (linesF ((l.take k).map pkLine))) wx ∧ Blw w.heap.size w wx) (fun i _ => l.length - (intOf i).toNat)
  case atStart => exact ⟨0, Nat.zero_le _, rfl, hiB, hbA⟩
  case round =>
    obtain ⟨k, hk, rfl, hB, hbx⟩ := hrel
    by_cases hlt : k < l.length
    · obtain ⟨b0, o0, rfl, hb0, hes⟩ := hc k hlt
      obtain ⟨c0, c1, c2, c3⟩ := pk_cells l o0 hes k hlt
      have d0 := hbx.cell hb0 c0
      have d1 := hbx.cell hb0 c1
      have d2 := hbx.cell hb0 c2
      have d3 := hbx.cell hb0 c3
      clear c0 c1 c2 c3
      have hbN := hbx.alloc hbx.size (.cells #[.string (ofL l[k].pkg), .int .i64 l[k].ver.major, .int .i64 l[k].ver.minor, .int .i64 l[k].ver.patch] 70)
      have hiN := isB_blw hB ((Blw.refl wr.heap.size wr).alloc (Nat.le_refl _) (.cells #[.string (ofL l[k].pkg), .int .i64 l[k].ver.major, .int .i64 l[k].ver.minor, .int .i64 l[k].ver.patch] 70))
      have hnew : (wr.alloc (.cells #[.string (ofL l[k].pkg), .int .i64 l[k].ver.major, .int .i64 l[k].ver.minor, .int .i64 l[k].ver.patch] 70)).cell? ⟨wr.heap.size, 0, none⟩ = some (.string (ofL l[k].pkg)) := by
        unfold World.cell?; rw [World.alloc_heap_new]; rfl
      have cP := cSP hst hbN (okPk_parts (hpk k hlt)).2
      go_wp2_with fail
      refine cP.mono ?_
      rintro e w2 ⟨rfl, hb2⟩
      have h6 := hb2.cell (by simp) hnew
      have hi2 := isB_blw hiN hb2
      have hb02 : Blw w.heap.size w w2 := hbN.trans (hb2.mono hbN.size)
      clear cP hnew hiN
      have hp20 := (okPk_parts (hpk k hlt)).1
      have ht62 := textV_len l[k].ver
      have x1 : ¬9223372036854775807 < l[k].pkg.length + 1 := by omega
      have x2 : ¬9223372036854775807 < l[k].pkg.length + 1 + (textV l[k].ver).length := by omega
      have x3 : ¬9223372036854775807 < l[k].pkg.length + ((textV l[k].ver).length + 1) + 1 := by omega
      have hlen : (linesF ((l.take k).map pkLine)).length ≤ 200 * 84 := by
        have h1 := linesF_len (B := 83) (l := (l.take k).map pkLine) (fun s hs => by
          obtain ⟨p, hp, rfl⟩ := List.mem_map.1 hs
          obtain ⟨i, hi, rfl⟩ := List.getElem_of_mem (List.mem_of_mem_take hp)
          have h1 := (okPk_parts (hpk i hi)).1
          have h2 := textV_len l[i].ver
          simp only [pkLine, List.length_append, List.length_cons, List.length_nil]; omega)
        rw [List.length_map, List.length_take] at h1
        have : min k l.length * (83 + 1) ≤ 200 * (83 + 1) := Nat.mul_le_mul_right _ (by omega)
        omega
      have cW := cWS (s := l[k].pkg ++ 32 :: (textV l[k].ver ++ [10])) hi2 (by simp only [List.length_append, List.length_cons, List.length_nil]; omega) hb02.size
      go_wp2_with fail
      refine cW.mono ?_
      rintro e w3 ⟨rfl, hi3, hb3⟩
      clear cW
      have hi3' : Lib.IsBuilder 74 5 w.heap.size w1.heap.size (Lib.byteCells (linesF ((l.take (k + 1)).map pkLine))) w3 := by
        rw [take_snoc hlt, List.map_append, List.map_cons, List.map_nil, linesF_snoc]
        simpa [pkLine] using hi3
      have hb03 := hb02.trans (Blw.of hb3)
      go_wp2_with fail
      go_roundw
      case rel => exact ⟨k + 1, by omega, by simp, hi3', hb03⟩
      case measure => simp [intOf]; omega
    · obtain rfl : k = l.length := by omega
      rw [List.take_length] at hB
      have cS := cST hB hbx.size
      go_wp2_with fail
      refine cS.mono ?_
      rintro e w4 ⟨rfl, hb4⟩
      go_wp2_with fail
      go_ret2
      exact ⟨rfl, hbx.trans (Blw.of hb4)⟩
set_option maxRecDepth 10000 in
theorem cLockPrint {l : List Pck} (hw : ∀ p ∈ l, p.pkg.length ≤ 9223372036854775807) (hl : l.length ≤ 1000000) (m : Mem) (n : Nat) :
    ACalls Tryz.prog 9 [.sl 4 (l.map pkD)] m n (fun d m' n' => d = .tup [S (if mayL l then textL l else []), argE (mayL l)] ∧ m' = m ∧ n' = n) := by
  cases hm : mayL l with
  | false =>
    refine pc_of (d := .tup [S [], argE false]) (Pur.tup (by simp [argE]; exact ⟨pur_S _, Pur.iface (Pur.v _)⟩)) (fun m n => ?_) m n
    have cM := fun m n => cLockMay hw hl m n
    rw [hm] at cM
    generalize l.map pkD = SL at cM
    refine acalls_vc [0, 2, 3, 4, 6, 7, 8, 11, 13, 14, 15, 16, 26] Tryz.func9 Tryz.ntmps9 (by kernel_rfl) rfl rfl (by simp) ?_
    simp -dsimp
    refine pcall (fun m n => cM m n) ?_
    simp -dsimp [Tt]
    exact pcq' rfl
  | true =>
    refine acalls_blw ⟨_, Tryz.func9, by kernel_rfl, by kernel_rfl⟩ fun w ν F vals hst hv => ?_
    obtain ⟨y, rfl, hy⟩ := conVs_arr1 hv
    have hy0 := hy
    simp only [Con] at hy
    have fin : ∀ {sa : Option Addr} {c : Nat}, y = .slice sa l.length c → l.length ≤ c → (∀ k, k < l.length → ∃ b o, sa = some ⟨b, o, none⟩ ∧ b < w.heap.size ∧ ConEs w ν F 4 (l.map pkD) b o) →
        Calls Tryz.prog 9 #[y] w fun e w' => ∃ v, e = .returned v ∧ Blw w.heap.size w w' ∧ ∃ d, Con w' ν F d v ∧ (d = .tup [S (if true = true then textL l else []), argE true] ∧ m = m ∧ n = n) := by
      rintro sa c rfl hlc hc
      refine (lockPrint_w hm hst hy0 hc hlc).mono ?_
      rintro e w' ⟨rfl, hb⟩
      refine ⟨_, rfl, hb, _, ?_, rfl, rfl, rfl⟩
      simp [Con, ConVs, S, argE, nilE]
    rcases hy with ⟨b, o, c, rfl, hlc, hF, hes⟩ | ⟨hnil, a, rfl⟩
    · rw [List.length_map] at hlc
      exact fin (by rw [List.length_map]) hlc fun k hk => ⟨b, o, rfl, hst.mem.lt b hF, hes⟩
    · obtain rfl : l = [] := by simpa using hnil
      exact fin rfl (Nat.zero_le _) fun k hk => absurd hk (Nat.not_lt_zero _)
end Go.Proofs.Mv.App
