/- A part of the proofs: machine, contracts, laws. No condition of its own. -/
import Derived.Test.YtihbegkefjjhpaaGreatDoorP01
import Derived.Test.YtihbegkefjjhpaaGreatDoorMvD
import Derived.Test.YtihbegkefjjhpaaGreatDoorFact
import Derived.Test.YtihbegkefjjhpaaGreatDoorMvC
import Derived.Lib.ItoaNum
import Derived.KernelRfl
import Derived.Shelf.Small.Strs
import Derived.Shelf.Pu.ParseUintPublic10
import Derived.Ground.MpProg
import Derived.Ground.NamesProg
import Derived.Ground.Names2Prog
import Derived.Test.YtihbegkefjjhpaaGreatDoorProg
import Derived.Test.YtihbegkefjjhpaaGreatDoorP00
set_option linter.unusedSimpArgs false
set_option linter.unusedVariables false
set_option linter.unusedSectionVars false
open Go Go.Proofs Go.Proofs.Mv.V
set_option maxRecDepth 10000
namespace Go.Proofs.Mv.App
mutual
def sameTm : Tm → Tm → Bool
  | .mk k u m n ns vs ts ss, .mk k' u' m' n' ns' vs' ts' ss' => decide (k = k') && decide (u = u') && decide (m = m') && decide (n = n') && decide (ns = ns') && decide (vs = vs') && decide (ts = ts') && sameTms ss ss'
def sameTms : List Tm → List Tm → Bool
  | [], [] => true
  | a :: l, b :: r => sameTm a b && sameTms l r
  | [], _ :: _ => false
  | _ :: _, [] => false
end
mutual
theorem sameTm_iff : ∀ a b : Tm, sameTm a b = true ↔ a = b
  | .mk k u m n ns vs ts ss, .mk k' u' m' n' ns' vs' ts' ss' => by
    simp only [sameTm, Bool.and_eq_true, decide_eq_true_eq, sameTms_iff ss ss', Tm.mk.injEq, and_assoc]
theorem sameTms_iff : ∀ a b : List Tm, sameTms a b = true ↔ a = b
  | [], [] => by simp [sameTms]
  | a :: l, b :: r => by simp only [sameTms, Bool.and_eq_true, sameTm_iff a b, sameTms_iff l r, List.cons.injEq]
  | [], _ :: _ => by simp [sameTms]
  | _ :: _, [] => by simp [sameTms]
end
instance : DecidableEq Tm := fun a b => decidable_of_iff (sameTm a b = true) (sameTm_iff a b)
variable [GI]
set_option maxHeartbeats 4000000 in
theorem cRSameTm {a : Tm} (ha : TmW a) : ∀ {b : Tm}, Pc Tryz.prog 11 [.agg (tmD a), .agg (tmD b)] (Tt (sameTm a b)) := by
  induction ha with
  | mk kind num mod name names vars types subs l1 l2 l3 l4 l5 l6 l7 l8 l9 l10 ih =>
    intro b
    obtain ⟨kind', num', mod', name', names', vars', types', subs'⟩ := b
    refine pc_of (pur_T _) (fun m n => ?_)
    have nn1 : n ≠ n + 1 := by omega
    have n1n : n + 1 ≠ n := by omega
    have fr : ∀ o o' j, j < n → ((m.set n o).set (n + 1) o') j = m j := fun o o' j hj => by rw [set_ne _ _ _ _ (by omega), set_ne _ _ _ _ (by omega)]
    have cN := cRTexts l1 names'
    have cV := cRTexts l2 vars'
    have hL3 : (types.map tyD).length = types.length := by simp
    have hG3 : ∀ i (h : i < types.length), (types.map tyD)[i]? = some (tyD types[i]) := fun i h => by simp [h]
    have hL3' : (types'.map tyD).length = types'.length := by simp
    have hG3' : ∀ i (h : i < types'.length), (types'.map tyD)[i]? = some (tyD types'[i]) := fun i h => by simp [h]
    have hL4 : (subs.map tmD).length = subs.length := by simp
    have hG4 : ∀ i (h : i < subs.length), (subs.map tmD)[i]? = some (tmD subs[i]) := fun i h => by simp [h]
    have hL4' : (subs'.map tmD).length = subs'.length := by simp
    have hG4' : ∀ i (h : i < subs'.length), (subs'.map tmD)[i]? = some (tmD subs'[i]) := fun i h => by simp [h]
    have hno : ¬ (kind = kind' ∧ num = num' ∧ mod = mod' ∧ name = name' ∧ names = names' ∧ vars = vars' ∧ types = types' ∧ subs = subs') → sameTm (.mk kind num mod name names vars types subs) (.mk kind' num' mod' name' names' vars' types' subs') = false := fun h => by
      cases e : sameTm (.mk kind num mod name names vars types subs) (.mk kind' num' mod' name' names' vars' types' subs')
      · rfl
      · exact absurd (by simpa using (sameTm_iff _ _).1 e) h
    have hyes : (kind = kind' ∧ num = num' ∧ mod = mod' ∧ name = name' ∧ names = names' ∧ vars = vars' ∧ types = types' ∧ subs = subs') → sameTm (.mk kind num mod name names vars types subs) (.mk kind' num' mod' name' names' vars' types' subs') = true := fun h => by
      rw [sameTm_iff]; simpa using h
    generalize sameTm (.mk kind num mod name names vars types subs) (.mk kind' num' mod' name' names' vars' types' subs') = R at hno hyes
    simp only [tmD, tmsD_eq]
    simp only [sl1] at cN cV ⊢
    generalize (names.map fun s => [S s]) = NL at cN
    generalize (names'.map fun s => [S s]) = NL' at cN
    generalize (vars.map fun s => [S s]) = VL at cV
    generalize (vars'.map fun s => [S s]) = VL' at cV
    generalize types.map tyD = YL at hL3 hG3
    generalize types'.map tyD = YL' at hL3' hG3'
    generalize subs.map tmD = SL at hL4 hG4
    generalize subs'.map tmD = SL' at hL4' hG4'
    refine acalls_vc [0, 1, 2, 3, 4, 5, 6, 7, 8, 9, 10, 72, 77, 92, 97, 112] Tryz.func11 Tryz.ntmps11 (by kernel_rfl) rfl rfl (by simp) ?_
    simp -dsimp [I, S, Tt, set_ne, nn1, n1n]
    refine pcall cN ?_
    simp -dsimp [I, S, Tt, set_ne, nn1, n1n]
    refine pcall cV ?_
    by_cases c1 : kind = kind'
    · subst c1
      by_cases c2 : num = num'
      · subst c2
        by_cases c3 : mod = mod'
        · subst c3
          by_cases c4 : name = name'
          · subst c4
            by_cases c5 : names = names'
            · subst c5
              by_cases c6 : vars = vars'
              · subst c6
                by_cases c7 : types.length = types'.length
                · have c7' : (types.length : Int) = types'.length := by omega
                  by_cases c8 : subs.length = subs'.length
                  · have c8' : (subs.length : Int) = subs'.length := by omega
                    simp -dsimp [I, S, Tt, set_ne, nn1, n1n, hL3, hL4, hL3', hL4', c7', c8']
                    refine vloop_as (β := Nat) (fun i => [(2, .ptr n 0 0 0), (3, .ptr (n + 1) 0 0 0), (7, I i)]) (fun i m2 n2 => m2 = (m.set n (tmO kind num mod name NL VL YL SL)).set (n + 1) (tmO kind num mod name NL' VL' YL' SL') ∧ n2 = n + 1 + 1 ∧ i ≤ types.length ∧ types.take i = types'.take i) (fun i => types.length - i) 0 (by simp [I]) ⟨rfl, rfl, by omega, by simp⟩ ?_
                    rintro i m2 n2 ⟨rfl, rfl, le, heq⟩
                    by_cases hi : (i : Int) < types.length
                    · have hi' : i < types.length := by omega
                      have hi2 : i < types'.length := by omega
                      have hi3 : (i : Int) < types'.length := by omega
                      have wi : IntKind.i64.wrap ((i : Int) + 1) = (i : Int) + 1 := wrap_i64 (by omega) (by omega)
                      have hiN : i < YL.length := by omega
                      have hgi : YL[i] = tyD types[i] := get_opt (hG3 i hi') hiN
                      have hiN' : i < YL'.length := by omega
                      have hgi' : YL'[i] = tyD types'[i] := get_opt (hG3' i hi2) hiN'
                      simp -dsimp [I, S, Tt, set_ne, nn1, n1n, hL3, hL4, hL3', hL4', hi, hi', hi2, hi3, c7', tmO]
                      refine vdraw_of [0, 1, 0, 7, 15, 0, 32, 0, 224, 480, 1023, 2047] [0, 1, 2, 3, 4, 5, 6, 7, 8, 9, 10, 11] (by kernel_rfl) (by kernel_rfl) ?_
                      simp -dsimp [I, S, Tt, set_ne, nn1, n1n, hL3, hL4, hL3', hL4', hi, hi', hi2, hi3, hiN, hgi, hiN', hgi', wi, c7']
                      refine pcall (cSameT (l9 _ (List.getElem_mem hi')) (b := types'[i])) ?_
                      cases ce : sameT types[i] types'[i]
                      · rw [hno (fun h => by
                          have h2 := h.2.2.2.2.2.2.1
                          subst h2
                          rw [(sameT_iff _ _).2 rfl] at ce; cases ce)]
                        simp -dsimp [I, S, Tt, set_ne, nn1, n1n]
                        exact pcq rfl (fr _ _)
                      · simp -dsimp [I, S, Tt, set_ne, nn1, n1n, wi]
                        refine rnd (i + 1) (by omega) (by simp [I]) ⟨rfl, rfl, by omega, ?_⟩
                        rw [List.take_succ_eq_append_getElem hi', List.take_succ_eq_append_getElem hi2, heq, (sameT_iff _ _).1 ce]
                    · have e1 : types.take i = types := List.take_of_length_le (by omega)
                      have e2 : types'.take i = types' := List.take_of_length_le (by omega)
                      rw [e1, e2] at heq
                      have hi3 : ¬ (i : Int) < types'.length := by omega
                      have hi4 : ¬ i < types'.length := by omega
                      simp -dsimp [I, S, Tt, set_ne, nn1, n1n, hL3, hL4, hL3', hL4', hi, hi3, hi4, c7', tmO]
                      refine vloop_as (β := Nat) (fun i => [(2, .ptr n 0 0 0), (3, .ptr (n + 1) 0 0 0), (9, I i)]) (fun i m2 n2 => m2 = (m.set n (tmO kind num mod name NL VL YL SL)).set (n + 1) (tmO kind num mod name NL' VL' YL' SL') ∧ n2 = n + 1 + 1 ∧ i ≤ subs.length ∧ subs.take i = subs'.take i) (fun i => subs.length - i) 0 (by simp [I]) ⟨rfl, rfl, by omega, by simp⟩ ?_
                      rintro i m2 n2 ⟨rfl, rfl, le, heq2⟩
                      by_cases hi : (i : Int) < subs.length
                      · have hi' : i < subs.length := by omega
                        have hi2 : i < subs'.length := by omega
                        have hi3 : (i : Int) < subs'.length := by omega
                        have wi : IntKind.i64.wrap ((i : Int) + 1) = (i : Int) + 1 := wrap_i64 (by omega) (by omega)
                        have hiN : i < SL.length := by omega
                        have hgi : SL[i] = tmD subs[i] := get_opt (hG4 i hi') hiN
                        have hiN' : i < SL'.length := by omega
                        have hgi' : SL'[i] = tmD subs'[i] := get_opt (hG4' i hi2) hiN'
                        simp -dsimp [I, S, Tt, set_ne, nn1, n1n, hL3, hL4, hL3', hL4', hi, hi', hi2, hi3, c8', tmO]
                        refine vdraw_of [0, 1, 0, 7, 15, 0, 32, 0, 224, 480, 1023, 2047] [0, 1, 2, 3, 4, 5, 6, 7, 8, 9, 10, 11] (by kernel_rfl) (by kernel_rfl) ?_
                        simp -dsimp [I, S, Tt, set_ne, nn1, n1n, hL3, hL4, hL3', hL4', hi, hi', hi2, hi3, hiN, hgi, hiN', hgi', wi, c8']
                        refine pcall (ih subs[i] (List.getElem_mem hi') (b := subs'[i])) ?_
                        cases ce : sameTm subs[i] subs'[i]
                        · rw [hno (fun h => by
                            have h2 := h.2.2.2.2.2.2.2
                            subst h2
                            rw [(sameTm_iff _ _).2 rfl] at ce; cases ce)]
                          simp -dsimp [I, S, Tt, set_ne, nn1, n1n]
                          exact pcq rfl (fr _ _)
                        · simp -dsimp [I, S, Tt, set_ne, nn1, n1n, wi]
                          refine rnd (i + 1) (by omega) (by simp [I]) ⟨rfl, rfl, by omega, ?_⟩
                          rw [List.take_succ_eq_append_getElem hi', List.take_succ_eq_append_getElem hi2, heq2, (sameTm_iff _ _).1 ce]
                      · have e1 : subs.take i = subs := List.take_of_length_le (by omega)
                        have e2 : subs'.take i = subs' := List.take_of_length_le (by omega)
                        rw [e1, e2] at heq2
                        rw [hyes ⟨rfl, rfl, rfl, rfl, rfl, rfl, heq, heq2⟩]
                        have hi3 : ¬ (i : Int) < subs'.length := by omega
                        have hi4 : ¬ i < subs'.length := by omega
                        simp -dsimp [I, S, Tt, set_ne, nn1, n1n, hL3, hL4, hL3', hL4', hi, hi3, hi4, c8', tmO]
                        exact pcq rfl (fr _ _)
                  · have d8 : ((subs.length : Int) == subs'.length) = false := by rw [beq_eq_false_iff_ne]; omega
                    have d8' : ((subs.length : Int) != subs'.length) = true := by rw [bne_iff_ne]; omega
                    rw [hno (fun h => c8 (by rw [h.2.2.2.2.2.2.2]))]
                    simp -dsimp [I, S, Tt, set_ne, nn1, n1n, hL3, hL4, hL3', hL4', c7', d8, d8']
                    exact pcq rfl (fr _ _)
                · have d7 : ((types.length : Int) == types'.length) = false := by rw [beq_eq_false_iff_ne]; omega
                  have d7' : ((types.length : Int) != types'.length) = true := by rw [bne_iff_ne]; omega
                  rw [hno (fun h => c7 (by rw [h.2.2.2.2.2.2.1]))]
                  simp -dsimp [I, S, Tt, set_ne, nn1, n1n, hL3, hL4, hL3', hL4', d7, d7']
                  exact pcq rfl (fr _ _)
              · have d6 : decide (vars = vars') = false := by simpa using c6
                rw [hno (fun h => c6 h.2.2.2.2.2.1), d6]
                simp -dsimp [I, S, Tt, set_ne, nn1, n1n]
                exact pcq rfl (fr _ _)
            · have d5 : decide (names = names') = false := by simpa using c5
              rw [hno (fun h => c5 h.2.2.2.2.1), d5]
              simp -dsimp [I, S, Tt, set_ne, nn1, n1n]
              exact pcq rfl (fr _ _)
          · have d4 : (name == name') = false := by simpa using c4
            rw [hno (fun h => c4 h.2.2.2.1)]
            simp -dsimp [I, S, Tt, set_ne, nn1, n1n, d4]
            exact pcq rfl (fr _ _)
        · have d3 : (mod == mod') = false := by simpa using c3
          rw [hno (fun h => c3 h.2.2.1)]
          simp -dsimp [I, S, Tt, set_ne, nn1, n1n, d3]
          exact pcq rfl (fr _ _)
      · have d2 : (num != num') = true := by simpa using c2
        rw [hno (fun h => c2 h.2.1)]
        simp -dsimp [I, S, Tt, set_ne, nn1, n1n, c2, d2]
        exact pcq rfl (fr _ _)
    · have d1 : (kind != kind') = true := by simpa using c1
      rw [hno (fun h => c1 h.1)]
      simp -dsimp [I, S, Tt, set_ne, nn1, n1n, c1, d1]
      exact pcq rfl (fr _ _)
end Go.Proofs.Mv.App
open Go Go.Proofs Go.Proofs.Mv.V
set_option maxRecDepth 10000
namespace Go.Proofs.Mv.App
mutual
def deepTm : Tm → Nat
  | .mk _ _ _ _ _ _ _ subs => deepTms subs + 1
def deepTms : List Tm → Nat
  | [] => 0
  | t :: ts => max (deepTm t) (deepTms ts)
end
theorem manyTms_append : ∀ (l r : List Tm), manyTms (l ++ r) = manyTms l + manyTms r
  | [], r => by simp [manyTms]
  | t :: ts, r => by simp only [List.cons_append, manyTms, manyTms_append ts r]; omega
theorem manyTms_snoc (l : List Tm) (x : Tm) : manyTms (l ++ [x]) = manyTms l + manyTm x := by rw [manyTms_append]; simp [manyTms]
theorem manyTms_take (l : List Tm) (i : Nat) : manyTms (l.take i) ≤ manyTms l := by
  have := manyTms_append (l.take i) (l.drop i); rw [List.take_append_drop] at this; omega
theorem deepTms_append : ∀ (l r : List Tm), deepTms (l ++ r) = max (deepTms l) (deepTms r)
  | [], r => by simp [deepTms]
  | t :: ts, r => by simp only [List.cons_append, deepTms, deepTms_append ts r]; omega
theorem deepTms_snoc (l : List Tm) (x : Tm) : deepTms (l ++ [x]) = max (deepTms l) (deepTm x) := by rw [deepTms_append]; simp [deepTms]
variable [GI]
end Go.Proofs.Mv.App
namespace Go.Proofs.Mv.V
open Go.RowKit Go.Extern.Stop Go.Stop Go.Extern Go
structure Laid (w : World) (F : Nat → Prop) : Prop where
  f1 : F 5
  f2 : F 6
  f3 : F 1
  c1 : ∃ te pe, w.cell? ⟨5, 0, none⟩ = some (.iface te pe)
  c2 : ∃ te pe, w.cell? ⟨6, 0, none⟩ = some (.iface te pe)
  c3 : w.var? Tryz.prog "internal/strconv.uint64pow10" = some (Lib.pow10Tab.map fun z => Value.int .u64 z).toArray
theorem pow10_g : Tryz.prog.globalNamed "internal/strconv.uint64pow10" = some 1 := by kernel_rfl
instance laidGI : GI where
  inv := Laid
  keep := by
    intro w w' F F' h k
    have e : ∀ b, F b → w'.cell? ⟨b, 0, none⟩ = w.cell? ⟨b, 0, none⟩ := fun b hb => by simp only [World.cell?, (k b hb).2]
    have e3 : w'.var? Tryz.prog "internal/strconv.uint64pow10" = w.var? Tryz.prog "internal/strconv.uint64pow10" := by simp only [World.var?, pow10_g, Option.bind_some, (k _ h.f3).2]
    exact ⟨(k _ h.f1).1, (k _ h.f2).1, (k _ h.f3).1, by rw [e _ h.f1]; exact h.c1, by rw [e _ h.f2]; exact h.c2, by rw [e3]; exact h.c3⟩
end Go.Proofs.Mv.V
namespace Go.Proofs
open Go.Shelf
def Tryz.lays137_ren : Go.Shelf.Ren := ⟨fun | 137 => 100 | 217 => 139 | 266 => 173 | n => n, fun | 9 => 9 | 5 => 5 | 3 => 3 | n => n, fun | n => n⟩
theorem Tryz.lays137 : Go.Proofs.Lays.n137 Tryz.prog Tryz.lays137_ren := {
  mixed := by kernel_rfl
  f137 := Tryz.func100.trans (congrArg some (by kernel_rfl))
  f217 := Tryz.func139.trans (congrArg some (by kernel_rfl))
  f266 := Tryz.func173.trans (congrArg some (by kernel_rfl))
  t3 := Tryz.underlying3
  a3 := Tryz.isAgg3
  z3 := Tryz.sizeOf3
  v3 := Tryz.zeroValue3
  t5 := Tryz.underlying5
  a5 := Tryz.isAgg5
  z5 := Tryz.sizeOf5
  v5 := Tryz.zeroValue5
  t9 := Tryz.underlying9
  a9 := Tryz.isAgg9
  z9 := Tryz.sizeOf9
  v9 := Tryz.zeroValue9 }
end Go.Proofs
open Go Go.Proofs Go.Proofs.Mv.V
set_option maxRecDepth 10000
namespace Go.Proofs.Mv.App
variable [GI]
abbrev U (x : UInt8) : D := .v (.int .u8 (x.toNat : Int))
def isSmall (x : UInt8) : Bool := decide (97 ≤ x.toNat) && decide (x.toNat ≤ 122)
def isGreat (x : UInt8) : Bool := decide (65 ≤ x.toNat) && decide (x.toNat ≤ 90)
def isDigit (x : UInt8) : Bool := decide (48 ≤ x.toNat) && decide (x.toNat ≤ 57)
def isBlank (x : UInt8) : Bool := decide (x.toNat = 32) || decide (x.toNat = 9) || decide (x.toNat = 10)
def isWord (x : UInt8) : Bool := isSmall x || isGreat x || isDigit x
theorem cLexSmall (x : UInt8) (m : Mem) (n : Nat) : ACalls Tryz.prog 95 [U x] m n (fun d m' n' => d = Tt (isSmall x) ∧ m' = m ∧ n' = n) := by
  refine acalls_vc [0, 2] Tryz.func95 Tryz.ntmps95 (by kernel_rfl) rfl rfl (by simp) ?_
  by_cases a : 97 ≤ (x.toNat : Int)
  · have a' : 97 ≤ x.toNat := by omega
    simp -dsimp [a, Tt, isSmall, a']; omega
  · have a' : ¬ 97 ≤ x.toNat := by omega
    simp -dsimp [a, Tt, isSmall, a']
theorem cLexGreat (x : UInt8) (m : Mem) (n : Nat) : ACalls Tryz.prog 97 [U x] m n (fun d m' n' => d = Tt (isGreat x) ∧ m' = m ∧ n' = n) := by
  refine acalls_vc [0, 2] Tryz.func97 Tryz.ntmps97 (by kernel_rfl) rfl rfl (by simp) ?_
  by_cases a : 65 ≤ (x.toNat : Int)
  · have a' : 65 ≤ x.toNat := by omega
    simp -dsimp [a, Tt, isGreat, a']; omega
  · have a' : ¬ 65 ≤ x.toNat := by omega
    simp -dsimp [a, Tt, isGreat, a']
theorem cLexDigit (x : UInt8) (m : Mem) (n : Nat) : ACalls Tryz.prog 98 [U x] m n (fun d m' n' => d = Tt (isDigit x) ∧ m' = m ∧ n' = n) := by
  refine acalls_vc [0, 2] Tryz.func98 Tryz.ntmps98 (by kernel_rfl) rfl rfl (by simp) ?_
  by_cases a : 48 ≤ (x.toNat : Int)
  · have a' : 48 ≤ x.toNat := by omega
    simp -dsimp [a, Tt, isDigit, a']; omega
  · have a' : ¬ 48 ≤ x.toNat := by omega
    simp -dsimp [a, Tt, isDigit, a']
theorem cIdentSmall (x : UInt8) (m : Mem) (n : Nat) : ACalls Tryz.prog 187 [U x] m n (fun d m' n' => d = Tt (isSmall x) ∧ m' = m ∧ n' = n) := by
  refine acalls_vc [0, 2] Tryz.func187 Tryz.ntmps187 (by kernel_rfl) rfl rfl (by simp) ?_
  by_cases a : 97 ≤ (x.toNat : Int)
  · have a' : 97 ≤ x.toNat := by omega
    simp -dsimp [a, Tt, isSmall, a']; omega
  · have a' : ¬ 97 ≤ x.toNat := by omega
    simp -dsimp [a, Tt, isSmall, a']
theorem cIdentGreat (x : UInt8) (m : Mem) (n : Nat) : ACalls Tryz.prog 189 [U x] m n (fun d m' n' => d = Tt (isGreat x) ∧ m' = m ∧ n' = n) := by
  refine acalls_vc [0, 2] Tryz.func189 Tryz.ntmps189 (by kernel_rfl) rfl rfl (by simp) ?_
  by_cases a : 65 ≤ (x.toNat : Int)
  · have a' : 65 ≤ x.toNat := by omega
    simp -dsimp [a, Tt, isGreat, a']; omega
  · have a' : ¬ 65 ≤ x.toNat := by omega
    simp -dsimp [a, Tt, isGreat, a']
theorem cLexBlank (x : UInt8) (m : Mem) (n : Nat) : ACalls Tryz.prog 60 [U x] m n (fun d m' n' => d = Tt (isBlank x) ∧ m' = m ∧ n' = n) := by
  refine acalls_vc [0, 2] Tryz.func60 Tryz.ntmps60 (by kernel_rfl) rfl rfl (by simp) ?_
  by_cases a : x.toNat = 32
  · simp -dsimp [a, Tt, isBlank]
  by_cases b : x.toNat = 9
  · simp -dsimp [a, b, Tt, isBlank]
  have a' : ((x.toNat : Int) == 32) = false := by simp; omega
  have b' : ((x.toNat : Int) == 9) = false := by simp; omega
  by_cases c : x.toNat = 10
  · simp -dsimp [c, Tt, isBlank]
  have c' : ((x.toNat : Int) == 10) = false := by simp; omega
  simp -dsimp [a, b, c, a', b', c', Tt, isBlank]
theorem cLexHash (x : UInt8) (m : Mem) (n : Nat) : ACalls Tryz.prog 62 [U x] m n (fun d m' n' => d = Tt (!decide (x.toNat = 10)) ∧ m' = m ∧ n' = n) := by
  refine acalls_vc [0, 2] Tryz.func62 Tryz.ntmps62 (by kernel_rfl) rfl rfl (by simp) ?_
  by_cases a : x.toNat = 10
  · simp -dsimp [a, Tt]
  have a' : ((x.toNat : Int) == 10) = false := by simp; omega
  simp -dsimp [a, a', Tt]; omega
theorem cLexWord (x : UInt8) (m : Mem) (n : Nat) : ACalls Tryz.prog 96 [U x] m n (fun d m' n' => d = Tt (isWord x) ∧ m' = m ∧ n' = n) := by
  refine acalls_vc [0, 2] Tryz.func96 Tryz.ntmps96 (by kernel_rfl) rfl rfl (by simp) ?_
  simp -dsimp
  refine aCall_of (cLexSmall x m n) ?_
  rintro d m' n' ⟨rfl, rfl, rfl⟩
  cases a : isSmall x
  · simp -dsimp [Tt]
    refine aCall_of (cLexGreat x m' n') ?_
    rintro d m' n' ⟨rfl, rfl, rfl⟩
    cases b : isGreat x
    · simp -dsimp [Tt]
      refine aCall_of (cLexDigit x m' n') ?_
      rintro d m' n' ⟨rfl, rfl, rfl⟩
      simp -dsimp [Tt, isWord, a, b]
    · simp -dsimp [Tt, isWord, a, b]
  · simp -dsimp [Tt, isWord, a]
end Go.Proofs.Mv.App
open Go Go.Proofs Go.Proofs.Mv.V Go.RowKit
set_option maxRecDepth 10000
namespace Go.Proofs.Mv.App
theorem cIndexByte [GI] (s : List UInt8) (x : UInt8) (m : Mem) (n : Nat) : ACalls Tryz.prog 100 [S s, U x] m n (fun d m' n' => d = I (Lib.indexByte s x) ∧ m' = m ∧ n' = n) := by
  refine acalls_lib ⟨_, Tryz.func100, by kernel_rfl, by kernel_rfl⟩ fun w ν F vals hst hv => ?_
  obtain ⟨a, b, rfl, h1, h2⟩ := conVs_arr2 hv
  simp only [Con, S] at h1 h2
  subst h1; subst h2
  refine Calls.mono (show Calls Tryz.prog 100 _ _ _ from Any.strings_IndexByte Tryz.lays137 (ofL s) x.toNat w) ?_
  rintro e w' ⟨rfl, rfl⟩
  refine ⟨_, rfl, Below.refl _ _, I (Lib.indexByte s x), ?_, rfl, rfl, rfl⟩
  have hx : (x.toNat : Int).toNat.toUInt8 = x := by simp
  simp only [Con, I, hx]; rfl
end Go.Proofs.Mv.App
open Go Go.Proofs Go.Proofs.Mv.V
set_option maxRecDepth 10000
namespace Go.Proofs.Mv.App
variable [GI]
def runN (p : UInt8 → Bool) (s : List UInt8) : Nat := (s.takeWhile p).length
theorem runN_le (p : UInt8 → Bool) (s : List UInt8) : runN p s ≤ s.length := by
  unfold runN; exact (List.takeWhile_sublist p).length_le
theorem runN_drop {p : UInt8 → Bool} : ∀ {s : List UInt8} {k : Nat}, (∀ x ∈ s.take k, p x = true) → k ≤ s.length → runN p s = k + runN p (s.drop k)
  | s, 0, _, _ => by simp
  | [], k + 1, _, h => by simp at h
  | x :: s, k + 1, hp, h => by
    have hx : p x = true := hp x (by simp)
    have ih := runN_drop (p := p) (s := s) (k := k) (fun y hy => hp y (by simp [hy])) (by simpa using h)
    unfold runN at ih ⊢
    simp [List.takeWhile_cons, hx, ih]; omega
def Cls (f : FuncId) (p : UInt8 → Bool) : Prop := ∀ (x : UInt8) (m : Mem) (n : Nat), ACalls Tryz.prog f [U x] m n (fun d m' n' => d = Tt (p x) ∧ m' = m ∧ n' = n)
structure RunInv (s : List UInt8) (f : FuncId) (p : UInt8 → Bool) (m : Mem) (n : Nat) (k : Nat) (σ : Nat → D) (m' : Mem) (n' : Nat) : Prop where
  h0 : σ 0 = S s
  h1 : σ 1 = .func (.func f) [] []
  h5 : σ 5 = I k
  le : k ≤ s.length
  al : ∀ x ∈ s.take k, p x = true
  mm : m' = m
  nn : n' = n
theorem cRun (s : List UInt8) (hs : s.length ≤ 1000000000) (f : FuncId) (p : UInt8 → Bool) (hf : Cls f p) (m : Mem) (n : Nat) :
    ACalls Tryz.prog 61 [S s, .func (.func f) [] []] m n (fun d m' n' => d = I (runN p s) ∧ m' = m ∧ n' = n) := by
  refine acalls_vc [0, 1, 4, 5, 16] Tryz.func61 Tryz.ntmps61 (by kernel_rfl) rfl rfl (by simp) ?_
  simp -dsimp [S]
  refine vloop_of (β := Nat) (RunInv s f p m n) (fun k => s.length - k) 0 ⟨by simp [S], by simp, by simp [I], by omega, by simp, rfl, rfl⟩ ?_
  rintro k σ m2 n2 ⟨h0, h1, h5, le, al, rfl, rfl⟩
  have hex : runN p s = k + runN p (s.drop k) := runN_drop al le
  by_cases hk : (k : Int) < s.length
  · have hk' : k < s.length := by omega
    simp -dsimp [h0, h1, h5, S, I, hk, hk']
    refine aCall_of (hf s[k] m2 n2) ?_
    rintro d m' n' ⟨rfl, rfl, rfl⟩
    have hd : s.drop k = s[k] :: s.drop (k + 1) := List.drop_eq_getElem_cons hk'
    cases a : p s[k]
    · simp -dsimp [Tt, h0, h1, h5, S, I]
      have hz : runN p (s.drop k) = 0 := by rw [hd]; simp only [runN, List.takeWhile_cons, a]; rfl
      rw [hex, hz]; simp
    · simp -dsimp [Tt, h0, h1, h5, S, I]
      refine ⟨k + 1, by omega, by simp [S], by simp, ?_, by omega, ?_, rfl, rfl⟩
      · simp -dsimp [I]; exact wrap_i64 (by omega) (by omega)
      · intro x hx
        rw [List.take_succ_eq_append_getElem hk'] at hx
        rcases List.mem_append.1 hx with hx | hx
        · exact al x hx
        · simp at hx; rw [hx]; exact a
  · simp -dsimp [h0, h1, h5, S, I, hk]
    have : s.drop k = [] := List.drop_eq_nil_of_le (by omega)
    rw [hex, this]; simp [runN]
def pre (t s : List UInt8) : Bool := decide (s.take t.length = t)
theorem cHasPrefix (s t : List UInt8) (hs : s.length ≤ 1000000000) (m : Mem) (n : Nat) : ACalls Tryz.prog 99 [S s, S t] m n (fun d m' n' => d = Tt (pre t s) ∧ m' = m ∧ n' = n) := by
  refine acalls_vc [0, 1, 4] Tryz.func99 Tryz.ntmps99 (by kernel_rfl) rfl rfl (by simp) ?_
  simp -dsimp [S]
  refine aCall_of (R := fun d m' n' => d = Tt (pre t s) ∧ m' = m ∧ n' = n) ?_ ?_
  · refine acalls_vc [0, 1, 4] Tryz.func138 Tryz.ntmps138 (by kernel_rfl) rfl rfl (by simp) ?_
    by_cases a : t.length ≤ s.length
    · simp -dsimp [a, Tt, pre]
      by_cases e : s.take t.length = t <;> simp [e]
    · have hn : ¬ s.take t.length = t := fun e => by have := congrArg List.length e; simp at this; omega
      simp -dsimp [a, Tt, hn, pre]
  · rintro d m' n' ⟨rfl, rfl, rfl⟩
    simp -dsimp
def isSign (x : UInt8) : Bool := decide (x ∈ ([123, 125, 40, 41, 91, 93, 60, 62, 44, 58, 46, 61] : List UInt8))
def firstT : List UInt8 → Nat × Nat
  | [] => (0, 0)
  | x :: r => if isSmall x then (1, runN isWord (x :: r)) else if isGreat x then (2, runN isWord (x :: r)) else if isDigit x then (3, runN isDigit (x :: r))
    else if pre [45, 62] (x :: r) then (4, 2) else if pre [46, 46] (x :: r) then (4, 2) else if isSign x then (4, 1) else (0, 0)
theorem indexByte_sign (l : List UInt8) (x : UInt8) : (0 ≤ Lib.indexByte l x) ↔ x ∈ l := by
  induction l with
  | nil => simp [Lib.indexByte]
  | cons b l ih =>
    have hge := Lib.indexByte_ge l x
    unfold Lib.indexByte
    by_cases hb : b = x
    · simp [hb]
    · have hb' : ¬ x = b := fun e => hb e.symm
      by_cases h1 : Lib.indexByte l x = -1
      · have : ¬ x ∈ l := fun h => by have := ih.2 h; omega
        simp [hb, h1, hb', this]
      · have : x ∈ l := ih.1 (by omega)
        simp [hb, h1, hb', this]; omega
theorem cFirstT (x : UInt8) (r : List UInt8) (hs : (x :: r).length ≤ 1000000000) (m : Mem) (n : Nat) : ACalls Tryz.prog 63 [S (x :: r)] m n (fun d m' n' => d = .tup [I (firstT (x :: r)).1, I (firstT (x :: r)).2] ∧ m' = m ∧ n' = n) := by
  refine acalls_vc [0, 2, 3, 4, 7, 12, 17, 22, 27] Tryz.func63 Tryz.ntmps63 (by kernel_rfl) rfl rfl (by simp) ?_
  simp -dsimp [S]
  refine aCall_of (cLexSmall x m n) ?_
  rintro d m' n' ⟨rfl, rfl, rfl⟩
  cases a : isSmall x
  case true =>
    simp -dsimp [Tt]
    refine aCall_of (cRun (x :: r) hs _ isWord cLexWord m' n') ?_
    rintro d m' n' ⟨rfl, rfl, rfl⟩
    simp -dsimp [I, firstT, a]
  simp -dsimp [Tt]
  refine aCall_of (cLexGreat x m' n') ?_
  rintro d m' n' ⟨rfl, rfl, rfl⟩
  cases b : isGreat x
  case true =>
    simp -dsimp [Tt]
    refine aCall_of (cRun (x :: r) hs _ isWord cLexWord m' n') ?_
    rintro d m' n' ⟨rfl, rfl, rfl⟩
    simp -dsimp [I, firstT, a, b]
  simp -dsimp [Tt]
  refine aCall_of (cLexDigit x m' n') ?_
  rintro d m' n' ⟨rfl, rfl, rfl⟩
  cases c : isDigit x
  case true =>
    simp -dsimp [Tt]
    refine aCall_of (cRun (x :: r) hs _ isDigit cLexDigit m' n') ?_
    rintro d m' n' ⟨rfl, rfl, rfl⟩
    simp -dsimp [I, firstT, a, b, c]
  simp -dsimp [Tt]
  refine aCall_of (cHasPrefix (x :: r) [45, 62] hs m' n') ?_
  rintro d m' n' ⟨rfl, rfl, rfl⟩
  cases e : pre [45, 62] (x :: r)
  case true => simp -dsimp [Tt, e, I, firstT, a, b, c]
  simp -dsimp [Tt, e]
  refine aCall_of (cHasPrefix (x :: r) [46, 46] hs m' n') ?_
  rintro d m' n' ⟨rfl, rfl, rfl⟩
  cases g : pre [46, 46] (x :: r)
  case true => simp -dsimp [Tt, g, I, firstT, a, b, c, e]
  simp -dsimp [Tt, g]
  refine aCall_of (cIndexByte [123, 125, 40, 41, 91, 93, 60, 62, 44, 58, 46, 61] x m' n') ?_
  rintro d m' n' ⟨rfl, rfl, rfl⟩
  by_cases h : isSign x = true
  · have h0 : 0 ≤ Lib.indexByte [123, 125, 40, 41, 91, 93, 60, 62, 44, 58, 46, 61] x := (indexByte_sign _ _).2 (by simpa [isSign] using h)
    simp -dsimp [h0, I, firstT, a, b, c, e, g, h]
    done
  · have h0 : ¬ 0 ≤ Lib.indexByte [123, 125, 40, 41, 91, 93, 60, 62, 44, 58, 46, 61] x := fun q => h (by simpa [isSign] using (indexByte_sign _ _).1 q)
    simp -dsimp [h0, I, firstT, a, b, c, e, g, h]
    done
end Go.Proofs.Mv.App
