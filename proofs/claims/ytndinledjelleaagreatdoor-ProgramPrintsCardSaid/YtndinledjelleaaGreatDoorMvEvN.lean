/- A part of the proofs: machine, contracts, laws. No condition of its own. -/
import Derived.Test.YtndinledjelleaaGreatDoorMvEvP
import Derived.Test.YtndinledjelleaaGreatDoorMvDf
set_option linter.unusedSimpArgs false
set_option linter.unusedVariables false
set_option linter.unusedSectionVars false
namespace Go.Proofs.Mv.V
def dfE (o : Oper) : Option Operand := match o.dst, o.op, o.guard with
 | none, .defer c, none => match c.callee, c.args.toList with
  | .value x, [] => some x
  | _, _ => none
 | _, _, _ => none
def dOf : Code → Option (Nat × Array Oper × List Oper × Operand)
 | .region id ops false => match ops.toList.getLast? with
  | some o => (dfE o).map fun x => (id, ops, ops.toList.dropLast, x)
  | none => none
 | _ => none
def bodyE (P : Program) (call : CallE) (N f : Nat) : Code → List D → List Obj → List Nat → Option (Ex × Option (FuncId × List D) × List D × List Obj × List Nat)
 | .seq x y, L, M, W => match dOf x with
  | some (_, ops, pre, o) => if noRange y then match opsE P call N ops pre L M W with
    | some (L1, M1, W1) => match ev (sget L1) o with
     | .func (.func gf) [] cs => (codeE P call N f y L1 M1 W1).map fun r => (r.1, some (gf, cs), r.2)
     | _ => none
    | none => none else none
  | none => match codeE P call N f x L M W with
   | some (.normal, L1, M1, W1) => bodyE P call N f y L1 M1 W1
   | some (.exit i, r) => some (.exit i, none, r)
   | some (.ret, r) => some (.ret, none, r)
   | none => none
 | c, L, M, W => (codeE P call N f c L M W).map fun r => (r.1, none, r.2)
def dcallE (P : Program) (call : CallE) (fuel : Nat) (gf : FuncId) (cs : List D) (M : List Obj) : Option (List Obj × List Nat) :=
 match P.funcs[gf]? with
 | some fn => match fn.body, retTmps fn with
  | some c, some _ => if Nat.ble cs.length fn.ntmps && noRange c then match codeE P call fn.ntmps fuel c (cs ++ List.replicate (fn.ntmps - cs.length) undefD) M [] with
   | some (.normal, _, M', W') => some (M', W')
   | some (.ret, _, M', W') => some (M', W')
   | _ => none else none
  | _, _ => none
 | none => none
def leaveE (P : Program) (call : CallE) (fuel : Nat) (res : List ResultVar) : Option (Ex × Option (FuncId × List D) × List D × List Obj × List Nat) → Option (List D × List Obj × List Nat)
 | some (.exit _, _) => none
 | some (_, none, L, M, W) => (resE P L M res).map fun ds => (ds, M, W)
 | some (_, some (gf, cs), L, M, W) => match dcallE P call fuel gf cs M with
  | some (M2, W2) => (resE P L M2 res).map fun ds => (ds, M2, W2 ++ W)
  | none => none
 | none => none
def callDE (P : Program) (orc : CallE) (raw : FuncId → Bool) (fuel : Nat) : Nat → CallE
 | 0, _, _, _ => none
 | k + 1, id, args, M => match orc id args M with
  | some r => some r
  | none => match P.funcs[id]? with
   | some fn => match fn.body with
    | some c => if Nat.ble args.length fn.ntmps then match leaveE P (callDE P orc raw fuel k) fuel fn.results.toList (bodyE P (callDE P orc raw fuel k) fn.ntmps fuel c (args ++ List.replicate (fn.ntmps - args.length) undefD) M []) with
     | some (ds, M', W') => if raw id then some (oneOr ds, M', W'.filter fun j => Nat.blt j M.length) else closeE M M' (oneOr ds) (W'.filter fun j => Nat.blt j M.length)
     | none => none else none
    | none => none
   | none => none
variable [GI]
section
variable {P : Program} {N : Nat}
theorem dfE_eq {o : Oper} {x : Operand} (h : dfE o = some x) : ∃ ats ty pos after, o = ⟨none, .defer { callee := .value x, args := #[], argTypes := ats }, ty, pos, after, none⟩ := by
 obtain ⟨dst, op, ty, pos, after, guard⟩ := o
 unfold dfE at h
 simp only at h
 split at h
 ·rename_i c
  obtain ⟨cal, args, ats⟩ := c
  simp only at h
  split at h
  ·rename_i x' hc ha
   obtain rfl := Option.some.inj h
   have : args = #[] := Array.toList_inj.1 ha
   subst this
   exact ⟨ats, ty, pos, after, rfl⟩
  ·cases h
 ·cases h
theorem dOf_eq {c : Code} {id : Nat} {ops : Array Oper} {pre : List Oper} {x : Operand} (h : dOf c = some (id, ops, pre, x)) :
  c = .region id ops false ∧ ∃ ats ty pos after, ops.toList = pre ++ [⟨none, .defer { callee := .value x, args := #[], argTypes := ats }, ty, pos, after, none⟩] := by
 unfold dOf at h
 split at h
 ·rename_i id' ops'
  split at h
  ·rename_i o ho
   obtain ⟨x', h1, h2⟩ := Option.map_eq_some_iff.1 h
   simp only [Prod.mk.injEq] at h2
   obtain ⟨rfl, rfl, rfl, rfl⟩ := h2
   obtain ⟨ats, ty, pos, after, rfl⟩ := dfE_eq h1
   refine ⟨rfl, ats, ty, pos, after, ?_⟩
   have hne : ops'.toList ≠ [] := fun e => by rw [e] at ho; cases ho
   have hl := List.getLast?_eq_some_getLast hne
   rw [hl] at ho
   have := List.dropLast_concat_getLast hne
   rw [Option.some.inj ho] at this
   exact this.symm
  ·cases h
 ·cases h
theorem bodyE_sound {call : CallE} (hc : CS P call) (hf : P.follows .mixedOrders = true) (f : Nat) : ∀ (c : Code) (L : List D) (M : List Obj) (W : List Nat) (e : Ex) (od : Option (FuncId × List D)) (L' : List D) (M' : List Obj) (W' : List Nat),
  bodyE P call N f c L M W = some (e, od, L', M', W') → L.length = N → ∀ gf cs, (∀ p, od = some p → p = (gf, cs)) →
  (∀ Q QD : APost, (od = none → Q (exE e) (sget L') (toMem M') M'.length) → (od ≠ none → QD (exE e) (sget L') (toMem M') M'.length) → AWPd P N gf cs c Q QD (sget L) (toMem M) M.length) ∧ L'.length = N ∧ ∃ W2, W' = W2 ++ W ∧ FrE M M' W2 := by
 have plain : ∀ (c : Code) (L : List D) (M : List Obj) (W : List Nat) (e : Ex) (od : Option (FuncId × List D)) (L' : List D) (M' : List Obj) (W' : List Nat),
   (codeE P call N f c L M W).map (fun r => (r.1, (none : Option (FuncId × List D)), r.2)) = some (e, od, L', M', W') → L.length = N → ∀ gf cs, (∀ p, od = some p → p = (gf, cs)) →
   (∀ Q QD : APost, (od = none → Q (exE e) (sget L') (toMem M') M'.length) → (od ≠ none → QD (exE e) (sget L') (toMem M') M'.length) → AWPd P N gf cs c Q QD (sget L) (toMem M) M.length) ∧ L'.length = N ∧ ∃ W2, W' = W2 ++ W ∧ FrE M M' W2 := by
  intro c L M W e od L' M' W' h hL gf cs hp
  obtain ⟨⟨e1, L1, M1, W1⟩, h1, h2⟩ := Option.map_eq_some_iff.1 h
  simp only [Prod.mk.injEq] at h2
  obtain ⟨rfl, rfl, rfl, rfl, rfl⟩ := h2
  obtain ⟨a1, a2⟩ := codeE_sound hc hf _ _ _ _ _ _ _ _ _ h1 hL
  exact ⟨fun Q QD hq _ => awpd_plain (a1 Q (hq rfl)), a2⟩
 intro c
 induction c with
 | seq x y ihx ihy =>
  intro L M W e od L' M' W' h hL gf cs hp
  simp only [bodyE] at h
  split at h
  ·rename_i id ops pre o hd
   obtain ⟨rfl, ats, ty, pos, after, hops⟩ := dOf_eq hd
   split at h
   ·rename_i hny
    split at h
    ·rename_i L1 M1 W1 h1
     obtain ⟨b1, b2, W2, b3, b4⟩ := opsE_sound hc _ _ _ _ _ _ _ h1 hL
     split at h
     ·rename_i gf' cs' he
      obtain ⟨⟨e2, L2, M2, W3⟩, h2, h3⟩ := Option.map_eq_some_iff.1 h
      simp only [Prod.mk.injEq] at h3
      obtain ⟨rfl, rfl, rfl, rfl, rfl⟩ := h3
      have := hp _ rfl
      simp only [Prod.mk.injEq] at this
      obtain ⟨rfl, rfl⟩ := this
      obtain ⟨c1, c2, W4, c3, c4⟩ := codeE_sound hc hf _ _ _ _ _ _ _ _ _ h2 b2
      refine ⟨fun Q QD _ hq => ?_, c2, W4 ++ W2, by rw [c3, b3]; simp, b4.trans c4⟩
      refine awpd_defer hops hny ?_
      exact xOps_mono (fun _ _ _ h => h) pre _ _ _ tg (b1 (fun σ m n => ev σ o = .func (.func gf') [] cs' ∧ AWP P N y QD σ m n) tg ⟨he, c1 QD (hq (by simp))⟩)
     ·cases h
    ·cases h
   ·cases h
  ·split at h
   ·rename_i L1 M1 W1 h1
    obtain ⟨b1, b2, W2, b3, b4⟩ := codeE_sound hc hf _ _ _ _ _ _ _ _ _ h1 hL
    obtain ⟨c1, c2, W4, c3, c4⟩ := ihy _ _ _ _ _ _ _ _ h b2 gf cs hp
    exact ⟨fun Q QD hq hqd => awpd_seq (b1 _ (c1 Q QD hq hqd)), c2, W4 ++ W2, by rw [c3, b3]; simp, b4.trans c4⟩
   ·rename_i i r h1
    simp only [Option.some.injEq, Prod.mk.injEq] at h
    obtain ⟨rfl, rfl, rfl⟩ := h
    obtain ⟨b1, b2⟩ := codeE_sound hc hf _ _ _ _ _ _ _ _ _ h1 hL
    exact ⟨fun Q QD hq hqd => awpd_seq (b1 _ (hq rfl)), b2⟩
   ·rename_i r h1
    simp only [Option.some.injEq, Prod.mk.injEq] at h
    obtain ⟨rfl, rfl, rfl⟩ := h
    obtain ⟨b1, b2⟩ := codeE_sound hc hf _ _ _ _ _ _ _ _ _ h1 hL
    exact ⟨fun Q QD hq hqd => awpd_seq (b1 _ (hq rfl)), b2⟩
   ·cases h
 | _ => intro L M W e od L' M' W' h; exact plain _ L M W e od L' M' W' h
theorem dcallE_sound {call : CallE} (hc : CS P call) (hf : P.follows .mixedOrders = true) (hname : ∀ (id : FuncId) (fn : Func), P.funcs[id]? = some fn → (fn.name == "runtime.NumGoroutine") = false) {fuel : Nat} {gf : FuncId} {cs : List D} {M M' : List Obj} {W : List Nat} (h : dcallE P call fuel gf cs M = some (M', W)) :
  DCalls P gf cs (toMem M) M.length (fun m' n' => m' = toMem M' ∧ n' = M'.length) ∧ FrE M M' W := by
 unfold dcallE at h
 split at h
 ·rename_i fn hfn
  split at h
  ·rename_i c ts hb hr
   split at h
   ·rename_i hcnd
    simp only [Bool.and_eq_true] at hcnd
    obtain ⟨hlen, hnr⟩ := hcnd
    have hlen := Nat.le_of_ble_eq_true hlen
    split at h
    ·rename_i L1 M1 W1 h1
     simp only [Option.some.injEq, Prod.mk.injEq] at h
     obtain ⟨rfl, rfl⟩ := h
     obtain ⟨a1, a2, W2, a3, a4⟩ := codeE_sound hc hf _ _ _ _ _ _ _ _ _ h1 (by simp; omega)
     rw [List.append_nil] at a3
     refine ⟨dcalls_of hfn (hname _ _ hfn) hb hr hlen hnr ?_, by rw [a3]; exact a4⟩
     rw [init_sget cs (fn.ntmps - cs.length)]
     exact a1 _ ⟨rfl, rfl⟩
    ·rename_i L1 M1 W1 h1
     simp only [Option.some.injEq, Prod.mk.injEq] at h
     obtain ⟨rfl, rfl⟩ := h
     obtain ⟨a1, a2, W2, a3, a4⟩ := codeE_sound hc hf _ _ _ _ _ _ _ _ _ h1 (by simp; omega)
     rw [List.append_nil] at a3
     refine ⟨dcalls_of hfn (hname _ _ hfn) hb hr hlen hnr ?_, by rw [a3]; exact a4⟩
     rw [init_sget cs (fn.ntmps - cs.length)]
     exact a1 _ ⟨rfl, rfl⟩
    ·cases h
   ·cases h
  ·cases h
 ·cases h
end
end Go.Proofs.Mv.V
namespace Go.Proofs.Mv.V
abbrev ResE := D × List Obj × List Nat
def eqR (a b : ResE) : Bool := eqE a.1 b.1 && eqME a.2.1 b.2.1
def SameR (r r' : ResE) : Prop := r'.1 = r.1 ∧ r'.2.1 = r.2.1
theorem SameR.refl (r : ResE) : SameR r r := ⟨rfl, rfl⟩
theorem SameR.trans {a b c : ResE} (h : SameR a b) (h' : SameR b c) : SameR a c := ⟨h'.1.trans h.1, h'.2.trans h.2⟩
theorem eqR_same [GI] {a b : ResE} (h : eqR a b = true) : SameR a b := by
 simp only [eqR, Bool.and_eq_true] at h
 exact ⟨(eqE_eq _ _ h.1).symm, (eqME_eq _ _ h.2).symm⟩
abbrev KTr := List D → List Obj → List Nat → Option ResE
abbrev KCo := Ex → List D → List Obj → List Nat → Option ResE
mutual
def treeK (P : Program) (call : CallE) (N : Nat) (ops : Array Oper) (mk : List Nat) (k : KTr) : Tr → List (Nat × Nat) → List D → List Obj → List Nat → Option ResE
 | .fin, E, L, M, W => k L M W
 | .rd i t, E, L, M, W => match oneE P call N ops mk i E L M W with
  | some (E', L', M', W') => treeK P call N ops mk k t E' L' M' W'
  | none => none
 | .wr ts, E, L, M, W => treesK P call N ops mk k ts E L M W
def treesK (P : Program) (call : CallE) (N : Nat) (ops : Array Oper) (mk : List Nat) (k : KTr) : Trs → List (Nat × Nat) → List D → List Obj → List Nat → Option ResE
 | .nil, _, _, _, _ => none
 | .cons i t ts, E, L, M, W => match oneE P call N ops mk i E L M W with
  | some (E', L', M', W') => match treeK P call N ops mk k t E' L' M' W' with
   | some r => if ts.isNil then some r else match treesK P call N ops mk k ts E L M W with
    | some r2 => if eqR r r2 then some r else none
    | none => none
   | none => none
  | none => none
end
def drawK (P : Program) (call : CallE) (N : Nat) (ops : Array Oper) (L : List D) (M : List Obj) (W : List Nat) (k : KTr) : Option ResE :=
 match drawE P call N ops L M W with
 | some (L', M', W') => k L' M' W'
 | none => if masksOk ops (masks ops) && okTr ops (masks ops) (mkTr ops ops.size 0) 0 then treeK P call N ops (masks ops) k (mkTr ops ops.size 0) [] L M W else none
def codeK (P : Program) (call : CallE) (N : Nat) : Nat → Code → List D → List Obj → List Nat → KCo → Option ResE
 | 0, _, _, _, _, _ => none
 | f + 1, c, L, M, W, k => match c with
  | .skip => k .normal L M W
  | .label _ => k .normal L M W
  | .exit id => k (.exit id) L M W
  | .ret => k .ret L M W
  | .region _ ops false => match opsE P call N ops ops.toList L M W with
   | some (L', M', W') => k .normal L' M' W'
   | none => none
  | .region _ ops true => drawK P call N ops L M W (k .normal)
  | .seq x y => codeK P call N f x L M W fun e L' M' W' => match e with
   | .normal => codeK P call N f y L' M' W' k
   | .exit id => k (.exit id) L' M' W'
   | .ret => k .ret L' M' W'
  | .cond o x y => match ev (sget L) o with
   | .v (.bool true) => codeK P call N f x L M W k
   | .v (.bool false) => codeK P call N f y L M W k
   | _ => none
  | .block id x => codeK P call N f x L M W fun e L' M' W' => match e with
   | .normal => k .normal L' M' W'
   | .exit id' => if Nat.beq id' id then k .normal L' M' W' else k (.exit id') L' M' W'
   | .ret => k .ret L' M' W'
  | .loop x => codeK P call N f x L M W fun e L' M' W' => match e with
   | .normal => codeK P call N f (.loop x) L' M' W' k
   | .exit id => k (.exit id) L' M' W'
   | .ret => k .ret L' M' W'
  | _ => none
def hasD : Code → Bool
 | .seq x y => (dOf x).isSome || hasD y
 | _ => false
def endE (raw : Bool) (M : List Obj) (ds : List D) (M' : List Obj) (W' : List Nat) : Option ResE :=
 if raw then some (oneOr ds, M', W'.filter fun j => Nat.blt j M.length) else closeE M M' (oneOr ds) (W'.filter fun j => Nat.blt j M.length)
def endK (P : Program) (raw : Bool) (M : List Obj) (res : List ResultVar) : KCo := fun e L' M' W' => match e with
 | .normal => match resE P L' M' res with
  | some ds => endE raw M ds M' W'
  | none => none
 | .ret => match resE P L' M' res with
  | some ds => endE raw M ds M' W'
  | none => none
 | .exit _ => none
def callN (P : Program) (orc : CallE) (raw : FuncId → Bool) (fuel : Nat) : Nat → CallE
 | 0, _, _, _ => none
 | k + 1, id, args, M => match orc id args M with
  | some r => some r
  | none => match P.funcs[id]? with
   | some fn => match fn.body with
    | some c => if Nat.ble args.length fn.ntmps then
      (if hasD c then match leaveE P (callN P orc raw fuel k) fuel fn.results.toList (bodyE P (callN P orc raw fuel k) fn.ntmps fuel c (args ++ List.replicate (fn.ntmps - args.length) undefD) M []) with
       | some (ds, M', W') => endE (raw id) M ds M' W'
       | none => none
      else codeK P (callN P orc raw fuel k) fn.ntmps fuel c (args ++ List.replicate (fn.ntmps - args.length) undefD) M [] (endK P (raw id) M fn.results.toList)) else none
    | none => none
   | none => none
variable [GI]
section
variable {P : Program} {N : Nat}
def Fram (M : List Obj) (W : List Nat) (M' : List Obj) (W' : List Nat) : Prop := ∃ W2, W' = W2 ++ W ∧ FrE M M' W2
theorem Fram.refl (M : List Obj) (W : List Nat) : Fram M W M W := ⟨[], rfl, FrE.refl _ _⟩
theorem Fram.trans {M M' M'' : List Obj} {W W' W'' : List Nat} (h : Fram M W M' W') (h' : Fram M' W' M'' W'') : Fram M W M'' W'' := by
 obtain ⟨W2, e2, h2⟩ := h
 obtain ⟨W3, e3, h3⟩ := h'
 exact ⟨W3 ++ W2, by rw [e3, e2]; simp, h2.trans h3⟩
def Goes (k : KTr) (N : Nat) (M : List Obj) (W : List Nat) (r : ResE) (L' : List D) (M' : List Obj) (W' : List Nat) (r' : ResE) : Prop := L'.length = N ∧ Fram M W M' W' ∧ k L' M' W' = some r' ∧ SameR r r'
mutual
theorem treeK_sound {call : CallE} (hc : CS P call) {ops : Array Oper} {mk : List Nat} {k : KTr} : ∀ (t : Tr) (E : List (Nat × Nat)) (L : List D) (M : List Obj) (W : List Nat) (r : ResE), treeK P call N ops mk k t E L M W = some r → L.length = N →
  (∃ L' M' W', Goes k N M W r L' M' W' r) ∧ ∀ (K : (Nat → D) → Mem → Nat → Prop), (∀ L' M' W' r', Goes k N M W r L' M' W' r' → K (sget L') (toMem M') M'.length) → tex P N ops mk K t (fun p => p ∈ E) (sget L) (toMem M) M.length
 | .fin, E, L, M, W, r, h, hL => by
  simp only [treeK] at h
  have hg : Goes k N M W r L M W r := ⟨hL, Fram.refl _ _, h, SameR.refl r⟩
  exact ⟨⟨L, M, W, hg⟩, fun K hk => by simp only [tex]; exact hk _ _ _ _ hg⟩
 | .rd i t, E, L, M, W, r, h, hL => by
  simp only [treeK] at h
  split at h
  ·rename_i E1 L1 M1 W1 ho
   obtain ⟨o1, o2, W2, o3, o4⟩ := oneE_sound hc ho hL
   have hfr : Fram M W M1 W1 := ⟨W2, o3, o4⟩
   obtain ⟨⟨L', M', W', g1, g2, g3, g4⟩, i2⟩ := treeK_sound hc t E1 L1 M1 W1 r h o2
   refine ⟨⟨L', M', W', g1, hfr.trans g2, g3, g4⟩, fun K hk => ?_⟩
   simp only [tex]
   exact o1 _ (i2 K fun L' M' W' r' ⟨q1, q2, q3, q4⟩ => hk L' M' W' r' ⟨q1, hfr.trans q2, q3, q4⟩)
  ·cases h
 | .wr ts, E, L, M, W, r, h, hL => by
  simp only [treeK] at h
  obtain ⟨i1, i2⟩ := treesK_sound hc ts E L M W r h hL
  exact ⟨i1, fun K hk => by simp only [tex]; exact i2 K hk⟩
theorem treesK_sound {call : CallE} (hc : CS P call) {ops : Array Oper} {mk : List Nat} {k : KTr} : ∀ (t : Trs) (E : List (Nat × Nat)) (L : List D) (M : List Obj) (W : List Nat) (r : ResE), treesK P call N ops mk k t E L M W = some r → L.length = N →
  (∃ L' M' W', Goes k N M W r L' M' W' r) ∧ ∀ (K : (Nat → D) → Mem → Nat → Prop), (∀ L' M' W' r', Goes k N M W r L' M' W' r' → K (sget L') (toMem M') M'.length) → texs P N ops mk K t (fun p => p ∈ E) (sget L) (toMem M) M.length
 | .nil, E, L, M, W, r, h, hL => by simp only [treesK] at h; cases h
 | .cons i t ts, E, L, M, W, r, h, hL => by
  simp only [treesK] at h
  split at h
  ·rename_i E1 L1 M1 W1 ho
   obtain ⟨o1, o2, W2, o3, o4⟩ := oneE_sound hc ho hL
   have hfr : Fram M W M1 W1 := ⟨W2, o3, o4⟩
   split at h
   ·rename_i r1 ht
    obtain ⟨⟨L', M', W', g1, g2, g3, g4⟩, i2⟩ := treeK_sound hc t E1 L1 M1 W1 r1 ht o2
    have key : r1 = r → (∃ L' M' W', Goes k N M W r L' M' W' r) ∧ (∀ (K : (Nat → D) → Mem → Nat → Prop), (∀ L' M' W' r', Goes k N M W r L' M' W' r' → K (sget L') (toMem M') M'.length) → sstep P N ops mk i (tex P N ops mk K t) (fun p => p ∈ E) (sget L) (toMem M) M.length) := by
     rintro rfl
     refine ⟨⟨L', M', W', g1, hfr.trans g2, g3, g4⟩, fun K hk => ?_⟩
     exact o1 _ (i2 K fun L' M' W' r' ⟨q1, q2, q3, q4⟩ => hk L' M' W' r' ⟨q1, hfr.trans q2, q3, q4⟩)
    split at h
    ·rename_i hn
     obtain ⟨k1, k2⟩ := key (Option.some.inj h)
     refine ⟨k1, fun K hk => ?_⟩
     simp only [texs]
     refine ⟨k2 K hk, ?_⟩
     cases ts with
     | nil => simp only [texs]
     | cons => simp [Trs.isNil] at hn
    ·split at h
     ·rename_i r2 hts
      split at h
      ·rename_i heq
       have he := Option.some.inj h
       obtain ⟨k1, k2⟩ := key he
       have hs := eqR_same heq
       rw [he] at hs
       obtain ⟨_, j2⟩ := treesK_sound hc ts E L M W r2 hts hL
       refine ⟨k1, fun K hk => ?_⟩
       simp only [texs]
       exact ⟨k2 K hk, j2 K fun L' M' W' r' ⟨q1, q2, q3, q4⟩ => hk L' M' W' r' ⟨q1, q2, q3, hs.trans q4⟩⟩
      ·cases h
     ·cases h
   ·cases h
  ·cases h
end
theorem drawK_sound {call : CallE} (hc : CS P call) (hf : P.follows .mixedOrders = true) {ops : Array Oper} {k : KTr} {id : Nat} {L : List D} {M : List Obj} {W : List Nat} {r : ResE} (h : drawK P call N ops L M W k = some r) (hL : L.length = N) :
  (∃ L' M' W', Goes k N M W r L' M' W' r) ∧ ∀ Q : APost, (∀ L' M' W' r', Goes k N M W r L' M' W' r' → Q .normal (sget L') (toMem M') M'.length) → AWP P N (.region id ops true) Q (sget L) (toMem M) M.length := by
 unfold drawK at h
 split at h
 ·rename_i L' M' W' h1
  unfold drawE at h1
  split at h1
  ·rename_i hok
   obtain ⟨o1, o2, o3⟩ := treeE_sound hc _ _ _ _ _ _ _ _ h1 hL
   have hg : Goes k N M W r L' M' W' r := ⟨o2, o3, h, SameR.refl r⟩
   refine ⟨⟨_, _, _, hg⟩, fun Q hq => awp_tree (masks ops) (mkTr ops ops.size 0) hf hok ?_⟩
   have := o1 (Q .normal) (hq _ _ _ _ hg)
   simpa using this
  ·cases h1
 ·split at h
  ·rename_i hok
   obtain ⟨o1, o2⟩ := treeK_sound hc _ _ _ _ _ _ h hL
   refine ⟨o1, fun Q hq => awp_tree (masks ops) (mkTr ops ops.size 0) hf hok ?_⟩
   have := o2 (Q .normal) hq
   simpa using this
  ·cases h
def GoesC (k : KCo) (N : Nat) (M : List Obj) (W : List Nat) (r : ResE) (e : Ex) (L' : List D) (M' : List Obj) (W' : List Nat) (r' : ResE) : Prop := L'.length = N ∧ Fram M W M' W' ∧ k e L' M' W' = some r' ∧ SameR r r'
theorem codeK_sound {call : CallE} (hc : CS P call) (hf : P.follows .mixedOrders = true) : ∀ (f : Nat) (c : Code) (L : List D) (M : List Obj) (W : List Nat) (k : KCo) (r : ResE), codeK P call N f c L M W k = some r → L.length = N →
  (∃ e L' M' W', GoesC k N M W r e L' M' W' r) ∧ ∀ Q : APost, (∀ e L' M' W' r', GoesC k N M W r e L' M' W' r' → Q (exE e) (sget L') (toMem M') M'.length) → AWP P N c Q (sget L) (toMem M) M.length := by
 intro f
 induction f using Nat.strongRecOn with
 | _ f ih =>
 intro c L M W k r h hL
 cases f with
 | zero => simp only [codeK] at h; cases h
 | succ f =>
 have ih1 := ih f (Nat.lt_succ_self f)
 cases c with
 | skip =>
  simp only [codeK] at h
  have hg : GoesC k N M W r .normal L M W r := ⟨hL, Fram.refl _ _, h, SameR.refl r⟩
  exact ⟨⟨_, _, _, _, hg⟩, fun Q hq => awp_skip (hq _ _ _ _ _ hg)⟩
 | label l =>
  simp only [codeK] at h
  have hg : GoesC k N M W r .normal L M W r := ⟨hL, Fram.refl _ _, h, SameR.refl r⟩
  exact ⟨⟨_, _, _, _, hg⟩, fun Q hq => awp_label (hq _ _ _ _ _ hg)⟩
 | exit id =>
  simp only [codeK] at h
  have hg : GoesC k N M W r (.exit id) L M W r := ⟨hL, Fram.refl _ _, h, SameR.refl r⟩
  exact ⟨⟨_, _, _, _, hg⟩, fun Q hq => awp_exit (hq _ _ _ _ _ hg)⟩
 | ret =>
  simp only [codeK] at h
  have hg : GoesC k N M W r .ret L M W r := ⟨hL, Fram.refl _ _, h, SameR.refl r⟩
  exact ⟨⟨_, _, _, _, hg⟩, fun Q hq => awp_ret (hq _ _ _ _ _ hg)⟩
 | region id ops draw =>
  cases draw with
  | false =>
   simp only [codeK] at h
   split at h
   ·rename_i L' M' W' h1
    obtain ⟨o1, o2, o3⟩ := opsE_sound hc _ _ _ _ _ _ _ h1 hL
    have hg : GoesC k N M W r .normal L' M' W' r := ⟨o2, o3, h, SameR.refl r⟩
    exact ⟨⟨_, _, _, _, hg⟩, fun Q hq => awp_region (xOps_vc _ tg _ _ _ (o1 (Q .normal) tg (hq _ _ _ _ _ hg)))⟩
   ·cases h
  | true =>
   simp only [codeK] at h
   obtain ⟨⟨L', M', W', g⟩, o2⟩ := drawK_sound (id := id) hc hf h hL
   exact ⟨⟨.normal, L', M', W', g⟩, fun Q hq => o2 Q fun L' M' W' r' g => hq .normal L' M' W' r' g⟩
 | seq x y =>
  simp only [codeK] at h
  obtain ⟨⟨e, L', M', W', g1, g2, g3, g4⟩, x2⟩ := ih1 _ _ _ _ _ _ h hL
  constructor
  ·cases e with
   | normal =>
    obtain ⟨⟨e, L2, M2, W2, q1, q2, q3, q4⟩, _⟩ := ih1 _ _ _ _ _ _ g3 g1
    exact ⟨e, L2, M2, W2, q1, g2.trans q2, q3, q4⟩
   | exit id => exact ⟨.exit id, L', M', W', g1, g2, g3, g4⟩
   | ret => exact ⟨.ret, L', M', W', g1, g2, g3, g4⟩
  ·refine fun Q hq => awp_seq (x2 _ ?_)
   rintro e L' M' W' r' ⟨g1, g2, g3, g4⟩
   cases e with
   | normal =>
    exact (ih1 _ _ _ _ _ _ g3 g1).2 Q fun e L2 M2 W2 r2 ⟨q1, q2, q3, q4⟩ => hq e L2 M2 W2 r2 ⟨q1, g2.trans q2, q3, g4.trans q4⟩
   | exit id => exact hq (.exit id) L' M' W' r' ⟨g1, g2, g3, g4⟩
   | ret => exact hq .ret L' M' W' r' ⟨g1, g2, g3, g4⟩
 | cond o x y =>
  simp only [codeK] at h
  split at h
  ·rename_i he
   obtain ⟨x1, x2⟩ := ih1 _ _ _ _ _ _ h hL
   exact ⟨x1, fun Q hq => awp_cond he (fun _ => x2 Q hq) (fun hh => by cases hh)⟩
  ·rename_i he
   obtain ⟨x1, x2⟩ := ih1 _ _ _ _ _ _ h hL
   exact ⟨x1, fun Q hq => awp_cond he (fun hh => by cases hh) (fun _ => x2 Q hq)⟩
  ·cases h
 | block id x =>
  simp only [codeK] at h
  obtain ⟨⟨e, L', M', W', g1, g2, g3, g4⟩, x2⟩ := ih1 _ _ _ _ _ _ h hL
  constructor
  ·cases e with
   | normal => exact ⟨.normal, L', M', W', g1, g2, g3, g4⟩
   | exit id' =>
    simp only at g3
    split at g3
    ·exact ⟨.normal, L', M', W', g1, g2, g3, g4⟩
    ·exact ⟨.exit id', L', M', W', g1, g2, g3, g4⟩
   | ret => exact ⟨.ret, L', M', W', g1, g2, g3, g4⟩
  ·refine fun Q hq => awp_block (x2 _ ?_)
   rintro e L' M' W' r' ⟨g1, g2, g3, g4⟩
   cases e with
   | normal => exact hq .normal L' M' W' r' ⟨g1, g2, g3, g4⟩
   | exit id' =>
    simp only at g3
    split at g3
    ·rename_i hid
     have hid := Nat.eq_of_beq_eq_true hid
     simp only [exE, InBlock, if_pos hid]
     exact hq .normal L' M' W' r' ⟨g1, g2, g3, g4⟩
    ·rename_i hid
     have hid : ¬ id' = id := fun hh => hid (by rw [hh]; exact Nat.beq_refl id)
     simp only [exE, InBlock, if_neg hid]
     exact hq (.exit id') L' M' W' r' ⟨g1, g2, g3, g4⟩
   | ret => exact hq .ret L' M' W' r' ⟨g1, g2, g3, g4⟩
 | loop x =>
  have hwit : ∃ e L' M' W', GoesC k N M W r e L' M' W' r := by
   simp only [codeK] at h
   obtain ⟨⟨e, L', M', W', g1, g2, g3, g4⟩, x2⟩ := ih1 _ _ _ _ _ _ h hL
   cases e with
   | normal =>
    obtain ⟨⟨e, L2, M2, W2, q1, q2, q3, q4⟩, _⟩ := ih1 _ _ _ _ _ _ g3 g1
    exact ⟨e, L2, M2, W2, q1, g2.trans q2, q3, q4⟩
   | exit id => exact ⟨.exit id, L', M', W', g1, g2, g3, g4⟩
   | ret => exact ⟨.ret, L', M', W', g1, g2, g3, g4⟩
  refine ⟨hwit, fun Q hq => ?_⟩
  refine awp_loop (β := Nat) (fun b σ m n => b ≤ f + 1 ∧ ∃ L1 M1 W1 r1, σ = sget L1 ∧ m = toMem M1 ∧ n = M1.length ∧ L1.length = N ∧ Fram M W M1 W1 ∧ SameR r r1 ∧ codeK P call N b (.loop x) L1 M1 W1 k = some r1) id (f + 1) ⟨Nat.le_refl _, L, M, W, r, rfl, rfl, rfl, hL, Fram.refl _ _, SameR.refl r, h⟩ ?_
  rintro b σ m n ⟨hb, L1, M1, W1, r1, rfl, rfl, rfl, hL1, hfr, hsr, hr⟩
  cases b with
  | zero => simp only [codeK] at hr; cases hr
  | succ b =>
   have ihb := ih b (by omega)
   simp only [codeK] at hr
   obtain ⟨_, x2⟩ := ihb _ _ _ _ _ _ hr hL1
   refine x2 _ ?_
   rintro e L2 M2 W2 r2 ⟨g1, g2, g3, g4⟩
   cases e with
   | normal => exact ⟨b, Nat.lt_succ_self b, by omega, L2, M2, W2, r2, rfl, rfl, rfl, g1, hfr.trans g2, hsr.trans g4, g3⟩
   | exit id => exact hq (.exit id) L2 M2 W2 r2 ⟨g1, hfr.trans g2, g3, hsr.trans g4⟩
   | ret => exact hq .ret L2 M2 W2 r2 ⟨g1, hfr.trans g2, g3, hsr.trans g4⟩
 | _ => simp only [codeK] at h; cases h
theorem endE_close {id : FuncId} {args : List D} {M : List Obj} {raw : Bool} {r : ResE} (R' : D → Mem → Nat → Prop)
  (h : ACalls P id args (toMem M) M.length R')
  (hR : ∀ d m n, R' d m n → ∃ ds M1 W1 r1, d = oneOr ds ∧ m = toMem M1 ∧ n = M1.length ∧ FrE M M1 W1 ∧ endE raw M ds M1 W1 = some r1 ∧ SameR r r1) :
  ACalls P id args (toMem M) M.length (fun d' m' n' => d' = r.1 ∧ m' = toMem r.2.1 ∧ n' = r.2.1.length) := by
 cases raw with
 | true =>
  refine h.mono ?_
  intro d m n hd
  obtain ⟨ds, M1, W1, r1, rfl, rfl, rfl, hfr, he, hs⟩ := hR d m n hd
  simp only [endE, if_true, Option.some.injEq] at he
  subst he
  obtain ⟨s1, s2⟩ := hs
  simp only at s1 s2
  exact ⟨s1, by rw [s2], by rw [s2]⟩
 | false =>
  refine acalls_closeLe h ?_
  intro d m n hd
  obtain ⟨ds, M1, W1, r1, rfl, rfl, rfl, b2, he, hs⟩ := hR d m n hd
  simp only [endE, Bool.false_eq_true, if_false] at he
  unfold closeE at he
  have hW : ∀ j, j < M.length → (j ∉ W1.filter fun j => Nat.blt j M.length) → j ∉ W1 := fun j hj hn hin => hn (List.mem_filter.2 ⟨hin, by simpa [Nat.blt_eq] using hj⟩)
  split at he
  ·rename_i d2 M2 c1 c2
   simp only [Option.some.injEq] at he
   subst he
   obtain ⟨s1, s2⟩ := hs
   simp only at s1 s2
   obtain ⟨e1, e2⟩ := pubME_sound _ _ _ c2
   refine ⟨d2, toMem M2, pubE_as _ _ _ c1, fun k hk => List.getElem?_eq_none (by omega), fun k hk => ?_, s1, by rw [s2], by rw [← s2]; exact e1.symm⟩
   by_cases hin : k ∈ W1.filter fun j => Nat.blt j M.length
   ·exact .inr ((e2 k hk).2 hin)
   ·refine .inl ⟨?_, b2.2 k hk (hW k hk hin)⟩
    show M2[k]? = M1[k]?
    rw [(e2 k hk).1 hin, b2.2 k hk (hW k hk hin)]
  ·cases he
theorem endE_fr {M M1 : List Obj} {W1 : List Nat} {raw : Bool} {ds : List D} {r : ResE} (b2 : FrE M M1 W1) (he : endE raw M ds M1 W1 = some r) : FrE M r.2.1 r.2.2 := by
 have hW : ∀ j, j < M.length → (j ∉ W1.filter fun j => Nat.blt j M.length) → j ∉ W1 := fun j hj hn hin => hn (List.mem_filter.2 ⟨hin, by simpa [Nat.blt_eq] using hj⟩)
 cases raw with
 | true =>
  simp only [endE, if_true, Option.some.injEq] at he
  subst he
  exact ⟨b2.1, fun j hj hn => b2.2 j hj (hW j hj hn)⟩
 | false =>
  simp only [endE, Bool.false_eq_true, if_false] at he
  unfold closeE at he
  split at he
  ·rename_i d2 M2 c1 c2
   simp only [Option.some.injEq] at he
   subst he
   obtain ⟨e1, e2⟩ := pubME_sound _ _ _ c2
   exact ⟨by simp only; omega, fun j hj hn => (e2 j hj).1 hn⟩
  ·cases he
theorem endK_eq {raw : Bool} {M : List Obj} {res : List ResultVar} {e : Ex} {L' : List D} {M' : List Obj} {W' : List Nat} {r : ResE} (h : endK P raw M res e L' M' W' = some r) :
  (e = .normal ∨ e = .ret) ∧ ∃ ds, resE P L' M' res = some ds ∧ endE raw M ds M' W' = some r := by
 unfold endK at h
 split at h
 ·split at h
  ·rename_i ds hd; exact ⟨.inl rfl, ds, hd, h⟩
  ·cases h
 ·split at h
  ·rename_i ds hd; exact ⟨.inr rfl, ds, hd, h⟩
  ·cases h
 ·cases h
theorem leaveE_sound {call : CallE} (ih : CS P call) (hf : P.follows .mixedOrders = true) (hname : ∀ (id : FuncId) (fn : Func), P.funcs[id]? = some fn → (fn.name == "runtime.NumGoroutine") = false) {fuel : Nat} {id : FuncId} {fn : Func} (hfn : P.funcs[id]? = some fn) {c : Code} (hc : fn.body = some c) {args : List D} (hlen : args.length ≤ fn.ntmps) {M M1 : List Obj} {W1 : List Nat} {ds : List D}
  (hlv : leaveE P call fuel fn.results.toList (bodyE P call fn.ntmps fuel c (args ++ List.replicate (fn.ntmps - args.length) undefD) M []) = some (ds, M1, W1)) :
  ACalls P id args (toMem M) M.length (fun d' m' n' => d' = oneOr ds ∧ m' = toMem M1 ∧ n' = M1.length) ∧ FrE M M1 W1 := by
 generalize hbd : bodyE P call fn.ntmps fuel c (args ++ List.replicate (fn.ntmps - args.length) undefD) M [] = B at hlv
 have hL0 : (args ++ List.replicate (fn.ntmps - args.length) undefD).length = fn.ntmps := by simp; omega
 cases B with
 | none => simp only [leaveE] at hlv; cases hlv
 | some B =>
  obtain ⟨e, od, L2, M2, W2⟩ := B
  have he : (e = .normal ∨ e = .ret) := by
   cases e with
   | normal => exact .inl rfl
   | ret => exact .inr rfl
   | exit i => simp only [leaveE] at hlv; cases hlv
  cases od with
  | none =>
   have hres : resE P L2 M2 fn.results.toList = some ds ∧ M2 = M1 ∧ W2 = W1 := by
    rcases he with rfl | rfl
    all_goals
     simp only [leaveE] at hlv
     obtain ⟨ds', h1, h2⟩ := Option.map_eq_some_iff.1 hlv
     simp only [Prod.mk.injEq] at h2
     obtain ⟨rfl, rfl, rfl⟩ := h2
     exact ⟨h1, rfl, rfl⟩
   obtain ⟨hres, rfl, rfl⟩ := hres
   obtain ⟨a1, a2, W3, a3, a4⟩ := bodyE_sound ih hf _ _ _ _ _ _ _ _ _ _ hbd hL0 0 [] (fun p hp => by cases hp)
   rw [List.append_nil] at a3
   refine ⟨acalls_ofD (gf := 0) (cs := []) hfn rfl (hname _ _ hfn) hc rfl hlen ?_, by rw [a3]; exact a4⟩
   rw [init_sget args (fn.ntmps - args.length)]
   refine a1 _ _ (fun _ => ?_) (fun h => absurd rfl h)
   rcases he with rfl | rfl
   ·simp only [exE, retC_normal]; exact resE_sound _ _ hres _ _ ⟨rfl, rfl, rfl⟩
   ·simp only [exE, retC_ret]; exact resE_sound _ _ hres _ _ ⟨rfl, rfl, rfl⟩
  | some p =>
   obtain ⟨gf, cs⟩ := p
   have hres : ∃ W4, dcallE P call fuel gf cs M2 = some (M1, W4) ∧ resE P L2 M1 fn.results.toList = some ds ∧ W1 = W4 ++ W2 := by
    rcases he with rfl | rfl
    all_goals
     simp only [leaveE] at hlv
     split at hlv
     ·rename_i M3 W4 hdc
      obtain ⟨ds', h1, h2⟩ := Option.map_eq_some_iff.1 hlv
      simp only [Prod.mk.injEq] at h2
      obtain ⟨rfl, rfl, rfl⟩ := h2
      exact ⟨W4, hdc, h1, rfl⟩
     ·cases hlv
   obtain ⟨W4, hdc, hres, rfl⟩ := hres
   obtain ⟨d1, d2⟩ := dcallE_sound ih hf hname hdc
   obtain ⟨a1, a2, W3, a3, a4⟩ := bodyE_sound ih hf _ _ _ _ _ _ _ _ _ _ hbd hL0 gf cs (fun p hp => by cases hp; rfl)
   rw [List.append_nil] at a3
   refine ⟨acalls_ofD (gf := gf) (cs := cs) hfn rfl (hname _ _ hfn) hc rfl hlen ?_, by rw [a3]; exact a4.trans d2⟩
   rw [init_sget args (fn.ntmps - args.length)]
   refine a1 _ _ (fun h => by cases h) (fun _ => ?_)
   have hd : DCalls P gf cs (toMem M2) M2.length fun m' n' => rets P fn.results.toList (fun ds' => oneOr ds' = oneOr ds ∧ m' = toMem M1 ∧ n' = M1.length) tg (sget L2) m' n' := by
    refine d1.mono ?_
    rintro m' n' ⟨rfl, rfl⟩
    exact resE_sound _ _ hres _ _ ⟨rfl, rfl, rfl⟩
   rcases he with rfl | rfl
   ·exact hd
   ·exact hd
theorem callN_sound {orc : CallE} (ho : CS P orc) (hf : P.follows .mixedOrders = true) (hname : ∀ (id : FuncId) (fn : Func), P.funcs[id]? = some fn → (fn.name == "runtime.NumGoroutine") = false) (raw : FuncId → Bool) (fuel : Nat) : ∀ k, CS P (callN P orc raw fuel k)
 | 0 => fun id args M d M' W h => by simp only [callN] at h; cases h
 | k + 1 => fun id args M d M' W h => by
  have ih := callN_sound ho hf hname raw fuel k
  simp only [callN] at h
  split at h
  ·rename_i r hr
   obtain rfl := Option.some.inj h
   exact ho _ _ _ _ _ _ hr
  ·split at h
   ·rename_i fn hfn
    split at h
    ·rename_i c hc
     split at h
     ·rename_i hlen
      have hlen := Nat.le_of_ble_eq_true hlen
      have hL0 : (args ++ List.replicate (fn.ntmps - args.length) undefD).length = fn.ntmps := by simp; omega
      split at h
      ·split at h
       ·rename_i ds M1 W1 hlv
        obtain ⟨b1, b2⟩ := leaveE_sound ih hf hname hfn hc hlen hlv
        refine ⟨endE_close (raw := raw id) (r := (d, M', W)) _ b1 ?_, endE_fr b2 h⟩
        rintro d' m' n' ⟨rfl, rfl, rfl⟩
        exact ⟨ds, M1, W1, _, rfl, rfl, rfl, b2, h, SameR.refl _⟩
       ·cases h
      ·obtain ⟨⟨e, L2, M2, W2, g1, g2, g3, g4⟩, hk⟩ := codeK_sound ih hf _ _ _ _ _ _ _ h hL0
       obtain ⟨he, ds, hres, hend⟩ := endK_eq g3
       obtain ⟨W3, e3, hfr⟩ := g2
       rw [List.append_nil] at e3
       subst e3
       refine ⟨endE_close (raw := raw id) (r := (d, M', W)) (fun d' m' n' => ∃ ds M1 W1 r1, d' = oneOr ds ∧ m' = toMem M1 ∧ n' = M1.length ∧ FrE M M1 W1 ∧ endE (raw id) M ds M1 W1 = some r1 ∧ SameR (d, M', W) r1) ?_ (fun _ _ _ hd => hd), endE_fr hfr hend⟩
       refine acalls_ofD (gf := 0) (cs := []) hfn rfl (hname _ _ hfn) hc rfl hlen ?_
       rw [init_sget args (fn.ntmps - args.length)]
       refine awpd_plain (hk _ ?_)
       rintro e L2 M2 W2 r2 ⟨g1, ⟨W3, e3, hfr⟩, g3, g4⟩
       rw [List.append_nil] at e3
       subst e3
       obtain ⟨he, ds, hres, hend⟩ := endK_eq g3
       rcases he with rfl | rfl
       ·simp only [exE, retC_normal]; exact resE_sound _ _ hres _ _ ⟨ds, M2, W2, r2, rfl, rfl, rfl, hfr, hend, g4⟩
       ·simp only [exE, retC_ret]; exact resE_sound _ _ hres _ _ ⟨ds, M2, W2, r2, rfl, rfl, rfl, hfr, hend, g4⟩
     ·cases h
    ·cases h
   ·cases h
theorem run_trueN {orc : CallE} (ho : CS P orc) (hf : P.follows .mixedOrders = true) (hname : P.funcs.all (fun fn => !(fn.name == "runtime.NumGoroutine")) = true) (raw : FuncId → Bool) (fuel k : Nat) {f : FuncId}
  (h : (match callN P orc raw fuel k f [] [] with | some (.v (.bool true), _, _) => true | _ => false) = true) (m : Mem) (n : Nat) :
  ACalls P f [] m n (fun d' m' n' => d' = .v (.bool true) ∧ m' = m ∧ n' = n) := by
 split at h
 ·rename_i M' W hr
  have hn : ∀ (id : FuncId) (fn : Func), P.funcs[id]? = some fn → (fn.name == "runtime.NumGoroutine") = false := fun id fn hfn => by
   obtain ⟨hlt, rfl⟩ := Array.getElem?_eq_some_iff.1 hfn
   have := Array.all_eq_true.1 hname id hlt
   simpa using this
  exact acalls_frame rfl (callN_sound ho hf hn raw fuel k _ _ _ _ _ _ hr).1 m n
 ·cases h
end
end Go.Proofs.Mv.V
