/- A part of the proofs: machine, contracts, laws. No condition of its own. -/
import Derived.Test.YtndinledjelleaaGreatDoorMvC
set_option linter.unusedSimpArgs false
set_option linter.unusedVariables false
set_option linter.unusedSectionVars false
namespace Go.Proofs.Mv.V
variable [GI]
def DCalls (P : Program) (f : FuncId) (args : List D) (m : Mem) (n : Nat) (K : Mem → Nat → Prop) : Prop :=
 Callable P f ∧ ∀ (w : World) (ν : Nu) (F : Nat → Prop) (vals : Array Value) (B : Bs) (k : Nat) (u : FrameMode), B.ro = none → St w ν F m n → ConVs w ν F args vals.toList →
  CallsDIn (FW B) k P f vals u w fun e u' w' => u' = u ∧ ∃ v, e = .returned v ∧ ∃ ν' F' m' n', Ext w ν F w' ν' F' ∧ St w' ν' F' m' n' ∧ K m' n'
section
variable {P : Program} {N : Nat} {w w' : World} {ν ν' : Nu} {F F' : Nat → Prop} {a : Act} {σ : Nat → D} {m m' : Mem} {n n' : Nat}
theorem arel_init_nm {fn : Func} {args : List D} {vals : Array Value} {B : Bs} (hro : B.ro = none) (hN : args.length ≤ fn.ntmps) (hst : St w ν F m n) (hv : ConVs w ν F args vals.toList) :
  ARel fn.ntmps ⟨none, [], w.heap.size, true⟩ w ν F { tmps := vals ++ Array.replicate (fn.ntmps - vals.size) undef, defers := [] } (initσ args) m n := by
 have h := arel_init hN hst hv
 exact ⟨h.size, ⟨[], rfl, List.nodup_nil, by simp, fun _ => rfl⟩, h.base, h.con, h.st⟩
theorem dcalls_of {f : FuncId} {fn : Func} {c : Code} {args : List D} {ts : List Tmp} {K : Mem → Nat → Prop} (hf : P.funcs[f]? = some fn) (hname : (fn.name == "runtime.NumGoroutine") = false)
  (hb : fn.body = some c) (hr : retTmps fn = some ts) (hN : args.length ≤ fn.ntmps) (hnr : noRange c = true) (h : AWP P fn.ntmps c (RetQ ts fun _ m n => K m n) (initσ args) m n) : DCalls P f args m n K := by
 refine ⟨⟨fn, hf, hname, by rw [hb]; rfl⟩, ?_⟩
 intro w ν F vals B k u hro hst hv
 have hFW : FW B = FW ⟨none, [], w.heap.size, true⟩ := by simp only [FW, hro]
 rw [hFW]
 refine callsDIn_of_wp (R := fun e w' => ∃ v, e = .returned v ∧ ∃ ν' F' m' n', Ext w ν F w' ν' F' ∧ St w' ν' F' m' n' ∧ K m' n') hf hb trivial (wpIn_fw (n := 1) (wpIn_mono (h ⟨none, [], w.heap.size, true⟩ (.inr hnr) w ν F _ (arel_init_nm (B := B) hro hN hst hv)) ?_)) rfl
 rintro e a' w' ⟨ν', F', σ', m', n', h1, h2, h3⟩
 obtain ⟨mk, e1, e2, e3, e4⟩ := h2.defers
 obtain rfl := e4 rfl
 have hd : a'.defers = [] := by rw [e1]; rfl
 cases e with
 | normal =>
  obtain ⟨v, g1, g2⟩ := run_results (P := P) hr h2.con (w := w')
  exact ⟨hd, v, g1, v, rfl, ν', F', m', n', h1, h2.st, h3⟩
 | ret =>
  obtain ⟨v, g1, g2⟩ := run_results (P := P) hr h2.con (w := w')
  exact ⟨hd, v, g1, v, rfl, ν', F', m', n', h1, h2.st, h3⟩
 | _ => exact h3.elim
def LiftD (N : Nat) (b : Nat) (w : World) (ν : Nu) (F : Nat → Prop) (gf : FuncId) (cs : List D) (Q QD : APost) (e : Exit) (a' : Act) (w' : World) : Prop :=
 Lift N ⟨none, [], b, false⟩ w ν F Q e a' w' ∨
 ∃ ν' F' σ' m' n' mk cap, Ext w ν F w' ν' F' ∧ ARel N ⟨none, { target := .fn (.func gf) cap, args := #[] } :: mk, b, true⟩ w' ν' F' a' σ' m' n' ∧ ConVs w' ν' F' cs cap.toList ∧
  Marks ⟨none, [], b, false⟩ w' F' mk ∧ QD e σ' m' n'
def AWPd (P : Program) (N : Nat) (gf : FuncId) (cs : List D) (c : Code) (Q QD : APost) (σ : Nat → D) (m : Mem) (n : Nat) : Prop :=
 ∀ b w ν F a, ARel N ⟨none, [], b, false⟩ w ν F a σ m n → c.wpIn (FW ⟨none, [], b, false⟩) 1 P (LiftD N b w ν F gf cs Q QD) a w
theorem LiftD.trans {b : Nat} {gf : FuncId} {cs : List D} {Q QD : APost} {e : Exit} (hext : Ext w ν F w' ν' F') {a' : Act} {w'' : World} (h : LiftD N b w' ν' F' gf cs Q QD e a' w'') : LiftD N b w ν F gf cs Q QD e a' w'' := by
 rcases h with h | ⟨ν2, F2, σ2, m2, n2, mk, cap, h1, h2⟩
 ·exact .inl (Lift.trans hext h)
 ·exact .inr ⟨ν2, F2, σ2, m2, n2, mk, cap, hext.trans h1, h2⟩
theorem awpd_seq {gf : FuncId} {cs : List D} {x y : Code} {Q QD : APost} (h : AWP P N x (Then (fun σ m n => AWPd P N gf cs y Q QD σ m n) Q) σ m n) : AWPd P N gf cs (.seq x y) Q QD σ m n := by
 intro b w ν F a hr
 refine wpIn_seq (wpIn_mono (h ⟨none, [], b, false⟩ (.inl ⟨rfl, rfl⟩) w ν F a hr) ?_)
 rintro e a' w' ⟨ν', F', σ', m', n', h1, h2, h3⟩
 cases e with
 | normal => exact wpIn_mono (h3 b w' ν' F' a' h2) fun e a w hq => LiftD.trans h1 hq
 | _ => exact .inl ⟨ν', F', σ', m', n', h1, h2, h3⟩
theorem awpd_plain {gf : FuncId} {cs : List D} {c : Code} {Q QD : APost} (h : AWP P N c Q σ m n) : AWPd P N gf cs c Q QD σ m n := fun b w ν F a hr =>
 wpIn_mono (h ⟨none, [], b, false⟩ (.inl ⟨rfl, rfl⟩) w ν F a hr) fun _ _ _ hq => .inl hq
theorem vcOps_app {B : Bs} {ops : Array Oper} {K : (Nat → D) → Mem → Nat → Prop} {suf : List Oper} {QQ : World → Nu → (Nat → Prop) → Exit → Act → World → Prop}
  (hQ : ∀ w ν F w' ν' F' e a w2, Ext w ν F w' ν' F' → QQ w' ν' F' e a w2 → QQ w ν F e a w2)
  (hs : ∀ w ν F a σ m n, ARel N B w ν F a σ m n → K σ m n → wpListIn (FW B) 1 P ops (QQ w ν F) suf a w) :
  ∀ (l : List Oper) (w : World) (ν : Nu) (F : Nat → Prop) (a : Act) (σ : Nat → D) (m : Mem) (n : Nat), ARel N B w ν F a σ m n → vcOps P N ops K l σ m n → wpListIn (FW B) 1 P ops (QQ w ν F) (l ++ suf) a w := by
 intro l
 induction l with
 | nil => intro w ν F a σ m n hr h; exact hs w ν F a σ m n hr h
 | cons o rest ih =>
  intro w ν F a σ m n hr h
  simp only [vcOps, ostep] at h
  obtain ⟨hd, h⟩ := h
  simp only [List.cons_append, wpListIn]
  cases hg : guarded ops o σ with
  | none => simp [hg] at h
  | some b =>
   rw [guarded_sound hr.con hg]
   cases b with
   | false =>
    simp only [hg] at h
    simp only [Bool.false_eq_true, if_false]
    exact ⟨fun _ _ => trivial, ih _ _ _ _ _ _ _ (hr.put (Ext.refl _ _ _) hr.st con_undef (dstOk_lt hd)) h⟩
   | true =>
    simp only [hg] at h
    simp only [if_true]
    refine (aop_sound hr.st hr.con h).wpIn (aop_nodef h) fun v w' hv => ?_
    obtain ⟨ν', F', d, m', n', h1, h2, h3, h4⟩ := hv
    have := ih _ _ _ _ _ _ _ (hr.put h1 h2 h3 (dstOk_lt hd)) h4
    exact vcOps_sound.wpListIn_monoQ (fun e a w hq => hQ _ _ _ _ _ _ _ _ _ h1 hq) this
theorem awpd_defer {gf : FuncId} {cs : List D} {id : Nat} {ops : Array Oper} {pre : List Oper} {x : Operand} {ats : Array TypeId} {ty : TypeId} {pos : String} {after : Array Edge} {y : Code} {Q QD : APost}
  (hops : ops.toList = pre ++ [⟨none, .defer { callee := .value x, args := #[], argTypes := ats }, ty, pos, after, none⟩]) (hny : noRange y = true)
  (h : vcOps P N ops (fun σ m n => ev σ x = .func (.func gf) [] cs ∧ AWP P N y QD σ m n) pre σ m n) :
  AWPd P N gf cs (.seq (.region id ops false) y) Q QD σ m n := by
 intro b w ν F a hr
 refine wpIn_seq (wpIn_region_list ?_)
 rw [hops]
 refine vcOps_app (B := ⟨none, [], b, false⟩) (QQ := fun w ν F => Exit.then (fun a' w' => y.wpIn (FW ⟨none, [], b, false⟩) 1 P (LiftD N b w ν F gf cs Q QD) a' w') (LiftD N b w ν F gf cs Q QD)) ?_ ?_ pre w ν F a σ m n hr h
 ·intro w ν F w' ν' F' e a w2 hext hq
  cases e with
  | normal => exact wpIn_mono hq fun e a w hq => LiftD.trans hext hq
  | _ => exact LiftD.trans hext hq
 ·rintro w ν F a σ m n hr ⟨he, hy⟩
  simp only [wpListIn, Region.wanted, if_true]
  refine ⟨fun _ _ => trivial, ?_⟩
  have hcon := con_ev hr.con x
  rw [he] at hcon; simp only [Con] at hcon
  obtain ⟨ys, lb, hfun, hyy, hlb⟩ := hcon
  obtain rfl : ys = #[] := by simp only [ConVs] at hyy; exact Array.toList_inj.1 hyy
  rw [Oper.semAt_none]
  obtain ⟨mk, e1, e2, e3, e4⟩ := hr.defers
  have hd0 : a.defers = mk := by rw [e1, List.append_nil]
  have hmk : Marks ⟨none, [], b, false⟩ w F mk := hd0 ▸ hr.defers
  have hrun : (execOp a.eval ⟨none, .defer { callee := .value x, args := #[], argTypes := ats }, ty, pos, after, none⟩).run P w = .ok (.defer { target := .fn (.func gf) lb, args := #[] }) w := by
   simp only [execOp, resolve, hfun, Deferred.ofValue, Array.map_empty, Array.append_empty, Sem.run_bind, Sem.run_pure, Result.andThen]
  rw [hrun]
  have hr' : ARel N ⟨none, { target := .fn (.func gf) lb, args := #[] } :: mk, b, true⟩ w ν F { a with defers := { target := .fn (.func gf) lb, args := #[] } :: a.defers } σ m n :=
   ⟨hr.size, ⟨[], by simp [hd0], List.nodup_nil, by simp, fun _ => rfl⟩, hr.base, hr.con, hr.st⟩
  refine wpIn_mono (hy ⟨none, { target := .fn (.func gf) lb, args := #[] } :: mk, b, true⟩ (.inr hny) w ν F _ hr') ?_
  rintro e a' w' ⟨ν', F', σ', m', n', h1, h2, h3⟩
  exact .inr ⟨ν', F', σ', m', n', mk, lb, h1, h2, ConVs.mono h1 _ _ hlb, hmk.mono h1, h3⟩
def ResOk (P : Program) (fn : Func) (R : D → Mem → Nat → Prop) (σ : Nat → D) (m : Mem) (n : Nat) : Prop :=
 ∀ (w : World) (ν : Nu) (F : Nat → Prop) (tmps : Array Value), St w ν F m n → (∀ i, Con w ν F (σ i) (tmps.getD i undef)) → ∃ v d, (results fn tmps).run P w = .ok v w ∧ Con w ν F d v ∧ R d m n
theorem acalls_body_d {f : FuncId} {fn : Func} {c : Code} {args : List D} {gf : FuncId} {cs : List D} {Q QD : APost} {R : D → Mem → Nat → Prop} (hf : P.funcs[f]? = some fn) (hname : (fn.name == "runtime.NumGoroutine") = false)
  (hb : fn.body = some c) (hN : args.length ≤ fn.ntmps) (h : AWPd P fn.ntmps gf cs c Q QD (initσ args) m n)
  (hQ : ∀ e σ m n, Q e σ m n → (e = .normal ∨ e = .ret) ∧ ResOk P fn R σ m n)
  (hD : ∀ e σ m n, QD e σ m n → (e = .normal ∨ e = .ret) ∧ DCalls P gf cs m n fun m' n' => ResOk P fn R σ m' n') :
  ACalls P f args m n R := by
 refine ⟨⟨fn, hf, hname, by rw [hb]; rfl⟩, ?_⟩
 intro w ν F vals hst hv
 refine callsIn_wide.1 (callsIn_of_wp_marks (F := FW ⟨none, [], w.heap.size, false⟩) (n := 1) hf hb trivial ?_)
 refine wpIn_mono (h w.heap.size w ν F _ (arel_init hN hst hv)) ?_
 have plain : ∀ (tmps : Array Value) (mk : List Deferred) (σ' : Nat → D) (m' : Mem) (n' : Nat) (w' : World) (ν' : Nu) (F' : Nat → Prop), Ext w ν F w' ν' F' → St w' ν' F' m' n' → (∀ i, Con w' ν' F' (σ' i) (tmps.getD i undef)) →
   ResOk P fn R σ' m' n' → mk.Nodup → (∀ d ∈ mk, ∃ D, d = { target := .collected D, args := #[] } ∧ w.heap.size ≤ D ∧ w'.heap[D]? = some (.deferred (some []))) →
   LeavesInM (FW ⟨none, [], w.heap.size, false⟩) 1 P fn tmps (fun e w' => ∃ v, e = .returned v ∧ ∃ ν' F' d m' n', Ext w ν F w' ν' F' ∧ St w' ν' F' m' n' ∧ Con w' ν' F' d v ∧ R d m' n') mk .returning w' := by
  intro tmps mk σ' m' n' w' ν' F' h1 h2 h3 hres e2 e3
  refine leave_marks (b := w.heap.size) (w := w') (fun w2 ht => ?_) mk w' (Turn.refl _ _) e2 e3
  obtain ⟨v, d, g1, g2, g3⟩ := hres w2 ν' F' tmps (ht.st hst h1 h2) (fun i => Con.turn ht _ _ (h3 i))
  exact ⟨v, g1, v, rfl, ν', F', d, m', n', ht.ext hst h1, ht.st hst h1 h2, g2, g3⟩
 rintro e a' w' (⟨ν', F', σ', m', n', h1, h2, h3⟩ | ⟨ν', F', σ', m', n', mk, cap, h1, h2, hcap, hmk, h3⟩)
 ·obtain ⟨he, hres⟩ := hQ _ _ _ _ h3
  obtain ⟨mk, e1, e2, e3, _⟩ := h2.defers
  have key := plain a'.tmps mk σ' m' n' w' ν' F' h1 h2.st h2.con hres e2 fun d hd => by
   obtain ⟨D, q1, q2, q3, q4⟩ := e3 d hd
   exact ⟨D, q1, q2, q4⟩
  have hd : a'.defers = mk := by rw [e1, List.append_nil]
  rw [← hd] at key
  rcases he with rfl | rfl
  ·exact key
  ·exact key
 ·obtain ⟨he, hcal, hdc⟩ := hD _ _ _ _ h3
  obtain ⟨mk0, e1, e2, e3, e4⟩ := h2.defers
  obtain rfl := e4 rfl
  have hd : a'.defers = { target := .fn (.func gf) cap, args := #[] } :: mk := by rw [e1]; rfl
  have key : LeavesInM (FW ⟨none, [], w.heap.size, false⟩) 1 P fn a'.tmps (fun e w' => ∃ v, e = .returned v ∧ ∃ ν' F' d m' n', Ext w ν F w' ν' F' ∧ St w' ν' F' m' n' ∧ Con w' ν' F' d v ∧ R d m' n') a'.defers .returning w' := by
   rw [hd]
   refine ⟨by simp, .inr ⟨fun _ => Nat.le_refl _, .func gf, cap, gf, #[] ++ cap, rfl, run_callFunc hcal, fun _ _ => trivial, ?_⟩⟩
   have hc := hdc w' ν' F' (#[] ++ cap) ⟨none, [], w.heap.size, false⟩ (1 - 1) .returning rfl h2.st (by simpa using hcap)
   refine hc.mono ?_
   rintro e u' w2 ⟨rfl, v, rfl, ν2, F2, m2, n2, g1, g2, g3⟩
   obtain ⟨mk1, k1, k2, k3, _⟩ := hmk.mono g1
   have hk : mk1 = mk := by rw [List.append_nil] at k1; exact k1.symm
   subst hk
   exact plain a'.tmps mk1 σ' m2 n2 w2 ν2 F2 (h1.trans g1) g2 (fun i => Con.mono g1 _ _ (h2.con i)) g3 k2 fun d hd => by
    obtain ⟨D, q1, q2, q3, q4⟩ := k3 d hd
    exact ⟨D, q1, q2, q4⟩
  rcases he with rfl | rfl
  ·exact key
  ·exact key
def RetD (P : Program) (l : List ResultVar) (gf : FuncId) (cs : List D) (R : D → Mem → Nat → Prop) : APost
 | .normal, σ, m, n | .ret, σ, m, n => DCalls P gf cs m n fun m' n' => rets P l (fun ds => R (oneOr ds) m' n') tg σ m' n'
 | _, _, _, _ => False
theorem DCalls.mono {f : FuncId} {args : List D} {K K' : Mem → Nat → Prop} (h : DCalls P f args m n K) (hk : ∀ m n, K m n → K' m n) : DCalls P f args m n K' :=
 ⟨h.1, fun w ν F vals B k u hro hst hv => CallsDIn.mono (h.2 w ν F vals B k u hro hst hv) fun e u' w' ⟨h1, v, h2, ν', F', m', n', h3, h4, h5⟩ => ⟨h1, v, h2, ν', F', m', n', h3, h4, hk _ _ h5⟩⟩
theorem acalls_ofD {f : FuncId} {fn : Func} {c : Code} {args : List D} {l : List ResultVar} {R : D → Mem → Nat → Prop} {gf : FuncId} {cs : List D} {N : Nat} (hf : P.funcs[f]? = some fn) (hn : fn.ntmps = N) (hname : (fn.name == "runtime.NumGoroutine") = false)
  (hb : fn.body = some c) (hr : fn.results.toList = l) (hN : args.length ≤ N) (h : AWPd P N gf cs c (RetC P l R) (RetD P l gf cs R) (initσ args) m n) : ACalls P f args m n R := by
 subst hn; subst hr
 refine acalls_body_d hf hname hb hN h (fun e σ m n hq => ?_) (fun e σ m n hq => ?_)
 ·cases e with
  | normal => exact ⟨.inl rfl, fun w ν F tmps hst hc => run_resultsC (P := P) (K := fun d => R d m n) hst hc hq⟩
  | ret => exact ⟨.inr rfl, fun w ν F tmps hst hc => run_resultsC (P := P) (K := fun d => R d m n) hst hc hq⟩
  | _ => exact hq.elim
 ·cases e with
  | normal => exact ⟨.inl rfl, DCalls.mono hq fun m' n' h w ν F tmps hst hc => run_resultsC (P := P) (K := fun d => R d m' n') hst hc h⟩
  | ret => exact ⟨.inr rfl, DCalls.mono hq fun m' n' h w ν F tmps hst hc => run_resultsC (P := P) (K := fun d => R d m' n') hst hc h⟩
  | _ => exact hq.elim
end
end Go.Proofs.Mv.V
