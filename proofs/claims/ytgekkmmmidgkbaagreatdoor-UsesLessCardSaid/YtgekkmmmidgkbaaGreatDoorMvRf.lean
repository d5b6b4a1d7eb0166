/- A part of the proofs of the seat YtgekkmmmidgkbaaGreatDoor: the abstract machine, the contracts of the functions, the laws. No condition of its own. -/
import Derived.Test.YtgekkmmmidgkbaaGreatDoorMvD
import Derived.RangeFuncFrom
import Derived.Laws.AppendOwn
set_option linter.unusedSimpArgs false
set_option linter.unusedVariables false
set_option linter.unusedSectionVars false
namespace Go.Proofs.Mv.V
variable [GI]
section
variable {P : Program} {N : Nat} {w : World} {ν : Nu} {F G : Nat → Prop} {m : Mem} {n : Nat}
theorem ext_more : Ext w ν F w ν (fun b => F b ∨ G b) :=
  ⟨Nat.le_refl _, fun b hb => ⟨.inl hb, rfl⟩, fun k l h => ⟨l, h, Nat.le_refl _, rfl, fun _ => rfl⟩, fun k l l' h h' e arr el f ha => by
    rw [h] at h'; obtain rfl := Option.some.inj h'; exact ⟨arr, el, f, ha, rfl⟩, ⟨rfl, rfl⟩⟩
/-- What holds no cells may be held to lie as it lies. -/
theorem st_more (h : St w ν F m n) (hG : ∀ b, G b → ∃ o : Go.Obj, w.heap[b]? = some o ∧ o.isCells = false) : St w ν (fun b => F b ∨ G b) m n := by
  have hx : Ext w ν F w ν (fun b => F b ∨ G b) := ext_more
  refine ⟨⟨fun b hb => ?_, h.mem.inj, fun k o hk => ?_⟩, h.fresh, GI.keep h.gi hx.fz⟩
  · rcases hb with hb | hb
    · exact h.mem.lt b hb
    · obtain ⟨o, ho, _⟩ := hG b hb
      exact (Array.getElem?_eq_some_iff.1 ho).1
  · obtain ⟨l, arr, e, f, q1, q2, q3, q4, q5, q6, q7⟩ := h.mem.at_ k o hk
    refine ⟨l, arr, e, f, q1, q2, q3, q4, fun hn => ?_, q6, ConEs.mono hx _ _ _ _ rfl q7⟩
    rcases hn with hn | hn
    · exact q5 hn
    · obtain ⟨o, ho, hc⟩ := hG _ hn
      rw [q4] at ho; cases ho; simp [Go.Obj.isCells] at hc
end
/-- An iterator: it hands el's data over one by one. -/
def ItSeq (P : Program) (gf : FuncId) (cs : List D) (L : Nat) (el : Fin L → List D) : Prop :=
  Callable P gf ∧ ∀ (w : World) (ν : Nu) (F : Nat → Prop) (lb : Array Value), (∀ b, F b → b < w.heap.size) → ConVs w ν F cs lb.toList →
    ∃ vals : Fin L → Array Value, (∀ i, ConVs w ν F (el i) (vals i).toList) ∧
      SeqStopsK Fence.wide 1 P gf lb vals (fun A B => ∀ b, F b → B.heap[b]? = A.heap[b]?) (fun xs => xs = List.finRange L) (fun pre => ∃ j, pre = (List.finRange L).take j) L w
/-- How a round may be left. -/
def RfQ {L : Nat} (Inv : List (Fin L) → Mem → Nat → Prop) (xs : List (Fin L)) (σ : Nat → D) (Q : APost) : APost
  | .normal, _, m, n => Inv xs m n
  | .ret, _, m, n => (∃ j, xs = (List.finRange L).take j) → Q .ret σ m n
  | .exit id, _, m, n => (∃ j, xs = (List.finRange L).take j) → Q (.exit id) σ m n
  | _, _, _, _ => False
/-- The slots of a round: what is handed over, then the loop's variable. -/
def rfσ (σ : Nat → D) : List Tmp → List D → Nat → D
  | p :: ps, d :: ds => rfσ (upd σ p d) ps ds
  | _, _ => σ
section
variable {P : Program} {N : Nat} {σ : Nat → D} {m : Mem} {n : Nat} {Q : APost}
theorem con_rf {w : World} {ν : Nu} {F : Nat → Prop} : ∀ (ps : List Tmp) (ds : List D) (vs : List Value) (tmps : Array Value) (σ : Nat → D), ConVs w ν F ds vs → ds.length = ps.length → (∀ p ∈ ps, p < tmps.size) → (∀ i, Con w ν F (σ i) (tmps.getD i undef)) →
    ((ps.zip vs).foldl (fun t (p, v) => t.setIfInBounds p v) tmps).size = tmps.size ∧ ∀ i, Con w ν F (rfσ σ ps ds i) (((ps.zip vs).foldl (fun t (p, v) => t.setIfInBounds p v) tmps).getD i undef)
  | [], ds, vs, tmps, σ, h, hl, hp, hc => by
    cases ds with
    | nil => exact ⟨by simp, by simpa [rfσ] using hc⟩
    | cons d ds => simp at hl
  | p :: ps, [], vs, tmps, σ, h, hl, hp, hc => by simp at hl
  | p :: ps, d :: ds, vs, tmps, σ, h, hl, hp, hc => by
    simp only [ConVs] at h
    obtain ⟨y, r, rfl, hd, hr⟩ := h
    have hp0 := hp p (by simp)
    have := con_rf ps ds r (tmps.setIfInBounds p y) (upd σ p d) hr (by simpa using hl) (fun q hq => by simpa using hp q (by simp [hq])) (fun i => by
      simp only [upd]
      by_cases hi : i = p
      · subst hi; simp [hp0, hd]
      · rw [if_neg hi]; simpa [Array.getElem?_setIfInBounds_ne (Ne.symm hi)] using hc i)
    simp only [List.zip_cons_cons, List.foldl_cons, rfσ]
    exact ⟨by rw [this.1]; simp, this.2⟩
/-- The assignment to one variable of the loop. -/
theorem assign_one {F : Fence} {k id : Nat} {t p : Tmp} {ty : TypeId} {pos : String} {after : Array Edge} {a : Act} {w : World} {K : Act → World → Prop} (h : K (a.put (some t) (a.tmps.getD p undef)) w) (hF : ∀ f, F.fn f) :
    (Code.region id #[⟨some t, .assign (.tmp p), ty, pos, after, none⟩] false).wpIn F k P (Exit.then K (fun _ _ _ => False)) a w := by
  refine wpIn_region_list ?_
  simp only [wpListIn, Region.wanted, if_true]
  refine ⟨fun f _ => hF f, ?_⟩
  rw [Oper.semAt_eq _ _ _ (by simp)]
  simp only [execOp, Sem.run_pure]
  exact h
theorem awp_rangeFunc {g : Operand} {ps : Array Tmp} {id : Nat} {t p : Tmp} {ty : TypeId} {pos : String} {after : Array Edge} {body : Code} {gf : FuncId} {cs : List D} {L : Nat} {el : Fin L → List D}
    (hg : ev σ g = .func (.func gf) [] cs) (hit : ItSeq P gf cs L el) (hps : ∀ i, (el i).length = ps.size) (hpl : ∀ q ∈ ps.toList, q < N) (ht : t < N) (hnr : noRange body = true)
    (Inv : List (Fin L) → Mem → Nat → Prop) (h0 : Inv [] m n)
    (hbody : ∀ pre x m n, Inv pre m n → pre.length < L → AWP P N body (RfQ Inv (pre ++ [x]) σ Q) (upd (rfσ σ ps.toList (el x)) t (rfσ σ ps.toList (el x) p)) m n)
    (hdone : ∀ m n, Inv (List.finRange L) m n → Q .normal σ m n) :
    AWP P N (.rangeFunc g ps (.region id #[⟨some t, .assign (.tmp p), ty, pos, after, none⟩] false) body) Q σ m n := by
  rintro ⟨ro, ds, bb, nm⟩ hB w ν F a hr
  obtain ⟨rfl, rfl⟩ : ro = none ∧ nm = false := hB.resolve_right (by simp [noRange])
  have hcon := con_ev hr.con g
  rw [hg] at hcon; simp only [Con] at hcon
  obtain ⟨ys, lb, hfun, hy, hlb⟩ := hcon
  obtain rfl : ys = #[] := by simp only [ConVs] at hy; exact Array.toList_inj.1 hy
  obtain ⟨hcal, hit⟩ := hit
  obtain ⟨vals, hv1, hseq⟩ := hit w ν F lb hr.st.mem.lt hlb
  have hvl : ∀ x, (vals x).size = ps.size := fun x => by have := conVs_length (hv1 x); rw [hps] at this; simpa using this.symm
  let I : List (Fin L) → World → Prop := fun s W => ∃ ν' F' m' n', Ext w ν F W ν' F' ∧ St W ν' F' m' n' ∧ Inv s m' n'
  let Ix : Code → List (Fin L) → World → Prop := fun c s W => ∃ ν' F' m' n', Ext w ν F W ν' F' ∧ St W ν' F' m' n' ∧ ((∃ j, s = (List.finRange L).take j) → match c with
    | .ret => Q .ret σ m' n'
    | .exit id => Q (.exit id) σ m' n'
    | _ => False)
  have hturn : ∀ {W W' : World} {row : Option Nat}, W.grownBy W' row → (∀ r, row = some r → w.heap.size ≤ r ∧ ∃ o : Go.Obj, W.heap[r]? = some o ∧ o.isCells = false) → w.heap.size ≤ W.heap.size → Turn w.heap.size W W' := fun {W W' row} hgr hrow hsz => by
    refine ⟨hgr.size, fun k hk => hgr.block k (by omega) fun e => ?_, fun k arr e f hk => hgr.block k (Array.getElem?_eq_some_iff.1 hk).1 fun er => ?_, ⟨hgr.os, hgr.output⟩⟩
    · have := (hrow k e.symm).1; omega
    · obtain ⟨_, o, ho, hc⟩ := hrow k er.symm
      rw [hk] at ho; cases ho; simp [Go.Obj.isCells] at hc
  have hmark : ∀ (D : Nat) (W : World) (ν' : Nu) (F' : Nat → Prop) (m' : Mem) (n' : Nat) (Q' : Exit), w.heap.size ≤ D → Ext w ν F W ν' F' → St W ν' F' m' n' → W.heap[D]? = some (.deferred (some [])) → Q Q' σ m' n' →
      Lift N ⟨none, ds, bb, false⟩ w ν F Q Q' { a with defers := { target := .collected D, args := #[] } :: a.defers } W := by
    intro D W ν' F' m' n' e hD he hs hd hq
    refine ⟨ν', fun b => F' b ∨ b = D, σ, m', n', he.trans ext_more, ⟨hr.size, ?_, Nat.le_trans hr.base he.size, fun i => Con.mono (he.trans ext_more) _ _ (hr.con i), st_more hs fun b hb => ⟨.deferred (some []), by subst hb; exact hd, rfl⟩⟩, hq⟩
    obtain ⟨mk, e1, e2, e3, _⟩ := hr.defers.mono he
    obtain ⟨mk', e1', e2', e3', _⟩ := hr.defers
    obtain rfl : mk' = mk := List.append_cancel_right (e1'.symm.trans e1)
    refine ⟨_ :: mk', by rw [e1']; rfl, List.nodup_cons.2 ⟨fun hin => ?_, e2⟩, fun d hd' => ?_, fun h => by cases h⟩
    · obtain ⟨D', q1, q2, q3, q4⟩ := e3' _ hin
      simp only [Deferred.mk.injEq, Target.collected.injEq, and_true] at q1
      have := (Array.getElem?_eq_some_iff.1 q4).1
      omega
    · rcases List.mem_cons.1 hd' with rfl | hd'
      · exact ⟨D, rfl, Nat.le_trans hr.base hD, .inr rfl, hd⟩
      · obtain ⟨D', q1, q2, q3, q4⟩ := e3 d hd'
        exact ⟨D', q1, q2, .inl q3, q4⟩
  refine wpIn_fw (n := 2) (wpIn_rangeFunc_ownF (F := FW ⟨none, ds, bb, false⟩) (n := 2) rfl (by decide) hfun trivial (fun args w => run_callFunc hcal) (w0 := w) (encs := vals) (Kp := fun A B => ∀ b, F b → B.heap[b]? = A.heap[b]?) hseq
    (fun h k b hb => (k b hb).trans (h b hb)) (fun W l o o' hl _ _ _ b hb => World.putObj_heap_other (fun e => by have := hr.st.mem.lt b hb; omega)) (RowKit.Below.refl _ _) hvl I Ix ?_ ?_ ⟨ν, F, m, n, Ext.refl _ _ _, hr.st, h0⟩
    (fun x => ({ tmps := (ps.zip (vals x)).foldl (fun t (p, v) => t.setIfInBounds p v) a.tmps, defers := [] } : Act).put (some t) (((ps.zip (vals x)).foldl (fun t (p, v) => t.setIfInBounds p v) a.tmps).getD p undef)) ?_ ?_ ?_ ?_)
  · rintro s W W' row ⟨ν', F', m', n', he, hs, hi⟩ hgr hrow
    have ht := hturn hgr hrow he.size
    exact ⟨ν', F', m', n', ht.ext hr.st he, ht.st hr.st he hs, hi⟩
  · rintro c s W W' row ⟨ν', F', m', n', he, hs, hi⟩ hgr hrow
    have ht := hturn hgr hrow he.size
    exact ⟨ν', F', m', n', ht.ext hr.st he, ht.st hr.st he hs, hi⟩
  · intro l x W K hK
    exact assign_one hK fun _ => trivial
  · rintro l pre x W ⟨ν', F', m', n', he, hs, hi⟩ hlen
    have hb := hbody pre x m' n' hi hlen ⟨some l, [], W.heap.size, false⟩ (.inr hnr)
    let G : Nat → Prop := fun b => ∃ o : Go.Obj, W.heap[b]? = some o ∧ o.isCells = false
    have hs2 := st_more (G := G) hs fun b hb => hb
    have he2 := he.trans (ext_more (G := G) (w := W) (ν := ν') (F := F'))
    have hz : (ps.zip (vals x)).foldl (fun t (p, v) => t.setIfInBounds p v) a.tmps = (ps.toList.zip (vals x).toList).foldl (fun t (p, v) => t.setIfInBounds p v) a.tmps := by
      rw [← Array.foldl_toList, Array.toList_zip]
    obtain ⟨z1, z2⟩ := con_rf ps.toList (el x) (vals x).toList a.tmps σ (w := W) (ν := ν') (F := fun b => F' b ∨ G b) (ConVs.mono he2 _ _ (hv1 x)) (by simpa using hps x) (fun q hq => by rw [hr.size]; exact hpl q hq) (fun i => Con.mono he2 _ _ (hr.con i))
    rw [← hz] at z1 z2
    have hrel : ARel N ⟨some l, [], W.heap.size, false⟩ W ν' (fun b => F' b ∨ G b) ({ tmps := (ps.zip (vals x)).foldl (fun t (p, v) => t.setIfInBounds p v) a.tmps, defers := [] } : Act) (rfσ σ ps.toList (el x)) m' n' :=
      ⟨z1.trans hr.size, ⟨[], rfl, List.nodup_nil, by simp, fun _ => rfl⟩, Nat.le_refl _, z2, hs2⟩
    have hrel2 := hrel.put (dst := some t) (Ext.refl _ _ _) hs2 (z2 p) (fun t' e => by cases e; exact ht)
    refine wpIn_fw (n := 1) (wpIn_mono (hb W ν' _ _ hrel2) ?_)
    rintro e a' W' ⟨ν2, F2, σ2, m2, n2, g1, g2, g3⟩
    have hko : KeepsOthers W W' := ⟨g1.size, fun k o hk ho => by rw [(g1.fz k (.inr ⟨o, hk, ho⟩)).2]; exact hk⟩
    have hkp : ∀ b, F b → W'.heap[b]? = W.heap[b]? := fun b hb => (g1.fz b (.inl (he.fz b hb).1)).2
    have hx := he2.trans g1
    cases e with
    | normal => exact ⟨hko, hkp, ν2, F2, m2, n2, hx, g2.st, g3⟩
    | ret => exact ⟨hko, ν2, F2, m2, n2, hx, g2.st, g3⟩
    | exit id => exact ⟨hko, ν2, F2, m2, n2, hx, g2.st, g3⟩
    | _ => exact g3.elim
  · rintro D xs W hD rfl ⟨ν', F', m', n', he, hs, hi⟩ hd
    exact hmark D W ν' F' m' n' .normal hD he hs hd (hdone m' n' hi)
  · rintro D c pre W hD hsp ⟨ν', F', m', n', he, hs, hi⟩ hd
    have hq := hi hsp
    cases c with
    | ret => exact wpIn_ret (hmark D W ν' F' m' n' .ret hD he hs hd hq)
    | exit id => exact wpIn_exit (hmark D W ν' F' m' n' (.exit id) hD he hs hd hq)
    | _ => exact hq.elim
/-- A range over a function, reckoned. -/
theorem vrange_of {G : List Nat} {g : Operand} {ps : Array Tmp} {id : Nat} {t p : Tmp} {ty : TypeId} {pos : String} {after : Array Edge} {body : Code} {gf : FuncId} {cs : List D} {L : Nat} {el : Fin L → List D}
    (hg : ev σ g = .func (.func gf) [] cs) (hit : ItSeq P gf cs L el) (hps : ∀ i, (el i).length = ps.size) (hpl : ∀ q ∈ ps.toList, q < N) (ht : t < N) (hnr : noRange body = true)
    (Inv : List (Fin L) → Mem → Nat → Prop) (h0 : Inv [] m n)
    (hbody : ∀ pre x m n, Inv pre m n → pre.length < L → vc P N G body (RfQ Inv (pre ++ [x]) σ Q) tg (upd (rfσ σ ps.toList (el x)) t (rfσ σ ps.toList (el x) p)) m n)
    (hdone : ∀ m n, Inv (List.finRange L) m n → Q .normal σ m n)
    {u : Tg (Code.region id #[⟨some t, .assign (.tmp p), ty, pos, after, none⟩] false) body Q} :
    vrange P N G g ps (.region id #[⟨some t, .assign (.tmp p), ty, pos, after, none⟩] false) body Q u σ m n :=
  awp_rangeFunc hg hit hps hpl ht hnr Inv h0 (fun pre x m n hi hl => vc_sound _ _ _ _ _ _ (hbody pre x m n hi hl)) hdone
end
/-! A function value, handed on. -/
theorem Le_func {fn : Fn} {fs fs' cs cs' : List D} (h : LeL fs fs') (h' : LeL cs cs') : Le (.func fn fs cs) (.func fn fs' cs') := by
  intro w ν F y hh; simp only [Con] at hh ⊢; obtain ⟨ys, zs, h1, h2, h3⟩ := hh; exact ⟨ys, zs, h1, h.vs _ _ _ _ h2, h'.vs _ _ _ _ h3⟩
theorem PubAs.func {n : Nat} {m : Mem} {fn : Fn} {l l' : List D} (h : PubL n m l l') : PubAs n m (.func fn [] l) (.func fn [] l') := fun β => by
  obtain ⟨fu, hf⟩ := h.get β
  refine ⟨fu + 1, fun f hle => ?_⟩
  obtain ⟨f', rfl⟩ : ∃ f', f = f' + 1 := ⟨f - 1, by omega⟩
  simp only [rs, below, List.map_nil, belowL, Bool.true_and]
  exact ⟨Le_func .nil (hf f' (by omega)).1, (hf f' (by omega)).2⟩
@[simp] theorem rfQ_normal {L : Nat} (Inv : List (Fin L) → Mem → Nat → Prop) (xs : List (Fin L)) (σ' σ : Nat → D) (Q : APost) (m : Mem) (n : Nat) : RfQ Inv xs σ Q .normal σ' m n = Inv xs m n := (rfl)
@[simp] theorem rfQ_ret {L : Nat} (Inv : List (Fin L) → Mem → Nat → Prop) (xs : List (Fin L)) (σ' σ : Nat → D) (Q : APost) (m : Mem) (n : Nat) : RfQ Inv xs σ Q .ret σ' m n = ((∃ j, xs = (List.finRange L).take j) → Q .ret σ m n) := (rfl)
@[simp] theorem rfQ_exit {L : Nat} (Inv : List (Fin L) → Mem → Nat → Prop) (xs : List (Fin L)) (σ' σ : Nat → D) (Q : APost) (m : Mem) (n : Nat) (id : Nat) : RfQ Inv xs σ Q (.exit id) σ' m n = ((∃ j, xs = (List.finRange L).take j) → Q (.exit id) σ m n) := (rfl)
end Go.Proofs.Mv.V
