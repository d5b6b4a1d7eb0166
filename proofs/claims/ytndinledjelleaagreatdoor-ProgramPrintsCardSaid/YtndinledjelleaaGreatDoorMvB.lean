/- A part of the proofs: machine, contracts, laws. No condition of its own. -/
import Derived.Test.YtndinledjelleaaGreatDoorMvA
import Derived.Laws.Append
import Derived.OrdersIn
import Derived.TacticsIn
import Derived.RangeFuncLeaves
import Derived.RangeFuncRecord
set_option linter.unusedSimpArgs false
set_option linter.unusedVariables false
set_option linter.unusedSectionVars false
namespace Go.Proofs.Mv.V
variable [GI]

def tezero (P : Program) (t : TypeId) : Option (List Value) :=
 match P.underlying t with
 | some (.slice e) => tzero P e
 | _ => none

def fillE (z : Nat) (es : List (List D)) : List (Nat × D) → Option (List (List D))
 | [] => some es
 | (i, d) :: rest => if okD d && (cellsOf d).length == z && decide (i < es.length) then fillE z (es.set i (cellsOf d)) rest else none

def elemsOf (m : Mem) (z : Nat) : D → Option (Prop × List (List D))
 | .sl z' es => if z' = z then some (True, es) else none
 | .own k g o n z' => match m k with
  | some ob => if z' = z then some (ob.g = g ∧ o + n ≤ ob.es.length, (ob.es.drop o).take n) else none
  | none => none
 | .v (.slice none 0 0) => some (True, [])
 | .mt => some (True, [])
 | .v (.string s) => if z = 1 then some (True, s.data.toList.map bEnc) else none
 | _ => none

def Callable (P : Program) (f : FuncId) : Prop := ∃ fn, P.funcs[f]? = some fn ∧ (fn.name == "runtime.NumGoroutine") = false ∧ fn.body.isNone = false

def ResR (w : World) (ν : Nu) (F : Nat → Prop) (K : D → Mem → Nat → Prop) (v : Value) (w' : World) : Prop :=
 ∃ ν' F' d m' n', Ext w ν F w' ν' F' ∧ St w' ν' F' m' n' ∧ Con w' ν' F' d v ∧ K d m' n'

def ACalls (P : Program) (f : FuncId) (args : List D) (m : Mem) (n : Nat) (R : D → Mem → Nat → Prop) : Prop :=
 Callable P f ∧ ∀ (w : World) (ν : Nu) (F : Nat → Prop) (vals : Array Value), St w ν F m n → ConVs w ν F args vals.toList →
  Calls P f vals w fun e w' => ∃ v, e = .returned v ∧ ResR w ν F R v w'

def eop (P : Program) (σ : Nat → D) (m : Mem) (n : Nat) (op : Op) (K : D → Mem → Nat → Prop) : Prop :=
 match op with
 | .alloc t => match tzero P t with
  | some zs => K (.ptr n 0 0 0) (m.set n ⟨zs.length, [zs.map .v], 0⟩) (n + 1)
  | none => False
 | .box _ x => okD (ev σ x) = true ∧ K (.ptr n 0 0 0) (m.set n ⟨(cellsOf (ev σ x)).length, [cellsOf (ev σ x)], 0⟩) (n + 1)
 | .buildSlice t len ps => match telem P t, tezero P t with
  | some (z, _), some zs => match fillE z (List.replicate len (zs.map .v)) (ps.toList.map fun p => (p.1, ev σ p.2)) with
   | some es => len * z ≤ 16777216 ∧ K (.own n 0 0 len z) (m.set n ⟨z, es, 0⟩) (n + 1)
   | none => False
  | _, _ => False
 | .makeSlice t l c => match telem P t, tezero P t, ev σ l, ev σ c with
  | some (z, b), some zs, .v (.int _ l), .v (.int _ c) => 0 ≤ l ∧ l ≤ c ∧ c ≤ 70368744177664 ∧ b * c ≤ 70368744177664 ∧
   K (.own n 0 0 l.toNat z) (m.set n ⟨z, List.replicate l.toNat (zs.map .v), 0⟩) (n + 1)
  | _, _, _, _ => False
 | .store t a x => match tsz P t, ev σ a with
  | some z, .ptr k g i j => match m k with
   | some o => o.g = g ∧ i < o.es.length ∧ j + z ≤ (o.es.getD i []).length ∧ okD (ev σ x) = true ∧ (cellsOf (ev σ x)).length = z ∧
    K undefD (m.set k ⟨o.z, o.es.set i ((o.es.getD i []).take j ++ cellsOf (ev σ x) ++ (o.es.getD i []).drop (j + z)), o.g⟩) n
   | none => False
  | _, _ => False
 | .convert src dst x => match ev σ x with
  | .own k g o len z => match m k with
   | some ob => src = dst ∧ tbyte P src = true ∧ ob.g = g ∧ K (.own k g o len z) m n
   | none => False
  | .v (.string s) => tcode P src = 3 ∧ tbyte P dst = true ∧ K (.own n 0 0 s.size 1) (m.set n ⟨1, s.data.toList.map bEnc, 0⟩) (n + 1)
  | _ => False
 | .call c => match c.callee, c.args.toList, c.argTypes.toList with
  | .builtin .append, [s, x], [t, t'] => match tint P t' with
   | some _ => match telem P t, tezero P t, ev σ s, ev σ x with
    | some (z, b), some zs, .v (.slice none 0 0), .v (.int .i64 l) => 0 < l ∧ 1 ≤ b ∧ l * b ≤ 70368744177664 ∧ K (.own n 0 0 l.toNat z) (m.set n ⟨z, List.replicate l.toNat (zs.map .v), 0⟩) (n + 1)
    | _, _, _, _ => False
   | none => match telem P t, elemsOf m ((telem P t).map (·.1) |>.getD 0) (ev σ x) with
   | some (z, b), some (O, xs) => match ev σ s with
    | .own k g o len z' => match m k with
     | some ob => tint P t' = none ∧ tcode P t' ≠ 0 ∧ O ∧ z' = z ∧ o = 0 ∧ ob.g = g ∧ len ≤ ob.es.length ∧ 1 ≤ b ∧ (len + xs.length) * b ≤ 140737488355328 ∧
      K (.own k (g + 1) 0 (len + xs.length) z) (m.set k ⟨z, ob.es.take len ++ xs, g + 1⟩) n
     | none => False
    | .v (.slice none 0 0) => tint P t' = none ∧ tcode P t' ≠ 0 ∧ O ∧ 1 ≤ b ∧ xs.length * b ≤ 140737488355328 ∧ (xs = [] → K (.v (.slice none 0 0)) m n) ∧
      (xs ≠ [] → K (.own n 0 0 xs.length z) (m.set n ⟨z, xs, 0⟩) (n + 1))
    | .mt => tint P t' = none ∧ tcode P t' ≠ 0 ∧ O ∧ 1 ≤ b ∧ xs.length * b ≤ 140737488355328 ∧ (xs = [] → K .mt m n) ∧
      (xs ≠ [] → K (.own n 0 0 xs.length z) (m.set n ⟨z, xs, 0⟩) (n + 1))
    | _ => False
   | _, _ => False
  | .builtin .clear, [x], [t] => match telem P t, tezero P t, ev σ x with
   | some (z, _), some zs, .own k g o len z' => match m k with
    | some ob => z' = z ∧ ob.g = g ∧ o + len ≤ ob.es.length ∧ K undefD (m.set k ⟨ob.z, ob.es.take o ++ List.replicate len (zs.map .v) ++ ob.es.drop (o + len), ob.g⟩) n
    | none => False
   | _, _, _ => False
  | .value f, args, _ => match ev σ f with
   | .func (.func id) fs cs => ACalls P id (fs ++ args.map (ev σ) ++ cs) m n K
   | _ => False
  | _, _, _ => False
 | _ => False

def Does (P : Program) (o : Oper) (a : Act) (w : World) (R : Value → World → Prop) : Prop :=
 (∃ v w', (execOp a.eval o).run P w = .ok (.value v) w' ∧ R v w') ∨
 (∃ w', (execOp a.eval o).run P w = .ok .skip w' ∧ R undef w') ∨
 (∃ f args w', (execOp a.eval o).run P w = .ok (.enter f args) w' ∧ Calls P f args w' fun e w'' => ∃ v, e = .returned v ∧ R v w'')

section
variable {P : Program} {w w' : World} {ν : Nu} {F : Nat → Prop} {m : Mem} {n : Nat}

theorem run_newRow (e : TypeId) (cells : Array Value) (w : World) : (newRow e cells).run P w = .ok ⟨w.heap.size, 0, none⟩ { w with heap := w.heap.push (.cells cells e) } := by
 simp [newRow, newObj, Sem.run_bind, Sem.run, Result.andThen, pure]

theorem St.alloc0 {o' : Obj} {arr : Array Value} {e : TypeId} {ys rest : List Value} (h : St w ν F m n)
  (hw : w'.heap = w.heap.push (.cells arr e)) (harr : arr.toList = ys ++ rest)
  (hl : ∀ x ∈ o'.es, x.length = o'.z) (hc : ConVs w ν F o'.es.flatten ys) (h1 : ∀ x ∈ ys, oneC x = true) (hio : w'.os = w.os ∧ w'.output = w.output) :
  ∃ ν', ν' = (fun j => if j = n then some (⟨w.heap.size, o'.g, o'.z⟩ : Loc) else ν j) ∧ Ext w ν F w' ν' F ∧ St w' ν' F (m.set n o') (n + 1) :=
 St.alloc h hw (.inl rfl) harr hl hc h1 hio

theorem con_ptr_new {ν' : Nu} {b g z : Nat} (h : ν' n = some ⟨b, g, z⟩) : Con w ν' F (.ptr n g 0 0) (.pointer (some ⟨b, 0, none⟩)) := by
 simp only [Con]
 exact ⟨⟨b, g, z⟩, b, 0, h, Nat.le_refl _, rfl, fun _ => ⟨rfl, by simp⟩⟩

theorem con_own_new {ν' : Nu} {b g z len c : Nat} {arr : Array Value} {e : TypeId} {f : Nat × Nat} (h : ν' n = some ⟨b, g, z⟩) (hlc : len ≤ c) (hb : w.heap[b]? = some (.cells arr e f)) (hs : c * z ≤ arr.size) :
  Con w ν' F (.own n g 0 len z) (.slice (some ⟨b, 0, none⟩) len c) := by
 simp only [Con]
 exact ⟨⟨b, g, z⟩, b, 0, c, h, Nat.le_refl _, rfl, rfl, hlc, fun _ => ⟨rfl, .inl (by simp), arr, e, f, hb, by omega⟩⟩

theorem does_var {o : Oper} {a : Act} {K : D → Mem → Nat → Prop} {e : TypeId} {v : Value} {cs : List D} (h : St w ν F m n)
  (hr : (execOp a.eval o).run P w = (do pure (Next.value (.pointer (some (← newVar e v)))) : Sem Next).run P w)
  (hc : ConVs w ν F cs v.cells.toList) (h1 : ∀ x ∈ v.cells.toList, oneC x = true) (hK : K (.ptr n 0 0 0) (m.set n ⟨cs.length, [cs], 0⟩) (n + 1)) :
  Does P o a w (ResR w ν F K) := by
 obtain ⟨ν', hν, hext, hst⟩ := St.alloc0 (w' := { w with heap := w.heap.push (.cells v.cells e) }) (o' := ⟨cs.length, [cs], 0⟩) (ys := v.cells.toList) (rest := []) h rfl (by simp) (by simp) (by simpa using hc) h1 ⟨rfl, rfl⟩
 refine .inl ⟨.pointer (some ⟨w.heap.size, 0, none⟩), { w with heap := w.heap.push (.cells v.cells e) }, ?_, ?_⟩
 ·rw [hr]; simp only [newVar, Sem.run_bind, run_newRow, Result.andThen, Sem.run_pure]
 ·exact ⟨ν', F, _, _, _, hext, hst, con_ptr_new (z := cs.length) (by rw [hν]; simp), hK⟩

theorem does_slice {o : Oper} {a : Act} {K : D → Mem → Nat → Prop} {e : TypeId} {arr : Array Value} {len c z : Nat} {es : List (List D)} {ys rest : List Value} (h : St w ν F m n)
  (hr : (execOp a.eval o).run P w = (do pure (Next.value (.slice (some (← newRow e arr)) len c)) : Sem Next).run P w)
  (hlc : len ≤ c) (hs : c * z ≤ arr.size) (harr : arr.toList = ys ++ rest) (hl : ∀ x ∈ es, x.length = z)
  (hc : ConVs w ν F es.flatten ys) (h1 : ∀ x ∈ ys, oneC x = true) (hK : K (.own n 0 0 len z) (m.set n ⟨z, es, 0⟩) (n + 1)) :
  Does P o a w (ResR w ν F K) := by
 obtain ⟨ν', hν, hext, hst⟩ := St.alloc0 (w' := { w with heap := w.heap.push (.cells arr e) }) (o' := ⟨z, es, 0⟩) (ys := ys) (rest := rest) h rfl harr hl hc h1 ⟨rfl, rfl⟩
 refine .inl ⟨.slice (some ⟨w.heap.size, 0, none⟩) len c, { w with heap := w.heap.push (.cells arr e) }, ?_, ?_⟩
 ·rw [hr]; simp only [Sem.run_bind, run_newRow, Result.andThen, Sem.run_pure]
 ·exact ⟨ν', F, _, _, _, hext, hst, con_own_new (arr := arr) (e := e) (f := (0, 0)) (by rw [hν]; simp) hlc (by simp) hs, hK⟩
end
end Go.Proofs.Mv.V
namespace Go.Proofs.Mv.V
variable [GI]

section
variable {P : Program} {w w' : World} {ν : Nu} {F : Nat → Prop} {m : Mem} {n : Nat}

theorem tezero_some {t : TypeId} {zs : List Value} (h : tezero P t = some zs) : ∃ e v, P.underlying t = some (.slice e) ∧ (zeroValue e).run P w = .ok v w ∧ v.cells.toList = zs ∧ ∀ x ∈ zs, oneC x = true := by
 unfold tezero at h
 split at h
 ·rename_i e hu
  obtain ⟨v, h1, h2, h3⟩ := tzero_some (w := w) h
  exact ⟨e, v, hu, h1, h2, h3⟩
 ·simp at h

theorem tezero_len {t : TypeId} {zs : List Value} {z b : Nat} (h : tezero P t = some zs) (ht : telem P t = some (z, b)) : zs.length = z := by
 unfold tezero at h
 obtain ⟨e, i, v, hu, hi, hz, _, _, hv, hvz, _⟩ := telem_some ht
 simp only [hu] at h
 unfold tzero at h
 simp only [hi, hv] at h
 split at h
 ·simp at h; subst h; simpa using hvz
 ·simp at h

theorem telem_bytes {t : TypeId} {z b : Nat} (ht : telem P t = some (z, b)) : ∃ e i, P.underlying t = some (.slice e) ∧ (typeInfo e).run P w = .ok i w ∧ i.bytes = b ∧ i.size = z := by
 obtain ⟨e, i, v, hu, hi, hz, hb, _⟩ := telem_some ht
 exact ⟨e, i, hu, by simp [typeInfo, program, Sem.run_bind, Sem.run, Result.andThen, hi, pure], hb, hz⟩

theorem flatten_replicate_v (zs : List Value) : ∀ len, ConVs w ν F (List.replicate len (zs.map .v)).flatten (List.replicate len zs).flatten := by
 intro len
 induction len with
 | zero => simp [ConVs]
 | succ k ih => simp only [List.replicate_succ, List.flatten_cons]; exact conVs_append (conVs_v zs) ih

theorem zeros_eq (zero : Array Value) (hz : 0 < zero.size) : ∀ k, ((Array.range (k * zero.size)).map fun i => zero[i % zero.size]!).toList = (List.replicate k zero.toList).flatten := by
 intro k
 apply List.ext_getElem
 ·simp
 ·intro i h1 h2
  simp only [Array.toList_map, Array.toList_range, List.getElem_map, List.getElem_range]
  have hi : i % zero.size < zero.size := Nat.mod_lt _ hz
  have key : ∀ k i (h : i < (List.replicate k zero.toList).flatten.length), (List.replicate k zero.toList).flatten[i] = zero[i % zero.size]! := by
   intro k
   induction k with
   | zero => intro i h; simp at h
   | succ k ih =>
    intro i h
    have hlen : (List.replicate (k + 1) zero.toList).flatten = zero.toList ++ (List.replicate k zero.toList).flatten := by simp [List.replicate_succ]
    simp only [hlen]
    by_cases hlt : i < zero.size
    ·rw [List.getElem_append_left (by simpa using hlt)]
     simp [Nat.mod_eq_of_lt hlt, hlt]
    ·rw [List.getElem_append_right (by simpa using hlt)]
     rw [ih]
     have : (i - zero.toList.length) % zero.size = i % zero.size := by
      simp only [Array.length_toList]
      rw [Nat.mod_eq_sub_mod (by omega : i ≥ zero.size)]
     rw [this]
  exact (key k i h2).symm

theorem fillE_len {z : Nat} : ∀ (ps : List (Nat × D)) (es out : List (List D)), fillE z es ps = some out → (∀ x ∈ es, x.length = z) → (∀ x ∈ out, x.length = z) ∧ out.length = es.length := by
 intro ps
 induction ps with
 | nil => intro es out h hl; simp [fillE] at h; subst h; exact ⟨hl, rfl⟩
 | cons p ps ih =>
  intro es out h hl
  obtain ⟨i, d⟩ := p
  simp only [fillE] at h
  split at h
  ·rename_i hc
   simp only [Bool.and_eq_true, beq_iff_eq, decide_eq_true_eq] at hc
   have := ih _ _ h (by
    intro x hx
    rcases List.mem_or_eq_of_mem_set hx with hx | hx
    ·exact hl x hx
    ·rw [hx]; exact hc.1.2)
   simpa using this
  ·simp at h

theorem flatten_set {z : Nat} : ∀ (es : List (List D)) (i : Nat) (c : List D), (∀ x ∈ es, x.length = z) → i < es.length → c.length = z →
  (es.set i c).flatten = es.flatten.take (i * z) ++ c ++ es.flatten.drop (i * z + z) := by
 intro es
 induction es with
 | nil => intro i c _ h; simp at h
 | cons e es ih =>
  intro i c hl hi hc
  have he := hl e (by simp)
  cases i with
  | zero => simp [List.set_cons_zero, ← he, List.drop_append, List.drop_eq_nil_of_le]
  | succ i =>
   simp only [List.set_cons_succ, List.flatten_cons]
   rw [ih i c (fun x hx => hl x (by simp [hx])) (by simpa using hi) hc]
   have e1 : (i + 1) * z = e.length + i * z := by rw [he, Nat.add_mul]; omega
   rw [e1]
   have e2 : e.length + i * z + z = e.length + (i * z + z) := by omega
   rw [e2, List.take_length_add_append, List.drop_length_add_append]
   simp

theorem fillE_fillD {z : Nat} : ∀ (ps : List (Nat × D)) (es out : List (List D)), fillE z es ps = some out → (∀ x ∈ es, x.length = z) →
  fillD (fun i => some (i * z, z)) es.flatten ps = some out.flatten := by
 intro ps
 induction ps with
 | nil => intro es out h hl; simp [fillE] at h; subst h; simp [fillD]
 | cons p ps ih =>
  intro es out h hl
  obtain ⟨i, d⟩ := p
  simp only [fillE] at h
  split at h
  ·rename_i hc
   simp only [Bool.and_eq_true, beq_iff_eq, decide_eq_true_eq] at hc
   obtain ⟨⟨hok, hlen⟩, hi⟩ := hc
   have hl' : ∀ x ∈ es.set i (cellsOf d), x.length = z := by
    intro x hx
    rcases List.mem_or_eq_of_mem_set hx with hx | hx
    ·exact hl x hx
    ·rw [hx]; exact hlen
   have hrec := ih _ _ h hl'
   rw [flatten_set es i _ hl hi hlen] at hrec
   simp only [fillD]
   have htot : ∀ l : List (List D), (∀ x ∈ l, x.length = z) → l.flatten.length = l.length * z := by
    intro l
    induction l with
    | nil => simp
    | cons a l ihl => intro hh; simp only [List.flatten_cons, List.length_append, List.length_cons, ihl (fun x hx => hh x (by simp [hx])), hh a (by simp), Nat.add_mul]; omega
   have hfit : i * z + z ≤ es.flatten.length := by
    rw [htot es hl, ← Nat.succ_mul]; exact Nat.mul_le_mul_right _ hi
   rw [if_neg (by
    intro hcc
    simp only [Bool.or_eq_true, Bool.not_eq_true', decide_eq_true_eq, hok, hlen, ne_eq, not_true_eq_false, or_false, Bool.true_eq_false, false_or, reduceCtorEq] at hcc
    omega), hlen]
   exact hrec
  ·simp at h

theorem run_elems {z : Nat} {d : D} {O : Prop} {xs : List (List D)} {v : Value} (hst : St w ν F m n) (h : elemsOf m z d = some (O, xs)) (hO : O) (hv : Con w ν F d v) :
  (Builtin.lenOf v).run P w = .ok xs.length w ∧ ∃ ys, (∀ w1 : World, w1.heap = w.heap → (Builtin.firstCells z xs.length v).run P w1 = .ok ys w1) ∧ ConVs w ν F xs.flatten ys.toList ∧ (∀ x ∈ ys.toList, oneC x = true) ∧ (∀ x ∈ xs, x.length = z) := by
 unfold elemsOf at h
 split at h
 ·rename_i z' es
  split at h
  ·rename_i hz; subst hz
   simp only [Option.some.injEq, Prod.mk.injEq] at h; obtain ⟨rfl, rfl⟩ := h
   simp only [Con] at hv; rcases hv with ⟨b, o, c, rfl, hn, hF, hes⟩ | ⟨rfl, ad, rfl⟩
   rotate_left
   ·exact ⟨rfl, #[], fun w1 _ => by cases ad <;> simp [Builtin.firstCells, loadCells, loadCellsFrom, Sem.run_pure], by simp [ConVs], by simp, by simp⟩
   obtain ⟨ys, h1, h2, h3, h4⟩ := conEs_vals hes
   refine ⟨rfl, ys.toArray, ?_, by simpa using h1, by simpa using h3, conEs_len hes⟩
   intro w1 hw1
   exact run_loadCells h2 (fun j y hy => by rw [cell?_of_heap (w := w) (by rw [hw1])]; exact h4 j y hy)
  ·simp at h
 ·rename_i k g o n' z'
  split at h
  ·rename_i ob hm
   split at h
   ·rename_i hz; subst hz
    simp only [Option.some.injEq, Prod.mk.injEq] at h; obtain ⟨rfl, rfl⟩ := h
    obtain ⟨hg, hle⟩ := hO
    simp only [Con] at hv; obtain ⟨l, b, off, c, hl, hg', hz2, rfl, hn, hlive⟩ := hv
    obtain ⟨l', arr, e, f, h1, h2, h3, h4, h5, h6, h7⟩ := hst.mem.at_ k ob hm
    rw [hl] at h1; obtain rfl := Option.some.inj h1
    obtain ⟨rfl, ho, _⟩ := hlive (by omega)
    have hlen : ((ob.es.drop o).take n').length = n' := by simp; omega
    rw [hlen]
    rw [← hz2, ← h3] at *
    refine ⟨by simp [Builtin.lenOf, Sem.run_pure], ?_⟩
    rcases ho with rfl | hc0
    ·have hh := conEs_take (conEs_drop h7 o) n'
     rw [h3] at hh
     simp only [Nat.zero_add] at hh
     obtain ⟨ys, q1, q2, q3, q4⟩ := conEs_vals hh
     rw [hlen] at q2
     refine ⟨ys.toArray, ?_, by simpa using q1, by simpa using q3, conEs_len hh⟩
     rw [h3] at q4
     intro w1 hw1
     exact run_loadCells q2 (fun j y hy => by rw [cell?_of_heap (w := w) (by rw [hw1])]; simpa [h3] using q4 j y hy)
    ·have : n' = 0 := by omega
     subst this
     exact ⟨#[], fun w1 _ => by simp [Builtin.firstCells, loadCells, loadCellsFrom, Sem.run_pure], by simp [ConVs], by simp, by simp⟩
   ·simp at h
  ·simp at h
 ·simp only [Option.some.injEq, Prod.mk.injEq] at h; obtain ⟨rfl, rfl⟩ := h
  simp only [Con] at hv; subst hv
  exact ⟨rfl, #[], fun _ _ => rfl, by simp [ConVs], by simp, by simp⟩
 ·simp only [Option.some.injEq, Prod.mk.injEq] at h; obtain ⟨rfl, rfl⟩ := h
  simp only [Con] at hv; obtain ⟨a, rfl⟩ := hv
  exact ⟨rfl, #[], fun w1 _ => by cases a <;> simp [Builtin.firstCells, loadCells, loadCellsFrom, Sem.run_pure], by simp [ConVs], by simp, by simp⟩
 ·rename_i s
  split at h
  ·rename_i hz; subst hz
   simp only [Option.some.injEq, Prod.mk.injEq] at h; obtain ⟨rfl, rfl⟩ := h
   simp only [Con] at hv; subst hv
   refine ⟨by simp [Builtin.lenOf, Sem.run_pure], (s.data.map fun b => Value.int .u8 b.toNat), ?_, ?_, ?_, ?_⟩
   ·intro w1 _
    simp only [Builtin.firstCells, List.length_map, Array.length_toList, Sem.run_pure]
    congr 2
    have : s.extract 0 s.data.size = s := by
     have : s.data.size = s.size := rfl
     rw [this, ByteArray.extract_zero_size]
    rw [this]
   ·have : ∀ l : List UInt8, ConVs w ν F (l.map bEnc).flatten (l.map fun b => Value.int .u8 b.toNat) := by
     intro l
     induction l with
     | nil => simp [ConVs]
     | cons x r ih => simp only [List.map_cons, List.flatten_cons, bEnc, List.cons_append, List.nil_append, ConVs]; exact ⟨_, _, rfl, by simp [Con], ih⟩
    simpa using this s.data.toList
   ·intro x hx
    simp only [Array.toList_map, List.mem_map] at hx
    obtain ⟨b, _, rfl⟩ := hx; rfl
   ·intro x hx
    simp only [List.mem_map] at hx
    obtain ⟨b, _, rfl⟩ := hx; rfl
  ·simp at h
 ·simp at h
end
end Go.Proofs.Mv.V
namespace Go.Proofs.Mv.V
variable [GI]

section
variable {P : Program} {w w' : World} {ν : Nu} {F : Nat → Prop} {m : Mem} {n : Nat}

theorem notInt {t' : TypeId} (h1 : tint P t' = none) (h2 : tcode P t' ≠ 0) : ∃ d, P.underlying t' = some d ∧ ∀ k, d ≠ .int k := by
 obtain ⟨d, hd⟩ := tcode_ne0 h2
 refine ⟨d, hd, ?_⟩
 unfold tint at h1
 rw [hd] at h1
 cases d <;> simp_all

theorem run_append_fit {t t' ty : TypeId} {z b : Nat} {base : Addr} {len cap k : Nat} {x : Value} {new : Array Value} (ht : telem P t = some (z, b)) (h1 : tint P t' = none) (h2 : tcode P t' ≠ 0)
  (hk : (Builtin.lenOf x).run P w = .ok k w) (hnew : (Builtin.firstCells z k x).run P w = .ok new w) (hfit : len + k ≤ cap)
  (hst : (storeCells (base.add (len * z)) new.toList).run P w = .ok () w') :
  (Builtin.append_ #[t, t'] ty #[.slice (some base) len cap, x]).run P w = .ok (.slice (some base) (len + k) cap) w' := by
 obtain ⟨e, hu, hz, _⟩ := tcode_slice ht
 obtain ⟨d, hd, hdi⟩ := notInt h1 h2
 unfold Builtin.append_
 cases d with
 | int k => exact absurd rfl (hdi k)
 | _ => simp [Sem.run_bind, run_underlying' hu, run_underlying' hd, Result.andThen, run_sizeOf' hz, Sem.run_pure, hk, hfit, hnew, hst]

theorem run_append_grow {t t' ty : TypeId} {z b : Nat} {base : Option Addr} {len cap k : Nat} {x : Value} {old new : Array Value} (ht : telem P t = some (z, b)) (h1 : tint P t' = none) (h2 : tcode P t' ≠ 0)
  (hk : (Builtin.lenOf x).run P w = .ok k w) (hgrow : cap < len + k) (hb1 : 1 ≤ b) (hroom : (len + k) * b ≤ 140737488355328)
  (hold : ∀ w1, w1.heap = w.heap → (Builtin.firstCells z len (.slice base len cap)).run P w1 = .ok old w1)
  (hnew : ∀ w1, w1.heap = w.heap → (Builtin.firstCells z k x).run P w1 = .ok new w1) :
  ∃ w' e c rest, (Builtin.append_ #[t, t'] ty #[.slice base len cap, x]).run P w = .ok (.slice (some ⟨w.heap.size, 0, none⟩) (len + k) c) w' ∧
   w'.heap = w.heap.push (.cells (old ++ new ++ rest) e) ∧ len + k ≤ c ∧ rest.size = (c - (len + k)) * z ∧ w'.os = w.os ∧ w'.output = w.output := by
 obtain ⟨e, i, v, hu, hi, hz, hbb, hz1, hv, hvz, _⟩ := telem_some ht
 have hsz : tsz P e = some z := by simp [tsz, hi, hz]
 obtain ⟨d, hd, hdi⟩ := notInt h1 h2
 have hti : ∀ w1 : World, (typeInfo e).run P w1 = .ok i w1 := fun w1 => by simp [typeInfo, program, Sem.run_bind, Sem.run, Result.andThen, hi, pure]
 have hzv : ∀ w1 : World, (zeroValue e).run P w1 = .ok v w1 := fun w1 => by simp [zeroValue, Sem.run_bind, hti, Result.andThen, hv, Sem.run_pure]
 have hr : ¬ (Builtin.nextslicecap (len + k) cap * b > 2 ^ 48) := by have := growslice_fits hgrow hroom; omega
 have hnf : ¬ len + k ≤ cap := by omega
 let q := Question.appendCap (len + k) cap e
 let c := q.cut (w.tape w.drawn q)
 have hc : len + k ≤ c := by show len + k ≤ Question.cut (.appendCap (len + k) cap e) _; simp only [Question.cut]; omega
 have ho := hold w.drew rfl
 have hn := hnew w.drew rfl
 have hfo : (Question.appendCap (len + k) cap e).forced = false := rfl
 refine ⟨w.drew.alloc (.cells (old ++ (new ++ Builtin.zeroCells v.cells (c - (len + k)))) e), e, c, Builtin.zeroCells v.cells (c - (len + k)), ?_, by show w.heap.push _ = _; rw [Array.append_assoc], hc, ?_, rfl, rfl⟩
 ·unfold Builtin.append_
  have hne0 : b ≠ 0 := by omega
  cases d with
  | int k => exact absurd rfl (hdi k)
  | _ =>
   simp [Sem.run_bind, run_underlying' hu, run_underlying' hd, Result.andThen, run_sizeOf' hsz, Sem.run_pure, hk, hnf, hti, hbb, hne0]
   rw [if_neg (by simpa using hr)]
   simp [Sem.run_bind, Result.andThen, hti, hbb, ho, hn, hzv, Sem.run_pure, hfo, q, c]
   rw [run_newRow]
   rfl
 ·simp [Builtin.zeroCells, hvz]
set_option maxRecDepth 100000 in
theorem wrap_any {x : Int} (h : -9223372036854775808 ≤ x) (h' : x ≤ 9223372036854775807) : IntKind.i64.wrap x = x := by
 simp [IntKind.wrap, IntKind.signed, IntKind.bits, IntKind.max, IntKind.min]; omega
theorem wrap_nat {n : Nat} (h : n ≤ 9223372036854775807) : IntKind.i64.wrap (n : Int) = n := wrap_any (by omega) (by omega)
theorem i64_max : IntKind.i64.max = 9223372036854775807 := by
 rfl
theorem run_append_zeros {t t' ty : TypeId} {k : IntKind} {z b : Nat} {l : Int} (ht : telem P t = some (z, b)) (h1 : tint P t' = some k) (h0 : 0 < l) (hb1 : 1 ≤ b) (hroom : l * b ≤ 70368744177664) :
  ∃ w' e v c, (Builtin.append_ #[t, t'] ty #[.slice none 0 0, .int .i64 l]).run P w = .ok (.slice (some ⟨w.heap.size, 0, none⟩) l.toNat c) w' ∧
   P.underlying t = some (.slice e) ∧ (∀ w1 : World, (zeroValue e).run P w1 = .ok v w1) ∧ v.cells.size = z ∧
   w'.heap = w.heap.push (.cells (Builtin.zeroCells v.cells l.toNat ++ Builtin.zeroCells v.cells (c - l.toNat)) e) ∧ l.toNat ≤ c ∧ w'.os = w.os ∧ w'.output = w.output := by
 obtain ⟨e, i, v, hu, hi, hz, hbb, hz1, hv, hvz, _⟩ := telem_some ht
 have hsz : tsz P e = some z := by simp [tsz, hi, hz]
 have hd := tint_some h1
 have hti : ∀ w1 : World, (typeInfo e).run P w1 = .ok i w1 := fun w1 => by simp [typeInfo, program, Sem.run_bind, Sem.run, Result.andThen, hi, pure]
 have hzv : ∀ w1 : World, (zeroValue e).run P w1 = .ok v w1 := fun w1 => by simp [zeroValue, Sem.run_bind, hti, Result.andThen, hv, Sem.run_pure]
 obtain ⟨n, rfl⟩ : ∃ n : Nat, l = n := ⟨l.toNat, by omega⟩
 have hnb : n * b ≤ 70368744177664 := by
  have : ((n * b : Nat) : Int) = (n : Int) * b := by simp
  omega
 have hn : n ≤ 70368744177664 := Nat.le_trans (Nat.le_mul_of_pos_right n hb1) hnb
 have hgrow : 0 < 0 + n := by omega
 have hr : ¬ (Builtin.nextslicecap n 0 * b > 2 ^ 48) := by have := growslice_fits (bytes := b) hgrow (by rw [Nat.zero_add]; omega : (0 + n) * b ≤ 140737488355328); rw [Nat.zero_add] at this; omega
 have hnf : ¬ n ≤ 0 := by omega
 let q := Question.appendCap n 0 e
 let c := q.cut (w.tape w.drawn q)
 have hc : n ≤ c := by show n ≤ Question.cut (.appendCap n 0 e) _; simp only [Question.cut]; omega
 have hfo : (Question.appendCap n 0 e).forced = false := rfl
 have hw : IntKind.i64.wrap (n : Int) = n := wrap_nat (by omega)
 refine ⟨w.drew.alloc (.cells (Builtin.zeroCells v.cells n ++ Builtin.zeroCells v.cells (c - n)) e), e, v, c, ?_, hu, hzv, hvz, rfl, hc, rfl, rfl⟩
 have ha : ∀ w1 : World, (asInt (.int .i64 (n : Int))).run P w1 = .ok (n : Int) w1 := fun w1 => by simp [asInt, asIntOf, Sem.run_bind, Sem.run_pure, Result.andThen]
 unfold Builtin.append_
 have hne0 : b ≠ 0 := by omega
 have hz0 : z ≠ 0 := by omega
 have hnn : n ≠ 0 := by omega
 have hlb : ¬ ((n : Int) * (b : Int) > 2 ^ 48) := by omega
 have hmax : ¬ ((n : Int) > IntKind.i64.max) := by rw [i64_max]; omega
 simp [Sem.run_bind, run_underlying' hu, run_underlying' hd, Result.andThen, run_sizeOf' hsz, Sem.run_pure, ha, hw, hnf, hti, hbb, hne0, hmax]
 rw [if_neg (by omega)]
 simp [Sem.run_bind, Result.andThen, hti, hbb, hzv, Sem.run_pure, hfo, q, c, Builtin.firstCells, hnn, hz0, hnf, hne0]
 have hnz : ¬ n * z = 0 := by intro h; rcases Nat.mul_eq_zero.1 h with h | h <;> omega
 rw [if_neg (by omega), if_neg (by omega), if_neg (by simpa using hr), if_neg hnz]
 simp only []
 rw [run_newRow]
 rfl
end
end Go.Proofs.Mv.V
namespace Go.Proofs.Mv.V
variable [GI]

section
variable {P : Program} {w w' : World} {ν : Nu} {F : Nat → Prop} {m : Mem} {n : Nat}

theorem rop_sound {o : Oper} {a : Act} {σ : Nat → D} {O : Prop} {d : D} {k : Nat} (hst : St w ν F m n) (hσ : ∀ i, Con w ν F (σ i) (a.tmps.getD i undef))
  (h : rop P σ m o.op = some (O, d, k)) (hO : O) : ∃ y, (execOp a.eval o).run P w = .ok (.value y) w ∧ Con w ν F d y := by
 obtain ⟨dst, op, type, pos, after, guard⟩ := o
 cases op with
 | load t x =>
  simp only [execOp]
  simp only [rop] at h
  have hc := con_ev hσ x
  split at h
  ·rename_i b z k' g i j ha hz e
   split at h
   ·rename_i ob hm
    rw [e] at hc; simp only [Con] at hc
    obtain ⟨l, bb, oo, hl, hg, hy, hlive⟩ := hc
    obtain ⟨l', arr, el, f, h1, h2, h3, h4, h5, h6, h7⟩ := hst.mem.at_ k' ob hm
    rw [hl] at h1; obtain rfl := Option.some.inj h1
    cases b with
    | true =>
     simp only [if_true, Option.some.injEq, Prod.mk.injEq] at h; obtain ⟨rfl, rfl, rfl⟩ := h
     obtain ⟨hgg, hi, hj⟩ := hO
     obtain ⟨rfl, rfl⟩ := hlive (by omega)
     obtain ⟨_, hcs⟩ := conEs_get h7 i hi
     have hcs' := conCs_drop hcs j
     obtain ⟨y, hr, hv⟩ := run_loadVar (w := w) ha hz hcs' (by simp only [if_true, if_false, Bool.false_eq_true, List.length_drop]; omega)
     refine ⟨y, ?_, by simpa using hv⟩
     rw [hy]
     simp only [Nat.zero_add, ← h3] at hr
     simp only [Instr.loadAt, Instr.sureAddr, Sem.run_bind, Sem.run_pure, Result.andThen, hr]
    | false =>
     simp only [Bool.false_eq_true, if_false, Option.some.injEq, Prod.mk.injEq] at h; obtain ⟨rfl, rfl, rfl⟩ := h
     obtain ⟨hgg, hi, hj⟩ := hO
     obtain ⟨rfl, rfl⟩ := hlive (by omega)
     obtain ⟨_, hcs⟩ := conEs_get h7 i hi
     have hcs' := conCs_drop hcs j
     obtain ⟨y, hr, hv⟩ := run_loadVar (w := w) ha hz hcs' (by simp only [if_true, if_false, Bool.false_eq_true, List.length_drop]; omega)
     refine ⟨y, ?_, by simpa [List.getD_eq_getElem?_getD] using hv⟩
     rw [hy]
     simp only [Nat.zero_add, ← h3] at hr
     simp only [Instr.loadAt, Instr.sureAddr, Sem.run_bind, Sem.run_pure, Result.andThen, hr]
   ·simp at h
  ·simp at h
 | convert src dst x =>
  simp only [execOp]
  simp only [rop] at h
  have hc := con_ev hσ x
  split at h
  ·rename_i k' g o n' z e
   split at h
   ·rename_i ob hm
    split at h
    ·rename_i hk
     simp only [Option.some.injEq, Prod.mk.injEq] at h; obtain ⟨rfl, rfl, rfl⟩ := h
     obtain ⟨hgg, rfl, hle, hb⟩ := hO
     rw [e] at hc
     have hel : elemsOf m 1 (.own k' g o n' 1) = some (ob.g = g ∧ o + n' ≤ ob.es.length, (ob.es.drop o).take n') := by simp [elemsOf, hm]
     simp only [Con] at hc; obtain ⟨l, b, off, c, hl, hg', hz2, hy, hn, hlive⟩ := hc
     obtain ⟨l', arr, el, f, h1, h2, h3, h4, h5, h6, h7⟩ := hst.mem.at_ k' ob hm
     rw [hl] at h1; obtain rfl := Option.some.inj h1
     obtain ⟨rfl, ho, _⟩ := hlive (by omega)
     refine ⟨_, ?_, con_v _⟩
     have hlen : ((ob.es.drop o).take n').length = (unB ((ob.es.drop o).take n')).length := by
      have := congrArg List.length hb; simpa using this
     have hn' : n' = (unB ((ob.es.drop o).take n')).length := by rw [← hlen]; simp; omega
     rcases ho with rfl | hc0
     ·have hh := conEs_take (conEs_drop h7 o) n'
      rw [hb] at hh
      have hz1 : ob.z = 1 := by omega
      rw [hz1] at hh
      simp only [Nat.zero_add] at hh
      rw [hy]
      have hrun := run_bytesString (P := P) (w := w) (src := src) (dst := dst) (l := unB ((ob.es.drop o).take n')) (c := c) hk.1 hk.2 (conEs_bytes hh)
      rw [← hn'] at hrun
      rw [Sem.run_bind, hrun]
      rfl
     ·have h0 : n' = 0 := by omega
      subst h0
      rw [hy]
      rw [Sem.run_bind, run_nilString hk.1 hk.2]
      simp [Result.andThen, Sem.run_pure, unB, ofL]
      rfl
    ·simp at h
   ·simp at h
  ·simp at h
 | _ => simp [rop] at h

theorem con_own_in {k g g' off len c z b : Nat} {ν' : Nu} {arr : Array Value} {e : TypeId} {f : Nat × Nat} (h : ν' k = some ⟨b, g', z⟩) (hg : g' = g) (hlc : len ≤ c)
  (hb : w.heap[b]? = some (.cells arr e f)) (hoff : off = 0 ∨ c = 0) (hs : off + c * z ≤ arr.size) : Con w ν' F (.own k g 0 len z) (.slice (some ⟨b, off, none⟩) len c) := by
 subst hg
 simp only [Con]
 exact ⟨⟨b, g', z⟩, b, off, c, h, Nat.le_refl _, rfl, rfl, hlc, fun _ => ⟨rfl, by simpa using hoff, arr, e, f, hb, hs⟩⟩

theorem conVs_one_le {z : Nat} {xs : List (List D)} {ys : List Value} (h : ConVs w ν F xs.flatten ys) (hl : ∀ x ∈ xs, x.length = z) : ys.length = xs.length * z := by
 rw [← conVs_length h]
 clear h
 induction xs with
 | nil => simp
 | cons a l ih => simp only [List.flatten_cons, List.length_append, List.length_cons, ih (fun x hx => hl x (by simp [hx])), hl a (by simp), Nat.add_mul]; omega

theorem append_own {t t' ty : TypeId} {z b k g len : Nat} {ob : Obj} {dx : D} {O : Prop} {xs : List (List D)} {s x : Value} (hst : St w ν F m n) (ht : telem P t = some (z, b)) (h1 : tint P t' = none) (h2 : tcode P t' ≠ 0)
  (hel : elemsOf m z dx = some (O, xs)) (hO : O) (hx : Con w ν F dx x) (hs : Con w ν F (.own k g 0 len z) s) (hm : m k = some ob) (hg : ob.g = g) (hle : len ≤ ob.es.length) (hb1 : 1 ≤ b)
  (hroom : (len + xs.length) * b ≤ 140737488355328) :
  ∃ v w', (Builtin.append_ #[t, t'] ty #[s, x]).run P w = .ok v w' ∧ ∃ ν', Ext w ν F w' ν' F ∧ St w' ν' F (m.set k ⟨z, ob.es.take len ++ xs, g + 1⟩) n ∧ Con w' ν' F (.own k (g + 1) 0 (len + xs.length) z) v := by
 obtain ⟨hlen, new, hnew, hnc, hn1, hnl⟩ := run_elems (P := P) hst hel hO hx
 simp only [Con] at hs; obtain ⟨l, bb, off, c, hl, hg', hz2, rfl, hn, hlive⟩ := hs
 obtain ⟨l', arr, e, f, q1, q2, q3, q4, q5, q6, q7⟩ := hst.mem.at_ k ob hm
 rw [hl] at q1; obtain rfl := Option.some.inj q1
 obtain ⟨rfl, ho, arr', e', f', ha, hsz⟩ := hlive (by omega)
 rw [q4] at ha; simp only [Option.some.injEq, Obj.cells.injEq] at ha; obtain ⟨rfl, rfl, rfl⟩ := ha
 simp only [Nat.zero_mul] at ho
 have hkn : k < n := by
  rcases Nat.lt_or_ge k n with h | h
  ·exact h
  ·have := (hst.fresh k h).2; rw [hm] at this; cases this
 have hnewl : new.toList.length = xs.length * z := conVs_one_le hnc hnl
 have hzz : ob.z = z := by omega
 have htk := conEs_take q7 len
 by_cases hfit : len + xs.length ≤ c
 ·-- in place
  have hoff : off = 0 ∨ (len = 0 ∧ xs.length = 0 ∧ c = 0) := by rcases ho with h | h <;> omega
  have hbound : off + len * z + new.toList.length ≤ arr.size := by
   rw [hnewl]
   have : (len + xs.length) * z ≤ c * z := Nat.mul_le_mul_right _ hfit
   rw [Nat.add_mul] at this; omega
  obtain ⟨w', hr, hs', hoth, arr', ha', hal, hio⟩ := run_storeCells (P := P) new.toList (off + len * z) 0 arr w q4 (okF_nf q6) (by simpa using hbound) hn1
  have hrun := run_append_fit (ty := ty) ht h1 h2 hlen (hnew w rfl) hfit (base := ⟨l.b, off, none⟩) (w' := w') (by rw [addr_add]; exact hr)
  have hasz : arr'.size = arr.size := by
   have := congrArg List.length hal
   simp only [Array.length_toList, List.length_append, List.length_take, List.length_drop, Nat.add_zero] at this
   simp only [Array.length_toList] at hbound
   omega
  obtain ⟨ν', hν, hext, hst'⟩ := St.update (hio := hio) (w' := w') (k := k) (n' := n) (o' := ⟨z, ob.es.take len ++ xs, g + 1⟩) (b := l.b) hst hkn (Nat.le_refl _) (by omega) ha' (fun b' hne _ => hoth b' hne) q5
   (by rw [hasz]; exact q6) (by intro a0 e0 f0 h0; rw [q4] at h0; simp only [Option.some.injEq, Obj.cells.injEq] at h0; rw [hasz, h0.1])
   (by intro l2 hl2; rw [hl] at hl2; obtain rfl := Option.some.inj hl2; exact ⟨by show l.g ≤ g + 1; omega, by show z = l.z; omega, by intro h; change g + 1 = l.g at h; omega⟩)
   (by intro k' o l2 hne hm' hl2 he; exact hne (hst.mem.inj k' k o ob l2 l hm' hm hl2 hl he))
   (by
    intro ν' hν' hext
    show ConEs w' ν' F z (ob.es.take len ++ xs) l.b 0
    obtain ⟨ys, p1, p2, p3, p4⟩ := conEs_vals htk
    have hys : ys.length = len * z := by rw [p2, hzz, List.length_take, Nat.min_eq_left hle]
    refine conEs_of ha' z _ 0 (ys ++ new.toList) ?_ ?_ ?_ ?_
    ·intro y hy; rcases List.mem_append.1 hy with hy | hy
     ·rw [← hzz]; exact conEs_len htk y hy
     ·exact hnl y hy
    ·rw [List.flatten_append]; exact conVs_append (ConVs.mono hext _ _ p1) (ConVs.mono hext _ _ hnc)
    ·intro y hy; rcases List.mem_append.1 hy with hy | hy
     ·exact p3 y hy
     ·exact hn1 y hy
    ·intro j y hy
     have hg : arr'.toList[j]? = some y := by
      rw [hal]
      rcases hoff with rfl | ⟨rfl, hx0, _⟩
      ·simp only [Nat.zero_add, Nat.add_zero]
       rw [List.append_assoc]
       by_cases hj : j < ys.length
       ·rw [List.getElem?_append_left hj] at hy
        rw [List.getElem?_append_left (by simp only [List.length_take, Array.length_toList]; simp only [Array.length_toList] at hbound; omega), List.getElem?_take, if_pos (by omega)]
        have := p4 j y hy
        rw [cell?_cells q4] at this
        simpa using this
       ·rw [List.getElem?_append_right (by omega)] at hy
        have htl : (arr.toList.take (len * z)).length = len * z := by
         simp only [List.length_take, Array.length_toList]; simp only [Array.length_toList] at hbound; omega
        rw [List.getElem?_append_right (by omega), htl, ← hys]
        rw [List.getElem?_append_left (by
         rcases Nat.lt_or_ge (j - ys.length) new.toList.length with h' | h'
         ·exact h'
         ·simp [List.getElem?_eq_none h'] at hy)]
        exact hy
      ·have e1 : ys = [] := List.eq_nil_of_length_eq_zero (by simpa using hys)
       have e2 : new.toList = [] := List.eq_nil_of_length_eq_zero (by rw [hnewl, hx0]; simp)
       rw [e1, e2] at hy; simp at hy
     simpa using hg)
  refine ⟨_, w', hrun, ν', hext, hst', ?_⟩
  exact con_own_in (by rw [hν]; simp) rfl hfit ha' (by rcases ho with h | h <;> simp [h]) (by rw [hasz, ← hz2]; simpa [hz2] using hsz)
 ·-- a new block
  have hfc : ∃ old : Array Value, (∀ w1 : World, w1.heap = w.heap → (Builtin.firstCells z len (.slice (some ⟨l.b, off, none⟩) len c)).run P w1 = .ok old w1) ∧
    ConVs w ν F (ob.es.take len).flatten old.toList ∧ (∀ x ∈ old.toList, oneC x = true) ∧ old.size = len * z := by
   obtain ⟨ys, p1, p2, p3, p4⟩ := conEs_vals htk
   have hys : ys.length = len * z := by rw [p2, hzz, List.length_take, Nat.min_eq_left hle]
   refine ⟨ys.toArray, ?_, by simpa using p1, by simpa using p3, by simpa using hys⟩
   intro w1 hw1
   rcases ho with rfl | hc0
   ·exact run_loadCells hys (fun j y hy => by rw [cell?_of_heap (w := w) (by rw [hw1])]; exact p4 j y hy)
   ·have h0 : len = 0 := by omega
    subst h0
    have : ys = [] := List.eq_nil_of_length_eq_zero (by simpa using hys)
    subst this
    simp [Builtin.firstCells, loadCells, loadCellsFrom, Sem.run_pure]
  obtain ⟨old, hold, oc, o1, olen⟩ := hfc
  obtain ⟨w', e', c', rest, hrun, hw', hc', hrest, hio⟩ := run_append_grow (ty := ty) ht h1 h2 hlen (by omega : c < len + xs.length) hb1 hroom hold hnew
  have hb' : w'.heap[w.heap.size]? = some (.cells (old ++ new ++ rest) e') := by rw [hw']; simp
  obtain ⟨ν', hν, hext, hst'⟩ := St.update (hio := hio) (w' := w') (k := k) (n' := n) (o' := ⟨z, ob.es.take len ++ xs, g + 1⟩) (b := w.heap.size) hst hkn (Nat.le_refl _) (by rw [hw']; simp) hb'
   (fun b' hne hlt => by rw [hw']; simp [Array.getElem?_push, hne]) (fun hF => absurd (hst.mem.lt _ hF) (by omega)) (.inl rfl) (by intro a0 e0 f0 h0; simp at h0)
   (by intro l2 hl2; rw [hl] at hl2; obtain rfl := Option.some.inj hl2; exact ⟨by show l.g ≤ g + 1; omega, by show z = l.z; omega, by intro h; change g + 1 = l.g at h; omega⟩)
   (by
    intro k' o l2 _ hm' hl2 he
    obtain ⟨l3, a', e3, f3, p2, _, _, p4, _⟩ := hst.mem.at_ k' o hm'
    rw [hl2] at p2; cases p2
    rw [he] at p4; simp at p4)
   (by
    intro ν' hν' hext
    show ConEs w' ν' F z (ob.es.take len ++ xs) w.heap.size 0
    refine conEs_of hb' z _ 0 (old.toList ++ new.toList) ?_ ?_ ?_ ?_
    ·intro y hy; rcases List.mem_append.1 hy with hy | hy
     ·rw [← hzz]; exact conEs_len htk y hy
     ·exact hnl y hy
    ·rw [List.flatten_append]; exact conVs_append (ConVs.mono hext _ _ oc) (ConVs.mono hext _ _ hnc)
    ·intro y hy; rcases List.mem_append.1 hy with hy | hy
     ·exact o1 y hy
     ·exact hn1 y hy
    ·intro j y hy
     have : (old ++ new ++ rest).toList[j]? = some y := by
      simp only [Array.toList_append]
      rw [List.getElem?_append_left (by
       rcases Nat.lt_or_ge j (old.toList ++ new.toList).length with h' | h'
       ·exact h'
       ·simp only [List.getElem?_eq_none h'] at hy; cases hy)]
      exact hy
     rw [Nat.zero_add, ← Array.getElem?_toList]; exact this)
  refine ⟨_, w', hrun, ν', hext, hst', ?_⟩
  refine con_own_in (by rw [hν]; simp) rfl hc' hb' (.inl rfl) ?_
  simp only [Array.size_append, olen, hrest]
  have hns : new.size = xs.length * z := by simpa using hnewl
  rw [hns, ← Nat.add_mul, ← Nat.add_mul]
  have : len + xs.length + (c' - (len + xs.length)) = c' := by omega
  rw [this]; omega

theorem append_new {t t' ty : TypeId} {z b : Nat} {base : Option Addr} {dx : D} {O : Prop} {xs : List (List D)} {x : Value} (hst : St w ν F m n) (ht : telem P t = some (z, b)) (h1 : tint P t' = none) (h2 : tcode P t' ≠ 0)
  (hel : elemsOf m z dx = some (O, xs)) (hO : O) (hx : Con w ν F dx x) (hb1 : 1 ≤ b) (hroom : xs.length * b ≤ 140737488355328) (hne : xs ≠ []) :
  ∃ v w', (Builtin.append_ #[t, t'] ty #[.slice base 0 0, x]).run P w = .ok v w' ∧ ∃ ν', Ext w ν F w' ν' F ∧ St w' ν' F (m.set n ⟨z, xs, 0⟩) (n + 1) ∧ Con w' ν' F (.own n 0 0 xs.length z) v := by
 obtain ⟨hlen, new, hnew, hnc, hn1, hnl⟩ := run_elems (P := P) hst hel hO hx
 have hpos : 0 < xs.length := List.length_pos_iff.2 hne
 obtain ⟨w', e', c', rest, hrun, hw', hc', hrest, hio⟩ := run_append_grow (ty := ty) (base := base) (old := #[]) (len := 0) (cap := 0) ht h1 h2 hlen (by omega) hb1 (by simpa using hroom)
  (fun w1 _ => by cases base <;> simp [Builtin.firstCells, loadCells, loadCellsFrom, Sem.run_pure]) hnew
 simp only [Nat.zero_add] at hrun hc' hrest
 obtain ⟨ν', hν, hext, hst'⟩ := St.alloc0 (w' := w') (o' := ⟨z, xs, 0⟩) (ys := new.toList) (rest := rest.toList) hst hw' (by simp) hnl hnc hn1 hio
 refine ⟨_, w', hrun, ν', hext, hst', ?_⟩
 refine con_own_new (b := w.heap.size) (arr := #[] ++ new ++ rest) (e := e') (f := (0, 0)) (by rw [hν]; simp) hc' (by rw [hw']; simp) ?_
 have hns : new.size = xs.length * z := by simpa using conVs_one_le hnc hnl
 simp only [Array.size_append, hns, hrest, List.size_toArray, List.length_nil, Nat.zero_add]
 rw [← Nat.add_mul]
 have : xs.length + (c' - xs.length) = c' := by omega
 rw [this]; omega
theorem append_zeros {t t' ty : TypeId} {k : IntKind} {z b : Nat} {l : Int} {zs : List Value} (hst : St w ν F m n) (ht : telem P t = some (z, b)) (hz : tezero P t = some zs) (h1 : tint P t' = some k) (h0 : 0 < l) (hb1 : 1 ≤ b) (hroom : l * b ≤ 70368744177664) :
  ∃ v w', (Builtin.append_ #[t, t'] ty #[.slice none 0 0, .int .i64 l]).run P w = .ok v w' ∧ ∃ ν', Ext w ν F w' ν' F ∧ St w' ν' F (m.set n ⟨z, List.replicate l.toNat (zs.map .v), 0⟩) (n + 1) ∧ Con w' ν' F (.own n 0 0 l.toNat z) v := by
 obtain ⟨w', e, v, c, hrun, hu, hv, hvz, hw', hc, hio⟩ := run_append_zeros (w := w) (ty := ty) ht h1 h0 hb1 hroom
 obtain ⟨e', v', hu', hv', hvz', hone⟩ := tezero_some (w := w) hz
 rw [hu] at hu'; obtain rfl : e = e' := by simpa using hu'
 obtain rfl : v = v' := by have := (hv w).symm.trans hv'; simpa using this
 have hzl := tezero_len hz ht
 have hz1 : 1 ≤ z := by obtain ⟨_, _, _, _, _, _, _, h, _⟩ := telem_some ht; exact h
 have hzc : ∀ k, (Builtin.zeroCells v.cells k).toList = (List.replicate k zs).flatten := fun k => by rw [← hvz']; exact zeros_eq v.cells (by omega) k
 have hzn : ∀ k, (Builtin.zeroCells v.cells k).size = k * z := fun k => by simp [Builtin.zeroCells, hvz]
 obtain ⟨ν', hν, hext, hst'⟩ := St.alloc0 (w' := w') (o' := ⟨z, List.replicate l.toNat (zs.map .v), 0⟩) (ys := (List.replicate l.toNat zs).flatten) (rest := (Builtin.zeroCells v.cells (c - l.toNat)).toList) hst hw' (by rw [Array.toList_append, hzc]) (fun x hx => by rw [List.eq_of_mem_replicate hx]; simpa using hzl) (flatten_replicate_v zs _) (fun x hx => by
  simp only [List.mem_flatten, List.mem_replicate] at hx
  obtain ⟨l', ⟨_, rfl⟩, hx⟩ := hx
  exact hone x hx) hio
 refine ⟨_, w', hrun, ν', hext, hst', ?_⟩
 refine con_own_new (b := w.heap.size) (arr := Builtin.zeroCells v.cells l.toNat ++ Builtin.zeroCells v.cells (c - l.toNat)) (e := e) (f := (0, 0)) (by rw [hν]; simp) hc (by rw [hw']; simp) ?_
 rw [Array.size_append, hzn, hzn, ← Nat.add_mul]
 have : l.toNat + (c - l.toNat) = c := by omega
 rw [this]; exact Nat.le_refl _
theorem append_none {t t' ty : TypeId} {z b : Nat} {base : Option Addr} {dx : D} {O : Prop} {xs : List (List D)} {x : Value} (hst : St w ν F m n) (ht : telem P t = some (z, b)) (h1 : tint P t' = none) (h2 : tcode P t' ≠ 0)
  (hel : elemsOf m z dx = some (O, xs)) (hO : O) (hx : Con w ν F dx x) (hne : xs = []) :
  (Builtin.append_ #[t, t'] ty #[.slice base 0 0, x]).run P w = .ok (.slice base 0 0) w := by
 obtain ⟨hlen, new, hnew, hnc, hn1, hnl⟩ := run_elems (P := P) hst hel hO hx
 subst hne
 have hnn : new = #[] := by
  have := conVs_length hnc
  simp at this; exact Array.eq_empty_of_size_eq_zero (by simpa using this.symm)
 subst hnn
 obtain ⟨e, hu, hz, _⟩ := tcode_slice ht
 obtain ⟨d, hd, hdi⟩ := notInt h1 h2
 have hn := hnew w rfl
 simp only [List.length_nil] at hlen hn
 unfold Builtin.append_
 cases d with
 | int k => exact absurd rfl (hdi k)
 | _ => cases base <;> simp [Sem.run_bind, run_underlying' hu, run_underlying' hd, Result.andThen, run_sizeOf' hz, Sem.run_pure, hlen, hn, storeCells]
end
end Go.Proofs.Mv.V
namespace Go.Proofs.Mv.V
variable [GI]

section
variable {P : Program} {w w' : World} {ν : Nu} {F : Nat → Prop} {m : Mem} {n : Nat}

theorem run_callFunc {f : FuncId} {args : Array Value} (h : Callable P f) : (callFunc f args).run P w = .ok (.enter f args) w := by
 obtain ⟨fn, h1, h2, h3⟩ := h
 simp only [callFunc, program, Sem.run_bind, Sem.run, Result.andThen, h1, h2, h3, Bool.false_eq_true, if_false, pure]

theorem store_var {k g i j z : Nat} {t : TypeId} {ob : Obj} {a x : Value} {dx : D} (hst : St w ν F m n) (hz : tsz P t = some z) (ha : Con w ν F (.ptr k g i j) a) (hx : Con w ν F dx x)
  (hm : m k = some ob) (hg : ob.g = g) (hi : i < ob.es.length) (hj : j + z ≤ (ob.es.getD i []).length) (hok : okD dx = true) (hl : (cellsOf dx).length = z) :
  ∃ w', (Instr.storeAt t a x).run P w = .ok () w' ∧ ∃ ν', Ext w ν F w' ν' F ∧ St w' ν' F (m.set k ⟨ob.z, ob.es.set i ((ob.es.getD i []).take j ++ cellsOf dx ++ (ob.es.getD i []).drop (j + z)), ob.g⟩) n := by
 simp only [Con] at ha; obtain ⟨l, bb, oo, hl1, hg', rfl, hlive⟩ := ha
 obtain ⟨l', arr, e, f, q1, q2, q3, q4, q5, q6, q7⟩ := hst.mem.at_ k ob hm
 rw [hl1] at q1; obtain rfl := Option.some.inj q1
 obtain ⟨rfl, rfl⟩ := hlive (by omega)
 obtain ⟨hcc, h1⟩ := con_cells hx hok
 have hxl : x.cells.toList.length = z := by rw [← conVs_length hcc, hl]
 have hkn : k < n := by
  rcases Nat.lt_or_ge k n with h | h
  ·exact h
  ·have := (hst.fresh k h).2; rw [hm] at this; cases this
 obtain ⟨ys, p1, p2, p3, p4⟩ := conEs_vals q7
 obtain ⟨hel, _⟩ := conEs_get q7 i hi
 have hbd : i * ob.z + ob.z ≤ ys.length := by rw [p2, ← Nat.succ_mul]; exact Nat.mul_le_mul_right _ hi
 have hysa : ys.length ≤ arr.size := by
  rcases Nat.lt_or_ge arr.size ys.length with h | h
  ·have hlt : arr.size < ys.length := h
   have := p4 arr.size ys[arr.size] (by simp [hlt])
   rw [cell?_cells q4] at this
   simp at this
  ·exact h
 have hpre : arr.toList.take ys.length = ys := by
  apply List.ext_getElem?
  intro q
  by_cases hq : q < ys.length
  ·rw [List.getElem?_take, if_pos hq]
   have := p4 q ys[q] (by simp [hq])
   rw [cell?_cells q4] at this
   simp only [Nat.zero_add] at this
   simp [hq, this]
  ·rw [List.getElem?_eq_none (by simp; omega), List.getElem?_eq_none (by omega)]
 have hb1 : i * l.z + j + 0 + x.cells.toList.length ≤ arr.size := by rw [hxl, q3]; omega
 obtain ⟨w', hr, hs', hoth, arr', ha', hal, hio⟩ := run_storeCells (P := P) x.cells.toList (i * l.z + j) 0 arr w q4 (okF_nf q6) hb1 h1
 refine ⟨w', ?_, ?_⟩
 ·simp only [Instr.storeAt, Instr.sureAddr, Sem.run_bind, Sem.run_pure, Result.andThen, storeVar, run_sizeOf' hz]
  rw [if_neg (by simp; rw [← Array.length_toList, hxl])]
  exact hr
 ·have hasz : arr'.size = arr.size := by
   have := congrArg List.length hal
   simp only [Array.length_toList, List.length_append, List.length_take, List.length_drop, Nat.add_zero] at this
   simp only [Array.length_toList] at hb1
   omega
  have hset : (ob.es.set i ((ob.es.getD i []).take j ++ cellsOf dx ++ (ob.es.getD i []).drop (j + z))).flatten =
    ob.es.flatten.take (i * ob.z + j) ++ cellsOf dx ++ ob.es.flatten.drop (i * ob.z + j + z) := by
   have hfl : ∀ x ∈ ob.es, x.length = ob.z := conEs_len q7
   rw [flatten_set ob.es i _ hfl hi (by simp only [List.length_append, List.length_take, List.length_drop, hl]; omega)]
   have hmid : ob.es.flatten = ob.es.flatten.take (i * ob.z) ++ (ob.es.getD i []) ++ ob.es.flatten.drop (i * ob.z + ob.z) := by
    have := flatten_set ob.es i (ob.es.getD i []) hfl hi hel
    rw [← this]
    congr 1
    apply List.ext_getElem?
    intro q
    rw [List.getElem?_set]
    split
    ·rename_i hq; subst hq; simp [hi]
    ·rfl
   have hA : (ob.es.flatten.take (i * ob.z)).length = i * ob.z := by
    rw [List.length_take]; rw [conVs_length p1]; omega
   generalize hAA : ob.es.flatten.take (i * ob.z) = A at *
   generalize hBB : ob.es.flatten.drop (i * ob.z + ob.z) = B at *
   generalize hCC : ob.es.getD i [] = C at *
   rw [hmid]
   rw [List.append_assoc A C B]
   rw [← hA, List.take_length_add_append, List.drop_append, List.drop_append]
   have e1 : A.length + j + z - A.length = j + z := by omega
   rw [List.drop_eq_nil_of_le (by omega : A.length ≤ A.length + j + z), e1]
   rw [List.take_append, show j - C.length = 0 by omega, show j + z - C.length = 0 by omega]
   simp
  obtain ⟨ν', hν, hext, hst'⟩ := St.update (hio := hio) (w' := w') (k := k) (n' := n) (o' := ⟨ob.z, ob.es.set i ((ob.es.getD i []).take j ++ cellsOf dx ++ (ob.es.getD i []).drop (j + z)), ob.g⟩) (b := l.b) hst hkn (Nat.le_refl _) (by omega) ha'
   (fun b' hne _ => hoth b' hne) q5 (by rw [hasz]; exact q6) (by intro a0 e0 f0 h0; rw [q4] at h0; simp only [Option.some.injEq, Obj.cells.injEq] at h0; rw [hasz, h0.1])
   (by intro l2 hl2; rw [hl1] at hl2; obtain rfl := Option.some.inj hl2; exact ⟨by show l.g ≤ ob.g; omega, by show ob.z = l.z; omega, fun _ => rfl⟩)
   (by intro k' o l2 hne hm' hl2 he; exact hne (hst.mem.inj k' k o ob l2 l hm' hm hl2 hl1 he))
   (by
    intro ν' hν' hext
    show ConEs w' ν' F ob.z _ l.b 0
    refine conEs_of ha' ob.z _ 0 (ys.take (i * ob.z + j) ++ x.cells.toList ++ ys.drop (i * ob.z + j + z)) ?_ ?_ ?_ ?_
    ·intro y hy
     rcases List.mem_or_eq_of_mem_set hy with hy | hy
     ·exact conEs_len q7 y hy
     ·rw [hy]; simp only [List.length_append, List.length_take, List.length_drop, hl]; omega
    ·rw [hset]
     exact conVs_append (conVs_append (conVs_take (ConVs.mono hext _ _ p1) _) (ConVs.mono hext _ _ hcc)) (conVs_drop (ConVs.mono hext _ _ p1) _)
    ·intro y hy
     simp only [List.mem_append] at hy
     rcases hy with (hy | hy) | hy
     ·exact p3 y (List.mem_of_mem_take hy)
     ·exact h1 y hy
     ·exact p3 y (List.mem_of_mem_drop hy)
    ·intro q y hy
     rw [Nat.zero_add, ← Array.getElem?_toList, hal, hxl, q3]
     simp only [Nat.add_zero]
     have e2 : arr.toList.take (i * ob.z + j) = ys.take (i * ob.z + j) := by rw [← hpre, List.take_take, Nat.min_eq_left (by omega)]
     have e3 : arr.toList.drop (i * ob.z + j + z) = ys.drop (i * ob.z + j + z) ++ arr.toList.drop ys.length := by
      conv => lhs; rw [← List.take_append_drop ys.length arr.toList, hpre]
      rw [List.drop_append, show i * ob.z + j + z - ys.length = 0 by omega]; simp
     rw [e2, e3, ← List.append_assoc]
     rw [List.getElem?_append_left (by
      rcases Nat.lt_or_ge q (ys.take (i * ob.z + j) ++ x.cells.toList ++ ys.drop (i * ob.z + j + z)).length with h' | h'
      ·exact h'
      ·simp only [List.getElem?_eq_none h'] at hy; cases hy)]
     exact hy)
  exact ⟨ν', hext, hst'⟩

theorem set_self {m : Mem} {k : Nat} {o : Obj} (h : m k = some o) : m.set k o = m := by
 funext j; simp only [Mem.set]; split
 ·rename_i e; subst e; exact h.symm
 ·rfl
theorem flatten_take_z {z : Nat} : ∀ (es : List (List D)) (o : Nat), (∀ x ∈ es, x.length = z) → (es.take o).flatten = es.flatten.take (o * z)
 | [], o, _ => by simp
 | e :: es, 0, _ => by simp
 | e :: es, o + 1, h => by
  have he := h e (by simp)
  rw [List.take_succ_cons, List.flatten_cons, List.flatten_cons, flatten_take_z es o (fun x hx => h x (by simp [hx])), show (o + 1) * z = e.length + o * z by rw [he, Nat.add_mul]; omega, List.take_length_add_append]
theorem flatten_drop_z {z : Nat} : ∀ (es : List (List D)) (o : Nat), (∀ x ∈ es, x.length = z) → (es.drop o).flatten = es.flatten.drop (o * z)
 | [], o, _ => by simp
 | e :: es, 0, _ => by simp
 | e :: es, o + 1, h => by
  have he := h e (by simp)
  rw [List.drop_succ_cons, List.flatten_cons, flatten_drop_z es o (fun x hx => h x (by simp [hx])), show (o + 1) * z = e.length + o * z by rw [he, Nat.add_mul]; omega, List.drop_length_add_append]
theorem clear_own {k g o len z b : Nat} {t ty : TypeId} {zs : List Value} {ob : Obj} {x : Value} (hst : St w ν F m n) (ht : telem P t = some (z, b)) (hz : tezero P t = some zs) (hx : Con w ν F (.own k g o len z) x)
  (hm : m k = some ob) (hg : ob.g = g) (hle : o + len ≤ ob.es.length) :
  ∃ w', (Builtin.clear_ #[t] ty #[x]).run P w = .ok undef w' ∧ ∃ ν', Ext w ν F w' ν' F ∧ St w' ν' F (m.set k ⟨ob.z, ob.es.take o ++ List.replicate len (zs.map .v) ++ ob.es.drop (o + len), ob.g⟩) n := by
 simp only [Con] at hx; obtain ⟨l, bb, off, c, hl1, hg', hz', rfl, hn, hlive⟩ := hx
 obtain ⟨l', arr, e, f, q1, q2, q3, q4, q5, q6, q7⟩ := hst.mem.at_ k ob hm
 rw [hl1] at q1; obtain rfl := Option.some.inj q1
 obtain ⟨rfl, ho, _⟩ := hlive (by omega)
 obtain ⟨el, v, hu, hv, hvz, hone⟩ := tezero_some (w := w) hz
 obtain ⟨_, _, _, hz1⟩ := tcode_slice ht
 have hzl := tezero_len hz ht
 have hvs : v.cells.size = z := by rw [← hzl, ← hvz]; simp
 have hkn : k < n := by
  rcases Nat.lt_or_ge k n with h | h
  ·exact h
  ·have := (hst.fresh k h).2; rw [hm] at this; cases this
 by_cases h0 : len = 0
 ·subst h0
  refine ⟨w, ?_, ν, Ext.refl _ _ _, ?_⟩
  ·simp [Builtin.clear_, Sem.run_bind, run_underlying' hu, Result.andThen, Sem.run_pure, undef]
  ·have : (⟨ob.z, ob.es.take o ++ List.replicate 0 (zs.map D.v) ++ ob.es.drop (o + 0), ob.g⟩ : Obj) = ob := by simp
   rw [this, set_self hm]; exact hst
 have hoff : off = o * z := by rcases ho with h | h <;> omega
 subst hoff
 have hobz : ob.z = z := by omega
 obtain ⟨ys, p1, p2, p3, p4⟩ := conEs_vals q7
 have hysa : ys.length ≤ arr.size := by
  rcases Nat.lt_or_ge arr.size ys.length with h | h
  ·have hlt : arr.size < ys.length := h
   have := p4 arr.size ys[arr.size] (by simp [hlt])
   rw [cell?_cells q4] at this
   simp at this
  ·exact h
 have hpre : arr.toList.take ys.length = ys := by
  apply List.ext_getElem?
  intro q
  by_cases hq : q < ys.length
  ·rw [List.getElem?_take, if_pos hq]
   have := p4 q ys[q] (by simp [hq])
   rw [cell?_cells q4] at this
   simp only [Nat.zero_add] at this
   simp [hq, this]
  ·rw [List.getElem?_eq_none (by simp; omega), List.getElem?_eq_none (by omega)]
 have hzz : (Builtin.zeroCells v.cells len).toList = (List.replicate len zs).flatten := by rw [← hvz]; exact zeros_eq v.cells (by omega) len
 have hzn : ((List.replicate len zs).flatten).length = len * z := by simp [hzl]
 have hfl : ∀ x ∈ ob.es, x.length = z := by rw [← hobz]; exact conEs_len q7
 have hroom : o * z + len * z ≤ ys.length := by
  rw [p2, hobz, ← Nat.add_mul]; exact Nat.mul_le_mul_right _ hle
 have hb1 : o * z + 0 + ((List.replicate len zs).flatten).length ≤ arr.size := by rw [hzn]; omega
 have hone' : ∀ x ∈ (List.replicate len zs).flatten, oneC x = true := by
  intro x hx
  simp only [List.mem_flatten, List.mem_replicate] at hx
  obtain ⟨l', ⟨_, rfl⟩, hx⟩ := hx
  exact hone x hx
 obtain ⟨w', hr, hs', hoth, arr', ha', hal, hio⟩ := run_storeCells (P := P) ((List.replicate len zs).flatten) (o * z) 0 arr w q4 (okF_nf q6) hb1 hone'
 refine ⟨w', ?_, ?_⟩
 ·obtain ⟨len', rfl⟩ : ∃ j, len = j + 1 := ⟨len - 1, by omega⟩
  simp [Builtin.clear_, Sem.run_bind, run_underlying' hu, Result.andThen, Sem.run_pure, hv, hzz, hr, undef]
 ·have hasz : arr'.size = arr.size := by
   have := congrArg List.length hal
   simp only [Array.length_toList, List.length_append, List.length_take, List.length_drop, Nat.add_zero] at this
   simp only [Nat.add_zero] at hb1
   omega
  obtain ⟨ν', hν, hext, hst'⟩ := St.update (hio := hio) (w' := w') (k := k) (n' := n) (o' := ⟨ob.z, ob.es.take o ++ List.replicate len (zs.map .v) ++ ob.es.drop (o + len), ob.g⟩) (b := l.b) hst hkn (Nat.le_refl _) (by omega) ha'
   (fun b' hne _ => hoth b' hne) q5 (by rw [hasz]; exact q6) (by intro a0 e0 f0 h0; rw [q4] at h0; simp only [Option.some.injEq, Obj.cells.injEq] at h0; rw [hasz, h0.1])
   (by intro l2 hl2; rw [hl1] at hl2; obtain rfl := Option.some.inj hl2; exact ⟨by show l.g ≤ ob.g; omega, by show ob.z = l.z; omega, fun _ => rfl⟩)
   (by intro k' o l2 hne hm' hl2 he; exact hne (hst.mem.inj k' k o ob l2 l hm' hm hl2 hl1 he))
   (by
    intro ν' hν' hext
    show ConEs w' ν' F ob.z _ l.b 0
    refine conEs_of ha' ob.z _ 0 (ys.take (o * z) ++ (List.replicate len zs).flatten ++ ys.drop (o * z + len * z)) ?_ ?_ ?_ ?_
    ·intro y hy
     rw [hobz]
     simp only [List.mem_append] at hy
     rcases hy with (hy | hy) | hy
     ·exact hfl y (List.mem_of_mem_take hy)
     ·rw [List.eq_of_mem_replicate hy]; simpa using hzl
     ·exact hfl y (List.mem_of_mem_drop hy)
    ·rw [List.flatten_append, List.flatten_append, flatten_take_z _ _ hfl, flatten_drop_z _ _ hfl, Nat.add_mul]
     exact conVs_append (conVs_append (conVs_take (ConVs.mono hext _ _ p1) _) (flatten_replicate_v zs len)) (conVs_drop (ConVs.mono hext _ _ p1) _)
    ·intro y hy
     simp only [List.mem_append] at hy
     rcases hy with (hy | hy) | hy
     ·exact p3 y (List.mem_of_mem_take hy)
     ·exact hone' y hy
     ·exact p3 y (List.mem_of_mem_drop hy)
    ·intro q y hy
     rw [Nat.zero_add, ← Array.getElem?_toList, hal, hzn]
     simp only [Nat.add_zero]
     have e2 : arr.toList.take (o * z) = ys.take (o * z) := by rw [← hpre, List.take_take, Nat.min_eq_left (by omega)]
     have e3 : arr.toList.drop (o * z + len * z) = ys.drop (o * z + len * z) ++ arr.toList.drop ys.length := by
      conv => lhs; rw [← List.take_append_drop ys.length arr.toList, hpre]
      rw [List.drop_append, show o * z + len * z - ys.length = 0 by omega]; simp
     rw [e2, e3, ← List.append_assoc]
     rw [List.getElem?_append_left (by
      rcases Nat.lt_or_ge q (ys.take (o * z) ++ (List.replicate len zs).flatten ++ ys.drop (o * z + len * z)).length with h' | h'
      ·exact h'
      ·simp only [List.getElem?_eq_none h'] at hy; cases hy)]
     exact hy)
  exact ⟨ν', hext, hst'⟩

theorem mark_own {k g o len z : Nat} {t : TypeId} {ob : Obj} {x : Value} (hst : St w ν F m n) (ht : tbyte P t = true) (hx : Con w ν F (.own k g o len z) x) (hm : m k = some ob) (hg : ob.g = g) :
  ∃ w', (convert t t x).run P w = .ok x w' ∧ ∃ ν', Ext w ν F w' ν' F ∧ St w' ν' F m n ∧ Con w' ν' F (.own k g o len z) x := by
 have hx' := hx
 simp only [Con] at hx; obtain ⟨l, b, off, c, hl1, hg', hz', rfl, hn, hlive⟩ := hx
 obtain ⟨l', arr, e, f, q1, q2, q3, q4, q5, q6, q7⟩ := hst.mem.at_ k ob hm
 rw [hl1] at q1; obtain rfl := Option.some.inj q1
 obtain ⟨rfl, ho, _⟩ := hlive (by omega)
 obtain ⟨el, hu, he⟩ := tbyte_some ht
 have hkn : k < n := by
  rcases Nat.lt_or_ge k n with h | h
  ·exact h
  ·have := (hst.fresh k h).2; rw [hm] at this; cases this
 let f' : Nat × Nat := if f.1 == f.2 then (arr.size, arr.size + 1) else (min f.1 arr.size, max f.2 (arr.size + 1))
 have hf' : f'.1 = f'.2 ∨ arr.size ≤ f'.1 := by
  show (if f.1 == f.2 then (arr.size, arr.size + 1) else (min f.1 arr.size, max f.2 (arr.size + 1)) : Nat × Nat).1 = _ ∨ arr.size ≤ (if f.1 == f.2 then (arr.size, arr.size + 1) else (min f.1 arr.size, max f.2 (arr.size + 1)) : Nat × Nat).1
  split
  ·right; exact Nat.le_refl _
  ·rename_i hne
   right
   simp only [beq_iff_eq] at hne
   rcases q6 with h | h
   ·exact absurd h hne
   ·show arr.size ≤ min f.1 arr.size; omega
 have hb' : (w.freeze ⟨l.b, arr.size, none⟩ 1).heap[l.b]? = some (.cells arr e f') := by
  obtain ⟨f1, f2⟩ := f
  simp only [World.freeze, Nat.one_ne_zero, if_false, Array.getElem?_modify, if_true, q4, Option.map_some]
  rfl
 have hoth : ∀ b', b' ≠ l.b → (w.freeze ⟨l.b, arr.size, none⟩ 1).heap[b']? = w.heap[b']? := by
  intro b' hne
  simp only [World.freeze, Nat.one_ne_zero, if_false, Array.getElem?_modify]
  rw [if_neg (fun e => hne e.symm)]
 have hsz : (w.freeze ⟨l.b, arr.size, none⟩ 1).heap.size = w.heap.size := by simp [World.freeze]
 have hio : (w.freeze ⟨l.b, arr.size, none⟩ 1).os = w.os ∧ (w.freeze ⟨l.b, arr.size, none⟩ 1).output = w.output := by simp [World.freeze]
 obtain ⟨ys, p1, p2, p3, p4⟩ := conEs_vals q7
 obtain ⟨ν', hν, hext, hst'⟩ := St.update (hio := hio) (w' := w.freeze ⟨l.b, arr.size, none⟩ 1) (k := k) (n' := n) (o' := ob) (b := l.b) hst hkn (Nat.le_refl _) (by omega) hb'
   (fun b' hne _ => hoth b' hne) q5 hf' (by intro a0 e0 f0 h0; rw [q4] at h0; simp only [Option.some.injEq, Obj.cells.injEq] at h0; rw [h0.1])
   (by intro l2 hl2; rw [hl1] at hl2; obtain rfl := Option.some.inj hl2; exact ⟨by omega, by omega, fun _ => rfl⟩)
   (by intro k' o l2 hne hm' hl2 he; exact hne (hst.mem.inj k' k o ob l2 l hm' hm hl2 hl1 he))
   (by
    intro ν' hν' hext
    refine conEs_of hb' ob.z ob.es 0 ys (conEs_len q7) (ConVs.mono hext _ _ p1) p3 ?_
    intro j y hy
    have := p4 j y hy
    rw [cell?_cells q4] at this
    exact this)
 rw [set_self hm] at hst'
 refine ⟨_, ?_, ν', hext, hst', Con.mono hext _ _ hx'⟩
 have hsh : w.shape? l.b = some (e, arr.size) := by simp [World.shape?, q4]
 simp [convert, Sem.run_bind, run_underlying' hu, run_underlying' he, Result.andThen, markStringish, hsh, Sem.run_pure]
set_option maxHeartbeats 1000000 in
theorem eop_sound {o : Oper} {a : Act} {σ : Nat → D} {K : D → Mem → Nat → Prop} (hst : St w ν F m n) (hσ : ∀ i, Con w ν F (σ i) (a.tmps.getD i undef))
  (h : eop P σ m n o.op K) : Does P o a w (ResR w ν F K) := by
 obtain ⟨dst, op, type, pos, after, guard⟩ := o
 cases op with
 | alloc t =>
  simp only [eop] at h
  split at h
  ·rename_i zs hz
   obtain ⟨v, hv, hvz, hone⟩ := tzero_some (w := w) hz
   have := does_var (P := P) (o := ⟨dst, .alloc t, type, pos, after, guard⟩) (a := a) (K := K) (e := t) (v := v) (cs := zs.map .v) hst
    (by simp [execOp, Instr.alloc, Sem.run_bind, hv, Result.andThen, Sem.run_pure]) (by rw [hvz]; exact conVs_v zs) (by rw [hvz]; exact hone) (by simpa using h)
   exact this
  ·exact h.elim
 | box t x =>
  simp only [eop] at h
  obtain ⟨hok, hK⟩ := h
  obtain ⟨hcc, h1⟩ := con_cells (con_ev hσ x) hok
  exact does_var (e := t) (v := a.eval x) hst (by simp [execOp, Instr.box, Sem.run_bind, Result.andThen, Sem.run_pure]) hcc h1 hK
 | buildSlice t len ps =>
  simp only [eop] at h
  split at h
  ·rename_i z b zs ht hz
   split at h
   ·rename_i es hf
    obtain ⟨hlen, hK⟩ := h
    obtain ⟨e, v, hu, hv, hvz, hone⟩ := tezero_some (w := w) hz
    obtain ⟨e', hu', hsz, hz1⟩ := tcode_slice ht
    rw [hu] at hu'; obtain rfl : e = e' := by simpa using hu'
    have hzl := tezero_len hz ht
    have hrl : ∀ x ∈ List.replicate len (zs.map D.v), x.length = z := by intro x hx; rw [List.eq_of_mem_replicate hx]; simpa using hzl
    obtain ⟨hes1, hes2⟩ := fillE_len _ _ _ hf hrl
    have hfd := fillE_fillD _ _ _ hf hrl
    have hvs : v.cells.size = z := by rw [← hzl, ← hvz]; simp
    -- the zeros, as the machine makes them
    let zero : Array Value := if len * z = 0 then #[] else v.cells
    have hz0 : ((if len * z = 0 then pure #[] else do pure (← zeroValue e).cells : Sem (Array Value))).run P w = .ok zero w := by
     show _ = Result.ok (if len * z = 0 then #[] else v.cells) w
     split <;> simp [Sem.run_bind, Sem.run_pure, hv, Result.andThen]
    have hcells : ((Array.range (len * z)).map (fun i => zero[i % zero.size]!)).toList = (List.replicate len zs).flatten := by
     by_cases hl0 : len * z = 0
     ·have : len = 0 := by rcases Nat.mul_eq_zero.1 hl0 with h | h <;> omega
      subst this; simp
     ·have hze : zero = v.cells := by show (if len * z = 0 then #[] else v.cells) = v.cells; rw [if_neg hl0]
      rw [hze, ← hvz, ← zeros_eq v.cells (by omega) len, hvs]
    obtain ⟨ys, hfill, hcon, h1⟩ := run_fill (w := w) (ν := ν) (F := F) (ps.toList.map fun p => (p.1, ev σ p.2)) ((ps.map fun p => (p.1, a.eval p.2)).toList) _ ((Array.range (len * z)).map (fun i => zero[i % zero.size]!)) _ hfd
     (by simp [Function.comp_def]) (by
      intro i p v' h1 h2
      simp only [Array.toList_map, List.getElem?_map, Option.map_eq_some_iff] at h1 h2
      obtain ⟨q, hq, rfl⟩ := h1
      obtain ⟨q', hq', rfl⟩ := h2
      rw [hq] at hq'
      obtain rfl := Option.some.inj hq'
      exact con_ev hσ _) (by rw [hcells]; exact flatten_replicate_v zs len) (by
      rw [hcells]; intro x hx
      simp only [List.mem_flatten, List.mem_replicate] at hx
      obtain ⟨l, ⟨_, rfl⟩, hx⟩ := hx
      exact hone x hx)
    have hyl : ys.size = len * z := by
     have hcl : es.flatten.length = ys.size := (conVs_length hcon).trans Array.length_toList
     rw [← hcl]
     have htot : ∀ l : List (List D), (∀ x ∈ l, x.length = z) → l.flatten.length = l.length * z := by
      intro l
      induction l with
      | nil => simp
      | cons a l ihl => intro hh; simp only [List.flatten_cons, List.length_append, List.length_cons, ihl (fun x hx => hh x (by simp [hx])), hh a (by simp), Nat.add_mul]; omega
     rw [htot es hes1, hes2]; simp
    refine does_slice (e := e) (arr := ys) (c := len) (ys := ys.toList) (rest := []) hst ?_ (Nat.le_refl _) (by omega) (by simp) hes1 hcon h1 hK
    have hn24 : ¬ (len * z > 2 ^ 24) := by omega
    simp only [execOp, Instr.buildSlice, Sem.run_bind, run_underlying' hu, Result.andThen, run_sizeOf' hsz]
    rw [if_neg hn24]
    have hfill' : Instr.fill (fun i => some (i * z, z)) ((Array.range (len * z)).map (fun i => zero[i % zero.size]!)) (ps.map fun x => (x.1, a.eval x.2)).toList = some ys := hfill
    by_cases hl0 : len * z = 0
    ·have hzz : zero = #[] := by show (if len * z = 0 then #[] else v.cells) = #[]; rw [if_pos hl0]
     rw [hzz] at hfill'
     rw [if_pos hl0]
     simp only [Sem.run_bind, Result.andThen, Sem.run_pure, hfill', run_newRow]
    ·have hzz : zero = v.cells := by show (if len * z = 0 then #[] else v.cells) = v.cells; rw [if_neg hl0]
     rw [hzz] at hfill'
     rw [if_neg hl0]
     simp only [Sem.run_bind, Result.andThen, Sem.run_pure, hv, hfill', run_newRow]
   ·exact h.elim
  ·exact h.elim
 | makeSlice t l c =>
  simp only [eop] at h
  have hl := con_ev hσ l
  have hc := con_ev hσ c
  split at h
  ·rename_i z b zs k1 lv k2 cv ht hz e1 e2
   obtain ⟨h0, hlc, hcm, hbc, hK⟩ := h
   rw [e1] at hl; rw [e2] at hc; simp only [Con] at hl hc
   obtain ⟨e, v, hu, hv, hvz, hone⟩ := tezero_some (w := w) hz
   obtain ⟨e', i, hu', hti, hib, his⟩ := telem_bytes (w := w) ht
   rw [hu] at hu'; obtain rfl : e = e' := by simpa using hu'
   obtain ⟨e', hu', hsz, hz1⟩ := tcode_slice ht
   rw [hu] at hu'; obtain rfl : e = e' := by simpa using hu'
   have hzl := tezero_len hz ht
   have hvs : v.cells.size = z := by rw [← hzl, ← hvz]; simp
   have hwl : IntKind.i64.wrap lv = lv := by simp [IntKind.wrap, IntKind.signed, IntKind.bits, IntKind.max, IntKind.min]; omega
   have hwc : IntKind.i64.wrap cv = cv := by simp [IntKind.wrap, IntKind.signed, IntKind.bits, IntKind.max, IntKind.min]; omega
   let zero : Array Value := if cv.toNat * z = 0 then #[] else v.cells
   have hz0 : ((if cv.toNat * z = 0 then pure #[] else do pure (← zeroValue e).cells : Sem (Array Value))).run P w = .ok zero w := by
    show _ = Result.ok (if cv.toNat * z = 0 then #[] else v.cells) w
    split <;> simp [Sem.run_bind, Sem.run_pure, hv, Result.andThen]
   have hcells : ((Array.range (cv.toNat * z)).map (fun i => zero[i % zero.size]!)).toList = (List.replicate cv.toNat zs).flatten := by
    by_cases hl0 : cv.toNat * z = 0
    ·have : cv.toNat = 0 := by rcases Nat.mul_eq_zero.1 hl0 with h | h <;> omega
     rw [this]; simp
    ·have hze : zero = v.cells := by show (if cv.toNat * z = 0 then #[] else v.cells) = v.cells; rw [if_neg hl0]
     rw [hze, ← hvz, ← zeros_eq v.cells (by omega) cv.toNat, hvs]
   have hroom : (askRoom (cv.toNat * b)).run P w = .ok () w := by
    unfold askRoom
    have : cv.toNat * b ≤ 70368744177664 := by
     have h2 : (cv.toNat : Int) = cv := by omega
     have : ((cv.toNat * b : Nat) : Int) = b * cv := by push_cast; rw [h2, Int.mul_comm]
     omega
    rw [if_neg (by unfold roomBytes; omega)]; simp [Sem.run_pure]
   refine does_slice (e := e) (arr := (Array.range (cv.toNat * z)).map (fun i => zero[i % zero.size]!)) (c := cv.toNat) (ys := (List.replicate lv.toNat zs).flatten) (rest := (List.replicate (cv.toNat - lv.toNat) zs).flatten) hst ?_ (by omega)
    (by simp) ?_ ?_ (flatten_replicate_v zs _) ?_ hK
   ·simp only [execOp, Instr.makeSlice, Sem.run_bind, run_underlying' hu, Result.andThen, hl, hc, asInt, asIntOf, Sem.run_pure, hti, hib, hwl, hwc]
    have hcond : ((decide (cv < 0) || decide ((b : Int) * cv > 2 ^ 48)) || decide (lv < 0) || decide (lv > cv)) = false := by
     simp; omega
    simp only [hcond, Bool.false_eq_true, if_false, Sem.run_bind, Sem.run_pure, Result.andThen, hroom, run_sizeOf' hsz]
    by_cases hl0 : cv.toNat * z = 0
    ·have hzz : zero = #[] := by show (if cv.toNat * z = 0 then #[] else v.cells) = #[]; rw [if_pos hl0]
     rw [hzz, if_pos hl0]
     simp only [Sem.run_bind, Result.andThen, Sem.run_pure, run_newRow]
    ·have hzz : zero = v.cells := by show (if cv.toNat * z = 0 then #[] else v.cells) = v.cells; rw [if_neg hl0]
     rw [hzz, if_neg hl0]
     simp only [Sem.run_bind, Result.andThen, Sem.run_pure, hv, run_newRow]
   ·rw [hcells, ← List.flatten_append, List.replicate_append_replicate]
    congr 2; omega
   ·intro x hx; rw [List.eq_of_mem_replicate hx]; simpa using hzl
   ·intro x hx
    simp only [List.mem_flatten, List.mem_replicate] at hx
    obtain ⟨l', ⟨_, rfl⟩, hx⟩ := hx
    exact hone x hx
  ·exact h.elim
 | store t x y =>
  simp only [eop] at h
  have hx := con_ev hσ x
  split at h
  ·rename_i z k g i j hz e
   split at h
   ·rename_i ob hm
    obtain ⟨hg, hi, hj, hok, hl, hK⟩ := h
    rw [e] at hx
    obtain ⟨w', hr, ν', hext, hst'⟩ := store_var (P := P) hst hz hx (con_ev hσ y) hm hg hi hj hok hl
    refine .inr (.inl ⟨w', ?_, ν', F, undefD, _, n, hext, hst', con_undef, hK⟩)
    simp only [execOp, Sem.run_bind, hr, Result.andThen, Sem.run_pure]
   ·exact h.elim
  ·exact h.elim
 | convert src dst x =>
  simp only [eop] at h
  have hx := con_ev hσ x
  split at h
  ·rename_i k g o len z e
   split at h
   ·rename_i ob hm
    obtain ⟨rfl, hb, hg, hK⟩ := h
    rw [e] at hx
    obtain ⟨w', hr, ν', hext, hst', hc⟩ := mark_own hst hb hx hm hg
    exact .inl ⟨_, w', by simp [execOp, Sem.run_bind, hr, Result.andThen, Sem.run_pure], ν', F, _, _, _, hext, hst', hc, hK⟩
   ·exact h.elim
  ·rename_i s e
   obtain ⟨hs, hd, hK⟩ := h
   rw [e] at hx; simp only [Con] at hx
   obtain ⟨el, hu, he⟩ := tbyte_some hd
   let q := Question.appendCap s.size 0 el
   let c := q.cut (w.tape w.drawn q)
   have hc : s.size ≤ c := by show s.size ≤ Question.cut (.appendCap s.size 0 el) _; simp only [Question.cut]; omega
   let arr : Array Value := s.data.map (fun b => Value.int .u8 b.toNat) ++ Array.replicate (c - s.size) (.int .u8 0)
   have hasz : arr.size = c := by
    show (s.data.map (fun b => Value.int .u8 b.toNat) ++ Array.replicate (c - s.size) (Value.int .u8 0)).size = c
    have : s.data.size = s.size := rfl
    simp only [Array.size_append, Array.size_map, Array.size_replicate, this]; omega
   let wA : World := w.drew.alloc (.cells arr el)
   let w' : World := wA.freeze ⟨w.heap.size, arr.size, none⟩ 1
   have hw' : w'.heap = w.heap.push (.cells arr el (arr.size, arr.size + 1)) := by
    show (World.freeze _ _ 1).heap = _
    simp only [World.freeze, Nat.one_ne_zero, if_false]
    apply Array.ext_getElem?
    intro i
    rw [Array.getElem?_modify]
    show (if _ then _ else (w.heap.push (.cells arr el))[i]?) = _
    by_cases hi : w.heap.size = i
    ·subst hi
     show (if w.heap.size = w.heap.size then Option.map _ (w.heap.push (.cells arr el))[w.heap.size]? else _) = _
     simp
    ·rw [if_neg hi]; simp [Array.getElem?_push, Ne.symm hi]
   obtain ⟨ν', hν, hext, hst'⟩ := St.alloc (hio := ⟨rfl, rfl⟩) (w' := w') (o' := ⟨1, s.data.toList.map bEnc, 0⟩) (ys := s.data.toList.map fun b => Value.int .u8 b.toNat) (rest := List.replicate (c - s.size) (.int .u8 0)) hst hw'
    (.inr (Nat.le_refl _)) (by show (s.data.map (fun b => Value.int .u8 b.toNat) ++ Array.replicate (c - s.size) (Value.int .u8 0)).toList = _; simp)
    (by intro x hx; simp only [List.mem_map] at hx; obtain ⟨b, _, rfl⟩ := hx; rfl)
    (by
     have : ∀ l : List UInt8, ConVs w ν F (l.map bEnc).flatten (l.map fun b => Value.int .u8 b.toNat) := by
      intro l
      induction l with
      | nil => simp [ConVs]
      | cons x r ih => simp only [List.map_cons, List.flatten_cons, bEnc, List.cons_append, List.nil_append, ConVs]; exact ⟨_, _, rfl, by simp [Con], ih⟩
     exact this _)
    (by intro x hx; simp only [List.mem_map] at hx; obtain ⟨b, _, rfl⟩ := hx; rfl)
   refine .inl ⟨.slice (some ⟨w.heap.size, 0, none⟩) s.size c, w', ?_, ν', F, _, _, _, hext, hst', ?_, hK⟩
   ·have hfo : q.forced = false := rfl
    have hch : (choose q).run P w = .ok c w.drew := by simp only [choose, Sem.run, hfo]; rfl
    simp only [execOp, hx, convert, Sem.run_bind, run_underlying' (tcode_3 hs), run_underlying' hu, run_underlying' he, Result.andThen, Conv.stringToBytes]
    rw [show (choose (.appendCap s.size 0 el)).run P w = .ok c w.drew from hch]
    simp only [run_newRow]
    have hsh : ({ w.drew with heap := w.drew.heap.push (.cells arr el) } : World).shape? w.heap.size = some (el, arr.size) := by
     show (match (w.heap.push (.cells arr el))[w.heap.size]? with | some (.cells c e _) => some (e, c.size) | _ => none) = _
     rw [Array.getElem?_push_size]
    have hms : (markStringish ⟨w.heap.size, 0, none⟩).run P ({ w.drew with heap := w.drew.heap.push (.cells arr el) } : World) = .ok () w' := by
     simp only [markStringish, shape, Sem.run_bind, Sem.run, hsh, Result.andThen, freeze, pure]
     rfl
    have hms' : (markStringish ⟨w.drew.heap.size, 0, none⟩).run P ({ w.drew with heap := w.drew.heap.push (.cells arr el) } : World) = .ok () w' := hms
    simp only [arr] at hms'
    simp only [hms', Sem.run_pure]
    rfl
   ·refine con_own_new (b := w.heap.size) (arr := arr) (e := el) (f := (arr.size, arr.size + 1)) (by rw [hν]; simp) hc (by rw [hw']; simp) (by omega)
  ·exact h.elim
 | call c =>
  obtain ⟨callee, args, argTypes⟩ := c
  simp only [eop] at h
  split at h
  ·rename_i s x t t' hargs hty
   obtain rfl : args = #[s, x] := by rw [← Array.toArray_toList (xs := args), hargs]
   obtain rfl : argTypes = #[t, t'] := by rw [← Array.toArray_toList (xs := argTypes), hty]
   have hs := con_ev hσ s
   have hx := con_ev hσ x
   have key : ∀ v w', (Builtin.append_ #[t, t'] type #[a.eval s, a.eval x]).run P w = .ok v w' →
     (execOp a.eval ⟨dst, .call { callee := .builtin .append, args := #[s, x], argTypes := #[t, t'] }, type, pos, after, guard⟩).run P w = .ok (.value v) w' := by
    intro v w' hv
    simp [execOp, resolve, Sem.run_bind, Sem.run_pure, Result.andThen, invoke, builtin, hv]
   split at h
   ·rename_i kk hti
    split at h
    ·rename_i z b zs lv ht hz e1 e2
     obtain ⟨h0, hb1, hroom, hK⟩ := h
     rw [e1] at hs; rw [e2] at hx; simp only [Con] at hs hx
     obtain ⟨v, w', hr, ν', hext, hst', hv⟩ := append_zeros (ty := type) hst ht hz hti h0 hb1 hroom
     exact .inl ⟨v, w', key v w' (by rw [hs, hx]; exact hr), ν', F, _, _, _, hext, hst', hv, hK⟩
    ·exact h.elim
   rename_i hti
   split at h
   ·rename_i z b O xs ht hel
    simp only [ht, Option.map_some, Option.getD_some] at hel
    split at h
    ·rename_i k g o len z' e
     split at h
     ·rename_i ob hm
      obtain ⟨h1, h2, hO, rfl, rfl, hg, hle, hb1, hroom, hK⟩ := h
      rw [e] at hs
      obtain ⟨v, w', hr, ν', hext, hst', hv⟩ := append_own (ty := type) hst ht h1 h2 hel hO hx hs hm hg hle hb1 hroom
      exact .inl ⟨v, w', key v w' hr, ν', F, _, _, _, hext, hst', hv, hK⟩
     ·exact h.elim
    ·rename_i e
     obtain ⟨h1, h2, hO, hb1, hroom, hK1, hK2⟩ := h
     rw [e] at hs; simp only [Con] at hs
     by_cases hne : xs = []
     ·refine .inl ⟨_, w, key _ w (by rw [hs]; exact append_none hst ht h1 h2 hel hO hx hne), ν, F, _, _, _, Ext.refl _ _ _, hst, con_v _, hK1 hne⟩
     ·obtain ⟨v, w', hr, ν', hext, hst', hv⟩ := append_new (ty := type) (base := none) hst ht h1 h2 hel hO hx hb1 hroom hne
      exact .inl ⟨v, w', key v w' (by rw [hs]; exact hr), ν', F, _, _, _, hext, hst', hv, hK2 hne⟩
    ·rename_i e
     obtain ⟨h1, h2, hO, hb1, hroom, hK1, hK2⟩ := h
     rw [e] at hs; simp only [Con] at hs; obtain ⟨ad, hs⟩ := hs
     by_cases hne : xs = []
     ·refine .inl ⟨_, w, key _ w (by rw [hs]; exact append_none hst ht h1 h2 hel hO hx hne), ν, F, .mt, _, _, Ext.refl _ _ _, hst, by simp only [Con]; exact ⟨ad, rfl⟩, hK1 hne⟩
     ·obtain ⟨v, w', hr, ν', hext, hst', hv⟩ := append_new (ty := type) (base := ad) hst ht h1 h2 hel hO hx hb1 hroom hne
      exact .inl ⟨v, w', key v w' (by rw [hs]; exact hr), ν', F, _, _, _, hext, hst', hv, hK2 hne⟩
    ·exact h.elim
   ·exact h.elim
  ·rename_i x t hargs hty
   obtain rfl : args = #[x] := by rw [← Array.toArray_toList (xs := args), hargs]
   obtain rfl : argTypes = #[t] := by rw [← Array.toArray_toList (xs := argTypes), hty]
   have hx := con_ev hσ x
   split at h
   ·rename_i z b zs k g o len z' ht hz e
    split at h
    ·rename_i ob hm
     obtain ⟨rfl, hg, hle, hK⟩ := h
     rw [e] at hx
     obtain ⟨w', hr, ν', hext, hst'⟩ := clear_own (ty := type) hst ht hz hx hm hg hle
     refine .inl ⟨undef, w', ?_, ν', F, undefD, _, n, hext, hst', con_undef, hK⟩
     simp [execOp, resolve, Sem.run_bind, Sem.run_pure, Result.andThen, invoke, builtin, hr]
    ·exact h.elim
   ·exact h.elim
  ·rename_i f
   split at h
   ·rename_i id fs cs e
    have hf := con_ev hσ f
    rw [e] at hf; simp only [Con] at hf
    obtain ⟨ys, zs, hy, h1, h2⟩ := hf
    obtain ⟨hcal, hcalls⟩ := h
    refine .inr (.inr ⟨id, ys ++ args.map a.eval ++ zs, w, ?_, ?_⟩)
    ·simp only [execOp, resolve, Sem.run_bind, hy, Deferred.ofValue, Sem.run_pure, Result.andThen, invoke, run_callFunc hcal]
    ·refine hcalls w ν F _ hst ?_
     simp only [Array.toList_append, Array.toList_map]
     exact conVs_append (conVs_append h1 (conVs_map hσ args.toList)) h2
   ·exact h.elim
  ·exact h.elim
 | _ => simp [eop] at h
end
end Go.Proofs.Mv.V
namespace Go.Proofs.Mv.V
variable [GI]

theorem pop_congr {P : Program} {σ σ' : Nat → D} {op : Op} (h : ∀ x ∈ op.operands, ev σ x = ev σ' x) : pop P σ op = pop P σ' op := by
 cases op with
 | build t ps =>
  simp only [pop]
  have : (ps.toList.map fun p => (p.1, ev σ p.2)) = (ps.toList.map fun p => (p.1, ev σ' p.2)) := by
   apply List.map_congr_left
   intro p hp
   rw [h p.2 (by simp only [Op.operands, List.mem_toArray, List.mem_map]; exact ⟨p, hp, rfl⟩)]
  rw [this]
 | makeFunc fn fs cs =>
  simp only [pop]
  rw [List.map_congr_left (l := fs.toList) (fun x hx => h x (by simp [Op.operands] at hx ⊢; exact .inl hx)), List.map_congr_left (l := cs.toList) (fun x hx => h x (by simp [Op.operands] at hx ⊢; exact .inr hx))]
 | slice t x lo hi mx =>
  simp only [pop]
  have h0 := h x (by simp [Op.operands])
  have h1 : lo.map (ev σ) = lo.map (ev σ') := by cases lo with | none => rfl | some y => simp [h y (by simp [Op.operands])]
  have h2 : hi.map (ev σ) = hi.map (ev σ') := by cases hi with | none => rfl | some y => simp [h y (by simp [Op.operands])]
  have h3 : mx.map (ev σ) = mx.map (ev σ') := by cases mx with | none => rfl | some y => simp [h y (by simp [Op.operands])]
  rw [h0, h1, h2, h3]
 | call c =>
  simp only [pop]
  split <;> try rfl
  all_goals
   rename_i x t _ hargs _
   have hx : x ∈ c.args := by
    have : x ∈ c.args.toList := by rw [hargs]; simp
    simpa using this
   rw [h x (by simp [Op.operands, Call.operands]; exact .inr hx)]
 | move x => simp only [pop]; rw [h x (by simp [Op.operands])]
 | assign x => simp only [pop]; rw [h x (by simp [Op.operands])]
 | pick c x y => simp only [pop]; rw [h c (by simp [Op.operands]), h x (by simp [Op.operands]), h y (by simp [Op.operands])]
 | nilCheck x => simp only [pop]; rw [h x (by simp [Op.operands])]
 | binOp o t x y t' => simp only [pop]; rw [h x (by simp [Op.operands]), h y (by simp [Op.operands])]
 | unOp o t x => simp only [pop]; rw [h x (by simp [Op.operands])]
 | convert s d x => simp only [pop]; rw [h x (by simp [Op.operands])]
 | makeInterface t x => simp only [pop]; rw [h x (by simp [Op.operands])]
 | field t x f => simp only [pop]; rw [h x (by simp [Op.operands])]
 | index t x i => simp only [pop]; rw [h x (by simp [Op.operands]), h i (by simp [Op.operands])]
 | extract x i => simp only [pop]; rw [h x (by simp [Op.operands])]
 | fieldAddr s x f => simp only [pop]; rw [h x (by simp [Op.operands])]
 | indexAddr t x i => simp only [pop]; rw [h x (by simp [Op.operands]), h i (by simp [Op.operands])]
 | load t x => simp only [pop]; rw [h x (by simp [Op.operands])]
 | _ => rfl

theorem rop_congr {P : Program} {σ σ' : Nat → D} {m : Mem} {op : Op} (h : ∀ x ∈ op.operands, ev σ x = ev σ' x) : rop P σ m op = rop P σ' m op := by
 cases op with
 | convert s d x => simp only [rop]; rw [h x (by simp [Op.operands])]
 | load t x => simp only [rop]; rw [h x (by simp [Op.operands])]
 | _ => rfl

theorem rop_mem {P : Program} {σ : Nat → D} {m m' : Mem} {op : Op} {O : Prop} {d : D} {k : Nat} (h : rop P σ m op = some (O, d, k)) (hk : m' k = m k) : rop P σ m' op = some (O, d, k) := by
 cases op with
 | load t x =>
  simp only [rop] at h ⊢
  split at h
  ·rename_i b z k' g i j ha hz e
   have hk' : k' = k := by
    split at h
    ·split at h <;> · simp only [Option.some.injEq, Prod.mk.injEq] at h; exact h.2.2
    ·simp at h
   subst hk'; simp only [hk]; exact h
  ·simp at h
 | convert s d x =>
  simp only [rop] at h ⊢
  split at h
  ·rename_i k' g o n z e
   have hk' : k' = k := by
    split at h
    ·split at h
     ·simp only [Option.some.injEq, Prod.mk.injEq] at h; exact h.2.2
     ·simp at h
    ·simp at h
   subst hk'; simp only [hk]; exact h
  ·simp at h
 | _ => simp [rop] at h

theorem eop_congr {P : Program} {σ σ' : Nat → D} {m : Mem} {n : Nat} {op : Op} {K : D → Mem → Nat → Prop} (h : ∀ x ∈ op.operands, ev σ x = ev σ' x) : eop P σ m n op K = eop P σ' m n op K := by
 cases op with
 | buildSlice t len ps =>
  simp only [eop]
  have : (ps.toList.map fun p => (p.1, ev σ p.2)) = (ps.toList.map fun p => (p.1, ev σ' p.2)) := by
   apply List.map_congr_left
   intro p hp
   rw [h p.2 (by simp only [Op.operands, List.mem_toArray, List.mem_map]; exact ⟨p, hp, rfl⟩)]
  rw [this]
 | box t x => simp only [eop]; rw [h x (by simp [Op.operands])]
 | makeSlice t l c => simp only [eop]; rw [h l (by simp [Op.operands]), h c (by simp [Op.operands])]
 | store t a x => simp only [eop]; rw [h a (by simp [Op.operands]), h x (by simp [Op.operands])]
 | convert s d x => simp only [eop]; rw [h x (by simp [Op.operands])]
 | call c =>
  simp only [eop]
  have hmem : ∀ x ∈ c.args.toList, ev σ x = ev σ' x := fun x hx => h x (by simp [Op.operands, Call.operands] at hx ⊢; exact .inr hx)
  split
  ·rename_i s x t t' _ hargs _
   rw [hargs] at hmem
   rw [hmem s (by simp), hmem x (by simp)]
  ·rename_i x t _ hargs _
   rw [hargs] at hmem
   rw [hmem x (by simp)]
  ·rename_i f hc
   rw [h f (by simp [Op.operands, Call.operands, hc]), List.map_congr_left hmem]
  ·rfl
 | _ => rfl

theorem eop_mono {P : Program} {σ : Nat → D} {m : Mem} {n : Nat} {op : Op} {K K' : D → Mem → Nat → Prop} (hK : ∀ d m n, K d m n → K' d m n) (h : eop P σ m n op K) : eop P σ m n op K' := by
 cases op with
 | alloc t => simp only [eop] at h ⊢; split at h <;> first | exact hK _ _ _ h | exact h
 | box t x => simp only [eop] at h ⊢; exact ⟨h.1, hK _ _ _ h.2⟩
 | buildSlice t len ps =>
  simp only [eop] at h ⊢
  split at h
  ·split at h
   ·exact ⟨h.1, hK _ _ _ h.2⟩
   ·exact h
  ·exact h
 | makeSlice t l c =>
  simp only [eop] at h ⊢
  split at h
  ·obtain ⟨h1, h2, h3, h4, h5⟩ := h; exact ⟨h1, h2, h3, h4, hK _ _ _ h5⟩
  ·exact h
 | store t a x =>
  simp only [eop] at h ⊢
  split at h
  ·split at h
   ·obtain ⟨h1, h2, h3, h4, h5, h6⟩ := h; exact ⟨h1, h2, h3, h4, h5, hK _ _ _ h6⟩
   ·exact h
  ·exact h
 | convert s d x =>
  simp only [eop] at h ⊢
  split at h
  ·split at h
   ·exact ⟨h.1, h.2.1, h.2.2.1, hK _ _ _ h.2.2.2⟩
   ·exact h
  ·exact ⟨h.1, h.2.1, hK _ _ _ h.2.2⟩
  ·exact h
 | call c =>
  simp only [eop] at h ⊢
  split at h
  ·split at h
   ·split at h
    ·exact ⟨h.1, h.2.1, h.2.2.1, hK _ _ _ h.2.2.2⟩
    ·exact h
   split at h
   ·split at h
    ·split at h
     ·obtain ⟨h1, h2, h3, h4, h5, h6, h7, h8, h9, h10⟩ := h; exact ⟨h1, h2, h3, h4, h5, h6, h7, h8, h9, hK _ _ _ h10⟩
     ·exact h
    ·obtain ⟨h1, h2, h3, h4, h5, h6, h7⟩ := h; exact ⟨h1, h2, h3, h4, h5, fun e => hK _ _ _ (h6 e), fun e => hK _ _ _ (h7 e)⟩
    ·obtain ⟨h1, h2, h3, h4, h5, h6, h7⟩ := h; exact ⟨h1, h2, h3, h4, h5, fun e => hK _ _ _ (h6 e), fun e => hK _ _ _ (h7 e)⟩
    ·exact h
   ·exact h
  ·split at h
   ·split at h
    ·exact ⟨h.1, h.2.1, h.2.2.1, hK _ _ _ h.2.2.2⟩
    ·exact h
   ·exact h
  ·split at h
   ·refine ⟨h.1, fun w ν F vals hst hv => Calls.mono (h.2 w ν F vals hst hv) fun e w' he => ?_⟩
    obtain ⟨v, rfl, ν', F', d, m', n', h1, h2, h3, h4⟩ := he
    exact ⟨v, rfl, ν', F', d, m', n', h1, h2, h3, hK _ _ _ h4⟩
   ·exact h
  ·exact h
 | _ => simp [eop] at h

def gval : D → Option (Option Bool)
 | .v (.bool b) => some (some b)
 | .any => none
 | .bb => none
 | _ => some none
def guarded (ops : Array Oper) (o : Oper) (σ : Nat → D) : Option Bool :=
 match o.guard with
 | none => some true
 | some (j, want) => match (ops[j]?).bind (·.dst) with
  | some t => (gval (σ t)).map fun b => b == some want
  | none => none
def dstOk (N : Nat) (o : Oper) : Prop :=
 match o.dst with
 | some t => t < N
 | none => True

theorem guarded_sound {w : World} {ν : Nu} {F : Nat → Prop} {ops : Array Oper} {o : Oper} {σ : Nat → D} {a : Act} {b : Bool} (hσ : ∀ i, Con w ν F (σ i) (a.tmps.getD i undef))
  (h : guarded ops o σ = some b) : Region.wanted o (yielded ops a.tmps) = b := by
 unfold guarded at h
 unfold Region.wanted
 cases hg : o.guard with
 | none => simp [hg] at h; exact h.symm
 | some gw =>
  obtain ⟨j, want⟩ := gw
  simp only [hg] at h ⊢
  unfold yielded
  cases hd : (ops[j]?).bind (·.dst) with
  | none => simp [hd] at h
  | some t =>
   simp only [hd] at h ⊢
   have hc := hσ t
   simp only [Option.map_eq_some_iff] at h
   obtain ⟨x, hx, rfl⟩ := h
   have hget : ∀ y : Value, a.tmps.getD t undef = y → (y ≠ undef → a.tmps[t]? = some y) := by
    intro y hy hne
    cases ht : a.tmps[t]? with
    | none => simp [ht] at hy; exact absurd hy.symm hne
    | some z => simp [ht] at hy; simp [hy]
   simp only [Option.bind_some]
   unfold gval at hx
   split at hx
   ·rename_i bb e
    simp only [Option.some.injEq] at hx; subst hx
    rw [e] at hc; simp only [Con] at hc
    rw [hget _ hc (by simp [undef])]
   ·simp at hx
   ·simp at hx
   ·simp only [Option.some.injEq] at hx; subst hx
    rename_i hnb hna hbb
    have hnb' : ∀ bb, a.tmps[t]? ≠ some (.bool bb) := by
     intro bb hb
     have hv : a.tmps.getD t undef = .bool bb := by simp [hb]
     rw [hv] at hc
     generalize σ t = dd at *
     cases dd with
     | v x => simp only [Con] at hc; exact hnb bb (by rw [hc])
     | any => exact hna rfl
     | ptr k g i j => simp [Con] at hc
     | rptr t cs => simp [Con] at hc
     | sl z es => simp [Con] at hc
     | own k g o n z => simp [Con] at hc
     | mt => simp [Con] at hc
     | bb => exact hbb rfl
     | iface t d => simp [Con] at hc
     | func fn fs cs => simp [Con] at hc
     | agg cs => simp [Con] at hc
     | tup cs => simp [Con] at hc
    split
    ·rename_i bb hb; exact absurd hb (hnb' bb)
    ·rfl

abbrev ESet := Nat × Nat → Prop
def cls : Op → Nat
 | .move _ | .assign _ | .pick .. | .nilCheck _ | .binOp .. | .unOp .. | .makeInterface .. | .makeFunc .. | .field .. | .index .. | .extract .. | .build .. | .slice .. | .fieldAddr .. | .indexAddr .. => 0
 | .load .. | .convert .. => 1
 | .call c => match c.callee with
  | .builtin .len => 0
  | .builtin .cap => 0
  | _ => 2
 | _ => 2
def masks (ops : Array Oper) : List Nat :=
 ops.toList.foldl (fun acc o => acc ++ [o.after.toList.foldl (fun s e => if Region.binds .any e then s ||| (1 <<< e.on) ||| acc.getD e.on 0 else s) 0]) []
def det (P : Program) (σ : Nat → D) (m : Mem) (op : Op) : Option (Prop × D × Option Nat) :=
 match pop P σ op with
 | some (O, d) => some (O, d, none)
 | none => match rop P σ m op with
  | some (O, d, k) => some (O, d, some k)
  | none => none
def addE (i : Nat) (k : Option Nat) (E : ESet) : ESet :=
 match k with
 | some k => fun p => p = (i, k) ∨ E p
 | none => E
def sstep (P : Program) (N : Nat) (ops : Array Oper) (mk : List Nat) (i : Nat) (K : ESet → (Nat → D) → Mem → Nat → Prop) (E : ESet) (σ : Nat → D) (m : Mem) (n : Nat) : Prop :=
 match ops[i]? with
 | none => False
 | some o => dstOk N o ∧ match guarded ops o σ with
  | none => False
  | some false => K E (put σ o.dst undefD) m n
  | some true =>
   if cls o.op ≤ 1 then match det P σ m o.op with
    | some (O, d, k) => O ∧ K (addE i k E) (put σ o.dst d) m n
    | none => False
   else eop P σ m n o.op fun d m' n' => (∀ p, E p → (mk.getD i 0).testBit p.1 = false → m' p.2 = m p.2) ∧ K E (put σ o.dst d) m' n'
def sexec (P : Program) (N : Nat) (ops : Array Oper) (mk : List Nat) (K : (Nat → D) → Mem → Nat → Prop) : List Nat → ESet → (Nat → D) → Mem → Nat → Prop
 | [], _, σ, m, n => K σ m n
 | i :: L, E, σ, m, n => sstep P N ops mk i (sexec P N ops mk K L) E σ m n

theorem sstep_mono {P : Program} {N : Nat} {ops : Array Oper} {mk : List Nat} {i : Nat} {K K' : ESet → (Nat → D) → Mem → Nat → Prop} {E : ESet} {σ : Nat → D} {m : Mem} {n : Nat}
  (hK : ∀ E σ m n, K E σ m n → K' E σ m n) (h : sstep P N ops mk i K E σ m n) : sstep P N ops mk i K' E σ m n := by
 unfold sstep at h ⊢
 split at h
 ·exact h
 ·rename_i o ho
  refine ⟨h.1, ?_⟩
  have h2 := h.2
  split at h2
  ·exact h2
  ·exact hK _ _ _ _ h2
  ·split at h2
   ·rename_i hc
    rw [if_pos hc]
    split at h2
    ·exact ⟨h2.1, hK _ _ _ _ h2.2⟩
    ·exact h2
   ·rename_i hc
    rw [if_neg hc]
    exact eop_mono (fun d m' n' hh => ⟨hh.1, hK _ _ _ _ hh.2⟩) h2

theorem ev_put {σ : Nat → D} {dst : Option Tmp} {d : D} {x : Operand} (h : ∀ t, dst = some t → x ≠ .tmp t) : ev (put σ dst d) x = ev σ x := by
 cases dst with
 | none => rfl
 | some t =>
  cases x with
  | tmp u =>
   have : u ≠ t := fun e => h t rfl (by rw [e])
   simp [ev, put, upd, this]
  | _ => rfl

theorem ev_put_looks {σ : Nat → D} {ops : Array Oper} {o : Oper} {dst : Option Tmp} {d : D} (h : ∀ t, dst = some t → t ∉ o.looksAt ops) : ∀ x ∈ o.op.operands, ev (put σ dst d) x = ev σ x := by
 intro x hx
 refine ev_put fun t ht e => ?_
 subst e
 exact h t ht (List.mem_append_left _ (List.mem_filterMap.2 ⟨.tmp t, by simpa using hx, rfl⟩))

theorem guarded_put {σ : Nat → D} {ops : Array Oper} {o : Oper} {dst : Option Tmp} {d : D} (h : ∀ t, dst = some t → t ∉ o.looksAt ops) : guarded ops o (put σ dst d) = guarded ops o σ := by
 unfold guarded
 cases hg : o.guard with
 | none => rfl
 | some gw =>
  obtain ⟨j, want⟩ := gw
  simp only
  cases hd : (ops[j]?).bind (·.dst) with
  | none => rfl
  | some t =>
   simp only
   cases dst with
   | none => rfl
   | some u =>
    have : t ≠ u := fun e => h u rfl (by subst e; simp [Oper.looksAt, hg, hd])
    simp [put, upd, this]

theorem put_comm {σ : Nat → D} {x y : Option Tmp} {d e : D} (h : ∀ t, x = some t → y ≠ some t) : put (put σ x d) y e = put (put σ y e) x d := by
 cases x with
 | none => rfl
 | some t =>
  cases y with
  | none => rfl
  | some u =>
   have hne : t ≠ u := fun e => h t rfl (by rw [e])
   funext j
   simp only [put, upd]
   by_cases h1 : j = u
   ·subst h1; simp [Ne.symm hne]
   ·simp [h1]

theorem det_congr {P : Program} {σ σ' : Nat → D} {m : Mem} {op : Op} (h : ∀ x ∈ op.operands, ev σ x = ev σ' x) : det P σ m op = det P σ' m op := by
 unfold det; rw [pop_congr h, rop_congr h]
theorem det_mem {P : Program} {σ : Nat → D} {m m' : Mem} {op : Op} {O : Prop} {d : D} {k : Option Nat} (h : det P σ m op = some (O, d, k)) (hk : ∀ q, k = some q → m' q = m q) : det P σ m' op = some (O, d, k) := by
 unfold det at h ⊢
 split at h
 ·rename_i hp; exact h
 ·rename_i hp
  split at h
  ·rename_i O' d' k' hr
   simp only [Option.some.injEq, Prod.mk.injEq] at h
   obtain ⟨rfl, rfl, rfl⟩ := h
   rw [rop_mem hr (hk _ rfl)]
  ·simp at h

theorem sstep_swap {P : Program} {N : Nat} {ops : Array Oper} {mk : List Nat} {y i : Nat} {oy oi : Oper} {K : ESet → (Nat → D) → Mem → Nat → Prop} {E : ESet} {σ : Nat → D} {m : Mem} {n : Nat}
  (hy : ops[y]? = some oy) (hi : ops[i]? = some oi) (hc : cls oy.op ≤ 1) (hap : oy.apart ops oi = true) (hmk : (mk.getD i 0).testBit y = false)
  (h : sstep P N ops mk y (sstep P N ops mk i K) E σ m n) : sstep P N ops mk i (sstep P N ops mk y K) E σ m n := by
 obtain ⟨a1, a2, a3⟩ := Oper.apart_spec hap
 unfold sstep at h
 simp only [hy] at h
 obtain ⟨hdy, h⟩ := h
 have hgi : ∀ σ d, guarded ops oi (put σ oy.dst d) = guarded ops oi σ := fun σ d => guarded_put a1
 have hgy : ∀ σ d, guarded ops oy (put σ oi.dst d) = guarded ops oy σ := fun σ d => guarded_put a3
 have hei : ∀ (σ : Nat → D) d, ∀ x ∈ oi.op.operands, ev (put σ oy.dst d) x = ev σ x := fun σ d => ev_put_looks a1
 have hey : ∀ (σ : Nat → D) d, ∀ x ∈ oy.op.operands, ev (put σ oi.dst d) x = ev σ x := fun σ d => ev_put_looks a3
 have hpc : ∀ (σ : Nat → D) d e, put (put σ oy.dst d) oi.dst e = put (put σ oi.dst e) oy.dst d := fun σ d e => put_comm a2
 -- what y does, whichever memory
 cases hgy0 : guarded ops oy σ with
 | none => simp [hgy0] at h
 | some by' =>
  cases by' with
  | false =>
   simp only [hgy0] at h
   unfold sstep
   simp only [hi] at h ⊢
   obtain ⟨hdi, h⟩ := h
   refine ⟨hdi, ?_⟩
   rw [hgi] at h
   split at h
   ·exact h
   ·simp only [hy, hgy, hgy0]
    exact ⟨hdy, by rw [← hpc]; exact h⟩
   ·split at h
    ·rename_i hci
     rw [if_pos hci]
     rw [det_congr (hei σ undefD)] at h
     split at h
     ·refine ⟨h.1, ?_⟩
      simp only [hy, hgy, hgy0]
      exact ⟨hdy, by rw [← hpc]; exact h.2⟩
     ·exact h
    ·rename_i hci
     rw [if_neg hci]
     rw [eop_congr (hei σ undefD)] at h
     refine eop_mono (fun d m' n' hh => ⟨hh.1, ?_⟩) h
     simp only [hy, hgy, hgy0]
     exact ⟨hdy, by rw [← hpc]; exact hh.2⟩
  | true =>
   simp only [hgy0, if_pos hc] at h
   cases hdet : det P σ m oy.op with
   | none => simp [hdet] at h
   | some r =>
    obtain ⟨O, d, k⟩ := r
    simp only [hdet] at h
    obtain ⟨hO, h⟩ := h
    unfold sstep
    simp only [hi] at h ⊢
    obtain ⟨hdi, h⟩ := h
    refine ⟨hdi, ?_⟩
    rw [hgi] at h
    split at h
    ·exact h
    ·simp only [hy, hgy, hgy0, if_pos hc, det_congr (hey σ undefD), hdet]
     exact ⟨hdy, hO, by rw [← hpc]; exact h⟩
    ·split at h
     ·rename_i hci
      rw [if_pos hci]
      rw [det_congr (hei σ d)] at h
      split at h
      ·rename_i Oi di ki hdeti
       refine ⟨h.1, ?_⟩
       simp only [hy, hgy, hgy0, if_pos hc, det_congr (hey σ di), hdet]
       refine ⟨hdy, hO, ?_⟩
       have hE : addE y k (addE i ki E) = addE i ki (addE y k E) := by
        cases k with
        | none => rfl
        | some k => cases ki with
         | none => rfl
         | some ki => funext p; simp only [addE]; exact propext ⟨fun hh => by rcases hh with hh | hh | hh <;> simp [hh], fun hh => by rcases hh with hh | hh | hh <;> simp [hh]⟩
       rw [hE, ← hpc]; exact h.2
      ·exact h
     ·rename_i hci
      rw [if_neg hci]
      rw [eop_congr (hei σ d)] at h
      refine eop_mono (fun di m' n' hh => ?_) h
      obtain ⟨hk, hh⟩ := hh
      refine ⟨fun p hp hb => hk p (by cases k with | none => exact hp | some k => exact .inr hp) hb, ?_⟩
      have hdet' : det P σ m' oy.op = some (O, d, k) := det_mem hdet (fun q hq => by subst hq; exact hk (y, q) (.inl rfl) hmk)
      simp only [hy, hgy, hgy0, if_pos hc, det_congr (hey σ di), hdet']
      exact ⟨hdy, hO, by rw [← hpc]; exact hh⟩
end Go.Proofs.Mv.V
namespace Go.Proofs.Mv.V
variable [GI]

structure Bs where
 ro : Option Nat
 ds : List Deferred
 b : Nat
 /-- No mark may stand. -/
 nm : Bool
def Bs.pl (B : Bs) : Prop := B.ro = none ∧ B.nm = false
abbrev FW (B : Bs) : Fence := { Fence.wide with round := B.ro }
theorem calls_fw {P : Program} {B : Bs} {n : Nat} {f : FuncId} {args : Array Value} {w : World} {R : Ending → World → Prop} (h : Calls P f args w R) : CallsIn (FW B) n P f args w R :=
 (callsIn_wide (n := n)).2 h
theorem wpIn_fw {P : Program} {B : Bs} {n n' : Nat} {c : Code} {Q : Exit → Act → World → Prop} {a : Act} {w : World} (h : c.wpIn (FW B) n P Q a w) : c.wpIn (FW B) n' P Q a w :=
 fun b k cs h1 h2 _ => h b k cs h1 h2 (fun d hd => (by cases hd))
def Marks (B : Bs) (w : World) (F : Nat → Prop) (l : List Deferred) : Prop :=
 ∃ mk, l = mk ++ B.ds ∧ mk.Nodup ∧ (∀ d ∈ mk, ∃ D, d = { target := .collected D, args := #[] } ∧ B.b ≤ D ∧ F D ∧ w.heap[D]? = some (.deferred (some []))) ∧ (B.nm = true → mk = [])
theorem Marks.mono {B : Bs} {w w' : World} {ν ν' : Nu} {F F' : Nat → Prop} {l : List Deferred} (H : Ext w ν F w' ν' F') (h : Marks B w F l) : Marks B w' F' l := by
 obtain ⟨mk, h1, h2, h3, h4⟩ := h
 refine ⟨mk, h1, h2, fun d hd => ?_, h4⟩
 obtain ⟨D, q1, q2, q3, q4⟩ := h3 d hd
 obtain ⟨g1, g2⟩ := H.fz D q3
 exact ⟨D, q1, q2, g1, by rw [g2]; exact q4⟩

structure ARel (N : Nat) (B : Bs) (w : World) (ν : Nu) (F : Nat → Prop) (a : Act) (σ : Nat → D) (m : Mem) (n : Nat) : Prop where
 size : a.tmps.size = N
 defers : Marks B w F a.defers
 base : B.b ≤ w.heap.size
 con : ∀ i, Con w ν F (σ i) (a.tmps.getD i undef)
 st : St w ν F m n

abbrev APost := Exit → (Nat → D) → Mem → Nat → Prop
def Lift (N : Nat) (B : Bs) (w : World) (ν : Nu) (F : Nat → Prop) (Q : APost) (e : Exit) (a' : Act) (w' : World) : Prop :=
 ∃ ν' F' σ' m' n', Ext w ν F w' ν' F' ∧ ARel N B w' ν' F' a' σ' m' n' ∧ Q e σ' m' n'

def noRange : Code → Bool
 | .seq x y => noRange x && noRange y
 | .cond _ x y => noRange x && noRange y
 | .block _ c => noRange c
 | .loop c => noRange c
 | .scope c => noRange c
 | .rangeFunc .. => false
 | _ => true

def AWP (P : Program) (N : Nat) (c : Code) (Q : APost) (σ : Nat → D) (m : Mem) (n : Nat) : Prop :=
 ∀ B : Bs, (B.pl ∨ noRange c = true) → ∀ w ν F a, ARel N B w ν F a σ m n → c.wpIn (FW B) 1 P (Lift N B w ν F Q) a w

section
variable {P : Program} {N : Nat} {B : Bs} {w w' : World} {ν ν' : Nu} {F F' : Nat → Prop} {a : Act} {σ : Nat → D} {m m' : Mem} {n n' : Nat}

theorem ARel.put {dst : Option Tmp} {d : D} {v : Value} (h : ARel N B w ν F a σ m n) (hext : Ext w ν F w' ν' F') (hst : St w' ν' F' m' n') (hv : Con w' ν' F' d v)
  (hd : ∀ t, dst = some t → t < N) : ARel N B w' ν' F' (a.put dst v) (V.put σ dst d) m' n' := by
 cases dst with
 | none => exact ⟨h.size, h.defers.mono hext, Nat.le_trans h.base hext.size, fun i => Con.mono hext _ _ (h.con i), hst⟩
 | some t =>
  have ht := hd t rfl
  refine ⟨by simp [Act.put, h.size], h.defers.mono hext, Nat.le_trans h.base hext.size, fun i => ?_, hst⟩
  simp only [Act.put, V.put, upd]
  by_cases hi : i = t
  ·subst hi
   have : i < a.tmps.size := by rw [h.size]; exact ht
   simp [this, hv]
  ·rw [if_neg hi]
   have := Con.mono hext _ _ (h.con i)
   simpa [Array.getElem?_setIfInBounds_ne (Ne.symm hi)] using this

theorem dstOk_lt {o : Oper} (h : dstOk N o) : ∀ t, o.dst = some t → t < N := by
 intro t ht; simpa [dstOk, ht] using h

theorem Lift.trans {Q : APost} {e : Exit} (hext : Ext w ν F w' ν' F') {a' : Act} {w'' : World} (h : Lift N B w' ν' F' Q e a' w'') : Lift N B w ν F Q e a' w'' := by
 obtain ⟨ν2, F2, σ2, m2, n2, h1, h2, h3⟩ := h
 exact ⟨ν2, F2, σ2, m2, n2, hext.trans h1, h2, h3⟩

theorem Does.wpIn {o : Oper} {R : Value → World → Prop} {k : Nat} {next : Act → World → Prop} {Q : Exit → Act → World → Prop}
  (h : Does P o a w R) (hd : ∀ c, o.op ≠ .defer c) (hn : ∀ v w', R v w' → next (a.put o.dst v) w') : o.wpIn (FW B) k P a w next Q := by
 refine ⟨fun _ _ => trivial, ?_⟩
 rw [Oper.semAt_eq _ _ _ hd]
 rcases h with ⟨v, w', hr, hR⟩ | ⟨w', hr, hR⟩ | ⟨f, args, w', hr, hR⟩
 ·rw [hr]; exact hn v w' hR
 ·rw [hr]; exact hn undef w' hR
 ·rw [hr]
  refine ⟨fun hh => (by cases hh), CallsIn.mono (calls_fw hR) fun e w'' he => ?_⟩
  obtain ⟨v, rfl, hv⟩ := he
  exact hn v w'' hv

/-! Regions. -/
def aop (P : Program) (σ : Nat → D) (m : Mem) (n : Nat) (op : Op) (K : D → Mem → Nat → Prop) : Prop :=
 match pop P σ op with
 | some (O, d) => O ∧ K d m n
 | none => match rop P σ m op with
  | some (O, d, _) => O ∧ K d m n
  | none => eop P σ m n op K
def ostep (P : Program) (N : Nat) (ops : Array Oper) (o : Oper) (K : (Nat → D) → Mem → Nat → Prop) (σ : Nat → D) (m : Mem) (n : Nat) : Prop :=
 dstOk N o ∧ match guarded ops o σ with
  | none => False
  | some false => K (put σ o.dst undefD) m n
  | some true => aop P σ m n o.op fun d m' n' => K (put σ o.dst d) m' n'
def vcOps (P : Program) (N : Nat) (ops : Array Oper) (K : (Nat → D) → Mem → Nat → Prop) : List Oper → (Nat → D) → Mem → Nat → Prop
 | [], σ, m, n => K σ m n
 | o :: rest, σ, m, n => ostep P N ops o (vcOps P N ops K rest) σ m n

theorem aop_nodef {op : Op} {K : D → Mem → Nat → Prop} (h : aop P σ m n op K) : ∀ c, op ≠ .defer c := by
 rintro c rfl
 unfold aop at h
 simp only [pop, rop, eop] at h
theorem eop_nodef {op : Op} {K : D → Mem → Nat → Prop} (h : eop P σ m n op K) : ∀ c, op ≠ .defer c := by
 rintro c rfl
 simp only [eop] at h
theorem det_nodef {op : Op} {r : Prop × D × Option Nat} (h : det P σ m op = some r) : ∀ c, op ≠ .defer c := by
 rintro c rfl
 unfold det at h
 simp [pop, rop] at h

theorem aop_sound {o : Oper} {K : D → Mem → Nat → Prop} (hst : St w ν F m n) (hσ : ∀ i, Con w ν F (σ i) (a.tmps.getD i undef)) (h : aop P σ m n o.op K) : Does P o a w (ResR w ν F K) := by
 unfold aop at h
 split at h
 ·rename_i O d hp
  obtain ⟨y, hr, hv⟩ := pop_sound (w := w) hσ hp h.1
  exact .inl ⟨y, w, hr, ν, F, d, m, n, Ext.refl _ _ _, hst, hv, h.2⟩
 ·split at h
  ·rename_i O d k hp
   obtain ⟨y, hr, hv⟩ := rop_sound hst hσ hp h.1
   exact .inl ⟨y, w, hr, ν, F, d, m, n, Ext.refl _ _ _, hst, hv, h.2⟩
  ·exact eop_sound hst hσ h

theorem det_sound {o : Oper} {O : Prop} {d : D} {k : Option Nat} (hst : St w ν F m n) (hσ : ∀ i, Con w ν F (σ i) (a.tmps.getD i undef)) (h : det P σ m o.op = some (O, d, k)) (hO : O) :
  ∃ y, (execOp a.eval o).run P w = .ok (.value y) w ∧ Con w ν F d y := by
 unfold det at h
 split at h
 ·rename_i hp
  simp only [Option.some.injEq, Prod.mk.injEq] at h; obtain ⟨rfl, rfl, _⟩ := h
  exact pop_sound hσ hp hO
 ·split at h
  ·rename_i hp
   simp only [Option.some.injEq, Prod.mk.injEq] at h; obtain ⟨rfl, rfl, _⟩ := h
   exact rop_sound hst hσ hp hO
  ·simp at h

theorem vcOps_sound {ops : Array Oper} {Q : APost} : ∀ (l : List Oper) (w : World) (ν : Nu) (F : Nat → Prop) (a : Act) (σ : Nat → D) (m : Mem) (n : Nat), ARel N B w ν F a σ m n →
  vcOps P N ops (Q .normal) l σ m n → wpListIn (FW B) 1 P ops (Lift N B w ν F Q) l a w := by
 intro l
 induction l with
 | nil => intro w ν F a σ m n hr h; exact ⟨ν, F, σ, m, n, Ext.refl _ _ _, hr, h⟩
 | cons o rest ih =>
  intro w ν F a σ m n hr h
  simp only [vcOps, ostep] at h
  obtain ⟨hd, h⟩ := h
  simp only [wpListIn]
  cases hg : guarded ops o σ with
  | none => simp [hg] at h
  | some b =>
   rw [guarded_sound hr.con hg]
   cases b with
   | false =>
    simp only [hg] at h
    simp only [Bool.false_eq_true, if_false]
    exact ⟨fun _ _ => trivial, ih _ _ _ _ _ _ _ (hr.put (Ext.refl _ _ _) hr.st con_undef (dstOk_lt hd)) h⟩
   | true =>
    simp only [hg] at h
    simp only [if_true]
    refine (aop_sound hr.st hr.con h).wpIn (aop_nodef h) fun v w' hv => ?_
    obtain ⟨ν', F', d, m', n', h1, h2, h3, h4⟩ := hv
    have := ih _ _ _ _ _ _ _ (hr.put h1 h2 h3 (dstOk_lt hd)) h4
    exact wpListIn_monoQ (fun e a w hq => Lift.trans h1 hq) this
where
 wpListIn_monoQ {ops : Array Oper} {Q Q' : Exit → Act → World → Prop} (hq : ∀ e a w, Q e a w → Q' e a w) : ∀ {l : List Oper} {a : Act} {w : World}, wpListIn (FW B) 1 P ops Q l a w → wpListIn (FW B) 1 P ops Q' l a w := by
  intro l
  induction l with
  | nil => intro a w h; exact hq _ _ _ h
  | cons o rest ih =>
   intro a w h
   simp only [wpListIn] at h ⊢
   split
   ·rename_i hw
    rw [if_pos hw] at h
    exact wpIn_monoQ hq (fun _ _ h => ih h) h
   ·rename_i hw
    rw [if_neg hw] at h
    exact ⟨h.1, ih h.2⟩
 wpIn_monoQ {o : Oper} {Q Q' : Exit → Act → World → Prop} {K K' : Act → World → Prop} (hq : ∀ e a w, Q e a w → Q' e a w) (hk : ∀ a w, K a w → K' a w) {a : Act} {w : World} (h : o.wpIn (FW B) 1 P a w K Q) : o.wpIn (FW B) 1 P a w K' Q' := by
  unfold Oper.wpIn at *
  refine ⟨h.1, ?_⟩
  have h := h.2
  generalize (o.semAt (FW B).round a.eval).run P w = r at *
  cases r with
  | ok x w' =>
   cases x <;> simp only [Oper.uponIn] at h ⊢ <;> first
    | exact hk _ _ h
    | (refine ⟨h.1, CallsIn.mono h.2 fun e w'' he => ?_⟩
       cases e with
       | returned v => exact hk _ _ he
       | panicked c => exact hq _ _ _ he
       | outgrown => obtain ⟨a0, w0, h2⟩ := he; exact ⟨a0, w0, hq _ _ _ h2⟩)
    | exact ⟨h.1, RowsIn.mono h.2 fun _ _ he => hk _ _ he⟩
    | (refine ⟨h.1, RoundIn.mono h.2 fun e w'' he => ?_⟩
       cases e with
       | returned v => exact hk _ _ he
       | panicked c => exact hq _ _ _ he
       | outgrown => obtain ⟨a0, w0, h2⟩ := he; exact ⟨a0, w0, hq _ _ _ h2⟩)
  | halt x w' => cases x <;> simp only [Oper.uponIn] at h ⊢; exact hq _ _ _ h

theorem awp_region {id : Nat} {ops : Array Oper} {Q : APost} (h : vcOps P N ops (Q .normal) ops.toList σ m n) : AWP P N (.region id ops false) Q σ m n :=
 fun B _ w ν F a hr => wpIn_region_list (vcOps_sound ops.toList w ν F a σ m n hr h)

/-! Regions that draw their order. -/
theorem sstep_sound {ops : Array Oper} {mk : List Nat} {i : Nat} {K : ESet → (Nat → D) → Mem → Nat → Prop} {E : ESet} {Q : Exit → Act → World → Prop} (hr : ARel N B w ν F a σ m n)
  (h : sstep P N ops mk i K E σ m n) : wpOpIn (FW B) 1 P ops Q i (fun a' w' => ∃ ν' F' E' σ' m' n', Ext w ν F w' ν' F' ∧ ARel N B w' ν' F' a' σ' m' n' ∧ K E' σ' m' n') a w := by
 unfold sstep at h
 unfold wpOpIn
 split at h
 ·exact h.elim
 ·rename_i o ho
  obtain ⟨hd, h⟩ := h
  simp only [ho]
  cases hg : guarded ops o σ with
  | none => simp [hg] at h
  | some b =>
   rw [guarded_sound hr.con hg]
   cases b with
   | false =>
    simp only [hg] at h
    simp only [Bool.false_eq_true, if_false]
    exact ⟨fun _ _ => trivial, ν, F, E, _, m, n, Ext.refl _ _ _, hr.put (Ext.refl _ _ _) hr.st con_undef (dstOk_lt hd), h⟩
   | true =>
    simp only [hg] at h
    simp only [if_true]
    split at h
    ·split at h
     ·rename_i O d k hdet
      obtain ⟨y, hrun, hv⟩ := det_sound hr.st hr.con hdet h.1
      refine ⟨fun _ _ => trivial, ?_⟩
      rw [Oper.semAt_eq _ _ _ (det_nodef hdet), hrun]
      exact ⟨ν, F, _, _, m, n, Ext.refl _ _ _, hr.put (Ext.refl _ _ _) hr.st hv (dstOk_lt hd), h.2⟩
     ·exact h.elim
    ·refine (eop_sound hr.st hr.con h).wpIn (eop_nodef h) fun v w' hv => ?_
     obtain ⟨ν', F', d, m', n', h1, h2, h3, h4⟩ := hv
     exact ⟨ν', F', E, _, m', n', h1, hr.put h1 h2 h3 (dstOk_lt hd), h4.2⟩

def pairOk (ops : Array Oper) (mk : List Nat) (y i : Nat) : Bool :=
 match ops[y]?, ops[i]? with
 | some oy, some oi => oy.after.toList.all (fun e => !Region.binds .any e || e.on != i) && y != i && ((mk.getD i 0).testBit y || (decide (cls oy.op ≤ 1) && oy.apart ops oi))
 | _, _ => false
def masksOk (ops : Array Oper) (mk : List Nat) : Bool :=
 (List.range ops.size).all fun i => match ops[i]? with
  | some o => o.after.toList.all (fun e => !Region.binds .any e || decide (e.on < i)) &&
   (List.range ops.size).all fun y => !(mk.getD i 0).testBit y || o.after.toList.any fun e => Region.binds .any e && (e.on == y || (mk.getD e.on 0).testBit y)
  | none => true
def orderGo (ops : List Oper) (mk : List Nat) : Nat → Nat → List Nat
 | 0, _ => []
 | f + 1, done =>
  let free := (List.range ops.length).filter fun i => !done.testBit i && ((mk.getD i 0) &&& done) == mk.getD i 0
  match free.find? (fun i => match ops[i]? with | some o => decide (cls o.op ≤ 1) | none => false) with
  | some i => i :: orderGo ops mk f (done ||| (1 <<< i))
  | none => match free with
   | i :: _ => i :: orderGo ops mk f (done ||| (1 <<< i))
   | [] => []
def order (ops : Array Oper) : List Nat := orderGo ops.toList (masks ops) ops.size 0

theorem masks_path {ops : Array Oper} {mk : List Nat} (hm : masksOk ops mk = true) (listed : Nat → Prop)
  (hdown : ∀ i o, ops[i]? = some o → listed i → ∀ e ∈ o.after, Region.binds .any e = true → listed e.on) :
  ∀ (b i : Nat), i < b → ∀ (o : Oper), ops[i]? = some o → (∀ e ∈ o.after, Region.binds .any e = true → listed e.on) → ∀ y, y < ops.size → (mk.getD i 0).testBit y = true → listed y := by
 intro b
 induction b with
 | zero => intro i hi; omega
 | succ b ih =>
  intro i hib o ho hpre y hy hbit
  have hi : i < ops.size := by
   rcases Nat.lt_or_ge i ops.size with h | h
   ·exact h
   ·simp [Array.getElem?_eq_none h] at ho
  have h1 := List.all_eq_true.1 hm i (by simpa using hi)
  simp only [ho, Bool.and_eq_true] at h1
  have h2 := List.all_eq_true.1 h1.2 y (by simpa using hy)
  simp only [hbit, Bool.not_true, Bool.false_or] at h2
  obtain ⟨e, he, hee⟩ := List.any_eq_true.1 h2
  simp only [Bool.and_eq_true, Bool.or_eq_true, beq_iff_eq] at hee
  have hl := hpre e (by simpa using he) hee.1
  rcases hee.2 with h | h
  ·rw [← h]; exact hl
  ·have hlt := List.all_eq_true.1 h1.1 e he
   simp only [hee.1, Bool.not_true, Bool.false_or, decide_eq_true_eq] at hlt
   have hsz : e.on < ops.size := by omega
   exact ih e.on (by omega) ops[e.on] (by simp [hsz]) (fun e' he' hb' => hdown e.on _ (by simp [hsz]) hl e' he' hb') y hy h

theorem sexec_front {ops : Array Oper} {mk : List Nat} {i : Nat} {oi : Oper} {K : (Nat → D) → Mem → Nat → Prop} (hi : ops[i]? = some oi) : ∀ (pre post : List Nat) (E : ESet) (σ : Nat → D) (m : Mem) (n : Nat),
  (∀ y ∈ pre, ∃ oy, ops[y]? = some oy ∧ cls oy.op ≤ 1 ∧ oy.apart ops oi = true ∧ (mk.getD i 0).testBit y = false) →
  sexec P N ops mk K (pre ++ i :: post) E σ m n → sexec P N ops mk K (i :: (pre ++ post)) E σ m n := by
 intro pre
 induction pre with
 | nil => intro post E σ m n _ h; exact h
 | cons y pre ih =>
  intro post E σ m n hp h
  simp only [List.cons_append, sexec] at h ⊢
  obtain ⟨oy, hy, hc, hap, hb⟩ := hp y (by simp)
  have h' := sstep_mono (fun E σ m n hh => ih post E σ m n (fun z hz => hp z (by simp [hz])) hh) h
  simp only [sexec] at h'
  exact sstep_swap hy hi hc hap hb h'

theorem draw_sound {ops : Array Oper} {mk : List Nat} {Q : APost} (hm : masksOk ops mk = true) : ∀ (fuel : Nat) (L : List Nat) (listed : Array Bool) (E : ESet) (w : World) (ν : Nu) (F : Nat → Prop) (a : Act) (σ : Nat → D) (m : Mem) (n : Nat),
  L.length = fuel → listed.size = ops.size → (∀ i, i < ops.size → (listed.getD i true = false ↔ i ∈ L)) → (∀ i ∈ L, i < ops.size) → L.Pairwise (fun y i => pairOk ops mk y i = true) →
  (∀ i o, ops[i]? = some o → i ∉ L → ∀ e ∈ o.after, Region.binds .any e = true → e.on ∉ L) →
  ARel N B w ν F a σ m n → sexec P N ops mk (Q .normal) L E σ m n → wpAnyIn (FW B) 1 P .any ops (Lift N B w ν F Q) fuel listed a w := by
 intro fuel
 induction fuel with
 | zero =>
  intro L listed E w ν F a σ m n hlen hsz hl hlt hpw hdown hr h
  obtain rfl : L = [] := List.eq_nil_of_length_eq_zero hlen
  refine ⟨?_, ν, F, σ, m, n, Ext.refl _ _ _, hr, h⟩
  rw [List.eq_nil_iff_forall_not_mem]
  intro i hi
  obtain ⟨h0, o, ho, _⟩ := mem_ready.1 hi
  have hio : i < ops.size := by
   rcases Nat.lt_or_ge i ops.size with h | h
   ·exact h
   ·simp [Array.getElem?_eq_none h] at ho
  exact absurd ((hl i hio).1 h0) (by simp)
 | succ fuel ih =>
  intro L listed E w ν F a σ m n hlen hsz hl hlt hpw hdown hr h
  have hready : ∀ i, i ∈ Region.ready .any ops listed ↔ i ∈ L ∧ ∃ o, ops[i]? = some o ∧ ∀ e ∈ o.after, Region.binds .any e = true → e.on ∉ L ∧ e.on < ops.size := by
   intro i
   rw [mem_ready]
   constructor
   ·rintro ⟨h0, o, ho, hall⟩
    have hio : i < ops.size := by
     rcases Nat.lt_or_ge i ops.size with h | h
     ·exact h
     ·simp [Array.getElem?_eq_none h] at ho
    refine ⟨(hl i hio).1 h0, o, ho, fun e he hb => ?_⟩
    have h1 := hall e he hb
    have hes : e.on < ops.size := by
     rcases Nat.lt_or_ge e.on ops.size with h | h
     ·exact h
     ·rw [← hsz] at h; simp [Array.getElem?_eq_none h] at h1
    refine ⟨fun hL => ?_, hes⟩
    have h2 := (hl e.on hes).2 hL
    have hes' : e.on < listed.size := by omega
    simp [hes'] at h1 h2
    rw [h1] at h2; cases h2
   ·rintro ⟨hL, o, ho, hall⟩
    have hio := hlt i hL
    refine ⟨(hl i hio).2 hL, o, ho, fun e he hb => ?_⟩
    obtain ⟨h1, hes⟩ := hall e he hb
    have h2 : ¬ listed.getD e.on true = false := fun hh => h1 ((hl e.on hes).1 hh)
    have hes' : e.on < listed.size := by omega
    simp [hes'] at h2 ⊢
    exact h2
  refine ⟨fun h0 => ?_, fun i hi => ?_⟩
  ·-- some operation may come up
   exfalso
   cases L with
   | nil => simp at hlen
   | cons y L =>
    have hy : y < ops.size := hlt y (by simp)
    have hmem : y ∈ Region.ready .any ops listed := by
     rw [hready]
     refine ⟨by simp, ops[y], by simp [hy], fun e he hb => ?_⟩
     have h1 := List.all_eq_true.1 hm y (by simpa using hy)
     simp only [show ops[y]? = some ops[y] by simp [hy], Bool.and_eq_true] at h1
     have hlt' := List.all_eq_true.1 h1.1 e (by simpa using he)
     simp only [hb, Bool.not_true, Bool.false_or, decide_eq_true_eq] at hlt'
     refine ⟨fun hL => ?_, by omega⟩
     rcases List.mem_cons.1 hL with hh | hh
     ·omega
     ·have hp := (List.pairwise_cons.1 hpw).1 e.on hh
      unfold pairOk at hp
      simp only [show ops[y]? = some ops[y] by simp [hy]] at hp
      split at hp
      ·rename_i oy oi hoy hoi
       simp only [Option.some.injEq] at hoy; subst hoy
       simp only [Bool.and_eq_true] at hp
       have := List.all_eq_true.1 hp.1.1 e (by simpa using he)
       simp [hb] at this
      ·simp at hp
    rw [h0] at hmem; cases hmem
  ·obtain ⟨hL, o, ho, hall⟩ := (hready i).1 hi
   obtain ⟨pre, post, rfl⟩ := List.append_of_mem hL
   have hio := hlt i hL
   have hnot : ∀ y ∈ pre ++ i :: post, ¬ (mk.getD i 0).testBit y = true := fun y hy hb =>
    masks_path hm (fun j => j ∉ pre ++ i :: post) (fun i' o' ho' hl' e he hbe => hdown i' o' ho' hl' e he hbe) (i + 1) i (by omega) o ho (fun e he hbe => (hall e he hbe).1) y (hlt y hy) hb hy
   have hpw' := List.pairwise_append.1 hpw
   have hfront : ∀ y ∈ pre, ∃ oy, ops[y]? = some oy ∧ cls oy.op ≤ 1 ∧ oy.apart ops o = true ∧ (mk.getD i 0).testBit y = false := by
    intro y hy
    have hp := hpw'.2.2 y hy i (by simp)
    unfold pairOk at hp
    split at hp
    ·rename_i oy oi hoy hoi
     rw [ho] at hoi; obtain rfl := Option.some.inj hoi
     simp only [Bool.and_eq_true, Bool.or_eq_true, decide_eq_true_eq] at hp
     have hb := hnot y (by simp [hy])
     rcases hp.2 with h1 | h1
     ·exact absurd h1 hb
     ·exact ⟨oy, hoy, h1.1, h1.2, by simpa using hb⟩
    ·simp at hp
   have hex := sexec_front (P := P) (N := N) (mk := mk) (K := Q .normal) ho pre post E σ m n hfront h
   simp only [sexec] at hex
   have hnd : i ∉ pre ++ post := by
    have hne : ∀ y z, pairOk ops mk y z = true → y ≠ z := by
     intro y z hp
     unfold pairOk at hp
     split at hp
     ·simp only [Bool.and_eq_true, bne_iff_ne, ne_eq] at hp; exact hp.1.2
     ·simp at hp
    intro hmem
    rcases List.mem_append.1 hmem with hm1 | hm1
    ·exact hne i i (hpw'.2.2 i hm1 i (by simp)) rfl
    ·exact hne i i ((List.pairwise_cons.1 hpw'.2.1).1 i hm1) rfl
   refine wpOpIn_mono (fun a' w' hh => ?_) (sstep_sound (Q := Lift N B w ν F Q) hr hex)
   obtain ⟨ν', F', E', σ', m', n', h1, h2, h3⟩ := hh
   have hrec := ih (pre ++ post) (listed.setIfInBounds i true) E' w' ν' F' a' σ' m' n' (by simp at hlen ⊢; omega) (by simp [hsz]) ?_ ?_ ?_ ?_ h2 h3
   ·exact wpAny_monoQ (fun e a w hq => Lift.trans h1 hq) _ _ _ _ hrec
   ·intro j hj
    by_cases hji : j = i
    ·subst hji
     have : j < listed.size := by omega
     simp only [Array.getD_eq_getD_getElem?, Array.getElem?_setIfInBounds_self, this, if_true, Option.getD_some, Bool.true_eq_false, false_iff]
     exact hnd
    ·rw [getD_set_ne true (Ne.symm hji), hl j hj]
     simp [hji]
   ·intro j hj; exact hlt j (by simp at hj ⊢; rcases hj with h | h <;> simp [h])
   ·refine List.Pairwise.sublist ?_ hpw
    exact List.sublist_append_of_sublist_right_of_cons pre post i
   ·intro j oj hoj hnj e he hb
    by_cases hji : j = i
    ·subst hji
     rw [ho] at hoj; obtain rfl := Option.some.inj hoj
     have := (hall e he hb).1
     intro hh; exact this (by simp at hh ⊢; rcases hh with h | h <;> simp [h])
    ·have := hdown j oj hoj (by simp at hnj ⊢; exact ⟨hnj.1, hji, hnj.2⟩) e he hb
     intro hh; exact this (by simp at hh ⊢; rcases hh with h | h <;> simp [h])
where
 wpAny_monoQ {ops : Array Oper} {Q Q' : Exit → Act → World → Prop} (hq : ∀ e a w, Q e a w → Q' e a w) : ∀ (fuel : Nat) (listed : Array Bool) (a : Act) (w : World), wpAnyIn (FW B) 1 P .any ops Q fuel listed a w → wpAnyIn (FW B) 1 P .any ops Q' fuel listed a w := by
  have hop : ∀ (i : Nat) (K : Act → World → Prop) (a : Act) (w : World), wpOpIn (FW B) 1 P ops Q i K a w → wpOpIn (FW B) 1 P ops Q' i K a w := by
   intro i K a w h
   unfold wpOpIn at h ⊢
   split
   ·rename_i ho; simp only [ho] at h; exact h
   ·rename_i o ho
    simp only [ho] at h
    split
    ·rename_i hw
     rw [if_pos hw] at h
     exact vcOps_sound.wpIn_monoQ hq (fun _ _ h => h) h
    ·rename_i hw; rw [if_neg hw] at h; exact h
  intro fuel
  induction fuel with
  | zero => intro listed a w h; exact ⟨h.1, hq _ _ _ h.2⟩
  | succ fuel ih => intro listed a w h; exact ⟨fun h0 => hq _ _ _ (h.1 h0), fun i hi => wpOpIn_mono (fun a w => ih _ a w) (hop i _ a w (h.2 i hi))⟩
 List.sublist_append_of_sublist_right_of_cons (pre post : List Nat) (i : Nat) : (pre ++ post).Sublist (pre ++ i :: post) :=
  List.Sublist.append (List.Sublist.refl pre) (List.sublist_cons_self i post)

end
end Go.Proofs.Mv.V
namespace Go.Proofs.Mv.V
variable [GI]

section
variable {P : Program} {N : Nat} {σ : Nat → D} {m : Mem} {n : Nat} {Q Q' : APost}

theorem AWP.mono {c : Code} (h : AWP P N c Q σ m n) (hq : ∀ e σ m n, Q e σ m n → Q' e σ m n) : AWP P N c Q' σ m n :=
 fun B hB w ν F a hr => wpIn_mono (h B hB w ν F a hr) fun e a w ⟨ν', F', σ', m', n', h1, h2, h3⟩ => ⟨ν', F', σ', m', n', h1, h2, hq _ _ _ _ h3⟩

def Then (K : (Nat → D) → Mem → Nat → Prop) (Q : APost) : APost
 | .normal, σ, m, n => K σ m n
 | e, σ, m, n => Q e σ m n
def InBlock (id : Nat) (Q : APost) : APost
 | .exit id', σ, m, n => if id' = id then Q .normal σ m n else Q (.exit id') σ m n
 | e, σ, m, n => Q e σ m n

theorem awp_skip (h : Q .normal σ m n) : AWP P N .skip Q σ m n := fun B _ w ν F a hr => wpIn_skip ⟨ν, F, σ, m, n, Ext.refl _ _ _, hr, h⟩
theorem awp_label {l : Nat} (h : Q .normal σ m n) : AWP P N (.label l) Q σ m n := fun B _ w ν F a hr => wpIn_label ⟨ν, F, σ, m, n, Ext.refl _ _ _, hr, h⟩
theorem awp_exit {id : Nat} (h : Q (.exit id) σ m n) : AWP P N (.exit id) Q σ m n := fun B _ w ν F a hr => wpIn_exit ⟨ν, F, σ, m, n, Ext.refl _ _ _, hr, h⟩
theorem awp_ret (h : Q .ret σ m n) : AWP P N .ret Q σ m n := fun B _ w ν F a hr => wpIn_ret ⟨ν, F, σ, m, n, Ext.refl _ _ _, hr, h⟩

theorem awp_seq {x y : Code} (h : AWP P N x (Then (AWP P N y Q) Q) σ m n) : AWP P N (.seq x y) Q σ m n := by
 intro B hB w ν F a hr
 have hx : B.pl ∨ noRange x = true := hB.imp_right fun e => by simp only [noRange, Bool.and_eq_true] at e; exact e.1
 have hy : B.pl ∨ noRange y = true := hB.imp_right fun e => by simp only [noRange, Bool.and_eq_true] at e; exact e.2
 refine wpIn_seq (wpIn_mono (h B hx w ν F a hr) ?_)
 rintro e a' w' ⟨ν', F', σ', m', n', h1, h2, h3⟩
 cases e with
 | normal => exact wpIn_mono (h3 B hy w' ν' F' a' h2) fun e a w hq => Lift.trans h1 hq
 | _ => exact ⟨ν', F', σ', m', n', h1, h2, h3⟩

theorem awp_cond {c : Operand} {x y : Code} {t : Bool} (hc : ev σ c = .v (.bool t)) (ht : t = true → AWP P N x Q σ m n) (hf : t = false → AWP P N y Q σ m n) : AWP P N (.cond c x y) Q σ m n := by
 intro B hB w ν F a hr
 have hx : B.pl ∨ noRange x = true := hB.imp_right fun e => by simp only [noRange, Bool.and_eq_true] at e; exact e.1
 have hy : B.pl ∨ noRange y = true := hB.imp_right fun e => by simp only [noRange, Bool.and_eq_true] at e; exact e.2
 have hcon := con_ev hr.con c
 rw [hc] at hcon; simp only [Con] at hcon
 refine wpIn_cond (t := t) hcon ?_
 cases t with
 | true => exact ht rfl B hx w ν F a hr
 | false => exact hf rfl B hy w ν F a hr

theorem awp_cond_bb {c : Operand} {x y : Code} (hc : ev σ c = .bb) (ht : AWP P N x Q σ m n) (hf : AWP P N y Q σ m n) : AWP P N (.cond c x y) Q σ m n := by
 intro B hB w ν F a hr
 have hx : B.pl ∨ noRange x = true := hB.imp_right fun e => by simp only [noRange, Bool.and_eq_true] at e; exact e.1
 have hy : B.pl ∨ noRange y = true := hB.imp_right fun e => by simp only [noRange, Bool.and_eq_true] at e; exact e.2
 have hcon := con_ev hr.con c
 rw [hc] at hcon; simp only [Con] at hcon
 obtain ⟨t, hcon⟩ := hcon
 refine wpIn_cond (t := t) hcon ?_
 cases t with
 | true => exact ht B hx w ν F a hr
 | false => exact hf B hy w ν F a hr
theorem awp_block {id : Nat} {c : Code} (h : AWP P N c (InBlock id Q) σ m n) : AWP P N (.block id c) Q σ m n := by
 intro B hB w ν F a hr
 refine wpIn_block (wpIn_mono (h B hB w ν F a hr) ?_)
 rintro e a' w' ⟨ν', F', σ', m', n', h1, h2, h3⟩
 cases e with
 | exit id' =>
  simp only [InBlock] at h3
  simp only [Exit.inBlock]
  split
  ·rename_i he; rw [if_pos he] at h3; exact ⟨ν', F', σ', m', n', h1, h2, h3⟩
  ·rename_i he; rw [if_neg he] at h3; exact ⟨ν', F', σ', m', n', h1, h2, h3⟩
 | _ => exact ⟨ν', F', σ', m', n', h1, h2, h3⟩

theorem awp_loop {β : Type} {c : Code} (Inv : β → (Nat → D) → Mem → Nat → Prop) (f : β → Nat) (b0 : β) (h0 : Inv b0 σ m n)
  (round : ∀ b σ m n, Inv b σ m n → AWP P N c (Then (fun σ' m' n' => ∃ b', f b' < f b ∧ Inv b' σ' m' n') Q) σ m n) : AWP P N (.loop c) Q σ m n := by
 intro B hB w ν F a hr
 let J : Nat → Act → World → Prop := fun k a' w' => ∃ b ν' F' σ' m' n', f b = k ∧ Ext w ν F w' ν' F' ∧ ARel N B w' ν' F' a' σ' m' n' ∧ Inv b σ' m' n'
 let I : Act → World → Prop := fun a' w' => ∃ k, J k a' w'
 have hmin : ∀ a' w', I a' w' → ∃ k, J k a' w' ∧ ∀ k', J k' a' w' → k ≤ k' := by
  rintro a' w' ⟨k, hk⟩
  induction k using Nat.strongRecOn with
  | _ k ih =>
   by_cases hex : ∃ k', k' < k ∧ J k' a' w'
   ·obtain ⟨k', hlt, hk'⟩ := hex; exact ih k' hlt hk'
   ·exact ⟨k, hk, fun k' hk' => by rcases Nat.lt_or_ge k' k with h | h; exact absurd ⟨k', h, hk'⟩ hex; exact h⟩
 classical
 let μ : Act → World → Nat := fun a' w' => if h : I a' w' then Classical.choose (hmin a' w' h) else 0
 have hμ : ∀ a' w' (h : I a' w'), J (μ a' w') a' w' ∧ ∀ k', J k' a' w' → μ a' w' ≤ k' := by
  intro a' w' h
  have := Classical.choose_spec (hmin a' w' h)
  simpa [μ, h] using this
 refine wpIn_loop I μ ⟨_, b0, ν, F, σ, m, n, rfl, Ext.refl _ _ _, hr, h0⟩ ?_
 intro a' w' hI
 obtain ⟨⟨b, ν', F', σ', m', n', hf, h1, h2, h3⟩, _⟩ := hμ a' w' hI
 refine wpIn_mono (round b σ' m' n' h3 B hB w' ν' F' a' h2) ?_
 rintro e a'' w'' ⟨ν2, F2, σ2, m2, n2, g1, g2, g3⟩
 cases e with
 | normal =>
  obtain ⟨b', hlt, hinv⟩ := g3
  have hJ : J (f b') a'' w'' := ⟨b', ν2, F2, σ2, m2, n2, rfl, h1.trans g1, g2, hinv⟩
  have hI'' : I a'' w'' := ⟨_, hJ⟩
  refine ⟨hI'', ?_⟩
  have := (hμ a'' w'' hI'').2 _ hJ
  omega
 | _ => exact ⟨ν2, F2, σ2, m2, n2, h1.trans g1, g2, g3⟩

/-! Functions. -/
def retTmps (fn : Func) : Option (List Tmp) := fn.results.toList.mapM fun
 | .tmp t => some t
 | .cell _ _ => none
def retD (ts : List Tmp) (σ : Nat → D) : D :=
 match ts with
 | [t] => σ t
 | ts => .tup (ts.map σ)
def RetQ (ts : List Tmp) (R : D → Mem → Nat → Prop) : APost
 | .normal, σ, m, n | .ret, σ, m, n => R (retD ts σ) m n
 | _, _, _, _ => False
def initσ (args : List D) : Nat → D := fun i => args.getD i undefD

theorem run_results {fn : Func} {ts : List Tmp} (h : retTmps fn = some ts) {w : World} {ν : Nu} {F : Nat → Prop} {tmps : Array Value} (hc : ∀ i, Con w ν F (σ i) (tmps.getD i undef)) :
  ∃ v, (results fn tmps).run P w = .ok v w ∧ Con w ν F (retD ts σ) v := by
 unfold retTmps at h
 have hres : results fn tmps = (do
  let vs ← (fn.results.mapM fun | .tmp t => pure (tmps.getD t undef) | .cell a t => do loadVar t (← asAddr (tmps.getD a undef)) : Sem (Array Value))
  pure (if h : vs.size = 1 then vs[0] else .tuple vs)) := rfl
 rw [hres]
 have key : ∀ (l : List ResultVar) ts, (l.mapM fun | .tmp t => some t | .cell _ _ => none) = some ts →
   ((l.mapM fun | .tmp t => pure (tmps.getD t undef) | .cell a t => do loadVar t (← asAddr (tmps.getD a undef)) : Sem (List Value))).run P w = .ok (ts.map fun t => tmps.getD t undef) w := by
  intro l
  induction l with
  | nil => intro ts h; simp at h; subst h; simp [Sem.run_pure]
  | cons x r ih =>
   intro ts h
   simp only [List.mapM_cons, Option.bind_eq_bind, Option.bind_eq_some_iff, Option.pure_def, Option.some.injEq] at h
   obtain ⟨t, hx, ts', hr, rfl⟩ := h
   cases x with
   | cell a t => simp at hx
   | tmp u =>
    simp at hx; subst hx
    have hi := ih ts' hr
    simp only [List.mapM_cons, Sem.run_bind, Sem.run_pure, Result.andThen]
    rw [hi]; rfl
 have hk := key fn.results.toList ts h
 have harr : ((fn.results.mapM fun | .tmp t => pure (tmps.getD t undef) | .cell a t => do loadVar t (← asAddr (tmps.getD a undef)) : Sem (Array Value))).run P w = .ok (ts.map fun t => tmps.getD t undef).toArray w := by
  rw [← Array.toList_mapM] at hk
  cases hm : ((fn.results.mapM fun | .tmp t => pure (tmps.getD t undef) | .cell a t => do loadVar t (← asAddr (tmps.getD a undef)) : Sem (Array Value))).run P w with
  | halt h' w' => rw [map_eq_pure_bind, Sem.run_bind] at hk; simp only [hm, Result.andThen] at hk; cases hk
  | ok x w' =>
   rw [map_eq_pure_bind, Sem.run_bind] at hk
   simp only [hm, Result.andThen, Sem.run_pure, Result.ok.injEq] at hk
   obtain ⟨e1, e2⟩ := hk
   subst e2
   rw [← e1]
 refine ⟨_, by rw [Sem.run_bind, harr]; simp only [Result.andThen, Sem.run_pure]; rfl, ?_⟩
 have hvs : ∀ l : List Tmp, ConVs w ν F (l.map σ) (l.map fun t => tmps.getD t undef) := by
  intro l
  induction l with
  | nil => simp [ConVs]
  | cons t r ih => simp only [List.map_cons, ConVs]; exact ⟨_, _, rfl, hc t, ih⟩
 unfold retD
 split
 ·rename_i t
  simpa using hc t
 ·rename_i ts' hne
  have : ¬ ((ts.map fun t => tmps.getD t undef).toArray.size = 1) := by
   simp only [List.size_toArray, List.length_map]
   intro hl
   obtain ⟨t, rfl⟩ := List.length_eq_one_iff.1 hl
   exact hne t rfl
  rw [dif_neg this]
  simp only [Con]
  exact ⟨_, rfl, by simpa using hvs ts⟩

theorem conVs_getD {w : World} {ν : Nu} {F : Nat → Prop} : ∀ {args : List D} {vals : List Value}, ConVs w ν F args vals → ∀ i, Con w ν F (args.getD i undefD) (vals.getD i undef) := by
 intro args
 induction args with
 | nil => intro vals h i; simp only [ConVs] at h; subst h; simpa using con_undef
 | cons d ds ih =>
  intro vals h i
  simp only [ConVs] at h
  obtain ⟨y, r, rfl, hd, hr⟩ := h
  cases i with
  | zero => simpa using hd
  | succ i => simpa using ih hr i

structure Turn (b : Nat) (w w' : World) : Prop where
 size : w.heap.size ≤ w'.heap.size
 old : ∀ k : Nat, k < b → w'.heap[k]? = w.heap[k]?
 cells : ∀ (k : Nat) (arr : Array Value) (e : TypeId) (f : Nat × Nat), w.heap[k]? = some (Go.Obj.cells arr e f) → w'.heap[k]? = w.heap[k]?
 io : w'.os = w.os ∧ w'.output = w.output
theorem Turn.refl (b : Nat) (w : World) : Turn b w w := ⟨Nat.le_refl _, fun _ _ => rfl, fun _ _ _ _ _ => rfl, ⟨rfl, rfl⟩⟩
theorem Turn.put {b : Nat} {w w' : World} {D : Nat} (h : Turn b w w') (hb : b ≤ D) (hD : w'.heap[D]? = some (.deferred (some []))) : Turn b w (w'.putObj D (.deferred none)) where
 size := by simpa [World.putObj] using h.size
 old := fun k hk => by rw [World.putObj_heap_other (by omega)]; exact h.old k hk
 cells := fun k arr e f hc => by
  have h1 := h.cells k arr e f hc
  rw [World.putObj_heap_other (fun e => by subst e; rw [h1, hc] at hD; cases hD)]; exact h1
 io := h.io
section turn
variable {b : Nat} {w w' : World} {ν : Nu} {F : Nat → Prop}
theorem Turn.cell (h : Turn b w w') {a : Addr} {y : Value} (hy : w.cell? a = some y) : w'.cell? a = some y := by
 unfold World.cell? at hy ⊢
 split at hy
 ·rename_i c e f hc; rw [h.cells _ _ _ _ hc, hc]; exact hy
 ·cases hy
mutual
theorem Con.turn (h : Turn b w w') : ∀ (d : D) (y : Value), Con w ν F d y → Con w' ν F d y
 | .v x, y, q => q
 | .any, _, _ => trivial
 | .ptr k g i j, y, q => q
 | .rptr t cs, y, q => by
  simp only [Con] at q ⊢
  obtain ⟨b, o, hy, hF, ht, hc⟩ := q
  exact ⟨b, o, hy, hF, ht, ConCs.turn h cs b o hc⟩
 | .sl z es, y, q => by
  simp only [Con] at q ⊢
  rcases q with ⟨b, o, c, hy, hn, hF, hc⟩ | q
  ·exact .inl ⟨b, o, c, hy, hn, hF, ConEs.turn h z es b o hc⟩
  ·exact .inr q
 | .own k g o n z, y, q => by
  simp only [Con] at q ⊢
  obtain ⟨l, b, off, c, hl, hg, hz0, hy, hn, he⟩ := q
  refine ⟨l, b, off, c, hl, hg, hz0, hy, hn, fun e => ?_⟩
  obtain ⟨rfl, ho, arr, el, f, ha, hs⟩ := he e
  exact ⟨rfl, ho, arr, el, f, by rw [h.cells _ _ _ _ ha]; exact ha, hs⟩
 | .mt, y, q => q
 | .bb, y, q => q
 | .iface t d, y, q => by
  simp only [Con] at q ⊢
  obtain ⟨y', hy, hd⟩ := q
  exact ⟨y', hy, Con.turn h d y' hd⟩
 | .func fn fs cs, y, q => by
  simp only [Con] at q ⊢
  obtain ⟨ys, zs, hy, h1, h2⟩ := q
  exact ⟨ys, zs, hy, ConVs.turn h fs _ h1, ConVs.turn h cs _ h2⟩
 | .agg cs, y, q => by
  simp only [Con] at q ⊢
  obtain ⟨ys, hy, h1, h2⟩ := q
  exact ⟨ys, hy, ConVs.turn h cs _ h1, h2⟩
 | .tup cs, y, q => by
  simp only [Con] at q ⊢
  obtain ⟨ys, hy, h1⟩ := q
  exact ⟨ys, hy, ConVs.turn h cs _ h1⟩
theorem ConVs.turn (h : Turn b w w') : ∀ (ds : List D) (ys : List Value), ConVs w ν F ds ys → ConVs w' ν F ds ys
 | [], ys, q => q
 | d :: ds, ys, q => by
  simp only [ConVs] at q ⊢
  obtain ⟨y, r, e, hd, hr⟩ := q
  exact ⟨y, r, e, Con.turn h d y hd, ConVs.turn h ds r hr⟩
theorem ConCs.turn (h : Turn b w w') : ∀ (ds : List D) (k o : Nat), ConCs w ν F ds k o → ConCs w' ν F ds k o
 | [], _, _, _ => trivial
 | d :: ds, k, o, q => by
  simp only [ConCs] at q ⊢
  obtain ⟨⟨y, hc, h1, hd⟩, hr⟩ := q
  exact ⟨⟨y, h.cell hc, h1, Con.turn h d y hd⟩, ConCs.turn h ds k (o + 1) hr⟩
theorem ConEs.turn (h : Turn b w w') : ∀ (z : Nat) (es : List (List D)) (k o : Nat), ConEs w ν F z es k o → ConEs w' ν F z es k o
 | _, [], _, _, _ => trivial
 | z, e :: es, k, o, q => by
  simp only [ConEs] at q ⊢
  obtain ⟨hl, hc, hr⟩ := q
  exact ⟨hl, ConCs.turn h e k o hc, ConEs.turn h z es k (o + z) hr⟩
end
end turn
theorem Turn.ext {w0 w w' : World} {ν0 ν : Nu} {F0 F : Nat → Prop} {m0 : Mem} {n0 : Nat} (h : Turn w0.heap.size w w') (h0 : St w0 ν0 F0 m0 n0) (he : Ext w0 ν0 F0 w ν F) : Ext w0 ν0 F0 w' ν F where
 size := Nat.le_trans he.size h.size
 fz := fun b hb => by
  obtain ⟨h1, h2⟩ := he.fz b hb
  exact ⟨h1, by rw [h.old b (h0.mem.lt b hb)]; exact h2⟩
 nu := he.nu
 blk := fun k l l' h1 h2 h3 arr e f ha => by
  obtain ⟨arr', e', f', q1, q2⟩ := he.blk k l l' h1 h2 h3 arr e f ha
  exact ⟨arr', e', f', by rw [h.cells _ _ _ _ q1]; exact q1, q2⟩
 io := ⟨h.io.1.trans he.io.1, h.io.2.trans he.io.2⟩
theorem Turn.st {w0 w w' : World} {ν0 ν : Nu} {F0 F : Nat → Prop} {m0 m : Mem} {n0 n : Nat} (h : Turn w0.heap.size w w') (h0 : St w0 ν0 F0 m0 n0) (he : Ext w0 ν0 F0 w ν F) (hs : St w ν F m n) : St w' ν F m n := by
 refine ⟨⟨fun b hb => Nat.lt_of_lt_of_le (hs.mem.lt b hb) h.size, hs.mem.inj, fun k o hk => ?_⟩, hs.fresh, GI.keep h0.gi (h.ext h0 he).fz⟩
 obtain ⟨l, arr, e, f, q1, q2, q3, q4, q5, q6, q7⟩ := hs.mem.at_ k o hk
 exact ⟨l, arr, e, f, q1, q2, q3, by rw [h.cells _ _ _ _ q4]; exact q4, q5, q6, ConEs.turn h _ _ _ _ q7⟩
theorem leave_marks {F : Fence} {k : Nat} {fn : Func} {tmps : Array Value} {R : Ending → World → Prop} {b : Nat} {w : World}
  (hR : ∀ w', Turn b w w' → ∃ v, (results fn tmps).run P w' = .ok v w' ∧ R (.returned v) w') :
  ∀ (mk : List Deferred) (w1 : World), Turn b w w1 → mk.Nodup → (∀ d ∈ mk, ∃ D, d = { target := .collected D, args := #[] } ∧ b ≤ D ∧ w1.heap[D]? = some (.deferred (some []))) → LeavesInM F k P fn tmps R mk .returning w1
 | [], w1, ht, _, _ => hR w1 ht
 | d :: mk, w1, ht, hnd, hall => by
  obtain ⟨D, rfl, h1, h2⟩ := hall d (by simp)
  refine ⟨by simp, .inl ⟨D, _, rfl, run_takeDeferred h2, leave_marks hR mk _ (ht.put h1 h2) (List.nodup_cons.1 hnd).2 fun d' hd' => ?_⟩⟩
  obtain ⟨D', rfl, g1, g2⟩ := hall d' (by simp [hd'])
  refine ⟨D', rfl, g1, ?_⟩
  rw [World.putObj_heap_other (fun e => by subst e; exact (List.nodup_cons.1 hnd).1 hd')]
  exact g2
theorem arel_init {fn : Func} {args : List D} {vals : Array Value} {w : World} {ν : Nu} {F : Nat → Prop} (hN : args.length ≤ fn.ntmps) (hst : St w ν F m n) (hv : ConVs w ν F args vals.toList) :
  ARel fn.ntmps ⟨none, [], w.heap.size, false⟩ w ν F { tmps := vals ++ Array.replicate (fn.ntmps - vals.size) undef, defers := [] } (initσ args) m n := by
 have hlen := conVs_length hv
 simp only [Array.length_toList] at hlen
 refine ⟨by simp; omega, ⟨[], rfl, List.nodup_nil, by simp, fun _ => rfl⟩, Nat.le_refl _, fun i => ?_, hst⟩
 have h1 := conVs_getD hv i
 have h2 : (vals ++ Array.replicate (fn.ntmps - vals.size) undef).getD i undef = vals.toList.getD i undef := by
  by_cases hi : i < vals.size
  ·simp [hi, Array.getElem?_append]
  ·rw [Array.getD_eq_getD_getElem?, Array.getElem?_append_right (by omega), Array.getElem?_replicate]
   have : vals.toList.getD i undef = undef := by simp [List.getD_eq_getElem?_getD, List.getElem?_eq_none (by simp; omega : vals.toList.length ≤ i)]
   rw [this]; split <;> rfl
 rw [h2]; exact h1
theorem acalls_body {f : FuncId} {fn : Func} {c : Code} {args : List D} {Q : APost} {R : D → Mem → Nat → Prop} (hf : P.funcs[f]? = some fn) (hname : (fn.name == "runtime.NumGoroutine") = false)
  (hb : fn.body = some c) (hN : args.length ≤ fn.ntmps) (h : AWP P fn.ntmps c Q (initσ args) m n)
  (hQ : ∀ e σ m n, Q e σ m n → (e = .normal ∨ e = .ret) ∧ ∀ (w : World) (ν : Nu) (F : Nat → Prop) (tmps : Array Value), St w ν F m n → (∀ i, Con w ν F (σ i) (tmps.getD i undef)) → ∃ v d, (results fn tmps).run P w = .ok v w ∧ Con w ν F d v ∧ R d m n) :
  ACalls P f args m n R := by
 refine ⟨⟨fn, hf, hname, by rw [hb]; rfl⟩, ?_⟩
 intro w ν F vals hst hv
 refine callsIn_wide.1 (callsIn_of_wp_marks (F := FW ⟨none, [], w.heap.size, false⟩) (n := 1) hf hb trivial ?_)
 refine wpIn_mono (h ⟨none, [], w.heap.size, false⟩ (.inl ⟨rfl, rfl⟩) w ν F _ (arel_init hN hst hv)) ?_
 rintro e a' w' ⟨ν', F', σ', m', n', h1, h2, h3⟩
 obtain ⟨he, hres⟩ := hQ _ _ _ _ h3
 have key : LeavesInM (FW ⟨none, [], w.heap.size, false⟩) 1 P fn a'.tmps (fun e w' => ∃ v, e = .returned v ∧ ∃ ν' F' d m' n', Ext w ν F w' ν' F' ∧ St w' ν' F' m' n' ∧ Con w' ν' F' d v ∧ R d m' n') a'.defers .returning w' := by
  obtain ⟨mk, e1, e2, e3, _⟩ := h2.defers
  rw [e1, List.append_nil]
  refine leave_marks (b := w.heap.size) (w := w') (fun w2 ht => ?_) mk w' (Turn.refl _ _) e2 fun d hd => ?_
  ·obtain ⟨v, d, g1, g2, g3⟩ := hres w2 ν' F' a'.tmps (ht.st hst h1 h2.st) (fun i => Con.turn ht _ _ (h2.con i))
   exact ⟨v, g1, v, rfl, ν', F', d, m', n', ht.ext hst h1, ht.st hst h1 h2.st, g2, g3⟩
  ·obtain ⟨D, q1, q2, q3, q4⟩ := e3 d hd
   exact ⟨D, q1, q2, q4⟩
 rcases he with rfl | rfl
 ·exact key
 ·exact key

theorem acalls_of {f : FuncId} {fn : Func} {c : Code} {args : List D} {ts : List Tmp} {R : D → Mem → Nat → Prop} (hf : P.funcs[f]? = some fn) (hname : (fn.name == "runtime.NumGoroutine") = false)
  (hb : fn.body = some c) (hr : retTmps fn = some ts) (hN : args.length ≤ fn.ntmps) (h : AWP P fn.ntmps c (RetQ ts R) (initσ args) m n) : ACalls P f args m n R := by
 refine acalls_body hf hname hb hN h fun e σ m n hq => ?_
 cases e with
 | normal => exact ⟨.inl rfl, fun w ν F tmps hst hc => by obtain ⟨v, g1, g2⟩ := run_results (P := P) hr hc; exact ⟨v, _, g1, g2, hq⟩⟩
 | ret => exact ⟨.inr rfl, fun w ν F tmps hst hc => by obtain ⟨v, g1, g2⟩ := run_results (P := P) hr hc; exact ⟨v, _, g1, g2, hq⟩⟩
 | _ => exact hq.elim

theorem ACalls.mono {f : FuncId} {args : List D} {R R' : D → Mem → Nat → Prop} (h : ACalls P f args m n R) (hr : ∀ d m n, R d m n → R' d m n) : ACalls P f args m n R' :=
 ⟨h.1, fun w ν F vals hst hv => Calls.mono (h.2 w ν F vals hst hv) fun e w' ⟨v, he, ν', F', d, m', n', h1, h2, h3, h4⟩ => ⟨v, he, ν', F', d, m', n', h1, h2, h3, hr _ _ _ h4⟩⟩

/-! What a call leaves that is nobody's own any more. -/
mutual
def below (n : Nat) : D → Bool
 | .ptr k _ _ _ => decide (k < n)
 | .own k _ _ _ _ => decide (k < n)
 | .rptr _ cs => belowL n cs
 | .sl _ es => belowE n es
 | .iface _ d => below n d
 | .func _ fs cs => belowL n fs && belowL n cs
 | .agg cs => belowL n cs
 | .tup cs => belowL n cs
 | .v _ => true
 | .any => true
 | .mt => true
 | .bb => true
def belowL (n : Nat) : List D → Bool
 | [] => true
 | d :: ds => below n d && belowL n ds
def belowE (n : Nat) : List (List D) → Bool
 | [] => true
 | e :: es => belowL n e && belowE n es
end

section
variable {w : World} {ν ν' : Nu} {F : Nat → Prop}
mutual
theorem con_below (hν : ∀ k l, ν k = some l → k < n) : ∀ (d : D) (y : Value), Con w ν F d y → below n d = true
 | .v x, y, h => rfl
 | .any, _, _ => rfl
 | .mt, _, _ => rfl
 | .bb, _, _ => rfl
 | .ptr k g i j, y, h => by simp only [Con] at h; obtain ⟨l, b, o, hl, _⟩ := h; simpa [below] using hν k l hl
 | .own k g o n' z, y, h => by simp only [Con] at h; obtain ⟨l, b, off, c, hl, _⟩ := h; simpa [below] using hν k l hl
 | .rptr t cs, y, h => by simp only [Con] at h; obtain ⟨b, o, _, _, _, hc⟩ := h; simpa [below] using conCs_below hν cs b o hc
 | .sl z es, y, h => by
  simp only [Con] at h
  rcases h with ⟨b, o, c, _, _, _, hc⟩ | ⟨rfl, _⟩
  ·simpa [below] using conEs_below hν z es b o hc
  ·rfl
 | .iface t d, y, h => by simp only [Con] at h; obtain ⟨y', _, hd⟩ := h; simpa [below] using con_below hν d y' hd
 | .func fn fs cs, y, h => by simp only [Con] at h; obtain ⟨ys, zs, _, h1, h2⟩ := h; simp [below, conVs_below hν fs _ h1, conVs_below hν cs _ h2]
 | .agg cs, y, h => by simp only [Con] at h; obtain ⟨ys, _, h1, _⟩ := h; simpa [below] using conVs_below hν cs _ h1
 | .tup cs, y, h => by simp only [Con] at h; obtain ⟨ys, _, h1⟩ := h; simpa [below] using conVs_below hν cs _ h1
theorem conVs_below (hν : ∀ k l, ν k = some l → k < n) : ∀ (ds : List D) (ys : List Value), ConVs w ν F ds ys → belowL n ds = true
 | [], ys, h => rfl
 | d :: ds, ys, h => by simp only [ConVs] at h; obtain ⟨y, r, _, hd, hr⟩ := h; simp [belowL, con_below hν d y hd, conVs_below hν ds r hr]
theorem conCs_below (hν : ∀ k l, ν k = some l → k < n) : ∀ (ds : List D) (b o : Nat), ConCs w ν F ds b o → belowL n ds = true
 | [], _, _, h => rfl
 | d :: ds, b, o, h => by simp only [ConCs] at h; obtain ⟨⟨y, _, _, hd⟩, hr⟩ := h; simp [belowL, con_below hν d y hd, conCs_below hν ds b (o + 1) hr]
theorem conEs_below (hν : ∀ k l, ν k = some l → k < n) : ∀ (z : Nat) (es : List (List D)) (b o : Nat), ConEs w ν F z es b o → belowE n es = true
 | _, [], _, _, h => rfl
 | z, e :: es, b, o, h => by simp only [ConEs] at h; obtain ⟨_, hc, hr⟩ := h; simp [belowE, conCs_below hν e b o hc, conEs_below hν z es b (o + z) hr]
end
mutual
theorem con_restrict (hν : ∀ k, k < n → ν' k = ν k) : ∀ (d : D) (y : Value), below n d = true → Con w ν F d y → Con w ν' F d y
 | .v x, y, _, h => h
 | .any, _, _, _ => trivial
 | .mt, _, _, h => h
 | .bb, _, _, h => h
 | .ptr k g i j, y, hb, h => by simp only [below, decide_eq_true_eq] at hb; simp only [Con] at h ⊢; rw [hν k hb]; exact h
 | .own k g o n' z, y, hb, h => by simp only [below, decide_eq_true_eq] at hb; simp only [Con] at h ⊢; rw [hν k hb]; exact h
 | .rptr t cs, y, hb, h => by
  simp only [below] at hb; simp only [Con] at h ⊢
  obtain ⟨b, o, h1, h2, h3, hc⟩ := h; exact ⟨b, o, h1, h2, h3, conCs_restrict hν cs b o hb hc⟩
 | .sl z es, y, hb, h => by
  simp only [below] at hb; simp only [Con] at h ⊢
  rcases h with ⟨b, o, c, h1, h2, h3, hc⟩ | h
  ·exact .inl ⟨b, o, c, h1, h2, h3, conEs_restrict hν z es b o hb hc⟩
  ·exact .inr h
 | .iface t d, y, hb, h => by simp only [below] at hb; simp only [Con] at h ⊢; obtain ⟨y', h1, hd⟩ := h; exact ⟨y', h1, con_restrict hν d y' hb hd⟩
 | .func fn fs cs, y, hb, h => by
  simp only [below, Bool.and_eq_true] at hb; simp only [Con] at h ⊢
  obtain ⟨ys, zs, h1, h2, h3⟩ := h; exact ⟨ys, zs, h1, conVs_restrict hν fs _ hb.1 h2, conVs_restrict hν cs _ hb.2 h3⟩
 | .agg cs, y, hb, h => by simp only [below] at hb; simp only [Con] at h ⊢; obtain ⟨ys, h1, h2, h3⟩ := h; exact ⟨ys, h1, conVs_restrict hν cs _ hb h2, h3⟩
 | .tup cs, y, hb, h => by simp only [below] at hb; simp only [Con] at h ⊢; obtain ⟨ys, h1, h2⟩ := h; exact ⟨ys, h1, conVs_restrict hν cs _ hb h2⟩
theorem conVs_restrict (hν : ∀ k, k < n → ν' k = ν k) : ∀ (ds : List D) (ys : List Value), belowL n ds = true → ConVs w ν F ds ys → ConVs w ν' F ds ys
 | [], ys, _, h => h
 | d :: ds, ys, hb, h => by
  simp only [belowL, Bool.and_eq_true] at hb; simp only [ConVs] at h ⊢
  obtain ⟨y, r, h1, hd, hr⟩ := h; exact ⟨y, r, h1, con_restrict hν d y hb.1 hd, conVs_restrict hν ds r hb.2 hr⟩
theorem conCs_restrict (hν : ∀ k, k < n → ν' k = ν k) : ∀ (ds : List D) (b o : Nat), belowL n ds = true → ConCs w ν F ds b o → ConCs w ν' F ds b o
 | [], _, _, _, h => trivial
 | d :: ds, b, o, hb, h => by
  simp only [belowL, Bool.and_eq_true] at hb; simp only [ConCs] at h ⊢
  obtain ⟨⟨y, h1, h2, hd⟩, hr⟩ := h; exact ⟨⟨y, h1, h2, con_restrict hν d y hb.1 hd⟩, conCs_restrict hν ds b (o + 1) hb.2 hr⟩
theorem conEs_restrict (hν : ∀ k, k < n → ν' k = ν k) : ∀ (z : Nat) (es : List (List D)) (b o : Nat), belowE n es = true → ConEs w ν F z es b o → ConEs w ν' F z es b o
 | _, [], _, _, _, h => trivial
 | z, e :: es, b, o, hb, h => by
  simp only [belowE, Bool.and_eq_true] at hb; simp only [ConEs] at h ⊢
  obtain ⟨h1, hc, hr⟩ := h; exact ⟨h1, conCs_restrict hν e b o hb.1 hc, conEs_restrict hν z es b (o + z) hb.2 hr⟩
end
end

def rs (β : Nat → Nat) (m : Mem) : Nat → D → D
 | 0, d => d
 | f + 1, .ptr k g i j => match m k with
  | some o => if o.g = g ∧ i < o.es.length then .rptr (some (β k, i * o.z + j)) (((o.es.getD i []).drop j).map (rs β m f)) else .ptr k g i j
  | none => .ptr k g i j
 | f + 1, .own k g o len z => match m k with
  | some ob => if ob.g = g ∧ o + len ≤ ob.es.length ∧ ob.z = z then .sl z (((ob.es.drop o).take len).map fun e => e.map (rs β m f)) else .own k g o len z
  | none => .own k g o len z
 | f + 1, .rptr t cs => .rptr t (cs.map (rs β m f))
 | f + 1, .sl z es => .sl z (es.map fun e => e.map (rs β m f))
 | f + 1, .iface t d => .iface t (rs β m f d)
 | f + 1, .func fn fs cs => .func fn (fs.map (rs β m f)) (cs.map (rs β m f))
 | f + 1, .agg cs => .agg (cs.map (rs β m f))
 | f + 1, .tup cs => .tup (cs.map (rs β m f))
 | f + 1, .v x => .v x
 | f + 1, .any => .any
 | f + 1, .mt => .mt
 | f + 1, .bb => .bb

section
variable {w : World} {ν : Nu} {F F' : Nat → Prop} {m0 : Mem} {β : Nat → Nat}

structure Pub (w : World) (ν : Nu) (F F' : Nat → Prop) (m0 : Mem) (β : Nat → Nat) : Prop where
 sub : ∀ b, F b → F' b
 at_ : ∀ k o, m0 k = some o → ∃ l, ν k = some l ∧ l.g = o.g ∧ l.z = o.z ∧ l.b = β k ∧ F' l.b ∧ ConEs w ν F o.z o.es l.b 0

theorem rs_sound (hp : Pub w ν F F' m0 β) : ∀ (f : Nat) (d : D) (y : Value), Con w ν F d y → Con w ν F' (rs β m0 f d) y := by
 have hext : Ext w ν F w ν F' := ⟨Nat.le_refl _, fun b hb => ⟨hp.sub b hb, rfl⟩, fun k l hl => ⟨l, hl, Nat.le_refl _, rfl, fun _ => rfl⟩, fun _ _ _ _ _ _ arr e f h => ⟨arr, e, f, h, rfl⟩, ⟨rfl, rfl⟩⟩
 intro f
 induction f with
 | zero => intro d y h; exact Con.mono hext d y h
 | succ f ih =>
  have ihVs : ∀ (ds : List D) (ys : List Value), ConVs w ν F ds ys → ConVs w ν F' (ds.map (rs β m0 f)) ys := by
   intro ds
   induction ds with
   | nil => intro ys h; exact h
   | cons d ds ihd => intro ys h; simp only [ConVs, List.map_cons] at h ⊢; obtain ⟨y, r, h1, hd, hr⟩ := h; exact ⟨y, r, h1, ih d y hd, ihd r hr⟩
  have ihCs : ∀ (ds : List D) (b o : Nat), ConCs w ν F ds b o → ConCs w ν F' (ds.map (rs β m0 f)) b o := by
   intro ds
   induction ds with
   | nil => intro b o h; trivial
   | cons d ds ihd => intro b o h; simp only [ConCs, List.map_cons] at h ⊢; obtain ⟨⟨y, h1, h2, hd⟩, hr⟩ := h; exact ⟨⟨y, h1, h2, ih d y hd⟩, ihd b (o + 1) hr⟩
  have ihEs : ∀ (es : List (List D)) (z b o : Nat), ConEs w ν F z es b o → ConEs w ν F' z (es.map fun e => e.map (rs β m0 f)) b o := by
   intro es
   induction es with
   | nil => intro z b o h; trivial
   | cons e es ihd => intro z b o h; simp only [ConEs, List.map_cons] at h ⊢; obtain ⟨h1, hc, hr⟩ := h; exact ⟨by simpa using h1, ihCs e b o hc, ihd z b (o + z) hr⟩
  intro d y h
  cases d with
  | v x => exact h
  | any => trivial
  | mt => exact h
  | bb => exact h
  | ptr k g i j =>
   simp only [rs]
   split
   ·rename_i o ho
    split
    ·rename_i hc
     obtain ⟨l, hl, hg, hz, hb, hF, hes⟩ := hp.at_ k o ho
     simp only [Con] at h ⊢
     obtain ⟨l', b, oo, hl', hg', rfl, hlive⟩ := h
     rw [hl] at hl'; obtain rfl := Option.some.inj hl'
     obtain ⟨rfl, rfl⟩ := hlive (by omega)
     obtain ⟨_, hcs⟩ := conEs_get hes i hc.2
     refine ⟨l.b, i * l.z + j, rfl, hF, .inr (by rw [hb, hz]), ?_⟩
     have := ihCs _ _ _ (conCs_drop hcs j)
     rw [hz]; simpa using this
    ·exact Con.mono hext _ _ h
   ·exact Con.mono hext _ _ h
  | own k g o len z =>
   simp only [rs]
   split
   ·rename_i ob ho
    split
    ·rename_i hc
     obtain ⟨l, hl, hg, hz, hb, hF, hes⟩ := hp.at_ k ob ho
     simp only [Con] at h ⊢
     obtain ⟨l', b, off, c, hl', hg', hz', rfl, hn, hlive⟩ := h
     rw [hl] at hl'; obtain rfl := Option.some.inj hl'
     obtain ⟨rfl, ho', _⟩ := hlive (by omega)
     have hlen : (((ob.es.drop o).take len).map fun e => e.map (rs β m0 f)).length = len := by simp; omega
     refine .inl ⟨l.b, off, c, by rw [hlen], by rw [hlen]; exact hn, hF, ?_⟩
     rcases ho' with rfl | hc0
     ·have := ihEs _ _ _ _ (conEs_take (conEs_drop hes o) len)
      rw [hc.2.2] at this
      simpa using this
     ·have : len = 0 := by omega
      subst this
      simp [ConEs]
    ·exact Con.mono hext _ _ h
   ·exact Con.mono hext _ _ h
  | rptr t cs =>
   simp only [rs, Con] at h ⊢
   obtain ⟨b, o, h1, h2, h3, hc⟩ := h
   exact ⟨b, o, h1, hp.sub b h2, h3, ihCs cs b o hc⟩
  | sl z es =>
   simp only [rs, Con] at h ⊢
   rcases h with ⟨b, o, c, h1, h2, h3, hc⟩ | ⟨rfl, h⟩
   ·exact .inl ⟨b, o, c, by simpa using h1, by simpa using h2, hp.sub b h3, ihEs es z b o hc⟩
   ·exact .inr ⟨rfl, h⟩
  | iface t d => simp only [rs, Con] at h ⊢; obtain ⟨y', h1, hd⟩ := h; exact ⟨y', h1, ih d y' hd⟩
  | func fn fs cs => simp only [rs, Con] at h ⊢; obtain ⟨ys, zs, h1, h2, h3⟩ := h; exact ⟨ys, zs, h1, ihVs fs _ h2, ihVs cs _ h3⟩
  | agg cs => simp only [rs, Con] at h ⊢; obtain ⟨ys, h1, h2, h3⟩ := h; exact ⟨ys, h1, ihVs cs _ h2, h3⟩
  | tup cs => simp only [rs, Con] at h ⊢; obtain ⟨ys, h1, h2⟩ := h; exact ⟨ys, h1, ihVs cs _ h2⟩
end

def From (n : Nat) (m : Mem) : Mem := fun k => if n ≤ k then m k else none

theorem acalls_close {f : FuncId} {args : List D} {R R' : D → Mem → Nat → Prop} (h : ACalls P f args m n R')
  (hR : ∀ d m' n', R' d m' n' → ∀ β, ∃ fu d' m'', rs β (From n m') fu d = d' ∧ below n d' = true ∧ (∀ k, n ≤ k → m'' k = none) ∧
   (∀ k, k < n → (m'' k = m' k ∧ m' k = m k) ∨ ∃ o o' fu', m' k = some o ∧ m'' k = some o' ∧ o'.z = o.z ∧ o'.g = o.g ∧ o'.es = o.es.map (fun e => e.map (rs β (From n m') fu')) ∧ belowE n o'.es = true) ∧ R d' m'' n) :
  ACalls P f args m n R := by
 refine ⟨h.1, fun w ν F vals hst hv => Calls.mono (h.2 w ν F vals hst hv) fun e w' he => ?_⟩
 obtain ⟨v, he, ν', F', d, m', n', h1, h2, h3, h4⟩ := he
 let β : Nat → Nat := fun k => match ν' k with | some l => l.b | none => 0
 obtain ⟨fu, d', m'', hrs, hbel, hm1, hm2, hRR⟩ := hR d m' n' h4 β
 let F'' : Nat → Prop := fun b => F' b ∨ ∃ k o l, n ≤ k ∧ m' k = some o ∧ ν' k = some l ∧ l.b = b
 let ν'' : Nu := fun k => if k < n then ν' k else none
 have hνlt : ∀ k l, ν k = some l → k < n := fun k l hl => by
  rcases Nat.lt_or_ge k n with hh | hh
  ·exact hh
  ·have := (hst.fresh k hh).1; rw [hl] at this; cases this
 have hpub : Pub w' ν' F' F'' (From n m') β := by
  refine ⟨fun b hb => .inl hb, fun k o ho => ?_⟩
  simp only [From] at ho
  split at ho
  ·rename_i hk
   obtain ⟨l, arr, el, ff, q1, q2, q3, q4, q5, q6, q7⟩ := h2.mem.at_ k o ho
   exact ⟨l, q1, q2, q3, by simp [β, q1], .inr ⟨k, o, l, hk, ho, q1, rfl⟩, q7⟩
  ·cases ho
 have hext' : Ext w' ν' F' w' ν' F'' := ⟨Nat.le_refl _, fun b hb => ⟨.inl hb, rfl⟩, fun k l hl => ⟨l, hl, Nat.le_refl _, rfl, fun _ => rfl⟩, fun _ _ _ _ _ _ arr e f h => ⟨arr, e, f, h, rfl⟩, ⟨rfl, rfl⟩⟩
 have hextR : Ext w ν F w' ν'' F'' := by
  have ht := h1.trans hext'
  refine ⟨ht.size, ht.fz, fun k l hl => ?_, fun k l l' hl hl' hg => ?_, ht.io⟩
  ·have := ht.nu k l hl
   simpa [ν'', hνlt k l hl] using this
  ·simp only [ν''] at hl'
   rw [if_pos (hνlt k l hl)] at hl'
   exact ht.blk k l l' hl hl' hg
 have hν'' : ∀ k, k < n → ν'' k = ν' k := fun k hk => by simp [ν'', hk]
 refine ⟨v, he, ν'', F'', d', m'', n, hextR, ⟨⟨?_, ?_, ?_⟩, ?_, GI.keep h2.gi hext'.fz⟩, ?_, hRR⟩
 ·rintro b (hb | ⟨k, o, l, _, hk, hl, rfl⟩)
  ·exact h2.mem.lt b hb
  ·obtain ⟨l2, arr, el, ff, q1, _, _, q4, _⟩ := h2.mem.at_ k o hk
   rw [hl] at q1; obtain rfl := Option.some.inj q1
   rcases Nat.lt_or_ge l.b w'.heap.size with hh | hh
   ·exact hh
   ·simp [Array.getElem?_eq_none hh] at q4
 ·have hsome : ∀ k o, m'' k = some o → k < n ∧ ∃ o', m' k = some o' := by
   intro k o hk
   have hkn : k < n := by
    rcases Nat.lt_or_ge k n with hh | hh
    ·exact hh
    ·rw [hm1 k hh] at hk; cases hk
   refine ⟨hkn, ?_⟩
   rcases hm2 k hkn with ⟨h5, _⟩ | ⟨o', _, _, h5, _⟩
   ·exact ⟨o, by rw [← h5]; exact hk⟩
   ·exact ⟨o', h5⟩
  intro k k' o o' l l' hk hk' hl hl' hb
  obtain ⟨a1, o1, a2⟩ := hsome k o hk
  obtain ⟨b1, o2, b2⟩ := hsome k' o' hk'
  rw [hν'' k a1] at hl; rw [hν'' k' b1] at hl'
  exact h2.mem.inj k k' o1 o2 l l' a2 b2 hl hl' hb
 ·intro k o hk
  have hkn : k < n := by
   rcases Nat.lt_or_ge k n with hh | hh
   ·exact hh
   ·rw [hm1 k hh] at hk; cases hk
  have hnF : ∀ o1 l, m' k = some o1 → ν' k = some l → ¬ F' l.b → ¬ F'' l.b := by
   rintro o1 l q0 q1 q5 (hb | ⟨k2, o2, l2, hk2, hm2', hl2, hb⟩)
   ·exact q5 hb
   ·have := h2.mem.inj k2 k o2 o1 l2 l hm2' q0 hl2 q1 hb
    omega
  rcases hm2 k hkn with ⟨h5, h6⟩ | ⟨o1, o2, fu', h5, h6, h7, h8, h9, h10⟩
  ·have hk' : m' k = some o := by rw [← h5]; exact hk
   obtain ⟨l, arr, el, ff, q1, q2, q3, q4, q5, q6, q7⟩ := h2.mem.at_ k o hk'
   refine ⟨l, arr, el, ff, by rw [hν'' k hkn]; exact q1, q2, q3, q4, hnF o l hk' q1 q5, q6, ?_⟩
   have hbl : belowE n o.es = true := by
    obtain ⟨l0, _, _, _, _, _, _, _, _, _, r7⟩ := hst.mem.at_ k o (by rw [← h6]; exact hk')
    exact conEs_below hνlt _ _ _ _ r7
   exact conEs_restrict hν'' _ _ _ _ hbl (ConEs.mono hext' _ _ _ _ rfl q7)
  ·rw [h6] at hk; obtain rfl := Option.some.inj hk
   obtain ⟨l, arr, el, ff, q1, q2, q3, q4, q5, q6, q7⟩ := h2.mem.at_ k o1 h5
   refine ⟨l, arr, el, ff, by rw [hν'' k hkn]; exact q1, by omega, by omega, q4, hnF o1 l h5 q1 q5, q6, ?_⟩
   rw [h7, h9]
   rw [h9] at h10
   refine conEs_restrict hν'' _ _ _ _ h10 ?_
   have ihCs : ∀ (ds : List D) (b o : Nat), ConCs w' ν' F' ds b o → ConCs w' ν' F'' (ds.map (rs β (From n m') fu')) b o := by
    intro ds
    induction ds with
    | nil => intro b o h; trivial
    | cons d ds ihd => intro b o h; simp only [ConCs, List.map_cons] at h ⊢; obtain ⟨⟨y, h1, h2, hd⟩, hr⟩ := h; exact ⟨⟨y, h1, h2, rs_sound hpub fu' d y hd⟩, ihd b (o + 1) hr⟩
   have ihEs : ∀ (es : List (List D)) (z b o : Nat), ConEs w' ν' F' z es b o → ConEs w' ν' F'' z (es.map fun e => e.map (rs β (From n m') fu')) b o := by
    intro es
    induction es with
    | nil => intro z b o h; trivial
    | cons e es ihd => intro z b o h; simp only [ConEs, List.map_cons] at h ⊢; obtain ⟨h1, hc, hr⟩ := h; exact ⟨by simpa using h1, ihCs e b o hc, ihd z b (o + z) hr⟩
   exact ihEs _ _ _ _ q7
 ·intro k hk
  exact ⟨by simp [ν'']; omega, hm1 k hk⟩
 ·rw [← hrs] at hbel ⊢
  exact con_restrict hν'' _ _ hbel (rs_sound hpub fu d v h3)
end
end Go.Proofs.Mv.V
namespace Go.Proofs.Mv.V
variable [GI]

theorem mk_ofL (l : List UInt8) : (ByteArray.mk (List.toArray l)) = ofL l := rfl
theorem empty_ofL : ByteArray.empty = ofL [] := rfl
theorem size_ofL (l : List UInt8) : (ofL l).size = l.length := by simp [ofL, ByteArray.size]
theorem list_ofL (l : List UInt8) : (ofL l).data.toList = l := rfl
theorem append_ofL (a b : List UInt8) : ofL a ++ ofL b = ofL (a ++ b) := by apply ByteArray.ext; simp [ofL]
theorem toList_ofL (l : List UInt8) : (ofL l).toList = l := by rw [ByteArray.toList_eq]; rfl
theorem extract_ofL (l : List UInt8) (i j : Nat) : (ofL l).extract i j = ofL ((l.take j).drop i) := by
 apply ByteArray.ext
 simp only [ofL, ByteArray.data_extract]
 apply Array.ext'
 simp only [Array.toList_extract, List.extract_eq_take_drop]
 rw [List.take_drop]
 by_cases h : i ≤ j
 ·rw [Nat.add_sub_cancel' h]
 ·rw [List.drop_eq_nil_of_le (by simp; omega), List.drop_eq_nil_of_le (by simp; omega)]

theorem upd_same (σ : Nat → D) (i : Nat) (d : D) : upd σ i d i = d := by simp [upd]
theorem upd_ne (σ : Nat → D) (i j : Nat) (d : D) (h : j ≠ i) : upd σ i d j = σ j := by simp [upd, h]
theorem set_same (m : Mem) (k : Nat) (o : Obj) : m.set k o k = some o := by simp [Mem.set]
theorem set_ne (m : Mem) (k j : Nat) (o : Obj) (h : j ≠ k) : m.set k o j = m j := by simp [Mem.set, h]
theorem guarded_none {ops : Array Oper} {d : Option Tmp} {op : Op} {ty : TypeId} {pos : String} {after : Array Edge} {σ : Nat → D} : guarded ops ⟨d, op, ty, pos, after, none⟩ σ = some true := rfl


def keep : List Nat → (Nat → D) → Nat → D
 | [], _ => fun _ => .any
 | i :: g, σ => upd (keep g σ) i (σ i)

section
variable {P : Program} {N : Nat} {σ σ' : Nat → D} {m : Mem} {n : Nat} {Q : APost}
theorem keep_or (g : List Nat) (i : Nat) : keep g σ i = σ i ∨ keep g σ i = .any := by
 induction g with
 | nil => right; rfl
 | cons j g ih =>
  simp only [keep, upd]
  split
  ·rename_i h; subst h; left; rfl
  ·exact ih
theorem awp_forget {c : Code} (h : AWP P N c Q σ' m n) (hk : ∀ i, σ' i = σ i ∨ σ' i = .any) : AWP P N c Q σ m n := by
 intro B hB w ν F a hr
 refine h B hB w ν F a ⟨hr.size, hr.defers, hr.base, fun i => ?_, hr.st⟩
 rcases hk i with e | e
 ·rw [e]; exact hr.con i
 ·rw [e]; simp [Con]
theorem awp_keep {c : Code} (g : List Nat) (h : AWP P N c Q (keep g σ) m n) : AWP P N c Q σ m n := awp_forget h (keep_or g)
theorem awp_rs {id : Nat} {ops : Array Oper} {y : Code} (g : List Nat) (h : vcOps P N ops (fun σ m n => AWP P N y Q (keep g σ) m n) ops.toList σ m n) : AWP P N (.seq (.region id ops false) y) Q σ m n :=
 awp_seq (awp_region (vcOps_mono (fun σ m n hh => awp_keep g hh) _ _ _ _ h))
where
 vcOps_mono {ops : Array Oper} {K K' : (Nat → D) → Mem → Nat → Prop} (hK : ∀ σ m n, K σ m n → K' σ m n) : ∀ (l : List Oper) (σ : Nat → D) (m : Mem) (n : Nat), vcOps P N ops K l σ m n → vcOps P N ops K' l σ m n := by
  intro l
  induction l with
  | nil => intro σ m n h; exact hK _ _ _ h
  | cons o rest ih =>
   intro σ m n h
   simp only [vcOps, ostep] at h ⊢
   refine ⟨h.1, ?_⟩
   have h2 := h.2
   split at h2
   ·exact h2
   ·exact ih _ _ _ h2
   ·unfold aop at h2 ⊢
    split at h2
    ·exact ⟨h2.1, ih _ _ _ h2.2⟩
    ·split at h2
     ·exact ⟨h2.1, ih _ _ _ h2.2⟩
     ·exact eop_mono (fun d m n hh => ih _ _ _ hh) h2
end
end Go.Proofs.Mv.V
