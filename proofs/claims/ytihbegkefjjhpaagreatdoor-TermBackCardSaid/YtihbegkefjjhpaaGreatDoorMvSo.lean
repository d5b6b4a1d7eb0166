/- A part of the proofs: machine, contracts, laws. No condition of its own. -/
import Derived.Test.YtihbegkefjjhpaaGreatDoorMvD
import Derived.Shelf.SlSortCmp.WholeK
set_option linter.unusedSimpArgs false
set_option linter.unusedVariables false
set_option linter.unusedSectionVars false
namespace Go.Proofs.Mv.V
variable [GI]
open Go.RowKit Go.Sort Go.Shelf
structure RowV (z : Nat) where
 nm : List UInt8
 rest : List Value
 len : rest.length = z
 one : ∀ v ∈ rest, v.oneCell' = true
abbrev RowD (z : Nat) := RowV z × (List UInt8 × List D)
instance (z : Nat) : Inhabited (RowD z) := ⟨⟨[], List.replicate z (.int .i64 0), by simp, by intro v hv; rw [List.eq_of_mem_replicate hv]; rfl⟩, ([], [])⟩
def encV {z : Nat} (x : RowD z) : List Value := .string (ofL x.1.nm) :: x.1.rest
def cmpB (a b : List UInt8) : Int := if ltB a b then -1 else if ltB b a then 1 else 0
def cfV {z : Nat} (x y : RowD z) : Int := cmpB x.1.nm y.1.nm
theorem cfV_lt {z : Nat} (x y : RowD z) : ltOf cfV x y = ltB x.1.nm y.1.nm := by
 unfold ltOf cfV cmpB
 cases h : ltB x.1.nm y.1.nm
 ·by_cases h' : ltB y.1.nm x.1.nm <;> simp [h']
 ·simp
theorem cfV_swo (z : Nat) : SWO (ltOf (cfV (z := z))) where
 irrefl x := by rw [cfV_lt]; exact ltB_irr _
 trans x y z h1 h2 := by rw [cfV_lt] at *; exact ltB_tr h1 h2
 ntrans x y z h1 h2 := by rw [cfV_lt] at *; exact ltB_ntr h1 h2
theorem oneC_one {v : Value} (h : oneC v = true) : v.oneCell' = true := by cases v <;> simp_all [oneC, Value.oneCell']
theorem one_oneC {v : Value} (h : v.oneCell' = true) : oneC v = true := by cases v <;> simp_all [oneC, Value.oneCell']
def el (p : List UInt8 × List D) : List D := .v (.string (ofL p.1)) :: p.2
section
variable {w : World} {ν : Nu} {F : Nat → Prop}
theorem rowsV (z : Nat) (b : Nat) : ∀ (ps : List (List UInt8 × List D)) (o : Nat), ConEs w ν F (z + 1) (ps.map el) b o → ∃ rs : List (RowD z), rs.map (·.2) = ps ∧
  (∀ r ∈ rs, r.1.nm = r.2.1 ∧ ConVs w ν F r.2.2 r.1.rest) ∧ ∀ (i : Nat) (r : RowD z), rs[i]? = some r → ∀ (j : Nat) (v : Value), (encV r)[j]? = some v → w.cell? ⟨b, o + i * (z + 1) + j, none⟩ = some v
 | [], o, _ => ⟨[], rfl, by simp, by simp⟩
 | p :: ps, o, h => by
  simp only [List.map_cons, ConEs] at h
  obtain ⟨h1, h2, h3⟩ := h
  obtain ⟨rs, e1, e2, e3⟩ := rowsV z b ps _ h3
  obtain ⟨ys, g1, g2, g3⟩ := conCs_vals h2
  simp only [el, ConVs, Con] at g1
  obtain ⟨y, r, rfl, rfl, g1⟩ := g1
  have hl : r.length = z := by
   have := conVs_length g1
   simp [el] at h1; omega
  refine ⟨(⟨p.1, r, hl, fun v hv => oneC_one (g2 v (by simp [hv]))⟩, p) :: rs, by simp [e1], ?_, ?_⟩
  ·intro x hx
   rcases List.mem_cons.1 hx with rfl | hx
   ·exact ⟨rfl, g1⟩
   ·exact e2 x hx
  ·intro i x hi j v hj
   cases i with
   | zero =>
    simp at hi; subst hi
    have := g3 j v hj
    simpa using this
   | succ i =>
    have := e3 i x (by simpa using hi) j v hj
    rw [show o + (i + 1) * (z + 1) + j = o + (z + 1) + i * (z + 1) + j by rw [Nat.add_mul]; omega]
    exact this
end
theorem sort_heap {α : Type} [Inhabited α] (enc : α → List Value) (k : Nat) (w : World) (blk off n : Nat) (d : Array α) (os : Array Go.Obj) {arr : Array Value} {e : TypeId} {f : Nat × Nat} (h : w.heap[blk]? = some (.cells arr e f)) :
  (sortWorldK enc k w blk off n d os).heap[blk]? = some (.cells (putCells id off (flatK enc k d) arr) e f) ∧ (∀ b, b ≠ blk → b < w.heap.size → (sortWorldK enc k w blk off n d os).heap[b]? = w.heap[b]?) ∧ w.heap.size ≤ (sortWorldK enc k w blk off n d os).heap.size := by
 have hlt : blk < w.heap.size := (Array.getElem?_eq_some_iff.1 h).1
 refine ⟨?_, fun b hb hl => ?_, size_sortWorldK_c enc k w blk off n d os⟩
 ·unfold sortWorldK putRowK putRow mapBlock
  rw [heap_grow_old _ _ (by simp [Go.Sort.ahead]; exact hlt)]
  simp only [Go.Sort.ahead, Array.getElem?_modify, if_true, h, Option.map_some, onCells]
 ·unfold sortWorldK putRowK putRow mapBlock
  rw [heap_grow_old _ _ (by simp [Go.Sort.ahead]; exact hl)]
  simp only [Go.Sort.ahead, Array.getElem?_modify, if_neg (Ne.symm hb)]
theorem acalls_sort {P : Program} {ρ : Ren} (L : SlLaysF0.n6 P ρ) (hcl : Callable P (ρ.f 6)) (z : Nat) (aE : ∀ w, (isAgg (ρ.t 24)).run P w = .ok true w) (zE : ∀ w, (Go.sizeOf (ρ.t 24)).run P w = .ok (z + 1) w) (g : Nat)
  (eg : ∀ args w, (callFunc g args).run P w = .ok (.enter g args) w) (hcmp : ∀ (x y : RowD z) (W : World), Calls P g #[.agg (encV x).toArray, .agg (encV y).toArray] W fun e w' => e = .returned (.int .i64 (cfV x y)) ∧ ∃ q os', w' = grow (W.drewN q) os')
  (ps : List (List UInt8 × List D)) {k gg : Nat} {es' : List (List D)} {m : Mem} {n : Nat} (hm : m k = some ⟨z + 1, es', gg⟩) (hle : ps.length ≤ es'.length) (ht : es'.take ps.length = ps.map el) (hb : ps.length < 4611686018427387904) (hkn : k < n) :
  ACalls P (ρ.f 6) [.own k gg 0 ps.length (z + 1), .func (.func g) [] []] m n (fun d m' n' => ∃ qs : List (List UInt8 × List D), qs.Perm ps ∧ qs.Pairwise (fun a b => ltB b.1 a.1 = false) ∧ m' = m.set k ⟨z + 1, qs.map el ++ es'.drop ps.length, gg⟩ ∧ n' = n) := by
 refine ⟨hcl, fun w ν F vals hst hv => ?_⟩
 obtain ⟨x, y, rfl, h1, h2⟩ := conVs_arr2 hv
 simp only [Con, ConVs] at h1 h2
 obtain ⟨l, b, off, c, hl, hg, hlz, rfl, hn, he⟩ := h1
 obtain ⟨ys, zs, rfl, hys, hzs⟩ := h2
 obtain rfl : ys = #[] := by apply Array.toList_inj.1; simpa using hys
 obtain rfl : zs = #[] := by apply Array.toList_inj.1; simpa using hzs
 obtain ⟨l2, arr, e, f, q1, q2, q3, q4, q5, q6, q7⟩ := hst.mem.at_ k _ hm
 rw [hl] at q1; obtain rfl := Option.some.inj q1
 simp only at q2 q3 q7
 obtain ⟨rfl, hoff, arr2, e2, f2, ha2, hsz2⟩ := he q2
 rw [q4] at ha2
 simp only [Option.some.injEq, Go.Obj.cells.injEq] at ha2
 obtain ⟨rfl, rfl, rfl⟩ := ha2
 have hlt : l.b < w.heap.size := (Array.getElem?_eq_some_iff.1 q4).1
 have hoff' : off = 0 ∨ ps.length = 0 := by omega
 have hfirst : ConEs w ν F (z + 1) (ps.map el) l.b 0 := by rw [← ht]; exact conEs_take q7 _
 obtain ⟨rs, e1, e2', e3⟩ := rowsV z l.b ps 0 hfirst
 have hrl : rs.length = ps.length := by rw [← e1]; simp
 let d : Array (RowD z) := rs.toArray
 have hds : d.size = ps.length := by simp [d, hrl]
 have henc : ∀ x : RowD z, (encV x).length = z + 1 := fun x => by simp [encV, x.1.len]
 have hH : HoldsK encV (z + 1) w l.b off d := by
  intro t ht'
  rw [size_flatK] at ht'
  rw [get_flatK _ _ _ _ ht']
  have ho : off = 0 := by
   rcases hoff' with h | h
   ·exact h
   ·rw [hds, h] at ht'; omega
  have hi : t / (z + 1) < d.size := Nat.div_lt_of_lt_mul (by rw [Nat.mul_comm]; exact ht')
  have hj : t % (z + 1) < z + 1 := Nat.mod_lt _ (by omega)
  have hi' : t / (z + 1) < rs.length := by simpa [d] using hi
  have hget : rs[t / (z + 1)]? = some d[t / (z + 1)]! := by simp [d, hi']
  have hv : (encV d[t / (z + 1)]!)[t % (z + 1)]? = some ((encV d[t / (z + 1)]!)[t % (z + 1)]!) := by
   have hlj : t % (z + 1) < (encV d[t / (z + 1)]!).length := by rw [henc]; exact hj
   rw [List.getElem?_eq_getElem hlj, getElem!_pos (encV d[t / (z + 1)]!) _ hlj]
  have := e3 _ _ hget _ _ hv
  have ee : 0 + t / (z + 1) * (z + 1) + t % (z + 1) = t := by rw [Nat.zero_add, Nat.mul_comm]; exact Nat.div_add_mod t (z + 1)
  rw [ee] at this
  have ht2 : off + t = t := by omega
  rw [ht2]
  refine ⟨this, ?_⟩
  have hta : t < arr.size := by
   have := cell?_cells (o := t) q4
   rcases Nat.lt_or_ge t arr.size with h | h
   ·exact h
   ·rw [Array.getElem?_eq_none h] at this; simp_all
  simp only [World.frozen?, q4]
  rcases q6 with h | h
  ·simp; omega
  ·simp; omega
 have hcon := AnyQ.slices_SortFunc L (z + 1) aE zE encV henc (fun x v hv => by
  simp only [encV, List.mem_cons] at hv
  rcases hv with rfl | hv
  ·rfl
  ·exact x.1.one v hv) cfV (cfV_swo z) g #[] l.b off c d w eg (fun m os dk hs x y => hcmp x y _) hH hlt (by omega)
 rw [hds] at hcon
 refine hcon.mono ?_
 rintro ev w' ⟨rfl, d', nn, os, hp, hs, rfl⟩
 obtain ⟨hs1, _, hp2⟩ := hp
 have hd's : d'.size = ps.length := by rw [hs1, hds]
 obtain ⟨H1, H2, H3⟩ := sort_heap encV (z + 1) w l.b off nn d' os q4
 have hperm : d'.toList.Perm rs := by
  have ea : d'.extract 0 ps.length = d' := by rw [← hd's]; exact Array.extract_size
  have eb : d.extract 0 ps.length = d := by rw [← hds]; exact Array.extract_size
  rw [ea, eb] at hp2
  exact hp2
 have hmem : ∀ r ∈ d'.toList, r.1.nm = r.2.1 ∧ ConVs w ν F r.2.2 r.1.rest := fun r hr => e2' r (hperm.mem_iff.1 hr)
 have hH' := holdsK_sortWorldK_c encV (z + 1) w l.b off d d' nn os hH hlt hs1
 have hcon : ∀ ν' : Nu, ν' = (fun j => if j = k then some ⟨l.b, gg, z + 1⟩ else ν j) → Ext w ν F (sortWorldK encV (z + 1) w l.b off nn d' os) ν' F →
   ConEs (sortWorldK encV (z + 1) w l.b off nn d' os) ν' F (z + 1) (d'.toList.map (fun r => el r.2) ++ es'.drop ps.length) l.b 0 := by
  intro ν' hν' hext
  refine conEs_append ?_ ?_
  ·have key : ∀ (rs' : List (RowD z)) (o : Nat), (∀ r ∈ rs', r.1.nm = r.2.1 ∧ ConVs w ν F r.2.2 r.1.rest) → (∀ (i : Nat) (r : RowD z), rs'[i]? = some r → ∀ (j : Nat) (v : Value), (encV r)[j]? = some v → (sortWorldK encV (z + 1) w l.b off nn d' os).cell? ⟨l.b, o + i * (z + 1) + j, none⟩ = some v) →
     ConEs (sortWorldK encV (z + 1) w l.b off nn d' os) ν' F (z + 1) (rs'.map (fun r => el r.2)) l.b o := by
    intro rs'
    induction rs' with
    | nil => intro o _ _; trivial
    | cons r rs' ih =>
     intro o h1 h2
     obtain ⟨hn1, hv1⟩ := h1 r (by simp)
     simp only [List.map_cons, ConEs]
     refine ⟨?_, ?_, ih (o + (z + 1)) (fun x hx => h1 x (by simp [hx])) fun i x hi j v hj => ?_⟩
     ·simp only [el, List.length_cons]
      have := conVs_length hv1
      rw [this, r.1.len]
     ·have hvs : ConVs (sortWorldK encV (z + 1) w l.b off nn d' os) ν' F (el r.2) (encV r) := by
       simp only [el, encV, ConVs, Con]
       exact ⟨_, _, rfl, by rw [hn1], ConVs.mono hext _ _ hv1⟩
      have := conCs_of H1 (el r.2) o (encV r) hvs (fun x hx => by
       simp only [encV, List.mem_cons] at hx
       rcases hx with rfl | hx
       ·rfl
       ·exact one_oneC (r.1.one x hx)) (fun j y hy => by
        have := h2 0 r (by simp) j y hy
        rw [cell?_cells H1] at this
        simpa using this)
      exact this
     ·have := h2 (i + 1) x (by simpa using hi) j v hj
      rw [show o + (z + 1) + i * (z + 1) + j = o + (i + 1) * (z + 1) + j by rw [Nat.add_mul]; omega]
      exact this
   refine key _ 0 hmem fun i r hi j v hj => ?_
   have hi' : i < d'.size := by
    rcases Nat.lt_or_ge i d'.toList.length with h | h
    ·simpa using h
    ·rw [List.getElem?_eq_none h] at hi; cases hi
   have hj' : j < z + 1 := by
    rcases Nat.lt_or_ge j (z + 1) with h | h
    ·exact h
    ·rw [List.getElem?_eq_none (by rw [henc]; exact h)] at hj; cases hj
   have := (hH'.cell hi' hj').1
   have hr : d'[i]! = r := by rw [getElem!_pos d' i hi']; have : d'.toList[i]? = some d'[i] := by simp [hi']
                              rw [this] at hi; exact Option.some.inj hi
   rw [hr] at this
   have hv : (encV r)[j]! = v := by
    have hlj : j < (encV r).length := by rw [henc]; exact hj'
    rw [List.getElem?_eq_getElem hlj] at hj
    rw [getElem!_pos (encV r) j hlj]; exact Option.some.inj hj
   rw [hv] at this
   have ho : off = 0 := by omega
   rw [ho] at this ⊢
   exact this
  ·have hd : ConEs w ν F (z + 1) (es'.drop ps.length) l.b (0 + ps.length * (z + 1)) := conEs_drop q7 _
   have hlen : (d'.toList.map (fun r => el r.2)).length = ps.length := by simp [hd's]
   rw [hlen]
   obtain ⟨ys, g1, g2, g3, g4⟩ := conEs_vals hd
   refine conEs_of H1 (z + 1) _ _ ys (fun x hx => conEs_len hd x hx) (ConVs.mono hext _ _ g1) g3 fun j y hy => ?_
   have h4 := g4 j y hy
   rw [cell?_cells q4] at h4
   simp only [putCells, Array.getElem?_mapIdx, h4, Option.map_some]
   rw [if_neg]
   rw [size_flatK, hd's]
   rcases hoff' with h | h
   ·omega
   ·rw [h]; omega
 obtain ⟨ν', hν', hext, hst'⟩ := hst.update (k := k) (o' := ⟨z + 1, d'.toList.map (fun r => el r.2) ++ es'.drop ps.length, gg⟩) (n' := n) (b := l.b) (w' := sortWorldK encV (z + 1) w l.b off nn d' os) (by exact hkn) (Nat.le_refl _) H3 H1 H2 q5
  (by simp only [putCells, Array.size_mapIdx]; exact q6) (fun arr0 e0 f0 h0 => by rw [q4] at h0; simp only [Option.some.injEq, Go.Obj.cells.injEq] at h0; rw [← h0.1]; simp [putCells])
  (fun l' hl' => by rw [hl] at hl'; obtain rfl := Option.some.inj hl'; exact ⟨Nat.le_of_eq q2, q3.symm, fun _ => rfl⟩)
  (fun k' o l' hk' ho hl' hbb => hk' (hst.mem.inj k' k o _ l' l ho hm hl' hl hbb)) hcon ⟨rfl, rfl⟩
 refine ⟨_, rfl, ν', F, .any, _, n, hext, hst', trivial, d'.toList.map (·.2), ?_, ?_, ?_, rfl⟩
 ·rw [← e1]; exact hperm.map _
 ·rw [List.pairwise_map, List.pairwise_iff_getElem]
  intro i j hi hj hij
  have := hs i j (Nat.zero_le _) hij (by simp at hj; omega)
  rw [cfV_lt] at this
  have hi' : i < d'.size := by simpa using hi
  have hj' : j < d'.size := by simpa using hj
  rw [getElem!_pos d' j hj', getElem!_pos d' i hi'] at this
  have m1 := hmem d'[i] (by simp)
  have m2 := hmem d'[j] (by simp)
  rw [m1.1, m2.1] at this
  simpa using this
 ·rw [List.map_map]; rfl
end Go.Proofs.Mv.V
