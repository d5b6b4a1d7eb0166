/- A part of the proofs of the seat YtbgkkoloflcnbaaGreatDoor: the abstract machine, the contracts of the functions, the laws. No condition of its own. -/
import Derived.Test.YtbgkkoloflcnbaaGreatDoorLawS
import Derived.Test.YtbgkkoloflcnbaaGreatDoorTyA
import Derived.Test.YtbgkkoloflcnbaaGreatDoorSyn
set_option linter.unusedSimpArgs false
set_option linter.unusedVariables false
set_option linter.unusedSectionVars false
open Go Go.Proofs Go.Proofs.Mv.V
namespace Go.Proofs.Mv.App
def impOk (i : Imp) : Bool := smallN i.pkg && smallN i.mod && smallN i.as_ && decide (1 ≤ i.major) && decide (i.major ≤ 999999999)
def nothingT (t : Ty) : Bool := decide (t.kind = 0) && emptyT t && decide (t.names.length = 0) && decide (t.subs.length = 0)
theorem nothing_iff {t : Ty} : nothingT t = true ↔ t = Ty0 := by
  obtain ⟨k, p, j, m, n, ns, ts⟩ := t
  simp only [nothingT, emptyT, Ty.kind, Ty.pkg, Ty.major, Ty.mod, Ty.name, Ty.names, Ty.subs, Bool.and_eq_true, decide_eq_true_eq, List.length_eq_zero_iff, Ty0, Ty.mk.injEq]
  constructor
  · rintro ⟨⟨⟨h1, ⟨⟨h2, h3⟩, h4⟩, h5⟩, h6⟩, h7⟩; exact ⟨h1, h2, h3, h4, h5, h6, h7⟩
  · rintro ⟨h1, h2, h3, h4, h5, h6, h7⟩; exact ⟨⟨⟨h1, ⟨⟨h2, h3⟩, h4⟩, h5⟩, h6⟩, h7⟩
def dclOk (d : Dcl) : Bool :=
  if d.kind = 1 ∨ d.kind = 2 then greatN d.name && nothingT d.typ
  else if d.kind = 3 then greatN d.name && mayT d.typ
  else if d.kind = 4 then smallN d.name && mayT d.typ
  else false
def mayM (x : Md) : Bool := smallN x.name && decide (x.imps.length ≤ 20) && decide (x.decls.length ≤ 60) && x.imps.all impOk && x.decls.all dclOk
def impLine (i : Imp) : List UInt8 := wImp ++ [32] ++ i.pkg ++ [32] ++ digits i.major.toNat ++ [32] ++ i.mod ++ [32, 97, 115, 32] ++ i.as_
def dclLine (d : Dcl) : List UInt8 :=
  if d.kind = 1 then wOpa ++ [32] ++ d.name
  else if d.kind = 2 then wHid ++ [32] ++ d.name
  else if d.kind = 3 then wAli ++ [32] ++ d.name ++ [32, 61, 32] ++ textT d.typ
  else wVal ++ [32] ++ d.name ++ [32, 58, 32] ++ textT d.typ
def linesM (x : Md) : List (List UInt8) := (wMod ++ [32] ++ x.name) :: (x.imps.map impLine ++ x.decls.map dclLine)
def textM (x : Md) : List UInt8 := ((linesM x).map (· ++ [10])).flatten
/-! tokens -/
def impSk (i : Imp) : List Sk := [(1, wImp), (1, i.pkg), (3, digits i.major.toNat), (1, i.mod), (1, wAs), (1, i.as_)]
def dclSk (d : Dcl) : List Sk :=
  if d.kind = 1 then [(1, wOpa), (2, d.name)]
  else if d.kind = 2 then [(1, wHid), (2, d.name)]
  else if d.kind = 3 then (1, wAli) :: (2, d.name) :: (4, [61]) :: skT d.typ
  else (1, wVal) :: (1, d.name) :: (4, [58]) :: skT d.typ
theorem Lx.key {w s : List UInt8} {k : List Sk} (hw : w.head?.any isSmall = true) (ha : w.all isWord = true) (h : Lx s k) : Lx (w ++ 32 :: s) ((1, w) :: k) := Lx.lower hw ha (stopW_cons (by decide)) h.sp
theorem lx_imp {i : Imp} (h : impOk i = true) {s : List UInt8} {k : List Sk} (hs : Lx s k) : Lx (impLine i ++ [10] ++ s) (impSk i ++ k) := by
  simp only [impOk, Bool.and_eq_true, decide_eq_true_eq] at h
  obtain ⟨⟨⟨⟨h1, h2⟩, h3⟩, h4⟩, h5⟩ := h
  have c1 := Lx.name (g := false) h3 (stopW_cons (by decide)) hs.nl
  have c2 := Lx.key (w := wAs) (by decide) (by decide) c1
  have c3 := Lx.name (g := false) h2 (stopW_cons (by decide)) c2.sp
  have c4 := Lx.digits (n := i.major.toNat) (by omega) (by omega) (stopW_cons (by decide)) c3.sp
  have c5 := Lx.name (g := false) h1 (stopW_cons (by decide)) c4.sp
  have c6 := Lx.key (w := wImp) (by decide) (by decide) c5
  simpa [impLine, impSk, wAs, List.append_assoc] using c6
theorem may_all {t : Ty} (h : mayT t = true) : allT t = true ∧ manyT t ≤ 500 ∧ deepT t ≤ 32 := by
  simp only [mayT, Bool.and_eq_true, decide_eq_true_eq] at h; exact ⟨h.1.1, h.1.2, h.2⟩
theorem lx_dcl {d : Dcl} (h : dclOk d = true) {s : List UInt8} {k : List Sk} (hs : Lx s k) : Lx (dclLine d ++ [10] ++ s) (dclSk d ++ k) := by
  unfold dclOk at h
  unfold dclLine dclSk
  by_cases k1 : d.kind = 1
  · simp only [k1, true_or, if_true, Bool.and_eq_true] at h ⊢
    have := Lx.key (w := wOpa) (by decide) (by decide) (Lx.name (g := true) h.1 (stopW_cons (by decide)) hs.nl)
    simpa [List.append_assoc] using this
  by_cases k2 : d.kind = 2
  · simp only [k1, k2, or_true, if_true, if_false, Bool.and_eq_true, show ¬ (2 : Int) = 1 by omega] at h ⊢
    have := Lx.key (w := wHid) (by decide) (by decide) (Lx.name (g := true) h.1 (stopW_cons (by decide)) hs.nl)
    simpa [List.append_assoc] using this
  by_cases k3 : d.kind = 3
  · simp only [k3, or_self, if_true, if_false, Bool.and_eq_true, show ¬ (3 : Int) = 1 by omega, show ¬ (3 : Int) = 2 by omega] at h ⊢
    have c1 := lxT d.typ (may_all h.2).1 (10 :: s) k (stopW_cons (by decide)) (by simp) hs.nl
    have c2 := Lx.name (g := true) h.1 (stopW_cons (by decide)) (Lx.sp (Lx.sign (x := 61) (by decide) c1.sp))
    have := Lx.key (w := wAli) (by decide) (by decide) c2
    simpa [List.append_assoc] using this
  · simp only [k1, k2, k3, or_self, if_false] at h ⊢
    split at h
    · simp only [Bool.and_eq_true] at h
      have c1 := lxT d.typ (may_all h.2).1 (10 :: s) k (stopW_cons (by decide)) (by simp) hs.nl
      have c2 := Lx.name (g := false) h.1 (stopW_cons (by decide)) (Lx.sp (Lx.sign (x := 58) (by decide) c1.sp))
      have := Lx.key (w := wVal) (by decide) (by decide) c2
      simpa [List.append_assoc] using this
    · cases h
theorem lx_rows {α : Type} {f : α → List UInt8} {g : α → List Sk} {ok : α → Bool} (hf : ∀ x, ok x = true → ∀ s k, Lx s k → Lx (f x ++ [10] ++ s) (g x ++ k)) : ∀ (l : List α), l.all ok = true → ∀ s k, Lx s k →
    Lx (((l.map f).map (· ++ [10])).flatten ++ s) ((l.map g).flatten ++ k)
  | [], _, s, k, h => by simpa using h
  | x :: l, ha, s, k, h => by
    simp only [List.all_cons, Bool.and_eq_true] at ha
    have := hf x ha.1 _ _ (lx_rows hf l ha.2 s k h)
    simpa [List.append_assoc] using this
def skM (x : Md) : List Sk := (1, wMod) :: (1, x.name) :: ((x.imps.map impSk).flatten ++ (x.decls.map dclSk).flatten)
theorem lxM {x : Md} (h : mayM x = true) : Lx (textM x) (skM x) := by
  simp only [mayM, Bool.and_eq_true, decide_eq_true_eq] at h
  obtain ⟨⟨⟨⟨h1, h2⟩, h3⟩, h4⟩, h5⟩ := h
  have c1 := lx_rows (f := dclLine) (g := dclSk) (fun x hx s k h => lx_dcl hx h) x.decls h5 [] [] Lx.nil
  have c2 := lx_rows (f := impLine) (g := impSk) (fun x hx s k h => lx_imp hx h) x.imps h4 _ _ c1
  have c3 := Lx.key (w := wMod) (by decide) (by decide) (Lx.name (g := false) h1 (stopW_cons (by decide)) c2.nl)
  simpa [textM, linesM, skM, List.append_assoc] using c3
/-! reading -/
section
variable {l : List Tok} {a c : Nat} {x : Sk} {r : List Sk}
theorem isKey_sees (s : List UInt8) (h : Sees l a (x :: r)) : isKey s l ⟨a, c, 0⟩ = (decide (x.1 = 1) && decide (x.2 = s)) := by
  obtain ⟨t, h1, h2, h3⟩ := cur_sees (c := c) h; simp [isKey, h1, h2, h3]
theorem isKey_end (s : List UInt8) (h : Sees l a []) : isKey s l ⟨a, c, 0⟩ = false := by
  have : l.drop a = [] := by simpa [Sees] using h
  have h2 : l[a]? = none := by rw [← List.head?_drop, this]; rfl
  simp [isKey, cur, h2]
theorem nameS_sees {g : Bool} {s : List UInt8} (hs : namOk g s = true) (h : Sees l a ((if g then 2 else 1, s) :: r)) : nameS g l ⟨a, c, 0⟩ = (s, ⟨a + 1, c, 0⟩) := by
  simp [nameS, takeF, isNam_sees g h, hs, curT_sees h, stepF]
theorem numS_sees {s : List UInt8} (hs : numOk s = true) (h : Sees l a ((3, s) :: r)) : numS l ⟨a, c, 0⟩ = ⟨a + 1, c, 0⟩ := by
  simp [numS, takeF, isNum_sees h, hs, stepF]
theorem mustS_sees {s : List UInt8} (h : Sees l a ((4, s) :: r)) : mustS s l ⟨a, c, 0⟩ = ⟨a + 1, c, 0⟩ := by
  simp [mustS, takeF, isSig_sees s h, stepF]
theorem keyS_sees {s : List UInt8} (h : Sees l a ((1, s) :: r)) : takeF (isKey s l ⟨a, c, 0⟩) l ⟨a, c, 0⟩ = (s, ⟨a + 1, c, 0⟩) := by
  simp [takeF, isKey_sees s h, curT_sees h, stepF]
theorem sees_le (h : Sees l a (x :: r)) : a < l.length := by
  rcases Nat.lt_or_ge a l.length with h1 | h1
  · exact h1
  · unfold Sees at h; rw [List.drop_eq_nil_of_le h1] at h; cases h
theorem typS_sees {t : Ty} (ht : mayT t = true) (h : Sees l a (skT t ++ r)) : typS l ⟨a, c, 0⟩ = (t, ⟨a + (skT t).length, c, 0⟩) := by
  obtain ⟨h1, h2, h3⟩ := may_all ht
  have h4 := typ_rt l 32 t h1 h3 a 0 r h (by omega)
  obtain ⟨x, q, e, _⟩ := skT_beg t h1
  have hle : a < l.length := by rw [e, List.cons_append] at h; exact sees_le h
  have hat : atF l (a : Int) = (t, a + (skT t).length, none) := by
    unfold atF
    rw [if_neg (by omega)]
    rw [show ((a : Int).toNat) = a by omega, h4]
    simp
  simp [typS, hat]
end
theorem imp_rt {l : List Tok} {a c : Nat} {i : Imp} {r : List Sk} (h : impOk i = true) (hs : Sees l a (impSk i ++ r)) : impF l (stepF ⟨a, c, 0⟩) = (i, ⟨a + 6, c, 0⟩) := by
  simp only [impOk, Bool.and_eq_true, decide_eq_true_eq] at h
  obtain ⟨⟨⟨⟨h1, h2⟩, h3⟩, h4⟩, h5⟩ := h
  simp only [impSk, List.cons_append, List.nil_append] at hs
  have s1 := (sees_get hs).2
  have s2 := (sees_get s1).2
  have s3 := (sees_get s2).2
  have s4 := (sees_get s3).2
  have s5 := (sees_get s4).2
  obtain ⟨d1, d2⟩ := digits_ok (n := i.major.toNat) (by omega) (by omega)
  have e1 : imp1 l (stepF ⟨a, c, 0⟩) = (i.pkg, ⟨a + 1 + 1, c, 0⟩) := nameS_sees (g := false) h1 s1
  have e2 : imp2 l (stepF ⟨a, c, 0⟩) = ⟨a + 1 + 1 + 1, c, 0⟩ := by rw [imp2, e1]; exact numS_sees d1 s2
  have e3 : imp3 l (stepF ⟨a, c, 0⟩) = (i.mod, ⟨a + 1 + 1 + 1 + 1, c, 0⟩) := by rw [imp3, e2]; exact nameS_sees (g := false) h2 s3
  have e4 : imp4 l (stepF ⟨a, c, 0⟩) = ⟨a + 1 + 1 + 1 + 1 + 1, c, 0⟩ := by rw [imp4, e3]; simp only; rw [keyS_sees s4]
  have e5 : imp5 l (stepF ⟨a, c, 0⟩) = (i.as_, ⟨a + 1 + 1 + 1 + 1 + 1 + 1, c, 0⟩) := by rw [imp5, e4]; exact nameS_sees (g := false) h3 s5
  have e6 : decF (curT l (imp1 l (stepF ⟨a, c, 0⟩)).2) = i.major.toNat := by rw [e1]; simp only; rw [curT_sees s2]; exact d2
  rw [impF, e3, e5, e6, e1]
  have : (i.major.toNat : Int) = i.major := by omega
  simp [this]
theorem imps_rt {l : List Tok} {c : Nat} : ∀ (is : List Imp) (k a : Nat) (acc : List Imp) (r : List Sk), is.all impOk = true → acc.length + is.length ≤ 20 → is.length < k → (∀ x q, r = x :: q → ¬ (x.1 = 1 ∧ x.2 = wImp)) →
    Sees l a ((is.map impSk).flatten ++ r) → ∃ a', impsF l k acc ⟨a, c, 0⟩ = (acc ++ is, ⟨a', c, 0⟩) ∧ Sees l a' r
  | [], 0, _, _, _, _, _, h, _, _ => by simp at h
  | [], k + 1, a, acc, r, _, _, _, hr, hs => by
    simp only [List.map_nil, List.flatten_nil, List.nil_append] at hs
    have : isKey wImp l ⟨a, c, 0⟩ = false := by
      cases r with
      | nil => exact isKey_end _ hs
      | cons x q => rw [isKey_sees _ hs]; have := hr x q rfl; simpa using this
    exact ⟨a, by simp [impsF, this], hs⟩
  | i :: is, 0, _, _, _, _, _, h, _, _ => by simp at h
  | i :: is, k + 1, a, acc, r, ha, hl, hk, hr, hs => by
    simp only [List.all_cons, Bool.and_eq_true] at ha
    simp only [List.map_cons, List.flatten_cons, List.append_assoc] at hs
    have h1 := imp_rt (c := c) ha.1 hs
    have hs2 : Sees l (a + 6) ((is.map impSk).flatten ++ r) := by simpa [impSk] using sees_app hs
    have hkey : isKey wImp l ⟨a, c, 0⟩ = true := by
      simp only [impSk, List.cons_append] at hs
      rw [isKey_sees _ hs]; simp
    obtain ⟨a', e, s⟩ := imps_rt is k (a + 6) (acc ++ [i]) r ha.2 (by simp at hl ⊢; omega) (by simp at hk; omega) hr hs2
    refine ⟨a', ?_, s⟩
    have hlt : ¬ 20 ≤ acc.length := by simp at hl; omega
    simp only [impsF, hkey, if_true, hlt, if_false, h1]
    rw [e]; simp
theorem dcl_rt {l : List Tok} {a c : Nat} {d : Dcl} {r : List Sk} (h : dclOk d = true) (hs : Sees l a (dclSk d ++ r)) : declF l ⟨a, c, 0⟩ = (d, ⟨a + (dclSk d).length, c, 0⟩) ∧ isDecl l ⟨a, c, 0⟩ = true ∧ ∃ x q, dclSk d = x :: q ∧ ¬ (x.1 = 1 ∧ x.2 = wImp) := by
  obtain ⟨kind, name, typ⟩ := d
  unfold dclOk at h
  unfold dclSk at hs ⊢
  simp only at h hs ⊢
  by_cases k1 : kind = 1
  · subst k1
    simp only [true_or, if_true, Bool.and_eq_true] at h hs ⊢
    obtain rfl := nothing_iff.1 h.2
    simp only [List.cons_append, List.nil_append] at hs
    have s1 := (sees_get hs).2
    refine ⟨?_, ?_, _, _, rfl, by decide⟩
    · rw [declF, curT_sees hs, if_pos rfl, dclN, show stepF ⟨a, c, 0⟩ = ⟨a + 1, c, 0⟩ from rfl, nameS_sees (g := true) h.1 s1]; simp
    · simp [isDecl, isKey_sees _ hs]
  by_cases k2 : kind = 2
  · subst k2
    simp only [or_true, if_true, Bool.and_eq_true, show ¬ (2 : Int) = 1 by omega, if_false] at h hs ⊢
    obtain rfl := nothing_iff.1 h.2
    simp only [List.cons_append, List.nil_append] at hs
    have s1 := (sees_get hs).2
    refine ⟨?_, ?_, _, _, rfl, by decide⟩
    · rw [declF, curT_sees hs, if_neg (by decide), if_pos rfl, dclN, show stepF ⟨a, c, 0⟩ = ⟨a + 1, c, 0⟩ from rfl, nameS_sees (g := true) h.1 s1]; simp
    · simp [isDecl, isKey_sees _ hs]
  by_cases k3 : kind = 3
  · subst k3
    simp only [or_self, if_true, if_false, Bool.and_eq_true, show ¬ (3 : Int) = 1 by omega, show ¬ (3 : Int) = 2 by omega] at h hs ⊢
    simp only [List.cons_append] at hs
    have s1 := (sees_get hs).2
    have s2 := (sees_get s1).2
    have s3 := (sees_get s2).2
    refine ⟨?_, ?_, _, _, rfl, by decide⟩
    · rw [declF, curT_sees hs, if_neg (by decide), if_neg (by decide), if_pos rfl, dclT, show stepF ⟨a, c, 0⟩ = ⟨a + 1, c, 0⟩ from rfl, nameS_sees (g := true) h.1 s1]
      simp only; rw [mustS_sees s2, typS_sees h.2 s3]; simp; omega
    · simp [isDecl, isKey_sees _ hs]
  · simp only [k1, k2, k3, or_self, if_false] at h hs ⊢
    split at h
    · rename_i k4
      subst k4
      simp only [Bool.and_eq_true] at h
      simp only [List.cons_append] at hs
      have s1 := (sees_get hs).2
      have s2 := (sees_get s1).2
      have s3 := (sees_get s2).2
      refine ⟨?_, ?_, _, _, rfl, by decide⟩
      · rw [declF, curT_sees hs, if_neg (by decide), if_neg (by decide), if_neg (by decide), dclT, show stepF ⟨a, c, 0⟩ = ⟨a + 1, c, 0⟩ from rfl, nameS_sees (g := false) h.1 s1]
        simp only; rw [mustS_sees s2, typS_sees h.2 s3]; simp; omega
      · simp [isDecl, isKey_sees _ hs]
    · cases h
theorem decls_rt {l : List Tok} {c : Nat} : ∀ (ds : List Dcl) (k a : Nat) (acc : List Dcl), ds.all dclOk = true → acc.length + ds.length ≤ 60 → ds.length < k →
    Sees l a (ds.map dclSk).flatten → ∃ a', declsF l k acc ⟨a, c, 0⟩ = (acc ++ ds, ⟨a', c, 0⟩) ∧ Sees l a' []
  | [], 0, _, _, _, _, h, _ => by simp at h
  | [], k + 1, a, acc, _, _, _, hs => by
    simp only [List.map_nil, List.flatten_nil] at hs
    exact ⟨a, by simp [declsF, isDecl, isKey_end _ hs], hs⟩
  | d :: ds, 0, _, _, _, _, h, _ => by simp at h
  | d :: ds, k + 1, a, acc, ha, hl, hk, hs => by
    simp only [List.all_cons, Bool.and_eq_true] at ha
    simp only [List.map_cons, List.flatten_cons] at hs
    obtain ⟨h1, h2, _⟩ := dcl_rt (c := c) ha.1 hs
    obtain ⟨a', e, s⟩ := decls_rt ds k _ (acc ++ [d]) ha.2 (by simp at hl ⊢; omega) (by simp at hk; omega) (sees_app hs)
    refine ⟨a', ?_, s⟩
    have hlt : ¬ 60 ≤ acc.length := by simp at hl; omega
    simp only [declsF, h2, if_true, hlt, if_false, h1]
    rw [e]; simp
/-- A module's text is read as it. -/
theorem mod_rt {x : Md} (h : mayM x = true) (hl : (textM x).length ≤ 20000) : modF (textM x) = (x, .none) := by
  obtain ⟨l1, l2⟩ := lxM h 0
  simp only [mayM, Bool.and_eq_true, decide_eq_true_eq] at h
  obtain ⟨⟨⟨⟨h1, h2⟩, h3⟩, h4⟩, h5⟩ := h
  unfold modF
  rw [if_neg (by omega), l2]
  generalize (toksAt (textM x) 0).1 = l at l1 ⊢
  have s0 : Sees l 0 (skM x) := by simpa [Sees] using l1
  simp only [skM] at s0
  have s1 := (sees_get s0).2
  have s2 := (sees_get s1).2
  have e1 : headP l = ⟨1, 0, 0⟩ := by rw [headP, keyS_sees s0]
  have e2 : nameP l = (x.name, ⟨2, 0, 0⟩) := by rw [nameP, e1]; exact nameS_sees (g := false) h1 s1
  have hr : ∀ y q, (x.decls.map dclSk).flatten = y :: q → ¬ (y.1 = 1 ∧ y.2 = wImp) := by
    intro y q e
    cases hd : x.decls with
    | nil => rw [hd] at e; cases e
    | cons d ds =>
      have hok : dclOk d = true := List.all_eq_true.1 h5 d (by rw [hd]; simp)
      obtain ⟨y', q', e', hn⟩ : ∃ y' q', dclSk d = y' :: q' ∧ ¬ (y'.1 = 1 ∧ y'.2 = wImp) := by
        unfold dclSk
        repeat' split
        all_goals exact ⟨_, _, rfl, by decide⟩
      rw [hd] at e
      simp only [List.map_cons, List.flatten_cons, e', List.cons_append, List.cons.injEq] at e
      rw [← e.1]; exact hn
  obtain ⟨a3, e3, s3⟩ := imps_rt (l := l) (c := 0) x.imps 21 2 [] _ h4 (by simp; omega) (by omega) hr s2
  have e3' : impsP l = (x.imps, ⟨a3, 0, 0⟩) := by rw [impsP, e2]; simpa using e3
  obtain ⟨a4, e4, s4⟩ := decls_rt (l := l) (c := 0) x.decls 61 a3 [] h5 (by simp; omega) (by omega) s3
  have e4' : declsP l = (x.decls, ⟨a4, 0, 0⟩) := by rw [declsP, e3']; simpa using e4
  have e5 : endP l = ⟨a4, 0, 0⟩ := by
    rw [endP, e4']
    have : ¬ a4 < l.length := by
      intro h
      have : l.drop a4 = [] := by simpa [Sees] using s4
      have := List.drop_eq_nil_iff.1 this
      omega
    rw [if_neg this]
  rw [e5, e2, e3', e4']
  simp
/-! what was read may be -/
theorem nameS_may {g : Bool} {l : List Tok} {p : PS} (h : (nameS g l p).2.bad = 0) : p.bad = 0 ∧ namOk g (nameS g l p).1 = true := by
  obtain ⟨h1, h2⟩ := takeF_ok (show (takeF (isNam g l p) l p).2.bad = 0 from h)
  refine ⟨h2, ?_⟩
  rw [nameS, takeF, h1]; exact isNam_curT h1
theorem imp_may {l : List Tok} {p : PS} (h : (impF l p).2.bad = 0) : impOk (impF l p).1 = true := by
  have h5 := nameS_may (show (nameS false l (imp4 l p)).2.bad = 0 from h)
  have h4 := takeF_ok (show (takeF _ l (imp3 l p).2).2.bad = 0 from h5.1)
  have h3 := nameS_may (show (nameS false l (imp2 l p)).2.bad = 0 from h4.2)
  have h2 := takeF_ok (show (takeF _ l (imp1 l p).2).2.bad = 0 from h3.1)
  have h1 := nameS_may (show (nameS false l p).2.bad = 0 from h2.2)
  have hn : numOk (curT l (imp1 l p).2) = true := by
    have e := h2.1
    unfold isNum at e; unfold curT
    cases hc : cur l (imp1 l p).2 with
    | none => rw [hc] at e; cases e
    | some t => rw [hc] at e; simp only [Bool.and_eq_true] at e; exact e.2
  have := of_numOk hn
  simp only [impOk, impF, Bool.and_eq_true, decide_eq_true_eq]
  exact ⟨⟨⟨⟨h1.2, h3.2⟩, h5.2⟩, decide_eq_true (show (1 : Int) ≤ (decF (curT l (imp1 l p).2) : Int) by omega)⟩, decide_eq_true (show (decF (curT l (imp1 l p).2) : Int) ≤ 999999999 by omega)⟩
theorem typS_may {l : List Tok} {p : PS} (h : (typS l p).2.bad = 0) : mayT (typS l p).1 = true := by
  have hb := typS_ok h
  unfold typS at h ⊢
  rw [if_pos hb] at h ⊢
  cases hA : (atF l (p.at_ : Int)).2.2 with
  | some x =>
    obtain ⟨a, c⟩ := x
    rw [hA] at h
    exact absurd h (atF_bad hA).1
  | none =>
    simp only
    unfold atF at hA ⊢
    split at hA
    · simp at hA
    · rename_i h1
      rw [if_neg h1]
      split at hA
      · simp at hA
      · rename_i h2
        rw [if_neg h2]
        obtain ⟨_, m1, m2, m3, m4, m5⟩ := typ_may l 32 ⟨(p.at_ : Int).toNat, 0, 0⟩ (by simpa using h2)
        simp only [mayT, m2, Bool.true_and, Bool.and_eq_true, decide_eq_true_eq]
        simp only [Nat.zero_add] at m4
        refine ⟨by omega, m3⟩
theorem decl_may {l : List Tok} {p : PS} (h : (declF l p).2.bad = 0) : dclOk (declF l p).1 = true := by
  have hN : ∀ kd q, (kd = 1 ∨ kd = 2) → (dclN kd l q).2.bad = 0 → dclOk (dclN kd l q).1 = true := by
    intro kd q hk h
    have := nameS_may (show (nameS true l q).2.bad = 0 from h)
    simp only [dclOk, dclN, hk, if_true, Bool.and_eq_true]
    exact ⟨this.2, nothing_iff.2 rfl⟩
  have hT : ∀ kd g s q, (kd = 3 ∧ g = true ∨ kd = 4 ∧ g = false) → (dclT kd g s l q).2.bad = 0 → dclOk (dclT kd g s l q).1 = true := by
    intro kd g s q hk h
    have ht := typS_may (show (typS l (mustS s l (nameS g l q).2)).2.bad = 0 from h)
    have h1 := takeF_ok (show (takeF _ l (nameS g l q).2).2.bad = 0 from typS_ok h)
    have h2 := nameS_may h1.2
    rcases hk with ⟨rfl, rfl⟩ | ⟨rfl, rfl⟩ <;> simp [dclOk, dclT, ht] <;> exact h2.2
  unfold declF at h ⊢
  split
  · rename_i e; rw [if_pos e] at h; exact hN 1 _ (.inl rfl) h
  · rename_i e; rw [if_neg e] at h
    split
    · rename_i e; rw [if_pos e] at h; exact hN 2 _ (.inr rfl) h
    · rename_i e; rw [if_neg e] at h
      split
      · rename_i e; rw [if_pos e] at h; exact hT 3 _ _ _ (.inl ⟨rfl, rfl⟩) h
      · rename_i e; rw [if_neg e] at h; exact hT 4 _ _ _ (.inr ⟨rfl, rfl⟩) h
theorem declsF_bad {l : List Tok} {p : PS} (h : ¬ p.bad = 0) (k : Nat) (acc : List Dcl) : declsF l k acc p = (acc, p) := by
  cases k with
  | zero => rfl
  | succ k => simp [declsF, isDecl, isKey_bad h]
theorem failS_may {c : Nat} {p : PS} (hc : c ≠ 0) : ¬ (failS c p).bad = 0 := by
  unfold failS; split
  · exact hc
  · assumption
theorem imps_may {l : List Tok} : ∀ (k : Nat) (acc : List Imp) (p : PS), acc.length ≤ 20 → acc.all impOk = true → (impsF l k acc p).2.bad = 0 → (impsF l k acc p).1.length ≤ 20 ∧ (impsF l k acc p).1.all impOk = true ∧ p.bad = 0
  | 0, acc, p, h1, h2, h => ⟨h1, h2, h⟩
  | k + 1, acc, p, h1, h2, h => by
    simp only [impsF] at h ⊢
    split
    · rename_i hk
      rw [if_pos hk] at h
      have hp : p.bad = 0 := by
        by_cases e : p.bad = 0
        · exact e
        · rw [isKey_bad e] at hk; cases hk
      split
      · rename_i h20; rw [if_pos h20] at h; exact absurd h (failS_may (by decide))
      · rename_i h20
        rw [if_neg h20] at h
        have hb : (impF l (stepF p)).2.bad = 0 := by
          by_cases e : (impF l (stepF p)).2.bad = 0
          · exact e
          · rw [impsF_bad e] at h; exact absurd h e
        have := imps_may k (acc ++ [(impF l (stepF p)).1]) _ (by simp; omega) (by simp [h2, imp_may hb]) h
        exact ⟨this.1, this.2.1, hp⟩
    · rename_i hk; rw [if_neg hk] at h; exact ⟨h1, h2, h⟩
theorem decls_may {l : List Tok} : ∀ (k : Nat) (acc : List Dcl) (p : PS), acc.length ≤ 60 → acc.all dclOk = true → (declsF l k acc p).2.bad = 0 → (declsF l k acc p).1.length ≤ 60 ∧ (declsF l k acc p).1.all dclOk = true ∧ p.bad = 0
  | 0, acc, p, h1, h2, h => ⟨h1, h2, h⟩
  | k + 1, acc, p, h1, h2, h => by
    simp only [declsF] at h ⊢
    split
    · rename_i hk
      rw [if_pos hk] at h
      have hp : p.bad = 0 := by
        by_cases e : p.bad = 0
        · exact e
        · simp only [isDecl, isKey_bad e] at hk; cases hk
      split
      · rename_i h20; rw [if_pos h20] at h; exact absurd h (failS_may (by decide))
      · rename_i h20
        rw [if_neg h20] at h
        have hb : (declF l p).2.bad = 0 := by
          by_cases e : (declF l p).2.bad = 0
          · exact e
          · rw [declsF_bad e] at h; exact absurd h e
        have := decls_may k (acc ++ [(declF l p).1]) _ (by simp; omega) (by simp [h2, decl_may hb]) h
        exact ⟨this.1, this.2.1, hp⟩
    · rename_i hk; rw [if_neg hk] at h; exact ⟨h1, h2, h⟩
theorem mod_may {s : List UInt8} (h : (modF s).2 = .none) : mayM (modF s).1 = true := by
  unfold modF at h ⊢
  split at h
  · cases h
  · rename_i h1
    rw [if_neg h1]
    split at h
    · cases h
    · rename_i h2
      split at h
      · rename_i h3
        simp only [h3, if_true]
        generalize (toksAt s 0).1 = l at h3 ⊢
        have hd : (declsP l).2.bad = 0 := by
          unfold endP at h3; split at h3
          · exact absurd h3 (failS_may (by decide))
          · exact h3
        have d1 := decls_may (l := l) 61 [] (impsP l).2 (by simp) (by simp) hd
        have d2 := imps_may (l := l) 21 [] (nameP l).2 (by simp) (by simp) d1.2.2
        have d3 := nameS_may (show (nameS false l (headP l)).2.bad = 0 from d2.2.2)
        simp only [mayM, Bool.and_eq_true, decide_eq_true_eq]
        exact ⟨⟨⟨⟨d3.2, d2.1⟩, d1.1⟩, d2.2.1⟩, d1.2.1⟩
      · cases h
end Go.Proofs.Mv.App
open Go Go.Proofs Go.Proofs.Mv.V
namespace Go.Proofs.Mv.App
structure ImpW (i : Imp) : Prop where
  h1 : i.pkg.length ≤ 9223372036854775807
  h2 : i.mod.length ≤ 9223372036854775807
  h3 : i.as_.length ≤ 9223372036854775807
structure DclW (d : Dcl) : Prop where
  h1 : d.name.length ≤ 9223372036854775807
  h2 : TyW d.typ
structure MdW (x : Md) : Prop where
  h1 : x.name.length ≤ 9223372036854775807
  h2 : x.imps.length ≤ 9223372036854775807
  h3 : x.decls.length ≤ 9223372036854775807
  h4 : ∀ i ∈ x.imps, ImpW i
  h5 : ∀ d ∈ x.decls, DclW d
end Go.Proofs.Mv.App
open Go Go.Proofs Go.Proofs.Mv.V
namespace Go.Proofs.Mv.App
def fewM (x : Md) : Bool := decide (x.name.length ≤ 500) && decide (x.imps.length ≤ 100) && decide (x.decls.length ≤ 100) && x.decls.all fun d => few3 d.typ && decide (d.name.length ≤ 500)
mutual
theorem fewT_sm : ∀ (t : Ty) (q : Int), q ≤ 100000 → 0 ≤ fewT t q → TySm t
  | .mk kind pkg major mod name names subs, q, hq, h => by
    simp only [fewT] at h
    split at h
    · omega
    · rename_i e
      have h1 := fewTs_sm subs (q - 1) (by omega) h
      exact .mk _ _ _ _ _ _ _ (by omega) (by omega) h1.2
theorem fewTs_sm : ∀ (l : List Ty) (q : Int), q ≤ 100000 → 0 ≤ fewTs l q → (l.length : Int) ≤ q ∧ ∀ t ∈ l, TySm t
  | [], q, _, h => by simp only [fewTs] at h; exact ⟨by simp; omega, by simp⟩
  | t :: ts, q, hq, h => by
    simp only [fewTs] at h
    split at h
    · rename_i e
      have h1 : 0 ≤ fewT t q := by
        rcases Int.lt_or_le (fewT t q) 0 with hn | hn
        · rw [fewTs_neg _ _ hn] at h; omega
        · exact hn
      have h2 := fewT_spec t q h1
      have h3 := manyT_pos t
      have h4 := fewTs_sm ts (fewT t q) (by omega) h
      refine ⟨by simp only [List.length_cons]; omega, ?_⟩
      intro u hu
      rcases List.mem_cons.1 hu with hu | hu
      · rw [hu]; exact fewT_sm t q hq h1
      · exact h4.2 u hu
    · omega
end
theorem few3_sm {t : Ty} (h : few3 t = true) : TySm t := by
  simp only [few3, decide_eq_true_eq] at h
  exact fewT_sm t 3000 (by omega) h
theorem few3_many {t : Ty} (h : few3 t = true) : manyT t ≤ 3000 := by
  simp only [few3, decide_eq_true_eq] at h
  have := fewT_spec t 3000 h
  omega
theorem fewM_parts {x : Md} (h : fewM x = true) : x.name.length ≤ 500 ∧ x.imps.length ≤ 100 ∧ x.decls.length ≤ 100 ∧ ∀ d ∈ x.decls, few3 d.typ = true := by
  simp only [fewM, Bool.and_eq_true, decide_eq_true_eq, List.all_eq_true] at h
  exact ⟨h.1.1.1, h.1.1.2, h.1.2, fun d hd => (h.2 d hd).1⟩
theorem fewM_sm {x : Md} (h : fewM x = true) : MdSm x := by
  obtain ⟨_, h1, h2, h3⟩ := fewM_parts h
  exact ⟨by omega, by omega, fun d hd => few3_sm (h3 d hd)⟩
theorem small_len {s : List UInt8} (h : smallN s = true) : s.length ≤ 20 := (small_parts h).2.2.1
theorem great_len {s : List UInt8} (h : greatN s = true) : s.length ≤ 20 := (great_parts h).2.2.1
theorem imp_parts {i : Imp} (h : impOk i = true) : i.pkg.length ≤ 20 ∧ i.mod.length ≤ 20 ∧ i.as_.length ≤ 20 ∧ 1 ≤ i.major ∧ i.major ≤ 999999999 := by
  simp only [impOk, Bool.and_eq_true, decide_eq_true_eq] at h
  exact ⟨small_len h.1.1.1.1, small_len h.1.1.1.2, small_len h.1.1.2, h.1.2, h.2⟩
theorem dcl_parts {d : Dcl} (h : dclOk d = true) : d.name.length ≤ 20 ∧ ((d.kind = 1 ∨ d.kind = 2) ∧ d.typ = Ty0 ∨ (d.kind = 3 ∨ d.kind = 4) ∧ mayT d.typ = true) := by
  unfold dclOk at h
  split at h
  · rename_i k
    simp only [Bool.and_eq_true] at h
    exact ⟨great_len h.1, .inl ⟨k, nothing_iff.1 h.2⟩⟩
  · split at h
    · rename_i k
      simp only [Bool.and_eq_true] at h
      exact ⟨great_len h.1, .inr ⟨.inl k, h.2⟩⟩
    · split at h
      · rename_i k
        simp only [Bool.and_eq_true] at h
        exact ⟨small_len h.1, .inr ⟨.inr k, h.2⟩⟩
      · cases h
theorem mayT_len {t : Ty} (h : mayT t = true) : (textT t).length ≤ 65000 := by
  obtain ⟨h1, h2, _⟩ := may_all h
  have := text_len t h1; omega
theorem impLine_len {i : Imp} (h : impOk i = true) : (impLine i).length ≤ 200 := by
  obtain ⟨h1, h2, h3, _⟩ := imp_parts h
  have := digits_len i.major.toNat
  simp [impLine, wImp]; omega
theorem dclLine_len {d : Dcl} (h : dclOk d = true) : (dclLine d).length ≤ 66000 := by
  obtain ⟨h1, h2⟩ := dcl_parts h
  unfold dclLine
  have h3 : d.kind ≠ 1 → d.kind ≠ 2 → (textT d.typ).length ≤ 65000 := fun a b => by
    rcases h2 with ⟨k, _⟩ | ⟨_, k⟩
    · omega
    · exact mayT_len k
  split
  · simp [wOpa]; omega
  · rename_i k1
    split
    · simp [wHid]; omega
    · rename_i k2
      have := h3 k1 k2
      split
      · simp [wAli]; omega
      · simp [wVal]; omega
theorem mayM_parts {x : Md} (h : mayM x = true) : x.name.length ≤ 20 ∧ x.imps.length ≤ 20 ∧ x.decls.length ≤ 60 ∧ (∀ i ∈ x.imps, impOk i = true) ∧ ∀ d ∈ x.decls, dclOk d = true := by
  simp only [mayM, Bool.and_eq_true, decide_eq_true_eq, List.all_eq_true] at h
  exact ⟨small_len h.1.1.1.1, h.1.1.1.2, h.1.1.2, h.1.2, h.2⟩
theorem Ty0_w : TyW Ty0 := .mk _ _ _ _ _ _ _ (by simp) (by simp) (by simp) (by simp) (by simp) (by simp) (by simp)
theorem mayM_w {x : Md} (h : mayM x = true) : MdW x := by
  obtain ⟨h1, h2, h3, h4, h5⟩ := mayM_parts h
  refine ⟨by omega, by omega, by omega, fun i hi => ?_, fun d hd => ?_⟩
  · obtain ⟨a, b, c, _⟩ := imp_parts (h4 i hi)
    exact ⟨by omega, by omega, by omega⟩
  · obtain ⟨a, b⟩ := dcl_parts (h5 d hd)
    refine ⟨by omega, ?_⟩
    rcases b with ⟨_, b⟩ | ⟨_, b⟩
    · rw [b]; exact Ty0_w
    · exact allT_w _ (may_all b).1
/-! lines -/
def linesF (l : List (List UInt8)) : List UInt8 := (l.map (· ++ [10])).flatten
theorem linesF_snoc (l : List (List UInt8)) (s : List UInt8) : linesF (l ++ [s]) = linesF l ++ s ++ [10] := by simp [linesF]
theorem linesF_len {B : Nat} : ∀ {l : List (List UInt8)}, (∀ s ∈ l, s.length ≤ B) → (linesF l).length ≤ l.length * (B + 1)
  | [], _ => by simp [linesF]
  | s :: l, h => by
    have h1 := linesF_len (l := l) fun t ht => h t (by simp [ht])
    have h2 := h s (by simp)
    simp only [linesF, List.map_cons, List.flatten_cons, List.length_append, List.length_cons, List.length_nil, Nat.add_mul] at h1 ⊢
    omega
theorem joinB_lines : ∀ (s : List UInt8) (l : List (List UInt8)), joinB [10] (s :: l) ++ [10] = linesF (s :: l)
  | s, [] => by simp [joinB, linesF]
  | s, t :: l => by
    have := joinB_lines t l
    rw [show joinB [10] (s :: t :: l) = s ++ [10] ++ joinB [10] (t :: l) from rfl, List.append_assoc, this]
    simp [linesF]
def headL (x : Md) : List UInt8 := wMod ++ [32] ++ x.name
/-- A module's lines, up to so many imports, or declarations. -/
def impsL (x : Md) (i : Nat) : List (List UInt8) := headL x :: (x.imps.take i).map impLine
def dclsL (x : Md) (i : Nat) : List (List UInt8) := headL x :: (x.imps.map impLine ++ (x.decls.take i).map dclLine)
theorem impsL_zero (x : Md) : impsL x 0 = [headL x] := by simp [impsL]
theorem impsL_snoc {x : Md} {i : Nat} (h : i < x.imps.length) : impsL x (i + 1) = impsL x i ++ [impLine x.imps[i]] := by
  simp only [impsL, take_snoc h, List.map_append, List.map_cons, List.map_nil, List.cons_append]
theorem impsL_all (x : Md) : impsL x x.imps.length = dclsL x 0 := by simp [impsL, dclsL]
theorem dclsL_snoc {x : Md} {i : Nat} (h : i < x.decls.length) : dclsL x (i + 1) = dclsL x i ++ [dclLine x.decls[i]] := by
  simp only [dclsL, take_snoc h, List.map_append, List.map_cons, List.map_nil, List.cons_append, List.append_assoc]
theorem dclsL_all (x : Md) : dclsL x x.decls.length = linesM x := by simp [dclsL, linesM, headL]
theorem impsL_num (x : Md) (i : Nat) : (impsL x i).length ≤ x.imps.length + 1 := by simp [impsL]; omega
theorem dclsL_num (x : Md) (i : Nat) : (dclsL x i).length ≤ x.imps.length + x.decls.length + 1 := by simp [dclsL]; omega
theorem textM_lines (x : Md) : textM x = linesF (linesM x) := rfl
theorem dclsL_len {x : Md} (h : mayM x = true) (i : Nat) : (linesF (dclsL x i)).length ≤ 6000000 := by
  obtain ⟨h1, h2, h3, h4, h5⟩ := mayM_parts h
  have hn := dclsL_num x i
  have : (linesF (dclsL x i)).length ≤ (dclsL x i).length * (66000 + 1) := linesF_len fun s hs => by
    simp only [dclsL, List.mem_cons, List.mem_append, List.mem_map] at hs
    rcases hs with rfl | ⟨a, ha, rfl⟩ | ⟨a, ha, rfl⟩
    · simp [headL, wMod]; omega
    · have := impLine_len (h4 a ha); omega
    · exact dclLine_len (h5 a (List.mem_of_mem_take ha))
  have : (dclsL x i).length * (66000 + 1) ≤ 81 * (66000 + 1) := Nat.mul_le_mul_right _ (by omega)
  omega
theorem impsL_len {x : Md} (h : mayM x = true) (i : Nat) : (linesF (impsL x i)).length ≤ 6000000 := by
  obtain ⟨h1, h2, h3, h4, h5⟩ := mayM_parts h
  have hn := impsL_num x i
  have : (linesF (impsL x i)).length ≤ (impsL x i).length * (66000 + 1) := linesF_len fun s hs => by
    simp only [impsL, List.mem_cons, List.mem_map] at hs
    rcases hs with rfl | ⟨a, ha, rfl⟩
    · simp [headL, wMod]; omega
    · have := impLine_len (h4 a (List.mem_of_mem_take ha)); omega
  have : (impsL x i).length * (66000 + 1) ≤ 81 * (66000 + 1) := Nat.mul_le_mul_right _ (by omega)
  omega
end Go.Proofs.Mv.App
