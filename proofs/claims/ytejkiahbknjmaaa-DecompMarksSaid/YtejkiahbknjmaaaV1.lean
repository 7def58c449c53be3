/- The abstract machine, part V1: arrays of whole numbers, and maps, told as plain values. -/
import Derived.Test.YtejkiahbknjmaaaA21
set_option linter.unusedVariables false
set_option linter.unusedSimpArgs false
namespace Go.Proofs.Ytejkiahbknjmaaa.AI
def arrI (k : IntKind) {n : Nat} (v : Vector Int n) : List AV := v.toList.map fun x => .int k x
def zI (k : IntKind) (n : Nat) : List AV := List.replicate n (.int k 0)
section
variable {k q : IntKind} {n : Nat} {v u : Vector Int n}
theorem zI_arr : zI k n = arrI k (Vector.replicate n 0) := by simp [zI, arrI]
theorem arrI_len : (arrI k v).length = n := by simp [arrI]
theorem subs_arrI (S : Sub) : subs S (arrI k v) = arrI k v := by
  rw [subs_eq, arrI, List.map_map]
  exact List.map_congr_left fun x _ => by simp [AV.sub]
theorem pures_arrI : pures (arrI k v) = true := by
  unfold arrI
  generalize v.toList = l
  induction l with
  | nil => rfl
  | cons x l ih => simp only [List.map_cons, pures, ih]; rfl
theorem arr_one {i : Int} {x : Int} (h : atI v.toList i = some x) : (List.drop i.toNat (arrI k v)).take 1 = [.int k x] := by
  have hx := atI_map (fun x => ([.int k x] : List AV)) h
  have h2 : (v.toList.map fun x => AV.int k x)[i.toNat]? = some (.int k x) := by
    rw [List.getElem?_map] at hx ⊢
    cases hy : v.toList[i.toNat]? with
    | none => rw [hy] at hx; simp at hx
    | some y => rw [hy] at hx; simp at hx; simp [hx]
  unfold arrI
  obtain ⟨hl, he⟩ := List.getElem?_eq_some_iff.1 h2
  rw [List.drop_eq_getElem_cons hl, he]
  rfl
theorem arr_lt {i : Int} {x : Int} (h : atI v.toList i = some x) : (i < (n : Int)) = True := eq_true (by have := atI_lt h; simpa using this)
theorem arr_le {i : Int} {x : Int} (h : atI v.toList i = some x) : (i.toNat + 1 ≤ n) = True := eq_true (by have := atI_lt h; have h0 := (atI_some h).1; simp at this; omega)
theorem arr_ge {i : Int} {x : Int} (h : atI v.toList i = some x) : ((0 : Int) ≤ i) = True := eq_true (atI_some h).1
theorem arr_set {i : Nat} {x : Int} : (arrI k v).set i (.int k x) = arrI k (v.setIfInBounds i x) := by
  simp only [arrI, Vector.toList_setIfInBounds, List.map_set]
theorem arr_all : List.take n (arrI k v) = arrI k v := List.take_of_length_le (by rw [arrI_len]; exact Nat.le_refl _)
theorem arr_put (h : 1 < n) : splice (arrI k v) 0 (arrI k u) = arrI k u := by
  have hu : (arrI k u).length = n := arrI_len
  have hv : (arrI k v).length = n := arrI_len
  unfold splice
  split
  · rename_i w hw; rw [hw] at hu; simp at hu; omega
  · simp [hu, hv]
theorem arr_mt (h : 1 < n) (f : AV → List AV) (g : List AV → List AV) : splice.match_1 (fun _ => List AV) (arrI k u) f g = g (arrI k u) := by
  have hu : (arrI k u).length = n := arrI_len
  generalize arrI k u = l at hu
  match l, hu with
  | [], hu => simp at hu; omega
  | [w], hu => simp at hu; omega
  | x :: y :: l, hu => rfl
theorem arr_drop : List.drop n (arrI k v) = [] := List.drop_eq_nil_of_le (by rw [arrI_len]; exact Nat.le_refl _)
theorem arr_eq : eqTags (List.replicate n 0) (arrI k u) (arrI k v) = some (decide (u = v)) := by
  have key : ∀ (m : Nat) (a b : List Int), a.length = m → b.length = m → eqTags (List.replicate m 0) (a.map fun x => AV.int k x) (b.map fun x => AV.int k x) = some (decide (a = b)) := by
    intro m
    induction m with
    | zero =>
      intro a b ha hb
      rw [List.eq_nil_of_length_eq_zero ha, List.eq_nil_of_length_eq_zero hb]; rfl
    | succ m ih =>
      intro a b ha hb
      cases a with
      | nil => simp at ha
      | cons x a =>
        cases b with
        | nil => simp at hb
        | cons y b =>
          simp only [List.replicate_succ, List.map_cons, eqTags, eqTag, if_true, ih a b (by simpa using ha) (by simpa using hb)]
          simp [List.cons.injEq]
  have := key n u.toList v.toList (by simp) (by simp)
  simp only [arrI]
  rw [this]
  congr 1
  exact decide_eq_decide.2 ⟨fun h => by rw [← Vector.toList_inj]; exact h, fun h => by rw [h]⟩
end
/-! ### maps -/
section
variable {α : Type} [DecidableEq α]
def mfind (l : List (α × Int)) (k : α) : Option Nat := l.findIdx? fun p => decide (k = p.1)
def mhas (l : List (α × Int)) (k : α) : Bool := (mfind l k).isSome
def mget (l : List (α × Int)) (k : α) : Int := match mfind l k with
  | some i => ((l[i]?).map (·.2)).getD 0
  | none => 0
def mput (l : List (α × Int)) (k : α) (v : Int) : List (α × Int) := match mfind l k with
  | some i => l.set i (k, v)
  | none => l ++ [(k, v)]
end
def mpA (k q : IntKind) {n : Nat} (p : Vector Int n × Int) : AV × AV := (.agg (arrI k p.1), .int q p.2)
def mpI (k q : IntKind) (p : Int × Int) : AV × AV := (.int k p.1, .int q p.2)
theorem find_A {k q : IntKind} {n : Nat} (key : Vector Int n) : ∀ l : List (Vector Int n × Int), findM true n (arrI k key) (l.map (mpA k q)) = some (mfind l key)
  | [] => rfl
  | p :: l => by
    simp only [List.map_cons, findM, mpA, keyA, arrI_len, if_true, arr_eq, mfind, List.findIdx?_cons]
    by_cases h : key = p.1
    · simp [h]
    · have ih := find_A (k := k) (q := q) key l
      simp only [mpA, mfind] at ih
      simp only [h, decide_false]
      rw [ih]
      simp
theorem find_I {k q : IntKind} (key : Int) : ∀ l : List (Int × Int), findM false 1 [.int k key] (l.map (mpI k q)) = some (mfind l key)
  | [] => rfl
  | p :: l => by
    simp only [List.map_cons, findM, mpI, keyA, List.length_cons, List.length_nil, Nat.zero_add, if_true, List.replicate_one, eqTags, eqTag, mfind, List.findIdx?_cons, Bool.and_true]
    by_cases h : key = p.1
    · simp [h]
    · have ih := find_I (k := k) (q := q) key l
      simp only [h, decide_false]
      rw [show (List.map (mpI k q) l) = List.map (mpI k q) l from rfl, ih]
      simp [mfind]
theorem mfind_at {α : Type} [DecidableEq α] {l : List (α × Int)} {k : α} {i : Nat} (h : mfind l k = some i) : ∃ p, l[i]? = some p ∧ p.1 = k := by
  unfold mfind at h
  rw [List.findIdx?_eq_some_iff_getElem] at h
  obtain ⟨hl, h1, _⟩ := h
  exact ⟨l[i], List.getElem?_eq_getElem hl, (of_decide_eq_true h1).symm⟩
theorem mlk_A {k q : IntKind} {n : Nat} (l : List (Vector Int n × Int)) (key : Vector Int n) : mlk0 true n true (.int q 0) (.agg (arrI k key)) (l.map (mpA k q)) = some (.tup [.int q (mget l key), .bool (mhas l key)]) := by
  simp only [mlk0, keyA, arrI_len, if_true, find_A, mget, mhas]
  cases h : mfind l key with
  | none => simp
  | some i =>
    obtain ⟨p, hp, _⟩ := mfind_at h
    simp [hp, mpA]
theorem mlk_I {k q : IntKind} (l : List (Int × Int)) (key : Int) : mlk0 false 1 true (.int q 0) (.int k key) (l.map (mpI k q)) = some (.tup [.int q (mget l key), .bool (mhas l key)]) := by
  simp only [mlk0, keyA, List.length_cons, List.length_nil, Nat.zero_add, if_true, find_I, mget, mhas]
  cases h : mfind l key with
  | none => simp
  | some i =>
    obtain ⟨p, hp, _⟩ := mfind_at h
    simp [hp, mpI]
theorem mup_A {k q : IntKind} {n : Nat} (l : List (Vector Int n × Int)) (key : Vector Int n) (v : Int) : mup0 true n (.agg (arrI k key)) (.int q v) (l.map (mpA k q)) = some ((mput l key v).map (mpA k q)) := by
  simp only [mup0, keyA, arrI_len, if_true, find_A, mput]
  cases h : mfind l key with
  | none => simp [mpA]
  | some i => simp [mpA, List.map_set]
theorem mup_I {k q : IntKind} (l : List (Int × Int)) (key v : Int) : mup0 false 1 (.int k key) (.int q v) (l.map (mpI k q)) = some ((mput l key v).map (mpI k q)) := by
  simp only [mup0, keyA, List.length_cons, List.length_nil, Nat.zero_add, if_true, find_I, mput]
  cases h : mfind l key with
  | none => simp [mpI]
  | some i => simp [mpI, List.map_set]
theorem subs_mpA (S : Sub) {k q : IntKind} {n : Nat} (l : List (Vector Int n × Int)) : List.map (fun p : AV × AV => (p.1.sub S, p.2.sub S)) (l.map (mpA k q)) = l.map (mpA k q) := by
  rw [List.map_map]
  exact List.map_congr_left fun p _ => by simp [mpA, AV.sub, subs_arrI]
theorem subs_mpI (S : Sub) {k q : IntKind} (l : List (Int × Int)) : List.map (fun p : AV × AV => (p.1.sub S, p.2.sub S)) (l.map (mpI k q)) = l.map (mpI k q) := by
  rw [List.map_map]
  exact List.map_congr_left fun p _ => by simp [mpI, AV.sub]
def kz (n : Nat) : List Nat := List.replicate n 0
theorem arr_eqz {k : IntKind} {n : Nat} {u v : Vector Int n} : eqTags (kz n) (arrI k u) (arrI k v) = some (decide (u = v)) := arr_eq
def intOf : Value → Int
  | .int _ m => m
  | _ => 0
theorem Reads.arr {P : Program} {t el : TypeId} {k : IntKind} {n : Nat} (ht : P.underlying t = some (.array n el)) (he : P.underlying el = some (.int k)) (hn : P.cellsOf el = 1) (hc : P.cellsOf t = n) : Reads P t (fun v : Vector Int n => arrI k v) (fun v => ∀ x ∈ v.toList, (Lit.int k x).wf = true) := by
  intro H enc w base spare held fuel cs x hx hz
  obtain ⟨xs, m, _, hxe, hl, hxl, hf⟩ := DataW.trod_array ht hx
  rw [hc] at hl
  have hcell : ∀ i, i < n → ∃ m, cs[i]? = some (.int k m) ∧ (Lit.int k m).wf = true := by
    intro i hi
    have h0 := hf i hi
    rw [hn, Nat.mul_one, List.getElem?_eq_getElem (by omega)] at h0
    obtain ⟨m, e, _, hw⟩ := DataW.trod_int he h0
    refine ⟨m, ?_, hw⟩
    have : (List.take 1 (List.drop i cs))[0]? = some (.int k m) := by rw [e]; rfl
    rwa [List.getElem?_take_of_lt (by omega), List.getElem?_drop, Nat.add_zero] at this
  refine ⟨⟨(cs.map intOf).toArray, by simp [hl]⟩, ⟨?_, ?_, ?_⟩, ?_⟩
  · simp [arrI, hl]
  · intro u hu
    obtain ⟨i, hi, rfl⟩ := List.getElem_of_mem hu
    obtain ⟨m, e, _⟩ := hcell i (by omega)
    rw [List.getElem?_eq_getElem hi] at e
    rw [Option.some.inj e]; rfl
  · intro j v u hv hu
    have hj : j < cs.length := (List.getElem?_eq_some_iff.1 hu).1
    obtain ⟨m, e, _⟩ := hcell j (by omega)
    rw [hu] at e
    have e' := Option.some.inj e
    subst e'
    simp only [arrI, Vector.toList_mk, List.map_map, List.getElem?_map, hu, Option.map_some, Option.some.injEq, Function.comp, intOf] at hv
    subst hv
    exact .int
  · intro x hx
    simp only [Vector.toList_mk] at hx
    obtain ⟨u, hu, rfl⟩ := List.mem_map.1 hx
    obtain ⟨i, hi, rfl⟩ := List.getElem_of_mem hu
    obtain ⟨m, e, hw⟩ := hcell i (by omega)
    rw [List.getElem?_eq_getElem hi] at e
    rw [Option.some.inj e]; exact hw
attribute [go_sem] arr_put arr_mt arr_drop
attribute [go_sem] zI_arr arr_set arrI_len subs_arrI pures_arrI arr_all arr_eq arr_eqz mlkA mupA mlenA subs_mpA subs_mpI
end Go.Proofs.Ytejkiahbknjmaaa.AI
