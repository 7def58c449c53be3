/- Part of a proof. -/
import Derived.Test.YtjalenbgpmdadaaA21
set_option linter.unusedVariables false
set_option linter.unusedSimpArgs false
namespace Go.Proofs.Ytjalenbgpmdadaa.AI
def arrI (k : IntKind) {n : Nat} (v : Vector Int n) : List AV := v.toList.map fun x => .int k x
def zI (k : IntKind) (n : Nat) : List AV := List.replicate n (.int k 0)
section
variable {k q : IntKind} {n : Nat} {v u : Vector Int n}
theorem zI_arr : zI k n = arrI k (Vector.replicate n 0) := by simp [zI, arrI]
theorem arrI_len : (arrI k v).length = n := by simp [arrI]
theorem subs_arrI (S : Sub) : subs S (arrI k v) = arrI k v := by
 rw [subs_eq, arrI, List.map_map]
 exact List.map_congr_left fun x _ => by simp [AV.sub]
theorem pures_arrI : pures (arrI k v) = true := by
 unfold arrI
 generalize v.toList = l
 induction l with
 | nil => rfl
 | cons x l ih => simp only [List.map_cons, pures, ih]; rfl
theorem arr_set {i : Nat} {x : Int} : (arrI k v).set i (.int k x) = arrI k (v.setIfInBounds i x) := by
 simp only [arrI, Vector.toList_setIfInBounds, List.map_set]
theorem arr_all : List.take n (arrI k v) = arrI k v := List.take_of_length_le (by rw [arrI_len]; exact Nat.le_refl _)
theorem arr_put (h : 1 < n) : splice (arrI k v) 0 (arrI k u) = arrI k u := by
 have hu : (arrI k u).length = n := arrI_len
 have hv : (arrI k v).length = n := arrI_len
 unfold splice
 split
 ·
  rename_i w hw; rw [hw] at hu; simp at hu; omega
 ·
  simp [hu, hv]
theorem arr_mt (h : 1 < n) (f : AV → List AV) (g : List AV → List AV) : splice.match_1 (fun _ => List AV) (arrI k u) f g = g (arrI k u) := by
 have hu : (arrI k u).length = n := arrI_len
 generalize arrI k u = l at hu
 match l, hu with
 | [], hu => simp at hu; omega
 | [w], hu => simp at hu; omega
 | x :: y :: l, hu => rfl
theorem arr_drop : List.drop n (arrI k v) = [] := List.drop_eq_nil_of_le (by rw [arrI_len]; exact Nat.le_refl _)
theorem arr_eq : eqTags (List.replicate n 0) (arrI k u) (arrI k v) = some (decide (u = v)) := by
 have key : ∀ (m : Nat) (a b : List Int), a.length = m → b.length = m → eqTags (List.replicate m 0) (a.map fun x => AV.int k x) (b.map fun x => AV.int k x) = some (decide (a = b)) := by
  intro m
  induction m with
  | zero =>
   intro a b ha hb
   rw [List.eq_nil_of_length_eq_zero ha, List.eq_nil_of_length_eq_zero hb]; rfl
  | succ m ih =>
   intro a b ha hb
   cases a with
   | nil => simp at ha
   | cons x a =>
    cases b with
    | nil => simp at hb
    | cons y b =>
     simp only [List.replicate_succ, List.map_cons, eqTags, eqTag, if_true, ih a b (by simpa using ha) (by simpa using hb)]
     simp [List.cons.injEq]
 have := key n u.toList v.toList (by simp) (by simp)
 simp only [arrI]
 rw [this]
 congr 1
 exact decide_eq_decide.2 ⟨fun h => by rw [← Vector.toList_inj]; exact h, fun h => by rw [h]⟩
end
section
variable {α : Type} [DecidableEq α]
end
def mpA (k q : IntKind) {n : Nat} (p : Vector Int n × Int) : AV × AV := (.agg (arrI k p.1), .int q p.2)
def mpI (k q : IntKind) (p : Int × Int) : AV × AV := (.int k p.1, .int q p.2)
theorem subs_mpA (S : Sub) {k q : IntKind} {n : Nat} (l : List (Vector Int n × Int)) : List.map (fun p : AV × AV => (p.1.sub S, p.2.sub S)) (l.map (mpA k q)) = l.map (mpA k q) := by
 rw [List.map_map]
 exact List.map_congr_left fun p _ => by simp [mpA, AV.sub, subs_arrI]
theorem subs_mpI (S : Sub) {k q : IntKind} (l : List (Int × Int)) : List.map (fun p : AV × AV => (p.1.sub S, p.2.sub S)) (l.map (mpI k q)) = l.map (mpI k q) := by
 rw [List.map_map]
 exact List.map_congr_left fun p _ => by simp [mpI, AV.sub]
def kz (n : Nat) : List Nat := List.replicate n 0
theorem arr_eqz {k : IntKind} {n : Nat} {u v : Vector Int n} : eqTags (kz n) (arrI k u) (arrI k v) = some (decide (u = v)) := arr_eq
attribute [go_sem] arr_put arr_mt arr_drop
attribute [go_sem] zI_arr arr_set arrI_len subs_arrI pures_arrI arr_all arr_eq arr_eqz mlkA mupA mlenA subs_mpA subs_mpI
end Go.Proofs.Ytjalenbgpmdadaa.AI
