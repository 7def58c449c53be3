/- Part of a proof. -/
import Derived.Test.YtfacmhngbaboiaaCX7
set_option linter.unusedVariables false
set_option linter.unusedSimpArgs false
set_option maxRecDepth 100000
namespace Go.Proofs.Ytfacmhngbaboiaa.AI
def SetOk (s : TSet) : Prop := s.Spans.length ≤ 1000000
def CtxOk (c : TCtx) : Prop := c.Back.length ≤ 16 ∧ c.In.length ≤ 16 ∧ c.Ahead.length ≤ 16 ∧ c.Acts.length ≤ 16 ∧ (∀ s ∈ c.Back, SetOk s) ∧ (∀ s ∈ c.In, SetOk s) ∧ ∀ s ∈ c.Ahead, SetOk s
theorem SameSp_L1 {N : Nat} {l : List TSpan} (hl : l.length ≤ 1000000) : ∀ (d k n : Nat), k + d = l.length → d < n → Qk N l l n k = some (.inl ()) := by
 intro d
 induction d with
 | zero =>
  intro k n hk hn
  obtain ⟨n, rfl⟩ : ∃ x, n = x + 1 := ⟨n - 1, by omega⟩
  rw [Qk, if_neg (by omega)]
 | succ d ih =>
  intro k n hk hn
  obtain ⟨n, rfl⟩ : ∃ x, n = x + 1 := ⟨n - 1, by omega⟩
  have hkl : k < l.length := by omega
  rw [Qk, if_pos (by omega), YI (List.getElem?_eq_getElem hkl), Option.bind_some, Option.bind_some, if_pos rfl, if_pos rfl, w64 (x := (k : Int) + 1) (by omega) (by omega), show (k : Int) + 1 = ((k + 1 : Nat) : Int) by omega]
  exact ih (k + 1) n (by omega) (by omega)
theorem SameSp {N : Nat} (hN : 1000000000000 < N) {l : List TSpan} (hl : l.length ≤ 1000000) : Ju N l l = some true := by
 unfold Ju
 rw [if_pos rfl, show Qk N l l N 0 = _ from SameSp_L1 hl l.length 0 N (by omega) (by omega)]
 rfl
theorem SameSt_L1 {N : Nat} (hN : 1000000000000 < N) {l : List TSet} (hl : l.length ≤ 1000000) (hs : ∀ s ∈ l, SetOk s) : ∀ (d k n : Nat), k + d = l.length → d < n → YQ N l l n k = some (.inl ()) := by
 intro d
 induction d with
 | zero =>
  intro k n hk hn
  obtain ⟨n, rfl⟩ : ∃ x, n = x + 1 := ⟨n - 1, by omega⟩
  rw [YQ, if_neg (by omega)]
 | succ d ih =>
  intro k n hk hn
  obtain ⟨n, rfl⟩ : ∃ x, n = x + 1 := ⟨n - 1, by omega⟩
  have hkl : k < l.length := by omega
  have hsp := SameSp hN (hs l[k] (List.getElem_mem hkl))
  rw [YQ, if_pos (by omega), YI (List.getElem?_eq_getElem hkl), Option.bind_some, Option.bind_some, hsp, Option.bind_some, if_pos rfl, w64 (x := (k : Int) + 1) (by omega) (by omega), show (k : Int) + 1 = ((k + 1 : Nat) : Int) by omega, ih (k + 1) n (by omega) (by omega)]
  by_cases hn : l[k].Not = true
  ·
   rw [if_pos hn, if_pos hn]
  ·
   rw [if_neg hn, if_neg hn]
theorem SameSt {N : Nat} (hN : 1000000000000 < N) {l : List TSet} (hl : l.length ≤ 16) (hs : ∀ s ∈ l, SetOk s) : Qu N l l = some true := by
 unfold Qu
 rw [if_pos rfl, show YQ N l l N 0 = _ from SameSt_L1 hN (by omega) hs l.length 0 N (by omega) (by omega)]
 rfl
theorem Same_L2 {N : Nat} {l : List TCtx} {i : Nat} {c : TCtx} (hi : l[i]? = some c) (hc : c.Acts.length ≤ 16) : ∀ (d k n : Nat), k + d = c.Acts.length → d < n → Qi N l l (i : Int) n k = some (.inl ()) := by
 intro d
 induction d with
 | zero =>
  intro k n hk hn
  obtain ⟨n, rfl⟩ : ∃ x, n = x + 1 := ⟨n - 1, by omega⟩
  rw [Qi, YI hi, Option.bind_some, if_neg (by omega)]
 | succ d ih =>
  intro k n hk hn
  obtain ⟨n, rfl⟩ : ∃ x, n = x + 1 := ⟨n - 1, by omega⟩
  have hkl : k < c.Acts.length := by omega
  have e := YI (List.getElem?_eq_getElem hkl)
  rw [Qi, YI hi, Option.bind_some, if_pos (by omega), e, Option.bind_some, Option.bind_some, e, Option.bind_some, if_pos rfl, if_pos rfl, w64 (x := (k : Int) + 1) (by omega) (by omega), show (k : Int) + 1 = ((k + 1 : Nat) : Int) by omega]
  exact ih (k + 1) n (by omega) (by omega)
theorem Same_L3 {N : Nat} (hN : 1000000000000 < N) {l : List TCtx} (hl : l.length ≤ 1000000) (hs : ∀ c ∈ l, CtxOk c) : ∀ (d k n : Nat), k + d = l.length → d < n → Qh N l l n k = some (.inl ()) := by
 intro d
 induction d with
 | zero =>
  intro k n hk hn
  obtain ⟨n, rfl⟩ : ∃ x, n = x + 1 := ⟨n - 1, by omega⟩
  rw [Qh, if_neg (by omega)]
 | succ d ih =>
  intro k n hk hn
  obtain ⟨n, rfl⟩ : ∃ x, n = x + 1 := ⟨n - 1, by omega⟩
  have hkl : k < l.length := by omega
  obtain ⟨c1, c2, c3, c4, c5, c6, c7⟩ := hs l[k] (List.getElem_mem hkl)
  rw [Qh, if_pos (by omega), YI (List.getElem?_eq_getElem hkl), Option.bind_some, Option.bind_some, SameSt hN c1 c5, Option.bind_some, if_pos rfl, SameSt hN c2 c6, Option.bind_some, if_pos rfl, SameSt hN c3 c7, Option.bind_some, if_pos rfl, if_pos rfl,
   show Qi N l l (k : Int) N 0 = _ from Same_L2 (List.getElem?_eq_getElem hkl) c4 l[k].Acts.length 0 N (by omega) (by omega), Option.bind_some, w64 (x := (k : Int) + 1) (by omega) (by omega), show (k : Int) + 1 = ((k + 1 : Nat) : Int) by omega]
  exact ih (k + 1) n (by omega) (by omega)
theorem Same_refl {N : Nat} (hN : 1000000000000 < N) {l : List TCtx} (hl : l.length ≤ 64) (hs : ∀ c ∈ l, CtxOk c) : Xan N l l = some true := by
 unfold Xan
 rw [if_pos rfl, show Qh N l l N 0 = _ from Same_L3 hN (by omega) hs l.length 0 N (by omega) (by omega)]
 rfl
theorem Xhk {b : List Int} {f g h : Int → TSet} {t : TSet} {ch : Bool} {p : Int} (hf : ∀ x, SetOk (f x)) (hg : ∀ x, SetOk (g x)) (hh : ∀ x, SetOk (h x)) (ht : SetOk t) {r : TR} (hr : ruleM b (List.map f) (List.map g) (List.map h) t ch p = some r) : (∀ s ∈ r.1, SetOk s) ∧ (∀ s ∈ r.2.1, SetOk s) ∧ ∀ s ∈ r.2.2.1, SetOk s := by
 have key : ∀ {f : Int → TSet} {l : List Int}, (∀ x, SetOk (f x)) → ∀ s ∈ List.map f l, SetOk s := fun hf s hs => by
  obtain ⟨x, _, rfl⟩ := List.mem_map.1 hs
  exact hf x
 have key2 : ∀ {f : Int → TSet} {l : List Int}, (∀ x, SetOk (f x)) → ∀ s ∈ t :: List.map f l, SetOk s := fun hf s hs => by
  rcases List.mem_cons.1 hs with rfl | hs
  ·
   exact ht
  ·
   exact key hf s hs
 unfold ruleM at hr
 split at hr
 ·
  obtain ⟨n1, e1, hr⟩ := Option.bind_eq_some_iff.1 hr
  obtain ⟨l1, e2, hr⟩ := Option.bind_eq_some_iff.1 hr
  obtain ⟨n2, e3, hr⟩ := Option.bind_eq_some_iff.1 hr
  obtain ⟨l2, e4, hr⟩ := Option.bind_eq_some_iff.1 hr
  obtain ⟨n3, e5, hr⟩ := Option.bind_eq_some_iff.1 hr
  obtain ⟨l3, e6, hr⟩ := Option.bind_eq_some_iff.1 hr
  obtain ⟨n4, e7, hr⟩ := Option.bind_eq_some_iff.1 hr
  obtain ⟨⟨l, q⟩, e8, hr⟩ := Option.bind_eq_some_iff.1 hr
  cases hr
  exact ⟨key hf, key2 hg, key hh⟩
 ·
  obtain ⟨n2, e3, hr⟩ := Option.bind_eq_some_iff.1 hr
  obtain ⟨n4, e7, hr⟩ := Option.bind_eq_some_iff.1 hr
  obtain ⟨l2, e4, hr⟩ := Option.bind_eq_some_iff.1 hr
  obtain ⟨⟨l, q⟩, e8, hr⟩ := Option.bind_eq_some_iff.1 hr
  cases hr
  exact ⟨by simp, key2 hg, by simp⟩
theorem RL.l6 {l : List TSpan} (h : RL 0 l) : l.length ≤ 65536 := by
  rcases RL.len h (Int.le_refl 0) with h | h
  · omega
  · rw [h]; simp
theorem clR_ok {b : List Int} (hb : Bytes b) {ch : Bool} {sp : List TSpan} {c0 c1 c2 c3 : List Xg} (hsp : RL 0 sp) (g0 : CB c0) (g1 : CB c1) (g2 : CB c2) (g3 : CB c3) (i : Nat) (p : Int) (r : TR) (hr : clR b ch sp c0 c1 c2 c3 i p = some r) : CtxOk ⟨r.1, r.2.1, r.2.2.1, r.2.2.2.1⟩ := by
 have k : ∀ {c : List Xg}, CB c → ∀ x, SetOk (setC c x) := fun hc x => by have := (wth_rl hc x).2; unfold SetOk setC; simp only; omega
 have hs := Xhk (k g1) (k g2) (k g3) (by
  have := (Xkj (nt := decide ((i : Int) = 0)) (wth_rl g0 i).1 hsp (Int.le_refl 0) (o := []) trivial (by simp)).1.l6
  unfold SetOk; simp only; omega) hr
 have hg := Xhl hb hr
 exact ⟨hg.2.2.1, hg.2.1, hg.2.2.2.1, hg.2.2.2.2.1, hs⟩
theorem glR_ok {N : Nat} {b : List Int} (hb : Bytes b) {ch : Bool} {gl : List Int} (i : Nat) (p : Int) (r : TR) (hr : glR N b ch gl i p = some r) : CtxOk ⟨r.1, r.2.1, r.2.2.1, r.2.2.2.1⟩ := by
 have k : ∀ x, SetOk (Xcp x) := fun x => by unfold SetOk Xcp; simp
 have hs := Xhk k k k (k _) hr
 have hg := Xhl hb hr
 exact ⟨hg.2.2.1, hg.2.1, hg.2.2.2.1, hg.2.2.2.2.1, hs⟩
theorem Xi7 : ∀ {r : List TSet}, (∀ x ∈ r, RL 0 x.Spans ∧ x.Spans.length ≤ 65536) → RL 0 (Xdc r)
 | [], _ => trivial
 | c :: _, h => (h c (by simp)).1
theorem JN {b m : List Int} (hb : Bytes b) {p x : Int} (h : num b p = some x) : num (b ++ m) p = some x := by
 have h1 := YJ hb h
 have e := Jp (m := m) hb (i := p) (by omega)
 unfold num at h ⊢
 rw [e]; exact h
theorem Jo {b m : List Int} (hb : Bytes b) {p lo hi x : Int} (h : cntr b p lo hi = some x) : cntr (b ++ m) p lo hi = some x := by
 unfold cntr at h ⊢
 obtain ⟨n, h1, h2⟩ := Option.bind_eq_some_iff.1 h
 rw [JN hb h1]; exact h2
theorem Js {b m : List Int} (hb : Bytes b) {p n : Int} {l : List Int} (h : row b p n = some l) : row (b ++ m) p n = some l := by
 obtain ⟨h1, h2, h3, h4, h5, h6⟩ := XN hb h
 unfold row
 rw [if_pos (by simp only [List.length_append]; omega), Xiw hb (by rw [← h1]; exact fun x hx => (h6 x hx).1), h1]
theorem Xel {b m : List Int} (hb : Bytes b) {long : Int} : ∀ {n : Nat} {p : Int} {r : List TAct × Int}, acts b long n p = some r → acts (b ++ m) long n p = some r
 | 0, p, r, h => h
 | n + 1, p, r, h => by
  simp only [acts] at h ⊢
  obtain ⟨x, h1, h2⟩ := Option.bind_eq_some_iff.1 h
  obtain ⟨y, h3, h4⟩ := Option.bind_eq_some_iff.1 h2
  rw [JN hb h1, Option.bind_some, JN hb h3, Option.bind_some]
  split at h4
  ·
   rename_i hlt
   obtain ⟨r2, h5, h6⟩ := Option.bind_eq_some_iff.1 h4
   rw [if_pos hlt, Xel hb h5, Option.bind_some]; exact h6
  ·
   cases h4
theorem Xf5 {b m : List Int} (hb : Bytes b) {mb mi ma : List Int → List TSet} {t : TSet} {ch : Bool} {p : Int} {r : TR} (h : ruleM b mb mi ma t ch p = some r) : ruleM (b ++ m) mb mi ma t ch p = some r := by
 unfold ruleM at h ⊢
 split at h
 ·
  rename_i hc
  obtain ⟨n1, e1, h⟩ := Option.bind_eq_some_iff.1 h
  obtain ⟨l1, e2, h⟩ := Option.bind_eq_some_iff.1 h
  obtain ⟨n2, e3, h⟩ := Option.bind_eq_some_iff.1 h
  obtain ⟨l2, e4, h⟩ := Option.bind_eq_some_iff.1 h
  obtain ⟨n3, e5, h⟩ := Option.bind_eq_some_iff.1 h
  obtain ⟨l3, e6, h⟩ := Option.bind_eq_some_iff.1 h
  obtain ⟨n4, e7, h⟩ := Option.bind_eq_some_iff.1 h
  obtain ⟨q, e8, h⟩ := Option.bind_eq_some_iff.1 h
  rw [if_pos hc, Jo hb e1, Option.bind_some, Js hb e2, Option.bind_some, Jo hb e3, Option.bind_some, Js hb e4, Option.bind_some, Jo hb e5, Option.bind_some, Js hb e6, Option.bind_some, Jo hb e7, Option.bind_some, Xel hb e8]
  exact h
 ·
  rename_i hc
  obtain ⟨n2, e3, h⟩ := Option.bind_eq_some_iff.1 h
  obtain ⟨n4, e7, h⟩ := Option.bind_eq_some_iff.1 h
  obtain ⟨l2, e4, h⟩ := Option.bind_eq_some_iff.1 h
  obtain ⟨q, e8, h⟩ := Option.bind_eq_some_iff.1 h
  rw [if_neg hc, Jo hb e3, Option.bind_some, Jo hb e7, Option.bind_some, Js hb e4, Option.bind_some, Xel hb e8]
  exact h
theorem Xhi {rl rl2 : Int → Option TR} (hr : ∀ p r, rl p = some r → rl2 p = some r) {base : Int} : ∀ {l : List Int} {s t : List TCtx}, Xar rl base l s = some t → Xar rl2 base l s = some t
 | [], s, t, h => h
 | o :: r, s, t, h => by
  simp only [Xar] at h ⊢
  obtain ⟨q, h1, h2⟩ := Option.bind_eq_some_iff.1 h
  rw [hr _ _ h1, Option.bind_some]
  split at h2
  ·
   rename_i hl
   rw [if_pos hl]
   exact Xhi hr h2
  ·
   cases h2
theorem Xci {b m : List Int} (hb : Bytes b) {rl rl2 : Nat → Int → Option TR} (hr : ∀ i p r, rl i p = some r → rl2 i p = some r) {base : Int} : ∀ {l : List Int} {i : Nat} {s t : List TCtx}, listM b rl base i l s = some t → listM (b ++ m) rl2 base i l s = some t
 | [], i, s, t, h => h
 | o :: r, i, s, t, h => by
  simp only [listM] at h ⊢
  split at h
  ·
   rename_i hz
   rw [if_pos hz]
   exact Xci hb hr h
  ·
   rename_i hz
   rw [if_neg hz]
   obtain ⟨n, h1, h⟩ := Option.bind_eq_some_iff.1 h
   rw [JN hb h1, Option.bind_some]
   split at h
   ·
    rename_i h64
    obtain ⟨l, h2, h⟩ := Option.bind_eq_some_iff.1 h
    obtain ⟨s2, h3, h⟩ := Option.bind_eq_some_iff.1 h
    rw [if_pos h64, Js hb h2, Option.bind_some, Xhi (hr i) h3, Option.bind_some]
    exact Xci hb hr h
   ·
    cases h
def OkT (r : List TCtx × Int) : Prop := r.1.length ≤ 64 ∧ ∀ c ∈ r.1, CtxOk c
section
variable {N : Nat} (hN : 1000000000000 < N) {b : List Int} (hb : Bytes b) (hb1 : b.length ≤ 1000000)
include hN hb hb1
theorem Xle {base p : Int} {ch : Bool} (h0 : -1000000 ≤ base) (h1 : base ≤ 1000000) {r : List TCtx × Int} (h : Xbs N b p base ch = some r) : OkT r := by
 unfold Xbs at h
 obtain ⟨l, e1, h⟩ := Option.bind_eq_some_iff.1 h
 have lb := XN hb e1
 obtain ⟨r0, e2, h⟩ := Option.bind_eq_some_iff.1 h
 have r0l := ZP e2
 have r0r := QI hN hb hb1 h0 h1 lb.2.2.2.2.2 e2
 obtain ⟨n, e3, h⟩ := Option.bind_eq_some_iff.1 h
 have nb := YJ hb e3
 split at h
 ·
  rename_i hc
  obtain ⟨l2, e5, h⟩ := Option.bind_eq_some_iff.1 h
  have l2b := XN hb e5
  obtain ⟨s, e6, h⟩ := Option.bind_eq_some_iff.1 h
  cases h
  exact Xcj (P := CtxOk) (glR_ok hb) e6 (by simp) (by simp)
 ·
  cases h
theorem Xj9 {base p : Int} {ch : Bool} (h0 : -1000000 ≤ base) (h1 : base ≤ 1000000) {r : List TCtx × Int} (h : Xak N b p base ch = some r) : OkT r := by
 unfold Xak at h
 obtain ⟨l, e1, h⟩ := Option.bind_eq_some_iff.1 h
 have lb := XN hb e1
 obtain ⟨r0, e2, h⟩ := Option.bind_eq_some_iff.1 h
 have r0l := ZP e2
 have r0r := QI hN hb hb1 h0 h1 lb.2.2.2.2.2 e2
 split at h
 ·
  rename_i hc
  obtain ⟨o1, e3, h⟩ := Option.bind_eq_some_iff.1 h
  have o1b := YJ hb e3
  obtain ⟨c1, e4, h⟩ := Option.bind_eq_some_iff.1 h
  have c1b := ZN hN hb hb1 (by omega) (by omega) (by omega) (by omega) e4
  obtain ⟨o2, e5, h⟩ := Option.bind_eq_some_iff.1 h
  have o2b := YJ hb e5
  obtain ⟨c2, e6, h⟩ := Option.bind_eq_some_iff.1 h
  have c2b := ZN hN hb hb1 (by omega) (by omega) (by omega) (by omega) e6
  obtain ⟨o3, e7, h⟩ := Option.bind_eq_some_iff.1 h
  have o3b := YJ hb e7
  obtain ⟨c3, e8, h⟩ := Option.bind_eq_some_iff.1 h
  have c3b := ZN hN hb hb1 (by omega) (by omega) (by omega) (by omega) e8
  obtain ⟨n, e9, h⟩ := Option.bind_eq_some_iff.1 h
  have nb := YJ hb e9
  obtain ⟨l2, e10, h⟩ := Option.bind_eq_some_iff.1 h
  have l2b := XN hb e10
  obtain ⟨s, e11, h⟩ := Option.bind_eq_some_iff.1 h
  cases h
  exact Xcj (P := CtxOk) (clR_ok hb (Xi7 r0r) c2b c1b c2b c3b) e11 (by simp) (by simp)
 ·
  rename_i hc
  obtain ⟨o2, e5, h⟩ := Option.bind_eq_some_iff.1 h
  have o2b := YJ hb e5
  obtain ⟨c2, e6, h⟩ := Option.bind_eq_some_iff.1 h
  have c2b := ZN hN hb hb1 (by omega) (by omega) (by omega) (by omega) e6
  obtain ⟨n, e9, h⟩ := Option.bind_eq_some_iff.1 h
  have nb := YJ hb e9
  obtain ⟨l2, e10, h⟩ := Option.bind_eq_some_iff.1 h
  have l2b := XN hb e10
  obtain ⟨s, e11, h⟩ := Option.bind_eq_some_iff.1 h
  cases h
  exact Xcj (P := CtxOk) (clR_ok hb (Xi7 r0r) c2b CB.nil c2b CB.nil) e11 (by simp) (by simp)
theorem Xj5 {base p : Int} {ch : Bool} (h0 : -1000000 ≤ base) (h1 : base ≤ 1000000) {r : List TCtx × Int} (h : Xaf N b p base ch = some r) : OkT r := by
 unfold Xaf at h
 split at h
 ·
  rename_i hc
  obtain ⟨n1, e1, h⟩ := Option.bind_eq_some_iff.1 h
  have n1b := XH hb e1
  obtain ⟨l1, e2, h⟩ := Option.bind_eq_some_iff.1 h
  have l1b := XN hb e2
  obtain ⟨s1, e3, h⟩ := Option.bind_eq_some_iff.1 h
  have s1l := ZP e3
  have s1r := QI hN hb hb1 h0 h1 l1b.2.2.2.2.2 e3
  obtain ⟨n2, e4, h⟩ := Option.bind_eq_some_iff.1 h
  have n2b := XH hb e4
  obtain ⟨l2, e5, h⟩ := Option.bind_eq_some_iff.1 h
  have l2b := XN hb e5
  obtain ⟨s2, e6, h⟩ := Option.bind_eq_some_iff.1 h
  have s2l := ZP e6
  have s2r := QI hN hb hb1 h0 h1 l2b.2.2.2.2.2 e6
  obtain ⟨n3, e7, h⟩ := Option.bind_eq_some_iff.1 h
  have n3b := XH hb e7
  obtain ⟨l3, e8, h⟩ := Option.bind_eq_some_iff.1 h
  have l3b := XN hb e8
  obtain ⟨s3, e9, h⟩ := Option.bind_eq_some_iff.1 h
  have s3l := ZP e9
  have s3r := QI hN hb hb1 h0 h1 l3b.2.2.2.2.2 e9
  obtain ⟨n4, e10, h⟩ := Option.bind_eq_some_iff.1 h
  have n4b := XH hb e10
  obtain ⟨q, e11, h⟩ := Option.bind_eq_some_iff.1 h
  have qb := Xcy hb (l := q.1) (q := q.2) e11
  cases h
  refine ⟨by simp, fun c hc2 => ?_⟩
  rw [List.mem_singleton.1 hc2]
  exact ⟨by simp only; omega, by simp only; omega, by simp only; omega, by simp only; omega, fun s hs => by have := (s1r s hs).2; unfold SetOk; omega, fun s hs => by have := (s2r s hs).2; unfold SetOk; omega, fun s hs => by have := (s3r s hs).2; unfold SetOk; omega⟩
 ·
  rename_i hc
  obtain ⟨n2, e4, h⟩ := Option.bind_eq_some_iff.1 h
  have n2b := XH hb e4
  obtain ⟨n4, e10, h⟩ := Option.bind_eq_some_iff.1 h
  have n4b := XH hb e10
  obtain ⟨l2, e5, h⟩ := Option.bind_eq_some_iff.1 h
  have l2b := XN hb e5
  obtain ⟨s2, e6, h⟩ := Option.bind_eq_some_iff.1 h
  have s2l := ZP e6
  have s2r := QI hN hb hb1 h0 h1 l2b.2.2.2.2.2 e6
  obtain ⟨q, e11, h⟩ := Option.bind_eq_some_iff.1 h
  have qb := Xcy hb (l := q.1) (q := q.2) e11
  cases h
  refine ⟨by simp, fun c hc2 => ?_⟩
  rw [List.mem_singleton.1 hc2]
  exact ⟨by simp, by simp only; omega, by simp, by simp only; omega, by simp, fun s hs => by have := (s2r s hs).2; unfold SetOk; omega, by simp⟩
theorem tableM_ok {p : Int} {ch : Bool} (h0 : -1000000 ≤ p) (h1 : p ≤ 1000000) {r : List TCtx × Int} (h : Xd0 N b p ch = some r) : OkT r := by
  unfold Xd0 at h
  obtain ⟨f, e1, h⟩ := Option.bind_eq_some_iff.1 h
  split at h
  · exact Xle hN hb hb1 h0 h1 h
  · split at h
    · exact Xj9 hN hb hb1 h0 h1 h
    · split at h
      · exact Xj5 hN hb hb1 h0 h1 h
      · cases h
end
section
variable {N : Nat} (hN : 1000000000000 < N) {b m : List Int} (hb : Bytes b) (hm : Bytes m) (hl : (b ++ m).length ≤ 1000000)
include hN hb hm hl
theorem Xb3 {base : Int} (h0 : -1000000 ≤ base) (h1 : base ≤ 1000000) : ∀ {l : List Int} {r : List TSet}, (∀ x ∈ l, 0 ≤ x ∧ x ≤ 65535) → covs N b base l = some r → covs N (b ++ m) base l = some r
 | [], r, _, h => h
 | o :: l, r, hx, h => by
  simp only [covs] at h ⊢
  obtain ⟨s, h2, h3⟩ := Option.bind_eq_some_iff.1 h
  obtain ⟨q, h4, h5⟩ := Option.bind_eq_some_iff.1 h3
  have ho := hx o (by simp)
  have e : cov N (b ++ m) (base + o) = some s := by
   unfold cov at h2 ⊢
   split at h2
   ·
    rename_i hc
    obtain ⟨g1, g2⟩ := Xky hN hb hm (by omega) (base + o) (by omega) (by omega) hc
    rw [if_pos g1, g2]; exact h2
   ·
    cases h2
  rw [e, Option.bind_some, Xb3 h0 h1 (fun y hy => hx y (List.mem_cons_of_mem _ hy)) h4]
  exact h5
theorem Xa6 {base off : Int} (h0 : -1000000000 ≤ base) (h1 : base ≤ 1000000000) (h2 : 0 ≤ off) (h3 : off ≤ 65535) {c : List Xg} (h : QK N b base off = some c) : QK N (b ++ m) base off = some c := by
 unfold QK at h ⊢
 split at h
 ·
  rename_i hz; rw [if_pos hz]; exact h
 ·
  rename_i hz
  rw [if_neg hz]
  unfold clsO at h ⊢
  split at h
  ·
   rename_i hc
   obtain ⟨g1, g2⟩ := Xk3 hN hb hm (by omega) (base + off) (by omega) (by omega) hc
   rw [if_pos g1, g2]; exact h
  ·
   cases h
theorem Xjn {base p : Int} {ch : Bool} (h0 : -1000000 ≤ base) (h1 : base ≤ 1000000) {r : List TCtx × Int} (h : Xbs N b p base ch = some r) : Xbs N (b ++ m) p base ch = some r := by
 have hb1 : b.length ≤ 1000000 := by simp only [List.length_append] at hl; omega
 unfold Xbs at h ⊢
 obtain ⟨l, e1, h⟩ := Option.bind_eq_some_iff.1 h
 have lb := XN hb e1
 rw [Js hb e1, Option.bind_some]
 obtain ⟨r0, e2, h⟩ := Option.bind_eq_some_iff.1 h
 have r0l := ZP e2
 have r0r := QI hN hb hb1 h0 h1 lb.2.2.2.2.2 e2
 rw [Xb3 hN hb hm hl h0 h1 lb.2.2.2.2.2 e2, Option.bind_some]
 obtain ⟨n, e3, h⟩ := Option.bind_eq_some_iff.1 h
 have nb := YJ hb e3
 rw [JN hb e3, Option.bind_some]
 split at h
 ·
  rename_i hc
  rw [if_pos hc]
  obtain ⟨l2, e5, h⟩ := Option.bind_eq_some_iff.1 h
  have l2b := XN hb e5
  rw [Js hb e5, Option.bind_some]
  obtain ⟨s, e6, h⟩ := Option.bind_eq_some_iff.1 h
  rw [Xci (m := m) (rl2 := glR N (b ++ m) ch (glO (Xdc r0))) hb (fun i p r hr => Xf5 hb hr) e6, Option.bind_some]
  exact h
 ·
  cases h
theorem Xjf {base p : Int} {ch : Bool} (h0 : -1000000 ≤ base) (h1 : base ≤ 1000000) {r : List TCtx × Int} (h : Xak N b p base ch = some r) : Xak N (b ++ m) p base ch = some r := by
 have hb1 : b.length ≤ 1000000 := by simp only [List.length_append] at hl; omega
 unfold Xak at h ⊢
 obtain ⟨l, e1, h⟩ := Option.bind_eq_some_iff.1 h
 have lb := XN hb e1
 rw [Js hb e1, Option.bind_some]
 obtain ⟨r0, e2, h⟩ := Option.bind_eq_some_iff.1 h
 have r0l := ZP e2
 have r0r := QI hN hb hb1 h0 h1 lb.2.2.2.2.2 e2
 rw [Xb3 hN hb hm hl h0 h1 lb.2.2.2.2.2 e2, Option.bind_some]
 split at h
 ·
  rename_i hc
  rw [if_pos hc]
  obtain ⟨o1, e3, h⟩ := Option.bind_eq_some_iff.1 h
  have o1b := YJ hb e3
  rw [JN hb e3, Option.bind_some]
  obtain ⟨c1, e4, h⟩ := Option.bind_eq_some_iff.1 h
  have c1b := ZN hN hb hb1 (by omega) (by omega) (by omega) (by omega) e4
  rw [Xa6 hN hb hm hl (by omega) (by omega) (by omega) (by omega) e4, Option.bind_some]
  obtain ⟨o2, e5, h⟩ := Option.bind_eq_some_iff.1 h
  have o2b := YJ hb e5
  rw [JN hb e5, Option.bind_some]
  obtain ⟨c2, e6, h⟩ := Option.bind_eq_some_iff.1 h
  have c2b := ZN hN hb hb1 (by omega) (by omega) (by omega) (by omega) e6
  rw [Xa6 hN hb hm hl (by omega) (by omega) (by omega) (by omega) e6, Option.bind_some]
  obtain ⟨o3, e7, h⟩ := Option.bind_eq_some_iff.1 h
  have o3b := YJ hb e7
  rw [JN hb e7, Option.bind_some]
  obtain ⟨c3, e8, h⟩ := Option.bind_eq_some_iff.1 h
  have c3b := ZN hN hb hb1 (by omega) (by omega) (by omega) (by omega) e8
  rw [Xa6 hN hb hm hl (by omega) (by omega) (by omega) (by omega) e8, Option.bind_some]
  obtain ⟨n, e9, h⟩ := Option.bind_eq_some_iff.1 h
  have nb := YJ hb e9
  rw [JN hb e9, Option.bind_some]
  obtain ⟨l2, e10, h⟩ := Option.bind_eq_some_iff.1 h
  have l2b := XN hb e10
  rw [Js hb e10, Option.bind_some]
  obtain ⟨s, e11, h⟩ := Option.bind_eq_some_iff.1 h
  rw [Xci (m := m) (rl2 := clR (b ++ m) true (Xdc r0) c2 c1 c2 c3) hb (fun i p r hr => Xf5 hb hr) e11, Option.bind_some]
  exact h
 ·
  rename_i hc
  rw [if_neg hc]
  obtain ⟨o2, e5, h⟩ := Option.bind_eq_some_iff.1 h
  have o2b := YJ hb e5
  rw [JN hb e5, Option.bind_some]
  obtain ⟨c2, e6, h⟩ := Option.bind_eq_some_iff.1 h
  have c2b := ZN hN hb hb1 (by omega) (by omega) (by omega) (by omega) e6
  rw [Xa6 hN hb hm hl (by omega) (by omega) (by omega) (by omega) e6, Option.bind_some]
  obtain ⟨n, e9, h⟩ := Option.bind_eq_some_iff.1 h
  have nb := YJ hb e9
  rw [JN hb e9, Option.bind_some]
  obtain ⟨l2, e10, h⟩ := Option.bind_eq_some_iff.1 h
  have l2b := XN hb e10
  rw [Js hb e10, Option.bind_some]
  obtain ⟨s, e11, h⟩ := Option.bind_eq_some_iff.1 h
  rw [Xci (m := m) (rl2 := clR (b ++ m) false (Xdc r0) c2 [] c2 []) hb (fun i p r hr => Xf5 hb hr) e11, Option.bind_some]
  exact h
theorem Xjc {base p : Int} {ch : Bool} (h0 : -1000000 ≤ base) (h1 : base ≤ 1000000) {r : List TCtx × Int} (h : Xaf N b p base ch = some r) : Xaf N (b ++ m) p base ch = some r := by
 have hb1 : b.length ≤ 1000000 := by simp only [List.length_append] at hl; omega
 unfold Xaf at h ⊢
 split at h
 ·
  rename_i hc
  rw [if_pos hc]
  obtain ⟨n1, e1, h⟩ := Option.bind_eq_some_iff.1 h
  have n1b := XH hb e1
  rw [Jo hb e1, Option.bind_some]
  obtain ⟨l1, e2, h⟩ := Option.bind_eq_some_iff.1 h
  have l1b := XN hb e2
  rw [Js hb e2, Option.bind_some]
  obtain ⟨s1, e3, h⟩ := Option.bind_eq_some_iff.1 h
  have s1l := ZP e3
  have s1r := QI hN hb hb1 h0 h1 l1b.2.2.2.2.2 e3
  rw [Xb3 hN hb hm hl h0 h1 l1b.2.2.2.2.2 e3, Option.bind_some]
  obtain ⟨n2, e4, h⟩ := Option.bind_eq_some_iff.1 h
  have n2b := XH hb e4
  rw [Jo hb e4, Option.bind_some]
  obtain ⟨l2, e5, h⟩ := Option.bind_eq_some_iff.1 h
  have l2b := XN hb e5
  rw [Js hb e5, Option.bind_some]
  obtain ⟨s2, e6, h⟩ := Option.bind_eq_some_iff.1 h
  have s2l := ZP e6
  have s2r := QI hN hb hb1 h0 h1 l2b.2.2.2.2.2 e6
  rw [Xb3 hN hb hm hl h0 h1 l2b.2.2.2.2.2 e6, Option.bind_some]
  obtain ⟨n3, e7, h⟩ := Option.bind_eq_some_iff.1 h
  have n3b := XH hb e7
  rw [Jo hb e7, Option.bind_some]
  obtain ⟨l3, e8, h⟩ := Option.bind_eq_some_iff.1 h
  have l3b := XN hb e8
  rw [Js hb e8, Option.bind_some]
  obtain ⟨s3, e9, h⟩ := Option.bind_eq_some_iff.1 h
  have s3l := ZP e9
  have s3r := QI hN hb hb1 h0 h1 l3b.2.2.2.2.2 e9
  rw [Xb3 hN hb hm hl h0 h1 l3b.2.2.2.2.2 e9, Option.bind_some]
  obtain ⟨n4, e10, h⟩ := Option.bind_eq_some_iff.1 h
  have n4b := XH hb e10
  rw [Jo hb e10, Option.bind_some]
  obtain ⟨q, e11, h⟩ := Option.bind_eq_some_iff.1 h
  rw [Xel hb e11, Option.bind_some]
  exact h
 ·
  rename_i hc
  rw [if_neg hc]
  obtain ⟨n2, e4, h⟩ := Option.bind_eq_some_iff.1 h
  have n2b := XH hb e4
  rw [Jo hb e4, Option.bind_some]
  obtain ⟨n4, e10, h⟩ := Option.bind_eq_some_iff.1 h
  have n4b := XH hb e10
  rw [Jo hb e10, Option.bind_some]
  obtain ⟨l2, e5, h⟩ := Option.bind_eq_some_iff.1 h
  have l2b := XN hb e5
  rw [Js hb e5, Option.bind_some]
  obtain ⟨s2, e6, h⟩ := Option.bind_eq_some_iff.1 h
  have s2l := ZP e6
  have s2r := QI hN hb hb1 h0 h1 l2b.2.2.2.2.2 e6
  rw [Xb3 hN hb hm hl h0 h1 l2b.2.2.2.2.2 e6, Option.bind_some]
  obtain ⟨q, e11, h⟩ := Option.bind_eq_some_iff.1 h
  rw [Xel hb e11, Option.bind_some]
  exact h
theorem Xld {p : Int} {ch : Bool} (h0 : -1000000 ≤ p) (h1 : p ≤ 1000000) {r : List TCtx × Int} (h : Xd0 N b p ch = some r) : Xd0 N (b ++ m) p ch = some r := by
 unfold Xd0 at h ⊢
 obtain ⟨f, e1, h⟩ := Option.bind_eq_some_iff.1 h
 rw [JN hb e1, Option.bind_some]
 split at h
 ·
  rename_i g1
  rw [if_pos g1]; exact Xjn hN hb hm hl h0 h1 h
 ·
  rename_i g1
  rw [if_neg g1]
  split at h
  ·
   rename_i g2
   rw [if_pos g2]; exact Xjf hN hb hm hl h0 h1 h
  ·
   rename_i g2
   rw [if_neg g2]
   split at h
   ·
    rename_i g3
    rw [if_pos g3]; exact Xjc hN hb hm hl h0 h1 h
   ·
    cases h
end
end Go.Proofs.Ytfacmhngbaboiaa.AI
