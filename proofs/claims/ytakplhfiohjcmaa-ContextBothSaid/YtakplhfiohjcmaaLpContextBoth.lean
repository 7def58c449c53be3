/- Plain law of ContextBoth. -/
import Derived.Test.YtakplhfiohjcmaaCX8
import Derived.Test.YtakplhfiohjcmaaCXA
set_option linter.unusedVariables false
set_option linter.unusedSimpArgs false
set_option maxRecDepth 100000
namespace Go.Proofs.Ytakplhfiohjcmaa.AI
def p2 (x : Int) : List Int := [x / 256 % 256, x % 256]
def wd : List Int → List Int
 | [] => []
 | x :: l => x / 256 % 256 :: x % 256 :: wd l
def Wds (l : List Int) : Prop := ∀ x ∈ l, 0 ≤ x ∧ x ≤ 65535
theorem wd_len : ∀ (l : List Int), (wd l).length = 2 * l.length
 | [] => rfl
 | x :: l => by simp only [wd, List.length_cons, wd_len l]; omega
theorem wd_app : ∀ (l m : List Int), wd (l ++ m) = wd l ++ wd m
 | [], m => rfl
 | x :: l, m => by simp only [wd, List.cons_append, wd_app l m]
theorem wd_bytes : ∀ (l : List Int), Bytes (wd l)
 | [] => fun x h => by cases h
 | x :: l => fun y h => by
  simp only [wd, List.mem_cons] at h
  rcases h with rfl | rfl | h
  ·
   omega
  ·
   omega
  ·
   exact wd_bytes l y h
theorem wd_get {x : Int} : ∀ {l : List Int} {k : Nat}, l[k]? = some x → (wd l)[2 * k]? = some (x / 256 % 256) ∧ (wd l)[2 * k + 1]? = some (x % 256)
 | [], k, h => by simp at h
 | y :: l, 0, h => by
  simp only [List.getElem?_cons_zero, Option.some.injEq] at h; subst h
  exact ⟨rfl, rfl⟩
 | y :: l, k + 1, h => by
  have := wd_get (l := l) (k := k) (by simpa using h)
  exact this
theorem u16_wd {l : List Int} {k : Nat} {x p : Int} (h : l[k]? = some x) (hx : 0 ≤ x ∧ x ≤ 65535) (hp : p = 2 * (k : Int)) : u16 (wd l) p = x := by
 have hk : k < l.length := by
  rcases Nat.lt_or_ge k l.length with h' | h'
  ·
   exact h'
  ·
   rw [List.getElem?_eq_none h'] at h; cases h
 have g := wd_get h
 have hl := wd_len l
 subst hp
 unfold u16
 rw [if_pos (by omega)]
 unfold gb
 rw [show (2 * (k : Int)).toNat = 2 * k by omega, show (2 * (k : Int) + 1).toNat = 2 * k + 1 by omega, g.1, g.2]
 simp only [Option.getD_some]
 omega
theorem num_wd {X Y : List Int} {x p : Int} (hx : 0 ≤ x ∧ x ≤ 65535) (hp : p = 2 * (X.length : Int)) : num (wd (X ++ x :: Y)) p = some x := by
 have e : u16 (wd (X ++ x :: Y)) p = x := u16_wd (k := X.length) (by simp) hx hp
 unfold num
 rw [e, if_neg (by omega)]
theorem cntr_wd {X Y : List Int} {x p lo hi : Int} (hx : 0 ≤ x ∧ x ≤ 65535) (hp : p = 2 * (X.length : Int)) (h : lo ≤ x ∧ x ≤ hi) : cntr (wd (X ++ x :: Y)) p lo hi = some x := by
 unfold cntr
 rw [num_wd hx hp, Option.bind_some, if_pos h]
theorem row_wd {X l Y : List Int} {p n : Int} (hl : Wds l) (hp : p = 2 * (X.length : Int)) (hn : n = (l.length : Int)) : row (wd (X ++ l ++ Y)) p n = some l := by
 have hlen := wd_len (X ++ l ++ Y)
 simp only [List.length_append] at hlen
 unfold row
 rw [if_pos (by omega)]
 congr 1
 subst hn
 apply List.ext_getElem?
 intro j
 unfold row16
 rw [Int.toNat_natCast, List.getElem?_map]
 by_cases hj : j < l.length
 ·
  rw [List.getElem?_range hj, List.getElem?_eq_getElem hj]
  simp only [Option.map_some, Option.some.injEq]
  refine u16_wd (k := X.length + j) ?_ (hl _ (List.getElem_mem hj)) (by omega)
  rw [List.append_assoc, List.getElem?_append_right (by omega), List.getElem?_append_left (by omega), show X.length + j - X.length = j by omega, List.getElem?_eq_getElem hj]
 ·
  rw [List.getElem?_eq_none (show (List.range l.length).length ≤ j by rw [List.length_range]; omega), List.getElem?_eq_none (by omega)]; rfl
def CW : List Int → List Int
 | [] => []
 | g :: l => 1 :: 1 :: g :: CW l
def DW (n : Int) : List Int → List Int
 | [] => []
 | a :: l => a.tmod n :: a :: DW n l
def offs (b : Int) : Nat → Nat → List Int
 | _, 0 => []
 | k, d + 1 => (b + 6 * (k : Int)) :: offs b (k + 1) d
theorem CW_len : ∀ (l : List Int), (CW l).length = 3 * l.length
 | [] => rfl
 | x :: l => by simp only [CW, List.length_cons, CW_len l]; omega
theorem DW_len (n : Int) : ∀ (l : List Int), (DW n l).length = 2 * l.length
 | [] => rfl
 | x :: l => by simp only [DW, List.length_cons, DW_len n l]; omega
theorem offs_len (b : Int) : ∀ (d k : Nat), (offs b k d).length = d
 | 0, _ => rfl
 | d + 1, k => by simp only [offs, List.length_cons, offs_len b d]
theorem offs_wds {b : Int} (hb : 0 ≤ b ∧ b ≤ 1000) : ∀ (d k : Nat), k + d ≤ 100 → Wds (offs b k d)
 | 0, _, _ => fun x h => by cases h
 | d + 1, k, hk => fun x h => by
  rcases List.mem_cons.1 h with rfl | h
  ·
   omega
  ·
   exact offs_wds hb d (k + 1) (by omega) x h
def Byt (l : List Int) : Prop := ∀ x ∈ l, 0 ≤ x ∧ x ≤ 255
theorem cov_wd {N : Nat} (hN : 1000000000000 < N) {X Y : List Int} {g p : Int} (hg : 0 ≤ g ∧ g ≤ 255) (hp : p = 2 * (X.length : Int)) (hl : (X ++ 1 :: 1 :: g :: Y).length ≤ 100000) :
  cov N (wd (X ++ 1 :: 1 :: g :: Y)) p = some [⟨g, g⟩] := by
 have hl2 := wd_len (X ++ 1 :: 1 :: g :: Y)
 have hX : X.length ≤ 100000 := by simp only [List.length_append] at hl; omega
 have e0 : u16 (wd (X ++ 1 :: 1 :: g :: Y)) p = 1 := u16_wd (k := X.length) (by simp) (by omega) hp
 have e1 : u16 (wd (X ++ 1 :: 1 :: g :: Y)) (p + 2) = 1 := u16_wd (k := X.length + 1) (by simp) (by omega) (by omega)
 have e2 : u16 (wd (X ++ 1 :: 1 :: g :: Y)) (p + 4) = g := u16_wd (k := X.length + 2) (by simp) (by omega) (by omega)
 have er : row16 (wd (X ++ 1 :: 1 :: g :: Y)) (p + 4) 1 = [g] := by
  unfold row16
  rw [show List.range 1 = [0] from rfl, List.map_cons, List.map_nil, show p + 4 + 2 * ((0 : Nat) : Int) = p + 4 by omega, e2]
 have ok : covOk (wd (X ++ 1 :: 1 :: g :: Y)) p = true := by
  unfold covOk
  rw [if_pos e0, e1, show (1 : Int).toNat = 1 from rfl, er]
  simp [rise]; omega
 obtain ⟨l, g1, g2, g3, g4⟩ := Cover_same hN (wd_bytes (X ++ 1 :: 1 :: g :: Y)) (by omega) p (by omega) (by omega)
 have e : covL N (wd (X ++ 1 :: 1 :: g :: Y)) p = l := by unfold covL; rw [g1]; rfl
 unfold cov
 rw [if_pos ok, e]
 congr 1
 refine RL.uniq (g4 ok).1 ?_ (fun x => ?_)
 ·
  exact ⟨hg.1, Int.le_refl _, show g ≤ 65535 by omega, trivial⟩
 ·
  rw [(g4 ok).2]
  unfold covIn
  rw [if_pos e0, e1, show (1 : Int).toNat = 1 from rfl, er]
  unfold inn
  simp only [List.mem_singleton, exists_eq_left]
  omega
theorem covs_wd {N : Nat} (hN : 1000000000000 < N) {b : Int} : ∀ (G : List Int) (Z : List Int) (k : Nat), Byt G → b + 6 * (k : Int) = 2 * (Z.length : Int) → (Z ++ CW G).length ≤ 100000 →
  covs N (wd (Z ++ CW G)) 0 (offs b k G.length) = some (G.map fun x => (⟨[⟨x, x⟩], false⟩ : TSet))
 | [], Z, k, hG, hk, hl => rfl
 | g :: G, Z, k, hG, hk, hl => by
  have h1 := cov_wd hN (X := Z) (Y := CW G) (g := g) (p := 0 + (b + 6 * (k : Int))) (hG g List.mem_cons_self) (by omega) hl
  have e : Z ++ CW (g :: G) = (Z ++ [1, 1, g]) ++ CW G := by simp [CW]
  have h2 := covs_wd hN (b := b) G (Z ++ [1, 1, g]) (k + 1) (fun x hx => hG x (List.mem_cons_of_mem _ hx)) (by simp only [List.length_append, List.length_cons, List.length_nil]; omega) (by rw [← e]; exact hl)
  rw [List.length_cons]
  simp only [offs, covs]
  rw [show wd (Z ++ CW (g :: G)) = wd (Z ++ 1 :: 1 :: g :: CW G) from rfl, h1, Option.bind_some, show Z ++ 1 :: 1 :: g :: CW G = (Z ++ [1, 1, g]) ++ CW G from e, h2, Option.bind_some]
  rfl
theorem acts_wd {n : Int} (hn : 1 ≤ n ∧ n ≤ 16) : ∀ (A : List Int) (X Y : List Int) (p : Int), Byt A → p = 2 * (X.length : Int) →
  acts (wd (X ++ DW n A ++ Y)) n A.length p = some (A.map fun a => (⟨a.tmod n, a⟩ : TAct), p + 4 * (A.length : Int))
 | [], X, Y, p, hA, hp => by simp [acts]
 | a :: A, X, Y, p, hA, hp => by
  have ha := hA a List.mem_cons_self
  have t1 : a.tmod n = a % n := Int.tmod_eq_emod_of_nonneg ha.1
  have t2 := Int.emod_nonneg a (show n ≠ 0 by omega)
  have t3 := Int.emod_lt_of_pos a (show 0 < n by omega)
  have h1 := num_wd (X := X) (Y := a :: DW n A ++ Y) (x := a.tmod n) (p := p) (by omega) hp
  have h2 := num_wd (X := X ++ [a.tmod n]) (Y := DW n A ++ Y) (x := a) (p := p + 2) (by omega) (by simp only [List.length_append, List.length_cons, List.length_nil]; omega)
  have h3 := acts_wd hn A (X ++ [a.tmod n, a]) Y (p + 4) (fun x hx => hA x (List.mem_cons_of_mem _ hx)) (by simp only [List.length_append, List.length_cons, List.length_nil]; omega)
  have e1 : X ++ DW n (a :: A) ++ Y = X ++ a.tmod n :: (a :: DW n A ++ Y) := by simp [DW]
  have e2 : X ++ DW n (a :: A) ++ Y = (X ++ [a.tmod n]) ++ a :: (DW n A ++ Y) := by simp [DW]
  have e3 : X ++ DW n (a :: A) ++ Y = (X ++ [a.tmod n, a]) ++ DW n A ++ Y := by simp [DW]
  rw [← e1] at h1; rw [← e2] at h2; rw [← e3] at h3
  rw [List.length_cons]
  simp only [acts]
  rw [h1, Option.bind_some, h2, Option.bind_some, if_pos (by omega), h3, Option.bind_some]
  simp only [List.map_cons, Option.some.injEq, Prod.mk.injEq, true_and]
  omega
theorem u64p {x : Int} (h : 0 ≤ x) (h' : x ≤ 4611686018427387904) : IntKind.u64.wrap x = x := IntWalk.u64_in _ ⟨by omega, by omega⟩
theorem u8p (x : Int) : IntKind.u8.wrap x = x % 256 := by
 unfold IntKind.wrap
 rw [show IntKind.u8.signed = false from rfl, show IntKind.u8.bits = 8 from rfl]
 simp
theorem Put_eq {N : Nat} (hN : 1000000000000 < N) {x : Int} (h : 0 ≤ x) (h' : x ≤ 1000000) : ref01_Put N x 2 = some (p2 x) := by
 obtain ⟨M, rfl⟩ : ∃ M, N = M + 3 := ⟨N - 3, by omega⟩
 unfold ref01_Put
 rw [if_neg (by decide), ref01_Put_L1, if_pos (by decide), if_pos (by decide), if_pos rfl, show IntKind.i64.wrap (0 + 1) = 1 from rfl, ref01_Put_L1, if_pos (by decide), if_pos (by decide), if_neg (by simp), if_pos (by simp), show IntKind.i64.wrap (1 + 1) = 2 from rfl, ref01_Put_L1, if_neg (by decide), Option.bind_some, u64p h (by omega), u8p, u8p]
 rw [show (min (IntKind.u64.wrap (IntKind.i64.wrap (8 * 1))).toNat 64) = 8 from rfl, show (min (IntKind.u64.wrap (IntKind.i64.wrap (8 * 0))).toNat 64) = 0 from rfl, Int.fdiv_eq_ediv_of_nonneg _ (by decide), Int.fdiv_eq_ediv_of_nonneg _ (by decide)]
 simp [p2]
theorem p2_app (x : Int) (l : List Int) (s : List Int) : (s ++ p2 x) ++ wd l = s ++ wd (x :: l) := by simp [p2, wd]
theorem mk_L1 {N : Nat} (hN : 1000000000000 < N) {G A : List Int} (hG : 1 ≤ G.length ∧ G.length ≤ 16) (hA : Byt A) (hl : A.length ≤ 16) : ∀ (d k n : Nat) (s : List Int), k + d = A.length → d < n → s.length ≤ 4 * k →
  law11_ContextBoth_L1 N G A n k s = some (s ++ wd (DW (G.length : Int) (A.drop k))) := by
 intro d
 induction d with
 | zero =>
  intro k n s hk hn hs
  obtain ⟨n, rfl⟩ : ∃ x, n = x + 1 := ⟨n - 1, by omega⟩
  rw [law11_ContextBoth_L1, if_neg (by omega), List.drop_eq_nil_of_le (by omega)]; simp [DW, wd]
 | succ d ih =>
  intro k n s hk hn hs
  obtain ⟨n, rfl⟩ : ∃ x, n = x + 1 := ⟨n - 1, by omega⟩
  have hkl : k < A.length := by omega
  have ha := hA A[k] (List.getElem_mem hkl)
  have t1 : A[k].tmod (G.length : Int) = A[k] % (G.length : Int) := Int.tmod_eq_emod_of_nonneg ha.1
  have t2 := Int.emod_nonneg A[k] (show (G.length : Int) ≠ 0 by omega)
  have t3 := Int.emod_lt_of_pos A[k] (show 0 < (G.length : Int) by omega)
  have l1 : ∀ x, (p2 x).length = 2 := fun _ => rfl
  rw [law11_ContextBoth_L1, if_pos (by omega), atI_at (List.getElem?_eq_getElem hkl), Option.bind_some, if_pos (by omega), w64 (x := A[k]) (by omega) (by omega), Put_eq hN (by omega) (by omega), Option.bind_some, l1, if_pos (by omega), Put_eq hN (by omega) (by omega), Option.bind_some, l1, if_pos (by omega),
   w64 (x := (k : Int) + 1) (by omega) (by omega), show (k : Int) + 1 = ((k + 1 : Nat) : Int) by omega, ih (k + 1) n _ (by omega) (by omega) (by simp only [List.length_append, l1]; omega), List.drop_eq_getElem_cons hkl]
  simp only [DW]
  rw [p2_app, p2_app]
theorem mk_L2 {N : Nat} (hN : 1000000000000 < N) {G A D : List Int} (hG : Byt G) (hl : G.length ≤ 16) (hD : D.length ≤ 64) : ∀ (d k n : Nat) (s t u : List Int), k + d = G.length → d < n → s.length ≤ 6 * k + 6 → t.length ≤ 6 * k + 6 → u.length ≤ 6 * k →
  law11_ContextBoth_L2 N G A D n k s t u = some (s ++ wd (offs (6 + 2 * (G.length : Int) + (D.length : Int)) k d), t ++ wd (offs (12 + 2 * (G.length : Int) + (D.length : Int)) k d), u ++ wd (CW (G.drop k))) := by
 intro d
 induction d with
 | zero =>
  intro k n s t u hk hn hs ht hu
  obtain ⟨n, rfl⟩ : ∃ x, n = x + 1 := ⟨n - 1, by omega⟩
  rw [law11_ContextBoth_L2, if_neg (by omega), List.drop_eq_nil_of_le (by omega)]; simp [CW, wd, offs]
 | succ d ih =>
  intro k n s t u hk hn hs ht hu
  obtain ⟨n, rfl⟩ : ∃ x, n = x + 1 := ⟨n - 1, by omega⟩
  have hkl : k < G.length := by omega
  have hg := hG G[k] (List.getElem_mem hkl)
  have l1 : ∀ x, (p2 x).length = 2 := fun _ => rfl
  have e1 : IntKind.i64.wrap ((IntKind.i64.wrap ((IntKind.i64.wrap (6 + (IntKind.i64.wrap (2 * (G.length : Int))))) + (D.length : Int))) + (IntKind.i64.wrap (6 * (k : Int)))) = 6 + 2 * (G.length : Int) + (D.length : Int) + 6 * (k : Int) := by
   rw [w64 (x := 2 * (G.length : Int)) (by omega) (by omega), w64 (x := 6 + 2 * (G.length : Int)) (by omega) (by omega), w64 (x := 6 + 2 * (G.length : Int) + (D.length : Int)) (by omega) (by omega), w64 (x := 6 * (k : Int)) (by omega) (by omega), w64 (by omega) (by omega)]
  have e2 : IntKind.i64.wrap ((IntKind.i64.wrap ((IntKind.i64.wrap ((IntKind.i64.wrap (10 + (IntKind.i64.wrap (2 * (G.length : Int))))) + 2)) + (D.length : Int))) + (IntKind.i64.wrap (6 * (k : Int)))) = 12 + 2 * (G.length : Int) + (D.length : Int) + 6 * (k : Int) := by
   rw [w64 (x := 2 * (G.length : Int)) (by omega) (by omega), w64 (x := 10 + 2 * (G.length : Int)) (by omega) (by omega), w64 (x := 10 + 2 * (G.length : Int) + 2) (by omega) (by omega), w64 (x := 10 + 2 * (G.length : Int) + 2 + (D.length : Int)) (by omega) (by omega), w64 (x := 6 * (k : Int)) (by omega) (by omega), w64 (by omega) (by omega)]
   omega
  have hc : u ++ [0, 1, 0, 1, 0, G[k]] ++ wd (CW (G.drop (k + 1))) = u ++ wd (CW (G.drop k)) := by
   rw [List.drop_eq_getElem_cons hkl]
   simp only [CW, wd, List.append_assoc, List.cons_append, List.nil_append]
   rw [show G[k] / 256 % 256 = 0 by omega, show G[k] % 256 = G[k] by omega]
   rfl
  rw [law11_ContextBoth_L2, if_pos (by omega), e1, e2, Put_eq hN (by omega) (by omega), Option.bind_some, l1, if_pos (by omega), Put_eq hN (by omega) (by omega), Option.bind_some, l1, if_pos (by omega), atI_at (List.getElem?_eq_getElem hkl), Option.bind_some, if_pos (by omega),
   w64 (x := (k : Int) + 1) (by omega) (by omega), show (k : Int) + 1 = ((k + 1 : Nat) : Int) by omega, ih (k + 1) n _ _ _ (by omega) (by omega) (by simp only [List.length_append, l1]; omega) (by simp only [List.length_append, l1]; omega) (by simp only [List.length_append, List.length_cons, List.length_nil]; omega), hc]
  simp only [offs]
  rw [p2_app, p2_app]
theorem set_mid (X : List Int) (a b x : Int) (R : List Int) : (X ++ a :: R).set X.length x = X ++ x :: R := by
 rw [List.set_append_right _ _ (by omega)]; simp
theorem mk_L3 {N : Nat} (hN : 1000000000000 < N) {G Y D A B : List Int} (hl : G.length ≤ 16) (hY : Y.length ≤ 100) (hD : D.length ≤ 100) {w : Int} : ∀ (d k n : Nat) (X R : List Int), k + d = G.length → d < n → X.length = 6 + 2 * k →
  law11_ContextBoth_L3 N G Y D A B n k (X ++ wd (offs w k d) ++ R) = some (X ++ wd (offs ((Y.length + 4 + D.length : Nat) : Int) k d) ++ R) := by
 intro d
 induction d with
 | zero =>
  intro k n X R hk hn hX
  obtain ⟨n, rfl⟩ : ∃ x, n = x + 1 := ⟨n - 1, by omega⟩
  rw [law11_ContextBoth_L3, if_neg (by omega)]; rfl
 | succ d ih =>
  intro k n X R hk hn hX
  obtain ⟨n, rfl⟩ : ∃ x, n = x + 1 := ⟨n - 1, by omega⟩
  generalize hv : ((Y.length + 4 + D.length : Nat) : Int) = v
  generalize hq : w + 6 * (k : Int) = q
  have e0 : X ++ wd (offs w k (d + 1)) ++ R = X ++ (q / 256 % 256) :: ((q % 256) :: (wd (offs w (k + 1) d) ++ R)) := by simp [offs, wd, hq]
  generalize hz : v + 6 * (k : Int) = z
  have i6 : IntKind.i64.wrap (6 + (IntKind.i64.wrap (2 * (k : Int)))) = ((X.length : Nat) : Int) := by
   rw [w64 (x := 2 * (k : Int)) (by omega) (by omega), w64 (by omega) (by omega)]; omega
  have i7 : IntKind.i64.wrap (7 + (IntKind.i64.wrap (2 * (k : Int)))) = ((X.length + 1 : Nat) : Int) := by
   rw [w64 (x := 2 * (k : Int)) (by omega) (by omega), w64 (by omega) (by omega)]; omega
  have s1 : (X ++ (q / 256 % 256) :: ((q % 256) :: (wd (offs w (k + 1) d) ++ R))).set X.length (z / 256 % 256) = (X ++ [z / 256 % 256]) ++ (q % 256) :: (wd (offs w (k + 1) d) ++ R) := by
   rw [set_mid _ _ 0]; simp
  have s2 : ((X ++ [z / 256 % 256]) ++ (q % 256) :: (wd (offs w (k + 1) d) ++ R)).set (X.length + 1) (z % 256) = (X ++ [z / 256 % 256, z % 256]) ++ wd (offs w (k + 1) d) ++ R := by
   have := set_mid (X ++ [z / 256 % 256]) (q % 256) 0 (z % 256) (wd (offs w (k + 1) d) ++ R)
   rw [List.length_append, List.length_cons, List.length_nil] at this
   rw [this]; simp
  rw [e0, law11_ContextBoth_L3, if_pos (by omega), hv, w64 (x := 6 * (k : Int)) (by omega) (by omega), hz, w64 (x := z) (by omega) (by omega), Put_eq hN (by omega) (by omega), Option.bind_some, show atI (p2 z) 0 = some (z / 256 % 256) from rfl, Option.bind_some, i6, atI_at (x := q / 256 % 256) (by simp), Option.bind_some, show atI (p2 z) 1 = some (z % 256) from rfl, Option.bind_some, Int.toNat_natCast, s1, i7, atI_at (x := q % 256) (by rw [List.getElem?_append_right (by simp)]; simp), Option.bind_some, Int.toNat_natCast, s2,
   w64 (x := (k : Int) + 1) (by omega) (by omega), show (k : Int) + 1 = ((k + 1 : Nat) : Int) by omega, ih (k + 1) n _ R (by omega) (by omega) (by simp only [List.length_append, List.length_cons, List.length_nil]; omega), hv]
  simp [offs, wd, hz]
theorem contextBoth_plain {N : Nat} (hN : 1000000000000 < N) {G A : List Int} (hG : Bytes G) (hA : Bytes A) : law11_ContextBoth N G A = some true := by
 replace hG : Byt G := fun x hx => ⟨(hG x hx).1, by have := (hG x hx).2; omega⟩
 replace hA : Byt A := fun x hx => ⟨(hA x hx).1, by have := (hA x hx).2; omega⟩
 unfold law11_ContextBoth
 rw [alive11 hN, Option.bind_some, if_pos rfl]
 by_cases g1 : (G.length : Int) < 1
 ·
  rw [if_pos g1]
 by_cases g2 : 16 < (G.length : Int)
 ·
  rw [if_neg g1, if_pos g2]
 by_cases g3 : 16 < (A.length : Int)
 ·
  rw [if_neg g1, if_neg g2, if_pos g3]
 rw [if_neg g1, if_neg g2, if_neg g3]
 have h1 := mk_L1 hN (G := G) (A := A) (by omega) hA (by omega) A.length 0 N [] (by omega) (by omega) (by simp)
 rw [List.drop_zero, List.nil_append] at h1
 generalize hn : (G.length : Int) = n at *
 generalize hm : (A.length : Int) = m at *
 generalize hD : wd (DW n A) = D at h1
 have lD : D.length = 4 * A.length := by rw [← hD, wd_len, DW_len]; omega
 have h2 := mk_L2 hN (G := G) (A := A) (D := D) hG (by omega) (by omega) G.length 0 N [0, 3, 0, IntKind.u8.wrap n, 0, IntKind.u8.wrap m] [0, 3, 0, 0, 0, IntKind.u8.wrap n] [] (by omega) (by omega) (by simp) (by simp) (by simp)
 rw [List.drop_zero, List.nil_append, hn] at h2
 rw [show law11_ContextBoth_L1 N G A N 0 [] = _ from h1, Option.bind_some, show law11_ContextBoth_L2 N G A D N 0 _ _ _ = _ from h2, Option.bind_some]
 have lo : ∀ b, (wd (offs b 0 G.length)).length = 2 * G.length := fun b => by rw [wd_len, offs_len]
 have lc : (wd (CW G)).length = 6 * G.length := by rw [wd_len, CW_len]; omega
 simp only [List.length_append, List.length_cons, List.length_nil, lo, lc]
 rw [if_pos (by omega), if_pos (by omega), if_pos (by omega), if_pos (by omega), if_pos (by omega)]
 generalize ho : offs (6 + 2 * n + (D.length : Int)) 0 G.length = O
 have hY : ([0, 3, 0, 0, 0, IntKind.u8.wrap n] ++ wd (offs (12 + 2 * n + (D.length : Int)) 0 G.length)).length = 6 + 2 * G.length := by simp only [List.length_append, List.length_cons, List.length_nil, lo]
 have h3 := mk_L3 hN (G := G) (Y := [0, 3, 0, 0, 0, IntKind.u8.wrap n] ++ wd (offs (12 + 2 * n + (D.length : Int)) 0 G.length)) (D := D) (A := [0, 3, 0, IntKind.u8.wrap n, 0, IntKind.u8.wrap m] ++ wd O) (B := wd (CW G)) (w := 12 + 2 * n + (D.length : Int)) (by omega) (by omega) (by omega) G.length 0 N [0, 3, 0, 0, 0, IntKind.u8.wrap n] ([0, 0, 0, IntKind.u8.wrap m] ++ D ++ wd (CW G)) (by omega) (by omega) (by simp)
 rw [hY] at h3
 generalize ho2 : offs ((6 + 2 * G.length + 4 + D.length : Nat) : Int) 0 G.length = O2 at h3
 have e3 : ∀ s : List Int, s ++ [0, 0, 0, IntKind.u8.wrap m] ++ D ++ wd (CW G) = s ++ ([0, 0, 0, IntKind.u8.wrap m] ++ D ++ wd (CW G)) := fun s => by simp
 rw [e3, show law11_ContextBoth_L3 N G _ D _ _ N 0 _ = _ from h3, Option.bind_some]
 have un : IntKind.u8.wrap n = n := by rw [u8p]; omega
 have um : IntKind.u8.wrap m = m := by rw [u8p]; omega
 have eA : [0, 3, 0, IntKind.u8.wrap n, 0, IntKind.u8.wrap m] ++ wd O ++ D ++ wd (CW G) = wd ([3, n, m] ++ O ++ DW n A ++ CW G) := by
  rw [wd_app, wd_app, wd_app, hD, un, um]
  simp only [wd]
  rw [show n / 256 % 256 = 0 by omega, show n % 256 = n by omega, show m / 256 % 256 = 0 by omega, show m % 256 = m by omega]
  rfl
 have eC : [0, 3, 0, 0, 0, IntKind.u8.wrap n] ++ wd O2 ++ ([0, 0, 0, IntKind.u8.wrap m] ++ D ++ wd (CW G)) = wd ([3, 0, n] ++ O2 ++ [0, m] ++ DW n A ++ CW G) := by
  rw [wd_app, wd_app, wd_app, wd_app, hD, un, um]
  simp only [wd]
  rw [show n / 256 % 256 = 0 by omega, show n % 256 = n by omega, show m / 256 % 256 = 0 by omega, show m % 256 = m by omega]
  simp
 rw [eA, eC]
 have lO : O.length = G.length := by rw [← ho, offs_len]
 have lO2 : O2.length = G.length := by rw [← ho2, offs_len]
 have wO : Wds O := by rw [← ho]; exact offs_wds (by omega) _ _ (by omega)
 have wO2 : Wds O2 := by rw [← ho2]; exact offs_wds (by omega) _ _ (by omega)
 have lA : (wd ([3, n, m] ++ O ++ DW n A ++ CW G)).length ≤ 1000 := by rw [wd_len]; simp only [List.length_append, List.length_cons, List.length_nil, DW_len, CW_len]; omega
 have lC : (wd ([3, 0, n] ++ O2 ++ [0, m] ++ DW n A ++ CW G)).length ≤ 1000 := by rw [wd_len]; simp only [List.length_append, List.length_cons, List.length_nil, DW_len, CW_len]; omega
 generalize hS : (G.map fun x => (⟨[⟨x, x⟩], false⟩ : TSet)) = S1
 generalize hT : (A.map fun a => (⟨a.tmod n, a⟩ : TAct)) = T1
 have tA : ∃ q, tableM N (wd ([3, n, m] ++ O ++ DW n A ++ CW G)) 0 false = some ([⟨[], S1, [], T1⟩], q) := by
  have c0 := num_wd (X := []) (Y := [n, m] ++ O ++ DW n A ++ CW G) (x := 3) (p := 0) (by omega) (by simp)
  have c1 := cntr_wd (X := [3]) (Y := [m] ++ O ++ DW n A ++ CW G) (x := n) (p := 0 + 2) (lo := 1) (hi := 16) (by omega) (by simp) (by omega)
  have c2 := cntr_wd (X := [3, n]) (Y := O ++ DW n A ++ CW G) (x := m) (p := 0 + 2 + 2) (lo := 0) (hi := 16) (by omega) (by simp) (by omega)
  have c3 := row_wd (X := [3, n, m]) (l := O) (Y := DW n A ++ CW G) (p := 0 + 2 + 2 + 2) (n := n) wO (by simp) (by omega)
  have c4 := covs_wd hN (b := 6 + 2 * n + (D.length : Int)) G ([3, n, m] ++ O ++ DW n A) 0 hG (by simp only [List.length_append, List.length_cons, List.length_nil, DW_len]; omega) (by simp only [List.length_append, List.length_cons, List.length_nil, DW_len, CW_len]; omega)
  have c5 := acts_wd (n := n) (by omega) A ([3, n, m] ++ O) (CW G) (0 + 2 + 2 + 2 + n * 2) hA (by simp only [List.length_append, List.length_cons, List.length_nil]; omega)
  rw [ho, hS] at c4
  rw [hT] at c5
  rw [show [] ++ 3 :: ([n, m] ++ O ++ DW n A ++ CW G) = [3, n, m] ++ O ++ DW n A ++ CW G by simp] at c0
  rw [show [3] ++ n :: ([m] ++ O ++ DW n A ++ CW G) = [3, n, m] ++ O ++ DW n A ++ CW G by simp] at c1
  rw [show [3, n] ++ m :: (O ++ DW n A ++ CW G) = [3, n, m] ++ O ++ DW n A ++ CW G by simp] at c2
  rw [show [3, n, m] ++ O ++ (DW n A ++ CW G) = [3, n, m] ++ O ++ DW n A ++ CW G by simp] at c3
  refine ⟨0 + 2 + 2 + 2 + n * 2 + 4 * (A.length : Int), ?_⟩
  unfold tableM
  rw [c0, Option.bind_some, if_neg (by decide), if_neg (by decide), if_pos rfl]
  unfold coveredM
  rw [if_neg (by decide), c1, Option.bind_some, c2, Option.bind_some, c3, Option.bind_some, c4, Option.bind_some, show m.toNat = A.length by omega, c5, Option.bind_some]
 have tC : ∃ q, tableM N (wd ([3, 0, n] ++ O2 ++ [0, m] ++ DW n A ++ CW G)) 0 true = some ([⟨[], S1, [], T1⟩], q) := by
  have c0 := num_wd (X := []) (Y := [0, n] ++ O2 ++ [0, m] ++ DW n A ++ CW G) (x := 3) (p := 0) (by omega) (by simp)
  have c1 := cntr_wd (X := [3]) (Y := [n] ++ O2 ++ [0, m] ++ DW n A ++ CW G) (x := 0) (p := 0 + 2) (lo := 0) (hi := 16) (by omega) (by simp) (by omega)
  have c2 := row_wd (X := [3, 0]) (l := []) (Y := [n] ++ O2 ++ [0, m] ++ DW n A ++ CW G) (p := 0 + 2 + 2) (n := 0) (fun x h => by cases h) (by simp) (by simp)
  have c3 := cntr_wd (X := [3, 0]) (Y := O2 ++ [0, m] ++ DW n A ++ CW G) (x := n) (p := 0 + 2 + 2 + 0 * 2) (lo := 1) (hi := 16) (by omega) (by simp) (by omega)
  have c4 := row_wd (X := [3, 0, n]) (l := O2) (Y := [0, m] ++ DW n A ++ CW G) (p := 0 + 2 + 2 + 0 * 2 + 2) (n := n) wO2 (by simp) (by omega)
  have c5 := covs_wd hN (b := ((6 + 2 * G.length + 4 + D.length : Nat) : Int)) G ([3, 0, n] ++ O2 ++ [0, m] ++ DW n A) 0 hG (by simp only [List.length_append, List.length_cons, List.length_nil, DW_len]; omega) (by simp only [List.length_append, List.length_cons, List.length_nil, DW_len, CW_len]; omega)
  have c6 := cntr_wd (X := [3, 0, n] ++ O2) (Y := [m] ++ DW n A ++ CW G) (x := 0) (p := 0 + 2 + 2 + 0 * 2 + 2 + n * 2) (lo := 0) (hi := 16) (by omega) (by simp only [List.length_append, List.length_cons, List.length_nil]; omega) (by omega)
  have c7 := row_wd (X := [3, 0, n] ++ O2 ++ [0]) (l := []) (Y := [m] ++ DW n A ++ CW G) (p := 0 + 2 + 2 + 0 * 2 + 2 + n * 2 + 2) (n := 0) (fun x h => by cases h) (by simp only [List.length_append, List.length_cons, List.length_nil]; omega) (by simp)
  have c8 := cntr_wd (X := [3, 0, n] ++ O2 ++ [0]) (Y := DW n A ++ CW G) (x := m) (p := 0 + 2 + 2 + 0 * 2 + 2 + n * 2 + 2 + 0 * 2) (lo := 0) (hi := 16) (by omega) (by simp only [List.length_append, List.length_cons, List.length_nil]; omega) (by omega)
  have c9 := acts_wd (n := n) (by omega) A ([3, 0, n] ++ O2 ++ [0, m]) (CW G) (0 + 2 + 2 + 0 * 2 + 2 + n * 2 + 2 + 0 * 2 + 2) hA (by simp only [List.length_append, List.length_cons, List.length_nil]; omega)
  rw [ho2, hS] at c5
  rw [hT] at c9
  rw [show [] ++ 3 :: ([0, n] ++ O2 ++ [0, m] ++ DW n A ++ CW G) = [3, 0, n] ++ O2 ++ [0, m] ++ DW n A ++ CW G by simp] at c0
  rw [show [3] ++ 0 :: ([n] ++ O2 ++ [0, m] ++ DW n A ++ CW G) = [3, 0, n] ++ O2 ++ [0, m] ++ DW n A ++ CW G by simp] at c1
  rw [show [3, 0] ++ [] ++ ([n] ++ O2 ++ [0, m] ++ DW n A ++ CW G) = [3, 0, n] ++ O2 ++ [0, m] ++ DW n A ++ CW G by simp] at c2
  rw [show [3, 0] ++ n :: (O2 ++ [0, m] ++ DW n A ++ CW G) = [3, 0, n] ++ O2 ++ [0, m] ++ DW n A ++ CW G by simp] at c3
  rw [show [3, 0, n] ++ O2 ++ ([0, m] ++ DW n A ++ CW G) = [3, 0, n] ++ O2 ++ [0, m] ++ DW n A ++ CW G by simp] at c4
  rw [show [3, 0, n] ++ O2 ++ 0 :: ([m] ++ DW n A ++ CW G) = [3, 0, n] ++ O2 ++ [0, m] ++ DW n A ++ CW G by simp] at c6
  rw [show [3, 0, n] ++ O2 ++ [0] ++ [] ++ ([m] ++ DW n A ++ CW G) = [3, 0, n] ++ O2 ++ [0, m] ++ DW n A ++ CW G by simp] at c7
  rw [show [3, 0, n] ++ O2 ++ [0] ++ m :: (DW n A ++ CW G) = [3, 0, n] ++ O2 ++ [0, m] ++ DW n A ++ CW G by simp] at c8
  refine ⟨0 + 2 + 2 + 0 * 2 + 2 + n * 2 + 2 + 0 * 2 + 2 + 4 * (A.length : Int), ?_⟩
  ·
   unfold tableM
   rw [c0, Option.bind_some, if_neg (by decide), if_neg (by decide), if_pos rfl]
   unfold coveredM
   rw [if_pos rfl, c1, Option.bind_some, c2, Option.bind_some]
   simp only [covs, Option.bind_some]
   rw [c3, Option.bind_some, c4, Option.bind_some, c5, Option.bind_some, c6, Option.bind_some, c7, Option.bind_some]
   simp only [covs, Option.bind_some]
   rw [c8, Option.bind_some, show m.toNat = A.length by omega, c9, Option.bind_some]
 obtain ⟨q1, tA⟩ := tA
 obtain ⟨q2, tC⟩ := tC
 unfold context_Context context_Chain
 rw [table_eq hN (wd_bytes _) (by omega) (by omega) (by omega), table_eq hN (wd_bytes _) (by omega) (by omega) (by omega), tA, tC]
 simp only [Option.bind_some]
 have ok := tableM_ok hN (wd_bytes _) (by omega) (by omega) (by omega) tA
 have lS : S1.length = G.length := by rw [← hS, List.length_map]
 rw [if_pos trivial, if_pos trivial, if_pos (by rfl), show atI [(⟨[], S1, [], T1⟩ : TCtx)] 0 = some ⟨[], S1, [], T1⟩ from rfl, Option.bind_some]
 simp only
 rw [if_pos (by omega), Same_refl hN ok.1 ok.2, Option.bind_some]
end Go.Proofs.Ytakplhfiohjcmaa.AI
