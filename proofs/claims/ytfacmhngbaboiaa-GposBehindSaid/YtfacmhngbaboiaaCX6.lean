/- Plain laws of layer 11: tables. -/
import Derived.Test.YtfacmhngbaboiaaCX5
set_option linter.unusedVariables false
set_option linter.unusedSimpArgs false
set_option maxRecDepth 100000
namespace Go.Proofs.Ytfacmhngbaboiaa.AI
def Xdc : List TSet → List TSpan
 | [] => []
 | c :: _ => c.Spans
def Xbs (N : Nat) (b : List Int) (p base : Int) (ch : Bool) : Option (List TCtx × Int) :=
 (row b p 1).bind fun l => (covs N b base l).bind fun r => (num b (p + 2)).bind fun n =>
 if n = cnt (Xdc r) then (row b (p + 2 + 2) n).bind fun l2 => (listM b (glR N b ch (glO (Xdc r))) base 0 l2 []).bind fun s => some (s, p + 2 + 2 + n * 2) else none
def Xak (N : Nat) (b : List Int) (p base : Int) (ch : Bool) : Option (List TCtx × Int) :=
 (row b p 1).bind fun l => (covs N b base l).bind fun r =>
 if ch = true then
  (num b (p + 2)).bind fun o1 => (QK N b base o1).bind fun c1 => (num b (p + 2 + 2)).bind fun o2 => (QK N b base o2).bind fun c2 => (num b (p + 2 + 2 + 2)).bind fun o3 => (QK N b base o3).bind fun c3 =>
  (num b (p + 2 + 2 + 2 + 2)).bind fun n => (row b (p + 2 + 2 + 2 + 2 + 2) n).bind fun l2 => (listM b (clR b true (Xdc r) c2 c1 c2 c3) base 0 l2 []).bind fun s => some (s, p + 2 + 2 + 2 + 2 + 2 + n * 2)
 else
  (num b (p + 2)).bind fun o2 => (QK N b base o2).bind fun c2 =>
  (num b (p + 2 + 2)).bind fun n => (row b (p + 2 + 2 + 2) n).bind fun l2 => (listM b (clR b false (Xdc r) c2 [] c2 []) base 0 l2 []).bind fun s => some (s, p + 2 + 2 + 2 + n * 2)
def Xaf (N : Nat) (b : List Int) (p base : Int) (ch : Bool) : Option (List TCtx × Int) :=
 if ch = true then
  (cntr b p 0 16).bind fun n1 => (row b (p + 2) n1).bind fun l1 => (covs N b base l1).bind fun s1 =>
  (cntr b (p + 2 + n1 * 2) 1 16).bind fun n2 => (row b (p + 2 + n1 * 2 + 2) n2).bind fun l2 => (covs N b base l2).bind fun s2 =>
  (cntr b (p + 2 + n1 * 2 + 2 + n2 * 2) 0 16).bind fun n3 => (row b (p + 2 + n1 * 2 + 2 + n2 * 2 + 2) n3).bind fun l3 => (covs N b base l3).bind fun s3 =>
  (cntr b (p + 2 + n1 * 2 + 2 + n2 * 2 + 2 + n3 * 2) 0 16).bind fun n4 =>
  (acts b n2 n4.toNat (p + 2 + n1 * 2 + 2 + n2 * 2 + 2 + n3 * 2 + 2)).bind fun a => some ([⟨s1, s2, s3, a.1⟩], a.2)
 else
  (cntr b p 1 16).bind fun n2 => (cntr b (p + 2) 0 16).bind fun n4 => (row b (p + 2 + 2) n2).bind fun l2 => (covs N b base l2).bind fun s2 =>
  (acts b n2 n4.toNat (p + 2 + 2 + n2 * 2)).bind fun a => some ([⟨[], s2, [], a.1⟩], a.2)
def Xd0 (N : Nat) (b : List Int) (p : Int) (ch : Bool) : Option (List TCtx × Int) :=
 (num b p).bind fun f => if f = 1 then Xbs N b (p + 2) p ch else if f = 2 then Xak N b (p + 2) p ch else if f = 3 then Xaf N b (p + 2) p ch else none
section
variable {N : Nat} (hN : 1000000000000 < N) {b : List Int} (hb : Bytes b) (hl : b.length ≤ 1000000)
include hN hb hl
theorem QI {base : Int} (h0 : -1000000 ≤ base) (h1 : base ≤ 1000000) : ∀ {l : List Int} {r : List TSet}, (∀ x ∈ l, 0 ≤ x ∧ x ≤ 65535) → covs N b base l = some r → ∀ x ∈ r, RL 0 x.Spans ∧ x.Spans.length ≤ 65536
 | [], r, _, h => by cases h; simp
 | o :: l, r, hx, h => by
  simp only [covs] at h
  obtain ⟨s, h2, h3⟩ := Option.bind_eq_some_iff.1 h
  obtain ⟨q, h4, h5⟩ := Option.bind_eq_some_iff.1 h3
  cases h5
  have ho := hx o (by simp)
  intro x hxm
  rcases List.mem_cons.1 hxm with rfl | hxm
  ·
   exact cov_rl hN hb hl (by omega) (by omega) h2
  ·
   exact QI h0 h1 (fun y hy => hx y (List.mem_cons_of_mem _ hy)) h4 x hxm
theorem Xlh {p base : Int} {ch : Bool} (h0 : -1000000 ≤ base) (h1 : base ≤ 1000000) (h2 : -2000000 ≤ p) (h3 : p ≤ 2000000) : ZI N b p base ch = some (S (Xbs N b p base ch)) := by
 unfold ZI Xbs
 try simp (disch := omega) only [w64]
 rw [Qt hN hb hl (by omega) (by omega), Option.bind_some]
 cases e1 : row b _ _ with
 | none => rfl
 | some l =>
  obtain ⟨_, ll, _, _, _, lx⟩ := XN hb e1
  simp only [S, Option.bind_some]
  try simp (disch := omega) only [w64]
  rw [Xbl hN hb hl (by omega) (by omega) lx (by omega), Option.bind_some]
  cases e2 : covs N b base l with
  | none => rfl
  | some r =>
   have rl := ZP e2
   have rx := QI hN hb hl h0 h1 lx e2
   simp only [S, Option.bind_some]
   try simp (disch := omega) only [w64]
   obtain ⟨c, rfl⟩ : ∃ c, r = [c] := by
    match r, rl with
    | [c], _ => exact ⟨c, rfl⟩
    | [], h => simp at h; omega
    | _ :: _ :: _, h => simp at h; omega
   obtain ⟨crl, cln⟩ := rx c (by simp)
   rw [show atI [c] 0 = some c from rfl, Option.bind_some]
   rw [number_eq hN hb hl (by omega), Option.bind_some]
   cases e3 : num b _ with
   | none => rfl
   | some n =>
    obtain ⟨_, na, nb, _⟩ := YJ hb e3
    simp only [S, Option.bind_some]
    try simp (disch := omega) only [w64]
    rw [Xc8 hN crl cln, Option.bind_some, Xa8, Option.bind_some]
    rw [show Xdc [c] = c.Spans from rfl]
    have cc := (JH crl 0).2.2.2
    by_cases hn : n = cnt c.Spans
    ·
     rw [if_pos (by simpa using hn), if_pos hn]
     simp only
     have h3 := single_L3 hN (a2 := base) (a1 := p) (y13 := n) (ch := ch) (x9 := c) (b := b) (by omega) crl cln c.Spans.length 0 N [] (by omega) (by omega) (by rw [List.drop_zero, hn]; simp)
     rw [List.drop_zero, List.nil_append] at h3
     rw [show Yi N base ch n c b p N 0 [] = _ from h3, Option.bind_some]
     rw [Qt hN hb hl (by omega) (by omega), Option.bind_some]
     cases e4 : row b _ _ with
     | none => rfl
     | some l2 =>
      obtain ⟨_, l2l, _, _, _, l2x⟩ := XN hb e4
      simp only [S, Option.bind_some]
      try simp (disch := omega) only [w64]
      rw [Xjy hN hb hl (by have := glO_len crl; omega) h0 h1 l2x (by omega), Option.bind_some]
      cases listM b (glR N b ch (glO c.Spans)) base 0 l2 [] with
      | none => rfl
      | some s => rfl
    ·
     rw [if_neg (by simpa using hn), if_neg hn]
theorem Xjq {p base : Int} {ch : Bool} (h0 : -1000000 ≤ base) (h1 : base ≤ 1000000) (h2 : -2000000 ≤ p) (h3 : p ≤ 2000000) : Zx N b p base ch = some (S (Xak N b p base ch)) := by
 unfold Zx Xak
 try simp (disch := omega) only [w64]
 rw [Qt hN hb hl (by omega) (by omega), Option.bind_some]
 cases e1 : row b _ _ with
 | none => rfl
 | some l =>
  obtain ⟨_, ll, _, _, _, lx⟩ := XN hb e1
  simp only [S, Option.bind_some]
  try simp (disch := omega) only [w64]
  rw [Xbl hN hb hl (by omega) (by omega) lx (by omega), Option.bind_some]
  cases e2 : covs N b base l with
  | none => rfl
  | some r =>
   have rl := ZP e2
   have rx := QI hN hb hl h0 h1 lx e2
   simp only [S, Option.bind_some]
   try simp (disch := omega) only [w64]
   obtain ⟨c, rfl⟩ : ∃ c, r = [c] := by
    match r, rl with
    | [c], _ => exact ⟨c, rfl⟩
    | [], h => simp at h; omega
    | _ :: _ :: _, h => simp at h; omega
   obtain ⟨crl, cln⟩ := rx c (by simp)
   rw [show atI [c] 0 = some c from rfl, Option.bind_some]
   rw [show Xdc [c] = c.Spans from rfl]
   by_cases hc : ch = true
   ·
    rw [if_pos hc, if_pos hc]
    rw [number_eq hN hb hl (by omega), Option.bind_some]
    cases e3 : num b _ with
    | none => rfl
    | some o1 =>
     obtain ⟨_, o1a, o1b, _⟩ := YJ hb e3
     simp only [S, Option.bind_some]
     try simp (disch := omega) only [w64]
     rw [Xbu hN hb hl (by omega) (by omega) (by omega) (by omega), Option.bind_some]
     cases e4 : QK N b base o1 with
     | none => rfl
     | some c1 =>
      have c1b := ZN hN hb hl (by omega) (by omega) (by omega) (by omega) e4
      simp only [S, Option.bind_some]
      try simp (disch := omega) only [w64]
      rw [number_eq hN hb hl (by omega), Option.bind_some]
      cases e5 : num b _ with
      | none => rfl
      | some o2 =>
       obtain ⟨_, o2a, o2b, _⟩ := YJ hb e5
       simp only [S, Option.bind_some]
       try simp (disch := omega) only [w64]
       rw [Xbu hN hb hl (by omega) (by omega) (by omega) (by omega), Option.bind_some]
       cases e6 : QK N b base o2 with
       | none => rfl
       | some c2 =>
        have c2b := ZN hN hb hl (by omega) (by omega) (by omega) (by omega) e6
        simp only [S, Option.bind_some]
        try simp (disch := omega) only [w64]
        rw [number_eq hN hb hl (by omega), Option.bind_some]
        cases e7 : num b _ with
        | none => rfl
        | some o3 =>
         obtain ⟨_, o3a, o3b, _⟩ := YJ hb e7
         simp only [S, Option.bind_some]
         try simp (disch := omega) only [w64]
         rw [Xbu hN hb hl (by omega) (by omega) (by omega) (by omega), Option.bind_some]
         cases e8 : QK N b base o3 with
         | none => rfl
         | some c3 =>
          have c3b := ZN hN hb hl (by omega) (by omega) (by omega) (by omega) e8
          simp only [S, Option.bind_some]
          try simp (disch := omega) only [w64]
          rw [number_eq hN hb hl (by omega), Option.bind_some]
          cases e9 : num b _ with
          | none => rfl
          | some n =>
           obtain ⟨_, na, nb, _⟩ := YJ hb e9
           simp only [S, Option.bind_some]
           try simp (disch := omega) only [w64]
           rw [Qt hN hb hl (by omega) (by omega), Option.bind_some]
           cases e10 : row b _ _ with
           | none => rfl
           | some l2 =>
            obtain ⟨_, l2l, _, _, _, l2x⟩ := XN hb e10
            simp only [S, Option.bind_some]
            try simp (disch := omega) only [w64]
            simp only [XM, Option.bind_some]
            rw [list_eq hN hb hl crl cln c2b c1b c2b c3b h0 h1 l2x (by omega), Option.bind_some]
            cases listM b (clR b true c.Spans c2 c1 c2 c3) base 0 l2 [] with
            | none => rfl
            | some s => rfl
   ·
    rw [if_neg hc, if_neg hc]
    rw [number_eq hN hb hl (by omega), Option.bind_some]
    cases e3 : num b _ with
    | none => rfl
    | some o2 =>
     obtain ⟨_, o2a, o2b, _⟩ := YJ hb e3
     simp only [S, Option.bind_some]
     try simp (disch := omega) only [w64]
     rw [Xbu hN hb hl (by omega) (by omega) (by omega) (by omega), Option.bind_some]
     cases e4 : QK N b base o2 with
     | none => rfl
     | some c2 =>
      have c2b := ZN hN hb hl (by omega) (by omega) (by omega) (by omega) e4
      simp only [S, Option.bind_some]
      try simp (disch := omega) only [w64]
      rw [number_eq hN hb hl (by omega), Option.bind_some]
      cases e9 : num b _ with
      | none => rfl
      | some n =>
       obtain ⟨_, na, nb, _⟩ := YJ hb e9
       simp only [S, Option.bind_some]
       try simp (disch := omega) only [w64]
       rw [Qt hN hb hl (by omega) (by omega), Option.bind_some]
       cases e10 : row b _ _ with
       | none => rfl
       | some l2 =>
        obtain ⟨_, l2l, _, _, _, l2x⟩ := XN hb e10
        simp only [S, Option.bind_some]
        try simp (disch := omega) only [w64]
        simp only [XM, Option.bind_some]
        rw [list_eq hN hb hl crl cln c2b CB.nil c2b CB.nil h0 h1 l2x (by omega), Option.bind_some]
        cases listM b (clR b false c.Spans c2 [] c2 []) base 0 l2 [] with
        | none => rfl
        | some s => rfl
theorem Xjp {p base : Int} {ch : Bool} (h0 : -1000000 ≤ base) (h1 : base ≤ 1000000) (h2 : -2000000 ≤ p) (h3 : p ≤ 2000000) : Zw N b p base ch = some (S (Xaf N b p base ch)) := by
 unfold Zw Xaf
 try simp (disch := omega) only [w64]
 by_cases hc : ch = true
 ·
  rw [if_pos hc, if_pos hc]
  rw [Zt hN hb hl (by omega), Option.bind_some]
  cases e1 : cntr b _ _ _ with
  | none => rfl
  | some n1 =>
   obtain ⟨n1a, n1b, _⟩ := XH hb e1
   simp only [S, Option.bind_some]
   try simp (disch := omega) only [w64]
   rw [Qt hN hb hl (by omega) (by omega), Option.bind_some]
   cases e2 : row b _ _ with
   | none => rfl
   | some l1 =>
    obtain ⟨_, l1l, _, _, _, l1x⟩ := XN hb e2
    simp only [S, Option.bind_some]
    try simp (disch := omega) only [w64]
    rw [Xbl hN hb hl (by omega) (by omega) l1x (by omega), Option.bind_some]
    cases e3 : covs N b base l1 with
    | none => rfl
    | some s1 =>
     have s1l := ZP e3
     have s1x := QI hN hb hl h0 h1 l1x e3
     simp only [S, Option.bind_some]
     try simp (disch := omega) only [w64]
     rw [Zt hN hb hl (by omega), Option.bind_some]
     cases e4 : cntr b _ _ _ with
     | none => rfl
     | some n2 =>
      obtain ⟨n2a, n2b, _⟩ := XH hb e4
      simp only [S, Option.bind_some]
      try simp (disch := omega) only [w64]
      rw [Qt hN hb hl (by omega) (by omega), Option.bind_some]
      cases e5 : row b _ _ with
      | none => rfl
      | some l2 =>
       obtain ⟨_, l2l, _, _, _, l2x⟩ := XN hb e5
       simp only [S, Option.bind_some]
       try simp (disch := omega) only [w64]
       rw [Xbl hN hb hl (by omega) (by omega) l2x (by omega), Option.bind_some]
       cases e6 : covs N b base l2 with
       | none => rfl
       | some s2 =>
        have s2l := ZP e6
        have s2x := QI hN hb hl h0 h1 l2x e6
        simp only [S, Option.bind_some]
        try simp (disch := omega) only [w64]
        rw [Zt hN hb hl (by omega), Option.bind_some]
        cases e7 : cntr b _ _ _ with
        | none => rfl
        | some n3 =>
         obtain ⟨n3a, n3b, _⟩ := XH hb e7
         simp only [S, Option.bind_some]
         try simp (disch := omega) only [w64]
         rw [Qt hN hb hl (by omega) (by omega), Option.bind_some]
         cases e8 : row b _ _ with
         | none => rfl
         | some l3 =>
          obtain ⟨_, l3l, _, _, _, l3x⟩ := XN hb e8
          simp only [S, Option.bind_some]
          try simp (disch := omega) only [w64]
          rw [Xbl hN hb hl (by omega) (by omega) l3x (by omega), Option.bind_some]
          cases e9 : covs N b base l3 with
          | none => rfl
          | some s3 =>
           have s3l := ZP e9
           have s3x := QI hN hb hl h0 h1 l3x e9
           simp only [S, Option.bind_some]
           try simp (disch := omega) only [w64]
           rw [Zt hN hb hl (by omega), Option.bind_some]
           cases e10 : cntr b _ _ _ with
           | none => rfl
           | some n4 =>
            obtain ⟨n4a, n4b, _⟩ := XH hb e10
            simp only [S, Option.bind_some]
            try simp (disch := omega) only [w64]
            rw [show ((s2.length : Nat) : Int) = n2 by omega]
            rw [Xba hN hb hl (by omega) (by omega) (by omega) (by omega), Option.bind_some]
            cases acts b _ _ _ with
            | none => rfl
            | some a => rfl
 ·
  rw [if_neg hc, if_neg hc]
  rw [Zt hN hb hl (by omega), Option.bind_some]
  cases e4 : cntr b _ _ _ with
  | none => rfl
  | some n2 =>
   obtain ⟨n2a, n2b, _⟩ := XH hb e4
   simp only [S, Option.bind_some]
   try simp (disch := omega) only [w64]
   rw [Zt hN hb hl (by omega), Option.bind_some]
   cases e10 : cntr b _ _ _ with
   | none => rfl
   | some n4 =>
    obtain ⟨n4a, n4b, _⟩ := XH hb e10
    simp only [S, Option.bind_some]
    try simp (disch := omega) only [w64]
    rw [Qt hN hb hl (by omega) (by omega), Option.bind_some]
    cases e5 : row b _ _ with
    | none => rfl
    | some l2 =>
     obtain ⟨_, l2l, _, _, _, l2x⟩ := XN hb e5
     simp only [S, Option.bind_some]
     try simp (disch := omega) only [w64]
     rw [Xbl hN hb hl (by omega) (by omega) l2x (by omega), Option.bind_some]
     cases e6 : covs N b base l2 with
     | none => rfl
     | some s2 =>
      have s2l := ZP e6
      have s2x := QI hN hb hl h0 h1 l2x e6
      simp only [S, Option.bind_some]
      try simp (disch := omega) only [w64]
      rw [Xba hN hb hl (by omega) (by omega) (by omega) (by omega), Option.bind_some]
      cases acts b _ _ _ with
      | none => rfl
      | some a => rfl
theorem Xfs {p : Int} {ch : Bool} (h0 : -1000000 ≤ p) (h1 : p ≤ 1000000) : Jd N b p ch = some (match Xd0 N b p ch with | some r => (r.1, true) | none => ([], false)) := by
 unfold Jd Xd0
 rw [number_eq hN hb hl (by omega), Option.bind_some]
 cases e1 : num b p with
 | none => rfl
 | some f =>
  simp only [S, Option.bind_some]
  rw [w64 (x := p + 2) (by omega) (by omega)]
  by_cases g1 : f = 1
  ·
   rw [if_pos g1, if_pos g1, Xlh hN hb hl h0 h1 (by omega) (by omega), Option.bind_some]
   cases Xbs N b (p + 2) p ch <;> rfl
  ·
   rw [if_neg g1, if_neg g1]
   by_cases g2 : f = 2
   ·
    rw [if_pos g2, if_pos g2, Xjq hN hb hl h0 h1 (by omega) (by omega), Option.bind_some]
    cases Xak N b (p + 2) p ch <;> rfl
   ·
    rw [if_neg g2, if_neg g2]
    by_cases g3 : f = 3
    ·
     rw [if_pos g3, if_pos g3, Xjp hN hb hl h0 h1 (by omega) (by omega), Option.bind_some]
     cases Xaf N b (p + 2) p ch <;> rfl
    ·
     rw [if_neg g3, if_neg g3]
end
end Go.Proofs.Ytfacmhngbaboiaa.AI
