/- Plain laws of layer 11: tables. -/
import Derived.Test.YtakplhfiohjcmaaCX5
set_option linter.unusedVariables false
set_option linter.unusedSimpArgs false
set_option maxRecDepth 100000
namespace Go.Proofs.Ytakplhfiohjcmaa.AI
def firstC : List TSet → List TSpan
 | [] => []
 | c :: _ => c.Spans
def singleM (N : Nat) (b : List Int) (p base : Int) (ch : Bool) : Option (List TCtx × Int) :=
 (row b p 1).bind fun l => (covs N b base l).bind fun r => (num b (p + 2)).bind fun n =>
 if n = cnt (firstC r) then (row b (p + 2 + 2) n).bind fun l2 => (listM b (glR N b ch (glO (firstC r))) base 0 l2 []).bind fun s => some (s, p + 2 + 2 + n * 2) else none
def classedM (N : Nat) (b : List Int) (p base : Int) (ch : Bool) : Option (List TCtx × Int) :=
 (row b p 1).bind fun l => (covs N b base l).bind fun r =>
 if ch = true then
  (num b (p + 2)).bind fun o1 => (classesM N b base o1).bind fun c1 => (num b (p + 2 + 2)).bind fun o2 => (classesM N b base o2).bind fun c2 => (num b (p + 2 + 2 + 2)).bind fun o3 => (classesM N b base o3).bind fun c3 =>
  (num b (p + 2 + 2 + 2 + 2)).bind fun n => (row b (p + 2 + 2 + 2 + 2 + 2) n).bind fun l2 => (listM b (clR b true (firstC r) c2 c1 c2 c3) base 0 l2 []).bind fun s => some (s, p + 2 + 2 + 2 + 2 + 2 + n * 2)
 else
  (num b (p + 2)).bind fun o2 => (classesM N b base o2).bind fun c2 =>
  (num b (p + 2 + 2)).bind fun n => (row b (p + 2 + 2 + 2) n).bind fun l2 => (listM b (clR b false (firstC r) c2 [] c2 []) base 0 l2 []).bind fun s => some (s, p + 2 + 2 + 2 + n * 2)
def coveredM (N : Nat) (b : List Int) (p base : Int) (ch : Bool) : Option (List TCtx × Int) :=
 if ch = true then
  (cntr b p 0 16).bind fun n1 => (row b (p + 2) n1).bind fun l1 => (covs N b base l1).bind fun s1 =>
  (cntr b (p + 2 + n1 * 2) 1 16).bind fun n2 => (row b (p + 2 + n1 * 2 + 2) n2).bind fun l2 => (covs N b base l2).bind fun s2 =>
  (cntr b (p + 2 + n1 * 2 + 2 + n2 * 2) 0 16).bind fun n3 => (row b (p + 2 + n1 * 2 + 2 + n2 * 2 + 2) n3).bind fun l3 => (covs N b base l3).bind fun s3 =>
  (cntr b (p + 2 + n1 * 2 + 2 + n2 * 2 + 2 + n3 * 2) 0 16).bind fun n4 =>
  (acts b n2 n4.toNat (p + 2 + n1 * 2 + 2 + n2 * 2 + 2 + n3 * 2 + 2)).bind fun a => some ([⟨s1, s2, s3, a.1⟩], a.2)
 else
  (cntr b p 1 16).bind fun n2 => (cntr b (p + 2) 0 16).bind fun n4 => (row b (p + 2 + 2) n2).bind fun l2 => (covs N b base l2).bind fun s2 =>
  (acts b n2 n4.toNat (p + 2 + 2 + n2 * 2)).bind fun a => some ([⟨[], s2, [], a.1⟩], a.2)
def tableM (N : Nat) (b : List Int) (p : Int) (ch : Bool) : Option (List TCtx × Int) :=
 (num b p).bind fun f => if f = 1 then singleM N b (p + 2) p ch else if f = 2 then classedM N b (p + 2) p ch else if f = 3 then coveredM N b (p + 2) p ch else none
section
variable {N : Nat} (hN : 1000000000000 < N) {b : List Int} (hb : Bytes b) (hl : b.length ≤ 1000000)
include hN hb hl
theorem covs_rl {base : Int} (h0 : -1000000 ≤ base) (h1 : base ≤ 1000000) : ∀ {l : List Int} {r : List TSet}, (∀ x ∈ l, 0 ≤ x ∧ x ≤ 65535) → covs N b base l = some r → ∀ x ∈ r, RL 0 x.Spans ∧ x.Spans.length ≤ 65536
 | [], r, _, h => by cases h; simp
 | o :: l, r, hx, h => by
  simp only [covs] at h
  obtain ⟨s, h2, h3⟩ := Option.bind_eq_some_iff.1 h
  obtain ⟨q, h4, h5⟩ := Option.bind_eq_some_iff.1 h3
  cases h5
  have ho := hx o (by simp)
  intro x hxm
  rcases List.mem_cons.1 hxm with rfl | hxm
  ·
   exact cov_rl hN hb hl (by omega) (by omega) h2
  ·
   exact covs_rl h0 h1 (fun y hy => hx y (List.mem_cons_of_mem _ hy)) h4 x hxm
theorem rsingle_eq {p base : Int} {ch : Bool} (h0 : -1000000 ≤ base) (h1 : base ≤ 1000000) (h2 : -2000000 ≤ p) (h3 : p ≤ 2000000) : context_reader_single N b p base ch = some (S (singleM N b p base ch)) := by
 unfold context_reader_single singleM
 try simp (disch := omega) only [w64]
 rw [rowr_eq hN hb hl (by omega) (by omega), Option.bind_some]
 cases e1 : row b _ _ with
 | none => rfl
 | some l =>
  obtain ⟨_, ll, _, _, _, lx⟩ := row_some hb e1
  simp only [S, Option.bind_some]
  try simp (disch := omega) only [w64]
  rw [covers_eq hN hb hl (by omega) (by omega) lx (by omega), Option.bind_some]
  cases e2 : covs N b base l with
  | none => rfl
  | some r =>
   have rl := covs_len e2
   have rx := covs_rl hN hb hl h0 h1 lx e2
   simp only [S, Option.bind_some]
   try simp (disch := omega) only [w64]
   obtain ⟨c, rfl⟩ : ∃ c, r = [c] := by
    match r, rl with
    | [c], _ => exact ⟨c, rfl⟩
    | [], h => simp at h; omega
    | _ :: _ :: _, h => simp at h; omega
   obtain ⟨crl, cln⟩ := rx c (by simp)
   rw [show atI [c] 0 = some c from rfl, Option.bind_some]
   rw [number_eq hN hb hl (by omega), Option.bind_some]
   cases e3 : num b _ with
   | none => rfl
   | some n =>
    obtain ⟨_, na, nb, _⟩ := num_some hb e3
    simp only [S, Option.bind_some]
    try simp (disch := omega) only [w64]
    rw [Count_eq hN crl cln, Option.bind_some, must_eq, Option.bind_some]
    rw [show firstC [c] = c.Spans from rfl]
    have cc := (cnt_parts crl 0).2.2.2
    by_cases hn : n = cnt c.Spans
    ·
     rw [if_pos (by simpa using hn), if_pos hn]
     simp only
     have h3 := single_L3 hN (a2 := base) (a1 := p) (y13 := n) (ch := ch) (x9 := c) (b := b) (by omega) crl cln c.Spans.length 0 N [] (by omega) (by omega) (by rw [List.drop_zero, hn]; simp)
     rw [List.drop_zero, List.nil_append] at h3
     rw [show context_reader_single_L3 N base ch n c b p N 0 [] = _ from h3, Option.bind_some]
     rw [rowr_eq hN hb hl (by omega) (by omega), Option.bind_some]
     cases e4 : row b _ _ with
     | none => rfl
     | some l2 =>
      obtain ⟨_, l2l, _, _, _, l2x⟩ := row_some hb e4
      simp only [S, Option.bind_some]
      try simp (disch := omega) only [w64]
      rw [list_row_eq hN hb hl (by have := glO_len crl; omega) h0 h1 l2x (by omega), Option.bind_some]
      cases listM b (glR N b ch (glO c.Spans)) base 0 l2 [] with
      | none => rfl
      | some s => rfl
    ·
     rw [if_neg (by simpa using hn), if_neg hn]
theorem rclassed_eq {p base : Int} {ch : Bool} (h0 : -1000000 ≤ base) (h1 : base ≤ 1000000) (h2 : -2000000 ≤ p) (h3 : p ≤ 2000000) : context_reader_classed N b p base ch = some (S (classedM N b p base ch)) := by
 unfold context_reader_classed classedM
 try simp (disch := omega) only [w64]
 rw [rowr_eq hN hb hl (by omega) (by omega), Option.bind_some]
 cases e1 : row b _ _ with
 | none => rfl
 | some l =>
  obtain ⟨_, ll, _, _, _, lx⟩ := row_some hb e1
  simp only [S, Option.bind_some]
  try simp (disch := omega) only [w64]
  rw [covers_eq hN hb hl (by omega) (by omega) lx (by omega), Option.bind_some]
  cases e2 : covs N b base l with
  | none => rfl
  | some r =>
   have rl := covs_len e2
   have rx := covs_rl hN hb hl h0 h1 lx e2
   simp only [S, Option.bind_some]
   try simp (disch := omega) only [w64]
   obtain ⟨c, rfl⟩ : ∃ c, r = [c] := by
    match r, rl with
    | [c], _ => exact ⟨c, rfl⟩
    | [], h => simp at h; omega
    | _ :: _ :: _, h => simp at h; omega
   obtain ⟨crl, cln⟩ := rx c (by simp)
   rw [show atI [c] 0 = some c from rfl, Option.bind_some]
   rw [show firstC [c] = c.Spans from rfl]
   by_cases hc : ch = true
   ·
    rw [if_pos hc, if_pos hc]
    rw [number_eq hN hb hl (by omega), Option.bind_some]
    cases e3 : num b _ with
    | none => rfl
    | some o1 =>
     obtain ⟨_, o1a, o1b, _⟩ := num_some hb e3
     simp only [S, Option.bind_some]
     try simp (disch := omega) only [w64]
     rw [rclasses_eq hN hb hl (by omega) (by omega) (by omega) (by omega), Option.bind_some]
     cases e4 : classesM N b base o1 with
     | none => rfl
     | some c1 =>
      have c1b := classesM_cb hN hb hl (by omega) (by omega) (by omega) (by omega) e4
      simp only [S, Option.bind_some]
      try simp (disch := omega) only [w64]
      rw [number_eq hN hb hl (by omega), Option.bind_some]
      cases e5 : num b _ with
      | none => rfl
      | some o2 =>
       obtain ⟨_, o2a, o2b, _⟩ := num_some hb e5
       simp only [S, Option.bind_some]
       try simp (disch := omega) only [w64]
       rw [rclasses_eq hN hb hl (by omega) (by omega) (by omega) (by omega), Option.bind_some]
       cases e6 : classesM N b base o2 with
       | none => rfl
       | some c2 =>
        have c2b := classesM_cb hN hb hl (by omega) (by omega) (by omega) (by omega) e6
        simp only [S, Option.bind_some]
        try simp (disch := omega) only [w64]
        rw [number_eq hN hb hl (by omega), Option.bind_some]
        cases e7 : num b _ with
        | none => rfl
        | some o3 =>
         obtain ⟨_, o3a, o3b, _⟩ := num_some hb e7
         simp only [S, Option.bind_some]
         try simp (disch := omega) only [w64]
         rw [rclasses_eq hN hb hl (by omega) (by omega) (by omega) (by omega), Option.bind_some]
         cases e8 : classesM N b base o3 with
         | none => rfl
         | some c3 =>
          have c3b := classesM_cb hN hb hl (by omega) (by omega) (by omega) (by omega) e8
          simp only [S, Option.bind_some]
          try simp (disch := omega) only [w64]
          rw [number_eq hN hb hl (by omega), Option.bind_some]
          cases e9 : num b _ with
          | none => rfl
          | some n =>
           obtain ⟨_, na, nb, _⟩ := num_some hb e9
           simp only [S, Option.bind_some]
           try simp (disch := omega) only [w64]
           rw [rowr_eq hN hb hl (by omega) (by omega), Option.bind_some]
           cases e10 : row b _ _ with
           | none => rfl
           | some l2 =>
            obtain ⟨_, l2l, _, _, _, l2x⟩ := row_some hb e10
            simp only [S, Option.bind_some]
            try simp (disch := omega) only [w64]
            simp only [context_reader_classed_1, Option.bind_some]
            rw [list_eq hN hb hl crl cln c2b c1b c2b c3b h0 h1 l2x (by omega), Option.bind_some]
            cases listM b (clR b true c.Spans c2 c1 c2 c3) base 0 l2 [] with
            | none => rfl
            | some s => rfl
   ·
    rw [if_neg hc, if_neg hc]
    rw [number_eq hN hb hl (by omega), Option.bind_some]
    cases e3 : num b _ with
    | none => rfl
    | some o2 =>
     obtain ⟨_, o2a, o2b, _⟩ := num_some hb e3
     simp only [S, Option.bind_some]
     try simp (disch := omega) only [w64]
     rw [rclasses_eq hN hb hl (by omega) (by omega) (by omega) (by omega), Option.bind_some]
     cases e4 : classesM N b base o2 with
     | none => rfl
     | some c2 =>
      have c2b := classesM_cb hN hb hl (by omega) (by omega) (by omega) (by omega) e4
      simp only [S, Option.bind_some]
      try simp (disch := omega) only [w64]
      rw [number_eq hN hb hl (by omega), Option.bind_some]
      cases e9 : num b _ with
      | none => rfl
      | some n =>
       obtain ⟨_, na, nb, _⟩ := num_some hb e9
       simp only [S, Option.bind_some]
       try simp (disch := omega) only [w64]
       rw [rowr_eq hN hb hl (by omega) (by omega), Option.bind_some]
       cases e10 : row b _ _ with
       | none => rfl
       | some l2 =>
        obtain ⟨_, l2l, _, _, _, l2x⟩ := row_some hb e10
        simp only [S, Option.bind_some]
        try simp (disch := omega) only [w64]
        simp only [context_reader_classed_1, Option.bind_some]
        rw [list_eq hN hb hl crl cln c2b CB.nil c2b CB.nil h0 h1 l2x (by omega), Option.bind_some]
        cases listM b (clR b false c.Spans c2 [] c2 []) base 0 l2 [] with
        | none => rfl
        | some s => rfl
theorem rcovered_eq {p base : Int} {ch : Bool} (h0 : -1000000 ≤ base) (h1 : base ≤ 1000000) (h2 : -2000000 ≤ p) (h3 : p ≤ 2000000) : context_reader_covered N b p base ch = some (S (coveredM N b p base ch)) := by
 unfold context_reader_covered coveredM
 try simp (disch := omega) only [w64]
 by_cases hc : ch = true
 ·
  rw [if_pos hc, if_pos hc]
  rw [count_eq hN hb hl (by omega), Option.bind_some]
  cases e1 : cntr b _ _ _ with
  | none => rfl
  | some n1 =>
   obtain ⟨n1a, n1b, _⟩ := cntr_some hb e1
   simp only [S, Option.bind_some]
   try simp (disch := omega) only [w64]
   rw [rowr_eq hN hb hl (by omega) (by omega), Option.bind_some]
   cases e2 : row b _ _ with
   | none => rfl
   | some l1 =>
    obtain ⟨_, l1l, _, _, _, l1x⟩ := row_some hb e2
    simp only [S, Option.bind_some]
    try simp (disch := omega) only [w64]
    rw [covers_eq hN hb hl (by omega) (by omega) l1x (by omega), Option.bind_some]
    cases e3 : covs N b base l1 with
    | none => rfl
    | some s1 =>
     have s1l := covs_len e3
     have s1x := covs_rl hN hb hl h0 h1 l1x e3
     simp only [S, Option.bind_some]
     try simp (disch := omega) only [w64]
     rw [count_eq hN hb hl (by omega), Option.bind_some]
     cases e4 : cntr b _ _ _ with
     | none => rfl
     | some n2 =>
      obtain ⟨n2a, n2b, _⟩ := cntr_some hb e4
      simp only [S, Option.bind_some]
      try simp (disch := omega) only [w64]
      rw [rowr_eq hN hb hl (by omega) (by omega), Option.bind_some]
      cases e5 : row b _ _ with
      | none => rfl
      | some l2 =>
       obtain ⟨_, l2l, _, _, _, l2x⟩ := row_some hb e5
       simp only [S, Option.bind_some]
       try simp (disch := omega) only [w64]
       rw [covers_eq hN hb hl (by omega) (by omega) l2x (by omega), Option.bind_some]
       cases e6 : covs N b base l2 with
       | none => rfl
       | some s2 =>
        have s2l := covs_len e6
        have s2x := covs_rl hN hb hl h0 h1 l2x e6
        simp only [S, Option.bind_some]
        try simp (disch := omega) only [w64]
        rw [count_eq hN hb hl (by omega), Option.bind_some]
        cases e7 : cntr b _ _ _ with
        | none => rfl
        | some n3 =>
         obtain ⟨n3a, n3b, _⟩ := cntr_some hb e7
         simp only [S, Option.bind_some]
         try simp (disch := omega) only [w64]
         rw [rowr_eq hN hb hl (by omega) (by omega), Option.bind_some]
         cases e8 : row b _ _ with
         | none => rfl
         | some l3 =>
          obtain ⟨_, l3l, _, _, _, l3x⟩ := row_some hb e8
          simp only [S, Option.bind_some]
          try simp (disch := omega) only [w64]
          rw [covers_eq hN hb hl (by omega) (by omega) l3x (by omega), Option.bind_some]
          cases e9 : covs N b base l3 with
          | none => rfl
          | some s3 =>
           have s3l := covs_len e9
           have s3x := covs_rl hN hb hl h0 h1 l3x e9
           simp only [S, Option.bind_some]
           try simp (disch := omega) only [w64]
           rw [count_eq hN hb hl (by omega), Option.bind_some]
           cases e10 : cntr b _ _ _ with
           | none => rfl
           | some n4 =>
            obtain ⟨n4a, n4b, _⟩ := cntr_some hb e10
            simp only [S, Option.bind_some]
            try simp (disch := omega) only [w64]
            rw [show ((s2.length : Nat) : Int) = n2 by omega]
            rw [acts_eq hN hb hl (by omega) (by omega) (by omega) (by omega), Option.bind_some]
            cases acts b _ _ _ with
            | none => rfl
            | some a => rfl
 ·
  rw [if_neg hc, if_neg hc]
  rw [count_eq hN hb hl (by omega), Option.bind_some]
  cases e4 : cntr b _ _ _ with
  | none => rfl
  | some n2 =>
   obtain ⟨n2a, n2b, _⟩ := cntr_some hb e4
   simp only [S, Option.bind_some]
   try simp (disch := omega) only [w64]
   rw [count_eq hN hb hl (by omega), Option.bind_some]
   cases e10 : cntr b _ _ _ with
   | none => rfl
   | some n4 =>
    obtain ⟨n4a, n4b, _⟩ := cntr_some hb e10
    simp only [S, Option.bind_some]
    try simp (disch := omega) only [w64]
    rw [rowr_eq hN hb hl (by omega) (by omega), Option.bind_some]
    cases e5 : row b _ _ with
    | none => rfl
    | some l2 =>
     obtain ⟨_, l2l, _, _, _, l2x⟩ := row_some hb e5
     simp only [S, Option.bind_some]
     try simp (disch := omega) only [w64]
     rw [covers_eq hN hb hl (by omega) (by omega) l2x (by omega), Option.bind_some]
     cases e6 : covs N b base l2 with
     | none => rfl
     | some s2 =>
      have s2l := covs_len e6
      have s2x := covs_rl hN hb hl h0 h1 l2x e6
      simp only [S, Option.bind_some]
      try simp (disch := omega) only [w64]
      rw [acts_eq hN hb hl (by omega) (by omega) (by omega) (by omega), Option.bind_some]
      cases acts b _ _ _ with
      | none => rfl
      | some a => rfl
theorem table_eq {p : Int} {ch : Bool} (h0 : -1000000 ≤ p) (h1 : p ≤ 1000000) : context_table N b p ch = some (match tableM N b p ch with | some r => (r.1, true) | none => ([], false)) := by
 unfold context_table tableM
 rw [number_eq hN hb hl (by omega), Option.bind_some]
 cases e1 : num b p with
 | none => rfl
 | some f =>
  simp only [S, Option.bind_some]
  rw [w64 (x := p + 2) (by omega) (by omega)]
  by_cases g1 : f = 1
  ·
   rw [if_pos g1, if_pos g1, rsingle_eq hN hb hl h0 h1 (by omega) (by omega), Option.bind_some]
   cases singleM N b (p + 2) p ch <;> rfl
  ·
   rw [if_neg g1, if_neg g1]
   by_cases g2 : f = 2
   ·
    rw [if_pos g2, if_pos g2, rclassed_eq hN hb hl h0 h1 (by omega) (by omega), Option.bind_some]
    cases classedM N b (p + 2) p ch <;> rfl
   ·
    rw [if_neg g2, if_neg g2]
    by_cases g3 : f = 3
    ·
     rw [if_pos g3, if_pos g3, rcovered_eq hN hb hl h0 h1 (by omega) (by omega), Option.bind_some]
     cases coveredM N b (p + 2) p ch <;> rfl
    ·
     rw [if_neg g3, if_neg g3]
end
end Go.Proofs.Ytakplhfiohjcmaa.AI
