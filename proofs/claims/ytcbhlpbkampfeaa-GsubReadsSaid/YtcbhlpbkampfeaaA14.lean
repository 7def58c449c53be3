import Derived.Test.YtcbhlpbkampfeaaA13
/- Part of a proof. -/
set_option linter.unusedVariables false
namespace Go.Proofs.Ytcbhlpbkampfeaa.AI

section
variable {P : Program} {n0 : Nat} {Q : AExit → ATm → List AObj → Prop} {k : List AItem} {ta : ATm} {H : List AObj}

def CallK (P : Program) (n0 : Nat) (Q : AExit → ATm → List AObj → Prop) (d : Option Nat) (os : List IOp) (k : List AItem) (ta : ATm) : AEnd → List AObj → Prop := fun e H' => match e with
 | .ret v => ∃ ta1 H1, Ref n0 (putD ta d v) H' ta1 H1 ∧ n0 ≤ H1.length ∧ M P n0 Q (.ops os :: k) ta1 H1
 | .pan v => Q (.pan v) ta H'
def opK (P : Program) (n0 : Nat) (Q : AExit → ATm → List AObj → Prop) (d : Option Nat) (os : List IOp) (k : List AItem) (ta : ATm) (H : List AObj) : R1 → Prop
 | .ok v H' => M P n0 Q (.ops os :: k) (putD ta d v) H'
 | .call f args => Xa P f args H (CallK P n0 Q d os k ta)
 | .pan v => Q (.pan v) ta H
 | .bad => False
def grdK (P : Program) (n0 : Nat) (Q : AExit → ATm → List AObj → Prop) (d : Option Nat) (op : AOp) (os : List IOp) (k : List AItem) (ta : ATm) (H : List AObj) (t : Nat) (want : Bool) : AV → Prop
 | .bool b => (b = want → opK P n0 Q d os k (ta.put t (.bool want)) H (evO (ta.put t (.bool want)) H op)) ∧ (b = !want → M P n0 Q (.ops os :: k) (putD (ta.put t (.bool !want)) d (.tup [])) H)
 | .tup [] => M P n0 Q (.ops os :: k) (putD ta d (.tup [])) H
 | _ => False
def cndK (P : Program) (n0 : Nat) (Q : AExit → ATm → List AObj → Prop) (a b : ACode) (k : List AItem) (ta : ATm) (H : List AObj) : AV → Prop
 | .bool x => (x = true → M P n0 Q (.code a :: k) ta H) ∧ (x = false → M P n0 Q (.code b :: k) ta H)
 | .anyb => M P n0 Q (.code a :: k) ta H ∧ M P n0 Q (.code b :: k) ta H
 | _ => False
def exitK (P : Program) (n0 : Nat) (Q : AExit → ATm → List AObj → Prop) (id : Nat) (ta : ATm) (H : List AObj) : Option (List AItem) → Prop
 | some k' => M P n0 Q k' ta H
 | none => Q (.exit id) ta H
def LoopK (P : Program) (n0 : Nat) (Q : AExit → ATm → List AObj → Prop) (k : List AItem) : AExit → ATm → List AObj → Prop := fun e ta' H' => match e with
 | .normal => False
 | .exit id => match unw id k with
  | some k' => ∃ ta1 H1, Ref n0 ta' H' ta1 H1 ∧ n0 ≤ H1.length ∧ M P n0 Q k' ta1 H1
  | none => Q (.exit id) ta' H'
 | .goto _ => False
 | .ret => Q .ret ta' H'
 | .pan v => Q (.pan v) ta' H'
def Xpo (P : Program) (n0 : Nat) (Q : ATm → List AObj → Prop) (Qp : AV → List AObj → Prop) (d : Option Nat) (bef : List Nat) (ys : List DOp) (rd : List Rd) (ta : ATm) : AEnd → List AObj → Prop := fun e H' => match e with
 | .ret v => n0 ≤ H'.length ∧ Chk bef H' rd ∧ DM P n0 Q Qp ys (putD ta d v) H' rd
 | .pan v => Qp v H'
def dK (P : Program) (n0 : Nat) (Q : ATm → List AObj → Prop) (Qp : AV → List AObj → Prop) (d : Option Nat) (op : AOp) (ix : Nat) (bef : List Nat) (ys : List DOp) (rd : List Rd) (ta : ATm) (H : List AObj) : Bool → Bool → R1 → Prop
 | true, _, .ok v H' => Chk bef H' rd ∧ DM P n0 Q Qp ys (putD ta d v) H' rd
 | true, _, .call f args => Xa P f args H (Xpo P n0 Q Qp d bef ys rd ta)
 | true, _, .pan v => Qp v H
 | true, _, .bad => False
 | false, true, .ok v H' => DM P n0 Q Qp ys (putD ta d v) H' (⟨ix, ta, op, v⟩ :: rd)
 | false, false, .ok v H' => DM P n0 Q Qp ys (putD ta d v) H' rd
 | false, _, _ => False
def dgK (P : Program) (n0 : Nat) (Q : ATm → List AObj → Prop) (Qp : AV → List AObj → Prop) (d : Option Nat) (op : AOp) (ix : Nat) (bef : List Nat) (ys : List DOp) (rd : List Rd) (ta : ATm) (H : List AObj) (t : Nat) (want r : Bool) : AV → Prop
 | .bool b => (b = want → dK P n0 Q Qp d op ix bef ys rd (ta.put t (.bool want)) H (isE op) r (evO (ta.put t (.bool want)) H op)) ∧ (b = !want → DM P n0 Q Qp ys (putD (ta.put t (.bool !want)) d (.tup [])) H rd)
 | .tup [] => DM P n0 Q Qp ys (putD ta d (.tup [])) H rd
 | _ => False

theorem M_nil : M P n0 Q [] ta H = Q .normal ta H := by rw [M]
theorem M_blk {i : Nat} : M P n0 Q (.blk i :: k) ta H = M P n0 Q k ta H := by rw [M]
theorem M_scp : M P n0 Q (.scp :: k) ta H = M P n0 Q k ta H := by rw [M]
theorem Xms : M P n0 Q (.ops [] :: k) ta H = M P n0 Q k ta H := by rw [M]
theorem M_skip : M P n0 Q (.code .skip :: k) ta H = M P n0 Q k ta H := by rw [M]
theorem M_label {l : Nat} : M P n0 Q (.code (.label l) :: k) ta H = M P n0 Q k ta H := by rw [M]
theorem M_seq {a b : ACode} : M P n0 Q (.code (.seq a b) :: k) ta H = M P n0 Q (.code a :: .code b :: k) ta H := by rw [M]
theorem M_reg {os : List IOp} : M P n0 Q (.code (.reg os) :: k) ta H = M P n0 Q (.ops os :: k) ta H := by rw [M]
theorem M_block {i : Nat} {a : ACode} : M P n0 Q (.code (.block i a) :: k) ta H = M P n0 Q (.code a :: .blk i :: k) ta H := by rw [M]
theorem M_scope {a : ACode} : M P n0 Q (.code (.scope a) :: k) ta H = M P n0 Q (.code a :: .scp :: k) ta H := by rw [M]
theorem M_ret : M P n0 Q (.code .ret :: k) ta H = Q .ret ta H := by rw [M]
theorem M_exit {i : Nat} : M P n0 Q (.code (.exit i) :: k) ta H = exitK P n0 Q i ta H (unw i k) := by
 rw [M]
 unfold exitK
 split <;> rename_i h <;> simp only [h]
theorem M_cond {c : AX} {a b : ACode} : M P n0 Q (.code (.cond c a b) :: k) ta H = cndK P n0 Q a b k ta H (c.ev ta) := by
 rw [M]
 unfold cndK
 split <;> rename_i h <;> simp only [h]
theorem M_loop {a : ACode} : M P n0 Q (.code (.loop a) :: k) ta H = ALp P n0 a ta H (LoopK P n0 Q k) := by
 rw [M]
 congr 1
 funext e ta' H'
 unfold LoopK
 cases e <;> try rfl
 simp only
 split <;> rename_i h <;> simp only [h]
def contK (P : Program) (n0 : Nat) (Q : AExit → ATm → List AObj → Prop) (k : List AItem) : ATm → List AObj → Prop := fun ta' H' => n0 ≤ H'.length ∧ M P n0 Q k ta' H'
def panK (Q : AExit → ATm → List AObj → Prop) (n : Nat) (ds : List (Fn × List AV × List AV)) : AV → List AObj → Prop := fun v H' => Q (.pan v) ⟨n, [], ds⟩ H'
theorem contK_ap : contK P n0 Q k ta H = (n0 ≤ H.length ∧ M P n0 Q k ta H) := rfl
theorem Xq {n : Nat} {ds : List (Fn × List AV × List AV)} {v : AV} : panK Q n ds v H = Q (.pan v) ⟨n, [], ds⟩ H := rfl
theorem M_draw {n : Nat} {l : List (Nat × AV)} {ds : List (Fn × List AV × List AV)} {os : List DOp} : M P n0 Q (.code (.regd os) :: k) ⟨n, l, ds⟩ H = DM P n0 (contK P n0 Q k) (panK Q n ds) os ⟨n, l, ds⟩ H [] := by rw [M]; rfl
theorem M_drawN {n : Nat} {l : List (Nat × AV)} {ds : List (Fn × List AV × List AV)} {os : List DOp} : M P n0 Q (.code (.regdn os) :: k) ⟨n, l, ds⟩ H = (okNs n os ∧ DM P n0 (contK P n0 Q k) (panK Q n ds) os ⟨n, l, ds⟩ H []) := by rw [M]; rfl
theorem M_draw2 {n : Nat} {l : List (Nat × AV)} {ds : List (Fn × List AV × List AV)} {os os' : List DOp} : M P n0 Q (.code (.regd2 os os') :: k) ⟨n, l, ds⟩ H = (DM P n0 (contK P n0 Q k) (panK Q n ds) os ⟨n, l, ds⟩ H [] ∧ DM P n0 (contK P n0 Q k) (panK Q n ds) os' ⟨n, l, ds⟩ H []) := by rw [M]; rfl
theorem DM_nil {Q : ATm → List AObj → Prop} {Qp : AV → List AObj → Prop} {rd : List Rd} : DM P n0 Q Qp [] ta H rd = Q ta H := rfl
theorem DM_op {Q : ATm → List AObj → Prop} {Qp : AV → List AObj → Prop} {rd : List Rd} {d : Option Nat} {op : AOp} {ix : Nat} {bef : List Nat} {ys : List DOp} {r : Bool} :
  DM P n0 Q Qp (⟨⟨d, op, none⟩, ix, bef, r⟩ :: ys) ta H rd = (okD ta d ∧ dK P n0 Q Qp d op ix bef ys rd ta H (isE op) r (evO ta H op)) := by
 simp only [DM, DStep, DGo, rcd]
 refine congrArg _ ?_
 generalize evO ta H op = x
 cases isE op <;> cases r <;> cases x <;> rfl
theorem DM_opg {Q : ATm → List AObj → Prop} {Qp : AV → List AObj → Prop} {rd : List Rd} {d : Option Nat} {op : AOp} {ix : Nat} {bef : List Nat} {ys : List DOp} {t : Nat} {want r : Bool} :
  DM P n0 Q Qp (⟨⟨d, op, some (t, want)⟩, ix, bef, r⟩ :: ys) ta H rd = (okD ta d ∧ dgK P n0 Q Qp d op ix bef ys rd ta H t want r (ta.get t)) := by
 simp only [DM, DStep, DGo, rcd]
 refine congrArg _ ?_
 generalize ta.get t = x
 cases x with
 | bool b => ?_
 | tup l => cases l <;> rfl
 | _ => rfl
 simp only [dgK]
 refine congrArg (· ∧ _) ?_
 refine forall_congr fun _ => ?_
 generalize evO _ H op = x
 cases isE op <;> cases r <;> cases x <;> rfl
theorem dK_ok {Q : ATm → List AObj → Prop} {Qp : AV → List AObj → Prop} {rd : List Rd} {d : Option Nat} {op : AOp} {ix : Nat} {bef : List Nat} {ys : List DOp} {r : Bool} {v : AV} {H' : List AObj} :
  dK P n0 Q Qp d op ix bef ys rd ta H true r (.ok v H') = (Chk bef H' rd ∧ DM P n0 Q Qp ys (putD ta d v) H' rd) := rfl
theorem dK_call {Q : ATm → List AObj → Prop} {Qp : AV → List AObj → Prop} {rd : List Rd} {d : Option Nat} {op : AOp} {ix : Nat} {bef : List Nat} {ys : List DOp} {r : Bool} {f : FuncId} {args : List AV} :
  dK P n0 Q Qp d op ix bef ys rd ta H true r (.call f args) = Xa P f args H (Xpo P n0 Q Qp d bef ys rd ta) := rfl
theorem dK_pan {Q : ATm → List AObj → Prop} {Qp : AV → List AObj → Prop} {rd : List Rd} {d : Option Nat} {op : AOp} {ix : Nat} {bef : List Nat} {ys : List DOp} {r : Bool} {v : AV} :
  dK P n0 Q Qp d op ix bef ys rd ta H true r (.pan v) = Qp v H := rfl
theorem dK_read {Q : ATm → List AObj → Prop} {Qp : AV → List AObj → Prop} {rd : List Rd} {d : Option Nat} {op : AOp} {ix : Nat} {bef : List Nat} {ys : List DOp} {v : AV} {H' : List AObj} :
  dK P n0 Q Qp d op ix bef ys rd ta H false true (.ok v H') = DM P n0 Q Qp ys (putD ta d v) H' (⟨ix, ta, op, v⟩ :: rd) := rfl
theorem dK_free {Q : ATm → List AObj → Prop} {Qp : AV → List AObj → Prop} {rd : List Rd} {d : Option Nat} {op : AOp} {ix : Nat} {bef : List Nat} {ys : List DOp} {v : AV} {H' : List AObj} :
  dK P n0 Q Qp d op ix bef ys rd ta H false false (.ok v H') = DM P n0 Q Qp ys (putD ta d v) H' rd := rfl
theorem Xqm {Q : ATm → List AObj → Prop} {Qp : AV → List AObj → Prop} {rd : List Rd} {d : Option Nat} {bef : List Nat} {ys : List DOp} {v : AV} :
  Xpo P n0 Q Qp d bef ys rd ta (.ret v) H = (n0 ≤ H.length ∧ Chk bef H rd ∧ DM P n0 Q Qp ys (putD ta d v) H rd) := rfl
theorem Xg {Q : ATm → List AObj → Prop} {Qp : AV → List AObj → Prop} {rd : List Rd} {d : Option Nat} {bef : List Nat} {ys : List DOp} {v : AV} :
  Xpo P n0 Q Qp d bef ys rd ta (.pan v) H = Qp v H := rfl
theorem Xk3 {Q : ATm → List AObj → Prop} {Qp : AV → List AObj → Prop} {rd : List Rd} {d : Option Nat} {op : AOp} {ix : Nat} {bef : List Nat} {ys : List DOp} {t : Nat} {want b r : Bool} :
  dgK P n0 Q Qp d op ix bef ys rd ta H t want r (.bool b) = ((b = want → dK P n0 Q Qp d op ix bef ys rd (ta.put t (.bool want)) H (isE op) r (evO (ta.put t (.bool want)) H op)) ∧ (b = !want → DM P n0 Q Qp ys (putD (ta.put t (.bool !want)) d (.tup [])) H rd)) := rfl
theorem dgK_un {Q : ATm → List AObj → Prop} {Qp : AV → List AObj → Prop} {rd : List Rd} {d : Option Nat} {op : AOp} {ix : Nat} {bef : List Nat} {ys : List DOp} {t : Nat} {want r : Bool} :
  dgK P n0 Q Qp d op ix bef ys rd ta H t want r (.tup []) = DM P n0 Q Qp ys (putD ta d (.tup [])) H rd := rfl
theorem dgK_do {Q : ATm → List AObj → Prop} {Qp : AV → List AObj → Prop} {rd : List Rd} {d : Option Nat} {op : AOp} {ix : Nat} {bef : List Nat} {ys : List DOp} {t : Nat} {want r : Bool} :
  dgK P n0 Q Qp d op ix bef ys rd ta H t want r (.bool want) = dK P n0 Q Qp d op ix bef ys rd (ta.put t (.bool want)) H (isE op) r (evO (ta.put t (.bool want)) H op) := by
 rw [Xk3]; cases want <;> simp
theorem dgK_tf {Q : ATm → List AObj → Prop} {Qp : AV → List AObj → Prop} {rd : List Rd} {d : Option Nat} {op : AOp} {ix : Nat} {bef : List Nat} {ys : List DOp} {t : Nat} {r : Bool} :
  dgK P n0 Q Qp d op ix bef ys rd ta H t true r (.bool false) = DM P n0 Q Qp ys (putD (ta.put t (.bool false)) d (.tup [])) H rd := by
 rw [Xk3]; simp
theorem dgK_ft {Q : ATm → List AObj → Prop} {Qp : AV → List AObj → Prop} {rd : List Rd} {d : Option Nat} {op : AOp} {ix : Nat} {bef : List Nat} {ys : List DOp} {t : Nat} {r : Bool} :
  dgK P n0 Q Qp d op ix bef ys rd ta H t false r (.bool true) = DM P n0 Q Qp ys (putD (ta.put t (.bool true)) d (.tup [])) H rd := by
 rw [Xk3]; simp
theorem Chk_nil {bef : List Nat} : Chk bef H [] = True := rfl
theorem Chk_cons {bef : List Nat} {ix : Nat} {op : AOp} {v : AV} {rd : List Rd} : Chk bef H (⟨ix, ta, op, v⟩ :: rd) = ((ix ∈ bef ∨ evO ta H op = .ok v H) ∧ Chk bef H rd) := rfl
theorem M_op {d : Option Nat} {op : AOp} {os : List IOp} : M P n0 Q (.ops (⟨d, op, none⟩ :: os) :: k) ta H = (okD ta d ∧ opK P n0 Q d os k ta H (evO ta H op)) := by
 rw [M]
 simp only
 refine congrArg _ ?_
 generalize evO ta H op = r
 cases r <;> rfl
theorem M_opg {d : Option Nat} {op : AOp} {os : List IOp} {t : Nat} {want : Bool} : M P n0 Q (.ops (⟨d, op, some (t, want)⟩ :: os) :: k) ta H = (okD ta d ∧ grdK P n0 Q d op os k ta H t want (ta.get t)) := by
 rw [M]
 simp only
 refine congrArg _ ?_
 generalize ta.get t = r
 cases r <;> rfl
theorem opK_ok {d : Option Nat} {os : List IOp} {v : AV} {H' : List AObj} : opK P n0 Q d os k ta H (.ok v H') = M P n0 Q (.ops os :: k) (putD ta d v) H' := rfl
theorem opK_call {d : Option Nat} {os : List IOp} {f : FuncId} {args : List AV} : opK P n0 Q d os k ta H (.call f args) = Xa P f args H (CallK P n0 Q d os k ta) := rfl
theorem opK_pan {d : Option Nat} {os : List IOp} {v : AV} : opK P n0 Q d os k ta H (.pan v) = Q (.pan v) ta H := rfl
theorem opK_bad {d : Option Nat} {os : List IOp} : opK P n0 Q d os k ta H .bad = False := rfl
theorem Xk8 {d : Option Nat} {os : List IOp} {v : AV} (hn : n0 ≤ H.length) (h : M P n0 Q (.ops os :: k) (putD ta d v) H) : CallK P n0 Q d os k ta (.ret v) H := ⟨_, _, Ref.refl _ _ _, hn, h⟩
theorem ZO {id : Nat} {k' : List AItem} (hu : unw id k = some k') (hn : n0 ≤ H.length) (h : M P n0 Q k' ta H) : LoopK P n0 Q k (.exit id) ta H := by
 simp only [LoopK, hu]; exact ⟨_, _, Ref.refl _ _ _, hn, h⟩
theorem Xmt {id : Nat} {k' : List AItem} {ta1 : ATm} {H1 : List AObj} (hu : unw id k = some k') (hr : Ref n0 ta H ta1 H1) (hn : n0 ≤ H1.length) (h : M P n0 Q k' ta1 H1) : LoopK P n0 Q k (.exit id) ta H := by
 simp only [LoopK, hu]; exact ⟨_, _, hr, hn, h⟩
theorem Xmu {id : Nat} (hu : unw id k = none) (h : Q (.exit id) ta H) : LoopK P n0 Q k (.exit id) ta H := by
 simp only [LoopK, hu]; exact h
theorem QU (h : Q .ret ta H) : LoopK P n0 Q k .ret ta H := h
theorem Xfg {v : AV} (h : Q (.pan v) ta H) : LoopK P n0 Q k (.pan v) ta H := h
theorem Xk {d : Option Nat} {os : List IOp} {v : AV} : CallK P n0 Q d os k ta (.pan v) H = Q (.pan v) ta H := rfl
theorem Xib {d : Option Nat} {op : AOp} {os : List IOp} {t : Nat} {want b : Bool} : grdK P n0 Q d op os k ta H t want (.bool b) =
  ((b = want → opK P n0 Q d os k (ta.put t (.bool want)) H (evO (ta.put t (.bool want)) H op)) ∧ (b = !want → M P n0 Q (.ops os :: k) (putD (ta.put t (.bool !want)) d (.tup [])) H)) := rfl
theorem grdK_un {d : Option Nat} {op : AOp} {os : List IOp} {t : Nat} {want : Bool} : grdK P n0 Q d op os k ta H t want (.tup []) = M P n0 Q (.ops os :: k) (putD ta d (.tup [])) H := rfl
theorem grdK_do {d : Option Nat} {op : AOp} {os : List IOp} {t : Nat} {want : Bool} : grdK P n0 Q d op os k ta H t want (.bool want) = opK P n0 Q d os k (ta.put t (.bool want)) H (evO (ta.put t (.bool want)) H op) := by
 rw [Xib]; cases want <;> simp
theorem grdK_tf {d : Option Nat} {op : AOp} {os : List IOp} {t : Nat} : grdK P n0 Q d op os k ta H t true (.bool false) = M P n0 Q (.ops os :: k) (putD (ta.put t (.bool false)) d (.tup [])) H := by
 rw [Xib]; simp
theorem grdK_ft {d : Option Nat} {op : AOp} {os : List IOp} {t : Nat} : grdK P n0 Q d op os k ta H t false (.bool true) = M P n0 Q (.ops os :: k) (putD (ta.put t (.bool true)) d (.tup [])) H := by
 rw [Xib]; simp
theorem cndK_true {a b : ACode} : cndK P n0 Q a b k ta H (.bool true) = M P n0 Q (.code a :: k) ta H := by simp [cndK]
theorem Xqn {a b : ACode} : cndK P n0 Q a b k ta H (.bool false) = M P n0 Q (.code b :: k) ta H := by simp [cndK]
theorem Xqj {i : Nat} {k' : List AItem} : exitK P n0 Q i ta H (some k') = M P n0 Q k' ta H := rfl
theorem Xqk {i : Nat} : exitK P n0 Q i ta H none = Q (.exit i) ta H := rfl
end
theorem Xa.go {P : Program} {f : FuncId} {fn : Func} (hf : P.funcs[f]? = some fn) (hname : (fn.name == "runtime.NumGoroutine") = false) {ac : ACode} (hc : fn.body.bind (comp P) = some ac) {N : Nat} (hN : fn.ntmps = N) {rs : List RV} (hrs : Xj P fn.results.toList = some rs) {args : List AV} (hn : args.length ≤ N) {H : List AObj} {Q : AEnd → List AObj → Prop}
  (h : M P H.length (bodyA H.length rs Q) [.code ac] ⟨N, argl 0 args, []⟩ H) : Xa P f args H Q := by
 obtain ⟨c, h1, h2⟩ := Option.bind_eq_some_iff.1 hc
 exact Xa.run hf hname h1 hN hrs h2 hn h

theorem get_mk {n : Nat} {l : List (Nat × AV)} {ds : List (Fn × List AV × List AV)} {t : Nat} : (⟨n, l, ds⟩ : ATm).get t = look l t := rfl
theorem put_mk {n : Nat} {l : List (Nat × AV)} {ds : List (Fn × List AV × List AV)} {t : Nat} {v : AV} : (⟨n, l, ds⟩ : ATm).put t v = ⟨n, (t, v) :: l, ds⟩ := rfl
theorem okD_some {n : Nat} {l : List (Nat × AV)} {ds : List (Fn × List AV × List AV)} {t : Nat} : okD ⟨n, l, ds⟩ (some t) = (t < n) := rfl
theorem okD_none {ta : ATm} : okD ta none = True := rfl
theorem putD_some {n : Nat} {l : List (Nat × AV)} {ds : List (Fn × List AV × List AV)} {t : Nat} {v : AV} : putD ⟨n, l, ds⟩ (some t) v = ⟨n, (t, v) :: l, ds⟩ := rfl
theorem putD_none {ta : ATm} {v : AV} : putD ta none v = ta := rfl
theorem ev_t {ta : ATm} {t : Nat} : (AX.t t).ev ta = ta.get t := rfl
theorem ev_k {ta : ATm} {v : AV} : (AX.k v).ev ta = v := rfl
theorem unw_blk {id i : Nat} {k : List AItem} : unw id (.blk i :: k) = if i = id then some k else unw id k := rfl
theorem unw_code {id : Nat} {c : ACode} {k : List AItem} : unw id (.code c :: k) = unw id k := rfl
theorem unw_ops {id : Nat} {c : List IOp} {k : List AItem} : unw id (.ops c :: k) = unw id k := rfl
theorem unw_scp {id : Nat} {k : List AItem} : unw id (.scp :: k) = unw id k := rfl
theorem unw_nil {id : Nat} : unw id [] = none := rfl
end Go.Proofs.Ytcbhlpbkampfeaa.AI
