import Derived.Test.YtgklmecijeadlaaGreatDoorA31
set_option linter.unusedSimpArgs false
set_option linter.unusedVariables false
set_option linter.unusedSectionVars false
namespace Go.Proofs.YtgklmecijeadlaaGreatDoor.Ab

/-! ### the same machine, its frames in a trie: what the kernel runs -/
inductive Bt (α : Type) where
  | nil
  | node (v : α) (l r : Bt α)
  deriving Inhabited
def Bt.get {α : Type} : Nat → Bt α → Nat → Option α
  | 0, _, _ => none
  | _ + 1, .nil, _ => none
  | f + 1, .node v l r, n => bif Nat.beq n 0 then some v else bif Nat.beq (Nat.mod n 2) 1 then l.get f (Nat.div (Nat.sub n 1) 2) else r.get f (Nat.div (Nat.sub n 1) 2)
def Bt.set {α : Type} : Nat → Bt α → Nat → α → Bt α
  | 0, t, _, _ => t
  | _ + 1, .nil, _, _ => .nil
  | f + 1, .node v l r, n, x => bif Nat.beq n 0 then .node x l r else bif Nat.beq (Nat.mod n 2) 1 then .node v (l.set f (Nat.div (Nat.sub n 1) 2) x) r else .node v l (r.set f (Nat.div (Nat.sub n 1) 2) x)
def dep : Nat := 12
def Bt.skel : Nat → Nat → Bt AV
  | 0, _ => .nil
  | f + 1, n => bif Nat.beq n 0 then .nil else .node undefA (Bt.skel f (Nat.div n 2)) (Bt.skel f (Nat.div (Nat.sub n 1) 2))
def Bt.sets : Bt AV → Nat → List AV → Bt AV
  | b, _, [] => b
  | b, i, v :: l => (b.set dep i v).sets (i + 1) l
def evF (T : Tab) (tmps : Bt AV) : Operand → Option AV
  | .tmp t => tmps.get dep t
  | .const v => ofV v
  | .global g => (T.glob g).map (.iptr · 0)
  | .func f => some (.func (.func f) [] [])

/-! ### regions -/
structure FA where
  tmps : Bt AV
  defers : List (AV × List AV)
  deriving Inhabited

def FA.put (a : FA) (d : Option Nat) (v : AV) : FA := match d with
  | some d => { a with tmps := a.tmps.set dep d v }
  | none => a

/-- is an operation wanted? none: it can't be told -/
def wantedF (ops : List Oper) (tmps : Bt AV) (o : Oper) : Option Bool :=
  match o.guard with
  | none => some true
  | some (j, want) => match ops[j]? with
    | some p => match p.dst with
      | some d => match tmps.get dep d with
        | some (.bool b) => some (b == want)
        | some (.tuple _) => some false
        | _ => none
      | none => some false
    | none => some false

/-- one operation: how it leaves, what becomes of the frameF, of the state (none: as it was) -/
def stepOpF (T : Tab) (C : Hand) (ops : List Oper) (o : Oper) (a : FA) (σ : St) : Option (Ex × FA × Option St) :=
  match wantedF ops a.tmps o with
  | some true => match stepA T C (evF T a.tmps) o σ with
    | some (.val v, s) => some (.norm, a.put o.dst v, s)
    | some (.skip, s) => some (.norm, a.put o.dst undefA, s)
    | some (.defer f args, s) => some (.norm, { a with defers := (f, args) :: a.defers }.put o.dst undefA, s)
    | some (.pan v, s) => some (.pan v, a, s)
    | none => none
  | some false => some (.norm, a.put o.dst undefA, none)
  | none => none

def runOpsF (T : Tab) (C : Hand) (ops : List Oper) : List Oper → FA → St → Option (Ex × FA × St)
  | [], a, σ => some (.norm, a, σ)
  | o :: l, a, σ => match stepOpF T C ops o a σ with
    | some (.norm, a', s) => runOpsF T C ops l a' (s.getD σ)
    | some (e, a', s) => some (e, a', s.getD σ)
    | none => none

/-! regions that draw their order -/
/-- what is remembered of an operation: its number, the frameF and the state that it saw, what it gave, the state's change -/
structure RecF where
  i : Nat
  o : Oper
  a : FA
  b : St
  r : FA
  s : Option St

def runRecF (T : Tab) (C : Hand) (ops : List Oper) : List Oper → Nat → FA → St → List RecF → Option (Ex × FA × St × List RecF)
  | [], _, a, σ, acc => some (.norm, a, σ, acc.reverse)
  | o :: l, i, a, σ, acc => match stepOpF T C ops o a σ with
    | some (.norm, a', s) => runRecF T C ops l (i + 1) a' (s.getD σ) (⟨i, o, a, σ, a', s⟩ :: acc)
    | some (e, a', s) => some (e, a', s.getD σ, (⟨i, o, a, σ, a', s⟩ :: acc).reverse)
    | none => none

def valAtF (o : Oper) (a : FA) : AV := match o.dst with
  | some d => (a.tmps.get dep d).getD .junk
  | none => .junk
def RecF.val (r : RecF) : AV := valAtF r.o r.r

/-- a silent operation gives the same in a state -/
def sameInF (T : Tab) (C : Hand) (ops : List Oper) (r : RecF) (σ : St) : Bool :=
  match stepOpF T C ops r.o r.a σ with
  | some (.norm, a', none) => AV.same r.val (valAtF r.o a')
  | _ => false

/-- a reading operation gives the same in each state in which it may be done -/
def stateOkF (T : Tab) (C : Hand) (ops : List Oper) (b : List Nat) (r : RecF) : Option Nat → St → List RecF → Bool
  | c, σ, louds =>
    ((match c with | some c => bit b c r.i | none => false) || (match louds with | l :: _ => bit b r.i l.i | [] => false) || sameInF T C ops r σ) &&
    match louds with
      | [] => true
      | l :: ls => stateOkF T C ops b r (some l.i) (l.s.getD σ) ls

/-- who sees a fresh variable comes behind all that its turn comes behind -/
def allocOkF (b : List Nat) (recs louds : List RecF) : Bool :=
  louds.all fun y => !isAlloc y.o || recs.all fun r => !bit b r.i y.i || louds.all fun x => !Nat.blt x.i y.i || bit b r.i x.i

/-- pairs of writers that no edge orders -/
def unordF (b : List Nat) : List RecF → List (RecF × RecF)
  | [] => []
  | r :: l => (l.filter (fun s => !bit b s.i r.i && !isAlloc s.o)).map (r, ·) ++ unordF b l

/-- two writers that no edge orders come to the same either way -/
def swapOkF (T : Tab) (C : Hand) (ops : List Oper) (b : List Nat) (recs : List RecF) (x y : RecF) : Bool :=
  match stepOpF T C ops y.o y.a x.b, y.s with
  | some (.norm, a1, some s1), some s2 => AV.same y.val (valAtF y.o a1) &&
    (match stepOpF T C ops x.o x.a s1 with
    | some (.norm, a2, some s3) => AV.same x.val (valAtF x.o a2) && s3.same s2
    | _ => false) &&
    recs.all (fun r => r.s.isSome || indep r.o || bit b r.i x.i || bit b y.i r.i || sameInF T C ops r s1)
  | _, _ => false

def drawOkF (T : Tab) (C : Hand) (ops : List Oper) (b : List Nat) (σ : St) (recs : List RecF) : Bool :=
  let louds := recs.filter (·.s.isSome)
  edgesOk ops && tmpsOk ops b && ops.all (fun o => !isDefer o) && allocOkF b recs louds &&
  recs.all (fun r => r.s.isSome || indep r.o || stateOkF T C ops b r none σ louds) &&
  (match unordF b louds with
  | [] => true
  | [(x, y)] => swapOkF T C ops b recs x y
  | _ => false)

def junkAllF : List Oper → FA → FA
  | [], a => a
  | o :: l, a => junkAllF l (a.put o.dst .junk)

def regF (T : Tab) (C : Hand) (ops : Array Oper) (draw : Bool) (a : FA) (σ : St) : Option (Ex × FA × St) :=
  bif draw then
    let b := befores ops.toList []
    match runRecF T C ops.toList ops.toList 0 a σ [] with
    | some (.norm, a', σ', recs) => bif drawOkF T C ops.toList b σ recs then some (.norm, a', σ') else none
    | some (.pan v, _, σ', recs) =>
      bif drawOkF T C ops.toList b σ recs.dropLast && recs.dropLast.all (fun r => r.s.isNone || bit b (recs.length - 1) r.i) && ops.toList.zipIdx.all (fun (_, j) => Nat.blt j recs.length || (b.getD j 0).testBit (recs.length - 1)) then
        some (.pan v, junkAllF ops.toList a, σ') else none
    | _ => none
  else runOpsF T C ops.toList ops.toList a σ

/-! ### code -/
def iterF (f : FA → St → Option (Ex × FA × St)) : Nat → FA → St → Option (Ex × FA × St)
  | 0, _, _ => none
  | n + 1, a, σ => match f a σ with
    | some (.norm, a', σ') => iterF f n a' σ'
    | r => r

def execF (T : Tab) (C : Hand) : Code → FA → St → Option (Ex × FA × St)
  | .skip, a, σ => some (.norm, a, σ)
  | .label _, a, σ => some (.norm, a, σ)
  | .region _ ops draw, a, σ => regF T C ops draw a σ
  | .seq x y, a, σ => match execF T C x a σ with
    | some (.norm, a', σ') => execF T C y a' σ'
    | r => r
  | .cond c x y, a, σ => match evF T a.tmps c with
    | some (.bool t) => bif t then execF T C x a σ else execF T C y a σ
    | _ => none
  | .block id x, a, σ => match execF T C x a σ with
    | some (.exit i, a', σ') => bif Nat.beq i id then some (.norm, a', σ') else some (.exit i, a', σ')
    | r => r
  | .loop x, a, σ => iterF (execF T C x) rounds a σ
  | .scope x, a, σ => execF T C x a σ
  | .exit id, a, σ => some (.exit id, a, σ)
  | .ret, a, σ => some (.ret, a, σ)
  | _, _, _ => none

/-! a deferred function's body: it may recover -/
def runOpsDF (T : Tab) (C : Hand) (ops : List Oper) : List Oper → FA → St → Pan → Option (Ex × FA × St × Pan)
  | [], a, σ, u => some (.norm, a, σ, u)
  | o :: l, a, σ, u =>
    match o.op with
    | .call { callee := .builtin .recover, .. } => match wantedF ops a.tmps o with
      | some true => match u with
        | .pan v => runOpsDF T C ops l (a.put o.dst v) σ .done
        | u => runOpsDF T C ops l (a.put o.dst .nilif) σ u
      | some false => runOpsDF T C ops l (a.put o.dst undefA) σ u
      | none => none
    | _ => match stepOpF T C ops o a σ with
      | some (.norm, a', s) => runOpsDF T C ops l a' (s.getD σ) u
      | some (e, a', s) => some (e, a', s.getD σ, u)
      | none => none

def execDF (T : Tab) (C : Hand) : Code → FA → St → Pan → Option (Ex × FA × St × Pan)
  | .seq x y, a, σ, u => match execDF T C x a σ u with
    | some (.norm, a', σ', u') => execDF T C y a' σ' u'
    | r => r
  | .cond c x y, a, σ, u => match evF T a.tmps c with
    | some (.bool t) => bif t then execDF T C x a σ u else execDF T C y a σ u
    | _ => none
  | .region _ ops false, a, σ, u => runOpsDF T C ops.toList ops.toList a σ u
  | c, a, σ, u => (execF T C c a σ).map fun r => (r.1, r.2.1, r.2.2, u)

def resAF (T : Tab) (σ : St) (tmps : Bt AV) : List ResultVar → Option (List AV)
  | [] => some []
  | .tmp t :: l => match tmps.get dep t, resAF T σ tmps l with
    | some v, some r => some (v :: r)
    | _, _ => none
  | .cell p t :: l => match tmps.get dep p with
    | some q => match loadA T σ t q, resAF T σ tmps l with
      | some v, some r => some (v :: r)
      | _, _ => none
    | none => none

def resultsF (T : Tab) (σ : St) (F : Func) (tmps : Bt AV) : Option AV :=
  match resAF T σ tmps F.results.toList with
  | some [v] => some v
  | some l => some (.tuple l)
  | none => none

def frameF (F : Func) (args : List AV) : FA := { tmps := Bt.sets (Bt.skel dep F.ntmps) 0 args, defers := [] }

/-- does a frame fit into the trie? -/
def fits (F : Func) (args : List AV) : Bool := Nat.ble args.length F.ntmps && Nat.ble F.ntmps 4095

/-- the deferred calls of a frameF, the last one first -/
def leaveF (T : Tab) (C : Hand) : List (AV × List AV) → Option AV → St → Option (Option AV × St)
  | [], u, σ => some (u, σ)
  | (g, args0) :: ds, u, σ =>
    match target g args0 with
    | some (f, args) => match T.fn f with
      | some F => match F.body with
        | some c => bif fits F args then (match execDF T C c (frameF F args) σ (match u with | some v => .pan v | none => .no) with
          | some (.norm, a', σ', u') | some (.ret, a', σ', u') => match a'.defers, resultsF T σ' F a'.tmps with
            | [], some _ => leaveF T C ds (match u' with | .pan v => some v | _ => none) σ'
            | _, _ => none
          | _ => none) else leaveA T C ((g, args0) :: ds) u σ
        | none => none
      | none => none
    | none => none

/-! ### calls -/
def bodyF (T : Tab) (C : Hand) (f : FuncId) (F : Func) (c : Code) (args : List AV) (σ : St) : Option (ER × St) :=
  match execF T C c (frameF F args) { σ with log := [] } with
  | some (.exit _, _, _) => none
  | some (e, a, σ1) =>
    match leaveF T C a.defers (match e with | .pan v => some v | _ => none) σ1 with
    | some (some v, σ2) => match endA T f σ σ2 v with
      | some (v, σ3) => some (.pan v, σ3)
      | none => none
    | some (none, σ2) => match resultsF T σ2 F a.tmps with
      | some v => match endA T f σ σ2 v with
        | some (v, σ3) => some (.ret v, σ3)
        | none => none
      | none => none
    | none => none
  | none => none

def callF (T : Tab) : Nat → Hand
  | 0, _, _, _ => none
  | n + 1, f, args, σ =>
    match T.ext f with
    | some g => g args σ
    | none => match T.fn f with
      | some F => match F.body with
        | some c => bif fits F args then bodyF T (callF T n) f F c args σ else bodyA T (callF T n) f F c args σ
        | none => none
      | none => none

end Go.Proofs.YtgklmecijeadlaaGreatDoor.Ab
