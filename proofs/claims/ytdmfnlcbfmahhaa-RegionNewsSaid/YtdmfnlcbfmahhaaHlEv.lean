/- The evaluator: what a piece of the program's code asks of the memory, as a term over a few primitive operations; and that a proof about this term is a proof about the code. -/
import Derived.Calls
import Derived.Laws.Sem
import Derived.Laws.World
import Derived.Tactics
namespace Go.Proofs.Ytdmfnlcbfmahhaa
namespace Hl
open Go

/-! ## Kinds of cells, typed rows of cells -/

inductive Kind where
  | int (k : IntKind) | bool | ptr | slice | any
  deriving DecidableEq

structure Sl where
  base : Option Addr
  len : Nat
  cap : Nat

@[reducible] def Kind.T : Kind → Type
  | .int _ => Int
  | .bool => Bool
  | .ptr => Option Addr
  | .slice => Sl
  | .any => Value

def Kind.inj : (k : Kind) → k.T → Value
  | .int k, n => .int k n
  | .bool, b => .bool b
  | .ptr, p => .pointer p
  | .slice, s => .slice s.base s.len s.cap
  | .any, v => v

@[reducible] def Row : List Kind → Type
  | [] => Unit
  | k :: ks => k.T × Row ks

def Row.vals : (ks : List Kind) → Row ks → List Value
  | [], _ => []
  | k :: ks, r => k.inj r.1 :: Row.vals ks r.2

/-- A value's shape: one cell, or a struct's or an array's cells. -/
inductive Shp where
  | one (k : Kind)
  | agg (ks : List Kind)

@[reducible] def Shp.T : Shp → Type
  | .one k => k.T
  | .agg ks => Row ks

def Shp.inj : (s : Shp) → s.T → Value
  | .one k, x => k.inj x
  | .agg ks, r => .agg (Row.vals ks r).toArray

@[reducible] def Tup : List Shp → Type
  | [] => Unit
  | s :: ss => s.T × Tup ss

def Tup.vals : (ss : List Shp) → Tup ss → List Value
  | [], _ => []
  | s :: ss, r => s.inj r.1 :: Tup.vals ss r.2

/-- What a call hands back: nothing, one value, a tuple. -/
def Tup.result : (ss : List Shp) → Tup ss → Value
  | [s], r => s.inj r.1
  | ss, r => .tuple (Tup.vals ss r).toArray

def kindOf : Value → Kind
  | .int k _ => .int k
  | .bool _ => .bool
  | .pointer _ => .ptr
  | .slice _ _ _ => .slice
  | _ => .any

def kindsOf : List Value → List Kind
  | [] => []
  | v :: vs => kindOf v :: kindsOf vs

def shpOf : Value → Shp
  | .agg cs => .agg (kindsOf cs.toList)
  | v => .one (kindOf v)

/-! ## The primitive operations -/

structure Prims (T : Type) where
  fail : T
  both : T → T → T
  guard : Prop → T → T
  load : (s : Shp) → Addr → (s.T → T) → T
  store : Addr → List Value → T → T
  new : TypeId → List Value → (Nat → T) → T
  index : (k : Kind) → List Value → Int → (k.T → T) → T
  sem : Sem Value → (s : Shp) → (s.T → T) → T
  semU : Sem Value → T → T
  call : FuncId → List Value → (ss : List Shp) → (Tup ss → T) → (List PanicEntry → T) → T
  keep : List (Addr × List Value) → T → T
  draw : T → T
  loop : (ss : List Shp) → Tup ss → ((Tup ss → T) → Tup ss → T) → T
  join : (ss : List Shp) → (Tup ss → T) → ((Tup ss → T) → T) → T

/-- What a run that must end well ends in. -/
def RunsTo {α : Type} (P : Program) (s : Sem α) (w : World) (K : α → World → Prop) : Prop :=
  match s.run P w with
  | .ok v w' => K v w'
  | .halt _ _ => False

def rowAt (w : World) (a : Addr) (vs : List Value) : Prop := ∀ i v, vs[i]? = some v → w.cell? (a.add i) = some v

def Shp.cells : (s : Shp) → s.T → List Value
  | .one k, x => [k.inj x]
  | .agg ks, r => Row.vals ks r

def wpM (P : Program) : Prims (World → Prop) where
  fail := fun _ => False
  both p q := fun w => p w ∧ q w
  guard p x := fun w => p ∧ x w
  load s a K := fun w => ∃ x : s.T, rowAt w a (s.cells x) ∧ K x w
  store a vs K := fun w => RunsTo P (storeCells a vs) w fun _ => K
  new e vs K := fun w => K w.heap.size (w.alloc (.cells vs.toArray e))
  index k cs i K := fun w => ∃ x : k.T, 0 ≤ i ∧ cs[i.toNat]? = some (k.inj x) ∧ K x w
  sem s sh K := fun w => RunsTo P s w fun v w' => ∃ x : sh.T, v = sh.inj x ∧ K x w'
  semU s K := fun w => RunsTo P s w fun _ => K
  call f args ss K KP := fun w => Calls P f args.toArray w fun
    | .returned v, w' => ∃ r : Tup ss, v = Tup.result ss r ∧ K r w'
    | .panicked c, w' => KP c w'
    | .outgrown, _ => False
  keep l K := fun w => (∀ x ∈ l, rowAt w x.1 x.2) ∧ K w
  draw K := fun w => K w.drew
  loop ss r body := fun w => ∃ (R : Type) (I : R → Tup ss → World → Prop) (μ : R → Nat) (s₀ : R), I s₀ r w ∧
    ∀ s r w, I s r w → body (fun r' w' => ∃ s', I s' r' w' ∧ μ s' < μ s) r w
  join _ f g := g f

/-- A pointer that is followed. -/
def dr {T : Type} (f : T) (p : Option Addr) (K : Addr → T) : T := match p with | some a => K a | none => f

theorem dr_el {P : Program} {p : Option Addr} {K : Addr → World → Prop} {w : World} (h : dr (wpM P).fail p K w) : ∃ a, p = some a ∧ K a w := by
  cases p with
  | none => exact h.elim
  | some a => exact ⟨a, rfl, h⟩

/-! ## Short words for values and shapes -/

abbrev vI (n : Int) : Value := .int .i64 n
abbrev vU (n : Int) : Value := .int .u64 n
abbrev v8 (n : Int) : Value := .int .u8 n
abbrev vB (b : Bool) : Value := .bool b
abbrev vP (b : Nat) : Value := .pointer (some ⟨b, 0, none⟩)
abbrev sI : Shp := .one (.int .i64)
abbrev sU : Shp := .one (.int .u64)
abbrev s8 : Shp := .one (.int .u8)
abbrev sB : Shp := .one .bool
abbrev sP : Shp := .one .ptr
abbrev sS : Shp := .one .slice
abbrev kI : Kind := .int .i64
abbrev kU : Kind := .int .u64
abbrev wI (n : Int) : Int := IntKind.i64.wrap n
abbrev wU (n : Int) : Int := IntKind.u64.wrap n

/-! ## Frames -/

abbrev Env := Nat → Option Value

def Env.upd (env : Env) (d : Nat) (v : Option Value) : Env := fun i => bif Nat.beq i d then v else env i

def Env.put (env : Env) (d : Option Nat) (v : Value) : Env := match d with | some d => env.upd d (some v) | none => env

def evalO (env : Env) : Operand → Option Value
  | .tmp t => env t
  | .const v => some v
  | .global g => some (.pointer (some ⟨g, 0, none⟩))
  | .func f => some (.func (.func f) #[] #[])

def evalL (env : Env) : List Operand → Option (List Value)
  | [] => some []
  | x :: xs => match evalO env x with
    | none => none
    | some v => match evalL env xs with
      | none => none
      | some vs => some (v :: vs)

/-- A pure run, or one that lays a new block. -/
def semF {T : Type} (M : Prims T) (P : Program) {α : Type} : Sem α → (α → T) → T
  | .pure a, K => K a
  | .program k, K => semF M P (k P) K
  | .new (.cells c e (0, 0)) k, K => M.new e c.toList fun r => semF M P (k r) K
  | _, _ => M.fail

/-- A pure run. -/
def semQ {T : Type} (M : Prims T) (P : Program) {α : Type} : Sem α → (α → T) → T
  | .pure a, K => K a
  | .program k, K => semQ M P (k P) K
  | _, _ => M.fail

section
variable {T : Type} (M : Prims T) (P : Program)

def wV (v : Option Value) (K : Value → T) : T := match v with | some v => K v | none => M.fail
def wInt (v : Option Value) (K : IntKind → Int → T) : T := match v with | some (.int k n) => K k n | _ => M.fail
def wPtr (v : Option Value) (K : Option Addr → T) : T := match v with | some (.pointer p) => K p | _ => M.fail
def wSl (v : Option Value) (K : Sl → T) : T := match v with | some (.slice a l c) => K ⟨a, l, c⟩ | _ => M.fail
def wBool (v : Option Value) (K : Bool → T) : T := match v with | some (.bool b) => K b | _ => M.fail

def zeroOf (t : TypeId) : Option Value := (P.info? t).bind (·.zero)
def sizeIn (t : TypeId) : Option Nat := (P.info? t).map (·.size)
def shpIn (t : TypeId) : Option Shp := (zeroOf P t).map shpOf
def shpsIn : List TypeId → Option (List Shp)
  | [] => some []
  | t :: ts => match shpIn P t, shpsIn ts with
    | some s, some ss => some (s :: ss)
    | _, _ => none

/-- Is a type's variable a struct's or an array's (its cells are loaded as a whole)? -/
def aggIn (t : TypeId) : Option Bool := match P.underlying t with | some (.struct _) | some (.array _ _) => some true | some _ => some false | none => none

def callable (f : FuncId) : Bool := match P.funcs[f]? with | some fn => !(fn.name == "runtime.NumGoroutine") && fn.body.isSome | none => false

def isNZ : Operand → Bool
  | .const (.int _ n) => !(n == 0)
  | _ => false
def isNN : Operand → Bool
  | .const (.int _ n) => decide (0 ≤ n)
  | _ => false

def isNil : Operand → Bool
  | .const .nilIface => true
  | _ => false

def optV (env : Env) : Option Operand → Option (Option Value)
  | none => some none
  | some x => match evalO env x with
    | some v => some (some v)
    | none => none

def intOr (d : Int) : Option Value → Option Int
  | none => some d
  | some (.int _ n) => some n
  | _ => none

/-- The comparison of two values of one type. -/
def eqV (t : TypeId) (u v : Value) : Sem Value := do let r ← Op.equal t u v; pure (Value.bool r)

/-- One operation that leaves the memory as it is. 'K': what is done with its value, and with what was read for it. -/
def opQ (op : Op) (ty : TypeId) (env : Env) (K : Value → List (Addr × List Value) → T) : T :=
  match op with
  | .move x | .assign x => wV M (evalO env x) fun v => K v []
  | .pick c a b => wBool M (evalO env c) fun t => bif t then wV M (evalO env a) fun v => K v [] else wV M (evalO env b) fun v => K v []
  | .unOp op _ x => wV M (evalO env x) fun v => semQ M P (Op.unary op v) (fun v => K v [])
  | .convert src dst x => wV M (evalO env x) fun v => semQ M P (convert src dst v) (fun v => K v [])
  | .makeInterface t x => wV M (evalO env x) fun v => semQ M P (Instr.makeInterface t v) (fun v => K v [])
  | .makeFunc fn first captured => match evalL env first.toList, evalL env captured.toList with
    | some u, some v => K (.func fn u.toArray v.toArray) []
    | _, _ => M.fail
  | .slice t x lo hi mx => match optV env lo, optV env hi, optV env mx with
    | some lo, some hi, some mx => bif mx.isSome && hi.isNone then M.fail else match P.underlying t with
      | some (.slice e) => wSl M (evalO env x) fun s => match intOr 0 lo, intOr s.len hi, intOr s.cap mx, sizeIn P e with
        | some l, some h, some m, some z => M.guard (0 ≤ l ∧ l ≤ h ∧ h ≤ m ∧ m ≤ s.cap)
            (K (.slice (if m.toNat = l.toNat then s.base else s.base.map (·.add (l.toNat * z))) (h.toNat - l.toNat) (m.toNat - l.toNat)) [])
        | _, _, _, _ => M.fail
      | some (.array n e) => wPtr M (evalO env x) fun p => dr M.fail p fun a => match intOr 0 lo, intOr n hi, intOr n mx, sizeIn P e with
        | some l, some h, some m, some z => M.guard (0 ≤ l ∧ l ≤ h ∧ h ≤ m ∧ m ≤ n)
            (K (.slice (some (if m.toNat = l.toNat then a else a.add (l.toNat * z))) (h.toNat - l.toNat) (m.toNat - l.toNat)) [])
        | _, _, _, _ => M.fail
      | _ => M.fail
    | _, _, _ => M.fail
  | .fieldAddr t x f => wPtr M (evalO env x) fun p => dr M.fail p fun a => match P.underlying t with
    | some (.struct fs) => match fs[f]? with
      | some fd => bif (match sizeIn P fd.type with | some n => !(Nat.beq n 0) | none => false) then K (.pointer (some (a.add fd.offset))) [] else M.fail
      | none => M.fail
    | _ => M.fail
  | .field t x f => wV M (evalO env x) fun v => semQ M P (Instr.field t v f) (fun v => K v [])
  | .indexAddr t x i => wInt M (evalO env i) fun _ i => match P.underlying t with
    | some (.slice e) => wSl M (evalO env x) fun s => match sizeIn P e with
      | some z => M.guard (0 ≤ i ∧ i < s.len) (dr M.fail s.base fun a => K (.pointer (some (a.add (i.toNat * z)))) [])
      | none => M.fail
    | some (.array n e) => wPtr M (evalO env x) fun p => dr M.fail p fun a => match sizeIn P e with
      | some z => M.guard (0 ≤ i ∧ i < n) (K (.pointer (some (a.add (i.toNat * z)))) [])
      | none => M.fail
    | _ => M.fail
  | .index t x i => wInt M (evalO env i) fun _ i => match P.underlying t, evalO env x with
    | some (.array n e), some (.agg cs) => match zeroOf P e with
      | some z => bif (match aggIn P e with | some false => false | _ => true) || !(match sizeIn P e with | some n => Nat.beq n 1 | none => false) || !(Nat.beq n cs.size) then M.fail
        else M.index (kindOf z) cs.toList i fun x => K ((kindOf z).inj x) []
      | none => M.fail
    | _, _ => M.fail
  | .typeAssert x t u ok => wV M (evalO env x) fun v => semQ M P (Instr.typeAssert v t u ok) (fun v => K v [])
  | .extract x i => wV M (evalO env x) fun v => semQ M P (Instr.extract v i) (fun v => K v [])
  | .nilCheck x => wPtr M (evalO env x) fun p => dr M.fail p fun a => K (.pointer (some a)) []
  | .load t x => wPtr M (evalO env x) fun p => dr M.fail p fun a => match shpIn P t with
    | some s => match s, aggIn P t with
      | .one k, some false => M.load (.one k) a fun v => K (k.inj v) [(a, [k.inj v])]
      | .agg ks, some true => bif (match sizeIn P t with | some n => Nat.beq n ks.length | none => false) then M.load (.agg ks) a fun v => K (Shp.inj (.agg ks) v) [(a, Row.vals ks v)] else M.fail
      | _, _ => M.fail
    | none => M.fail
  | .build t parts => match evalL env (parts.toList.map (·.2)) with
    | some vs => semQ M P (Instr.build t ((parts.toList.map (·.1)).zip vs).toArray) (fun v => K v [])
    | none => M.fail
  | .binOp op t x y _ => match evalO env x, evalO env y with
    | some (.int k a), some (.int k' b) =>
      match op with
      | .shl => bif isNN y then K (.int k (k.wrap (a * 2 ^ (min b.toNat k.bits)))) [] else M.guard (0 ≤ b) (K (.int k (k.wrap (a * 2 ^ (min b.toNat k.bits)))) [])
      | .shr => bif isNN y then K (.int k (a.fdiv (2 ^ (min b.toNat k.bits)))) [] else M.guard (0 ≤ b) (K (.int k (a.fdiv (2 ^ (min b.toNat k.bits)))) [])
      | .quo => bif decide (k = k') then (bif isNZ y then K (.int k (k.wrap (a.tdiv b))) [] else M.guard (b ≠ 0) (K (.int k (k.wrap (a.tdiv b))) [])) else M.fail
      | .rem => bif decide (k = k') then (bif isNZ y then K (.int k (a.tmod b)) [] else M.guard (b ≠ 0) (K (.int k (a.tmod b)) [])) else M.fail
      | _ => semQ M P (binOp op t (.int k a) (.int k' b)) (fun v => K v [])
    | some (.bool a), some (.bool b) => semQ M P (binOp op t (.bool a) (.bool b)) (fun v => K v [])
    | some (.iface u a), some .nilIface => semQ M P (binOp op t (.iface u a) .nilIface) (fun v => K v [])
    | some .nilIface, some .nilIface => bif isNil y then semQ M P (binOp op t .nilIface .nilIface) (fun v => K v []) else M.fail
    | _, _ => M.fail
  | .call c => match evalL env c.args.toList with
    | none => M.fail
    | some args => match c.callee with
      | .builtin .len => match args with
        | [.slice _ n _] => match (c.argTypes[0]?).bind P.underlying with
          | some (.slice _) => K (goInt n) []
          | _ => M.fail
        | _ => M.fail
      | .builtin .min => semQ M P (Builtin.min_ c.argTypes ty args.toArray) (fun v => K v [])
      | .builtin .max => semQ M P (Builtin.max_ c.argTypes ty args.toArray) (fun v => K v [])
      | _ => M.fail
  | _ => M.fail

/-- Does an operation leave the memory as it is? -/
def quietOp (op : Op) : Bool :=
  match op with
  | .move _ | .assign _ | .pick .. | .nilCheck _ | .load .. | .unOp .. | .convert .. | .makeInterface .. | .makeFunc .. | .slice .. | .fieldAddr .. | .field ..
  | .indexAddr .. | .index .. | .typeAssert .. | .extract .. | .build .. => true
  | .binOp o t _ _ _ => (match o with | .eql | .neq => (match P.underlying t with | some (.int _) | some .bool | some (.interface _) => true | _ => false) | _ => true)
  | .call c => (match c.callee with | .builtin .len | .builtin .min | .builtin .max => true | _ => false)
  | _ => false

/-- One operation. 'K': what is done with its value; 'KP': with a panic that a callee lets out. -/
def opF (op : Op) (ty : TypeId) (env : Env) (K : Value → T) (KP : List PanicEntry → T) : T :=
  bif quietOp P op then opQ M P op ty env (fun v _ => K v) else
  match op with
  | .alloc e => wV M (zeroOf P e) fun z => M.new e z.cells.toList fun r => K (.pointer (some ⟨r, 0, none⟩))
  | .box e x => wV M (evalO env x) fun v => M.new e v.cells.toList fun r => K (.pointer (some ⟨r, 0, none⟩))
  | .buildSlice t len parts => match evalL env (parts.toList.map (·.2)) with
    | some vs => semF M P (Instr.buildSlice t len ((parts.toList.map (·.1)).zip vs).toArray) K
    | none => M.fail
  | .store t x v => wPtr M (evalO env x) fun p => dr M.fail p fun a => wV M (evalO env v) fun v =>
    bif (match sizeIn P t with | some n => Nat.beq n v.cells.size | none => false) then M.store a v.cells.toList (K undef) else M.fail
  | .panic x => wV M (evalO env x) fun v => match v with
    | .iface t u => KP [{ v := .iface t u, recovered := false }]
    | _ => M.fail
  | .makeSlice t l c => wInt M (evalO env l) fun kl l => wInt M (evalO env c) fun kc c =>
    M.sem (Instr.makeSlice t (.int kl l) (.int kc c)) (.one .slice) fun s => K (.slice s.base s.len s.cap)
  | .binOp op t x y _ => match evalO env x, evalO env y with
    | some (.pointer a), some (.pointer b) => match op with
      | .eql => M.sem (eqV t (.pointer a) (.pointer b)) (.one .bool) fun r => K (.bool r)
      | .neq => M.sem (eqV t (.pointer a) (.pointer b)) (.one .bool) fun r => K (.bool (!r))
      | _ => M.fail
    | some (.agg a), some (.agg b) => bif P.eqGuardType P.depth t then M.fail else match op with
      | .eql => M.sem (eqV t (.agg a) (.agg b)) (.one .bool) fun r => K (.bool r)
      | .neq => M.sem (eqV t (.agg a) (.agg b)) (.one .bool) fun r => K (.bool (!r))
      | _ => M.fail
    | _, _ => M.fail
  | .call c => match evalL env c.args.toList with
    | none => M.fail
    | some args => match c.callee with
      | .builtin .append => M.sem (Builtin.append_ c.argTypes ty args.toArray) (.one .slice) fun s => K (.slice s.base s.len s.cap)
      | .builtin .copy => M.sem (Builtin.copy_ c.argTypes ty args.toArray) (.one (.int .i64)) fun n => K (.int .i64 n)
      | .builtin .clear => M.sem (Builtin.clear_ c.argTypes ty args.toArray) (.one .any) fun v => K v
      | .value f => match evalO env f with
        | some (.func (.func g) first captured) => bif callable P g then
            (match (P.funcs[g]?).bind fun fn => shpsIn P fn.resultTypes.toList with
              | some ss => M.call g (first.toList ++ args ++ captured.toList) ss (fun r => K (Tup.result ss r)) KP
              | none => M.fail) else M.fail
        | _ => M.fail
      | _ => M.fail
  | _ => M.fail
end

/-! ## Soundness of one operation -/

theorem RunsTo.mono {α : Type} {P : Program} {s : Sem α} {w : World} {K K' : α → World → Prop} (h : RunsTo P s w K) (hk : ∀ v w', K v w' → K' v w') : RunsTo P s w K' := by
  unfold RunsTo at *
  split <;> simp_all

theorem semF_sound {P : Program} {α : Type} (s : Sem α) (K : α → World → Prop) (w : World) (h : semF (wpM P) P s K w) : RunsTo P s w K := by
  induction s generalizing w with
  | pure a => exact h
  | program k ih => exact ih P w h
  | new o k ih =>
    cases o with
    | cells c e f =>
      obtain ⟨lo, hi⟩ := f
      cases lo with
      | zero => cases hi with
        | zero =>
          have h' : semF (wpM P) P (k w.heap.size) K (w.alloc (.cells c.toList.toArray e)) := h
          rw [Array.toArray_toList] at h'
          exact ih w.heap.size (w.alloc (.cells c e)) h'
        | succ n => exact h.elim
      | succ n => exact h.elim
    | _ => exact h.elim
  | _ => exact h.elim

theorem semQ_sound {P : Program} {α : Type} (s : Sem α) (K : α → World → Prop) (w : World) (h : semQ (wpM P) P s K w) : RunsTo P s w K := by
  induction s generalizing w with
  | pure a => exact h
  | program k ih => exact ih P w h
  | _ => exact h.elim

/-- A pure run comes to one value, in whatever world. -/
theorem semQ_value {P : Program} {α : Type} (s : Sem α) (K : α → World → Prop) (w : World) (h : semQ (wpM P) P s K w) :
    ∃ v, K v w ∧ ∀ (K' : α → World → Prop) (w' : World), K' v w' → semQ (wpM P) P s K' w' := by
  induction s generalizing w with
  | pure a => exact ⟨a, h, fun _ _ hk => hk⟩
  | program k ih => exact ih P w h
  | _ => exact h.elim

end Hl
end Go.Proofs.Ytdmfnlcbfmahhaa
