/- An abstract executor, fifteenth part: the same executor, written so that the kernel runs it with little work. -/
import Derived.Test.YtapkhldfbdcblaaGreatDoorAxExec
set_option linter.unusedSectionVars false
set_option linter.unnecessarySimpa false
set_option linter.unusedSimpArgs false
set_option linter.unusedVariables false
namespace Go.Ax
noncomputable section

/-! a value by its kind -/
abbrev V2 := Bool
def boolK (v : AV) (k : Bool → Bool) : Bool :=
  AV.rec (motive_1 := fun _ => (Bool → Bool) → Bool) (motive_2 := fun _ => Unit) (fun b k => k b) (fun _ _ _ => false) (fun _ _ _ => false) (fun _ => false) (fun _ _ _ => false) (fun _ => false) (fun _ _ _ _ _ _ => false) (fun _ _ _ => false) (fun _ => false) (fun _ _ => false) (fun _ _ _ _ _ _ => false) (fun _ _ => false) (fun _ => false) (fun _ => false) (fun _ _ _ _ => false) (fun _ _ _ => false) (fun _ _ _ => false) (fun _ _ => false) () (fun _ _ _ _ => ()) v k
def intK (v : AV) (k : IntKind → Int → Bool) : Bool :=
  AV.rec (motive_1 := fun _ => (IntKind → Int → Bool) → Bool) (motive_2 := fun _ => Unit) (fun _ _ => false) (fun kd n k => k kd n) (fun _ _ _ => false) (fun _ => false) (fun _ _ _ => false) (fun _ => false) (fun _ _ _ _ _ _ => false) (fun _ _ _ => false) (fun _ => false) (fun _ _ => false) (fun _ _ _ _ _ _ => false) (fun _ _ => false) (fun _ => false) (fun _ => false) (fun _ _ _ _ => false) (fun _ _ _ => false) (fun _ _ _ => false) (fun _ _ => false) () (fun _ _ _ _ => ()) v k
def ptrK (v : AV) (k : Pos → Nat → Bool) : Bool :=
  AV.rec (motive_1 := fun _ => (Pos → Nat → Bool) → Bool) (motive_2 := fun _ => Unit) (fun _ _ => false) (fun _ _ _ => false) (fun _ _ _ => false) (fun _ => false) (fun b o k => k b o) (fun _ => false) (fun _ _ _ _ _ _ => false) (fun _ _ _ => false) (fun _ => false) (fun _ _ => false) (fun _ _ _ _ _ _ => false) (fun _ _ => false) (fun _ => false) (fun _ => false) (fun _ _ _ _ => false) (fun _ _ _ => false) (fun _ _ _ => false) (fun _ _ => false) () (fun _ _ _ _ => ()) v k
/-- Of which kind: 0 number, 1 pointer, 2 neither. -/
def kindOf (v : AV) : Nat :=
  AV.rec (motive_1 := fun _ => Nat) (motive_2 := fun _ => Unit) (fun _ => 2) (fun _ _ => 0) (fun _ _ => 2) 2 (fun _ _ => 1) 2 (fun _ _ _ _ _ => 2) (fun _ _ => 2) 2 (fun _ => 2) (fun _ _ _ _ _ => 2) (fun _ => 2) 2 2 (fun _ _ _ => 2) (fun _ _ => 2) (fun _ _ => 2) (fun _ => 2) () (fun _ _ _ _ => ()) v

/-! values handed on written out, by one look -/
def fV (v : AV) (k : AV → Bool) : Bool :=
  AV.rec (motive_1 := fun _ => (AV → Bool) → Bool) (motive_2 := fun _ => Unit)
    (fun b k => fBool b fun b => k (.bool b)) (fun kd n k => fInt n fun n => k (.int kd n)) (fun len n k => fNat len fun len => fNat n fun n => k (.str len n)) (fun k => k .nilp) (fun b o k => fNat o fun o => k (.ptr b o)) (fun k => k .nils)
    (fun b o len cap sz k => fNat o fun o => fNat len fun len => fONat cap fun cap => fNat sz fun sz => k (.slice b o len cap sz)) (fun b s k => k (.slice0 b s)) (fun k => k .nilm) (fun b k => k (.map b)) (fun fn a c _ _ k => fVal (.func fn a c) k) (fun b k => k (.yield b)) (fun k => k .nilFunc) (fun k => k .nilIface)
    (fun t x _ k => fVal (.iface t x) k) (fun cs _ k => fList cs fun cs => k (.agg cs)) (fun cs _ k => fAggs cs fun cs => k (.tuple cs)) (fun i k => k (.opq i)) () (fun _ _ _ _ => ()) v k
theorem fV_eq (v : AV) (k : AV → Bool) : fV v k = k v := by
  cases v <;> simp only [fV, fBool_eq, fInt_eq, fNat_eq, fONat_eq, fList_eq, fAggs_eq, fVal_eq]

/-! operands -/
def evTmp (t : Nat) (T : PM AV) : Option AV := Bool.rec (motive := fun _ => Option AV) none (T.get (posOf t)) (Nat.ble t 1000000)
def evF (x : Operand) (T : PM AV) : Option AV :=
  Operand.rec (motive := fun _ => PM AV → Option AV) (fun t T => evTmp t T) (fun v _ => toAV v) (fun _ _ => none) (fun f _ => some (.func (.func f) [] [])) x T
theorem evF_eq (x : Operand) (T : PM AV) : evF x T = evA T x := by
  cases x with
  | tmp t =>
    show evTmp t T = bif Nat.ble t 1000000 then T.get (posOf t) else none
    unfold evTmp
    cases Nat.ble t 1000000 <;> rfl
  | const _ => rfl
  | global _ => rfl
  | func _ => rfl
def evK (x : Operand) (T : PM AV) (k : AV → Bool) : Bool := Option.rec (motive := fun _ => Bool) false k (evF x T)
def obK {α : Type} (o : Option α) (k : α → Bool) : Bool := match o with | some a => k a | none => false
theorem evK_eq (x : Operand) (T : PM AV) (k : AV → Bool) : evK x T k = obK (evA T x) k := by
  unfold evK; rw [evF_eq]; cases evA T x <;> rfl

/-! operations, handed on -/
abbrev OpK := Program → PM AV → AH → (ORes → Bool) → Bool
def slowK (f : OpF) : OpK := fun P T h k => Option.rec (motive := fun _ => Bool) false k (f P 0 T h)
def kMove (x : Operand) : OpK := fun _ T _ k => evK x T fun v => k (.val v)
def kPick (c a b : Operand) : OpK := fun _ T _ k => evK c T fun c => boolK c fun c => Bool.rec (motive := fun _ => Bool) (evK b T fun v => k (.val v)) (evK a T fun v => k (.val v)) c
def cellsK (h : AH) (b : Pos) (k : List AV → Bool) : Bool :=
  Option.rec (motive := fun _ => Bool) false (fun o => AObj.rec (motive := fun _ => (List AV → Bool) → Bool) (fun cs k => k cs) (fun _ _ _ => false) (fun _ _ _ _ _ => false) (fun _ _ => false) (fun _ => false) o k) (h.m.get b)
def loadK (P : Program) (h : AH) (t : TypeId) (x : AV) (k : ORes → Bool) : Bool :=
  ptrK x fun b o => cellsK h b fun cs => Option.rec (motive := fun _ => Bool) false
    (fun ag => Bool.rec (motive := fun _ => Bool) (Option.rec (motive := fun _ => Bool) false (fun v => k (.val v)) cs[o]?)
      (Option.rec (motive := fun _ => Bool) false (fun n => Bool.rec (motive := fun _ => Bool) false (k (.val (.agg ((cs.drop o).take n)))) (Nat.ble (o + n) cs.length)) (sizeA P t)) ag) (aggOf P t)
def kLoad (t : TypeId) (a : Operand) : OpK := fun P T h k => evK a T fun x => loadK P h t x k
def kFieldAddr (s : TypeId) (x : Operand) (f : Nat) : OpK := fun P T h k => evK x T fun x => ptrK x fun b o => Option.rec (motive := fun _ => Bool) false (fun d => k (.val (.ptr b (o + d)))) (fieldOff P s f)
  where fieldOff (P : Program) (s : TypeId) (f : Nat) : Option Nat := match fieldAddrA P s (.ptr .one 0) f with | some (.val (.ptr _ d)) => some d | _ => none
def kNilCheck (x : Operand) : OpK := fun _ T _ k => evK x T fun x => Option.rec (motive := fun _ => Bool) false k (nilCheckA x)
def kBin (op : BinOp) (t : TypeId) (x y : Operand) : OpK := fun P T _ k => evK x T fun x => evK y T fun y => Option.rec (motive := fun _ => Bool) false k (binA P op t x y)
def kExtract (t : Operand) (i : Nat) : OpK := fun _ T _ k => evK t T fun x => Option.rec (motive := fun _ => Bool) false k (extractA x i)
def kStore (t : TypeId) (a x : Operand) : OpK := fun P T h k => evK a T fun a => evK x T fun x => Option.rec (motive := fun _ => Bool) false k (storeA P h t a x)
def kOf (op : Op) : OpK := fun P T h k => Option.rec (motive := fun _ => Bool) false k (opF op P 0 T h)

/-- Which operation: closed branches, one look. -/
def opK (op : Op) : OpK :=
  Op.rec (motive := fun _ => OpK) (fun x => kMove x) (fun x => kMove x) (fun c a b => kPick c a b) (fun e => slowK (oAlloc e)) (fun _ x => slowK (oBox x)) (fun t p => slowK (oBuild t p)) (fun t n p => slowK (oBuildSlice t n p)) (fun t m k v => slowK (oUpdate t m k v))
    (fun t a => kLoad t a) (fun t a v => kStore t a v) (fun _ => slowK oNone) (fun _ => slowK oNone) (fun x => kNilCheck x) (fun op t x y _ => kBin op t x y) (fun op _ x => slowK (oUn op x)) (fun s d x => slowK (oConv s d x)) (fun _ _ => slowK oNone) (fun t x => slowK (oMkIface t x))
    (fun f a c => slowK (oMkFunc f a c)) (fun _ r => slowK (oMkMap r)) (fun _ _ => slowK oNone) (fun t l c => slowK (oMkSlice t l c)) (fun t x l hi m => slowK (oSlice t x l hi m)) (fun t x f => kFieldAddr t x f) (fun t x f => slowK (oField t x f)) (fun t x i => slowK (oIndexAddr t x i)) (fun t x i => slowK (oIndex t x i))
    (fun t x i ok => slowK (oLookup t x i ok)) (fun t m k v => slowK (oUpdate t m k v)) (fun t m k => slowK (oMapEntry t m k)) (fun _ m s x => slowK (oEntryStore m s x)) (fun t x => slowK (oRange t x)) (fun i s => slowK (oNext i s)) (fun i => slowK (oEntry i)) (fun x _ t ok => slowK (oAssert x t ok)) (fun t i => kExtract t i)
    (fun c => slowK (oCall c)) (fun _ => slowK oNone) (fun _ => slowK oNone) (fun _ => slowK oNone) (fun _ _ => slowK oNone) (fun _ _ _ => slowK oNone) (fun _ _ => slowK oNone) op

/-- A result, applied: one look. -/
def applyF (r : ORes) (h : AH) (k : AV → AH → Bool) : Bool :=
  ORes.rec (motive := fun _ => AH → (AV → AH → Bool) → Bool) (fun v h k => fV v fun v => k v h) (fun b i vs v h k => cellsK h b fun cs => fV v fun v => storesK vs i h b cs fun h => k v h)
    (fun o kd h k => fV (kd.av h.nx) fun v => pushK h o fun h => k v h) (fun b o v h k => fV v fun v => setK h b o fun h => k v h) (fun b cs kd h k => fV (kd.av h.nx) fun v => dropK h b fun h => pushK h (.cells cs) fun h => k v h) r h k

/-- A call or not: closed branches. -/
def isCallF (op : Op) : Option Call :=
  Op.rec (motive := fun _ => Option Call) (fun _ => none) (fun _ => none) (fun _ _ _ => none) (fun _ => none) (fun _ _ => none) (fun _ _ => none) (fun _ _ _ => none) (fun _ _ _ _ => none)
    (fun _ _ => none) (fun _ _ _ => none) (fun _ => none) (fun _ => none) (fun _ => none) (fun _ _ _ _ _ => none) (fun _ _ _ => none) (fun _ _ _ => none) (fun _ _ => none) (fun _ _ => none)
    (fun _ _ _ => none) (fun _ _ => none) (fun _ _ => none) (fun _ _ _ => none) (fun _ _ _ _ _ => none) (fun _ _ _ => none) (fun _ _ _ => none) (fun _ _ _ => none) (fun _ _ _ => none)
    (fun _ _ _ _ => none) (fun _ _ _ _ => none) (fun _ _ _ => none) (fun _ _ _ _ => none) (fun _ _ => none) (fun _ _ => none) (fun _ => none) (fun _ _ _ _ => none) (fun _ _ => none)
    (fun c => match c.callee with | .builtin _ => none | .value _ => some c | .invoke _ _ => some c) (fun _ => none) (fun _ => none) (fun _ => none) (fun _ _ => none) (fun _ _ _ => none) (fun _ _ => none) op

def operF (P : Program) (hk : Hook) (rec : Rec) (o : Oper) (T : PM AV) (h : AH) (k : AV → AH → Bool) : Bool :=
  Option.rec (motive := fun _ => Bool) (opK o.op P T h fun r => applyF r h k) (fun c => callOpK P hk rec c T h k) (isCallF o.op)

def tputF (n : Nat) (T : PM AV) (dst : Option Tmp) (v : AV) (k : PM AV → Bool) : Bool :=
  Option.rec (motive := fun _ => Bool) (k T) (fun d => Bool.rec (motive := fun _ => Bool) false (T.putK (posOf d) (some v) k) (Nat.ble (Nat.succ d) n)) dst
def wantedF (ops : Array Oper) (T : PM AV) (o : Oper) : Option Bool := Option.rec (motive := fun _ => Option Bool) (some true) (fun _ => wantedA ops T o) o.guard
def goOnF (P : Program) (hk : Hook) (rec : Rec) (n : Nat) (all : Array Oper) (o : Oper) (T : PM AV) (h : AH) (k : PM AV → AH → Bool) : Bool :=
  Option.rec (motive := fun _ => Bool) false (fun w => Bool.rec (motive := fun _ => Bool) (tputF n T o.dst .undef fun T => k T h) (operF P hk rec o T h fun v h => tputF n T o.dst v fun T => k T h) w) (wantedF all T o)
def opsF (P : Program) (hk : Hook) (rec : Rec) (n : Nat) (all : Array Oper) (ops : List Oper) (T : PM AV) (h : AH) (k : PM AV → AH → Bool) : Bool :=
  List.rec (motive := fun _ => PM AV → AH → (PM AV → AH → Bool) → Bool) (fun T h k => k T h) (fun o _ ih T h k => goOnF P hk rec n all o T h fun T h => ih T h k) ops T h k

def quietF (P : Program) (n : Nat) (all : Array Oper) (ops : List Oper) (T : PM AV) (h : AH) (k : PM AV → Bool) : Bool :=
  List.rec (motive := fun _ => PM AV → (PM AV → Bool) → Bool) (fun T k => k T) (fun o _ ih T k => Option.rec (motive := fun _ => Bool) false (fun w => Bool.rec (motive := fun _ => Bool) (tputF n T o.dst .undef fun T => ih T k)
    (opK o.op P T h fun r => ORes.rec (motive := fun _ => (AV → Bool) → Bool) (fun v k => fV v k) (fun _ _ _ _ _ => false) (fun _ _ _ => false) (fun _ _ _ _ => false) (fun _ _ _ _ => false) r fun v => tputF n T o.dst v fun T => ih T k) w) (wantedF all T o)) ops T k
def drawF (P : Program) (hk : Hook) (rec : Rec) (n : Nat) (ops : Array Oper) (T : PM AV) (h : AH) (k : PM AV → AH → Bool) : Bool :=
  Bool.rec (motive := fun _ => Bool) false (Bool.rec (motive := fun _ => Bool) (drawG P hk rec n ops T h k) (quietF P n ops ops.toList T h fun T => k T h) (allQuiet ops)) (regionOK ops)
def cRegionF (ops : Array Oper) (draw : Bool) : CodeF := fun P hk rec ctx T h m k =>
  Bool.rec (motive := fun _ => Bool) (opsF P hk rec ctx.n ops ops.toList T h fun T h => k .normal T h m) (drawF P hk rec ctx.n ops T h fun T h => k .normal T h m) draw
def codeG (c : Code) : CodeF :=
  Code.rec (motive := fun _ => CodeF) cSkip (fun _ ops draw => cRegionF ops draw) (fun a b _ _ => cSeq a b) (fun c a b _ _ => cCond c a b) (fun id c _ => cBlock id c) (fun c _ => cLoop c) (fun f ps a b _ _ => cRange f ps a b) (fun id => cExit id) (fun c _ => cScope c) (fun _ => cSkip) (fun _ => cNone) cRet (fun _ => cNone) c
def execF (P : Program) (hk : Hook) (fuel : Nat) : Rec := Nat.rec (motive := fun _ => Rec) (fun _ _ _ _ _ _ => false) (fun _ ih ctx c T h m k => codeG c P hk ih ctx T h m k) fuel
def runG (P : Program) (hk : Hook) (fuel : Nat) (f : FuncId) (args : List AV) (h : AH) (k : AV → AH → Bool) : Bool := callK P hk (execF P hk fuel) f args h k
end
end Go.Ax
