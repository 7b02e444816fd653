/- An abstract executor, fourteenth part: the executor itself. -/
import Derived.Test.YtapkhldfbdcblaaGreatDoorAxBi
set_option linter.unusedSectionVars false
set_option linter.unnecessarySimpa false
set_option linter.unusedSimpArgs false
set_option linter.unusedVariables false
namespace Go.Ax
noncomputable section

/-! aggregates, built -/
def fillA (place : Nat → Option (Nat × Nat)) (cells : List AV) : List (Nat × AV) → Option (List AV)
  | [] => some cells
  | (i, v) :: rest => match place i, v.cellsOf with
    | some (off, size), some vc => bif Nat.beq vc.length size && Nat.ble (off + vc.length) cells.length then fillA place (splice off vc cells) rest else none
    | _, _ => none
def evParts (T : PM AV) : List (Nat × Operand) → Option (List (Nat × AV))
  | [] => some []
  | (i, x) :: r => match evA T x, evParts T r with
    | some a, some as => some ((i, a) :: as)
    | _, _ => none
def placesA (P : Program) : List Field → Option (List (Nat × Nat))
  | [] => some []
  | f :: fs => match sizeA P f.type, placesA P fs with
    | some n, some r => some ((f.offset, n) :: r)
    | _, _ => none
def buildA (P : Program) (t : TypeId) (parts : List (Nat × AV)) : Option ORes :=
  match zeroA P t with
  | some z => match z.cellsOf, P.underlying t with
    | some zs, some (.struct fs) => match placesA P fs.toList with
      | some pl => match fillA (fun i => pl[i]?) zs parts with
        | some cs => some (.val (.agg cs))
        | none => none
      | none => none
    | some zs, some (.array _ el) => match sizeA P el with
      | some sz => match fillA (fun i => some (i * sz, sz)) zs parts with
        | some cs => some (.val (.agg cs))
        | none => none
      | none => none
    | _, _ => none
  | none => none
def repeatA (zs : List AV) : Nat → List AV
  | 0 => []
  | n + 1 => zs ++ repeatA zs n
def buildSliceA (P : Program) (t : TypeId) (len : Nat) (parts : List (Nat × AV)) : Option ORes :=
  match P.underlying t with
  | some (.slice el) => match sizeA P el, zeroA P el with
    | some sz, some z => match z.cellsOf with
      | some zs => bif (Nat.beq zs.length sz && Nat.blt 0 sz) && Nat.ble (len * sz) 65536 then (match fillA (fun i => some (i * sz, sz)) (repeatA zs len) parts with
        | some cs => bif allCells cs then some (.alloc (.cells cs) (.slice len (some len) sz)) else none
        | none => none) else none
      | none => none
    | _, _ => none
  | _ => none

def valO (v : Option AV) : Option ORes := match v with | some v => some (.val v) | none => none
def bind1 (a : Option AV) (f : AV → Option ORes) : Option ORes := match a with | some a => f a | none => none
def bind2 (a b : Option AV) (f : AV → AV → Option ORes) : Option ORes := match a, b with | some a, some b => f a b | _, _ => none
def bind3 (a b c : Option AV) (f : AV → AV → AV → Option ORes) : Option ORes := match a, b, c with | some a, some b, some c => f a b c | _, _, _ => none

def builtinA (P : Program) (h : AH) (b : Builtin) (ts : Array TypeId) (args : List AV) : Option ORes :=
  match b, ts[0]? with
  | .len, some t => match args with | [x] => lenA P h t x | _ => none
  | .cap, some t => match args with | [x] => capA P t x | _ => none
  | .append, some t => match args, ts[1]? with | [x, y], some xt => appendA P h t xt x y | _, _ => none
  | .copy, some t => match args with | [x, y] => copyA P h t x y | _ => none
  | .delete, some t => match args with | [x, y] => deleteA P h t x y | _ => none
  | .clear, some t => match args with | [x] => clearA P h t x | _ => none
  | .min, _ => minmaxA ltI args
  | .max, _ => minmaxA (fun b a => ltI a b) args
  | _, _ => none

abbrev OpF := Program → TypeId → PM AV → AH → Option ORes
def oMove (x : Operand) : OpF := fun _ _ T _ => valO (evA T x)
def pickO (c : Option AV) (T : PM AV) (a b : Operand) : Option ORes :=
  match c with
  | some (.bool true) => valO (evA T a)
  | some (.bool false) => valO (evA T b)
  | _ => none
def oPick (c a b : Operand) : OpF := fun _ _ T _ => pickO (evA T c) T a b
def oAlloc (e : TypeId) : OpF := fun P _ _ _ => bind1 (zeroA P e) boxA
def oBox (x : Operand) : OpF := fun _ _ T _ => bind1 (evA T x) boxA
def oBuild (t : TypeId) (ps : Array (Nat × Operand)) : OpF := fun P _ T _ => match evParts T ps.toList with | some ps => buildA P t ps | none => none
def oBuildSlice (t : TypeId) (n : Nat) (ps : Array (Nat × Operand)) : OpF := fun P _ T _ => match evParts T ps.toList with | some ps => buildSliceA P t n ps | none => none
def oLoad (t : TypeId) (a : Operand) : OpF := fun P _ T h => bind1 (evA T a) (loadA P h t)
def oStore (t : TypeId) (a x : Operand) : OpF := fun P _ T h => bind2 (evA T a) (evA T x) (storeA P h t)
def oNilCheck (x : Operand) : OpF := fun _ _ T _ => bind1 (evA T x) nilCheckA
def oBin (op : BinOp) (t : TypeId) (x y : Operand) : OpF := fun P _ T _ => bind2 (evA T x) (evA T y) (binA P op t)
def oUn (op : UnOp) (x : Operand) : OpF := fun _ _ T _ => bind1 (evA T x) (unA op)
def oConv (s d : TypeId) (x : Operand) : OpF := fun P _ T h => bind1 (evA T x) (convA P h s d)
def oMkIface (t : TypeId) (x : Operand) : OpF := fun P _ T _ => bind1 (evA T x) (mkIfaceA P t)
def oMkFunc (fn : Fn) (a c : Array Operand) : OpF := fun _ _ T _ => makeFuncA T fn a c
def oMkMap (r : Option Operand) : OpF := fun _ _ _ _ => makeMapA r
def oMkSlice (t : TypeId) (l c : Operand) : OpF := fun P _ T _ => bind2 (evA T l) (evA T c) (makeSliceA P t)
def oSlice (t : TypeId) (x : Operand) (lo hi mx : Option Operand) : OpF := fun P _ T h => bind1 (evA T x) fun x => sliceA P h T t x lo hi mx
def oFieldAddr (s : TypeId) (x : Operand) (f : Nat) : OpF := fun P _ T _ => bind1 (evA T x) fun x => fieldAddrA P s x f
def oField (t : TypeId) (x : Operand) (f : Nat) : OpF := fun P _ T _ => bind1 (evA T x) fun x => fieldA P t x f
def oIndexAddr (t : TypeId) (x i : Operand) : OpF := fun P _ T _ => bind2 (evA T x) (evA T i) (indexAddrA P t)
def oIndex (t : TypeId) (x i : Operand) : OpF := fun P _ T _ => bind2 (evA T x) (evA T i) (indexA P t)
def oLookup (t : TypeId) (x i : Operand) (ok : Bool) : OpF := fun P _ T h => bind2 (evA T x) (evA T i) fun x i => lookupA P h t x i ok
def oUpdate (t : TypeId) (m k x : Operand) : OpF := fun P _ T h => bind3 (evA T m) (evA T k) (evA T x) (updateA P h t)
def oMapEntry (t : TypeId) (m k : Operand) : OpF := fun P _ T h => bind2 (evA T m) (evA T k) (mapEntryA P h t)
def oEntryStore (m s x : Operand) : OpF := fun _ _ T h => bind3 (evA T m) (evA T s) (evA T x) (entryStoreA h)
def oRange (t : TypeId) (x : Operand) : OpF := fun P _ T h => bind1 (evA T x) (rangeA P h t)
def oNext (it : Operand) (s : Bool) : OpF := fun _ _ T h => bif s then none else bind1 (evA T it) (nextA h)
def oEntry (it : Operand) : OpF := fun _ _ T h => bind1 (evA T it) (entryA h)
def oAssert (x : Operand) (t : TypeId) (ok : Bool) : OpF := fun P _ T _ => bind1 (evA T x) fun x => assertA P x t ok
def oExtract (t : Operand) (i : Nat) : OpF := fun _ _ T _ => bind1 (evA T t) fun x => extractA x i
def oBuiltin (b : Builtin) (ts : Array TypeId) (args : Array Operand) : OpF := fun P _ T h => match evAs T args.toList with
  | some as => builtinA P h b ts as
  | none => none
def oNone : OpF := fun _ _ _ _ => none
def callF (c : Callee) (ts : Array TypeId) (args : Array Operand) : OpF :=
  match c with
  | .builtin b => oBuiltin b ts args
  | .value _ => oNone
  | .invoke _ _ => oNone
def oCall (c : Call) : OpF := callF c.callee c.argTypes c.args
/-- What an operation that calls no function comes to. -/
def opF : Op → OpF
  | .move x => oMove x
  | .assign x => oMove x
  | .pick c a b => oPick c a b
  | .alloc e => oAlloc e
  | .box _ x => oBox x
  | .build t ps => oBuild t ps
  | .buildSlice t n ps => oBuildSlice t n ps
  | .load t a => oLoad t a
  | .store t a x => oStore t a x
  | .nilCheck x => oNilCheck x
  | .binOp op t x y _ => oBin op t x y
  | .unOp op _ x => oUn op x
  | .convert s d x => oConv s d x
  | .makeInterface t x => oMkIface t x
  | .makeFunc fn a c => oMkFunc fn a c
  | .makeMap _ r => oMkMap r
  | .makeSlice t l c => oMkSlice t l c
  | .slice t x lo hi mx => oSlice t x lo hi mx
  | .fieldAddr s x f => oFieldAddr s x f
  | .field t x f => oField t x f
  | .indexAddr t x i => oIndexAddr t x i
  | .index t x i => oIndex t x i
  | .lookup t x i ok => oLookup t x i ok
  | .mapUpdate t m k x => oUpdate t m k x
  | .insert t m k x => oUpdate t m k x
  | .mapEntry t m k => oMapEntry t m k
  | .entryStore _ m s x => oEntryStore m s x
  | .range t x => oRange t x
  | .next it s => oNext it s
  | .entry it => oEntry it
  | .typeAssert x _ t ok => oAssert x t ok
  | .extract t i => oExtract t i
  | .call c => oCall c
  | _ => oNone
def opA (P : Program) (o : Oper) (T : PM AV) (h : AH) : Option ORes := opF o.op P o.type T h

/-! handing on values written out -/
def fNat (n : Nat) (k : Nat → Bool) : Bool := Nat.rec (motive := fun _ => Bool) (k 0) (fun m _ => k m) (Nat.succ n)
def fInt (n : Int) (k : Int → Bool) : Bool := Int.rec (motive := fun _ => Bool) (fun m => fNat m fun m => k (.ofNat m)) (fun m => fNat m fun m => k (.negSucc m)) n
def fONat (n : Option Nat) (k : Option Nat → Bool) : Bool := Option.rec (motive := fun _ => Bool) (k none) (fun m => fNat m fun m => k (some m)) n
def fBool (b : Bool) (k : Bool → Bool) : Bool := Bool.rec (motive := fun _ => Bool) (k false) (k true) b
theorem fNat_eq (n : Nat) (k : Nat → Bool) : fNat n k = k n := rfl
theorem fInt_eq (n : Int) (k : Int → Bool) : fInt n k = k n := by cases n <;> simp [fInt, fNat_eq]
theorem fONat_eq (n : Option Nat) (k : Option Nat → Bool) : fONat n k = k n := by cases n <;> simp [fONat, fNat_eq]
theorem fBool_eq (b : Bool) (k : Bool → Bool) : fBool b k = k b := by cases b <;> rfl
/-- One cell's value. -/
def fCell (v : AV) (k : AV → Bool) : Bool :=
  match v with
  | .bool b => fBool b fun b => k (.bool b)
  | .int kd n => fInt n fun n => k (.int kd n)
  | .str len n => fNat len fun len => fNat n fun n => k (.str len n)
  | .ptr b o => fNat o fun o => k (.ptr b o)
  | .slice b o len cap sz => fNat o fun o => fNat len fun len => fONat cap fun cap => fNat sz fun sz => k (.slice b o len cap sz)
  | v => k v
theorem fCell_eq (v : AV) (k : AV → Bool) : fCell v k = k v := by
  cases v <;> simp [fCell, fNat_eq, fInt_eq, fONat_eq, fBool_eq]
def fList (l : List AV) (k : List AV → Bool) : Bool :=
  List.rec (motive := fun _ => (List AV → Bool) → Bool) (fun k => k []) (fun v _ ih k => fCell v fun v => ih fun r => k (v :: r)) l k
theorem fList_eq (l : List AV) : ∀ (k : List AV → Bool), fList l k = k l := by
  induction l with
  | nil => intro k; rfl
  | cons v l ih =>
    intro k
    show (fCell v fun v => fList l fun r => k (v :: r)) = _
    rw [fCell_eq, ih]
def fAgg (v : AV) (k : AV → Bool) : Bool :=
  match v with
  | .agg cs => fList cs fun cs => k (.agg cs)
  | v => fCell v k
theorem fAgg_eq (v : AV) (k : AV → Bool) : fAgg v k = k v := by
  cases v <;> simp only [fAgg, fCell_eq, fList_eq]
def fAggs (l : List AV) (k : List AV → Bool) : Bool :=
  List.rec (motive := fun _ => (List AV → Bool) → Bool) (fun k => k []) (fun v _ ih k => fAgg v fun v => ih fun r => k (v :: r)) l k
theorem fAggs_eq (l : List AV) : ∀ (k : List AV → Bool), fAggs l k = k l := by
  induction l with
  | nil => intro k; rfl
  | cons v l ih =>
    intro k
    show (fAgg v fun v => fAggs l fun r => k (v :: r)) = _
    rw [fAgg_eq, ih]
def fVal (v : AV) (k : AV → Bool) : Bool :=
  match v with
  | .tuple vs => fAggs vs fun vs => k (.tuple vs)
  | .iface t x => fAgg x fun x => k (.iface t x)
  | .func fn a c => fAggs a fun a => fAggs c fun c => k (.func fn a c)
  | v => fAgg v k
theorem fVal_eq (v : AV) (k : AV → Bool) : fVal v k = k v := by
  cases v <;> simp only [fVal, fAgg_eq, fAggs_eq]
def fEnts (l : List AEnt) (k : List AEnt → Bool) : Bool :=
  List.rec (motive := fun _ => (List AEnt → Bool) → Bool) (fun k => k []) (fun e _ ih k => match e with | (a, v, b) => fAgg a fun a => fVal v fun v => fNat b fun b => ih fun r => k ((a, v, b) :: r)) l k
theorem fEnts_eq (l : List AEnt) : ∀ (k : List AEnt → Bool), fEnts l k = k l := by
  induction l with
  | nil => intro k; rfl
  | cons e l ih =>
    intro k
    obtain ⟨a, v, b⟩ := e
    show (fAgg a fun a => fVal v fun v => fNat b fun b => fEnts l fun r => k ((a, v, b) :: r)) = _
    rw [fAgg_eq, fVal_eq, fNat_eq, ih]
def fNats (l : List Nat) (k : List Nat → Bool) : Bool :=
  List.rec (motive := fun _ => (List Nat → Bool) → Bool) (fun k => k []) (fun v _ ih k => fNat v fun v => ih fun r => k (v :: r)) l k
theorem fNats_eq (l : List Nat) : ∀ (k : List Nat → Bool), fNats l k = k l := by
  induction l with
  | nil => intro k; rfl
  | cons v l ih =>
    intro k
    show (fNat v fun v => fNats l fun r => k (v :: r)) = _
    rw [fNat_eq, ih]
def fObj (o : AObj) (k : AObj → Bool) : Bool :=
  match o with
  | .cells cs => fList cs fun cs => k (.cells cs)
  | .map es c => fEnts es fun es => fNat c fun c => k (.map es c)
  | .iter m s seen st => fNat s fun s => fNats seen fun seen => fNat st fun st => k (.iter m s seen st)
  | o => k o
theorem fObj_eq (o : AObj) (k : AObj → Bool) : fObj o k = k o := by
  cases o <;> simp only [fObj, fList_eq, fEnts_eq, fNat_eq, fNats_eq]
def fPos (p : Pos) (k : Pos → Bool) : Bool := fNat (Nat.succ p) k
theorem fPos_eq (p : Pos) (k : Pos → Bool) : fPos p k = k p.succ := rfl

def pushK (h : AH) (o : AObj) (k : AH → Bool) : Bool :=
  match h with
  | ⟨m, nx⟩ => fObj o fun o => m.putK nx (some o) fun m => fPos nx fun nx => k ⟨m, nx⟩
theorem pushK_eq (h : AH) (o : AObj) (k : AH → Bool) : pushK h o k = k (h.push o) := by
  simp only [pushK, fObj_eq, PM.putK_eq, fPos_eq]; rfl
def setK (h : AH) (b : Pos) (o : AObj) (k : AH → Bool) : Bool :=
  match h with
  | ⟨m, nx⟩ => fObj o fun o => m.putK b (some o) fun m => k ⟨m, nx⟩
theorem setK_eq (h : AH) (b : Pos) (o : AObj) (k : AH → Bool) : setK h b o k = k (h.set b o) := by
  simp only [setK, fObj_eq, PM.putK_eq]; rfl
def dropK (h : AH) (b : Pos) (k : AH → Bool) : Bool :=
  match h with
  | ⟨m, nx⟩ => m.putK b none fun m => k ⟨m, nx⟩
theorem dropK_eq (h : AH) (b : Pos) (k : AH → Bool) : dropK h b k = k (h.drop b) := by
  simp only [dropK, PM.putK_eq]; rfl

/-- Cells, written over, the others as they lie. -/
def overK (vs : List AV) (cs : List AV) (k : List AV → Bool) : Bool :=
  List.rec (motive := fun _ => List AV → (List AV → Bool) → Bool) (fun cs k => k cs) (fun v _ ih cs k => List.rec (motive := fun _ => Bool) (k []) (fun _ cs _ => ih cs fun r => k (v :: r)) cs) vs cs k
def spliceK (i : Nat) (vs cs : List AV) (k : List AV → Bool) : Bool :=
  Nat.rec (motive := fun _ => List AV → (List AV → Bool) → Bool) (fun cs k => overK vs cs k) (fun _ ih cs k => List.rec (motive := fun _ => Bool) (k []) (fun c cs _ => ih cs fun r => k (c :: r)) cs) i cs k
theorem overK_eq (vs : List AV) : ∀ (cs : List AV) (k : List AV → Bool), overK vs cs k = k (splice 0 vs cs) := by
  induction vs with
  | nil => intro cs k; simp [overK, splice]
  | cons v vs ih =>
    intro cs k
    cases cs with
    | nil => rfl
    | cons c cs => show (overK vs cs fun r => k (v :: r)) = _; rw [ih]; simp [splice]
theorem spliceK_eq (i : Nat) (vs : List AV) : ∀ (cs : List AV) (k : List AV → Bool), spliceK i vs cs k = k (splice i vs cs) := by
  induction i with
  | zero => intro cs k; exact overK_eq vs cs k
  | succ i ih =>
    intro cs k
    cases cs with
    | nil => rfl
    | cons c cs => show (spliceK i vs cs fun r => k (c :: r)) = _; rw [ih]; simp [splice]
def storesK (vs : List AV) (i : Nat) (h : AH) (b : Pos) (cs : List AV) (k : AH → Bool) : Bool :=
  match h with
  | ⟨m, nx⟩ => fList vs fun vs => spliceK i vs cs fun cs => m.putK b (some (.cells cs)) fun m => k ⟨m, nx⟩
theorem storesK_eq (vs : List AV) (i : Nat) (h : AH) (b : Pos) (cs : List AV) (k : AH → Bool) : storesK vs i h b cs k = k (h.set b (.cells (splice i vs cs))) := by
  simp only [storesK, fList_eq, spliceK_eq, PM.putK_eq]; rfl

/-- A result, applied. -/
def applyK (r : ORes) (h : AH) (k : AV → AH → Bool) : Bool :=
  match r with
  | .val v => fVal v fun v => k v h
  | .stores b i vs v => match h.m.get b with
    | some (.cells cs) => fVal v fun v => storesK vs i h b cs fun h => k v h
    | _ => k v h
  | .alloc o kd => fVal (kd.av h.nx) fun v => pushK h o fun h => k v h
  | .obj b o v => fVal v fun v => setK h b o fun h => k v h
  | .renew b cs kd => fVal (kd.av h.nx) fun v => dropK h b fun h => pushK h (.cells cs) fun h => k v h
theorem applyK_eq (r : ORes) (h : AH) (k : AV → AH → Bool) : applyK r h k = k (r.app h).1 (r.app h).2 := by
  cases r with
  | stores b i vs v =>
    simp only [applyK, ORes.app]
    cases hg : h.m.get b with
    | none => rfl
    | some o => cases o <;> simp only [fVal_eq, storesK_eq]
  | _ => simp only [applyK, fVal_eq, pushK_eq, setK_eq, dropK_eq, ORes.app]

/-! the executor -/
inductive CX where
  | normal
  | exit (id : Nat)
  | ret
structure Ctx where
  n : Nat
  round : Option Pos
abbrev Rec := Ctx → Code → PM AV → AH → List Pos → (CX → PM AV → AH → List Pos → Bool) → Bool

/-- A temporary is written. -/
def tputK (n : Nat) (T : PM AV) (dst : Option Tmp) (v : AV) (k : PM AV → Bool) : Bool :=
  match dst with
  | none => k T
  | some d => bif Nat.ble (Nat.succ d) n then T.putK (posOf d) (some v) k else false
def argsK (i : Nat) (args : List AV) (T : PM AV) (k : PM AV → Bool) : Bool :=
  match args with
  | [] => k T
  | a :: r => T.putK (posOf i) (some a) fun T => argsK (i + 1) r T k

/-- A guard: is the operation carried out? none: not known. -/
def wantedA (ops : Array Oper) (T : PM AV) (o : Oper) : Option Bool :=
  match o.guard with
  | none => some true
  | some (j, want) => match ops[j]? with
    | some g => match g.dst with
      | some d => bif Nat.ble d 1000000 then (match T.get (posOf d) with
        | some (.bool b) => some (b == want)
        | some (.tuple []) => some false
        | _ => none) else none
      | none => none
    | none => none

def resOf (P : Program) (h : AH) (T : PM AV) : ResultVar → Option AV
  | .tmp t => bif Nat.ble t 1000000 then T.get (posOf t) else none
  | .cell a t => bif Nat.ble a 1000000 then (match T.get (posOf a) with
    | some x => match loadA P h t x with
      | some (.val v) => some v
      | _ => none
    | none => none) else none
def ressOf (P : Program) (h : AH) (T : PM AV) : List ResultVar → Option (List AV)
  | [] => some []
  | r :: rs => match resOf P h T r, ressOf P h T rs with
    | some a, some as => some (a :: as)
    | _, _ => none
def resultA (P : Program) (h : AH) (T : PM AV) (rs : List ResultVar) : Option AV :=
  match ressOf P h T rs with
  | some [a] => some a
  | some as => some (.tuple as)
  | none => none

/-- The blocks for deferred calls are shut. -/
def closeK (m : List Pos) (h : AH) (k : AH → Bool) : Bool :=
  match m with
  | [] => k h
  | p :: r => match h.m.get p with
    | some .deferred => dropK h p fun h => closeK r h k
    | _ => false

/-- What is known of functions ahead: what a call hands on, or else what is to be done. -/
abbrev Hook := FuncId → List AV → AH → (AV → AH → Bool) → Bool → Bool
def noHook : Hook := fun _ _ _ _ z => z

/-- A function, called. -/
def callK (P : Program) (hk : Hook) (rec : Rec) (f : FuncId) (args : List AV) (h : AH) (k : AV → AH → Bool) : Bool :=
  hk f args h k (match P.funcs[f]? with
    | some fn => bif fn.name == "runtime.NumGoroutine" then false else match fn.body with
      | some c => bif Nat.ble args.length fn.ntmps && Nat.ble fn.ntmps 1000000 then argsK 0 args .nil fun T => rec ⟨fn.ntmps, none⟩ c T h [] fun x T h m =>
          match x with
          | .exit _ => false
          | _ => closeK m h fun h => match resultA P h T fn.results.toList with
            | some v => fVal v fun v => k v h
            | none => false
        else false
      | none => false
    | none => false)

/-- Whom a call calls. -/
def calleeA (T : PM AV) (c : Call) : Option (AV × List AV) :=
  match c.callee with
  | .value f => match evA T f, evAs T c.args.toList with
    | some fv, some as => some (fv, as)
    | _, _ => none
  | _ => none

/-- What a method's row in a type's table says: the function, and what is loaded for its receiver. -/
def methA (P : Program) (t : TypeId) (name : String) : Option (FuncId × Option TypeId) :=
  match P.info? t with
  | some i => match i.methods.find? (·.name == name) with
    | some m => match m.path.toList, m.func with
      | [], some (f, true) => match P.underlying t with
        | some (.pointer _) => some (f, none)
        | _ => none
      | [], some (f, false) => match P.underlying t with
        | some (.pointer el) => some (f, some el)
        | _ => none
      | _, _ => none
    | none => none
  | none => none
/-- Whom a call through an interface calls. -/
def invokeA (P : Program) (h : AH) (T : PM AV) (c : Call) : Option (FuncId × List AV) :=
  match c.callee with
  | .invoke r name => match evA T r, evAs T c.args.toList with
    | some (.iface t (.ptr b o)), some as => match methA P t name with
      | some (f, none) => some (f, .ptr b o :: as)
      | some (f, some el) => match loadA P h el (.ptr b o) with
        | some (.val u) => some (f, u :: as)
        | _ => none
      | none => none
    | _, _ => none
  | _ => none

/-- A round of a range over a function. -/
def putArgsK (n : Nat) (ps : List Tmp) (args : List AV) (T : PM AV) (k : PM AV → Bool) : Bool :=
  match ps, args with
  | [], [] => k T
  | p :: ps, a :: as => bif Nat.blt p n && Nat.ble p 1000000 then T.putK (posOf p) (some a) fun T => putArgsK n ps as T k else false
  | _, _ => false
def loopAt (h : AH) (b : Pos) : Option ALoop :=
  match h.m.get b with
  | some (.loop l) => some l
  | _ => none
def roundK (rec : Rec) (b : Pos) (args : List AV) (h : AH) (k : AV → AH → Bool) : Bool :=
  match loopAt h b with
  | some l => bif Nat.ble l.n 1000000 then putArgsK l.n l.params.toList args l.T fun T => rec ⟨l.n, some b⟩ l.assign T h [] fun x T h m =>
      match x, m, loopAt h b with
      | .normal, [], some l1 => match l1.state with
        | .ready => setK h b (.loop { l1 with state := .busy, pending := l1.pending }) fun h => rec ⟨l.n, some b⟩ l.body T h [] fun x T h m =>
            match m, loopAt h b with
            | [], some l => match x with
              | .normal => setK h b (.loop { l with state := .ready, pending := none }) fun h => k (.bool true) h
              | .ret => setK h b (.loop { l with state := .done, pending := some .ret }) fun h => k (.bool false) h
              | .exit id => setK h b (.loop { l with state := .done, pending := some (.exit id) }) fun h => k (.bool false) h
            | _, _ => false
        | _ => false
      | _, _, _ => false else false
  | none => false

/-- A function for which the model stands in: a map, copied. -/
def externA (P : Program) (f : FuncId) : Bool :=
  match P.funcs[f]? with
  | some fn => match fn.body with
    | none => (fn.name == "maps.clone") && (fn.origin == "")
    | some _ => false
  | none => false
def cloneK (args : List AV) (h : AH) (k : AV → AH → Bool) : Bool :=
  match args with
  | [.iface t (.map b)] => match h.m.get b with
    | some (.map es c) => pushK h (.map es c) fun h' => k (.iface t (.map h.nx)) h'
    | _ => false
  | _ => false

/-- A call of an operation. -/
def callOpK (P : Program) (hk : Hook) (rec : Rec) (c : Call) (T : PM AV) (h : AH) (k : AV → AH → Bool) : Bool :=
  match calleeA T c with
  | some (.func (.func f) a cp, as) => bif externA P f then cloneK (a ++ (as ++ cp)) h k else callK P hk rec f (a ++ (as ++ cp)) h k
  | some (.yield b, as) => roundK rec b as h k
  | some _ => false
  | none => match invokeA P h T c with
    | some (f, as) => callK P hk rec f as h k
    | none => false

def isCall (o : Oper) : Option Call :=
  match o.op with
  | .call c => match c.callee with
    | .builtin _ => none
    | _ => some c
  | _ => none

/-- One operation. -/
def operK (P : Program) (hk : Hook) (rec : Rec) (o : Oper) (T : PM AV) (h : AH) (k : AV → AH → Bool) : Bool :=
  match isCall o with
  | some c => callOpK P hk rec c T h k
  | none => match opA P o T h with
    | some r => applyK r h k
    | none => false

def goOn (w : Option Bool) (P : Program) (hk : Hook) (rec : Rec) (n : Nat) (o : Oper) (T : PM AV) (h : AH) (k : PM AV → AH → Bool) : Bool :=
  match w with
  | some true => operK P hk rec o T h fun v h => tputK n T o.dst v fun T => k T h
  | some false => tputK n T o.dst .undef fun T => k T h
  | none => false
def opsK (P : Program) (hk : Hook) (rec : Rec) (n : Nat) (all : Array Oper) (ops : List Oper) (T : PM AV) (h : AH) (k : PM AV → AH → Bool) : Bool :=
  List.rec (motive := fun _ => PM AV → AH → (PM AV → AH → Bool) → Bool) (fun T h k => k T h) (fun o _ ih T h k => goOn (wantedA all T o) P hk rec n o T h fun T h => ih T h k) ops T h k

/-! a region that draws its order -/
def beqL : List AV → List AV → Bool
  | [], [] => true
  | .int k a :: r, .int k' b :: s => (decide (k = k') && eqI a b) && beqL r s
  | .str la a :: r, .str lb b :: s => (Nat.beq la lb && Nat.beq a b) && beqL r s
  | .bool a :: r, .bool b :: s => (a == b) && beqL r s
  | .ptr p a :: r, .ptr q b :: s => (decide (p = q) && Nat.beq a b) && beqL r s
  | .nilp :: r, .nilp :: s => beqL r s
  | .nils :: r, .nils :: s => beqL r s
  | .nilm :: r, .nilm :: s => beqL r s
  | .map p :: r, .map q :: s => decide (p = q) && beqL r s
  | .slice p o l c z :: r, .slice q o' l' c' z' :: s => (((decide (p = q) && Nat.beq o o') && Nat.beq l l') && (decide (c = c') && Nat.beq z z')) && beqL r s
  | _, _ => false
def beqV : AV → AV → Bool
  | .agg a, .agg b => beqL a b
  | .tuple a, .tuple b => beqL a b
  | a, b => beqL [a] [b]

/-- An operation looked at once more, in another heap: does it come to the same value? -/
def sameQ (P : Program) (o : Oper) (T : PM AV) (v : AV) (h : AH) : Bool :=
  match opA P o T h with
  | some (.val u) => beqV u v
  | _ => false

def isLoud (o : Oper) : Bool :=
  match o.op with
  | .call c => match c.callee with
    | .builtin b => match b with
      | .append | .copy | .delete | .clear => true
      | _ => false
    | _ => true
  | .store .. | .mapUpdate .. | .insert .. | .mapEntry .. | .entryStore .. | .next .. => true
  | _ => false

/-- Does an operation only make a new block, whatever lies in the heap? -/
def isNew (o : Oper) : Bool :=
  match o.op with
  | .alloc _ | .box _ _ | .buildSlice _ _ _ | .makeMap _ _ | .makeSlice _ _ _ => true
  | .convert _ _ _ => true
  | _ => false
/-- The temporaries that an operation looks at or writes. -/
def looks (ops : Array Oper) (o : Oper) : List Tmp :=
  o.dst.toList ++ (o.op.operands.toList.filterMap fun | .tmp t => some t | _ => none) ++
  (match o.guard with
   | some (g, _) => match ops[g]? with
     | some q => q.dst.toList
     | none => []
   | none => [])
/-- Every operation that writes a temporary at which this one looks stands ahead of it or behind it. -/
def tempsAt (ops : List Oper) (before : Array Nat) (j : Nat) (t : Tmp) : Nat → Bool :=
  List.rec (motive := fun _ => Nat → Bool) (fun _ => true) (fun o _ ih i => (bif decide (o.dst = some t) then Nat.beq i j || (bif Nat.blt i j then Nat.testBit (before.getD j 0) i else Nat.testBit (before.getD i 0) j) else true) && ih (i + 1)) ops
def regionOK (ops : Array Oper) : Bool :=
  let b := Region.before ops
  (List.range ops.size).all fun j => match ops[j]? with
    | some o => (o.after.toList.all fun e => !Region.binds .any e || Nat.blt e.on j) &&
        ((looks ops o).all fun t => tempsAt ops.toList b j t 0) &&
        (!isLoud o || (List.range j).all fun i => match ops[i]? with
          | some q => !isLoud q || Nat.testBit (b.getD j 0) i
          | none => true)
    | none => true
def allQuiet (ops : Array Oper) : Bool := ops.toList.all fun o => !isLoud o && !isNew o

structure DSt where
  i : Nat                                  -- the operation's number
  T : PM AV
  h : AH
  louds : List (Nat × AH)                  -- the writing ones so far, the last one first, each with the heap ahead of it
  quiet : List (Nat × Oper × PM AV × AV)   -- the quiet ones that may come behind a writing one that follows
  pend : List (Nat × Pos × AObj)           -- new blocks that no writing one has needed

/-- Ahead of which writing operations may a quiet one stand? There it comes to the same. -/
def backOK (P : Program) (b : Nat) (o : Oper) (T : PM AV) (v : AV) : List (Nat × AH) → Bool
  | [] => true
  | (l, h) :: r => bif Nat.testBit b l then true else sameQ P o T v h && backOK P b o T v r
/-- Behind a writing operation: the quiet ones that don't stand ahead of it come to the same; they stay. -/
def frontK (P : Program) (bl : Nat) (h : AH) (qs : List (Nat × Oper × PM AV × AV)) (k : List (Nat × Oper × PM AV × AV) → Bool) : Bool :=
  match qs with
  | [] => k []
  | (j, o, T, v) :: r => bif Nat.testBit bl j then frontK P bl h r k else (sameQ P o T v h && frontK P bl h r fun r => k ((j, o, T, v) :: r))
def mergeK (bl : Nat) (h : AH) (ps : List (Nat × Pos × AObj)) (k : AH → List (Nat × Pos × AObj) → Bool) : Bool :=
  match ps with
  | [] => k h []
  | (j, p, o) :: r => bif Nat.testBit bl j then mergeK bl h r fun h r => setK h p o fun h => k h r else mergeK bl h r fun h r => k h ((j, p, o) :: r)
def mergeAllK (h : AH) (ps : List (Nat × Pos × AObj)) (k : AH → Bool) : Bool :=
  match ps with
  | [] => k h
  | (_, p, o) :: r => mergeAllK h r fun h => setK h p o k

def drawLoud (P : Program) (hk : Hook) (rec : Rec) (n b : Nat) (o : Oper) (s : DSt) (k : DSt → Bool) : Bool :=
  mergeK b s.h s.pend fun h pend => operK P hk rec o s.T h fun v h' =>
    frontK P b h' s.quiet fun quiet => tputK n s.T o.dst v fun T => k { i := Nat.succ s.i, T, h := h', louds := (s.i, s.h) :: s.louds, quiet, pend }
def drawQuiet (r : Option ORes) (P : Program) (n b : Nat) (o : Oper) (s : DSt) (k : DSt → Bool) : Bool :=
  match r with
  | some (.val v) => fVal v fun v => backOK P b o s.T v s.louds && tputK n s.T o.dst v fun T => k { i := Nat.succ s.i, T, h := s.h, louds := s.louds, quiet := (s.i, o, s.T, v) :: s.quiet, pend := s.pend }
  | _ => false
def drawNew (r r2 : Option ORes) (P : Program) (n b : Nat) (id : Pos) (o : Oper) (s : DSt) (k : DSt → Bool) : Bool :=
  match r with
  | some (.alloc ob kd) => fObj ob fun ob => fVal (kd.av id) fun v => tputK n s.T o.dst v fun T => k { i := Nat.succ s.i, T, h := s.h, louds := s.louds, quiet := s.quiet, pend := (s.i, id, ob) :: s.pend }
  | _ => drawQuiet r2 P n b o s k
def drawOne (w : Option Bool) (P : Program) (hk : Hook) (rec : Rec) (n b : Nat) (id : Pos) (o : Oper) (s : DSt) (k : DSt → Bool) : Bool :=
  match w with
  | some true => bif isLoud o then drawLoud P hk rec n b o s k else bif isNew o then drawNew (opA P o s.T ⟨.nil, .one⟩) (opA P o s.T s.h) P n b id o s k else drawQuiet (opA P o s.T s.h) P n b o s k
  | some false => tputK n s.T o.dst .undef fun T => k { s with i := Nat.succ s.i, T }
  | none => false
def drawAt (base : List Pos) (before : List Nat) (k : Pos → Nat → List Pos → List Nat → Bool) : Bool :=
  match base, before with
  | id :: base, b :: before => k id b base before
  | _, _ => false
def drawOpsK (P : Program) (hk : Hook) (rec : Rec) (n : Nat) (all : Array Oper) (before : List Nat) (base : List Pos) (ops : List Oper) (s : DSt) (k : PM AV → AH → Bool) : Bool :=
  List.rec (motive := fun _ => List Nat → List Pos → DSt → (PM AV → AH → Bool) → Bool) (fun _ _ s k => mergeAllK s.h s.pend fun h => k s.T h)
    (fun o _ ih before base s k => drawAt base before fun id b base before => drawOne (wantedA all s.T o) P hk rec n b id o s fun s => ih before base s k) ops before base s k

/-- Keys, set aside. -/
def idsK (ops : List Oper) (p : Pos) (k : List Pos → Pos → Bool) : Bool :=
  match ops with
  | [] => k [] p
  | _ :: os => fPos p fun q => idsK os q fun r e => k (p :: r) e

def quietOne (w : Option Bool) (P : Program) (n : Nat) (o : Oper) (T : PM AV) (h : AH) (k : PM AV → Bool) : Bool :=
  match w with
  | some true => match opA P o T h with
    | some (.val v) => fVal v fun v => tputK n T o.dst v k
    | _ => false
  | some false => tputK n T o.dst .undef k
  | none => false
def quietK (P : Program) (n : Nat) (all : Array Oper) (ops : List Oper) (T : PM AV) (h : AH) (k : PM AV → Bool) : Bool :=
  List.rec (motive := fun _ => PM AV → (PM AV → Bool) → Bool) (fun T k => k T) (fun o _ ih T k => quietOne (wantedA all T o) P n o T h fun T => ih T k) ops T k
def drawG (P : Program) (hk : Hook) (rec : Rec) (n : Nat) (ops : Array Oper) (T : PM AV) (h : AH) (k : PM AV → AH → Bool) : Bool :=
  idsK ops.toList h.nx fun base e => drawOpsK P hk rec n ops (Region.before ops).toList base ops.toList { i := 0, T, h := { h with nx := e }, louds := [], quiet := [], pend := [] } k
def drawK (P : Program) (hk : Hook) (rec : Rec) (n : Nat) (ops : Array Oper) (T : PM AV) (h : AH) (k : PM AV → AH → Bool) : Bool :=
  bif regionOK ops then (bif allQuiet ops then quietK P n ops ops.toList T h fun T => k T h else drawG P hk rec n ops T h k) else false

abbrev KC := CX → PM AV → AH → List Pos → Bool
abbrev CodeF := Program → Hook → Rec → Ctx → PM AV → AH → List Pos → KC → Bool
def cSkip : CodeF := fun _ _ _ _ T h m k => k .normal T h m
def cRegion (ops : Array Oper) (draw : Bool) : CodeF := fun P hk rec ctx T h m k =>
  bif draw then drawK P hk rec ctx.n ops T h fun T h => k .normal T h m else opsK P hk rec ctx.n ops ops.toList T h fun T h => k .normal T h m
def thenK (rec : Rec) (ctx : Ctx) (b : Code) (k : KC) : KC := fun x => match x with
  | .normal => fun T h m => rec ctx b T h m k
  | .exit id => k (.exit id)
  | .ret => k .ret
def cSeq (a b : Code) : CodeF := fun _ _ rec ctx T h m k => rec ctx a T h m (thenK rec ctx b k)
def condK (c : Option AV) (rec : Rec) (ctx : Ctx) (a b : Code) (T : PM AV) (h : AH) (m : List Pos) (k : KC) : Bool :=
  match c with
  | some (.bool b') => Bool.rec (motive := fun _ => Bool) (rec ctx b T h m k) (rec ctx a T h m k) b'
  | _ => false
def cCond (c : Operand) (a b : Code) : CodeF := fun _ _ rec ctx T h m k => condK (evA T c) rec ctx a b T h m k
def blockK (id : Nat) (k : KC) : KC := fun x => match x with
  | .normal => k .normal
  | .exit id' => bif Nat.beq id' id then k .normal else k (.exit id')
  | .ret => k .ret
def cBlock (id : Nat) (c : Code) : CodeF := fun _ _ rec ctx T h m k => rec ctx c T h m (blockK id k)
def cLoop (c : Code) : CodeF := fun _ _ rec ctx T h m k => rec ctx c T h m (thenK rec ctx (.loop c) k)
def cExit (id : Nat) : CodeF := fun _ _ _ _ T h m k => k (.exit id) T h m
def cRet : CodeF := fun _ _ _ _ T h m k => k .ret T h m
def cScope (c : Code) : CodeF := fun _ _ rec ctx T h m k => rec ctx c T h m k
def endLoopK (l : Option ALoop) (L D : Pos) (T : PM AV) (h : AH) (m : List Pos) (k : KC) : Bool :=
  match l with
  | some l => match l.state with
    | .busy => false
    | _ => setK h L (.loop { l with state := .exhausted }) fun h => match l.pending with
      | none => k .normal T h (D :: m)
      | some .ret => k .ret T h (D :: m)
      | some (.exit id) => k (.exit id) T h (D :: m)
      | _ => false
  | none => false
def rangeK (P : Program) (hk : Hook) (rec : Rec) (ctx : Ctx) (r : Option Pos) (f : Option AV) (params : Array Tmp) (assign body : Code) (T : PM AV) (h : AH) (m : List Pos) (k : KC) : Bool :=
  match r, f with
  | none, some (.func (.func g) a cp) => pushK h .deferred fun h1 => pushK h1 (.loop { state := .ready, pending := none, T, n := ctx.n, params, assign, body, defers := h.nx }) fun h2 =>
      callK P hk rec g (a ++ (.yield h1.nx :: cp)) h2 fun _ h3 => endLoopK (loopAt h3 h1.nx) h1.nx h.nx T h3 m k
  | _, _ => false
def cRange (f : Operand) (params : Array Tmp) (assign body : Code) : CodeF := fun P hk rec ctx T h m k => rangeK P hk rec ctx ctx.round (evA T f) params assign body T h m k
def cNone : CodeF := fun _ _ _ _ _ _ _ _ => false
/-- One step of code. -/
def codeF : Code → CodeF
  | .skip => cSkip
  | .region _ ops draw => cRegion ops draw
  | .seq a b => cSeq a b
  | .cond c a b => cCond c a b
  | .block id c => cBlock id c
  | .loop c => cLoop c
  | .exit id => cExit id
  | .ret => cRet
  | .label _ => cSkip
  | .scope c => cScope c
  | .rangeFunc f params assign body => cRange f params assign body
  | .goto _ => cNone
  | .refuse _ => cNone
def stepC (P : Program) (hk : Hook) (rec : Rec) : Rec := fun ctx c T h m k => codeF c P hk rec ctx T h m k

def exec (P : Program) (hk : Hook) (fuel : Nat) : Rec := Nat.rec (motive := fun _ => Rec) (fun _ _ _ _ _ _ => false) (fun _ ih => stepC P hk ih) fuel
/-- A function, run from nothing: is what it returns as it should be? -/
def runF (P : Program) (hk : Hook) (fuel : Nat) (f : FuncId) (args : List AV) (h : AH) (k : AV → AH → Bool) : Bool := callK P hk (exec P hk fuel) f args h k
end
end Go.Ax
