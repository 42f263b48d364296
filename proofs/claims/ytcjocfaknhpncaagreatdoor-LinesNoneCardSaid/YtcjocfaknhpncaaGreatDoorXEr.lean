/- The evaluator of code: regions (in the text's order; where the order is drawn, what shows that it is all the same), control, calls, ranges over functions. -/
import Derived.Test.YtcjocfaknhpncaaGreatDoorXEp
namespace Go.Ev
open Go

noncomputable def Ex.exit' : Ex → Exit
  | .normal => .normal
  | .exit i => .exit i
  | .ret => .ret

mutual
noncomputable def LV.beq : LV → LV → Bool
  | .bool a, .bool b => bif a then b else !b
  | .int k a, .int k' b => Nat.beq (kIdx k) (kIdx k') && eqI a b
  | .str a, .str b => eqL a b
  | .ptr none, .ptr none => true
  | .ptr (some (a, o)), .ptr (some (b, p)) => Nat.beq a b && Nat.beq o p
  | .sl none l c none, .sl none l' c' none => Nat.beq l l' && Nat.beq c c'
  | .sl (some (a, o)) l c none, .sl (some (b, p)) l' c' none => Nat.beq a b && Nat.beq o p && (Nat.beq l l' && Nat.beq c c')
  | .sl (some (a, o)) l c (some w), .sl (some (b, p)) l' c' (some w') => Nat.beq a b && Nat.beq o p && (Nat.beq l l' && Nat.beq c c') && Nat.beq w w'
  | .map none, .map none => true
  | .map (some a), .map (some b) => Nat.beq a b
  | .fn (.func k) x y, .fn (.func k') x' y' => Nat.beq k k' && (LV.beqs x x' && LV.beqs y y')
  | .nilFn, .nilFn => true
  | .iface t v, .iface t' v' => Nat.beq t t' && LV.beq v v'
  | .nilIface, .nilIface => true
  | .agg x, .agg y => LV.beqs x y
  | .tup x, .tup y => LV.beqs x y
  | _, _ => false
noncomputable def LV.beqs : List LV → List LV → Bool
  | [], [] => true
  | a :: x, b :: y => LV.beq a b && LV.beqs x y
  | _, _ => false
end

noncomputable def wanted (ops : Array Oper) (t : T LV) (o : Oper) : Bool := match o.guard with
  | none => true
  | some (j, want) => match ops[j]? with
    | some g => match g.dst with
      | some d => match t.get d with
        | some (.bool b) => b == want
        | _ => false
      | none => false
    | none => false

noncomputable def put (t : T LV) (nt : Nat) (dst : Option Tmp) (v : LV) : Option (T LV) := match dst with
  | none => some t
  | some d => bif Nat.blt d nt then v.force fun v => (t.set d v).force fun t => some t else none

inductive Task where
  | code (ro : Option Nat) (nt : Nat) (c : Code) (s : St)
  | call (h : LH) (g : LV) (args : List LV)
  | fn (h : LH) (k : FuncId) (args : List LV)
  | defers (ds : List DI) (h : LH)
  | dcode (nt : Nat) (c : Code) (s : St)
  | dcall (h : LH) (k : FuncId) (args : List LV)

inductive Res where
  | stuck
  | code (e : Ex) (s : St)
  | val (v : LV) (h : LH)

section
variable (E : Env)

noncomputable def opPut (nt : Nat) (o : Oper) (d : List DI) (t : T LV) (k : St → Res) (v : LV) (h : LH) : Res := match put t nt o.dst v with
  | some t => k ⟨t, h, d⟩
  | none => .stuck
noncomputable def opRec (k : LV → LH → Res) (r : Res) : Res := match r with
  | .val v h => k v h
  | _ => .stuck
/-- one operation that is wanted -/
noncomputable def opVal (rec : Task → Res) (o : Oper) (t : T LV) (h : LH) (k : LV → LH → Res) : Res := match o.op with
  | .call c => match c.callee with
    | .value g => match evalO E t g with
      | some g => match evalOs E t c.args.toList with
        | some args => opRec k (rec (.call h g args))
        | none => .stuck
      | none => .stuck
    | _ => match step1 E h t o.op with
      | some (v, h) => k v h
      | none => .stuck
  | _ => match step1 E h t o.op with
    | some (v, h) => k v h
    | none => .stuck
noncomputable def opDefer (ro : Option Nat) (nt : Nat) (o : Oper) (s : St) (k : St → Res) (G : Option LV) (args : Option (List LV)) : Res := match ro with
  | some _ => .stuck
  | none => match G with
    | some (.fn f first cap) => match f with
      | .func i => match args with
        | some args => opPut nt o (.call i (first ++ args) cap :: s.d) s.t k .undef s.h
        | none => .stuck
      | _ => .stuck
    | _ => .stuck
noncomputable def opS (ro : Option Nat) (rec : Task → Res) (nt : Nat) (ops : Array Oper) (o : Oper) (s : St) (k : St → Res) : Res :=
  bif wanted ops s.t o then (match o.op with
    | .defer c => match c.callee with
      | .value g => opDefer ro nt o s k (evalO E s.t g) (evalOs E s.t c.args.toList)
      | _ => .stuck
    | _ => opVal E rec o s.t s.h (opPut nt o s.d s.t k)) else opPut nt o s.d s.t k .undef s.h

noncomputable def opsS (ro : Option Nat) (rec : Task → Res) (nt : Nat) (ops : Array Oper) (os : List Oper) : St → Res :=
  List.rec (motive := fun _ => St → Res) (fun s => .code .normal s) (fun o _ ih s => opS E ro rec nt ops o s ih) os
theorem opsS_nil (ro : Option Nat) (rec : Task → Res) (nt : Nat) (ops : Array Oper) (s : St) : opsS E ro rec nt ops [] s = .code .normal s := rfl
theorem opsS_cons (ro : Option Nat) (rec : Task → Res) (nt : Nat) (ops : Array Oper) (o : Oper) (os : List Oper) (s : St) : opsS E ro rec nt ops (o :: os) s = opS E ro rec nt ops o s fun s => opsS E ro rec nt ops os s := rfl

/-! the code of a function that was deferred, where nobody panics -/
noncomputable def isRecover : Op → Bool
  | .call c => match c.callee with
    | .builtin .recover => true
    | _ => false
  | _ => false
noncomputable def anyRecover : List Oper → Bool
  | [] => false
  | o :: os => bif isRecover o.op then true else anyRecover os
noncomputable def opD (nt : Nat) (ops : Array Oper) (o : Oper) (s : St) (k : St → Res) : Res :=
  bif wanted ops s.t o then bif isRecover o.op then opPut nt o s.d s.t k .nilIface s.h else (match step1 E s.h s.t o.op with
    | some (v, h) => opPut nt o s.d s.t k v h
    | none => .stuck) else opPut nt o s.d s.t k .undef s.h
noncomputable def opsD (nt : Nat) (ops : Array Oper) : List Oper → St → Res
  | [], s => .code .normal s
  | o :: os, s => opD E nt ops o s fun s => opsD nt ops os s

/-! regions whose order is drawn -/

noncomputable def bit (m k : Nat) : Bool := Nat.testBit m k
/-- what goes ahead of an operation, whatever is drawn -/
noncomputable def maskE (bs : List Nat) (i : Nat) : List Edge → Nat → Option Nat
  | [], m => some m
  | e :: es, m => bif Region.binds .any e then
      bif Nat.blt e.on i then match bs[Nat.sub (Nat.sub i 1) e.on]? with
        | some b => maskE bs i es (Nat.lor m (Nat.lor b (Nat.pow 2 e.on)))
        | none => none
      else none
    else maskE bs i es m
/-- an operation that went by: its number, what it writes to, what it looks at, what goes ahead of it -/
structure Gone where
  i : Nat
  dst : Option Tmp
  looks : List Tmp
  m : Nat
noncomputable def memN (d : Nat) : List Nat → Bool
  | [] => false
  | x :: l => bif Nat.beq d x then true else memN d l
/-- two operations of which neither goes ahead of the other by all means do not see one another; where one does, it may only see its past -/
noncomputable def apartG (dst : Option Tmp) (looks : List Tmp) (m : Nat) (g : Gone) : Bool := bif bit m g.i then (match dst, g.dst with
    | some d, some e => !(Nat.beq d e)
    | _, _ => true)
  else (match dst with
    | some d => !(memN d g.looks) && (match g.dst with | some e => !(Nat.beq d e) | none => true)
    | none => true) && (match g.dst with
    | some e => !(memN e looks)
    | none => true)
noncomputable def apartAll (dst : Option Tmp) (looks : List Tmp) (m : Nat) : List Gone → Bool
  | [] => true
  | g :: gs => apartG dst looks m g && apartAll dst looks m gs
/-- an operation that reads: its number, what it is, at which temporaries, what it answers -/
structure Rd where
  i : Nat
  o : Oper
  t : T LV
  v : LV
noncomputable def sameAt (h : LH) (r : Rd) : Bool := match step1 E h r.t r.o.op with
  | some (v, h') => LV.beq r.v v && Nat.beq h'.nx h.nx
  | none => false
/-- at the heaps of before, as far as it may be drawn ahead -/
noncomputable def backOk (m : Nat) (r : Rd) : List (Nat × LH) → Bool
  | [] => true
  | (k, h) :: l => bif bit m k then true else sameAt E h r && backOk m r l
/-- at the heap behind a writer -/
noncomputable def forthOk (m : Nat) (h : LH) : List Rd → Option (List Rd)
  | [] => some []
  | r :: l => bif bit m r.i then forthOk m h l else bif sameAt E h r then match forthOk m h l with
      | some l => some (r :: l)
      | none => none
    else none
noncomputable def isCall : Op → Bool
  | .call c => match c.callee with
    | .builtin .len => false
    | .builtin .cap => false
    | .builtin .min => false
    | .builtin .max => false
    | _ => true
  | .store .. => true
  | .mapUpdate .. => true
  | _ => false
/-! operations that make a block out of what their operands are: the block is laid when one looks for it -/
inductive MV where
  | ptr
  | sl (l c : Nat)
  | map
noncomputable def MV.at (v : MV) (r : Nat) : LV := match v with
  | .ptr => .ptr (some (r, 0))
  | .sl l c => .sl (some (r, 0)) l c none
  | .map => .map (some r)
noncomputable def isMake : Op → Bool
  | .alloc _ => true
  | .box .. => true
  | .buildSlice .. => true
  | .makeSlice .. => true
  | .makeMap .. => true
  | _ => false
noncomputable def madeOf (cs : List LV) (v : MV) : Option (LObj × MV) := mkCells cs none fun o => some (o, v)
noncomputable def makeOf (t : T LV) (o : Op) : Option (LObj × MV) := match o with
  | .alloc e => obind (zeroCells E e) fun z => madeOf z .ptr
  | .box _ x => obind (evalO E t x) fun v => madeOf v.cells .ptr
  | .buildSlice ty n ps => obind (evalP E t ps.toList) fun ps => obind (desc E ty) fun d => match d with
    | .slice e => obind (sizeOf E e) fun sz => obind (zeroCells E e) fun z =>
      bif Nat.ble (Nat.mul n sz) 16777216 && Nat.beq z.length sz then
        obind (fillL (placeA sz) ps (repl z n)) fun cs => madeOf cs (.sl n n)
      else none
    | _ => none
  | .makeSlice ty l c => obind (evalO E t l) fun l => obind (evalO E t c) fun c => obind (desc E ty) fun d => match d with
    | .slice e => obind (sizeOf E e) fun sz => obind (zeroCells E e) fun z => match l with
      | .int _ (.ofNat l) => match c with
        | .int _ (.ofNat c) => bif Nat.ble l c && (Nat.ble c 16777216 && Nat.beq z.length sz) then fNat l fun l => fNat c fun c => madeOf (repl z c) (.sl l c) else none
        | _ => none
      | _ => none
    | _ => none
  | .makeMap _ r => match r with
    | none => some (.map [] 0, .map)
    | some _ => none
  | _ => none
/-- a block that was made and is not laid yet: the operation, its number, what it holds -/
structure Pd where
  i : Nat
  r : Nat
  ob : LObj
noncomputable def layP : List Pd → LH → LH
  | [], h => h
  | q :: l, h => (h.m.set q.r q.ob).force fun m => layP l ⟨m, h.nx, h.lo⟩
/-- those that go ahead, and the others -/
noncomputable def splitP (m : Nat) : List Pd → List Pd × List Pd
  | [] => ([], [])
  | q :: l => match splitP m l with
    | (a, b) => bif bit m q.i then (q :: a, b) else (a, q :: b)
structure Dr where
  i : Nat
  bs : List Nat
  gs : List Gone
  hs : List (Nat × LH)
  rs : List Rd
  nb : Nat
  pl : List Pd
noncomputable def drawPut (nt : Nat) (o : Oper) (s : St) (m : Nat) (D : Dr) (looks : List Tmp) (hs : List (Nat × LH)) (rs : List Rd) (pl : List Pd) (k : St → Dr → Res) (v : LV) (h : LH) : Res :=
  fNat m fun m => fNat (Nat.succ D.i) fun i => opPut nt o s.d s.t (fun s => k s ⟨i, m :: D.bs, ⟨D.i, o.dst, looks, m⟩ :: D.gs, hs, rs, D.nb, pl⟩) v h
noncomputable def lastOk (m : Nat) : List (Nat × LH) → Bool
  | [] => true
  | (k, _) :: _ => bit m k
noncomputable def drawVal (nt : Nat) (o : Oper) (s : St) (m : Nat) (D : Dr) (looks : List Tmp) (call : Bool) (pl : List Pd) (k : St → Dr → Res) (v : LV) (h : LH) : Res :=
  bif !call && Nat.beq h.nx s.h.nx then
    bif backOk E m ⟨D.i, o, s.t, v⟩ D.hs then drawPut nt o s m D looks D.hs (⟨D.i, o, s.t, v⟩ :: D.rs) pl k v s.h else .stuck
  else bif lastOk m D.hs then match forthOk E m h D.rs with
      | some rs => drawPut nt o s m D looks ((D.i, s.h) :: D.hs) rs pl k v h
      | none => .stuck
    else .stuck
noncomputable def drawMake (nt : Nat) (o : Oper) (s : St) (m : Nat) (D : Dr) (looks : List Tmp) (k : St → Dr → Res) (r : Option (LObj × MV)) : Res := match r with
  | some (ob, v) => fNat (Nat.add D.nb D.i) fun r => drawPut nt o s m D looks D.hs D.rs (⟨D.i, r, ob⟩ :: D.pl) k (v.at r) s.h
  | none => .stuck
noncomputable def drawCall (rec : Task → Res) (nt : Nat) (o : Oper) (s : St) (m : Nat) (D : Dr) (looks : List Tmp) (k : St → Dr → Res) (p : List Pd × List Pd) : Res := match p with
  | (a, b) => opVal E rec o s.t (layP a s.h) (drawVal E nt o s m D looks true b k)
noncomputable def drawS (rec : Task → Res) (nt : Nat) (ops : Array Oper) (o : Oper) (s : St) (D : Dr) (k : St → Dr → Res) : Res :=
  match maskE D.bs D.i o.after.toList 0 with
  | none => .stuck
  | some m => bif apartAll o.dst (o.looksAt ops) m D.gs then
      bif wanted ops s.t o then
        bif isMake o.op then drawMake nt o s m D (o.looksAt ops) k (makeOf E s.t o.op)
        else bif isCall o.op then drawCall E rec nt o s m D (o.looksAt ops) k (splitP m D.pl)
        else opVal E rec o s.t s.h (drawVal E nt o s m D (o.looksAt ops) false D.pl k)
      else drawPut nt o s m D (o.looksAt ops) D.hs D.rs D.pl k .undef s.h
    else .stuck
noncomputable def drawsS (rec : Task → Res) (nt : Nat) (ops : Array Oper) : List Oper → St → Dr → Res
  | [], s, D => .code .normal ⟨s.t, layP D.pl s.h, s.d⟩
  | o :: os, s, D => drawS E rec nt ops o s D fun s D => drawsS rec nt ops os s D
noncomputable def drawR (rec : Task → Res) (nt : Nat) (ops : Array Oper) (s : St) : Res :=
  fNat (Nat.add s.h.nx ops.size) fun nx => drawsS E rec nt ops ops.toList ⟨s.t, ⟨s.h.m, nx, s.h.lo⟩, s.d⟩ ⟨0, [], [], [], [], s.h.nx, []⟩

/-! control -/

noncomputable def zipSet : List Tmp → List LV → T LV → T LV
  | p :: ps, v :: vs, t => v.force fun v => (t.set p v).force fun t => zipSet ps vs t
  | _, _, t => t

noncomputable def resultsV (h : LH) (t : T LV) : List ResultVar → Option (List LV)
  | [] => some []
  | .tmp i :: r => obind (resultsV h t r) fun vs => some ((match t.get i with | some v => v | none => .undef) :: vs)
  | .cell a ty :: r => match t.get a with
    | some (.ptr (some (b, o))) => obind (loadV E h ty b o) fun v => obind (resultsV h t r) fun vs => some (v :: vs)
    | _ => none

noncomputable def tSeq (rec : Task → Res) (ro : Option Nat) (nt : Nat) (b : Code) (r : Res) : Res := match r with
  | .code e s => match e with
    | .normal => rec (.code ro nt b s)
    | e => .code e s
  | _ => .stuck
noncomputable def tCond (rec : Task → Res) (ro : Option Nat) (nt : Nat) (a b : Code) (s : St) (c : Option LV) : Res := match c with
  | some (.bool x) => bif x then rec (.code ro nt a s) else rec (.code ro nt b s)
  | _ => .stuck
noncomputable def tBlock (id : Nat) (r : Res) : Res := match r with
  | .code e s => match e with
    | .exit i => .code (bif Nat.beq i id then .normal else .exit i) s
    | e => .code e s
  | _ => .stuck
noncomputable def tRange3 (s : St) (D : Nat) (h : LH) (o : Option LObj) (m : T LObj) : Res := match o with
  | some (.loop st pend _ _ _ _ _) => match st with
    | .busy => .stuck
    | _ => match pend with
      | none => .code .normal ⟨s.t, ⟨m, h.nx, h.lo⟩, .mark D :: s.d⟩
      | some .ret => .code .ret ⟨s.t, ⟨m, h.nx, h.lo⟩, .mark D :: s.d⟩
      | some (.exit i) => .code (.exit i) ⟨s.t, ⟨m, h.nx, h.lo⟩, .mark D :: s.d⟩
      | _ => .stuck
  | _ => .stuck
noncomputable def tRange2 (s : St) (D l : Nat) (r : Res) : Res := match r with
  | .val _ h => (h.m.del l).force fun m => tRange3 s D h (h.m.get l) m
  | _ => .stuck
noncomputable def tRange (rec : Task → Res) (nt : Nat) (ps : Array Tmp) (as body : Code) (s : St) (g : Option LV) : Res := match g with
  | some (.fn (.func k) [] cap) => match E.orac.get k with
    | none => s.h.alloc .defd fun D h => h.alloc (.loop .ready none nt s.t ps.toList as body) fun l h =>
      tRange2 s D l (rec (.fn h k (.fn (.yield l) [] [] :: cap)))
    | some _ => .stuck
  | _ => .stuck
noncomputable def tCode (rec : Task → Res) (ro : Option Nat) (nt : Nat) (s : St) (c : Code) : Res := match c with
  | .skip => .code .normal s
  | .label _ => .code .normal s
  | .region _ ops draw => bif draw then drawR E rec nt ops s else opsS E ro rec nt ops ops.toList s
  | .seq a b => tSeq rec ro nt b (rec (.code ro nt a s))
  | .cond c a b => tCond rec ro nt a b s (evalO E s.t c)
  | .block id c => tBlock id (rec (.code ro nt c s))
  | .loop c => tSeq rec ro nt (.loop c) (rec (.code ro nt c s))
  | .exit id => .code (.exit id) s
  | .scope c => rec (.code ro nt c s)
  | .ret => .code .ret s
  | .rangeFunc g ps as body => match ro with
    | some _ => .stuck
    | none => tRange E rec nt ps as body s (evalO E s.t g)
  | _ => .stuck
noncomputable def tYield4 (s : St) (l : Nat) (st : LoopState) (pend : Option Code) (o : Option LObj) (v : Bool) : Res := match o with
  | some (.loop .busy _ nt t ps as body) => bif Nat.ble s.h.lo l then (s.h.m.set l (.loop st pend nt t ps as body)).force fun m => .val (.bool v) ⟨m, s.h.nx, s.h.lo⟩ else .stuck
  | _ => .stuck
noncomputable def tYield3 (l : Nat) (r : Res) : Res := match r with
  | .code e s => match s.d with
    | [] => match e with
      | .normal => tYield4 s l .ready none (s.h.m.get l) true
      | .ret => tYield4 s l .done (some .ret) (s.h.m.get l) false
      | .exit i => tYield4 s l .done (some (.exit i)) (s.h.m.get l) false
    | _ => .stuck
  | _ => .stuck
noncomputable def tYield5 (rec : Task → Res) (l nt : Nat) (body : Code) (s : St) (o : Option LObj) : Res := match o with
  | some (.loop .ready pend nt' t ps as body') => bif Nat.ble s.h.lo l then (s.h.m.set l (.loop .busy pend nt' t ps as body')).force fun m =>
      tYield3 l (rec (.code (some l) nt body ⟨s.t, ⟨m, s.h.nx, s.h.lo⟩, []⟩))
    else .stuck
  | _ => .stuck
noncomputable def tYield2 (rec : Task → Res) (l nt : Nat) (body : Code) (r : Res) : Res := match r with
  | .code .normal s => match s.d with
    | [] => tYield5 rec l nt body s (s.h.m.get l)
    | _ => .stuck
  | _ => .stuck
noncomputable def allLt (n : Nat) : List Tmp → Bool
  | [] => true
  | p :: ps => and (Nat.blt p n) (allLt n ps)
noncomputable def tYield (rec : Task → Res) (h : LH) (l : Nat) (args : List LV) (o : Option LObj) : Res := match o with
  | some (.loop .ready _ nt t ps as body) => bif and (Nat.beq args.length ps.length) (allLt nt ps) then
      tYield2 rec l nt body (rec (.code (some l) nt as ⟨zipSet ps args t, h, []⟩))
    else .stuck
  | _ => .stuck
noncomputable def tCall (rec : Task → Res) (h : LH) (g : LV) (args : List LV) : Res := match g with
  | .fn f first cap => match f with
    | .func k => rec (.fn h k (first ++ (args ++ cap)))
    | .yield l => match first with
      | [] => tYield rec h l args (h.m.get l)
      | _ => .stuck
    | _ => .stuck
  | _ => .stuck
noncomputable def tFn3 (h : LH) (vs : Option (List LV)) : Res := match vs with
  | some [v] => .val v h
  | some vs => .val (.tup vs) h
  | none => .stuck
noncomputable def tFn2 (fn : Func) (s : St) (r : Res) : Res := match r with
  | .val _ h => tFn3 h (resultsV E h s.t fn.results.toList)
  | _ => .stuck
noncomputable def tFn1 (rec : Task → Res) (fn : Func) (r : Res) : Res := match r with
  | .code e s => match e with
    | .exit _ => .stuck
    | _ => tFn2 E fn s (rec (.defers s.d s.h))
  | _ => .stuck
noncomputable def tOrac (r : Option (LV × LH)) : Res := match r with
  | some (v, h) => .val v h
  | none => .stuck
noncomputable def tFn (rec : Task → Res) (h : LH) (args : List LV) (fn : Option Func) : Res := match fn with
  | some fn => match fn.body with
    | some body => tFn1 E rec fn (rec (.code none fn.ntmps body ⟨T.ofListFrom args 0 .nil, h, []⟩))
    | none => .stuck
  | none => .stuck
noncomputable def tDefers2 (rec : Task → Res) (ds : List DI) (r : Res) : Res := match r with
  | .val _ h => rec (.defers ds h)
  | _ => .stuck
noncomputable def tDefers (rec : Task → Res) (h : LH) (ds : List DI) : Res := match ds with
  | [] => .val .undef h
  | .call f args cap :: ds => tDefers2 rec ds (rec (.dcall h f (args ++ cap)))
  | .mark D :: ds => match h.m.get D with
    | some .defd => bif Nat.ble h.lo D then (h.m.del D).force fun m => rec (.defers ds ⟨m, h.nx, h.lo⟩) else .stuck
    | _ => .stuck
noncomputable def tDSeq (rec : Task → Res) (nt : Nat) (b : Code) (r : Res) : Res := match r with
  | .code e s => match e with
    | .normal => rec (.dcode nt b s)
    | e => .code e s
  | _ => .stuck
noncomputable def tDCond (rec : Task → Res) (nt : Nat) (a b : Code) (s : St) (c : Option LV) : Res := match c with
  | some (.bool x) => bif x then rec (.dcode nt a s) else rec (.dcode nt b s)
  | _ => .stuck
noncomputable def tDcode (rec : Task → Res) (nt : Nat) (s : St) (c : Code) : Res := match c with
  | .region _ ops false => bif anyRecover ops.toList then opsD E nt ops ops.toList s else rec (.code none nt c s)
  | .seq a b => tDSeq rec nt b (rec (.dcode nt a s))
  | .cond c a b => tDCond rec nt a b s (evalO E s.t c)
  | c => rec (.code none nt c s)
noncomputable def tDcall2 (fn : Func) (s : St) : Res := match s.d with
  | [] => tFn3 s.h (resultsV E s.h s.t fn.results.toList)
  | _ => .stuck
noncomputable def tDcall1 (fn : Func) (r : Res) : Res := match r with
  | .code e s => match e with
    | .exit _ => .stuck
    | _ => tDcall2 E fn s
  | _ => .stuck
noncomputable def tDcall (rec : Task → Res) (h : LH) (args : List LV) (fn : Option Func) : Res := match fn with
  | some fn => match fn.body with
    | some body => tDcall1 E fn (rec (.dcode fn.ntmps body ⟨T.ofListFrom args 0 .nil, h, []⟩))
    | none => .stuck
  | none => .stuck
noncomputable def stepT (rec : Task → Res) : Task → Res
  | .code ro nt c s => tCode E rec ro nt s c
  | .call h g args => tCall rec h g args
  | .fn h k args => match E.orac.get k with
    | some g => tOrac (g h args)
    | none => tFn E rec h args (E.funcs.get k)
  | .defers ds h => tDefers rec h ds
  | .dcode nt c s => tDcode E rec nt s c
  | .dcall h k args => tDcall E rec h args (E.funcs.get k)

noncomputable def run (n : Nat) : Task → Res := Nat.rec (motive := fun _ => Task → Res) (fun _ => .stuck) (fun _ ih t => stepT E ih t) n
theorem run_zero (t : Task) : run E 0 t = .stuck := rfl
theorem run_succ (n : Nat) (t : Task) : run E (n + 1) t = stepT E (run E n) t := rfl
end
end Go.Ev
