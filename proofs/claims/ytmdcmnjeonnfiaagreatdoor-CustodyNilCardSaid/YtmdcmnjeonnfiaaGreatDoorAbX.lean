import Derived.Test.YtmdcmnjeonnfiaaGreatDoorAbG
set_option linter.unusedSimpArgs false
set_option linter.unusedVariables false
/-! The evaluator: all operations, regions, code, calls. -/
namespace Go.Ab
noncomputable section

/-! ### The rest of the operations -/
def alen (T : Tbl) (h : AH) (t : TypeId) (x : Value) : Option Value := match T.und t with
  | some .string => match x with
    | .string s => some (.int .i64 s.data.toList.length)
    | _ => none
  | some (.slice _) => match x with
    | .slice _ n _ => some (.int .i64 n)
    | _ => none
  | some (.map _ _) => match x with
    | .map none => some (.int .i64 0)
    | .map (some r) => match h.at r with
      | .map es _ => some (.int .i64 es.length)
      | _ => none
    | _ => none
  | some (.array n _) => some (.int .i64 n)
  | _ => none
def acap (T : Tbl) (t : TypeId) (x : Value) : Option Value := match T.und t with
  | some (.slice _) => match x with
    | .slice none 0 0 => some (.int .i64 0)
    | _ => none
  | _ => none
def amm (mx : Bool) : List Value → Option Value
  | [.int k x, .int k' y] => if k = k' then some (.int k (if mx then (if y > x then y else x) else (if y < x then y else x))) else none
  | _ => none
def acopy (T : Tbl) (h : AH) (td ts : TypeId) (d s : Value) : Option (Value × AH) := match T.und td with
  | some (.slice e) => match T.size e, T.und ts, d with
    | some k, some ds, .slice (some ⟨b, o, none⟩) dl _ => match ds, s with
      | .slice _, .slice (some ⟨b2, o2, none⟩) sl _ => match h.at b2 with
        | .cells c n _ _ => match Nat.ble (o2 + (min sl dl) * k) n with
          | true => match c.takeL o2 ((min sl dl) * k) with
            | some l => match aputs h b o l with
              | some h' => some (.int .i64 (min sl dl), h')
              | none => none
            | none => none
          | false => none
        | _ => none
      | .string, .string s => match Nat.beq k 1 with
        | true => match aputs h b o (bcells s |>.take (min s.data.toList.length dl)) with
          | some h' => some (.int .i64 (min s.data.toList.length dl), h')
          | none => none
        | false => none
      | .slice _, .slice none 0 0 => some (.int .i64 0, h)
      | _, _ => none
    | _, _, _ => none
  | _ => none
def aclear (T : Tbl) (h : AH) (t : TypeId) (x : Value) : Option AH := match T.und t with
  | some (.slice e) => match T.zero e, x with
    | some _, .slice none 0 0 => some h
    | some _, .slice (some ⟨0, 0, some 0⟩) 0 0 => some h
    | some z, .slice (some ⟨b, o, none⟩) n _ => aputs h b o (reps (cellsL z) n)
    | _, _ => none
  | _ => none
/-- Keys: integers, bools, strings, and flat rows of these, of one type. -/
def keyEq : Value → Value → Option Bool
  | .int k a, .int k' b => if k = k' then some (a == b) else none
  | .string a, .string b => some (a.data.toList == b.data.toList)
  | .bool a, .bool b => some (a == b)
  | _, _ => none
def afind (key : Value) : List MapEntry → Nat → Option (Option (Nat × Value))
  | [], _ => some none
  | e :: r, i => match keyEq key e.key with
    | some true => some (some (i, e.val))
    | some false => afind key r (i + 1)
    | none => none
/-- A key of a kind. -/
def keyKind (kd : TypeDesc) (k : Value) : Bool := match kd, k with
  | .int _, .int _ _ => true
  | .string, .string _ => true
  | .bool, .bool _ => true
  | _, _ => false
def ames (h : AH) (x : Value) : Option (List MapEntry × Nat) := match x with
  | .map none => some ([], 0)
  | .map (some r) => match h.at r with
    | .map es c => some (es, c)
    | _ => none
  | _ => none
def alookup (T : Tbl) (h : AH) (t : TypeId) (x key : Value) (ok : Bool) : Option Value := match T.und t with
  | some (.map kt et) => match T.und kt, T.zero et, ames h x with
    | some kd, some z, some (es, _) => match keyKind kd key with
      | true => match afind key es 0 with
        | some (some (_, v)) => some (if ok then .tuple #[v, .bool true] else v)
        | some none => some (if ok then .tuple #[z, .bool false] else z)
        | none => none
      | false => none
    | _, _, _ => none
  | _ => none
def amapSet (T : Tbl) (h : AH) (t : TypeId) (m key val : Value) : Option AH := match T.und t, m with
  | some (.map kt _), .map (some r) => match T.und kt, h.at r with
    | some kd, .map es c => match keyKind kd key with
      | true => match afind key es 0 with
        | some none => some (h.set r (.map (es ++ [{ key := key, val := val, born := c }]) (c + 1)))
        | _ => none
      | false => none
    | _, _ => none
  | _, _ => none
def adelete (T : Tbl) (h : AH) (t : TypeId) (m key : Value) : Option AH := match T.und t, m with
  | some (.map kt _), .map none => match T.und kt with
    | some kd => if keyKind kd key then some h else none
    | none => none
  | some (.map kt _), .map (some r) => match T.und kt, h.at r with
    | some kd, .map es c => match keyKind kd key with
      | true => match afind key es 0 with
        | some (some (i, _)) => some (h.set r (.map (es.eraseIdx i) c))
        | some none => some (h.set r (.map es c))
        | none => none
      | false => none
    | _, _ => none
  | _, _ => none
def vbyte : Value → Option UInt8
  | .int .u8 (.ofNat m) => match Nat.ble m 255 with
    | true => some (UInt8.ofNat m)
    | false => none
  | _ => none
def vbytes : List Value → Option (List UInt8)
  | [] => some []
  | v :: r => match vbyte v, vbytes r with
    | some b, some bs => some (b :: bs)
    | _, _ => none
def abytes (h : AH) (b o n : Nat) : Option (List UInt8) := match h.at b with
  | .cells c N _ _ => match Nat.ble (o + n) N, c.takeL o n with
    | true, some l => vbytes l
    | _, _ => none
  | _ => none
def cvInt (k : IntKind) (x : Value) (h : AH) : Option (Value × AH) := match x with
  | .int _ n => some (.int k (fwrap k n), h)
  | _ => none
def cvStr (x : Value) (h : AH) : Option (Value × AH) := match x with
  | .string b => some (.string b, h)
  | _ => none
def cvBytes (T : Tbl) (e : TypeId) (x : Value) (h : AH) : Option (Value × AH) := match T.und e, x with
  | some (.int .u8), .slice none 0 0 => some (.string ⟨⟨[]⟩⟩, h)
  | some (.int .u8), .slice (some ⟨b, o, none⟩) n _ => match abytes h b o n with
    | some bs => some (.string ⟨⟨bs⟩⟩, h)
    | none => none
  | _, _ => none
def cvTo (T : Tbl) (t : TypeId) (x : Value) (h : AH) : Option (Value × AH) := match T.size t, x with
  | some (_ + 1), .pointer (some ⟨b, o, none⟩) => match h.at b with
    | .cells _ n _ _ => match Nat.blt o n with
      | true => some (x, h)
      | false => none
    | _ => none
  | _, _ => none
def cvFrom (T : Tbl) (u : TypeId) (x : Value) (h : AH) : Option (Value × AH) := match T.size u, x with
  | some (k + 1), .pointer (some ⟨b, 0, none⟩) => match h.at b with
    | .cells _ n e _ => match Nat.beq e u, Nat.ble (k + 1) n with
      | true, true => some (x, h)
      | _, _ => none
    | _ => none
  | _, _ => none
def aconvert (T : Tbl) (h : AH) (s d : TypeId) (x : Value) : Option (Value × AH) := match T.und s, T.und d with
  | some _, some (.int k) => cvInt k x h
  | some .string, some .string => cvStr x h
  | some (.slice e), some .string => cvBytes T e x h
  | some (.pointer t), some .unsafePointer => cvTo T t x h
  | some .unsafePointer, some (.pointer u) => cvFrom T u x h
  | _, _ => none
def cvToB (T : Tbl) (e : TypeId) (x : Value) (h : AH) : Option (Value × AH) := match T.und e, T.size e, x with
  | some (.int .u8), some 1, .string s => some (aslc h (bcells s).length (bcells s).length, anew h e (bcells s) (bcells s).length)
  | _, _, _ => none
def aconvert2 (T : Tbl) (h : AH) (s d : TypeId) (x : Value) : Option (Value × AH) := match T.und s, T.und d with
  | some .string, some (.slice e) => cvToB T e x h
  | _, _ => aconvert T h s d x
def atypeAssert (T : Tbl) (x : Value) (asserted : TypeId) (ok : Bool) : Option Value := match T.und asserted with
  | some (.interface _) => none
  | some _ => match x with
    | .iface t v => match Nat.beq t asserted, ok, T.zero asserted with
      | true, true, _ => some (.tuple #[v, .bool true])
      | true, false, _ => some v
      | false, true, some z => some (.tuple #[z, .bool false])
      | _, _, _ => none
    | .nilIface => match ok, T.zero asserted with
      | true, some z => some (.tuple #[z, .bool false])
      | _, _ => none
    | _ => none
  | none => none
def aunsafeString (T : Tbl) (h : AH) (pt : TypeId) (p n : Value) : Option (Value × AH) := match p, n with
  | .pointer _, .int .i64 (.ofNat 0) => some (.string ⟨⟨[]⟩⟩, h)
  | .pointer (some ⟨b, 0, none⟩), .int .i64 (.ofNat (n + 1)) => match T.und pt, h.at b with
    | some (.pointer e), .cells c N e' false => match Nat.beq e e', T.size e, abytes h b 0 (n + 1), Nat.ble (n + 1) 70368744177664 with
      | true, some 1, some bs, true => some (.string ⟨⟨bs⟩⟩, h.set b (.cells c N e' true))
      | _, _, _, _ => none
    | _, _ => none
  | _, _ => none

inductive AN where
  | val (v : Value) (h : AH)
  | enter (f : FuncId) (args : List Value)
  | defr (fn : Fn) (cap args : List Value)
  | panic (v : Value)
  | recover

def ofV (h : AH) : Option Value → Option AN
  | some v => some (.val v h)
  | none => none
def ofVH : Option (Value × AH) → Option AN
  | some (v, h) => some (.val v h)
  | none => none
def ofH : Option AH → Option AN
  | some h => some (.val undef h)
  | none => none

def aev (t : PT Value) : Operand → Value
  | .tmp i => match t.get i with
    | some v => v
    | none => undef
  | .const v => match plain v with
    | true => v
    | false => poison
  | .global _ => poison
  | .func f => .func (.func f) #[] #[]

/-- A function without a body: what it comes to. -/
def aext (h : AH) (code : Nat × Nat) (args : List Value) : Option (Value × AH) := match code.1, args with
  | 1, [x] => some (x, h)
  | 2, [.string s, .int .u8 (.ofNat c)] => match Nat.ble c 255 with
    | true => some (.int .i64 (match s.data.toList.findIdx? (fun b => b.toNat == c) with | some i => (i : Int) | none => -1), h)
    | false => none
  | 3, [.string s, .int .u8 (.ofNat c)] => match Nat.ble c 255 with
    | true => some (.int .i64 (s.data.toList.filter (fun b => b.toNat == c)).length, h)
    | false => none
  | 4, [.int .i64 (.ofNat n)] => match Nat.ble n 70368744177664 with
    | true => some (aslc h n n, h.new (.cells .leaf n code.2 false))
    | false => none
  | _, _ => none

structure Env where
  T : Tbl
  ext : PT (Nat × Nat)
  crit : PT (List (Nat × List (Nat × Nat)))
  own : PT Func

def acallB (E : Env) (h : AH) (f : FuncId) (args : List Value) : Option Code → Option AN
  | some _ => some (.enter f args)
  | none => match E.ext.get f with
    | some code => ofVH (aext h code args)
    | none => none
def acallF (E : Env) (h : AH) (f : FuncId) (args : List Value) : Option AN := match E.T.fn.get f with
  | some fn => acallB E h f args fn.body
  | none => none
def oSliceData (x : Value) (h : AH) : Option AN := match x with
  | .slice none _ _ => some (.val (.pointer none) h)
  | .slice (some ⟨b, o, none⟩) _ (_ + 1) => some (.val (.pointer (some ⟨b, o, none⟩)) h)
  | _ => none
def oAppend (E : Env) (h : AH) (t tx : TypeId) (s x : Value) : Option AN := match x with
  | .int _ _ => ofVH (aappendZ E.T h t tx s x)
  | _ => ofVH (aappend E.T h t tx s x)
def abuiltin (E : Env) (h : AH) (b : Builtin) (ty : List TypeId) (args : List Value) : Option AN := match b, ty, args with
  | .len, [t], [x] => ofV h (alen E.T h t x)
  | .cap, [t], [x] => ofV h (acap E.T t x)
  | .append, [t, tx], [s, x] => oAppend E h t tx s x
  | .copy, [t, tx], [d, s] => ofVH (acopy E.T h t tx d s)
  | .clear, [t], [x] => ofH (aclear E.T h t x)
  | .delete, [t, _], [m, k] => ofH (adelete E.T h t m k)
  | .max, _, xs => ofV h (amm true xs)
  | .min, _, xs => ofV h (amm false xs)
  | .recover, _, _ => some .recover
  | .unsafeSliceData, _, [x] => oSliceData x h
  | .unsafeString, [pt, _], [p, n] => ofVH (aunsafeString E.T h pt p n)
  | _, _, _ => none
def isC : Operand → Bool
  | .const _ => true
  | _ => false
def guardOk (T : Tbl) (t : TypeId) : Value → Bool
  | .agg _ => match T.eqok.get t with
    | some _ => true
    | none => false
  | _ => true
def oPick (c a b : Value) (h : AH) : Option AN := match c with
  | .bool true => some (.val a h)
  | .bool false => some (.val b h)
  | _ => none
def oBuild (E : Env) (ρ : Operand → Value) (h : AH) (t : TypeId) (ps : Array (Nat × Operand)) : Option AN := ofV h (abuild E.T t (ps.toList.map fun p => (p.1, ρ p.2)))
def oBuildSlice (E : Env) (ρ : Operand → Value) (h : AH) (t : TypeId) (n : Nat) (ps : Array (Nat × Operand)) : Option AN := ofVH (abuildSlice E.T h t n (ps.toList.map fun p => (p.1, ρ p.2)))
def oNilCheck (x : Value) (h : AH) : Option AN := match x with
  | .pointer (some a) => some (.val (.pointer (some a)) h)
  | .iface t v => some (.val (.iface t v) h)
  | .func (.func f) a b => some (.val (.func (.func f) a b) h)
  | _ => none
def oEq (E : Env) (neg : Bool) (t : TypeId) (a b : Value) (h : AH) : Option AN := match guardOk E.T t a with
  | true => match aeq E.T Op.maxDepth t a b with
    | some r => some (.val (.bool (r != neg)) h)
    | none => none
  | false => none
def oNil2 (E : Env) (op : BinOp) (t : TypeId) (c : Bool) (h : AH) : Option AN := match c, E.T.und t, op with
  | true, some (.interface _), .eql => some (.val (.bool true) h)
  | true, some (.interface _), .neq => some (.val (.bool false) h)
  | _, _, _ => none
def oInt (op : BinOp) (k k' : IntKind) (a b : Int) (h : AH) : Option AN := match op with
  | .shl => ofV h (ashift .shl k a b)
  | .shr => ofV h (ashift .shr k a b)
  | op => if k = k' then ofV h (aint op k a b) else none
def oBin (E : Env) (op : BinOp) (t : TypeId) (c : Bool) (x y : Value) (h : AH) : Option AN := match x, y with
  | .int k a, .int k' b => oInt op k k' a b h
  | .string a, .string b => ofV h (astr op a b)
  | .nilIface, .nilIface => oNil2 E op t c h
  | a, b => match op with
    | .eql => oEq E false t a b h
    | .neq => oEq E true t a b h
    | _ => none
def oUn (op : UnOp) (x : Value) (h : AH) : Option AN := match op, x with
  | .not, .bool b => some (.val (.bool (!b)) h)
  | .neg, .int k n => some (.val (.int k (fwrap k (0 - n))) h)
  | _, _ => none
def oIface (E : Env) (t : TypeId) (x : Value) (h : AH) : Option AN := match E.T.und t with
  | some (.interface _) => none
  | some _ => some (.val (.iface t x) h)
  | none => none
def oMakeMap (h : AH) : Option Operand → Option AN
  | none => some (.val (.map (some h.next)) (h.new (.map [] 0)))
  | some _ => none
def oRange (E : Env) (t : TypeId) (x : Value) (h : AH) : Option AN := match E.T.und t, x with
  | some .string, .string s => some (.val (.pointer (some ⟨h.next, 0, none⟩)) (h.new (.siter s 0)))
  | some (.map _ _), .map none => some (.val (.pointer (some ⟨h.next, 0, none⟩)) (h.new (.miter none 0 #[] 0)))
  | some (.map _ _), .map (some r) => match h.at r with
    | .map _ c => some (.val (.pointer (some ⟨h.next, 0, none⟩)) (h.new (.miter (some r) c #[] c)))
    | _ => none
  | _, _ => none
def oNext (x : Value) (isS : Bool) (h : AH) : Option AN := match x with
  | .pointer (some ⟨r, 0, none⟩) => match h.at r, isS with
    | .siter s p, true => match Nat.blt p s.data.toList.length with
      | true => match (s.data.toList[p]?) with
        | some b => if b.toNat < 128 then some (.val (.tuple #[.bool true, .int .i64 p, .int .i32 b.toNat]) (h.set r (.siter s (p + 1)))) else none
        | none => none
      | false => some (.val (.tuple #[.bool false]) h)
    | .miter none _ _ _, false => some (.val (.tuple #[.bool false]) h)
    | .miter (some m) since seen last, false => match h.at m with
      | .map es clock => match !seen.isEmpty && !es.isEmpty && es.all (fun e => decide (e.born ≥ last)), es.filter (fun e => !seen.contains e.born) with
        | false, [] => some (.val (.tuple #[.bool false]) h)
        | false, [e] => match Nat.blt e.born since with
          | true => some (.val (.tuple #[.bool true, e.key, e.val]) (h.set r (.miter (some m) since (seen.push e.born) clock)))
          | false => none
        | _, _ => none
      | _ => none
    | _, _ => none
  | _ => none
def oEntry (x : Value) (h : AH) : Option AN := match x with
  | .pointer (some ⟨r, 0, none⟩) => match h.at r with
    | .miter (some m) _ seen stepped => match h.at m, seen.toList.getLast? with
      | .map es clock, some stamp => match Nat.beq clock stepped, es.find? (fun e => e.born == stamp) with
        | true, some e => some (.val (.tuple #[e.key, e.val]) h)
        | _, _ => none
      | _, _ => none
    | _ => none
  | _ => none
def oS2ap (E : Env) (t : TypeId) (x : Value) (h : AH) : Option AN := match E.T.und t, x with
  | some (.array n _), .slice (some ⟨b, o, none⟩) len _ => match Nat.ble n len with
    | true => some (.val (.pointer (some ⟨b, o, none⟩)) h)
    | false => none
  | _, _ => none
def oExtract (x : Value) (i : Nat) (h : AH) : Option AN := match x with
  | .tuple vs => ofV h (vs.toList[i]?)
  | _ => none
def oCallV (E : Env) (f : Value) (args : List Value) (h : AH) : Option AN := match f with
  | .func (.func g) first cap => acallF E h g (first.toList ++ args ++ cap.toList)
  | _ => none
def oCall (E : Env) (ρ : Operand → Value) (h : AH) (c : Call) : Option AN := match c.callee with
  | .builtin b => abuiltin E h b c.argTypes.toList (c.args.toList.map ρ)
  | .value f => oCallV E (ρ f) (c.args.toList.map ρ) h
  | .invoke .. => none
def oDefer (ρ : Operand → Value) (c : Call) : Option AN := match c.callee with
  | .value f => match ρ f with
    | .func fn first cap => some (.defr fn cap.toList (first.toList ++ c.args.toList.map ρ))
    | _ => none
  | _ => none
def oPanic (x : Value) : Option AN := match x with
  | .iface t v => some (.panic (.iface t v))
  | _ => none
def oFunc (ρ : Operand → Value) (h : AH) (fn : Fn) (f c : Array Operand) : Option AN := some (.val (.func fn ⟨f.toList.map ρ⟩ ⟨c.toList.map ρ⟩) h)
def oSlice (E : Env) (ρ : Operand → Value) (h : AH) (t : TypeId) (x : Operand) (lo hi mx : Option Operand) : Option AN := ofV h (aslice E.T h t (ρ x) (lo.map ρ) (hi.map ρ) (mx.map ρ))
def oMapSet (E : Env) (h : AH) (t : TypeId) (m k x : Value) : Option AN := ofH (amapSet E.T h t m k x)
def aopO (E : Env) (ρ : Operand → Value) (h : AH) : Op → Option AN
  | .move x => some (.val (ρ x) h)
  | .assign x => some (.val (ρ x) h)
  | .pick c a b => oPick (ρ c) (ρ a) (ρ b) h
  | .alloc t => ofVH (aalloc E.T h t)
  | .box t x => ofVH (abox h t (ρ x))
  | .build t ps => oBuild E ρ h t ps
  | .buildSlice t n ps => oBuildSlice E ρ h t n ps
  | .load t a => ofV h (aload E.T h t (ρ a))
  | .store t a x => ofH (astore E.T h t (ρ a) (ρ x))
  | .nilCheck x => oNilCheck (ρ x) h
  | .binOp op t x y _ => oBin E op t (isC x || isC y) (ρ x) (ρ y) h
  | .unOp op _ x => oUn op (ρ x) h
  | .convert s d x => ofVH (aconvert2 E.T h s d (ρ x))
  | .makeInterface t x => oIface E t (ρ x) h
  | .makeFunc fn f c => oFunc ρ h fn f c
  | .makeMap _ r => oMakeMap h r
  | .makeSlice t l c => ofVH (amakeSlice E.T h t (ρ l) (ρ c))
  | .slice t x lo hi mx => oSlice E ρ h t x lo hi mx
  | .fieldAddr s x f => ofV h (afieldA E.T s (ρ x) f)
  | .field t x f => ofV h (afield E.T t (ρ x) f)
  | .indexAddr t x i => ofV h (aindexA E.T t (ρ x) (ρ i))
  | .index t x i => ofV h (aindex E.T t (ρ x) (ρ i))
  | .lookup t x i ok => ofV h (alookup E.T h t (ρ x) (ρ i) ok)
  | .mapUpdate t m k x => oMapSet E h t (ρ m) (ρ k) (ρ x)
  | .insert t m k x => oMapSet E h t (ρ m) (ρ k) (ρ x)
  | .range t x => oRange E t (ρ x) h
  | .next it isS => oNext (ρ it) isS h
  | .entry it => oEntry (ρ it) h
  | .sliceToArrayPointer t x => oS2ap E t (ρ x) h
  | .typeAssert x _ a ok => ofV h (atypeAssert E.T (ρ x) a ok)
  | .extract x i => oExtract (ρ x) i h
  | .call c => oCall E ρ h c
  | .defer c => oDefer ρ c
  | .panic x => oPanic (ρ x)
  | _ => none
def aop (E : Env) (o : Oper) (ρ : Operand → Value) (h : AH) : Option AN := aopO E ρ h o.op

/-! ### Code -/
structure ADef where
  fn : Fn
  cap : List Value
  args : List Value
/-- What a deferred call sees of the frame that it unwinds: nothing, or a panic, and whether it has been recovered. -/
inductive AU where
  | none
  | ret
  | pan (v : Value) (rec : Bool)
structure AAct where
  t : PT Value
  n : Nat
  ds : List ADef
inductive AX where
  | normal
  | exit (id : Nat)
  | goto (l : Nat)
  | ret
  | panic (v : Value)
inductive AEnd where
  | ret (v : Value)
  | panic (v : Value)
inductive R (α : Type) where
  | bad
  | ok (e : α) (a : AAct) (h : AH)

def AAct.put (a : AAct) (d : Option Tmp) (v : Value) : Option AAct := match d with
  | none => some a
  | some d => match Nat.blt d a.n with
    | true => some { a with t := a.t.put d v }
    | false => none

def aguard (ops : Array Oper) (a : AAct) : Option (Nat × Bool) → Option Bool
  | none => some true
  | some (j, want) => match (ops[j]?).bind (·.dst) with
    | some d => match a.t.get d with
      | some (.bool b) => some (b == want)
      | some (.chan _) => none
      | _ => match Nat.blt d a.n with
        | true => some false
        | false => none
    | none => none

abbrev ACall := FuncId → List Value → AH → Option (AEnd × AH)

/-- Behind an operation's value. -/
def putThen (a : AAct) (d : Option Tmp) (v : Value) (k : AAct → R AX) : R AX := match a.put d v with
  | some a' => k a'
  | none => .bad
def afterCall (a : AAct) (d : Option Tmp) (k : AAct → AH → R AX) : Option (AEnd × AH) → R AX
  | some (.ret v, h') => putThen a d v fun a' => k a' h'
  | some (.panic v, h') => .ok (.panic v) a h'
  | none => .bad
def afterOp (call : ACall) (a : AAct) (d : Option Tmp) (h : AH) (k : AAct → AH → R AX) : Option AN → R AX
  | none => .bad
  | some (.val v h') => putThen a d v fun a' => k a' h'
  | some (.enter f args) => afterCall a d k (call f args h)
  | some (.defr fn cap args) => putThen { a with ds := ⟨fn, cap, args⟩ :: a.ds } d undef fun a' => k a' h
  | some (.panic v) => .ok (.panic v) a h
  | some .recover => .bad
def aoneOp (E : Env) (call : ACall) (ops : Array Oper) (o : Oper) (k : AAct → AH → R AX) (a : AAct) (h : AH) : R AX := match aguard ops a o.guard with
  | none => .bad
  | some false => putThen a o.dst undef fun a' => k a' h
  | some true => afterOp call a o.dst h k (aop E o (aev a.t) h)
def aops (E : Env) (call : ACall) (ops : Array Oper) (l : List Oper) : AAct → AH → R AX :=
  List.rec (motive := fun _ => AAct → AH → R AX) (fun a h => .ok .normal a h) (fun o _ ih a h => aoneOp E call ops o ih a h) l
theorem aops_nil (E : Env) (call : ACall) (ops : Array Oper) (a : AAct) (h : AH) : aops E call ops [] a h = .ok .normal a h := rfl
theorem aops_cons (E : Env) (call : ACall) (ops : Array Oper) (o : Oper) (r : List Oper) (a : AAct) (h : AH) : aops E call ops (o :: r) a h = aoneOp E call ops o (aops E call ops r) a h := rfl

/-! ### A region of open order: its reads that are not ordered with an effect are read again -/
def veq : Value → Value → Bool
  | .bool a, .bool b => a == b
  | .int k a, .int k' b => if k = k' then a == b else false
  | .string a, .string b => a.data.toList == b.data.toList
  | .pointer none, .pointer none => true
  | .pointer (some ⟨b, o, none⟩), .pointer (some ⟨b', o', none⟩) => Nat.beq b b' && Nat.beq o o'
  | .slice none 0 0, .slice none 0 0 => true
  | .slice (some ⟨b, o, none⟩) n c, .slice (some ⟨b', o', none⟩) n' c' => Nat.beq b b' && Nat.beq o o' && Nat.beq n n' && Nat.beq c c'
  | .map none, .map none => true
  | .map (some r), .map (some r') => Nat.beq r r'
  | .nilIface, .nilIface => true
  | .nilFunc, .nilFunc => true
  | _, _ => false
/-- State j of a run's states, the last first. -/
def sget (acc : List (AAct × AH)) (n j : Nat) : Option (AAct × AH) := acc[n - j]?
def sameAt (E : Env) (o : Oper) (t : PT Value) (h1 h2 : AH) : Bool := match aop E o (aev t) h1, aop E o (aev t) h2 with
  | some (.val v _), some (.val v' _) => veq v v'
  | _, _ => false
def critOne (E : Env) (ops : Array Oper) (acc : List (AAct × AH)) (n : Nat) (p : Nat × Nat) : Bool := match ops[p.1]?, sget acc n p.1, sget acc n (if p.1 < p.2 then p.2 + 1 else p.2) with
  | some o, some (a, h), some (_, h') => match aguard ops a o.guard with
    | some false => true
    | _ => sameAt E o a.t h h'
  | _, _, _ => false
def afterOpN (call : ACall) (a : AAct) (d : Option Tmp) (h : AH) (k : AAct → AH → R AX) : Option AN → R AX
  | some (.val v h') => putThen a d v fun a' => k a' h'
  | some (.enter f args) => afterCall a d k (call f args h)
  | _ => .bad
def aoneOpN (E : Env) (call : ACall) (ops : Array Oper) (o : Oper) (k : AAct → AH → R AX) (a : AAct) (h : AH) : R AX := match aguard ops a o.guard with
  | none => .bad
  | some false => putThen a o.dst undef fun a' => k a' h
  | some true => afterOpN call a o.dst h k (aop E o (aev a.t) h)
def aopsT (E : Env) (call : ACall) (ops : Array Oper) (pairs : List (Nat × Nat)) (l : List Oper) : List (AAct × AH) → AAct → AH → R AX :=
  List.rec (motive := fun _ => List (AAct × AH) → AAct → AH → R AX)
    (fun acc a h => match pairs.all (critOne E ops acc ops.size) with
      | true => .ok .normal a h
      | false => .bad)
    (fun o _ ih acc a h => aoneOpN E call ops o (fun a' h' => ih ((a', h') :: acc) a' h') a h) l
def noPanic : R AX → R AX
  | .ok .normal a h => .ok .normal a h
  | _ => .bad
abbrev Crit := List (Nat × List (Nat × Nat))
def critOf : Crit → Nat → List (Nat × Nat)
  | [], _ => []
  | (i, p) :: r, id => match Nat.beq i id with
    | true => p
    | false => critOf r id
def aregion (E : Env) (call : ACall) (cr : Crit) (id : Nat) (ops : Array Oper) (d : Bool) (a : AAct) (h : AH) : R AX := match d with
  | false => aops E call ops ops.toList a h
  | true => noPanic (aopsT E call ops (critOf cr id) ops.toList [(a, h)] a h)

def thenN (k : AAct → AH → R AX) : R AX → R AX
  | .ok .normal a h => k a h
  | r => r
def iter (f : AAct → AH → R AX) (n : Nat) : AAct → AH → R AX :=
  Nat.rec (motive := fun _ => AAct → AH → R AX) (fun _ _ => .bad) (fun _ ih a h => thenN ih (f a h)) n
theorem iter_succ (f : AAct → AH → R AX) (n : Nat) (a : AAct) (h : AH) : iter f (n + 1) a h = thenN (iter f n) (f a h) := rfl
def condOn (x y : AAct → AH → R AX) (a : AAct) (h : AH) : Value → R AX
  | .bool true => x a h
  | .bool false => y a h
  | _ => .bad
def outOf (id : Nat) : R AX → R AX
  | .ok (.exit id') a h => match Nat.beq id' id with
    | true => .ok .normal a h
    | false => .ok (.exit id') a h
  | r => r
def aexec (E : Env) (call : ACall) (cr : Crit) (fuel : Nat) (c : Code) : AAct → AH → R AX :=
  Code.rec (motive := fun _ => AAct → AH → R AX)
    (fun a h => .ok .normal a h)
    (fun id ops d => aregion E call cr id ops d)
    (fun _ _ x y a h => thenN y (x a h))
    (fun c _ _ x y a h => condOn x y a h (aev a.t c))
    (fun id _ b a h => outOf id (b a h))
    (fun _ b => iter b fuel)
    (fun _ _ _ _ _ _ _ _ => .bad)
    (fun id a h => .ok (.exit id) a h)
    (fun _ _ _ _ => .bad)
    (fun _ a h => .ok .normal a h)
    (fun _ _ _ => .bad)
    (fun a h => .ok .ret a h)
    (fun _ _ _ => .bad) c
/-- Every region of open order is told by its text. (The check is in AbN.) -/
def codeOk (f : Array Oper → List (Nat × Nat) → Bool) (cr : Crit) (c : Code) : Bool :=
  Code.rec (motive := fun _ => Bool) true
    (fun id ops d => match d with | true => f ops (critOf cr id) | false => true)
    (fun _ _ x y => match x with | true => y | false => false)
    (fun _ _ _ x y => match x with | true => y | false => false)
    (fun _ _ b => b) (fun _ b => b) (fun _ _ _ _ _ _ => true) (fun _ => true) (fun _ _ => true) (fun _ => true) (fun _ => true) true (fun _ => true) c
theorem aexec_seq (E : Env) (call : ACall) (cr : Crit) (fuel : Nat) (x y : Code) (a : AAct) (h : AH) : aexec E call cr fuel (.seq x y) a h = thenN (aexec E call cr fuel y) (aexec E call cr fuel x a h) := rfl
theorem aexec_region (E : Env) (call : ACall) (cr : Crit) (fuel : Nat) (id : Nat) (ops : Array Oper) (d : Bool) (a : AAct) (h : AH) : aexec E call cr fuel (.region id ops d) a h = aregion E call cr id ops d a h := rfl
theorem aexec_loop (E : Env) (call : ACall) (cr : Crit) (fuel : Nat) (b : Code) (a : AAct) (h : AH) : aexec E call cr fuel (.loop b) a h = iter (aexec E call cr fuel b) fuel a h := rfl

def aresOne (T : Tbl) (h : AH) (t : PT Value) : ResultVar → Option Value
  | .tmp i => some (aev t (.tmp i))
  | .cell i ty => aload T h ty (aev t (.tmp i))
def ares (T : Tbl) (h : AH) (t : PT Value) : List ResultVar → Option (List Value)
  | [] => some []
  | r :: rs => match aresOne T h t r, ares T h t rs with
    | some v, some vs => some (v :: vs)
    | _, _ => none
def tup : List Value → Value
  | [v] => v
  | vs => .tuple ⟨vs⟩

/-! ### A deferred call: it sees the frame that it unwinds -/
inductive RD where
  | bad
  | ok (e : AX) (a : AAct) (u : AU) (h : AH)
def putThenD (a : AAct) (d : Option Tmp) (v : Value) (k : AAct → RD) : RD := match a.put d v with
  | some a' => k a'
  | none => .bad
def afterCallD (a : AAct) (d : Option Tmp) (u : AU) (k : AAct → AU → AH → RD) : Option (AEnd × AH) → RD
  | some (.ret v, h') => putThenD a d v fun a' => k a' u h'
  | some (.panic v, h') => .ok (.panic v) a u h'
  | none => .bad
def afterRec (a : AAct) (d : Option Tmp) (h : AH) (k : AAct → AU → AH → RD) : AU → RD
  | .pan v false => putThenD a d v fun a' => k a' (.pan v true) h
  | .none => .bad
  | u => putThenD a d .nilIface fun a' => k a' u h
def afterOpD (call : ACall) (a : AAct) (d : Option Tmp) (u : AU) (h : AH) (k : AAct → AU → AH → RD) : Option AN → RD
  | none => .bad
  | some (.val v h') => putThenD a d v fun a' => k a' u h'
  | some (.enter f args) => afterCallD a d u k (call f args h)
  | some (.defr _ _ _) => .bad
  | some (.panic v) => .ok (.panic v) a u h
  | some .recover => afterRec a d h k u
def aoneOpD (E : Env) (call : ACall) (ops : Array Oper) (o : Oper) (k : AAct → AU → AH → RD) (a : AAct) (u : AU) (h : AH) : RD := match aguard ops a o.guard with
  | none => .bad
  | some false => putThenD a o.dst undef fun a' => k a' u h
  | some true => afterOpD call a o.dst u h k (aop E o (aev a.t) h)
def aopsD (E : Env) (call : ACall) (ops : Array Oper) (l : List Oper) : AAct → AU → AH → RD :=
  List.rec (motive := fun _ => AAct → AU → AH → RD) (fun a u h => .ok .normal a u h) (fun o _ ih a u h => aoneOpD E call ops o ih a u h) l
def thenD (k : AAct → AU → AH → RD) : RD → RD
  | .ok .normal a u h => k a u h
  | r => r
def condD (x y : AAct → AU → AH → RD) (a : AAct) (u : AU) (h : AH) : Value → RD
  | .bool true => x a u h
  | .bool false => y a u h
  | _ => .bad
def liftD (u : AU) : R AX → RD
  | .bad => .bad
  | .ok e a h => .ok e a u h
def aexecD (E : Env) (call : ACall) (cr : Crit) (c : Code) : AAct → AU → AH → RD :=
  Code.rec (motive := fun _ => AAct → AU → AH → RD)
    (fun a u h => .ok .normal a u h)
    (fun id ops d => match d with
      | true => fun a u h => liftD u (aregion E call cr id ops true a h)
      | false => aopsD E call ops ops.toList)
    (fun _ _ x y a u h => thenD y (x a u h))
    (fun c _ _ x y a u h => condD x y a u h (aev a.t c))
    (fun _ _ _ _ _ _ => .bad)
    (fun _ _ _ _ _ => .bad)
    (fun _ _ _ _ _ _ _ _ _ => .bad)
    (fun _ _ _ _ => .bad)
    (fun _ _ _ _ _ => .bad)
    (fun _ _ _ _ => .bad)
    (fun _ _ _ _ => .bad)
    (fun a u h => .ok .ret a u h)
    (fun _ _ _ _ => .bad) c

def leaveWith (k : AU → AH → Option (AEnd × AH)) : Option (AEnd × AU × AH) → Option (AEnd × AH)
  | some (.ret _, .pan _ true, h') => k .ret h'
  | some (.ret _, u', h') => k u' h'
  | some (.panic _, _, _) => none
  | none => none
def aleave (E : Env) (dcall : FuncId → List Value → AU → AH → Option (AEnd × AU × AH)) (fn : Func) (t : PT Value) : List ADef → AU → AH → Option (AEnd × AH)
  | [], .ret, h => match ares E.T h t fn.results.toList with
    | some vs => some (.ret (tup vs), h)
    | none => none
  | [], .pan v false, h => some (.panic v, h)
  | [], _, _ => none
  | d :: ds, u, h => match d.fn with
    | .func f => leaveWith (aleave E dcall fn t ds) (dcall f (d.args ++ d.cap) u h)
    | _ => none
def enterAct (fn : Func) (args : List Value) : AAct := ⟨PT.leaf.putL 0 args, max fn.ntmps args.length, []⟩
def dEnd (E : Env) (gn : Func) : RD → Option (AEnd × AU × AH)
  | .ok .normal a2 u2 h2 | .ok .ret a2 u2 h2 => match a2.ds, ares E.T h2 a2.t gn.results.toList with
    | [], some vs => some (.ret (tup vs), u2, h2)
    | _, _ => none
  | .ok (.panic v) a2 u2 h2 => match a2.ds with
    | [] => some (.panic v, u2, h2)
    | _ => none
  | _ => none
def critFor (E : Env) (f : FuncId) : Crit := match E.crit.get f with
  | some c => c
  | none => []
def dCall (E : Env) (call : ACall) (g : FuncId) (as : List Value) (u : AU) (h1 : AH) : Option (AEnd × AU × AH) := match E.own.get g with
  | none => none
  | some gn => match gn.body with
    | some gc => dEnd E gn (aexecD E call (critFor E g) gc (enterAct gn as) u h1)
    | none => none
def cEnd (E : Env) (call : ACall) (fn : Func) : R AX → Option (AEnd × AH)
  | .ok .normal a h' | .ok .ret a h' => aleave E (dCall E call) fn a.t a.ds .ret h'
  | .ok (.panic v) a h' => aleave E (dCall E call) fn a.t a.ds (.pan v false) h'
  | _ => none
def cStep (E : Env) (fuel : Nat) (call : ACall) : ACall := fun f args h => match E.own.get f with
  | none => none
  | some fn => match fn.body with
    | some c => cEnd E call fn (aexec E call (critFor E f) fuel c (enterAct fn args) h)
    | none => none
/-- A call of a function; depth is the fuel. -/
def acallN (E : Env) (fuel : Nat) (n : Nat) : ACall := Nat.rec (motive := fun _ => ACall) (fun _ _ _ => none) (fun _ ih => cStep E fuel ih) n

end
end Go.Ab
