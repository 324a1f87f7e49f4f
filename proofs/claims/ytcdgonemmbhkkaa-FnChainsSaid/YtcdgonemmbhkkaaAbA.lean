/- An evaluator of the program's code over plain values, and that it is sound: part 1 of 4. Without conditions. -/
import Derived.Calls
import Derived.RowKit
import Derived.KernelRfl
import Derived.Still
import Derived.Below
import Derived.Laws.Slices
import Derived.Laws.Cells
import Derived.Laws.IdiomCopy
import Derived.IntWalk
import Derived.Laws.NewBlocks
import Derived.Great.FillDense
import Derived.Deep.AppendSrc
import Derived.Deep.Upon
namespace Go.Ab
open Go.RowKit
set_option linter.unusedVariables false
set_option linter.unusedSimpArgs false
inductive Ty where
  | int (k : IntKind) | bool | str | slice (t : Ty) | pair (a b : Ty) | unit | sum (a b : Ty) | opq
  deriving DecidableEq, Inhabited
@[reducible] def Ty.val : Ty → Type
  | .int _ => Int
  | .bool => Bool
  | .str => ByteArray
  | .slice t => List t.val
  | .pair a b => a.val × b.val
  | .unit => Unit
  | .sum a b => a.val ⊕ b.val
  | .opq => Unit
def Ty.dflt : (t : Ty) → t.val
  | .int _ => (0 : Int)
  | .bool => false
  | .str => ByteArray.empty
  | .slice _ => []
  | .pair a b => (a.dflt, b.dflt)
  | .unit => ()
  | .sum a _ => .inl a.dflt
  | .opq => ()
def Ty.sz' : Ty → Nat
  | .pair a b => a.sz' + b.sz'
  | .unit => 0
  | .sum _ _ => 0
  | _ => 1
inductive Fl where
  | imm | bor | own | lent
  deriving DecidableEq
inductive PV where
  | any
  | int (k : IntKind) (n : Int)
  | bool (b : Bool)
  | str (s : ByteArray)
  | sl (f : Fl) (t : Ty) (l : List t.val)
  | nil
  | isnil (e : Bool)
  | view (r c : Nat)
  | sub (r c : Nat) (lo hi : Int)
  | ptr (r c : Nat)
  | aptr (r c n z : Nat) (i : Int)
  | eptr (r c : Nat) (i : Int) (d : Nat)
  | iptr (f : Fl) (t : Ty) (l : List t.val) (i : Int) (d : Nat)
  | rop (cs : List PV) (d : Nat)
  | clo (f : FuncId) (caps : List PV)
  | agg (cs : List PV)
  | tup (vs : List PV)
def enc (f : Fl) : (t : Ty) → t.val → List PV
  | .int k, x => [.int k x]
  | .bool, x => [.bool x]
  | .str, x => [.str x]
  | .slice t, x => [.sl f t x]
  | .pair a b, x => enc f a x.1 ++ enc f b x.2
  | .unit, _ => []
  | .sum _ _, _ => []
  | .opq, _ => [.any]
def zero : Ty → List PV
  | .int k => [.int k 0]
  | .bool => [.bool false]
  | .str => [.str ByteArray.empty]
  | .slice _ => [.nil]
  | .pair a b => zero a ++ zero b
  | .unit => []
  | .sum _ _ => []
  | .opq => [.any]
def dec : (t : Ty) → List PV → Option (t.val × List PV)
  | .int k, .int k' x :: r => if k = k' then some (x, r) else none
  | .bool, .bool x :: r => some (x, r)
  | .str, .str x :: r => some (x, r)
  | .slice t, .sl f t' l :: r => if f = .bor ∨ f = .lent then none else if h : t' = t then some (h ▸ l, r) else none
  | .slice _, .nil :: r => some ([], r)
  | .pair a b, cs => match dec a cs with
    | some (x, r) => match dec b r with
      | some (y, r') => some ((x, y), r')
      | none => none
    | none => none
  | .unit, r => some ((), r)
  | .opq, _ :: r => some ((), r)
  | _, _ => none
def rd (t : Ty) (l : List t.val) (i : Int) : t.val := l.getD i.toNat t.dflt
inductive TK where
  | int (k : IntKind) | bool | str | slice (e : TypeId) | ptr (e : TypeId) | struct (offs : List (Nat × TypeId)) | arr (n : Nat) (e : TypeId) | other
structure TD where
  k : TK
  sz : Nat
  row : Ty
  bytes : Int
  agg : Bool
structure St where
  t : List PV
  r : List (List PV)
def gt : List PV → Nat → PV
  | [], _ => .any
  | x :: _, 0 => x
  | _ :: l, n + 1 => gt l n
def pt : List PV → Nat → PV → List PV
  | [], _, _ => []
  | _ :: l, 0, v => v :: l
  | x :: l, n + 1, v => x :: pt l n v
def gr : List (List PV) → Nat → List PV
  | [], _ => []
  | x :: _, 0 => x
  | _ :: l, n + 1 => gr l n
def pr : List (List PV) → Nat → List PV → List (List PV)
  | [], _, _ => []
  | _ :: l, 0, v => v :: l
  | x :: l, n + 1, v => x :: pr l n v
def pc (rs : List (List PV)) (r c : Nat) (v : PV) : List (List PV) := pr rs r (pt (gr rs r) c v)
mutual
def scrV (kill : Nat → Nat → Bool) (gone : Nat → Bool) : PV → PV
  | .view r c => cond (kill r c) .any (.view r c)
  | .sub r c lo hi => cond (kill r c) .any (.sub r c lo hi)
  | .eptr r c i o => cond (kill r c) .any (.eptr r c i o)
  | .ptr r c => cond (gone r) .any (.ptr r c)
  | .aptr r c n z i => cond (gone r) .any (.aptr r c n z i)
  | .agg l => .agg (scrL kill gone l)
  | .tup l => .tup (scrL kill gone l)
  | .clo f l => .clo f (scrL kill gone l)
  | .rop l d => .rop (scrL kill gone l) d
  | .any => .any
  | .int k n => .int k n
  | .bool b => .bool b
  | .str b => .str b
  | .sl f t l => .sl f t l
  | .nil => .nil
  | .isnil e => .isnil e
  | .iptr f t l i d => .iptr f t l i d
def scrL (kill : Nat → Nat → Bool) (gone : Nat → Bool) : List PV → List PV
  | [] => []
  | x :: l => scrV kill gone x :: scrL kill gone l
end
def scrR (kill : Nat → Nat → Bool) (gone : Nat → Bool) : List (List PV) → List (List PV)
  | [] => []
  | x :: l => scrL kill gone x :: scrR kill gone l
def scr (kill : Nat → Nat → Bool) (gone : Nat → Bool) (s : St) : St := ⟨scrL kill gone s.t, scrR kill gone s.r⟩
def atRoot (d r : Nat) : Bool := Nat.beq r d
def inRoot (d lo n r c : Nat) : Bool := Nat.beq r d && (Nat.ble lo c && Nat.ble (c + 1) (lo + n))
def lents : List PV → List PV
  | [] => []
  | .sl .lent t x :: l => .sl .lent t x :: lents l
  | _ :: l => lents l
def lay (s : St) (d : Nat) (cs : List PV) : St :=
  let s := scr (fun r _ => atRoot d r) (atRoot d) s
  ⟨s.t, pr s.r d (scrL (fun r _ => atRoot d r) (atRoot d) cs)⟩
def rewrite (s : St) (r c : Nat) (v : List PV) (psplice : List PV → Nat → List PV → List PV) (n : Nat) : St :=
  let s := scr (inRoot r c n) (fun _ => false) s
  ⟨s.t, pr s.r r (psplice (gr s.r r) c (scrL (inRoot r c n) (fun _ => false) v))⟩
def ptake : Nat → List PV → List PV
  | 0, _ => []
  | _, [] => []
  | n + 1, x :: l => x :: ptake n l
def pdrop : Nat → List PV → List PV
  | 0, l => l
  | _, [] => []
  | n + 1, _ :: l => pdrop n l
def plen : List PV → Nat
  | [] => 0
  | _ :: l => plen l + 1
def pcat : List PV → List PV → List PV
  | [], m => m
  | x :: l, m => x :: pcat l m
def psplice (l : List PV) (o : Nat) (v : List PV) : List PV := pcat (ptake o l) (pcat v (pdrop (o + plen v) l))
def ev (s : St) : Operand → PV
  | .tmp n => gt s.t n
  | .const (.int k n) => .int k n
  | .const (.bool b) => .bool b
  | .const (.string b) => .str b
  | .const (.slice none 0 0) => .nil
  | .func f => .clo f []
  | _ => .any
def cells : PV → Option (List PV)
  | .agg cs => some cs
  | .any => none
  | .tup _ => none
  | v => some [v]
structure Row where
  own : Bool
  t : Ty
  l : List t.val
def rowOf : PV → Option Row
  | .sl .own t l => some ⟨true, t, l⟩
  | .sl .lent t l => some ⟨false, t, l⟩
  | _ => none
def rowAt (s : St) (r c : Nat) : Option Row := rowOf (gt (gr s.r r) c)
def Row.pv (o : Row) : PV := .sl (if o.own then .own else .lent) o.t o.l
def look (s : St) : PV → PV
  | .view r c => match rowAt s r c with
    | some o => .sl .bor o.t o.l
    | none => .any
  | .sub r c lo hi => match rowAt s r c with
    | some o => .sl .bor o.t ((o.l.take hi.toNat).drop lo.toNat)
    | none => .any
  | .sl .own t l => .sl .bor t l
  | .sl .lent t l => .sl .bor t l
  | v => v
def looks (s : St) : List PV → List PV
  | [] => []
  | x :: l => look s x :: looks s l
def move (s : St) : PV → PV × St
  | .view r c => match gt (gr s.r r) c with
    | .sl .own t l => (.sl .own t l, ⟨s.t, pc s.r r c .any⟩)
    | .sl .lent _ _ => (.view r c, s)
    | _ => (.any, s)
  | .sub r c 0 hi => match gt (gr s.r r) c with
    | .sl .own t l => (.sl .own t (l.take hi.toNat), ⟨s.t, pc s.r r c .any⟩)
    | _ => (.sub r c 0 hi, s)
  | v => (v, s)
def moves (s : St) : List PV → List PV × St
  | [] => ([], s)
  | x :: l => match move s x with
    | (x, s) => match moves s l with
      | (l, s) => (x :: l, s)
def seen (r : Nat) : Nat → List PV → List PV
  | _, [] => []
  | c, .sl .own _ _ :: l => .view r c :: seen r (c + 1) l
  | c, .sl .lent _ _ :: l => .view r c :: seen r (c + 1) l
  | c, x :: l => x :: seen r (c + 1) l
def one (agg : Bool) (n : Nat) (l : List PV) : Option PV :=
  if agg then (cond (Nat.beq (plen l) n) (some (.agg l)) none) else match l with
    | [x] => some x
    | _ => none
def mixC (c : Bool) : PV → PV → PV
  | .int k a, .int k' b => if k = k' then .int k (cond c a b) else .any
  | .bool a, .bool b => .bool (cond c a b)
  | .str a, .str b => .str (cond c a b)
  | .sl .imm t a, .sl .imm t' b => if h : t' = t then .sl .imm t (cond c a (h ▸ b)) else .any
  | .sl .bor t a, .sl .bor t' b => if h : t' = t then .sl .bor t (cond c a (h ▸ b)) else .any
  | .nil, .nil => .nil
  | .nil, .sl .imm t b => .sl .imm t (cond c [] b)
  | .nil, .sl .bor t b => .sl .bor t (cond c [] b)
  | .sl .imm t a, .nil => .sl .imm t (cond c a [])
  | .sl .bor t a, .nil => .sl .bor t (cond c a [])
  | .view r c, .view r' c' => if r = r' then (if c = c' then .view r c else .any) else .any
  | .ptr r c, .ptr r' c' => if r = r' then (if c = c' then .ptr r c else .any) else .any
  | _, _ => .any
def mixR (c : Bool) : PV → PV → PV
  | .sl .own t a, .sl .own t' b => if h : t' = t then .sl .own t (cond c a (h ▸ b)) else .any
  | .sl .lent t a, .sl .lent t' b => if h : t' = t then .sl .lent t (cond c a (h ▸ b)) else .any
  | .sl .own t a, .sl .imm t' b => if h : t' = t then .sl .imm t (cond c a (h ▸ b)) else .any
  | .sl .imm t a, .sl .own t' b => if h : t' = t then .sl .imm t (cond c a (h ▸ b)) else .any
  | .sl .own t a, .nil => .sl .own t (cond c a [])
  | .nil, .sl .own t b => .sl .own t (cond c [] b)
  | x, y => mixC c x y
def zipC (c : Bool) : List PV → List PV → List PV
  | x :: l, y :: m => mixC c x y :: zipC c l m
  | _, _ => []
def mixP (c : Bool) : PV → PV → PV
  | .rop a d, .rop b e => cond (Nat.beq d e && Nat.beq (plen a) (plen b)) (.rop (zipC c a b) d) .any
  | x, y => mixC c x y
def zipP (c : Bool) : List PV → List PV → List PV
  | x :: l, y :: m => mixP c x y :: zipP c l m
  | _, _ => []
def mixV (c : Bool) : PV → PV → PV
  | .agg a, .agg b => cond (Nat.beq (plen a) (plen b)) (.agg (zipC c a b)) .any
  | .clo f a, .clo g b => cond (Nat.beq f g && Nat.beq (plen a) (plen b)) (.clo f (zipP c a b)) .any
  | x, y => mixP c x y
def zipV (c : Bool) : List PV → List PV → List PV
  | x :: l, y :: m => mixV c x y :: zipV c l m
  | _, _ => []
def zipK (c : Bool) : List PV → List PV → List PV
  | x :: l, y :: m => mixR c x y :: zipK c l m
  | _, _ => []
def zipR (c : Bool) : List (List PV) → List (List PV) → List (List PV)
  | x :: l, y :: m => zipK c x y :: zipR c l m
  | _, _ => []
def nilOwn : PV → PV → Bool
  | .nil, .sl .own _ _ => true
  | .sl .own _ _, .nil => true
  | _, _ => false
def nilOwnK : List PV → List PV → Bool
  | x :: l, y :: m => nilOwn x y || nilOwnK l m
  | _, _ => false
def nilOwnR : List (List PV) → List (List PV) → Bool
  | x :: l, y :: m => nilOwnK x y || nilOwnR l m
  | _, _ => false
def mixS (c : Bool) (a b : St) : St := cond (nilOwnR a.r b.r)
  (scr (fun r j => nilOwn (gt (gr a.r r) j) (gt (gr b.r r) j)) (fun _ => false) ⟨zipV c a.t b.t, zipR c a.r b.r⟩)
  ⟨zipV c a.t b.t, zipR c a.r b.r⟩
def home (s : St) (x : Nat) (t : Ty) : St := match gt s.t x with
  | .nil => let s := lay s x [.sl .own t []]; ⟨pt s.t x (.view x 0), s.r⟩
  | .view r c => if r = x then s else match gt (gr s.r r) c with
    | .sl .own t l =>
      let s := lay ⟨s.t, pc s.r r c .any⟩ x [.sl .own t l]
      ⟨pt s.t x (.view x 0), s.r⟩
    | _ => s
  | _ => s
def tyOf (s : St) : PV → Option Ty
  | .view r c => match gt (gr s.r r) c with
    | .sl .own t _ => some t
    | _ => none
  | _ => none
def homeAt (a b : St) : PV → PV → Option Ty
  | .view r c, .view r' _ => if r = r' then none else tyOf a (.view r c)
  | .nil, .view r c => tyOf b (.view r c)
  | .view r c, .nil => tyOf a (.view r c)
  | _, _ => none
def homes (a b : St) : Nat → List PV → List PV → St × St
  | x, p :: l, q :: m => match homeAt a b p q with
    | some t => homes (home a x t) (home b x t) (x + 1) l m
    | none => homes a b (x + 1) l m
  | _, _, _ => (a, b)
def meet (c : Bool) (a b : St) : St := match homes a b 0 a.t b.t with
  | (a, b) => mixS c a b
theorem w64_ex : ∃ f : Int → Int, f = Go.RowKit.wrap64 := ⟨_, rfl⟩
noncomputable def wrap64 : Int → Int := Classical.choose w64_ex
theorem w64_eq (n : Int) : wrap64 n = Go.RowKit.wrap64 n := congrFun (Classical.choose_spec w64_ex) n
noncomputable def wr (k : IntKind) (n : Int) : Int := match k with
  | .i64 => wrap64 n
  | _ => k.wrap n
def bits (op : BinOp) (k : IntKind) (x y : Int) : Int :=
  let a := BitVec.ofInt k.bits x
  let b := BitVec.ofInt k.bits y
  match op with
  | .and => k.wrap (a &&& b).toNat
  | .or => k.wrap (a ||| b).toNat
  | .xor => k.wrap (a ^^^ b).toNat
  | _ => k.wrap (a &&& ~~~b).toNat
def shl (k : IntKind) (x y : Int) : Int := k.wrap (x * 2 ^ (min y.toNat k.bits))
def shr (k : IntKind) (x y : Int) : Int := x.fdiv (2 ^ (min y.toNat k.bits))
noncomputable def binInt (op : BinOp) (k : IntKind) (x y : Int) : Option (List Bool × PV) :=
  match op with
  | .add => some ([], .int k (wr k (x + y)))
  | .sub => some ([], .int k (wr k (x - y)))
  | .mul => some ([], .int k (wr k (x * y)))
  | .quo => some ([!(y == 0)], .int k (wr k (x.tdiv y)))
  | .rem => some ([!(y == 0)], .int k (x.tmod y))
  | .and | .or | .xor | .andNot => some ([], .int k (bits op k x y))
  | .eql => some ([], .bool (x == y))
  | .neq => some ([], .bool (x != y))
  | .lss => some ([], .bool (decide (x < y)))
  | .leq => some ([], .bool (decide (x ≤ y)))
  | .gtr => some ([], .bool (decide (x > y)))
  | .geq => some ([], .bool (decide (x ≥ y)))
  | _ => none
def seq (x y : ByteArray) : Bool := x.toList == y.toList
def slt (x y : ByteArray) : Bool := Op.bytesLess x.toList y.toList
theorem lit_ex (n : Int) : ∃ m : Int, m = n := ⟨n, rfl⟩
noncomputable def M0 : Int := Classical.choose (lit_ex 140737488355328)
theorem M0_eq : M0 = 140737488355328 := Classical.choose_spec (lit_ex 140737488355328)
noncomputable def S0 : Int := Classical.choose (lit_ex 9223372036854775807)
theorem S0_eq : S0 = 9223372036854775807 := Classical.choose_spec (lit_ex 9223372036854775807)
noncomputable def roomy (n b : Int) : Bool := decide (n * b ≤ M0)
noncomputable def joins (x y : ByteArray) : Bool := decide ((x.size : Int) + y.size ≤ S0)
noncomputable def binStr (op : BinOp) (x y : ByteArray) : Option (List Bool × PV) :=
  match op with
  | .add => some ([joins x y], .str (x ++ y))
  | .eql => some ([], .bool (seq x y))
  | .neq => some ([], .bool (!seq x y))
  | .lss => some ([], .bool (slt x y))
  | .leq => some ([], .bool (slt x y || seq x y))
  | .gtr => some ([], .bool (!(slt x y || seq x y)))
  | .geq => some ([], .bool (!slt x y))
  | _ => none
def bt (s : ByteArray) (i : Int) : Int := ((s.data.getD i.toNat 0).toNat : Int)
def s2b (s : ByteArray) : List Int := s.data.toList.map fun b => (b.toNat : Int)
def b2s (l : List Int) : ByteArray := ⟨(l.map fun n => UInt8.ofNat n.toNat).toArray⟩
def addrOf (s : St) (sz : Nat) : PV → Option (List PV)
  | .ptr r c => some (seen r c (ptake sz (pdrop c (gr s.r r))))
  | .iptr f t l i o => some (ptake sz (pdrop o (enc f t (rd t l i))))
  | .eptr r c i o => match rowAt s r c with
    | some w => some (ptake sz (pdrop o (enc .imm w.t (rd w.t w.l i))))
    | none => none
  | .rop cs d => some (ptake sz (pdrop d cs))
  | _ => none
def pickAt (i : Int) : Nat → Nat → List PV → PV
  | 0, _, l => gt l 0
  | n + 1, j, l => mixC (i == j) (gt l 0) (pickAt i n (j + 1) (pdrop 1 l))
def putAt (i : Int) (v : PV) : Nat → List PV → List PV
  | _, [] => []
  | j, x :: l => mixC (i == j) v x :: putAt i v (j + 1) l
def put (s : St) (a : PV) (v : List PV) : Option St :=
  match a with
  | .ptr r c => match moves s v with
    | (v, s) => if plen (gr s.r r) < c + plen v then none else some (rewrite s r c v psplice (plen v))
  | .aptr r c n 1 i => match v with
    | [x] => if plen (gr s.r r) < c + n then none else some (rewrite s r c (putAt i x 0 (seen r c (ptake n (pdrop c (gr s.r r))))) psplice n)
    | _ => none
  | .eptr r c i o => match moves s v with
    | (v, s) => match rowAt s r c with
      | some w => if w.t.sz' < o + plen v then none else match dec w.t (psplice (enc .imm w.t (rd w.t w.l i)) o v) with
        | some (x, []) => some ⟨s.t, pc s.r r c (Row.pv ⟨w.own, w.t, w.l.set i.toNat x⟩)⟩
        | _ => none
      | none => none
  | _ => none
def elemTy (D : TypeId → Option TD) (td : TD) : Option (Ty × TD) := match td.k with
  | .slice e => match D e with
    | some de => some (de.row, de)
    | none => none
  | _ => none
def lay1 (s : St) (d : Nat) (v : PV) : St × PV := (lay s d [v], .view d 0)
def lenOf (s : St) : PV → Option Int
  | .sl _ _ l => some (l.length : Int)
  | .nil => some 0
  | .view r c => match rowAt s r c with
    | some w => some (w.l.length : Int)
    | none => none
  | .sub r c lo hi => match rowAt s r c with
    | some _ => some (hi - lo)
    | none => none
  | _ => none
def opInt (s : St) : Option Operand → Option (Option Int)
  | none => some none
  | some x => match ev s x with
    | .int _ i => some (some i)
    | _ => none
def bounds (n : Int) : Option Int → Option Int → List Bool
  | none, none => []
  | some l, none => [decide (0 ≤ l) && decide (l ≤ n)]
  | none, some h => [decide (0 ≤ h) && decide (h ≤ n)]
  | some l, some h => [decide (0 ≤ h) && decide (h ≤ n), decide (0 ≤ l) && decide (l ≤ h)]
def boundsC (n m a : Int) : Option Int → Option Int → List Bool
  | none, none => []
  | some l, none => [decide (0 ≤ l) && decide (l ≤ n)]
  | none, some h => [decide (0 ≤ h) && (decide (h ≤ n) || ((a == 0) && decide (h ≤ m)))]
  | some l, some h => [decide (0 ≤ h) && (decide (h ≤ n) || ((a == 0) && decide (h ≤ m))), decide (0 ≤ l) && decide (l ≤ h)]
def loN : Option Int → Nat
  | some l => l.toNat
  | none => 0
def hiN (n : Nat) : Option Int → Nat
  | some l => l.toNat
  | none => n
def loI : Option Int → Int
  | some l => l
  | none => 0
def hiI (n : Int) : Option Int → Int
  | some l => l
  | none => n
def loA (a : Int) : Option Int → Int
  | some l => a + l
  | none => a
def hiA (a b : Int) : Option Int → Int
  | some l => a + l
  | none => b
def sliceV (s : St) (t : Ty) (x : PV) (lo hi : Option Int) : Option (List Bool × PV) :=
  match x with
  | .sl .imm t' l => if t' = t then some (bounds l.length lo hi, .sl .imm t' (part l lo hi)) else none
  | .sl .bor t' l => if t' = t then some (bounds l.length lo hi, .sl .bor t' (part l lo hi)) else none
  | .view r c => match rowAt s r c with
    | some w => if w.t = t then (match lo, hi with
      | none, none => some ([], .view r c)
      | _, _ => some (bounds w.l.length lo hi, .sub r c (loI lo) (hiI w.l.length hi))) else none
    | none => none
  | .sub r c a b => match rowAt s r c with
    | some w => if w.t = t then some (boundsC (b - a) (w.l.length : Int) a lo hi, .sub r c (loA a lo) (hiA a b hi)) else none
    | none => none
  | .nil => some (bounds 0 lo hi, .nil)
  | _ => none
where part {α : Type} (l : List α) : Option Int → Option Int → List α
  | none, none => l
  | some a, none => l.drop a.toNat
  | none, some b => l.take b.toNat
  | some a, some b => (l.take b.toNat).drop a.toNat
def source (s : St) (t : Ty) (x : PV) : Option (List t.val) :=
  match look s x with
  | .sl f t' l => if f = .own ∨ f = .lent then none else if h : t' = t then some (h ▸ l) else none
  | .nil => some []
  | .str b => if h : t = .int .u8 then some (h ▸ s2b b) else none
  | _ => none
def flat : Ty → Bool
  | .slice _ => false
  | .pair a b => flat a && flat b
  | .sum _ _ => false
  | _ => true
def keeps (s : St) (t : Ty) (x : PV) : Bool := flat t || (match x with
  | .sl .imm _ _ => true
  | .nil => true
  | .view _ _ => true
  | .sub _ _ _ _ => true
  | _ => false)
def mayFeed (D : TypeId → Option TD) (tx : TypeId) (y : PV) : Bool := match D tx with
  | some td => match td.k, y with
    | .slice _, .str _ => false
    | .slice _, _ => true
    | .str, .str _ => true
    | _, _ => false
  | none => false
def ownPart (r c : Nat) : PV → Bool
  | .sub r' c' _ _ => Nat.beq r' r && Nat.beq c' c
  | _ => false
noncomputable def append (D : TypeId → Option TD) (s : St) (d : Nat) (ty tx : TypeId) (x y : PV) : Option (List Bool × PV × St) :=
  match D ty with
  | some td => match elemTy D td with
    | some (t, de) => match source s t y with
      | some m => if keeps s t y = true ∧ 0 < t.sz' ∧ mayFeed D tx y = true then (match x with
        | .nil => match lay1 s d (.sl .own t m) with
          | (s, v) => some ([roomy (m.length : Int) de.bytes], v, s)
        | .view r c => match gt (gr s.r r) c with
          | .sl .own t' l => if h : t' = t then (match lay1 ⟨s.t, pc s.r r c .any⟩ d (.sl .own t ((h ▸ l) ++ m)) with
            | (s, v) => some ([roomy ((l.length : Int) + (m.length : Int)) de.bytes], v, s)) else none
          | _ => none
        | .sub r c 0 hi => match gt (gr s.r r) c with
          | .sl .own t' l => if h : t' = t then cond (ownPart r c y)
              (some ([decide (hi + (m.length : Int) ≤ (l.length : Int))], .sub r c 0 (hi + (m.length : Int)), ⟨s.t, pc s.r r c (Row.pv ⟨true, t, (h ▸ l).take hi.toNat ++ m ++ (h ▸ l).drop (hi.toNat + m.length)⟩)⟩))
              (match lay1 ⟨s.t, pc s.r r c .any⟩ d (.sl .own t ((h ▸ l).take hi.toNat ++ m)) with
            | (s, v) => some ([roomy (hi + (m.length : Int)) de.bytes], v, s)) else none
          | _ => none
        | _ => none) else none
      | none => none
    | none => none
  | none => none
noncomputable def copy (D : TypeId → Option TD) (s : St) (ty tx : TypeId) (x y : PV) : Option (List Bool × PV × St) :=
  match D ty with
  | some td => match elemTy D td with
    | some (t, _) => match source s t y with
      | some m => if flat t = true ∧ 0 < t.sz' ∧ mayFeed D tx y = true then (match x with
        | .view r c => match rowAt s r c with
          | some w => if h : w.t = t then (let l : List t.val := h ▸ w.l
            some ([], .int .i64 ((min m.length l.length : Nat) : Int), ⟨s.t, pc s.r r c (Row.pv ⟨w.own, t, m.take l.length ++ l.drop m.length⟩)⟩)) else none
          | none => none
        | .sub r c lo hi => match rowAt s r c with
          | some w => if h : w.t = t then (let l : List t.val := h ▸ w.l
            some ([], .int .i64 ((min m.length (hi - lo).toNat : Nat) : Int), ⟨s.t, pc s.r r c (Row.pv ⟨w.own, t, l.take lo.toNat ++ m.take (hi - lo).toNat ++ l.drop (lo.toNat + min m.length (hi - lo).toNat)⟩)⟩)) else none
          | none => none
        | _ => none) else none
      | none => none
    | none => none
  | none => none
noncomputable def clearS (D : TypeId → Option TD) (s : St) (ty : TypeId) (x : PV) : Option (List Bool × PV × St) :=
  match D ty with
  | some td => match elemTy D td with
    | some (t, _) => if 0 < t.sz' then (match x with
      | .view r c => match rowAt s r c with
        | some w => if w.t = t then some ([], .any, ⟨s.t, pc s.r r c (Row.pv ⟨w.own, w.t, List.replicate w.l.length w.t.dflt⟩)⟩) else none
        | none => none
      | .sub r c lo hi => match rowAt s r c with
        | some w => if w.t = t then some ([], .any, ⟨s.t, pc s.r r c (Row.pv ⟨w.own, w.t, w.l.take lo.toNat ++ List.replicate (hi - lo).toNat w.t.dflt ++ w.l.drop (lo.toNat + (hi - lo).toNat)⟩)⟩) else none
        | none => none
      | _ => none) else none
    | none => none
  | none => none
def fillS (place : Nat → Option (Nat × Nat)) (s : St) : List (Nat × Operand) → List PV → Option (List PV)
  | [], cs => some cs
  | (i, x) :: l, cs => match place i with
    | some (o, z) => match cells (ev s x) with
      | some v => if plen v = z ∧ o + z ≤ plen cs then fillS place s l (psplice cs o v) else none
      | none => none
    | none => none
def placeS (D : TypeId → Option TD) (offs : List (Nat × TypeId)) (i : Nat) : Option (Nat × Nat) := match offs[i]? with
  | some (o, e) => match D e with
    | some d => some (o, d.sz)
    | none => none
  | none => none
def isB (D : TypeId → Option TD) (t : TypeId) : Bool := match D t with
  | some ⟨.bool, _, _, _, _⟩ => true
  | _ => false
def isSl (D : TypeId → Option TD) (t : TypeId) : Bool := match D t with
  | some ⟨.slice _, _, _, _, _⟩ => true
  | _ => false
def isStr (D : TypeId → Option TD) (t : TypeId) : Bool := match D t with
  | some ⟨.str, _, _, _, _⟩ => true
  | _ => false
def leaf (D : TypeId → Option TD) (t : TypeId) (p q : PV) : Bool := match D t with
  | some ⟨.int _, _, _, _, _⟩ => match p, q with
    | .int k _, .int k' _ => k == k'
    | _, _ => false
  | some ⟨.bool, _, _, _, _⟩ => match p, q with
    | .bool _, .bool _ => true
    | _, _ => false
  | some ⟨.str, _, _, _, _⟩ => match p, q with
    | .str _, .str _ => true
    | _, _ => false
  | _ => false
def eqV : PV → PV → Bool
  | .int _ a, .int _ b => a == b
  | .bool a, .bool b => a == b
  | .str a, .str b => seq a b
  | _, _ => false
def eqF (D : TypeId → Option TD) (a b : List PV) : List (Nat × TypeId) → Option Bool
  | [] => some true
  | [(o, t)] => cond (leaf D t (gt a o) (gt b o)) (some (eqV (gt a o) (gt b o))) none
  | (o, t) :: l => cond (leaf D t (gt a o) (gt b o)) (match eqF D a b l with
    | some r => some (eqV (gt a o) (gt b o) && r)
    | none => none) none
def eqA (D : TypeId → Option TD) (t : TypeId) (a b : List PV) : Option Bool := match D t with
  | some ⟨.struct offs, _, _, _, _⟩ => eqF D a b offs
  | _ => none
def rowsOf (t : Ty) : Nat → List (Nat × Operand) → St → Option (List t.val × St)
  | _, [], s => some ([], s)
  | i, (j, x) :: l, s => if j = i then (match cells (ev s x) with
    | some v => match moves s v with
      | (v, s) => match dec t v with
        | some (y, []) => match rowsOf t (i + 1) l s with
          | some (l, s) => some (y :: l, s)
          | none => none
        | _ => none
    | none => none) else none
noncomputable def opS (D : TypeId → Option TD) (s : St) (d : Nat) (op : Op) : Option (List Bool × PV × St) :=
  match op with
  | .move x | .assign x => some ([], ev s x, s)
  | .pick c a b => match ev s c with
    | .bool c => some ([], mixV c (ev s a) (ev s b), s)
    | _ => none
  | .box _ x => match cells (ev s x) with
    | some v => match moves s v with
      | (v, s) => some ([], .ptr d 0, lay s d v)
    | none => none
  | .alloc e => match D e with
    | some t => some ([], .ptr d 0, lay s d (zero t.row))
    | none => none
  | .build e ps => match D e with
    | some ⟨.struct offs, _, row, _, _⟩ => match fillS (placeS D offs) s ps.toList (zero row) with
      | some cs => some ([], .agg cs, s)
      | none => none
    | some ⟨.arr _ e', _, row, _, _⟩ => match D e' with
      | some d' => match fillS (fun i => some (i * d'.sz, d'.sz)) s ps.toList (zero row) with
        | some cs => some ([], .agg cs, s)
        | none => none
      | none => none
    | _ => none
  | .buildSlice e n ps => match D e with
    | some td => match elemTy D td with
      | some (t, _) => if ps.toList.length = n ∧ 0 < t.sz' ∧ n * t.sz' ≤ 16777216 then (match rowsOf t 0 ps.toList s with
        | some (l, s) => match lay1 s d (.sl .own t l) with
          | (s, v) => some ([], v, s)
        | none => none) else none
      | none => none
    | none => none
  | .makeSlice e n m => match D e with
    | some td => match elemTy D td with
      | some (t, de) => if t.sz' = 0 then none else match ev s n, ev s m with
        | .int _ n, .int _ m => match lay1 s d (.sl .own t (List.replicate n.toNat t.dflt)) with
          | (s, v) => some ([decide (0 ≤ n) && decide (n ≤ m) && roomy m de.bytes], v, s)
        | _, _ => none
      | none => none
    | none => none
  | .load e a => match D e with
    | some t => match ev s a with
      | .aptr r c n 1 i => if t.agg = true ∨ (gr s.r r).length < c + n then none else some ([], pickAt i (n - 1) 0 (seen r c (ptake n (pdrop c (gr s.r r)))), s)
      | p => match addrOf s t.sz p with
        | some cs => match one t.agg t.sz cs with
          | some v => some ([], v, s)
          | none => none
        | none => none
    | none => none
  | .store e a x => match D e, cells (ev s x) with
    | some t, some v => if plen v = t.sz then (match put s (ev s a) v with
      | some s => some ([], .any, s)
      | none => none) else none
    | _, _ => none
  | .nilCheck x => match ev s x with
    | .ptr r c => some ([], .ptr r c, s)
    | .eptr r c i o => some ([], .eptr r c i o, s)
    | .rop cs o => some ([], .rop cs o, s)
    | .iptr f t l i o => some ([], .iptr f t l i o, s)
    | _ => none
  | .binOp op ty x y _ => match op, ev s x, ev s y with
    | .shl, .int k a, .int _ b => some ([decide (0 ≤ b)], .int k (shl k a b), s)
    | .shr, .int k a, .int _ b => some ([decide (0 ≤ b)], .int k (shr k a b), s)
    | op, .int k a, .int k' b => if k = k' then (match binInt op k a b with
      | some (o, v) => some (o, v, s)
      | none => none) else none
    | op, .str a, .str b => match binStr op a b with
      | some (o, v) => some (o, v, s)
      | none => none
    | .eql, .bool a, .bool b => cond (isB D ty) (some ([], .bool (a == b), s)) none
    | .neq, .bool a, .bool b => cond (isB D ty) (some ([], .bool (!(a == b)), s)) none
    | .eql, .agg a, .agg b => match eqA D ty a b with
      | some v => some ([], .bool v, s)
      | none => none
    | .neq, .agg a, .agg b => match eqA D ty a b with
      | some v => some ([], .bool (!v), s)
      | none => none
    | .eql, .nil, .nil => cond (isSl D ty) (some ([], .bool true, s)) none
    | .eql, .sl _ _ l, .nil => cond (isSl D ty) (some ([], .isnil l.isEmpty, s)) none
    | _, _, _ => none
  | .unOp op _ x => match op, ev s x with
    | .not, .bool b => some ([], .bool (!b), s)
    | .neg, .int k n => some ([], .int k (wr k (0 - n)), s)
    | _, _ => none
  | .convert e0 e x => match D e0, D e with
    | some t0, some t => match t0.k, t.k, ev s x with
      | _, .int k, .int _ n => some ([], .int k (wr k n), s)
      | _, .str, .str b => some ([], .str b, s)
      | .str, .slice e', .str b => match D e' with
        | some ⟨.int .u8, _, _, _, _⟩ => match lay1 s d (.sl .own (.int .u8) (s2b b)) with
          | (s, v) => some ([], v, s)
        | _ => none
      | .slice e', .str, p => match D e' with
        | some ⟨.int .u8, _, _, _, _⟩ => match source s (.int .u8) p with
          | some l => some ([], .str (b2s l), s)
          | none => none
        | _ => none
      | _, _, _ => none
    | _, _ => none
  | .fieldAddr e x f => match D e with
    | some ⟨.struct offs, _, _, _, _⟩ => match offs[f]? with
      | some (o, e') => match D e' with
        | some t' => if t'.sz = 0 then none else match ev s x with
          | .ptr r c => some ([], .ptr r (c + o), s)
          | .eptr r c i d => some ([], .eptr r c i (d + o), s)
          | .iptr f t l i d => some ([], .iptr f t l i (d + o), s)
          | .rop cs d => some ([], .rop cs (d + o), s)
          | _ => none
        | none => none
      | none => none
    | _ => none
  | .field e x f => match D e with
    | some ⟨.struct offs, _, _, _, _⟩ => match offs[f]? with
      | some (o, e') => match D e', ev s x with
        | some t, .agg cs => match one t.agg t.sz (ptake t.sz (pdrop o cs)) with
          | some v => some ([], v, s)
          | none => none
        | _, _ => none
      | none => none
    | _ => none
  | .indexAddr e x i => match D e, ev s i with
    | some td, .int _ n => match td.k with
      | .slice _ => match elemTy D td with
        | some (t, _) => match ev s x with
          | .sl f t' l => if t' = t then some ([decide (0 ≤ n) && decide (n < l.length)], .iptr f t' l n 0, s) else none
          | .view r c => match rowAt s r c with
            | some w => if w.t = t then some ([decide (0 ≤ n) && decide (n < w.l.length)], .eptr r c n 0, s) else none
            | none => none
          | .sub r c lo hi => match rowAt s r c with
            | some w => if w.t = t then some ([decide (0 ≤ n) && decide (n < hi - lo)], .eptr r c (lo + n) 0, s) else none
            | none => none
          | _ => none
        | none => none
      | .arr m e' => match D e', ev s x with
        | some t, .ptr r c => match i with
          | .const _ => if 0 ≤ n ∧ n.toNat < m then some ([], .ptr r (c + n.toNat * t.sz), s) else none
          | _ => if c + m * t.sz ≤ (gr s.r r).length then some ([decide (0 ≤ n) && decide (n < m)], .aptr r c m t.sz n, s) else none
        | _, _ => none
      | _ => none
    | _, _ => none
  | .index e x i => match ev s x, ev s i with
    | .str b, .int _ i => cond (isStr D e) (some ([decide (0 ≤ i) && decide (i < b.size)], .int .u8 (bt b i), s)) none
    | _, _ => none
  | .slice t x lo hi none => match D t, opInt s lo, opInt s hi with
    | some td, some lo, some hi => match td.k, ev s x with
      | .str, .str b => some (bounds b.size lo hi, .str (b.extract (loN lo) (hiN b.size hi)), s)
      | .slice _, p => match elemTy D td with
        | some (t, _) => match sliceV s t p lo hi with
          | some (o, v) => some (o, v, s)
          | none => none
        | none => none
      | _, _ => none
    | _, _, _ => none
  | .slice t x lo (some hi) (some mx) => match D t, opInt s lo, ev s hi, ev s mx with
    | some td, some lo, .int _ h, .int _ m => match elemTy D td, lenOf s (ev s x) with
      | some _, some n => some ([decide (0 ≤ m) && decide (m ≤ n), decide (0 ≤ h) && decide (h ≤ m), decide (0 ≤ loI lo) && decide (loI lo ≤ h)], .any, s)
      | _, _ => none
    | _, _, _, _ => none
  | .extract x i => match ev s x with
    | .tup vs => cond (Nat.ble (i + 1) (plen vs)) (some ([], gt vs i, s)) none
    | _ => none
  | .makeFunc (.func f) first caps => if first.size = 0 then some ([], .clo f (caps.toList.map (ev s)), s) else none
  | .call ⟨.builtin b, xs, ts⟩ => match b, xs.toList, ts.toList with
    | .len, [x], t :: _ => match D t with
      | some td => match td.k, ev s x with
        | .str, .str b => some ([], .int .i64 b.size, s)
        | .slice _, .str _ => none
        | .slice _, p => match lenOf s p with
          | some n => some ([], .int .i64 n, s)
          | none => none
        | _, _ => none
      | none => none
    | .append, [x, y], [t, tx] => append D s d t tx (ev s x) (ev s y)
    | .copy, [x, y], [t, tx] => copy D s t tx (ev s x) (ev s y)
    | .clear, [x], [t] => clearS D s t (ev s x)
    | .min, [x, y], _ => match ev s x, ev s y with
      | .int k a, .int _ b => some ([], .int k (cond (decide (b < a)) b a), s)
      | _, _ => none
    | .max, [x, y], _ => match ev s x, ev s y with
      | .int k a, .int _ b => some ([], .int k (cond (decide (b > a)) b a), s)
      | _, _ => none
    | _, _, _ => none
  | .panic _ => some ([false], .any, s)
  | _ => none
inductive CS where
  | any
  | val (f : Fl) (t : Ty)
  | fix (p : PV)
inductive SS where
  | cell (c : CS)
  | agg (cs : List CS)
  | rop (cs : List CS)
  | clo (f : FuncId) (caps : List (List CS))
  | box (cs : List CS)
def SS.flat : SS → List CS
  | .cell c => [c]
  | .agg cs => cs
  | .rop cs => cs
  | .box cs => cs
  | .clo _ caps => caps.flatten
def flats : List SS → List CS
  | [] => []
  | x :: l => x.flat ++ flats l
def tyL : List CS → Ty
  | [] => .unit
  | .val _ t :: l => .pair t (tyL l)
  | _ :: l => tyL l
def sameCaps : List PV → List PV → Bool
  | [], [] => true
  | .ptr r c :: l, .ptr r' c' :: l' => (r == r' && c == c') && sameCaps l l'
  | _, _ => false
def same : PV → PV → Bool
  | .view r c, .view r' c' => r == r' && c == c'
  | .ptr r c, .ptr r' c' => r == r' && c == c'
  | .nil, .nil => true
  | .clo f l, .clo f' l' => f == f' && sameCaps l l'
  | _, _ => false
def encL : (l : List CS) → (tyL l).val → List PV
  | [], _ => []
  | .val f t :: l, v => (match enc f t v.1 with | [p] => p | _ => .any) :: encL l v.2
  | .fix p :: l, v => p :: encL l v
  | .any :: l, v => .any :: encL l v
def decC (f : Fl) (t : Ty) (p : PV) : Option t.val :=
  match t, p with
  | .int k, .int k' x => if k = k' then some x else none
  | .bool, .bool x => some x
  | .str, .str x => some x
  | .slice t, .sl f' t' l => if f' = f ∨ (f' = .imm ∧ f = .bor) then (if h : t' = t then some (h ▸ l) else none) else none
  | .slice _, .nil => some []
  | _, _ => none
def decL : (l : List CS) → List PV → Option (tyL l).val
  | [], [] => some ()
  | .val f t :: l, p :: ps => match decC f t p with
    | some x => match decL l ps with
      | some v => some (x, v)
      | none => none
    | none => none
  | .fix q :: l, p :: ps => if same q p then decL l ps else none
  | .any :: l, _ :: ps => decL l ps
  | _, _ => none
def clen : List CS → Nat
  | [] => 0
  | _ :: l => clen l + 1
def reps : List (List CS) → List PV → List PV × List PV
  | [], ps => ([], ps)
  | c :: l, ps => match reps l (pdrop (clen c) ps) with
    | (vs, r) => (.rop (ptake (clen c) ps) 0 :: vs, r)
def build1 : SS → List PV → PV × List PV
  | .cell _, p :: ps => (p, ps)
  | .cell _, [] => (.any, [])
  | .agg cs, ps => (.agg (ptake (clen cs) ps), pdrop (clen cs) ps)
  | .rop cs, ps => (.rop (ptake (clen cs) ps) 0, pdrop (clen cs) ps)
  | .clo f caps, ps => match reps caps ps with
    | (vs, r) => (.clo f vs, r)
  | .box cs, ps => (.any, pdrop (clen cs) ps)
def builds : List SS → List PV → List PV
  | [], _ => []
  | x :: l, ps => match build1 x ps with
    | (v, r) => v :: builds l r
abbrev Spot := Nat × Nat × Nat
def meets (x y : Spot) : Bool := Nat.beq x.1 y.1 && (Nat.ble (x.2.1 + 1) (y.2.1 + y.2.2) && Nat.ble (y.2.1 + 1) (x.2.1 + x.2.2))
def hits (x : Spot) : List Spot → Bool
  | [] => false
  | y :: l => meets x y || hits x l
def loose : List Spot → Bool
  | [] => true
  | x :: l => !hits x l && loose l
def spotC (s : St) : CS → PV → List Spot
  | .val .own _, .view r c => match gt (gr s.r r) c with
    | .sl .own _ _ => [(r, c, 1)]
    | _ => []
  | .val .lent _, .view r c => match rowAt s r c with
    | some _ => [(r, c, 1)]
    | none => []
  | _, _ => []
def spotL (s : St) : List CS → List PV → List Spot
  | c :: l, p :: ps => spotC s c p ++ spotL s l ps
  | _, _ => []
def spot1 (s : St) : Bool → SS → PV → List Spot
  | true, .agg cs, .ptr r c => [(r, c, clen cs)]
  | true, .agg _, .eptr r c _ _ => [(r, c, 1)]
  | false, .cell c, p => spotC s c p
  | false, .agg cs, .agg l => spotL s cs l
  | _, _, _ => []
def spots (s : St) : List Bool → List SS → List PV → List Spot
  | b :: bs, x :: l, p :: ps => spot1 s b x p ++ spots s bs l ps
  | _, _, _ => []
def immC (s : St) : CS → PV → List Spot
  | .val .imm _, .view r c => match gt (gr s.r r) c with
    | .sl .own _ _ => [(r, c, 1)]
    | _ => []
  | _, _ => []
def immL (s : St) : List CS → List PV → List Spot
  | c :: l, p :: ps => immC s c p ++ immL s l ps
  | _, _ => []
def imm1 (s : St) : Bool → SS → PV → List Spot
  | false, .cell c, p => immC s c p
  | false, .agg cs, .agg l => immL s cs l
  | _, _, _ => []
def imms (s : St) : List Bool → List SS → List PV → List Spot
  | b :: bs, x :: l, p :: ps => imm1 s b x p ++ imms s bs l ps
  | _, _, _ => []
def boxes : List Bool → List SS → List PV → List Spot
  | true :: bs, .agg cs :: l, .ptr r c :: ps => (r, c, clen cs) :: boxes bs l ps
  | _ :: bs, _ :: l, _ :: ps => boxes bs l ps
  | _, _, _ => []
def strikeL (z : List Spot) (r : Nat) : Nat → List PV → List PV
  | _, [] => []
  | c, x :: l => cond (hits (r, c, 1) z) .any x :: strikeL z r (c + 1) l
def strikeR (z : List Spot) : Nat → List (List PV) → List (List PV)
  | _, [] => []
  | r, x :: l => strikeL z r 0 x :: strikeR z (r + 1) l
def strike (z bx : List Spot) (s : St) : St :=
  let s := scr (fun r c => hits (r, c, 1) bx) (fun _ => false) s
  ⟨s.t, strikeR z 0 s.r⟩
def behind (s1 : St) (z : List Spot) (n : Nat) : PV → Option (List PV)
  | .ptr r c => cond (hits (r, c, n) z) none (some (looks s1 (ptake n (pdrop c (gr s1.r r)))))
  | .rop cs d => some (ptake n (pdrop d cs))
  | .iptr f t l i d => some (ptake n (pdrop d (enc f t (rd t l i))))
  | .eptr r c i d => match rowAt s1 r c with
    | some w => some (ptake n (pdrop d (enc .bor w.t (rd w.t w.l i))))
    | none => none
  | _ => none
def capCells (s1 : St) (z : List Spot) : List (List CS) → List PV → Option (List PV)
  | [], [] => some []
  | c :: l, p :: ps => match behind s1 z (clen c) p with
    | some cs => cond (Nat.beq (plen cs) (clen c)) (match capCells s1 z l ps with
      | some r => some (pcat cs r)
      | none => none) none
    | none => none
  | _, _ => none
def noRow : List CS → Bool
  | [] => true
  | .val .own _ :: _ => false
  | .val .lent _ :: _ => false
  | _ :: l => noRow l
def cellC (s s1 : St) : CS → PV → PV
  | .val .own _, .view r c => match gt (gr s.r r) c with
    | .sl .own t l => .sl .own t l
    | _ => .any
  | .val .imm _, .view r c => match gt (gr s.r r) c with
    | .sl .own t l => .sl .imm t l
    | _ => .any
  | .val .lent _, .view r c => match rowAt s r c with
    | some w => .sl .lent w.t w.l
    | none => .any
  | .val .lent _, _ => .any
  | _, p => look s1 p
def cellL (s s1 : St) : List CS → List PV → List PV
  | c :: l, p :: ps => cellC s s1 c p :: cellL s s1 l ps
  | _, _ => []
def cells1 (s s1 : St) (z : List Spot) : Bool → SS → PV → Option (List PV)
  | true, .agg cs, .ptr r c => cond (Nat.ble (c + clen cs) (plen (gr s.r r))) (some (ptake (clen cs) (pdrop c (gr s.r r)))) none
  | true, .agg cs, .eptr r c i d => match rowAt s r c with
    | some w => some (ptake (clen cs) (pdrop d (enc .imm w.t (rd w.t w.l i))))
    | none => none
  | false, .cell c, p => some [cellC s s1 c p]
  | false, .agg cs, .agg l => cond (Nat.beq (plen l) (clen cs)) (some (cellL s s1 cs l)) none
  | false, .rop cs, p => cond (noRow cs) (behind s1 z (clen cs) p) none
  | false, .clo f caps, .clo f' ps => if f = f' then cond (noRow caps.flatten) (capCells s1 z caps ps) none else none
  | _, _, _ => none
def cellsS (s s1 : St) (z : List Spot) : List Bool → List SS → List PV → Option (List PV)
  | [], [], [] => some []
  | b :: bs, x :: l, p :: ps => match cells1 s s1 z b x p with
    | some a => cond (Nat.beq (plen a) (clen x.flat)) (match cellsS s s1 z bs l ps with
      | some r => some (pcat a r)
      | none => none) none
    | none => none
  | _, _, _ => none
def hands (s : St) (bs : List Bool) (l : List SS) (ps : List PV) : Option (List PV × St) :=
  let z := spots s bs l ps ++ imms s bs l ps
  let s1 := strike z (boxes bs l ps) s
  cond (loose z) (match cellsS s s1 z bs l ps with
    | some r => some (r, s1)
    | none => none) none
structure Entry where
  ptrs : List Bool
  ins : List SS
  rets : List SS
  outs : List SS
  f : (tyL (flats ins)).val → Option (tyL (flats (rets ++ outs))).val
def anyRow : List PV → Bool
  | [] => false
  | .sl .own _ _ :: _ => true
  | .sl .lent _ _ :: _ => true
  | _ :: r => anyRow r
def lentN : List CS → Nat
  | [] => 0
  | .val .lent _ :: l => lentN l + 1
  | _ :: l => lentN l
def outLen : Bool → SS → Nat
  | true, x => clen x.flat
  | false, x => lentN x.flat
def backC (s : St) : List CS → List PV → List PV → Option (List (Nat × Nat × List PV))
  | .val .lent _ :: l, .view r c :: ps, .sl .lent t' x :: vs => match rowAt s r c with
    | some w => if t' = w.t then (match backC s l ps vs with
      | some o => some ((r, c, [Row.pv ⟨w.own, t', x⟩]) :: o)
      | none => none) else none
    | none => none
  | .val .lent _ :: _, _, _ => none
  | _ :: l, _ :: ps, vs => backC s l ps vs
  | [], [], [] => some []
  | _, _, _ => none
def back1 (s : St) : Bool → SS → PV → List PV → Option (List (Nat × Nat × List PV))
  | true, .agg cs, .ptr r c, vs => cond (Nat.beq (plen vs) (clen cs)) (some [(r, c, vs)]) none
  | true, .agg cs, .eptr r c i d, vs => match rowAt s r c with
    | some w => cond (Nat.beq (plen vs) (clen cs) && (Nat.ble (d + clen cs) w.t.sz' && !anyRow vs)) (match dec w.t (psplice (enc .imm w.t (rd w.t w.l i)) d vs) with
      | some (x, []) => some [(r, c, [Row.pv ⟨w.own, w.t, w.l.set i.toNat x⟩])]
      | _ => none) none
    | none => none
  | false, .cell c, p, vs => backC s [c] [p] vs
  | false, .agg cs, .agg l, vs => backC s cs l vs
  | false, .rop _, _, [] => some []
  | false, .clo _ _, _, [] => some []
  | _, _, _, _ => none
def back (s : St) : List Bool → List SS → List PV → List PV → Option (List (Nat × Nat × List PV))
  | b :: bs, x :: l, p :: ps, vs => match back1 s b x p (ptake (outLen b x) vs) with
    | some o => match back s bs l ps (pdrop (outLen b x) vs) with
      | some o' => some (o ++ o')
      | none => none
    | none => none
  | [], [], [], [] => some []
  | _, _, _, _ => none
def refill (s : St) : List (Nat × Nat × List PV) → St
  | [] => s
  | (r, c, v) :: l => refill ⟨s.t, pr s.r r (psplice (gr s.r r) c v)⟩ l
def rowsOnly : List PV → List PV
  | [] => []
  | .sl .own t l :: r => .sl .own t l :: rowsOnly r
  | .sl .lent t l :: r => .sl .lent t l :: rowsOnly r
  | _ :: r => .any :: rowsOnly r
def tupV : List PV → PV
  | [v] => v
  | l => .tup l
def done (s s1 : St) (d : Nat) (e : Entry) (xs : List PV) (v : (tyL (flats (e.rets ++ e.outs))).val) : Option (PV × St) :=
  let cs := encL _ v
  let n := clen (flats e.rets)
  match back s e.ptrs e.ins xs (pdrop n cs) with
  | some o =>
    let s2 := refill s1 o
    match e.rets with
    | [.box _] => some (.ptr d 0, lay s2 d (ptake n cs))
    | _ => some (tupV (builds e.rets (seen d 0 (ptake n cs))), cond (anyRow (ptake n cs)) (lay s2 d (rowsOnly (ptake n cs))) s2)
  | none => none
structure XS where
  by' : Option Nat
  ins : List SS
  rts : List (List CS)
  hm : List (Nat × Bool × Ty)
  nl : List (Nat × Nat × Bool × Ty)
def XS.ty (x : XS) : Ty := tyL (flats x.ins ++ x.rts.flatten)
def tyX : List XS → Ty
  | [] => .unit
  | [x] => x.ty
  | x :: l => .sum x.ty (tyX l)
structure LEntry where
  ins : List SS
  rts : List (List CS)
  hm : List (Nat × Bool × Ty)
  nl : List (Nat × Nat × Bool × Ty)
  xs : List XS
  f : (tyL (flats ins ++ rts.flatten)).val → Option (tyX xs).val
def allOk : List Bool → Bool
  | [] => true
  | [c] => c
  | c :: l => c && allOk l
def under {R : Type} (l : List Bool) (x : Option R) : Option R := match l with
  | [] => x
  | c :: l => cond (allOk (c :: l)) x none
def gmap (g : Bool) : List Bool → List Bool
  | [] => []
  | c :: l => (!g || c) :: gmap g l
def grd (s : St) (ops : List Oper) (gs : List (Option Bool)) : Option (Nat × Bool) → Option (Option Bool)
  | none => some none
  | some (j, w) => match ops[j]? with
    | some o => match o.dst with
      | some d => match gt s.t d with
        | .bool b => let x := cond w b (!b)
          match gs[j]? with
          | some (some g) => some (some (g && x))
          | _ => some (some x)
        | _ => none
      | none => none
    | none => none
def find {α : Type} (n : Nat) : List (Nat × α) → Option α
  | [] => none
  | (m, a) :: l => cond (Nat.beq m n) (some a) (find n l)
def hasN (i : Nat) : List Nat → Bool
  | [] => false
  | j :: l => Nat.beq j i || hasN i l
structure Env where
  D : TypeId → Option TD
  pin : List Nat
  fns : List (Nat × Entry)
  loops : List (Nat × LEntry)
def dstOf (o : Oper) : Nat := match o.dst with | some d => d | none => 1000000
def dstOk (pin : List Nat) (o : Oper) : Bool := match o.dst with | some d => !hasN d pin | none => true
def setT (s : St) (o : Oper) (v : PV) : St := match o.dst with
  | some d => ⟨pt s.t d v, s.r⟩
  | none => s
def evs (s : St) (xs : Array Operand) : List PV := xs.toList.map (ev s)
noncomputable def evOps {R : Type} (E : Env) (bind : Bool) (K : List Bool → St → Option R) : List Oper → List Bool → St → Option R
  | [], oks, s => K oks s
  | o :: l, oks, s => cond (dstOk E.pin o) (match o.op with
      | .call ⟨.value f, xs, _⟩ => match ev s f with
        | .clo f caps => match find f E.fns with
          | some e =>
            let ps := evs s xs ++ caps
            match hands s e.ptrs e.ins ps with
            | some (cs, s1) => match decL (flats e.ins) cs with
              | some v => match bind with
                | true => (e.f v).bind fun r => match done s s1 (dstOf o) e ps r with
                  | some (p, s2) => evOps E bind K l oks (setT s2 o p)
                  | none => none
                | false => match done s s1 (dstOf o) e ps ((e.f v).getD (tyL (flats (e.rets ++ e.outs))).dflt) with
                  | some (p, s2) => evOps E bind K l (oks ++ [(e.f v).isSome]) (setT s2 o p)
                  | none => none
              | none => none
            | none => none
          | none => none
        | _ => none
      | op => match opS E.D s (dstOf o) op with
        | none => none
        | some (ok, v, s) => evOps E bind K l (oks ++ ok) (setT s o v)) none
def unguarded : List Oper → Bool
  | [] => true
  | o :: l => (match o.guard with | none => true | some _ => false) && unguarded l
mutual
def okB (f : Nat → Nat → Bool) (g : Nat → Bool) : PV → Bool
  | .view r c => f r c
  | .sub r c _ _ => f r c
  | .eptr r c _ _ => f r c
  | .ptr r _ => g r
  | .aptr r _ _ _ _ => g r
  | .agg l => okBL f g l
  | .tup l => okBL f g l
  | .clo _ l => okBL f g l
  | .rop l _ => okBL f g l
  | .any => true
  | .int _ _ => true
  | .bool _ => true
  | .str _ => true
  | .sl _ _ _ => true
  | .nil => true
  | .isnil _ => true
  | .iptr _ _ _ _ _ => true
def okBL (f : Nat → Nat → Bool) (g : Nat → Bool) : List PV → Bool
  | [] => true
  | x :: l => okB f g x && okBL f g l
end
def okBR (f : Nat → Nat → Bool) (g : Nat → Bool) : List (List PV) → Bool
  | [] => true
  | x :: l => okBL f g x && okBR f g l
mutual
def refsV : PV → List Nat → List Nat
  | .view r _, a => cond (hasN r a) a (r :: a)
  | .sub r _ _ _, a => cond (hasN r a) a (r :: a)
  | .eptr r _ _ _, a => cond (hasN r a) a (r :: a)
  | .ptr r _, a => cond (hasN r a) a (r :: a)
  | .aptr r _ _ _ _, a => cond (hasN r a) a (r :: a)
  | .agg l, a => refsL l a
  | .tup l, a => refsL l a
  | .clo _ l, a => refsL l a
  | .rop l _, a => refsL l a
  | .any, a => a
  | .int _ _, a => a
  | .bool _, a => a
  | .str _, a => a
  | .sl _ _ _, a => a
  | .nil, a => a
  | .isnil _, a => a
  | .iptr _ _ _ _ _, a => a
def refsL : List PV → List Nat → List Nat
  | [], a => a
  | x :: l, a => refsL l (refsV x a)
end
def slotsOf : List Operand → List Nat
  | [] => []
  | .tmp n :: l => n :: slotsOf l
  | _ :: l => slotsOf l
def refsT (s : St) : List Nat → List Nat → List Nat
  | [], a => a
  | x :: l, a => refsT s l (refsV (gt s.t x) a)
def refsR (s : St) : List Nat → List Nat → List Nat
  | [], a => a
  | r :: l, a => refsR s l (refsL (gr s.r r) a)
def closure (s : St) (X : List Nat) : List Nat :=
  let a := refsT s X []
  let b := refsR s a a
  refsR s b b
def closureO (s : St) (op : Op) (X : List Nat) : List Nat := match op with
  | .move (.tmp n) => (match gt s.t n with
    | .ptr _ _ => []
    | _ => closure s X)
  | _ => closure s X
def maskT (X : List Nat) : Nat → List PV → List PV
  | _, [] => []
  | i, x :: l => cond (hasN i X) x .any :: maskT X (i + 1) l
def maskR (R : List Nat) : Nat → List (List PV) → List (List PV)
  | _, [] => []
  | i, x :: l => cond (hasN i R) x [] :: maskR R (i + 1) l
def mask (X R : List Nat) (s : St) : St := ⟨maskT X 0 s.t, maskR R 0 s.r⟩
def still : Op → Bool
  | .move _ | .assign _ | .pick _ _ _ | .build _ _ | .load _ _ | .nilCheck _ | .binOp _ _ _ _ _ | .unOp _ _ _ => true
  | .fieldAddr _ _ _ | .field _ _ _ | .indexAddr _ _ _ | .index _ _ _ | .slice _ _ _ _ _ | .extract _ _ | .makeFunc _ _ _ => true
  | .call ⟨.builtin .len, _, _⟩ => true
  | _ => false
def calm : Op → Bool
  | _ => true
def bxS (s : St) : Op → List Spot
  | .store _ a x => match ev s a, cells (ev s x) with
    | .ptr r c, some v => [(r, c, v.length)]
    | .aptr r c n _ _, _ => [(r, c, n)]
    | _, _ => []
  | _ => []
structure Inf where
  d : Option Nat
  dn : Nat
  X : List Nat
  R : List Nat
  W : List Nat
  bx : List Spot
  v : PV
  m : St
def updR (W : List Nat) (m : List (List PV)) : Nat → List (List PV) → List (List PV)
  | _, [] => []
  | k, x :: l => cond (hasN k W) (gr m k) x :: updR W m (k + 1) l
def upd (s : St) (i : Inf) : St := ⟨match i.d with | some d => pt s.t d i.v | none => s.t, updR i.W i.m.r 0 s.r⟩
def sameC (bx : List Spot) (r : Nat) : Nat → List PV → List PV → Bool
  | _, [], _ => true
  | c, y :: l, [] => (match rowOf y with | some _ => hits (r, c, 1) bx | none => true) && sameC bx r (c + 1) l []
  | c, y :: l, x :: l' => (match rowOf y, rowOf x with | some o, some o' => decide (o.t = o'.t) || hits (r, c, 1) bx | some _, none => hits (r, c, 1) bx | none, _ => true) && sameC bx r (c + 1) l l'
def sameRs (bx : List Spot) (m m' : St) : List Nat → Bool
  | [] => true
  | r :: l => sameC bx r 0 (gr m'.r r) (gr m.r r) && sameRs bx m m' l
def withD (d : Option Nat) (R : List Nat) : List Nat := match d with | some d => d :: R | none => R
def inN (i : Inf) : List Nat := match i.W with
  | [] => i.R
  | _ :: _ => withD i.d i.R
def fine (m : St) (dn : Nat) (i : Inf) : Bool :=
  let f := fun r => hasN r (inN i)
  !hasN dn i.R && (okB (fun r _ => f r) (fun r => f r || !Nat.beq dn r) i.v && (okBR (fun r _ => f r) f i.m.r && sameRs i.bx m i.m i.R))
def noSpots : List Spot → Bool
  | [] => true
  | _ :: _ => false
def hush (o : Oper) (e : Entry) (ps : List PV) (m : St) : Bool :=
  (match o.dst with | some _ => true | none => false) && (noSpots (spots m e.ptrs e.ins ps) && (noSpots (imms m e.ptrs e.ins ps) && (noSpots (boxes e.ptrs e.ins ps) && okBR (fun r _ => !Nat.beq r (dstOf o)) (fun r => !Nat.beq r (dstOf o)) m.r)))
def mkInf (o : Oper) (X R : List Nat) (q : Bool) (bx : List Spot) (v : PV) (m m2 : St) : Inf := cond (still o.op) ⟨o.dst, dstOf o, X, R, [], [], v, m⟩ ⟨o.dst, dstOf o, X, R, withD o.dst (cond q [] R), bx, v, m2⟩
noncomputable def evPh {R : Type} (E : Env) (bind : Bool) (K : List Bool → List Inf → St → Option R) : List Oper → List Bool → List Inf → St → Option R
  | [], oks, is, s => K oks is s
  | o :: l, oks, is, s => cond (dstOk E.pin o && calm o.op) (
      let X := slotsOf o.op.operands.toList
      let Rt := closureO s o.op X
      let m := mask X Rt s
      match o.op with
      | .call ⟨.value f, xs, _⟩ => match ev m f with
        | .clo f caps => match find f E.fns with
          | some e =>
            let ps := evs m xs ++ caps
            match hands m e.ptrs e.ins ps with
            | some (cs, s1) => match decL (flats e.ins) cs with
              | some v => match bind with
                | true => (e.f v).bind fun r => match done m s1 (dstOf o) e ps r with
                  | some (p, s2) =>
                    let i := mkInf o X Rt (hush o e ps m) (boxes e.ptrs e.ins ps) p m s2
                    cond (fine m (dstOf o) i) (evPh E bind K l oks (is ++ [i]) (upd s i)) none
                  | none => none
                | false => match done m s1 (dstOf o) e ps ((e.f v).getD (tyL (flats (e.rets ++ e.outs))).dflt) with
                  | some (p, s2) =>
                    let i := mkInf o X Rt (hush o e ps m) (boxes e.ptrs e.ins ps) p m s2
                    cond (fine m (dstOf o) i) (evPh E bind K l (oks ++ [(e.f v).isSome]) (is ++ [i]) (upd s i)) none
                  | none => none
              | none => none
            | none => none
          | none => none
        | _ => none
      | op => match opS E.D m (dstOf o) op with
        | none => none
        | some (ok, v, m2) =>
          let i := mkInf o X Rt false (bxS m op) v m m2
          cond (fine m (dstOf o) i) (evPh E bind K l (oks ++ ok) (is ++ [i]) (upd s i)) none) none
def edges : List Edge → List Nat
  | [] => []
  | e :: l => match e.ground with
    | .textOnly _ => edges l
    | .gcOnly _ => edges l
    | _ => e.on :: edges l
def nthL : List (List Nat) → Nat → List Nat
  | [], _ => []
  | x :: _, 0 => x
  | _ :: l, n + 1 => nthL l n
def addAll : List Nat → List Nat → List Nat
  | [], a => a
  | x :: l, a => addAll l (cond (hasN x a) a (x :: a))
def closeA (A : List (List Nat)) : List Nat → List Nat
  | [] => []
  | e :: l => addAll (e :: nthL A e) (closeA A l)
def ancs : List Oper → List (List Nat) → List (List Nat)
  | [], A => A
  | o :: l, A => ancs l (A ++ [closeA A (edges o.after.toList)])
def below : Nat → List Nat → Bool
  | _, [] => true
  | k, e :: l => Nat.ble (e + 1) k && below k l
def backward : Nat → List Oper → Bool
  | _, [] => true
  | k, o :: l => below k (edges o.after.toList) && backward (k + 1) l
def allUpTo (A : List Nat) : Nat → Bool
  | 0 => true
  | n + 1 => hasN n A && allUpTo A n
def tailAt : Nat → Nat → List (List Nat) → Nat
  | _, n, [] => n
  | k, n, A :: l => tailAt (k + 1) (cond (allUpTo A k) n (k + 1)) l
def disj : List Nat → List Nat → Bool
  | [], _ => true
  | x :: l, m => !hasN x m && disj l m
def distinctD : Option Nat → Option Nat → Bool
  | some a, some b => !Nat.beq a b
  | _, _ => true
def notIn : Option Nat → List Nat → Bool
  | some a, l => !hasN a l
  | none, _ => true
def pairOk (ord : Bool) (i j : Inf) : Bool := distinctD i.d j.d && (ord || (notIn i.d j.X && (notIn j.d i.X && (disj i.W j.R && (disj i.W j.W && disj j.W i.R)))))
def spares (j : Inf) (v : PV) (rs : List (List PV)) : Bool :=
  let g := fun r => !Nat.beq j.dn r
  let f := fun r c => g r && !hits (r, c, 1) j.bx
  okB f g v && okBR f g rs
def pairsOk (A : List (List Nat)) (is : List Inf) (i : Inf) (ki : Nat) : Nat → List Inf → Bool
  | _, [] => true
  | kj, j :: l => (Nat.beq ki kj || (cond (Nat.ble (kj + 1) ki) (pairOk (hasN kj (nthL A ki)) j i) true && (hasN kj (nthL A ki) || spares j i.v (cond (Nat.beq (plenN i.W) 0) [] i.m.r)))) && pairsOk A is i ki (kj + 1) l
where plenN : List Nat → Nat
  | [] => 0
  | _ :: l => plenN l + 1
def allPairs (A : List (List Nat)) (is : List Inf) : Nat → List Inf → Bool
  | _, [] => true
  | k, i :: l => pairsOk A is i k 0 is && allPairs A is (k + 1) l
def okBT (f : Nat → Nat → Bool) (g : Nat → Bool) (s : St) : Bool := okBL f g s.t && okBR f g s.r
def sparesS (s : St) : List Inf → Bool
  | [] => true
  | j :: l => (let g := fun r => !Nat.beq j.dn r
    okBT (fun r c => g r && !hits (r, c, 1) j.bx) g s) && sparesS s l
def dsts : List Oper → List Nat
  | [] => []
  | o :: l => withD o.dst (dsts l)
noncomputable def evDr {R : Type} (E : Env) (bind : Bool) (ops : List Oper) (K : List Bool → St → Option R) (s : St) : Option R :=
  let A := ancs ops []
  let n := tailAt 0 0 A
  let ds := dsts (ops.take n)
  let s0 := scr (fun r _ => hasN r ds) (fun r => hasN r ds) s
  cond (backward 0 ops) (evPh E bind (fun oks is s' => cond (allPairs A is 0 is && sparesS s0 is) (evOps E bind K (ops.drop n) oks s') none) (ops.take n) [] [] s0) none
def upToL : Nat → List Nat
  | 0 => []
  | n + 1 => n :: upToL n
def inOrder : Nat → Nat → List (List Nat)
  | _, 0 => []
  | k, n + 1 => upToL k :: inOrder (k + 1) n
def lenO : List Oper → Nat
  | [] => 0
  | _ :: l => lenO l + 1
def dropT (ds : List Nat) : Nat → List PV → List PV
  | _, [] => []
  | i, x :: l => cond (hasN i ds) .any x :: dropT ds (i + 1) l
def dropR (ds : List Nat) : Nat → List (List PV) → List (List PV)
  | _, [] => []
  | i, x :: l => cond (hasN i ds) [] x :: dropR ds (i + 1) l
def dropD (ds : List Nat) (s : St) : St := ⟨dropT ds 0 s.t, dropR ds 0 s.r⟩
def allIn : List Nat → List Nat → Bool
  | [], _ => true
  | x :: l, m => hasN x m && allIn l m
def wIn (ds : List Nat) : List Inf → Bool
  | [] => true
  | i :: l => allIn i.W ds && wIn ds l
def dIn (ds : List Nat) : List Inf → Bool
  | [] => true
  | i :: l => (match i.d with | some d => hasN d ds | none => true) && dIn ds l
def allDst (pin : List Nat) : List Oper → Bool
  | [] => true
  | o :: l => dstOk pin o && allDst pin l
def notDs (ds : List Nat) : Operand → Bool
  | .tmp n => !hasN n ds
  | _ => true
noncomputable def closeG (E : Env) (dj : Nat) (w : Bool) (grp : List Oper) (pk : Oper) (s : St) : Option (List Bool × St) :=
  match gt s.t dj, pk.op, pk.dst with
  | .bool b, .pick (.tmp c) x y, some d =>
    let ds := dsts grp
    let s0 := scr (fun r _ => hasN r ds) (fun r => hasN r ds) s
    cond (Nat.beq c dj && (!hasN dj ds && (notDs ds (cond w y x) && (dstOk E.pin pk && allDst E.pin grp)))) (evPh E false (fun oks is s1 =>
      let p := mixV b (ev (cond w s1 s0) x) (ev (cond w s0 s1) y)
      cond (allPairs (inOrder 0 (lenO grp)) is 0 is && (sparesS s0 is && (wIn ds is && dIn ds is)))
        (some (gmap (cond w b (!b)) oks, setT (dropD ds s1) pk p)) none) grp [] [] s0) none
  | _, _, _ => none
def sameG (g : Nat × Bool) (o : Oper) : Bool := match o.guard with
  | some (j, w) => Nat.beq j g.1 && (w == g.2)
  | none => false
def sameO : Option (Nat × Bool) → Oper → Bool
  | some g, o => sameG g o
  | none, o => match o.guard with
    | none => true
    | some _ => false
def flatG (g : Nat × Bool) : List Oper → Bool
  | [] => true
  | o :: l => sameG g o && flatG g l
def inG (ops : List Oper) : Nat → Nat × Bool → Oper → Bool
  | 0, g, o => sameG g o
  | n + 1, g, o => sameG g o || (match o.guard with
    | some (k, _) => match ops[k]? with
      | some p => inG ops n g p
      | none => false
    | none => false)
def spanG (ops : List Oper) (g : Nat × Bool) : List Oper → List Oper × List Oper
  | [] => ([], [])
  | o :: l => cond (inG ops 24 g o) (match spanG ops g l with | (a, b) => (o :: a, b)) ([], o :: l)
def skipB (ops : List Oper) (g : Nat × Bool) : List Nat → List Oper → Bool
  | _, [] => true
  | U, o :: l => (sameG g o || (match o.guard with
    | some (k, _) => match ops[k]? with
      | some p => match p.dst with
        | some d => hasN d U
        | none => false
      | none => false
    | none => false)) && skipB ops g (withD o.dst U) l
def mild (E : Env) (o : Oper) (s : St) : Bool := still o.op || (match o.op with
  | .call ⟨.value f, xs, _⟩ => match ev s f with
    | .clo f caps => match find f E.fns with
      | some e => hush o e (evs s xs ++ caps) s
      | none => false
    | _ => false
  | _ => false)
noncomputable def ex1 (E : Env) (o : Oper) (s : St) : Option (List Bool × St) := cond (mild E o s) (evOps E false (fun oks s => some (oks, s)) [o] [] s) none
noncomputable def closeB (E : Env) (ops : List Oper) (run : St → Option (List Bool × St)) (q : Nat × Bool) (pre : List Oper) (pk : Oper) (s : St) : Option (List Bool × St) :=
  match ops[q.1]? with
  | some g => match g.dst with
    | some dj => match gt s.t dj, pk.op, pk.dst with
      | .bool b, .pick (.tmp c) x y, some _ =>
        let ds := dsts pre
        let s0 := scr (fun r _ => hasN r ds) (fun r => hasN r ds) s
        cond (Nat.beq c dj && (!hasN dj ds && (notDs ds (cond q.2 y x) && (dstOk E.pin pk && (allDst E.pin pre && skipB ops q [] pre))))) (match run s0 with
          | some (oks, s1) => some (gmap (cond q.2 b (!b)) oks, setT (dropD ds s1) pk (mixV b (ev (cond q.2 s1 s0) x) (ev (cond q.2 s0 s1) y)))
          | none => none) none
      | _, _, _ => none
    | none => none
  | none => none
noncomputable def evB (E : Env) (ops : List Oper) : Nat → Option (Nat × Bool) → List Oper → St → Option (List Bool × St)
  | 0, _, _, _ => none
  | _ + 1, _, [], s => some ([], s)
  | n + 1, g, o :: l, s => cond (sameO g o)
    (match ex1 E o s with
      | some (ok, s1) => match evB E ops n g l s1 with
        | some (ok', s2) => some (ok ++ ok', s2)
        | none => none
      | none => none)
    (match o.guard with
      | some q => match spanG ops q (o :: l) with
        | (pre, pk :: rest) => cond (sameO g pk) (match closeB E ops (evB E ops n (some q) pre) q pre pk s with
          | some (ok, s1) => match evB E ops n g rest s1 with
            | some (ok', s2) => some (ok ++ ok', s2)
            | none => none
          | none => none) none
        | (_, []) => none
      | none => none)
def allStill : List Oper → Bool
  | [] => true
  | o :: l => still o.op && allStill l
noncomputable def evG {R : Type} (E : Env) (bind : Bool) (ops : List Oper) (K : List Bool → St → Option R) : List Oper → Option (Nat × Bool × List Oper) → List Bool → St → Option R
  | [], none, oks, s => K oks s
  | [], some _, _, _ => none
  | o :: l, none, oks, s => match o.guard with
    | none => evOps E bind (fun oks s => evG E bind ops K l none oks s) [o] oks s
    | some (j, w) => evG E bind ops K l (some (j, w, [o])) oks s
  | o :: l, some (j, w, grp), oks, s => match o.guard with
    | some _ => evG E bind ops K l (some (j, w, grp ++ [o])) oks s
    | none => match ops[j]? with
      | some g => match g.dst with
        | some dj => match cond (flatG (j, w) grp) (closeG E dj w grp o s) (closeB E ops (evB E ops (lenO ops + 1) (some (j, w)) grp) (j, w) grp o s) with
          | some (ok, s) => evG E bind ops K l none (oks ++ ok) s
          | none => none
        | none => none
      | none => none
def offI (i : Inf) (s : St) : Inf := ⟨i.d, i.dn, [], [], [], [], .any, mask [] [] s⟩
def nthG : List (List (Nat × Bool)) → Nat → List (Nat × Bool)
  | [], _ => []
  | x :: _, 0 => x
  | _ :: l, n + 1 => nthG l n
def chain1 (C : List (List (Nat × Bool))) (o : Oper) : List (Nat × Bool) := match o.guard with
  | none => []
  | some (j, w) => (j, w) :: nthG C j
def chains : List Oper → List (List (Nat × Bool)) → List (List (Nat × Bool))
  | [], C => C
  | o :: l, C => chains l (C ++ [chain1 C o])
def litB (w b : Bool) : Bool := cond w b (!b)
def nthV : List Inf → Nat → PV
  | [], _ => .any
  | i :: _, 0 => i.v
  | _ :: l, n + 1 => nthV l n
def nthD' : List Inf → Nat → Option Nat
  | [], _ => none
  | i :: _, 0 => i.d
  | _ :: l, n + 1 => nthD' l n
def holdB (is : List Inf) : List (Nat × Bool) → Option Bool
  | [] => some true
  | (j, w) :: l => match nthV is j with
    | .bool b => match l with
      | [] => some (litB w b)
      | _ :: _ => match holdB is l with
        | some c => some (c && litB w b)
        | none => none
    | _ => none
def ownOnly (i : Inf) : Bool := match i.W with
  | [] => true
  | [x] => (match i.d with
    | some d => Nat.beq d x
    | none => false)
  | _ => false
def allAny : List PV → List PV
  | [] => []
  | _ :: l => .any :: allAny l
def mixI (c : Bool) (s : St) (i : Inf) : Inf := ⟨i.d, i.dn, i.X, i.R, i.W, i.bx, i.v, mixS c ⟨allAny s.t, i.m.r⟩ ⟨allAny s.t, (mask i.X i.R s).r⟩⟩
def lastI : List Inf → Option Inf
  | [] => none
  | [i] => some i
  | _ :: l => lastI l
def inRange (d : Option Nat) (s : St) : Bool := match d with
  | some d => Nat.ble (d + 1) (plen s.t)
  | none => false
noncomputable def evPhC (E : Env) (A : List (List Nat)) (C : List (List (Nat × Bool))) (fin : List Bool → List Inf → St → Option (List Bool × St)) : Nat → List Oper → List Bool → List Inf → St → Option (List Bool × St)
  | _, [], oks, is, s => fin oks is s
  | k, o :: l, oks, is, s => match o.guard with
    | none => evPh E false (fun oks is s => evPhC E A C fin (k + 1) l oks is s) [o] oks is s
    | some (j, w) => cond (hasN j (nthL A k) && inRange (nthD' is j) s) (match holdB is (nthG C k) with
      | some c => evPh E false (fun ok1 is1 _ => match lastI is1 with
        | some i => cond (ownOnly i) (evPhC E A C fin (k + 1) l (oks ++ gmap c ok1) (is ++ [i]) (upd s i))
          (cond (fine (mask i.X i.R s) (dstOf o) (mixI c s i) && okB (fun _ _ => false) (fun _ => false) i.v) (evPhC E A C fin (k + 1) l (oks ++ gmap c ok1) (is ++ [mixI c s i]) (upd s (mixI c s i))) none)
        | none => none) [o] [] is s
      | none => none) none
def hasG (g : Nat × Bool) : List (Nat × Bool) → Bool
  | [] => false
  | x :: l => (Nat.beq x.1 g.1 && x.2 == g.2) || hasG g l
def subG : List (Nat × Bool) → List (Nat × Bool) → Bool
  | [], _ => true
  | x :: l, m => hasG x m && subG l m
def noG : List (Nat × Bool) → Bool
  | [] => true
  | _ :: _ => false
def idxD (c : Nat) : Nat → List Inf → Option Nat
  | _, [] => none
  | k, i :: l => match i.d with
    | some d => cond (Nat.beq d c) (some k) (idxD c (k + 1) l)
    | none => idxD c (k + 1) l
def extG (is : List Inf) (k c : Nat) (w : Bool) (ch : List (Nat × Bool)) : List (Nat × Bool) := match idxD c 0 is with
  | some j => cond (Nat.ble (j + 1) k) ((j, w) :: ch) ch
  | none => ch
def notOp (d : Option Nat) : Operand → Bool
  | .tmp n => notIn d [n]
  | _ => true
def slotOk (C : List (List (Nat × Bool))) (is : List Inf) (k : Nat) (o : Oper) (i : Inf) (j : Nat) (ij : Inf) : Bool :=
  (notIn ij.d i.R || (subG (nthG C j) (nthG C k) && (ownOnly i || noG (nthG C j)))) && (match o.op with
    | .pick (.tmp c) x y => (notIn ij.d [c] || subG (nthG C j) (nthG C k)) && ((notOp ij.d x || subG (nthG C j) (extG is k c true (nthG C k))) && (notOp ij.d y || subG (nthG C j) (extG is k c false (nthG C k))))
    | _ => notIn ij.d i.X || subG (nthG C j) (nthG C k))
def slotsOk (C : List (List (Nat × Bool))) (is : List Inf) (k : Nat) (o : Oper) (i : Inf) : Nat → List Inf → Bool
  | _, [] => true
  | j, ij :: l => (Nat.ble k j || slotOk C is k o i j ij) && slotsOk C is k o i (j + 1) l
def allSlots (C : List (List (Nat × Bool))) (is : List Inf) : Nat → List Oper → List Inf → Bool
  | k, o :: l, i :: m => slotsOk C is k o i 0 is && allSlots C is (k + 1) l m
  | _, _, _ => true
def isPick : Op → Bool
  | .pick _ _ _ => true
  | _ => false
def tailC : Nat → Nat → List Oper → Nat
  | _, n, [] => n
  | k, n, o :: l => tailC (k + 1) (match o.guard with
    | some _ => k + 1
    | none => cond (isPick o.op) (k + 1) n) l
def dstsG : List Oper → List Nat
  | [] => []
  | o :: l => match o.guard with
    | some _ => withD o.dst (dstsG l)
    | none => dstsG l
noncomputable def evCD (E : Env) (drawn : Bool) (ops : List Oper) (s : St) : Option (List Bool × St) :=
  let A := cond drawn (ancs ops []) (inOrder 0 (lenO ops))
  let n0 := cond drawn (tailAt 0 0 A) 0
  let n1 := tailC 0 0 ops
  let n := cond (Nat.ble n0 n1) n1 n0
  let C := chains ops []
  let ds := dsts (ops.take n)
  let gs := dstsG (ops.take n)
  let s0 := scr (fun r _ => hasN r ds) (fun r => hasN r ds) s
  cond (!drawn || backward 0 ops) (evPhC E A C (fun oks is s' => cond (allPairs A is 0 is && (sparesS s0 is && allSlots C is 0 (ops.take n) is)) (evOps E false (fun oks s => some (oks, s)) (ops.drop n) oks (dropD gs s')) none) 0 (ops.take n) [] [] s0) none
def frzN (s : St) (r : Nat) : Nat → St
  | 0 => s
  | n + 1 => match gt (gr (frzN s r n).r r) n with
    | .sl .own t l => ⟨(frzN s r n).t, pc (frzN s r n).r r n (.sl .imm t l)⟩
    | _ => frzN s r n
def freeze (s : St) : List Oper → St
  | [] => s
  | o :: l => match o.op with
    | .load _ a => match ev s a with
      | .ptr r 0 => freeze (frzN s r (plen (gr s.r r))) l
      | _ => freeze s l
    | _ => freeze s l
noncomputable def evR {R : Type} (E : Env) (bind : Bool) (drawn : Bool) (ops : List Oper) (K : List Bool → St → Option R) (s : St) : Option R :=
  cond (unguarded ops) (cond drawn (match evDr E false ops (fun oks s => some (oks, s)) s with
    | some _ => evDr E bind ops K s
    | none => evDr E bind ops K (freeze s ops)) (evOps E bind K ops [] s)) (cond drawn (cond (allStill ops && Region.lexB .any ops.toArray) (match evB E ops (lenO ops + 1) none ops (scr (fun r _ => hasN r (dsts ops)) (fun r => hasN r (dsts ops)) s) with
    | some (oks, s) => K oks s
    | none => none) (match evCD E true ops s with
    | some (oks, s) => K oks s
    | none => none)) (match evG E false ops (fun oks s => some (oks, s)) ops none [] s with
    | some _ => evG E bind ops K ops none [] s
    | none => match evCD E false ops s with
      | some (oks, s) => K oks s
      | none => none))
def straight : Code → Bool
  | .skip => true
  | .region _ _ _ => true
  | .seq a b => straight a && straight b
  | .cond _ a b => straight a && straight b
  | _ => false
noncomputable def evS (E : Env) : Code → St → Option (List Bool × St)
  | .skip, s => some ([], s)
  | .region _ ops dr, s => evR E false dr ops.toList (fun o s => some (o, s)) s
  | .seq a b, s => match evS E a s with
    | some (o, s) => match evS E b s with
      | some (o', s) => some (o ++ o', s)
      | none => none
    | none => none
  | .cond c a b, s => match ev s c with
    | .bool c => match evS E a s with
      | some (o, s1) => match evS E b s with
        | some (o', s2) => cond (Nat.beq (plen s1.t) (plen s2.t)) (some (gmap c o ++ gmap (!c) o', meet c s1 s2)) none
        | none => none
      | none => none
    | _ => none
  | _, _ => none
def firstRegion : Code → Nat
  | .region id _ _ => id
  | .seq a _ => firstRegion a
  | .block _ c => firstRegion c
  | .loop c => firstRegion c
  | _ => 0
def homeI (s : St) (x : Nat) (t : Ty) : St := match gt s.t x with
  | .nil => ⟨pt s.t x (.sl .imm t []), s.r⟩
  | .view r c => match gt (gr s.r r) c with
    | .sl .own t' l => ⟨pt s.t x (.sl .imm t' l), pc s.r r c .any⟩
    | _ => s
  | _ => s
def homesOf (s : St) : List (Nat × Bool × Ty) → St
  | [] => s
  | (x, o, t) :: l => homesOf (cond o (home s x t) (homeI s x t)) l
def nilsOf (s : St) : List (Nat × Nat × Bool × Ty) → St
  | [] => s
  | (r, c, o, t) :: l => nilsOf (match gt (gr s.r r) c with
    | .nil => cond o (scr (fun r' c' => Nat.beq r' r && Nat.beq c' c) (fun _ => false) ⟨s.t, pc s.r r c (.sl .own t [])⟩) ⟨s.t, pc s.r r c (.sl .imm t [])⟩
    | .sl .own t' x => cond o s ⟨s.t, pc s.r r c (.sl .imm t' x)⟩
    | _ => s) l
def okCell : CS → PV → Bool
  | .val .own _, .nil => false
  | .val .lent _, .nil => false
  | _, _ => true
def fit : List CS → List PV → Bool
  | [], [] => true
  | c :: l, p :: ps => okCell c p && fit l ps
  | _, _ => false
def ropCells : List (List CS) → List PV → Option (List PV)
  | [], [] => some []
  | c :: l, .rop cs 0 :: ps => cond (fit c cs) (match ropCells l ps with
    | some r => some (pcat cs r)
    | none => none) none
  | _, _ => none
def slotCells : List SS → List PV → Option (List PV)
  | [], [] => some []
  | .cell c :: l, p :: ps => cond (okCell c p) (match slotCells l ps with
    | some r => some (p :: r)
    | none => none) none
  | .agg c :: l, .agg cs :: ps => cond (fit c cs) (match slotCells l ps with
    | some r => some (pcat cs r)
    | none => none) none
  | .rop c :: l, .rop cs 0 :: ps => cond (fit c cs) (match slotCells l ps with
    | some r => some (pcat cs r)
    | none => none) none
  | .clo f caps :: l, .clo f' vs :: ps => if f = f' then (match ropCells caps vs with
    | some cs => match slotCells l ps with
      | some r => some (pcat cs r)
      | none => none
    | none => none) else none
  | _, _ => none
def rootCells : List (List CS) → List (List PV) → Option (List PV)
  | [], _ => some []
  | [] :: l, [] => rootCells l []
  | [] :: l, _ :: rs => rootCells l rs
  | c :: l, r :: rs => cond (fit c r) (match rootCells l rs with
    | some z => some (pcat r z)
    | none => none) none
  | _, _ => none
def rootsOf : List (List CS) → List PV → List (List PV)
  | [], _ => []
  | c :: l, ps => ptake (clen c) ps :: rootsOf l (pdrop (clen c) ps)
def mkSt (ins : List SS) (rts : List (List CS)) (v : (tyL (flats ins ++ rts.flatten)).val) : St :=
  let cs := encL _ v
  let n := clen (flats ins)
  ⟨builds ins (ptake n cs), rootsOf rts (pdrop n cs)⟩
def rdSt (ins : List SS) (rts : List (List CS)) (hm : List (Nat × Bool × Ty)) (nl : List (Nat × Nat × Bool × Ty)) (s : St) : Option (tyL (flats ins ++ rts.flatten)).val :=
  let s := nilsOf (homesOf s hm) nl
  match slotCells ins s.t with
  | some cs => match rootCells rts s.r with
    | some rs => decL _ (pcat cs rs)
    | none => none
  | none => none
def exitOf : Option Nat → Exit
  | none => .ret
  | some i => .exit i
def isExit : Option Nat → Exit → Bool
  | none, .ret => true
  | some i, .exit j => Nat.beq i j
  | _, _ => false
def outs {R : Type} (K : Exit → St → Option R) : (l : List XS) → (tyX l).val → Option R
  | [] => fun _ => none
  | [x] => fun v => K (exitOf x.by') (mkSt x.ins x.rts v)
  | x :: y :: l => fun v => Sum.elim (fun v => K (exitOf x.by') (mkSt x.ins x.rts v)) (outs K (y :: l)) v
def intos : (l : List XS) → Exit → St → Option (tyX l).val
  | [], _, _ => none
  | [x], e, s => if isExit x.by' e then rdSt x.ins x.rts x.hm x.nl s else none
  | x :: y :: l, e, s => if isExit x.by' e then (match rdSt x.ins x.rts x.hm x.nl s with
      | some v => some (.inl v)
      | none => none)
    else match intos (y :: l) e s with
      | some v => some (.inr v)
      | none => none
open Classical in
noncomputable def both {R : Type} (e : Bool) (x y : Option R) : Option R := if e = true ∧ x ≠ y then none else y
noncomputable def evC {R : Type} (E : Env) : Code → St → (Exit → St → Option R) → Option R
  | .skip, s, K => K .normal s
  | .region _ ops dr, s, K => evR E true dr ops.toList (fun o s => under o (K .normal s)) s
  | .seq a b, s, K => evC E a s fun e s => match e with
    | .normal => evC E b s K
    | e => K e s
  | .cond c a b, s, K => match ev s c with
    | .bool x => if straight a && straight b then (match evS E (.cond c a b) s with
        | some (o, s) => under o (K .normal s)
        | none => none)
      else cond x (evC E a s K) (evC E b s K)
    | .isnil e => both e (evC E a s K) (evC E b s K)
    | _ => none
  | .block id c, s, K => evC E c s fun e s => match e with
    | .exit i => if i = id then K .normal s else K (.exit i) s
    | e => K e s
  | .loop c, s, K => match find (firstRegion c) E.loops with
    | some e => match rdSt e.ins e.rts e.hm e.nl s with
      | some v => (e.f v).bind fun o => outs K e.xs o
      | none => none
    | none => none
  | .exit id, s, K => K (.exit id) s
  | .ret, s, K => K .ret s
  | _, _, _ => none
theorem K0_ex : ∃ n : Nat, n = 2 ^ 64 := ⟨_, rfl⟩
noncomputable def K0 : Nat := Classical.choose K0_ex
theorem K0_eq : K0 = 2 ^ 64 := Classical.choose_spec K0_ex
def sk : Nat → List SS → List SS
  | 0, l => l
  | n + 1, l => .cell .any :: sk n l
def rk : Nat → List (List CS) → List (List CS)
  | 0, l => l
  | n + 1, l => [] :: rk n l
noncomputable def evStep (E : Env) (c : Code) (ins : List SS) (rts : List (List CS)) (hm : List (Nat × Bool × Ty)) (nl : List (Nat × Nat × Bool × Ty)) (xs : List XS)
    (rec : (tyL (flats ins ++ rts.flatten)).val → Option (tyX xs).val) (v : (tyL (flats ins ++ rts.flatten)).val) : Option (tyX xs).val :=
  evC E c (mkSt ins rts v) fun e s => match e with
    | .normal => match rdSt ins rts hm nl s with
      | some v => rec v
      | none => none
    | e => intos xs e s
def iter {A O : Type} (step : (A → Option O) → A → Option O) : Nat → A → Option O
  | 0, _ => none
  | n + 1, a => step (iter step n) a
def loopAt (k : Nat) : Code → Option Code
  | .seq a b => match loopAt k a with
    | some c => some c
    | none => loopAt k b
  | .cond _ a b => match loopAt k a with
    | some c => some c
    | none => loopAt k b
  | .block _ c => loopAt k c
  | .loop c => if firstRegion c = k then some c else loopAt k c
  | _ => none
def bodyOf (f : Func) : Code := match f.body with | some c => c | none => .skip
def bodyAt (k : Nat) (f : Func) : Code := match loopAt k (bodyOf f) with | some c => c | none => .skip
def anys : Nat → List PV
  | 0 => []
  | n + 1 => .any :: anys n
def nones : Nat → List (List PV)
  | 0 => []
  | n + 1 => [] :: nones n
def entry : Nat → List Bool → List SS → List PV → List PV × List (List PV)
  | i, true :: bs, x :: l, ps => match entry (i + 1) bs l (pdrop (clen x.flat) ps) with
    | (vs, rs) => (.ptr i 0 :: vs, ptake (clen x.flat) ps :: rs)
  | i, false :: bs, x :: l, ps => match entry (i + 1) bs l (pdrop (clen x.flat) ps) with
    | (vs, rs) => ((build1 x (seen i 0 (ptake (clen x.flat) ps))).1 :: vs, rowsOnly (ptake (clen x.flat) ps) :: rs)
  | _, _, _, _ => ([], [])
def start (ptrs : List Bool) (e : List SS) (n : Nat) (v : (tyL (flats e)).val) : St :=
  match entry 0 ptrs e (encL _ v) with
  | (vs, rs) => ⟨pcat vs (anys (n - plen vs)), rs ++ nones (n - plen vs)⟩
def resV (D : TypeId → Option TD) (s : St) : ResultVar → Option PV
  | .tmp n => some (gt s.t n)
  | .cell a ty => match D ty with
    | some td => match addrOf s td.sz (gt s.t a) with
      | some cs => one td.agg td.sz cs
      | none => none
    | none => none
def resVs (D : TypeId → Option TD) (s : St) : List ResultVar → Option (List PV)
  | [] => some []
  | x :: l => match resV D s x with
    | some p => match resVs D s l with
      | some r => some (p :: r)
      | none => none
    | none => none
def asF (c : CS) (p : PV) : PV := match c, p with
  | .val .imm _, .sl .own t l => .sl .imm t l
  | .val .own (.slice t), .nil => .sl .own t []
  | .val .lent _, .nil => .any
  | _, p => p
def asFs : List CS → List PV → List PV
  | c :: l, p :: ps => asF c p :: asFs l ps
  | _, ps => ps
def isOne : PV → Bool
  | .any => false
  | .agg _ => false
  | .tup _ => false
  | _ => true
def res1 (s : St) : SS → PV → Option (List PV × St)
  | .cell .any, _ => some ([.any], s)
  | .cell _, p => cond (isOne p) (match move s p with
    | (x, s) => some ([x], s)) none
  | .agg cs, .agg l => cond (Nat.beq (plen l) (clen cs)) (some (moves s l)) none
  | _, _ => none
def resL (s : St) : List SS → List PV → Option (List PV × St)
  | [], [] => some ([], s)
  | x :: l, p :: ps => match res1 s x p with
    | some (a, s) => match resL s l ps with
      | some (r, s) => some (pcat a r, s)
      | none => none
    | none => none
  | _, _ => none
def resS (np : Nat) (s : St) : List SS → List PV → Option (List PV × St)
  | [.box cs], [.ptr r 0] => cond (Nat.ble np r && Nat.beq (plen (gr s.r r)) (clen cs)) (some (gr s.r r, ⟨s.t, pr s.r r []⟩)) none
  | l, ps => resL s l ps
def outL (rt : List PV) : List CS → Nat → List PV
  | [], _ => []
  | .val .lent _ :: l, n => gt rt n :: outL rt l (n + 1)
  | _ :: l, n => outL rt l (n + 1)
def outCells (s : St) : List Bool → List SS → Nat → List PV
  | true :: bs, _ :: l, i => pcat (gr s.r i) (outCells s bs l (i + 1))
  | false :: bs, x :: l, i => pcat (outL (gr s.r i) x.flat 0) (outCells s bs l (i + 1))
  | _, _, _ => []
def isLent : List CS → Bool
  | [] => false
  | .val .lent _ :: _ => true
  | _ :: l => isLent l
def pinC (i : Nat) : List CS → List PV → Nat → Bool
  | [], [], _ => true
  | .val .lent _ :: l, .view r c :: ps, n => Nat.beq r i && Nat.beq c n && pinC i l ps (n + 1)
  | .val .lent _ :: _, _, _ => false
  | _ :: l, _ :: ps, n => pinC i l ps (n + 1)
  | _, _, _ => false
def pin1 (pin : List Nat) (s : St) (i : Nat) : Bool → SS → Bool
  | true, .agg cs => (match gt s.t i with
    | .ptr r c => Nat.beq r i && Nat.beq c 0
    | _ => false) && (Nat.beq (plen (gr s.r i)) (clen cs) && hasN i pin)
  | true, _ => false
  | false, x => !isLent x.flat || hasN i pin && Nat.beq (plen (gr s.r i)) (clen x.flat) && (match x, gt s.t i with
    | .cell c, p => pinC i [c] [p] 0
    | .agg cs, .agg l => pinC i cs l 0
    | _, _ => false)
def pins (pin : List Nat) (s : St) : List Bool → List SS → Nat → Bool
  | [], [], _ => true
  | b :: bs, x :: l, i => pin1 pin s i b x && pins pin s bs l (i + 1)
  | _, _, _ => false
def tellC : CS → Bool
  | .val .bor (.slice _) => false
  | .val .lent (.slice _) => false
  | .fix .nil => true
  | .fix (.clo _ []) => true
  | .fix _ => false
  | _ => true
def tellI : CS → Bool
  | .fix .nil => true
  | .fix (.clo _ []) => true
  | .fix _ => false
  | _ => true
def tellO : CS → Bool
  | .val .lent (.slice _) => true
  | c => tellC c
def tells (f : CS → Bool) : List CS → Bool
  | [] => true
  | c :: l => f c && tells f l
def finish (D : TypeId → Option TD) (pin : List Nat) (res : List ResultVar) (ptrs : List Bool) (ins rets os : List SS) (s : St) : Option (tyL (flats (rets ++ os))).val :=
  cond (pins pin s ptrs ins 0 && (tells tellC (flats rets) && tells tellO (flats os))) (match resVs D s res with
    | some vs => match resS (plenB ptrs) s rets vs with
      | some (a, s) => decL _ (asFs (flats (rets ++ os)) (pcat a (outCells s ptrs ins 0)))
      | none => none
    | none => none) none
where plenB : List Bool → Nat
  | [] => 0
  | _ :: l => plenB l + 1
noncomputable def evFn (E : Env) (f : Func) (ptrs : List Bool) (ins rets os : List SS) (v : (tyL (flats ins)).val) : Option (tyL (flats (rets ++ os))).val :=
  cond (tells tellI (flats ins) && Nat.ble (finish.plenB ptrs) f.ntmps) (evC E (bodyOf f) (start ptrs ins f.ntmps v) fun e s => match e with
    | .ret => finish E.D E.pin f.results.toList ptrs ins rets os s
    | .normal => finish E.D E.pin f.results.toList ptrs ins rets os s
    | _ => none) none
end Go.Ab
namespace Go.Ab
open Go.RowKit
set_option linter.unusedVariables false
set_option linter.unusedSimpArgs false
def at_ (b o : Nat) : Addr := ⟨b, o, none⟩
abbrev Cset := Nat → Nat → Prop
def RepC (w : World) (S : Cset) : (t : Ty) → t.val → List Value → Prop
  | .int k, x, cs => cs = [.int k x]
  | .bool, x, cs => cs = [.bool x]
  | .str, x, cs => cs = [.string x]
  | .slice t, l, cs => ∃ A cap, cs = [.slice A (List.length l) cap] ∧ List.length l ≤ cap ∧
      (l ≠ [] → ∃ a : Addr, A = some a ∧ a.spot = none ∧ ∀ (i : Nat) (x : t.val), l[i]? = some x → ∃ row : List Value, row.length = t.sz' ∧
        (∀ (j : Nat) (v : Value), row[j]? = some v → w.cell? (at_ a.block (a.off + i * t.sz' + j)) = some v ∧ S a.block (a.off + i * t.sz' + j)) ∧ RepC w S t x row)
  | .pair a b, x, cs => ∃ c1 c2, cs = c1 ++ c2 ∧ RepC w S a x.1 c1 ∧ RepC w S b x.2 c2
  | .unit, _, cs => cs = []
  | .opq, _, cs => ∃ v : Value, cs = [v] ∧ v.oneCell' = true
  | .sum _ _, _, cs => cs = []
theorem RepC.len {w : World} {S : Cset} : ∀ {t : Ty} {x : t.val} {cs : List Value}, RepC w S t x cs → cs.length = t.sz'
  | .int _, _, _, h => by cases h; rfl
  | .bool, _, _, h => by cases h; rfl
  | .str, _, _, h => by cases h; rfl
  | .slice _, _, _, h => by obtain ⟨_, _, rfl, _⟩ := h; rfl
  | .pair a b, _, _, h => by
    obtain ⟨c1, c2, rfl, h1, h2⟩ := h
    simp [Ty.sz', h1.len, h2.len]
  | .unit, _, _, h => by cases h; rfl
  | .opq, _, _, h => by obtain ⟨_, rfl, _⟩ := h; rfl
  | .sum _ _, _, _, h => by cases h; rfl
theorem RepC.one {w : World} {S : Cset} : ∀ {t : Ty} {x : t.val} {cs : List Value}, RepC w S t x cs → ∀ u ∈ cs, u.oneCell' = true
  | .int _, _, _, h => by cases h; simp [Value.oneCell']
  | .bool, _, _, h => by cases h; simp [Value.oneCell']
  | .str, _, _, h => by cases h; simp [Value.oneCell']
  | .slice _, _, _, h => by obtain ⟨_, _, rfl, _⟩ := h; simp [Value.oneCell']
  | .pair a b, _, _, h => by
    obtain ⟨c1, c2, rfl, h1, h2⟩ := h
    intro u hu
    rcases List.mem_append.1 hu with h | h
    · exact h1.one u h
    · exact h2.one u h
  | .unit, _, _, h => by cases h; simp
  | .opq, _, _, h => by obtain ⟨_, rfl, h⟩ := h; simpa using h
  | .sum _ _, _, _, h => by cases h; simp
theorem RepC.mono {w w' : World} {S S' : Cset} (hw : ∀ b o v, S b o → w.cell? (at_ b o) = some v → w'.cell? (at_ b o) = some v) (hS : ∀ b o, S b o → S' b o) :
    ∀ {t : Ty} {x : t.val} {cs : List Value}, RepC w S t x cs → RepC w' S' t x cs
  | .int _, _, _, h => h
  | .bool, _, _, h => h
  | .str, _, _, h => h
  | .slice t, l, _, h => by
    obtain ⟨A, cap, e, hl, h⟩ := h
    refine ⟨A, cap, e, hl, fun hne => ?_⟩
    obtain ⟨a, e1, e2, h⟩ := h hne
    refine ⟨a, e1, e2, fun i x hx => ?_⟩
    obtain ⟨row, h1, h2, h3⟩ := h i x hx
    exact ⟨row, h1, fun j v hv => ⟨hw _ _ _ (h2 j v hv).2 (h2 j v hv).1, hS _ _ (h2 j v hv).2⟩, RepC.mono hw hS h3⟩
  | .pair a b, _, _, h => by
    obtain ⟨c1, c2, e, h1, h2⟩ := h
    exact ⟨c1, c2, e, RepC.mono hw hS h1, RepC.mono hw hS h2⟩
  | .unit, _, _, h => h
  | .opq, _, _, h => h
  | .sum _ _, _, _, h => h
structure Pl where
  mem : Nat → Option (Nat × Nat)
  hv : Nat → Nat → Value
def OwnRow (w : World) (S : Cset) (t : Ty) (l : List t.val) (v : Value) : Prop :=
  (v = .slice none 0 0 ∧ l = []) ∨
  ∃ b cap c e fz, v = .slice (some (at_ b 0)) l.length cap ∧ l.length ≤ cap ∧ w.heap[b]? = some (.cells c e fz) ∧ cap * t.sz' ≤ c.size ∧
    (∀ x, x < cap * t.sz' → ¬ (fz.1 ≤ x ∧ x < fz.2)) ∧
    ∀ (i : Nat) (x : t.val), l[i]? = some x → ∃ row : List Value, row.length = t.sz' ∧ (∀ (j : Nat) (u : Value), row[j]? = some u → c[i * t.sz' + j]? = some u) ∧ RepC w S t x row
def rowRange (t : Ty) (v : Value) (b x : Nat) : Prop := ∃ a n cap, v = .slice (some a) n cap ∧ a.block = b ∧ x < cap * t.sz'
def rng (s : St) (pl : Pl) (r : Nat) : Option Nat → Nat → Nat → Prop
  | none, b, x => ∃ o, pl.mem r = some (b, o) ∧ o ≤ x ∧ x < o + (gr s.r r).length
  | some j, b, x => ∃ o, rowAt s r j = some o ∧ rowRange o.t (pl.hv r j) b x
def owned (s : St) (pl : Pl) (b x : Nat) : Prop := ∃ r j, rng s pl r j b x
def RepCell (w : World) (S : Fl → Cset) (s : St) (pl : Pl) : PV → Value → Prop
  | .any, _ => True
  | .int k n, v => v = .int k n
  | .bool b, v => v = .bool b
  | .str b, v => v = .string b
  | .sl .imm t l, v => RepC w (S .imm) (.slice t) l [v]
  | .sl .bor t l, v => RepC w (S .bor) (.slice t) l [v]
  | .sl .own _ _, _ => False
  | .sl .lent _ _, _ => False
  | .nil, v => v = .slice none 0 0
  | .isnil e, v => ∃ b, v = .bool b ∧ (b = true → e = true)
  | .view r c, v => v = pl.hv r c ∧ ∃ a n cap, v = .slice a n cap
  | .sub r c lo hi, v => (∃ a n cap, v = .slice a n cap) ∧ ∀ o, rowAt s r c = some o → ∃ a n cap A, pl.hv r c = .slice a n cap ∧ 0 ≤ lo ∧ lo ≤ hi ∧ hi ≤ (o.l.length : Int) ∧
      v = .slice A (hi.toNat - lo.toNat) (cap - lo.toNat) ∧ (lo = 0 → A = a) ∧ (lo < hi → A = a.map (·.add (lo.toNat * o.t.sz')))
  | .ptr r c, v => ∃ b o, pl.mem r = some (b, o) ∧ v = .pointer (some (at_ b (o + c)))
  | .aptr r c n z i, v => ∃ b o, pl.mem r = some (b, o) ∧ 0 ≤ i ∧ i < (n : Int) ∧ v = .pointer (some (at_ b (o + c + i.toNat * z)))
  | .eptr r c i d, v => (∃ a, v = .pointer (some a)) ∧ ∀ o, rowAt s r c = some o → 0 ≤ i ∧ i < (o.l.length : Int) ∧ ∃ b n cap, pl.hv r c = .slice (some (at_ b 0)) n cap ∧ v = .pointer (some (at_ b (i.toNat * o.t.sz' + d)))
  | .iptr f t l i d, v => (f = .imm ∨ f = .bor) ∧ ∃ x, 0 ≤ i ∧ l[i.toNat]? = some x ∧ ∃ a : Addr, ∃ row : List Value, v = .pointer (some (at_ a.block (a.off + d))) ∧ row.length = t.sz' ∧
      (∀ (j : Nat) (u : Value), row[j]? = some u → w.cell? (at_ a.block (a.off + j)) = some u ∧ S f a.block (a.off + j)) ∧ RepC w (S f) t x row
  | _, _ => False
mutual
def RepV (w : World) (S : Fl → Cset) (s : St) (pl : Pl) : PV → Value → Prop
  | .agg cs, v => ∃ vs, v = .agg vs ∧ RepL w S s pl cs vs.toList ∧ ∀ u ∈ vs.toList, u.oneCell' = true
  | .tup cs, v => ∃ vs, v = .tuple vs ∧ RepL w S s pl cs vs.toList
  | .clo f cs, v => ∃ vs, v = .func (.func f) #[] vs ∧ RepL w S s pl cs vs.toList
  | .rop cs d, v => ∃ b o vs, v = .pointer (some (at_ b (o + d))) ∧ (∀ (j : Nat) (u : Value), vs[j]? = some u → w.cell? (at_ b (o + j)) = some u ∧ S .bor b (o + j)) ∧ RepL w S s pl cs vs ∧ ∀ u ∈ vs, u.oneCell' = true
  | .any, _ => True
  | .int k n, v => RepCell w S s pl (.int k n) v
  | .bool b, v => RepCell w S s pl (.bool b) v
  | .str b, v => RepCell w S s pl (.str b) v
  | .sl f t l, v => RepCell w S s pl (.sl f t l) v
  | .nil, v => RepCell w S s pl .nil v
  | .isnil e, v => RepCell w S s pl (.isnil e) v
  | .view r c, v => RepCell w S s pl (.view r c) v
  | .sub r c lo hi, v => RepCell w S s pl (.sub r c lo hi) v
  | .ptr r c, v => RepCell w S s pl (.ptr r c) v
  | .aptr r c n z i, v => RepCell w S s pl (.aptr r c n z i) v
  | .eptr r c i d, v => RepCell w S s pl (.eptr r c i d) v
  | .iptr f t l i d, v => RepCell w S s pl (.iptr f t l i d) v
def RepL (w : World) (S : Fl → Cset) (s : St) (pl : Pl) : List PV → List Value → Prop
  | [], vs => vs = []
  | p :: ps, vs => ∃ u us, vs = u :: us ∧ RepV w S s pl p u ∧ RepL w S s pl ps us
end
def RepRoot (w : World) (S : Fl → Cset) (s : St) (pl : Pl) (p : PV) (v : Value) : Prop :=
  match rowOf p with
  | some o => OwnRow w (S .imm) o.t o.l v
  | none => RepV w S s pl p v
def tabs : List (Nat × (Array Value → Prop)) := []
def Tabs (w : World) (S : Cset) : Prop := ∀ q ∈ tabs, (∃ c t e, w.heap[q.1]? = some (.cells c t e) ∧ q.2 c) ∧ ∀ x, S q.1 x
structure Rep (w : World) (S : Fl → Cset) (pl : Pl) (s : St) (a : Array Value) : Prop where
  len : s.t.length = a.size
  slots : ∀ i, RepV w S s pl (gt s.t i) (a.getD i undef)
  roots : ∀ r j, j < (gr s.r r).length → RepRoot w S s pl (gt (gr s.r r) j) (pl.hv r j) ∧ (pl.hv r j).oneCell' = true
  mem : ∀ r b o j, pl.mem r = some (b, o) → j < (gr s.r r).length → w.cell? (at_ b (o + j)) = some (pl.hv r j) ∧ w.frozen? (at_ b (o + j)) = false
  disj : ∀ r j r' j' b x, rng s pl r j b x → rng s pl r' j' b x → r = r' ∧ j = j'
  apart : ∀ b x, S .bor b x → ¬ owned s pl b x
  sub : ∀ b x, S .imm b x → S .bor b x
  live : ∀ b x, S .bor b x → b < w.heap.size
  stat : Tabs w (S .imm)
def ObjSame (O : Nat → Prop) (a b : Obj) : Prop := a = b ∨ ∃ c c' e f, a = .cells c e f ∧ b = .cells c' e f ∧ c.size = c'.size ∧ ∀ x, ¬ O x → c[x]? = c'[x]?
structure Fr (O : Cset) (w w' : World) : Prop where
  os : w'.os = w.os
  tape : w'.tape = w.tape
  output : w'.output = w.output
  size : w.heap.size ≤ w'.heap.size
  obj : ∀ b a, w.heap[b]? = some a → ∃ a', w'.heap[b]? = some a' ∧ ObjSame (O b) a a'
theorem ObjSame.refl (O : Nat → Prop) (a : Obj) : ObjSame O a a := .inl rfl
theorem ObjSame.mono {O O' : Nat → Prop} {a b : Obj} (h : ObjSame O a b) (hO : ∀ x, O x → O' x) : ObjSame O' a b := by
  rcases h with h | ⟨c, c', e, f, h1, h2, h3, h4⟩
  · exact .inl h
  · exact .inr ⟨c, c', e, f, h1, h2, h3, fun x hx => h4 x fun hy => hx (hO x hy)⟩
theorem ObjSame.trans {O : Nat → Prop} {a b c : Obj} (h : ObjSame O a b) (k : ObjSame O b c) : ObjSame O a c := by
  rcases h with rfl | ⟨c1, c2, e, f, rfl, rfl, h3, h4⟩
  · exact k
  · rcases k with rfl | ⟨d1, d2, e', f', k1, rfl, k3, k4⟩
    · exact .inr ⟨_, _, _, _, rfl, rfl, h3, h4⟩
    · cases k1
      exact .inr ⟨_, _, _, _, rfl, rfl, h3.trans k3, fun x hx => (h4 x hx).trans (k4 x hx)⟩
theorem Fr.refl (O : Cset) (w : World) : Fr O w w := ⟨rfl, rfl, rfl, Nat.le_refl _, fun _ a h => ⟨a, h, .refl _ a⟩⟩
theorem Fr.trans {O : Cset} {a b c : World} (h : Fr O a b) (k : Fr O b c) : Fr O a c :=
  ⟨k.os.trans h.os, k.tape.trans h.tape, k.output.trans h.output, Nat.le_trans h.size k.size, fun i x hx => by
    obtain ⟨y, hy, h1⟩ := h.obj i x hx
    obtain ⟨z, hz, h2⟩ := k.obj i y hy
    exact ⟨z, hz, h1.trans h2⟩⟩
theorem Fr.mono {O O' : Cset} {a b : World} (h : Fr O a b) (hO : ∀ i x, i < a.heap.size → O i x → O' i x) : Fr O' a b :=
  ⟨h.os, h.tape, h.output, h.size, fun i x hx => by
    obtain ⟨y, hy, h1⟩ := h.obj i x hx
    exact ⟨y, hy, h1.mono fun z hz => hO i z (Array.getElem?_eq_some_iff.1 hx).1 hz⟩⟩
theorem Fr.cell {O : Cset} {w w' : World} (h : Fr O w w') {b o : Nat} {v : Value} (hO : ¬ O b o) (hc : w.cell? (at_ b o) = some v) : w'.cell? (at_ b o) = some v := by
  unfold World.cell? at_ at *
  simp only at *
  cases hb : w.heap[b]? with
  | none => rw [hb] at hc; simp at hc
  | some a =>
    rw [hb] at hc
    obtain ⟨a', ha', hs⟩ := h.obj b a hb
    rw [ha']
    rcases hs with rfl | ⟨c, c', e, f, rfl, rfl, h3, h4⟩
    · exact hc
    · simp at hc ⊢
      rw [← h4 o hO]
      exact hc
theorem Tabs.step {O S S' : Cset} {w w' : World} (h : Tabs w S) (fr : Fr O w w') (hO : ∀ b x, O b x → ¬ S b x) (hS : ∀ b x, S b x → S' b x) : Tabs w' S' := fun q hq => by
  obtain ⟨⟨c0, t, e, h1, h1'⟩, h2⟩ := h q hq
  refine ⟨?_, fun x => hS _ _ (h2 x)⟩
  obtain ⟨a, ha, hs⟩ := fr.obj _ _ h1
  rcases hs with rfl | ⟨c, c', e', f, h3, rfl, h4, h5⟩
  · exact ⟨c0, t, e, ha, h1'⟩
  · cases h3
    refine ⟨c0, t, e, ?_, h1'⟩
    rw [ha]
    have hc : c0 = c' := Array.ext_getElem? fun i => h5 i fun hi => hO _ _ hi (h2 i)
    rw [hc]
theorem Tabs.mono {S S' : Cset} {w : World} (h : Tabs w S) (hS : ∀ b x, S b x → S' b x) : Tabs w S' := fun q hq => ⟨(h q hq).1, fun x => hS _ _ ((h q hq).2 x)⟩
theorem Fr.frozen {O : Cset} {w w' : World} (h : Fr O w w') {a : Addr} (hb : a.block < w.heap.size) : w'.frozen? a = w.frozen? a := by
  unfold World.frozen?
  cases ho : w.heap[a.block]? with
  | none => rw [Array.getElem?_eq_none_iff] at ho; omega
  | some x =>
    obtain ⟨a', ha', hs⟩ := h.obj _ x ho
    rw [ha']
    rcases hs with rfl | ⟨c, c', e, f, rfl, rfl, h3, h4⟩ <;> rfl
theorem Fr.below {w w' : World} {O : Cset} (h : Fr O w w') (hO : ∀ b x, b < w.heap.size → ¬ O b x) : Below w.heap.size w w' :=
  ⟨h.os, h.tape, h.output, h.size, fun k hk => by
    obtain ⟨a', ha', hs⟩ := h.obj k _ (Array.getElem?_eq_getElem hk)
    rw [ha', Array.getElem?_eq_getElem hk]
    rcases hs with rfl | ⟨c, c', e, f, h1, rfl, h3, h4⟩
    · rfl
    · rw [h1]
      have : c = c' := by
        apply Array.ext_getElem?
        intro i
        exact h4 i (hO k i hk)
      rw [this]⟩
end Go.Ab
namespace Go.Ab
open Go.RowKit
set_option linter.unusedVariables false
set_option linter.unusedSimpArgs false
theorem gt_pt (l : List PV) (d i : Nat) (v : PV) : gt (pt l d v) i = if i = d ∧ d < l.length then v else gt l i := by
  induction l generalizing d i with
  | nil => simp [pt, gt]
  | cons x l ih =>
    cases d with
    | zero => cases i <;> simp [pt, gt]
    | succ d => cases i with
      | zero => simp [pt, gt]
      | succ i => simp [pt, gt, ih]
theorem pt_len (l : List PV) (d : Nat) (v : PV) : (pt l d v).length = l.length := by
  induction l generalizing d with
  | nil => simp [pt]
  | cons x l ih => cases d <;> simp [pt, ih]
theorem gr_pr (l : List (List PV)) (d i : Nat) (v : List PV) : gr (pr l d v) i = if i = d ∧ d < l.length then v else gr l i := by
  induction l generalizing d i with
  | nil => simp [pr, gr]
  | cons x l ih =>
    cases d with
    | zero => cases i <;> simp [pr, gr]
    | succ d => cases i with
      | zero => simp [pr, gr]
      | succ i => simp [pr, gr, ih]
theorem pr_len (l : List (List PV)) (d : Nat) (v : List PV) : (pr l d v).length = l.length := by
  induction l generalizing d with
  | nil => simp [pr]
  | cons x l ih => cases d <;> simp [pr, ih]
theorem gr_big (l : List (List PV)) (i : Nat) (h : l.length ≤ i) : gr l i = [] := by
  induction l generalizing i with
  | nil => simp [gr]
  | cons x l ih => cases i with
    | zero => simp at h
    | succ i => simp [gr]; exact ih i (by simpa using h)
theorem gt_big (l : List PV) (i : Nat) (h : l.length ≤ i) : gt l i = .any := by
  induction l generalizing i with
  | nil => simp [gt]
  | cons x l ih => cases i with
    | zero => simp at h
    | succ i => simp [gt]; exact ih i (by simpa using h)
theorem gt_get (l : List PV) (i : Nat) (h : i < l.length) : gt l i = l[i] := by
  induction l generalizing i with
  | nil => simp at h
  | cons x l ih => cases i with
    | zero => simp [gt]
    | succ i => simp [gt]; exact ih i (by simpa using h)
theorem pt_big (l : List PV) (d : Nat) (v : PV) (h : l.length ≤ d) : pt l d v = l := by
  induction l generalizing d with
  | nil => simp [pt]
  | cons x l ih => cases d with
    | zero => simp at h
    | succ d => simp [pt]; exact ih d (by simpa using h)
theorem gr_nonempty {l : List (List PV)} {i : Nat} (h : gr l i ≠ []) : i < l.length := by
  rcases Nat.lt_or_ge i l.length with h' | h'
  · exact h'
  · exact absurd (gr_big l i h') h
def okC (K : Nat → Nat → Prop) (M : Nat → Prop) : PV → Prop
  | .view r c => K r c
  | .sub r c _ _ => K r c
  | .eptr r c _ _ => K r c
  | .ptr r _ => M r
  | .aptr r _ _ _ _ => M r
  | _ => True
mutual
def okV (K : Nat → Nat → Prop) (M : Nat → Prop) : PV → Prop
  | .agg cs => okL K M cs
  | .tup cs => okL K M cs
  | .clo _ cs => okL K M cs
  | .rop cs _ => okL K M cs
  | .view r c => K r c
  | .sub r c _ _ => K r c
  | .eptr r c _ _ => K r c
  | .ptr r _ => M r
  | .aptr r _ _ _ _ => M r
  | _ => True
def okL (K : Nat → Nat → Prop) (M : Nat → Prop) : List PV → Prop
  | [] => True
  | p :: ps => okV K M p ∧ okL K M ps
end
structure Kept (w w' : World) (S S' : Fl → Cset) (s s' : St) (pl pl' : Pl) (K : Nat → Nat → Prop) (M : Nat → Prop) : Prop where
  cell : ∀ f, f = .imm ∨ f = .bor → ∀ b o v, S f b o → w.cell? (at_ b o) = some v → w'.cell? (at_ b o) = some v
  set : ∀ f, f = .imm ∨ f = .bor → ∀ b o, S f b o → S' f b o
  hv : ∀ r c, K r c → pl'.hv r c = pl.hv r c
  row : ∀ r c o', K r c → rowAt s' r c = some o' → ∃ o, rowAt s r c = some o ∧ o.t = o'.t ∧ o.l.length = o'.l.length
  mem : ∀ r, M r → pl'.mem r = pl.mem r
section
variable {w w' : World} {S S' : Fl → Cset} {s s' : St} {pl pl' : Pl} {K : Nat → Nat → Prop} {M : Nat → Prop}
theorem RepCell.keep (k : Kept w w' S S' s s' pl pl' K M) {p : PV} {v : Value} (ho : okV K M p) (h : RepCell w S s pl p v) : RepCell w' S' s' pl' p v := by
  cases p with
  | any => trivial
  | int => exact h
  | bool => exact h
  | str => exact h
  | sl f t l =>
    cases f with
    | imm => exact RepC.mono (k.cell _ (.inl rfl)) (k.set _ (.inl rfl)) h
    | bor => exact RepC.mono (k.cell _ (.inr rfl)) (k.set _ (.inr rfl)) h
    | own => exact h.elim
    | lent => exact h.elim
  | nil => exact h
  | isnil => exact h
  | view r c =>
    simp only [RepCell, okV] at *
    rw [k.hv r c ho]
    exact h
  | sub r c lo hi =>
    simp only [RepCell, okV] at *
    obtain ⟨hs, h⟩ := h
    refine ⟨hs, ?_⟩
    intro o' ho'
    obtain ⟨o, h1, h2, h3⟩ := k.row r c o' ho ho'
    obtain ⟨a, n, cap, A, e1, e2, e3, e4, e5⟩ := h o h1
    refine ⟨a, n, cap, A, by rw [k.hv r c ho]; exact e1, e2, e3, by omega, ?_⟩
    rw [← h2]
    exact e5
  | ptr r c =>
    simp only [RepCell, okV] at *
    rw [k.mem r ho]
    exact h
  | aptr r c n z i =>
    simp only [RepCell, okV] at *
    rw [k.mem r ho]
    exact h
  | eptr r c i d =>
    simp only [RepCell, okV] at *
    obtain ⟨hs, h⟩ := h
    refine ⟨hs, ?_⟩
    intro o' ho'
    obtain ⟨o, h1, h2, h3⟩ := k.row r c o' ho ho'
    obtain ⟨e1, e2, b, n, cap, e3, e4⟩ := h o h1
    refine ⟨e1, by omega, b, n, cap, by rw [k.hv r c ho]; exact e3, ?_⟩
    rw [← h2]
    exact e4
  | iptr f t l i d =>
    simp only [RepCell] at *
    obtain ⟨hf, x, e1, e2, a, row, e3, e4, e5, e6⟩ := h
    exact ⟨hf, x, e1, e2, a, row, e3, e4, fun j u hu => ⟨k.cell f hf _ _ _ (e5 j u hu).2 (e5 j u hu).1, k.set f hf _ _ (e5 j u hu).2⟩, RepC.mono (k.cell f hf) (k.set f hf) e6⟩
  | rop => exact h.elim
  | clo => exact h.elim
  | agg => exact h.elim
  | tup => exact h.elim
mutual
theorem RepV.keep (k : Kept w w' S S' s s' pl pl' K M) : ∀ {p : PV} {v : Value}, okV K M p → RepV w S s pl p v → RepV w' S' s' pl' p v
  | .agg cs, v, ho, h => by
    simp only [RepV, okV] at *
    obtain ⟨vs, e, h, h1⟩ := h
    exact ⟨vs, e, RepL.keep k ho h, h1⟩
  | .tup cs, v, ho, h => by
    simp only [RepV, okV] at *
    obtain ⟨vs, e, h⟩ := h
    exact ⟨vs, e, RepL.keep k ho h⟩
  | .clo f cs, v, ho, h => by
    simp only [RepV, okV] at *
    obtain ⟨vs, e, h⟩ := h
    exact ⟨vs, e, RepL.keep k ho h⟩
  | .rop cs d, v, ho, h => by
    simp only [RepV, okV] at *
    obtain ⟨b, o, vs, e, h1, h2, h3⟩ := h
    exact ⟨b, o, vs, e, fun j u hu => ⟨k.cell _ (.inr rfl) _ _ _ (h1 j u hu).2 (h1 j u hu).1, k.set _ (.inr rfl) _ _ (h1 j u hu).2⟩, RepL.keep k ho h2, h3⟩
  | .any, _, _, _ => by simp only [RepV]
  | .int _ _, _, ho, h => by simp only [RepV] at *; exact RepCell.keep k ho h
  | .bool _, _, ho, h => by simp only [RepV] at *; exact RepCell.keep k ho h
  | .str _, _, ho, h => by simp only [RepV] at *; exact RepCell.keep k ho h
  | .sl _ _ _, _, ho, h => by simp only [RepV] at *; exact RepCell.keep k ho h
  | .nil, _, ho, h => by simp only [RepV] at *; exact RepCell.keep k ho h
  | .isnil _, _, ho, h => by simp only [RepV] at *; exact RepCell.keep k ho h
  | .view _ _, _, ho, h => by simp only [RepV] at *; exact RepCell.keep k ho h
  | .sub _ _ _ _, _, ho, h => by simp only [RepV] at *; exact RepCell.keep k ho h
  | .ptr _ _, _, ho, h => by simp only [RepV] at *; exact RepCell.keep k ho h
  | .aptr _ _ _ _ _, _, ho, h => by simp only [RepV] at *; exact RepCell.keep k ho h
  | .eptr _ _ _ _, _, ho, h => by simp only [RepV] at *; exact RepCell.keep k ho h
  | .iptr _ _ _ _ _, _, ho, h => by simp only [RepV] at *; exact RepCell.keep k ho h
theorem RepL.keep (k : Kept w w' S S' s s' pl pl' K M) : ∀ {ps : List PV} {vs : List Value}, okL K M ps → RepL w S s pl ps vs → RepL w' S' s' pl' ps vs
  | [], _, _, h => h
  | p :: ps, vs, ho, h => by
    simp only [RepL, okL] at *
    obtain ⟨u, us, e, h1, h2⟩ := h
    exact ⟨u, us, e, RepV.keep k ho.1 h1, RepL.keep k ho.2 h2⟩
end
mutual
theorem okV.all (hK : ∀ r c, K r c) (hM : ∀ r, M r) : ∀ (p : PV), okV K M p
  | .agg cs => by simp only [okV]; exact okL.all hK hM cs
  | .tup cs => by simp only [okV]; exact okL.all hK hM cs
  | .clo f cs => by simp only [okV]; exact okL.all hK hM cs
  | .rop cs d => by simp only [okV]; exact okL.all hK hM cs
  | .any => by simp only [okV]
  | .int _ _ => by simp only [okV]
  | .bool _ => by simp only [okV]
  | .str _ => by simp only [okV]
  | .sl _ _ _ => by simp only [okV]
  | .nil => by simp only [okV]
  | .isnil _ => by simp only [okV]
  | .view _ _ => by simp only [okV]; exact hK _ _
  | .sub _ _ _ _ => by simp only [okV]; exact hK _ _
  | .ptr _ _ => by simp only [okV]; exact hM _
  | .aptr _ _ _ _ _ => by simp only [okV]; exact hM _
  | .eptr _ _ _ _ => by simp only [okV]; exact hK _ _
  | .iptr _ _ _ _ _ => by simp only [okV]
theorem okL.all (hK : ∀ r c, K r c) (hM : ∀ r, M r) : ∀ (ps : List PV), okL K M ps
  | [] => by simp only [okL]
  | p :: ps => by simp only [okL]; exact ⟨okV.all hK hM p, okL.all hK hM ps⟩
end
end
end Go.Ab
namespace Go.Ab
open Go.RowKit
set_option linter.unusedVariables false
set_option linter.unusedSimpArgs false
section
variable {kill : Nat → Nat → Bool} {gone : Nat → Bool} {K : Nat → Nat → Prop} {M : Nat → Prop}
mutual
theorem scrV_ok (hK : ∀ r c, kill r c = false → K r c) (hM : ∀ r, gone r = false → M r) : ∀ (p : PV), okV K M (scrV kill gone p)
  | .view r c => by
    simp only [scrV]
    cases h : kill r c
    · simpa [okV] using hK r c h
    · simp [okV]
  | .sub r c _ _ => by
    simp only [scrV]
    cases h : kill r c
    · simpa [okV] using hK r c h
    · simp [okV]
  | .eptr r c _ _ => by
    simp only [scrV]
    cases h : kill r c
    · simpa [okV] using hK r c h
    · simp [okV]
  | .ptr r c => by
    simp only [scrV]
    cases h : gone r
    · simpa [okV] using hM r h
    · simp [okV]
  | .aptr r c _ _ _ => by
    simp only [scrV]
    cases h : gone r
    · simpa [okV] using hM r h
    · simp [okV]
  | .agg l => by simp only [scrV, okV]; exact scrL_ok hK hM l
  | .tup l => by simp only [scrV, okV]; exact scrL_ok hK hM l
  | .clo f l => by simp only [scrV, okV]; exact scrL_ok hK hM l
  | .rop l d => by simp only [scrV, okV]; exact scrL_ok hK hM l
  | .any => by simp only [scrV, okV]
  | .int _ _ => by simp only [scrV, okV]
  | .bool _ => by simp only [scrV, okV]
  | .str _ => by simp only [scrV, okV]
  | .sl _ _ _ => by simp only [scrV, okV]
  | .nil => by simp only [scrV, okV]
  | .isnil _ => by simp only [scrV, okV]
  | .iptr _ _ _ _ _ => by simp only [scrV, okV]
theorem scrL_ok (hK : ∀ r c, kill r c = false → K r c) (hM : ∀ r, gone r = false → M r) : ∀ (ps : List PV), okL K M (scrL kill gone ps)
  | [] => by simp only [scrL, okL]
  | p :: ps => by simp only [scrL, okL]; exact ⟨scrV_ok hK hM p, scrL_ok hK hM ps⟩
end
variable {w : World} {S : Fl → Cset} {s : St} {pl : Pl}
mutual
theorem RepV.scr : ∀ {p : PV} {v : Value}, RepV w S s pl p v → RepV w S s pl (scrV kill gone p) v
  | .view r c, v, h => by
    simp only [scrV]
    cases kill r c
    · exact h
    · simp [RepV]
  | .sub r c _ _, v, h => by
    simp only [scrV]
    cases kill r c
    · exact h
    · simp [RepV]
  | .eptr r c _ _, v, h => by
    simp only [scrV]
    cases kill r c
    · exact h
    · simp [RepV]
  | .ptr r c, v, h => by
    simp only [scrV]
    cases gone r
    · exact h
    · simp [RepV]
  | .aptr r c _ _ _, v, h => by
    simp only [scrV]
    cases gone r
    · exact h
    · simp [RepV]
  | .agg l, v, h => by
    simp only [scrV, RepV] at *
    obtain ⟨vs, e, h, h1⟩ := h
    exact ⟨vs, e, RepL.scr h, h1⟩
  | .tup l, v, h => by
    simp only [scrV, RepV] at *
    obtain ⟨vs, e, h⟩ := h
    exact ⟨vs, e, RepL.scr h⟩
  | .clo f l, v, h => by
    simp only [scrV, RepV] at *
    obtain ⟨vs, e, h⟩ := h
    exact ⟨vs, e, RepL.scr h⟩
  | .rop l d, v, h => by
    simp only [scrV, RepV] at *
    obtain ⟨b, o, vs, e, h1, h2, h3⟩ := h
    exact ⟨b, o, vs, e, h1, RepL.scr h2, h3⟩
  | .any, _, _ => by simp only [scrV, RepV]
  | .int _ _, _, h => by simp only [scrV]; exact h
  | .bool _, _, h => by simp only [scrV]; exact h
  | .str _, _, h => by simp only [scrV]; exact h
  | .sl _ _ _, _, h => by simp only [scrV]; exact h
  | .nil, _, h => by simp only [scrV]; exact h
  | .isnil _, _, h => by simp only [scrV]; exact h
  | .iptr _ _ _ _ _, _, h => by simp only [scrV]; exact h
theorem RepL.scr : ∀ {ps : List PV} {vs : List Value}, RepL w S s pl ps vs → RepL w S s pl (scrL kill gone ps) vs
  | [], _, h => h
  | p :: ps, vs, h => by
    simp only [scrL, RepL] at *
    obtain ⟨u, us, e, h1, h2⟩ := h
    exact ⟨u, us, e, RepV.scr h1, RepL.scr h2⟩
end
theorem scrL_gt (l : List PV) (i : Nat) : gt (scrL kill gone l) i = scrV kill gone (gt l i) := by
  induction l generalizing i with
  | nil => simp [scrL, gt, scrV]
  | cons x l ih => cases i with
    | zero => simp [scrL, gt]
    | succ i => simp [scrL, gt, ih]
theorem scrL_len (l : List PV) : (scrL kill gone l).length = l.length := by
  induction l with
  | nil => simp [scrL]
  | cons x l ih => simp [scrL, ih]
end
section
variable {w : World} {S : Fl → Cset} {s : St} {pl : Pl}
theorem RepL.len : ∀ {ps : List PV} {vs : List Value}, RepL w S s pl ps vs → vs.length = ps.length
  | [], _, h => by simp only [RepL] at h; simp [h]
  | p :: ps, vs, h => by
    simp only [RepL] at h
    obtain ⟨u, us, rfl, _, h2⟩ := h
    simp [RepL.len h2]
theorem RepL.get : ∀ {ps : List PV} {vs : List Value}, RepL w S s pl ps vs → ∀ i u, vs[i]? = some u → RepV w S s pl (gt ps i) u
  | [], _, h, i, u, hu => by simp only [RepL] at h; subst h; simp at hu
  | p :: ps, vs, h, i, u, hu => by
    simp only [RepL] at h
    obtain ⟨x, us, rfl, h1, h2⟩ := h
    cases i with
    | zero => simp at hu; subst hu; simpa [gt] using h1
    | succ i => simp at hu; simpa [gt] using RepL.get h2 i u hu
theorem RepL.of : ∀ {ps : List PV} {vs : List Value}, vs.length = ps.length → (∀ i u, vs[i]? = some u → RepV w S s pl (gt ps i) u) → RepL w S s pl ps vs
  | [], vs, hl, _ => by simp only [RepL]; exact List.length_eq_zero_iff.1 (by simpa using hl)
  | p :: ps, [], hl, _ => by simp at hl
  | p :: ps, v :: vs, hl, h => by
    simp only [RepL]
    exact ⟨v, vs, rfl, by simpa [gt] using h 0 v (by simp), RepL.of (by simpa using hl) fun i u hu => by simpa [gt] using h (i + 1) u (by simpa using hu)⟩
theorem RepL.append : ∀ {p1 p2 : List PV} {v1 v2 : List Value}, RepL w S s pl p1 v1 → RepL w S s pl p2 v2 → RepL w S s pl (p1 ++ p2) (v1 ++ v2)
  | [], _, _, _, h1, h2 => by simp only [RepL] at h1; subst h1; simpa using h2
  | p :: ps, _, _, _, h1, h2 => by
    simp only [RepL] at h1
    obtain ⟨u, us, rfl, h3, h4⟩ := h1
    simp only [List.cons_append, RepL]
    exact ⟨u, us ++ _, rfl, h3, RepL.append h4 h2⟩
theorem pcat_eq (a b : List PV) : pcat a b = a ++ b := by
  induction a with
  | nil => rfl
  | cons x a ih => simp [pcat, ih]
theorem ptake_eq (n : Nat) (l : List PV) : ptake n l = l.take n := by
  induction l generalizing n with
  | nil => cases n <;> simp [ptake]
  | cons x l ih => cases n <;> simp [ptake, ih]
theorem pdrop_eq (n : Nat) (l : List PV) : pdrop n l = l.drop n := by
  induction l generalizing n with
  | nil => cases n <;> simp [pdrop]
  | cons x l ih => cases n <;> simp [pdrop, ih]
theorem plen_eq (l : List PV) : plen l = l.length := by
  induction l with
  | nil => rfl
  | cons x l ih => simp [plen, ih]
theorem RepL.take {ps : List PV} {vs : List Value} (h : RepL w S s pl ps vs) (n : Nat) : RepL w S s pl (ptake n ps) (vs.take n) := by
  rw [ptake_eq]
  refine RepL.of (by simp [h.len]) fun i u hu => ?_
  rw [List.getElem?_take] at hu
  split at hu
  · rename_i hi
    have h1 := h.get i u hu
    have hl : i < ps.length := by
      have := (List.getElem?_eq_some_iff.1 hu).1
      rw [h.len] at this
      exact this
    rw [gt_get _ _ (by simp; omega)]
    rw [gt_get _ _ hl] at h1
    simpa using h1
  · simp at hu
theorem RepL.drop {ps : List PV} {vs : List Value} (h : RepL w S s pl ps vs) (n : Nat) : RepL w S s pl (pdrop n ps) (vs.drop n) := by
  rw [pdrop_eq]
  refine RepL.of (by simp [h.len]) fun i u hu => ?_
  rw [List.getElem?_drop] at hu
  have h1 := h.get _ u hu
  have hl : n + i < ps.length := by
    have := (List.getElem?_eq_some_iff.1 hu).1
    rw [h.len] at this
    exact this
  rw [gt_get _ _ (by simp; omega)]
  rw [gt_get _ _ hl] at h1
  simpa using h1
theorem RepV.single {p : PV} {v : Value} (h : RepV w S s pl p v) (hc : cells p = some [p]) : v.cells = #[v] ∧ v.oneCell' = true := by
  cases p with
  | agg cs =>
    simp only [Go.Ab.cells, Option.some.injEq] at hc
    have := congrArg SizeOf.sizeOf hc
    simp at this
    omega
  | any => simp [Go.Ab.cells] at hc
  | tup l => simp [Go.Ab.cells] at hc
  | int k n => simp only [RepV, RepCell] at h; subst h; exact ⟨rfl, rfl⟩
  | bool b => simp only [RepV, RepCell] at h; subst h; exact ⟨rfl, rfl⟩
  | str b => simp only [RepV, RepCell] at h; subst h; exact ⟨rfl, rfl⟩
  | sl f t l =>
    cases f <;> simp only [RepV, RepCell] at h
    · obtain ⟨_, _, e, _⟩ := h
      simp at e; subst e; exact ⟨rfl, rfl⟩
    · obtain ⟨_, _, e, _⟩ := h
      simp at e; subst e; exact ⟨rfl, rfl⟩
  | nil => simp only [RepV, RepCell] at h; subst h; exact ⟨rfl, rfl⟩
  | isnil e => simp only [RepV, RepCell] at h; obtain ⟨_, rfl, _⟩ := h; exact ⟨rfl, rfl⟩
  | view r c => simp only [RepV, RepCell] at h; obtain ⟨_, _, _, _, rfl⟩ := h; exact ⟨rfl, rfl⟩
  | sub r c lo hi => simp only [RepV, RepCell] at h; obtain ⟨⟨_, _, _, rfl⟩, _⟩ := h; exact ⟨rfl, rfl⟩
  | ptr r c => simp only [RepV, RepCell] at h; obtain ⟨_, _, _, rfl⟩ := h; exact ⟨rfl, rfl⟩
  | aptr r c n z i => simp only [RepV, RepCell] at h; obtain ⟨_, _, _, _, _, rfl⟩ := h; exact ⟨rfl, rfl⟩
  | eptr r c i d => simp only [RepV, RepCell] at h; obtain ⟨⟨_, rfl⟩, _⟩ := h; exact ⟨rfl, rfl⟩
  | iptr f t l i d => simp only [RepV, RepCell] at h; obtain ⟨_, _, _, _, _, _, rfl, _⟩ := h; exact ⟨rfl, rfl⟩
  | rop l d => simp only [RepV] at h; obtain ⟨_, _, _, rfl, _⟩ := h; exact ⟨rfl, rfl⟩
  | clo f l => simp only [RepV] at h; obtain ⟨_, rfl, _⟩ := h; exact ⟨rfl, rfl⟩
theorem RepV.cells {p : PV} {v : Value} (h : RepV w S s pl p v) {cs : List PV} (hc : cells p = some cs) : RepL w S s pl cs v.cells.toList ∧ ∀ u ∈ v.cells.toList, u.oneCell' = true := by
  by_cases ha : ∃ l, p = .agg l
  · obtain ⟨l, rfl⟩ := ha
    simp only [RepV] at h
    obtain ⟨vs, rfl, h, h1⟩ := h
    simp only [Go.Ab.cells, Option.some.injEq] at hc
    subst hc
    exact ⟨by simpa [Value.cells] using h, by simpa [Value.cells] using h1⟩
  · have hc' : Go.Ab.cells p = some [p] := by
      cases p <;> first | rfl | (simp [Go.Ab.cells] at hc; done) | exact absurd ⟨_, rfl⟩ ha
    rw [hc'] at hc
    obtain rfl := Option.some.inj hc
    obtain ⟨h1, h2⟩ := h.single hc'
    rw [h1]
    exact ⟨by simp [RepL, h], by simpa using h2⟩
end
end Go.Ab
namespace Go.Ab
open Go.RowKit
set_option linter.unusedVariables false
set_option linter.unusedSimpArgs false
def TKok (D : TypeId → Option TD) (d : TD) : TypeDesc → Prop
  | .int k => d.k = .int k ∧ d.agg = false
  | .bool => d.k = .bool ∧ d.agg = false
  | .string => d.k = .str ∧ d.agg = false
  | .slice e => d.k = .slice e ∧ d.agg = false ∧ d.row = .slice (match D e with | some de => de.row | none => .unit)
  | .pointer e => d.k = .ptr e ∧ d.agg = false
  | .struct fs => (∃ offs, d.k = .struct offs ∧ offs = fs.toList.map fun f => (f.offset, f.type)) ∧ d.agg = true
  | .array n e => d.k = .arr n e ∧ d.agg = true
  | _ => d.k = .other ∧ d.agg = false
def zOk : PV → Value → Bool
  | .int k 0, .int k' 0 => k == k'
  | .bool false, .bool false => true
  | .str b, .string c => b.data.isEmpty && c.data.isEmpty
  | .nil, .slice none 0 0 => true
  | .any, v => v.oneCell'
  | _, _ => false
def zOkL : List PV → List Value → Bool
  | [], [] => true
  | p :: ps, v :: vs => zOk p v && zOkL ps vs
  | _, _ => false
def plain (D : TypeId → Option TD) (t : TypeId) : Bool := match D t with
  | some ⟨.int _, _, _, _, _⟩ => true
  | some ⟨.bool, _, _, _, _⟩ => true
  | some ⟨.str, _, _, _, _⟩ => true
  | _ => false
def CmpOk (P : Program) (t : TypeId) : Prop := P.stoodInHeld t = false ∧ P.eqGuardType P.depth t = false ∧ ∃ fs, P.underlying t = some (.struct fs) ∧ ∀ f ∈ fs.toList, f.name ≠ "_"
structure TDok (P : Program) (D : TypeId → Option TD) (t : TypeId) (d : TD) : Prop where
  info : ∃ i, P.info? t = some i ∧ i.size = d.sz ∧ (i.bytes : Int) = d.bytes ∧ ∃ z, i.zero = some z ∧ zOkL (zero d.row) z.cells.toList = true ∧ (d.agg = true → ∃ cs, z = .agg cs)
  und : ∃ u, P.underlying t = some u ∧ TKok D d u
  row : d.row.sz' = d.sz
  pos : 0 < d.bytes
  flds : ∀ offs, d.k = .struct offs → ∀ x ∈ offs, (D x.2).isSome = true
  cmp : ∀ offs, d.k = .struct offs → (∀ x ∈ offs, plain D x.2 = true) → CmpOk P t
def Dok (P : Program) (D : TypeId → Option TD) : Prop := ∀ t d, D t = some d → TDok P D t d
section
variable {P : Program} {D : TypeId → Option TD} {t : TypeId} {d : TD}
theorem TDok.run_info (h : TDok P D t d) (w : World) : ∃ i, (typeInfo t).run P w = .ok i w ∧ i.size = d.sz ∧ (i.bytes : Int) = d.bytes ∧ ∃ z, i.zero = some z ∧ zOkL (zero d.row) z.cells.toList = true ∧ (d.agg = true → ∃ cs, z = .agg cs) := by
  obtain ⟨i, h1, h2⟩ := h.info
  exact ⟨i, by simp [typeInfo, h1], h2⟩
theorem TDok.run_und (h : TDok P D t d) (w : World) : ∃ u, (underlying t).run P w = .ok u w ∧ TKok D d u := by
  obtain ⟨u, h1, h2⟩ := h.und
  exact ⟨u, by simp [underlying, h1], h2⟩
theorem TDok.run_size (h : TDok P D t d) (w : World) : (sizeOf t).run P w = .ok d.sz w := by
  obtain ⟨i, h1, h2, _⟩ := h.run_info w
  simp [sizeOf, h1, h2]
theorem TDok.run_agg (h : TDok P D t d) (w : World) : (isAgg t).run P w = .ok d.agg w := by
  obtain ⟨u, h1, h2⟩ := h.run_und w
  cases u <;> simp [isAgg, h1, TKok] at h2 ⊢ <;> simp [h2]
end
structure Step (w : World) (S : Fl → Cset) (pl : Pl) (s : St) (w' : World) (S' : Fl → Cset) (pl' : Pl) (s' : St) : Prop where
  fr : Fr (owned s pl) w w'
  grow : ∀ f, f = .imm ∨ f = .bor → ∀ b x, S f b x → S' f b x
  imm : ∀ b x, S' .imm b x → S .imm b x ∨ owned s pl b x ∨ w.heap.size ≤ b
  bor : ∀ b x, S' .bor b x → S .bor b x ∨ owned s pl b x ∨ w.heap.size ≤ b
  own : ∀ b x, owned s' pl' b x → owned s pl b x ∨ w.heap.size ≤ b
theorem Step.refl (w : World) (S : Fl → Cset) (pl : Pl) (s : St) : Step w S pl s w S pl s :=
  ⟨.refl _ w, fun _ _ _ _ h => h, fun _ _ h => .inl h, fun _ _ h => .inl h, fun _ _ h => .inl h⟩
theorem Step.trans {w1 w2 w3 : World} {S1 S2 S3 : Fl → Cset} {p1 p2 p3 : Pl} {s1 s2 s3 : St} (h : Step w1 S1 p1 s1 w2 S2 p2 s2) (k : Step w2 S2 p2 s2 w3 S3 p3 s3) : Step w1 S1 p1 s1 w3 S3 p3 s3 := by
  have ho : ∀ b x, owned s2 p2 b x ∨ w2.heap.size ≤ b → owned s1 p1 b x ∨ w1.heap.size ≤ b := fun b x hh => by
    rcases hh with hh | hh
    · exact h.own b x hh
    · exact .inr (Nat.le_trans h.fr.size hh)
  refine ⟨⟨k.fr.os.trans h.fr.os, k.fr.tape.trans h.fr.tape, k.fr.output.trans h.fr.output, Nat.le_trans h.fr.size k.fr.size, fun i a ha => ?_⟩, fun f hf b x hx => k.grow f hf b x (h.grow f hf b x hx), fun b x hx => ?_, fun b x hx => ?_, fun b x hx => ho b x (k.own b x hx)⟩
  · obtain ⟨a2, h2, e2⟩ := h.fr.obj i a ha
    obtain ⟨a3, h3, e3⟩ := k.fr.obj i a2 h2
    refine ⟨a3, h3, e2.trans (e3.mono fun x hx => ?_)⟩
    have := (Array.getElem?_eq_some_iff.1 ha).1
    rcases ho i x (.inl hx) with h | h
    · exact h
    · omega
  · rcases k.imm b x hx with h' | h'
    · exact h.imm b x h'
    · exact .inr (ho b x h')
  · rcases k.bor b x hx with h' | h'
    · exact h.bor b x h'
    · exact .inr (ho b x h')
section
variable {w : World} {S : Fl → Cset} {pl : Pl} {s : St} {a : Act}
theorem Rep.ev (h : Rep w S pl s a.tmps) (x : Operand) : RepV w S s pl (ev s x) (a.eval x) := by
  cases x with
  | tmp n => exact h.slots n
  | global g => simp [Go.Ab.ev, RepV]
  | func f => simp only [Go.Ab.ev, RepV]; exact ⟨#[], rfl, by simp [RepL]⟩
  | const v =>
    cases v with
    | int k n => simp [Go.Ab.ev, RepV, RepCell, Act.eval]
    | bool b => simp [Go.Ab.ev, RepV, RepCell, Act.eval]
    | string b => simp [Go.Ab.ev, RepV, RepCell, Act.eval]
    | slice a n c =>
      cases a with
      | none =>
        cases n with
        | zero => cases c with
          | zero => simp [Go.Ab.ev, RepV, RepCell, Act.eval]
          | succ c => simp [Go.Ab.ev, RepV]
        | succ n => simp [Go.Ab.ev, RepV]
      | some a => simp [Go.Ab.ev, RepV]
    | _ => simp [Go.Ab.ev, RepV]
end
end Go.Ab
namespace Go.Ab
open Go.RowKit
set_option linter.unusedVariables false
set_option linter.unusedSimpArgs false
def Quiet (P : Program) (o : Oper) (a : Act) (w : World) (S : Fl → Cset) (pl : Pl) (s : St) (v : PV) : Prop :=
  ∃ x, (execOp a.eval o).run P w = .ok (.value x) w ∧ RepV w S s pl v x
theorem wr_eq (k : IntKind) (n : Int) : wr k n = k.wrap n := by
  cases k <;> first | rfl | exact (w64_eq n).trans (IntWalk.i64_left n).symm
section
variable {w : World} {S : Fl → Cset} {pl : Pl} {s : St}
theorem RepV.nilAs {v : Value} (h : RepV w S s pl .nil v) (t : Ty) (f : Fl) (hf : f = .imm ∨ f = .bor) : RepV w S s pl (.sl f t []) v := by
  simp only [RepV, RepCell] at h
  subst h
  rcases hf with rfl | rfl <;> simp only [RepV, RepCell, RepC] <;> exact ⟨none, 0, rfl, by simp, by simp⟩
theorem mixC_true {x y : PV} {v : Value} (h : RepV w S s pl x v) : RepV w S s pl (mixC true x y) v := by
  unfold mixC
  split
  · split
    · exact h
    · simp [RepV]
  · exact h
  · exact h
  · split
    · exact h
    · simp [RepV]
  · split
    · exact h
    · simp [RepV]
  · exact h
  · exact h.nilAs _ _ (.inl rfl)
  · exact h.nilAs _ _ (.inr rfl)
  · exact h
  · exact h
  · split
    · split
      · exact h
      · simp [RepV]
    · simp [RepV]
  · split
    · split
      · exact h
      · simp [RepV]
    · simp [RepV]
  · simp [RepV]
theorem mixC_false {x y : PV} {v : Value} (h : RepV w S s pl y v) : RepV w S s pl (mixC false x y) v := by
  unfold mixC
  split
  · split
    · rename_i e; subst e; exact h
    · simp [RepV]
  · exact h
  · exact h
  · split
    · rename_i e; subst e; exact h
    · simp [RepV]
  · split
    · rename_i e; subst e; exact h
    · simp [RepV]
  · exact h
  · exact h
  · exact h
  · exact h.nilAs _ _ (.inl rfl)
  · exact h.nilAs _ _ (.inr rfl)
  · split
    · split
      · rename_i e e'; subst e; subst e'; exact h
      · simp [RepV]
    · simp [RepV]
  · split
    · split
      · rename_i e e'; subst e; subst e'; exact h
      · simp [RepV]
    · simp [RepV]
  · simp [RepV]
theorem zipC_true : ∀ {xs ys : List PV} {vs : List Value}, xs.length = ys.length → RepL w S s pl xs vs → RepL w S s pl (zipC true xs ys) vs
  | [], [], _, _, h => by simpa [zipC] using h
  | x :: xs, y :: ys, vs, hl, h => by
    simp only [RepL, zipC] at *
    obtain ⟨u, us, rfl, h1, h2⟩ := h
    exact ⟨u, us, rfl, mixC_true h1, zipC_true (by simpa using hl) h2⟩
  | [], _ :: _, _, hl, _ => by simp at hl
  | _ :: _, [], _, hl, _ => by simp at hl
theorem zipC_false : ∀ {xs ys : List PV} {vs : List Value}, xs.length = ys.length → RepL w S s pl ys vs → RepL w S s pl (zipC false xs ys) vs
  | [], [], _, _, h => by simpa [zipC] using h
  | x :: xs, y :: ys, vs, hl, h => by
    simp only [RepL, zipC] at *
    obtain ⟨u, us, rfl, h1, h2⟩ := h
    exact ⟨u, us, rfl, mixC_false h1, zipC_false (by simpa using hl) h2⟩
  | [], _ :: _, _, hl, _ => by simp at hl
  | _ :: _, [], _, hl, _ => by simp at hl
theorem mixP_true {x y : PV} {v : Value} (h : RepV w S s pl x v) : RepV w S s pl (mixP true x y) v := by
  unfold mixP
  split
  · rename_i a d b e
    cases hb : (Nat.beq d e && Nat.beq (plen a) (plen b))
    · simp [RepV]
    · simp only [Bool.and_eq_true] at hb
      have hl : a.length = b.length := by rw [← plen_eq, ← plen_eq]; exact Nat.eq_of_beq_eq_true hb.2
      simp only [RepV, cond] at *
      obtain ⟨b', o, vs, e1, h1, h2, h3⟩ := h
      exact ⟨b', o, vs, e1, h1, zipC_true hl h2, h3⟩
  · exact mixC_true h
theorem mixP_false {x y : PV} {v : Value} (h : RepV w S s pl y v) : RepV w S s pl (mixP false x y) v := by
  unfold mixP
  split
  · rename_i a d b e
    cases hb : (Nat.beq d e && Nat.beq (plen a) (plen b))
    · simp [RepV]
    · simp only [Bool.and_eq_true] at hb
      have hl : a.length = b.length := by rw [← plen_eq, ← plen_eq]; exact Nat.eq_of_beq_eq_true hb.2
      obtain rfl := Nat.eq_of_beq_eq_true hb.1
      simp only [RepV, cond] at *
      obtain ⟨b', o, vs, e1, h1, h2, h3⟩ := h
      exact ⟨b', o, vs, e1, h1, zipC_false hl h2, h3⟩
  · exact mixC_false h
theorem zipP_true : ∀ {xs ys : List PV} {vs : List Value}, xs.length = ys.length → RepL w S s pl xs vs → RepL w S s pl (zipP true xs ys) vs
  | [], [], _, _, h => by simpa [zipP] using h
  | x :: xs, y :: ys, vs, hl, h => by
    simp only [RepL, zipP] at *
    obtain ⟨u, us, rfl, h1, h2⟩ := h
    exact ⟨u, us, rfl, mixP_true h1, zipP_true (by simpa using hl) h2⟩
  | [], _ :: _, _, hl, _ => by simp at hl
  | _ :: _, [], _, hl, _ => by simp at hl
theorem zipP_false : ∀ {xs ys : List PV} {vs : List Value}, xs.length = ys.length → RepL w S s pl ys vs → RepL w S s pl (zipP false xs ys) vs
  | [], [], _, _, h => by simpa [zipP] using h
  | x :: xs, y :: ys, vs, hl, h => by
    simp only [RepL, zipP] at *
    obtain ⟨u, us, rfl, h1, h2⟩ := h
    exact ⟨u, us, rfl, mixP_false h1, zipP_false (by simpa using hl) h2⟩
  | [], _ :: _, _, hl, _ => by simp at hl
  | _ :: _, [], _, hl, _ => by simp at hl
theorem mixV_true {x y : PV} {v : Value} (h : RepV w S s pl x v) : RepV w S s pl (mixV true x y) v := by
  unfold mixV
  split
  · rename_i a b
    cases hb : Nat.beq (plen a) (plen b)
    · simp [RepV]
    · have hl : a.length = b.length := by rw [← plen_eq, ← plen_eq]; exact Nat.eq_of_beq_eq_true hb
      simp only [RepV, cond] at *
      obtain ⟨vs, e, h1, h2⟩ := h
      exact ⟨vs, e, zipC_true hl h1, h2⟩
  · rename_i f a g b
    cases hb : (Nat.beq f g && Nat.beq (plen a) (plen b))
    · simp [RepV]
    · simp only [Bool.and_eq_true] at hb
      have hl : a.length = b.length := by rw [← plen_eq, ← plen_eq]; exact Nat.eq_of_beq_eq_true hb.2
      simp only [RepV, cond] at *
      obtain ⟨vs, e1, h1⟩ := h
      exact ⟨vs, e1, zipP_true hl h1⟩
  · exact mixP_true h
theorem mixV_false {x y : PV} {v : Value} (h : RepV w S s pl y v) : RepV w S s pl (mixV false x y) v := by
  unfold mixV
  split
  · rename_i a b
    cases hb : Nat.beq (plen a) (plen b)
    · simp [RepV]
    · have hl : a.length = b.length := by rw [← plen_eq, ← plen_eq]; exact Nat.eq_of_beq_eq_true hb
      simp only [RepV, cond] at *
      obtain ⟨vs, e, h1, h2⟩ := h
      exact ⟨vs, e, zipC_false hl h1, h2⟩
  · rename_i f a g b
    cases hb : (Nat.beq f g && Nat.beq (plen a) (plen b))
    · simp [RepV]
    · simp only [Bool.and_eq_true] at hb
      have hl : a.length = b.length := by rw [← plen_eq, ← plen_eq]; exact Nat.eq_of_beq_eq_true hb.2
      obtain rfl := Nat.eq_of_beq_eq_true hb.1
      simp only [RepV, cond] at *
      obtain ⟨vs, e1, h1⟩ := h
      exact ⟨vs, e1, zipP_false hl h1⟩
  · exact mixP_false h
theorem Rep.hvAt {a : Array Value} (h : Rep w S pl s a) {r c : Nat} (hc : c < (gr s.r r).length) : RepRoot w S s pl (gt (gr s.r r) c) (pl.hv r c) := (h.roots r c hc).1
theorem rowOf_some {p : PV} {o : Row} (h : rowOf p = some o) : (p = .sl .own o.t o.l ∧ o.own = true) ∨ (p = .sl .lent o.t o.l ∧ o.own = false) := by
  unfold rowOf at h
  split at h
  · obtain rfl := Option.some.inj h; exact .inl ⟨rfl, rfl⟩
  · obtain rfl := Option.some.inj h; exact .inr ⟨rfl, rfl⟩
  · simp at h
theorem Rep.ownAt {a : Array Value} (h : Rep w S pl s a) {r c : Nat} {o : Row} (hr : rowAt s r c = some o) : c < (gr s.r r).length ∧ OwnRow w (S .imm) o.t o.l (pl.hv r c) := by
  have hc : c < (gr s.r r).length := by
    rcases Nat.lt_or_ge c (gr s.r r).length with h' | h'
    · exact h'
    · unfold rowAt at hr
      rw [gt_big _ _ h'] at hr
      simp [rowOf] at hr
  refine ⟨hc, ?_⟩
  have h1 := (h.roots r c hc).1
  unfold RepRoot at h1
  unfold rowAt at hr
  rw [hr] at h1
  exact h1
theorem OwnRow.sliceOf {t : Ty} {l : List t.val} {v : Value} {S : Cset} (h : OwnRow w S t l v) : ∃ a n cap, v = .slice a n cap := by
  rcases h with ⟨rfl, _⟩ | ⟨b, cap, _, _, _, rfl, _⟩
  · exact ⟨_, _, _, rfl⟩
  · exact ⟨_, _, _, rfl⟩
theorem seen_rep {a : Array Value} (h : Rep w S pl s a) (r : Nat) : ∀ (l : List PV) (c : Nat) (vs : List Value), vs.length = l.length →
    (∀ j, j < l.length → gt (gr s.r r) (c + j) = gt l j ∧ c + j < (gr s.r r).length) → (∀ j u, vs[j]? = some u → u = pl.hv r (c + j)) → RepL w S s pl (seen r c l) vs
  | [], c, vs, hl, _, _ => by simp only [seen, RepL]; exact List.length_eq_zero_iff.1 (by simpa using hl)
  | x :: l, c, [], hl, _, _ => by simp at hl
  | x :: l, c, v :: vs, hl, hx, hv => by
    have ih := seen_rep h r l (c + 1) vs (by simpa using hl) (fun j hj => by
      have := hx (j + 1) (by simpa using hj)
      rw [show c + (j + 1) = c + 1 + j by omega] at this
      simpa [gt] using this) (fun j u hu => by
      have := hv (j + 1) u (by simpa using hu)
      rwa [show c + (j + 1) = c + 1 + j by omega] at this)
    have h0 := hx 0 (by simp)
    simp only [Nat.add_zero, gt] at h0
    have hv0 : v = pl.hv r c := by simpa using hv 0 v (by simp)
    have hr := (h.roots r c h0.2).1
    rw [h0.1] at hr
    unfold RepRoot at hr
    have hrow : ∀ o, rowOf x = some o → RepV w S s pl (.view r c) v := fun o ho => by
      rw [ho] at hr
      simp only [RepV, RepCell]
      exact ⟨hv0, hv0 ▸ OwnRow.sliceOf hr⟩
    unfold seen
    split
    · rename_i h; cases h
    · rename_i t l' m h
      obtain ⟨rfl, rfl⟩ := List.cons.inj h
      simp only [RepL]
      exact ⟨v, vs, rfl, hrow ⟨true, t, l'⟩ rfl, ih⟩
    · rename_i t l' m h
      obtain ⟨rfl, rfl⟩ := List.cons.inj h
      simp only [RepL]
      exact ⟨v, vs, rfl, hrow ⟨false, t, l'⟩ rfl, ih⟩
    · rename_i y m hn1 hn2 h
      obtain ⟨rfl, rfl⟩ := List.cons.inj h
      simp only [RepL]
      refine ⟨v, vs, rfl, ?_, ih⟩
      have : rowOf x = none := by
        unfold rowOf
        split
        · exact (hn1 _ _ rfl).elim
        · exact (hn2 _ _ rfl).elim
        · rfl
      rw [this] at hr
      rw [hv0]
      exact hr
end
end Go.Ab
namespace Go.Ab
open Go.RowKit
set_option linter.unusedVariables false
set_option linter.unusedSimpArgs false
section
variable {P : Program} {D : TypeId → Option TD} {w : World} {S : Fl → Cset} {pl : Pl} {s : St} {a : Act}
theorem at_add (b o n : Nat) : (at_ b o).add n = at_ b (o + n) := by
  unfold Addr.add at_
  split
  · rename_i h; subst h; rfl
  · rfl
theorem enc_rep (f : Fl) (hf : f = .imm ∨ f = .bor) : ∀ {t : Ty} {x : t.val} {cs : List Value}, RepC w (S f) t x cs → RepL w S s pl (enc f t x) cs
  | .int k, x, cs, h => by cases h; simp [enc, RepL, RepV, RepCell]
  | .bool, x, cs, h => by cases h; simp [enc, RepL, RepV, RepCell]
  | .str, x, cs, h => by cases h; simp [enc, RepL, RepV, RepCell]
  | .slice t, x, cs, h => by
    have h0 := h
    obtain ⟨A, cap, rfl, _⟩ := h
    rcases hf with rfl | rfl <;> simp only [enc, RepL, RepV, RepCell] <;> exact ⟨_, _, rfl, h0, rfl⟩
  | .pair a b, x, cs, h => by
    obtain ⟨c1, c2, rfl, h1, h2⟩ := h
    simp only [enc]
    exact (enc_rep f hf h1).append (enc_rep f hf h2)
  | .unit, _, cs, h => by cases h; simp [enc, RepL]
  | .opq, _, cs, h => by obtain ⟨v, rfl, _⟩ := h; simp [enc, RepL, RepV]
  | .sum _ _, _, _, h => by cases h; simp [enc, RepL]
theorem run_load_cells {t : TypeId} {d : TD} (hd : TDok P D t d) {b o : Nat} {vs : List Value} (hl : d.agg = true → vs.length = d.sz) (h : ∀ j u, vs[j]? = some u → w.cell? (at_ b (o + j)) = some u) :
    (loadVar t (at_ b o)).run P w = if d.agg then .ok (.agg vs.toArray) w else match w.cell? (at_ b o) with
      | some v => .ok v w
      | none => (load (at_ b o)).run P w := by
  have hs := hd.run_size w
  have hg := hd.run_agg w
  simp only [loadVar, Sem.run_bind, hg, Result.andThen_ok]
  cases hagg : d.agg
  · simp only [Bool.false_eq_true, if_false]
    cases hc : w.cell? (at_ b o) with
    | none => rfl
    | some v => simp [hc]
  · simp only [if_true, Sem.run_bind, hs, Result.andThen_ok]
    have := run_loadCells_list (P := P) w (at_ b o) vs (fun j v hv => by rw [at_add]; exact h j v hv)
    rw [← hl hagg, this]
    rfl
theorem load_one {t : TypeId} {d : TD} (hd : TDok P D t d) {b o : Nat} {vs : List Value} {cs : List PV} {v : PV}
    (h : ∀ j u, vs[j]? = some u → w.cell? (at_ b (o + j)) = some u) (hr : RepL w S s pl cs vs) (h1 : ∀ u ∈ vs, u.oneCell' = true) (ho : one d.agg d.sz cs = some v) :
    ∃ x, (loadVar t (at_ b o)).run P w = .ok x w ∧ RepV w S s pl v x := by
  have hl : d.agg = true → vs.length = d.sz := fun hagg => by
    rw [hagg] at ho
    simp only [one, if_true] at ho
    cases hb : Nat.beq (plen cs) d.sz
    · simp [hb] at ho
    · rw [hr.len, ← plen_eq]
      exact Nat.eq_of_beq_eq_true hb
  rw [run_load_cells hd hl h]
  cases hagg : d.agg
  · rw [hagg] at ho
    simp only [one, Bool.false_eq_true, if_false] at ho ⊢
    split at ho
    · obtain rfl := Option.some.inj ho
      simp only [RepL] at hr
      obtain ⟨u, us, rfl, h2, rfl⟩ := hr
      have := h 0 u (by simp)
      simp only [Nat.add_zero] at this
      rw [this]
      exact ⟨u, rfl, h2⟩
    · simp at ho
  · rw [hagg] at ho
    simp only [one, if_true] at ho ⊢
    cases hb : Nat.beq (plen cs) d.sz <;> simp only [hb, cond, reduceCtorEq, Option.some.injEq] at ho
    subst ho
    exact ⟨_, rfl, by simp only [RepV]; exact ⟨_, rfl, by simpa using hr, by simpa using h1⟩⟩
theorem getD_rd {t : Ty} {l : List t.val} {i : Int} {x : t.val} (h : l[i.toNat]? = some x) : rd t l i = x := by
  unfold rd
  simp [List.getD, h]
theorem addrOf_rep (h : Rep w S pl s a.tmps) {sz : Nat} {p : PV} {v : Value} {cs : List PV} (hp : RepV w S s pl p v) (ha : addrOf s sz p = some cs) :
    ∃ b o vs, v = .pointer (some (at_ b o)) ∧ vs.length = cs.length ∧ (∀ j u, vs[j]? = some u → w.cell? (at_ b (o + j)) = some u) ∧ RepL w S s pl cs vs ∧ ∀ u ∈ vs, u.oneCell' = true := by
  unfold addrOf at ha
  split at ha
  ·
    rename_i r c
    obtain rfl := Option.some.inj ha
    simp only [RepV, RepCell] at hp
    obtain ⟨b, o, hm, rfl⟩ := hp
    let n := (ptake sz (pdrop c (gr s.r r))).length
    have hn : ∀ j, j < n → c + j < (gr s.r r).length ∧ gt (gr s.r r) (c + j) = gt (ptake sz (pdrop c (gr s.r r))) j := fun j hj => by
      have hj' := hj
      simp only [n, ptake_eq, pdrop_eq, List.length_take, List.length_drop] at hj
      refine ⟨by omega, ?_⟩
      rw [gt_get _ _ (by omega), gt_get _ _ hj']
      simp [ptake_eq, pdrop_eq]
    let vs := (List.range n).map fun j => pl.hv r (c + j)
    have hvs : ∀ (j : Nat) (u : Value), vs[j]? = some u → j < n ∧ u = pl.hv r (c + j) := fun j u hu => by
      simp only [vs, List.getElem?_map, List.getElem?_range] at hu
      rcases Nat.lt_or_ge j n with hj | hj
      · simp [List.getElem?_range hj] at hu
        exact ⟨hj, hu.symm⟩
      · rw [List.getElem?_eq_none (by simpa using hj)] at hu
        simp at hu
    have hlen : vs.length = (ptake sz (pdrop c (gr s.r r))).length := by simp [vs, n]
    have hrep := seen_rep h r (ptake sz (pdrop c (gr s.r r))) c vs hlen (fun j hj => ⟨(hn j hj).2, (hn j hj).1⟩) (fun j u hu => (hvs j u hu).2)
    refine ⟨b, o + c, vs, rfl, by rw [← hrep.len], fun j u hu => ?_, hrep, fun u hu => ?_⟩
    · obtain ⟨hj, rfl⟩ := hvs j u hu
      have := (h.mem r b o (c + j) hm (hn j hj).1).1
      rwa [show o + (c + j) = o + c + j by omega] at this
    · obtain ⟨j, hj⟩ := List.getElem?_of_mem hu
      obtain ⟨hj', rfl⟩ := hvs j u hj
      exact (h.roots r (c + j) (hn j hj').1).2
  ·
    rename_i f t l i o
    obtain rfl := Option.some.inj ha
    simp only [RepV, RepCell] at hp
    obtain ⟨hf, x, h0, hx, a', row, rfl, hlen, hcell, hrep⟩ := hp
    rw [getD_rd hx]
    have he := enc_rep (s := s) (pl := pl) f hf hrep
    refine ⟨a'.block, a'.off + o, (row.drop o).take sz, rfl, ?_, fun j u hu => ?_, ?_, fun u hu => ?_⟩
    · rw [((he.drop o).take sz).len]
    · rw [List.getElem?_take] at hu
      split at hu
      · rw [List.getElem?_drop] at hu
        rw [show a'.off + o + j = a'.off + (o + j) by omega]
        exact (hcell _ u hu).1
      · simp at hu
    · exact (he.drop o).take sz
    · exact hrep.one u (List.mem_of_mem_drop (List.mem_of_mem_take hu))
  ·
    rename_i r c i o
    split at ha
    · rename_i w' hw
      obtain rfl := Option.some.inj ha
      simp only [RepV, RepCell] at hp
      obtain ⟨_, hp⟩ := hp
      obtain ⟨h0, h1, b, n, cap, hv, rfl⟩ := hp w' hw
      obtain ⟨hc, ho⟩ := h.ownAt hw
      rw [hv] at ho
      rcases ho with ⟨e, _⟩ | ⟨b', cap', c', e', fz, hv', hle, hheap, hsz, hfz, hrows⟩
      · cases e
      · simp only [Value.slice.injEq, Option.some.injEq] at hv'
        obtain ⟨hb, rfl, rfl⟩ := hv'
        obtain rfl : b = b' := by have := congrArg Addr.block hb; exact this
        have hi : i.toNat < w'.l.length := by omega
        obtain ⟨row, hrl, hrc, hrep⟩ := hrows i.toNat _ (List.getElem?_eq_getElem hi)
        rw [getD_rd (List.getElem?_eq_getElem hi)]
        have he := enc_rep (s := s) (pl := pl) .imm (.inl rfl) hrep
        refine ⟨b, i.toNat * w'.t.sz' + o, (row.drop o).take sz, rfl, by rw [((he.drop o).take sz).len], fun j u hu => ?_, (he.drop o).take sz, fun u hu => hrep.one u (List.mem_of_mem_drop (List.mem_of_mem_take hu))⟩
        rw [List.getElem?_take] at hu
        split at hu
        · rw [List.getElem?_drop] at hu
          have := hrc _ u hu
          unfold World.cell? at_
          simp only [hheap]
          rw [show i.toNat * w'.t.sz' + o + j = i.toNat * w'.t.sz' + (o + j) by omega]
          simpa using this
        · simp at hu
    · simp at ha
  ·
    rename_i l d
    obtain rfl := Option.some.inj ha
    simp only [RepV] at hp
    obtain ⟨b, o, vs, rfl, hcell, hrep, h1⟩ := hp
    refine ⟨b, o + d, (vs.drop d).take sz, rfl, by rw [((hrep.drop d).take sz).len], fun j u hu => ?_, (hrep.drop d).take sz, fun u hu => h1 u (List.mem_of_mem_drop (List.mem_of_mem_take hu))⟩
    rw [List.getElem?_take] at hu
    split at hu
    · rw [List.getElem?_drop] at hu
      rw [show o + d + j = o + (d + j) by omega]
      exact (hcell _ u hu).1
    · simp at hu
  · simp at ha
end
end Go.Ab
namespace Go.Ab
open Go.RowKit
set_option linter.unusedVariables false
set_option linter.unusedSimpArgs false
section
variable {P : Program} {D : TypeId → Option TD} {w : World} {S : Fl → Cset} {pl : Pl} {s s' : St} {a : Act} {o : Oper} {d : Nat} {oks : List Bool} {v : PV}
theorem op_move {x : Operand} (ho : o.op = .move x) (h : Rep w S pl s a.tmps) : Quiet P o a w S pl s (ev s x) :=
  ⟨a.eval x, by simp [execOp, ho], h.ev x⟩
theorem op_assign {x : Operand} (ho : o.op = .assign x) (h : Rep w S pl s a.tmps) : Quiet P o a w S pl s (ev s x) :=
  ⟨a.eval x, by simp [execOp, ho], h.ev x⟩
theorem op_pick {c x y : Operand} {b : Bool} (ho : o.op = .pick c x y) (h : Rep w S pl s a.tmps) (hc : ev s c = .bool b) : Quiet P o a w S pl s (mixV b (ev s x) (ev s y)) := by
  have h1 := h.ev c
  rw [hc] at h1
  simp only [RepV, RepCell] at h1
  refine ⟨if b then a.eval x else a.eval y, by simp [execOp, ho, h1, asBool], ?_⟩
  cases b
  · exact mixV_false (h.ev y)
  · exact mixV_true (h.ev x)
theorem op_load {e : TypeId} {x : Operand} {t : TD} {cs : List PV} (hD : Dok P D) (ho : o.op = .load e x) (h : Rep w S pl s a.tmps) (ht : D e = some t) (ha : addrOf s t.sz (ev s x) = some cs) (h1 : one t.agg t.sz cs = some v) :
    Quiet P o a w S pl s v := by
  obtain ⟨b, n, vs, e1, e2, e3, e4, e5⟩ := addrOf_rep h (h.ev x) ha
  obtain ⟨u, hu, hr⟩ := load_one (hD e t ht) e3 e4 e5 h1
  exact ⟨u, by simp [execOp, ho, Instr.loadAt, Instr.sureAddr, e1, hu], hr⟩
theorem pickAt_rep : ∀ (n j : Nat) (i : Int) (l : List PV) (vs : List Value), RepL w S s pl l vs → (j : Int) ≤ i → i < (j + n + 1 : Nat) → ∀ u, vs[i.toNat - j]? = some u → RepV w S s pl (pickAt i n j l) u
  | 0, j, i, l, vs, h, h1, h2, u, hu => by
    have : i.toNat - j = 0 := by omega
    rw [this] at hu
    simpa [pickAt] using h.get 0 u hu
  | n + 1, j, i, l, vs, h, h1, h2, u, hu => by
    unfold pickAt
    by_cases e : i = (j : Int)
    · have : (i == (j : Int)) = true := by simpa using e
      rw [this]
      have h0 : i.toNat - j = 0 := by omega
      rw [h0] at hu
      exact mixC_true (h.get 0 u hu)
    · have : (i == (j : Int)) = false := by simpa using e
      rw [this]
      refine mixC_false (pickAt_rep n (j + 1) i _ _ (h.drop 1) (by omega) (by omega) u ?_)
      rw [List.getElem?_drop, show 1 + (i.toNat - (j + 1)) = i.toNat - j by omega]
      exact hu
theorem op_load_arr {e : TypeId} {x : Operand} {t : TD} {r c n : Nat} {i : Int} (hD : Dok P D) (ho : o.op = .load e x) (h : Rep w S pl s a.tmps) (ht : D e = some t) (ha : t.agg = false) (hx : ev s x = .aptr r c n 1 i)
    (hlen : c + n ≤ (gr s.r r).length) : Quiet P o a w S pl s (pickAt i (n - 1) 0 (seen r c (ptake n (pdrop c (gr s.r r))))) := by
  have h1 := h.ev x
  rw [hx] at h1
  simp only [RepV, RepCell, Nat.mul_one] at h1
  obtain ⟨b, q, hm, h2, h3, e1⟩ := h1
  have hp : RepV w S s pl (.ptr r c) (.pointer (some (at_ b (q + c)))) := by simp only [RepV, RepCell]; exact ⟨b, q, hm, rfl⟩
  obtain ⟨b', n', vs, e2, e3, e4, e5, e6⟩ := addrOf_rep h (sz := n) hp rfl
  simp only [Value.pointer.injEq, Option.some.injEq] at e2
  obtain ⟨rfl, rfl⟩ : b = b' ∧ q + c = n' := ⟨congrArg Addr.block e2, congrArg Addr.off e2⟩
  have hl : vs.length = n := by
    rw [e3]
    have : ∀ (l : List PV) (k : Nat), (seen r k l).length = l.length := fun l => by
      induction l with
      | nil => intro k; simp [seen]
      | cons x l ih => intro k; unfold seen; split <;> simp_all
    rw [this, ptake_eq, pdrop_eq]
    simp
    omega
  have hi : i.toNat < vs.length := by omega
  have hcell := e4 i.toNat _ (List.getElem?_eq_getElem hi)
  refine ⟨vs[i.toNat], ?_, ?_⟩
  · simp [execOp, ho, Instr.loadAt, Instr.sureAddr, e1, loadVar, (hD e t ht).run_agg w, ha, hcell]
  · exact pickAt_rep (n - 1) 0 i _ vs e5 (by omega) (by omega) _ (by simp [List.getElem?_eq_getElem hi])
theorem op_extract {x : Operand} {i : Nat} {vs : List PV} (ho : o.op = .extract x i) (h : Rep w S pl s a.tmps) (hx : ev s x = .tup vs) (hi : i < vs.length) : Quiet P o a w S pl s (gt vs i) := by
  have h1 := h.ev x
  rw [hx] at h1
  simp only [RepV] at h1
  obtain ⟨us, e, h1⟩ := h1
  have hl := h1.len
  have hi' : i < us.size := by simp at hl; omega
  refine ⟨us[i], by simp [execOp, ho, e, Instr.extract, hi'], ?_⟩
  exact h1.get i _ (by simp [hi'])
theorem op_not {x : Operand} {b : Bool} {t : TypeId} (ho : o.op = .unOp .not t x) (h : Rep w S pl s a.tmps) (hx : ev s x = .bool b) : Quiet P o a w S pl s (.bool (!b)) := by
  have h1 := h.ev x
  rw [hx] at h1
  simp only [RepV, RepCell] at h1
  exact ⟨.bool (!b), by simp [execOp, ho, h1, Op.unary], by simp [RepV, RepCell]⟩
theorem op_neg {x : Operand} {k : IntKind} {n : Int} {t : TypeId} (ho : o.op = .unOp .neg t x) (h : Rep w S pl s a.tmps) (hx : ev s x = .int k n) : Quiet P o a w S pl s (.int k (wr k (0 - n))) := by
  have h1 := h.ev x
  rw [hx] at h1
  simp only [RepV, RepCell] at h1
  exact ⟨.int k (k.wrap (0 - n)), by simp [execOp, ho, h1, Op.unary, Op.intArith], by simp [RepV, RepCell, wr_eq]⟩
theorem op_nilCheck {x : Operand} (ho : o.op = .nilCheck x) (h : Rep w S pl s a.tmps) (hx : ∃ b, a.eval x = .pointer (some b)) : Quiet P o a w S pl s (ev s x) := by
  obtain ⟨b, hb⟩ := hx
  exact ⟨a.eval x, by simp [execOp, ho, hb], h.ev x⟩
theorem binInt_ok {op : BinOp} {k : IntKind} {x y : Int} {t : TypeId} (hs : op ≠ .shl ∧ op ≠ .shr) (h : binInt op k x y = some (oks, v)) (hok : ∀ c ∈ oks, c = true) :
    ∃ u, (binOp op t (.int k x) (.int k y)).run P w = .ok u w ∧ RepV w S s pl v u := by
  unfold binInt at h
  cases op <;> simp only [Option.some.injEq, Prod.mk.injEq, reduceCtorEq] at h <;> (try (exact (hs.1 rfl).elim)) <;> (try (exact (hs.2 rfl).elim)) <;> obtain ⟨rfl, rfl⟩ := h
  all_goals (simp at hok)
  case and => exact ⟨_, by (simp only [binOp]; rw [if_neg (by simp)]; rfl), by simp only [RepV, RepCell]; rfl⟩
  case or => exact ⟨_, by (simp only [binOp]; rw [if_neg (by simp)]; rfl), by simp only [RepV, RepCell]; rfl⟩
  case xor => exact ⟨_, by (simp only [binOp]; rw [if_neg (by simp)]; rfl), by simp only [RepV, RepCell]; rfl⟩
  case andNot => exact ⟨_, by (simp only [binOp]; rw [if_neg (by simp)]; rfl), by simp only [RepV, RepCell]; rfl⟩
  all_goals (first
    | exact ⟨_, by simp [binOp, Op.intArith, Op.intCmp, hok]; rfl, by simp [RepV, RepCell, wr_eq]⟩
    | exact ⟨_, by simp [binOp, Op.intDiv, hok]; rfl, by simp [RepV, RepCell, wr_eq]⟩)
theorem binStr_ok {op : BinOp} {x y : ByteArray} {t : TypeId} (h : binStr op x y = some (oks, v)) (hok : ∀ c ∈ oks, c = true) :
    ∃ u, (binOp op t (.string x) (.string y)).run P w = .ok u w ∧ RepV w S s pl v u := by
  unfold binStr at h
  cases op <;> simp only [Option.some.injEq, Prod.mk.injEq, reduceCtorEq] at h <;> obtain ⟨rfl, rfl⟩ := h
  case add =>
    simp only [List.mem_singleton, forall_eq, joins, decide_eq_true_eq, S0_eq] at hok
    refine ⟨.string (x ++ y), ?_, by simp [RepV, RepCell]⟩
    have : ¬ (((x.size + y.size : Nat) : Int) > IntKind.i64.max) := by
      have : IntKind.i64.max = 9223372036854775807 := by decide
      omega
    simp only [binOp, Op.stringOp]
    rw [if_neg this]
    rfl
  all_goals exact ⟨_, by (simp only [binOp, Op.stringOp]; rfl), by simp [RepV, RepCell, seq, slt]⟩
theorem eqGuard_plain {op : BinOp} {t : TypeId} {x y : Operand} {u v : Value} (h : u ≠ .nilIface) (h' : ∀ c, u ≠ .agg c) : (eqGuard op t x y u v).run P w = .ok () w := by
  cases u <;> first | exact absurd rfl h | exact absurd rfl (h' _) | (cases op <;> rfl)
theorem op_binInt {op : BinOp} {t ty : TypeId} {x y : Operand} {k : IntKind} {m n : Int} (hs : op ≠ .shl ∧ op ≠ .shr) (ho : o.op = .binOp op t x y ty) (h : Rep w S pl s a.tmps) (hx : ev s x = .int k m) (hy : ev s y = .int k n)
    (hb : binInt op k m n = some (oks, v)) (hok : ∀ c ∈ oks, c = true) : Quiet P o a w S pl s v := by
  have h1 := h.ev x
  have h2 := h.ev y
  rw [hx] at h1
  rw [hy] at h2
  simp only [RepV, RepCell] at h1 h2
  obtain ⟨u, hu, hr⟩ := binInt_ok (P := P) (w := w) (S := S) (s := s) (pl := pl) (t := t) hs hb hok
  exact ⟨u, by simp [execOp, ho, h1, h2, eqGuard_plain, hu], hr⟩
theorem op_binStr {op : BinOp} {t ty : TypeId} {x y : Operand} {m n : ByteArray} (ho : o.op = .binOp op t x y ty) (h : Rep w S pl s a.tmps) (hx : ev s x = .str m) (hy : ev s y = .str n)
    (hb : binStr op m n = some (oks, v)) (hok : ∀ c ∈ oks, c = true) : Quiet P o a w S pl s v := by
  have h1 := h.ev x
  have h2 := h.ev y
  rw [hx] at h1
  rw [hy] at h2
  simp only [RepV, RepCell] at h1 h2
  obtain ⟨u, hu, hr⟩ := binStr_ok (P := P) (w := w) (S := S) (s := s) (pl := pl) (t := t) hb hok
  exact ⟨u, by simp [execOp, ho, h1, h2, eqGuard_plain, hu], hr⟩
theorem op_shl {t ty : TypeId} {x y : Operand} {k k' : IntKind} {m n : Int} (ho : o.op = .binOp .shl t x y ty) (h : Rep w S pl s a.tmps) (hx : ev s x = .int k m) (hy : ev s y = .int k' n) (hn : 0 ≤ n) :
    Quiet P o a w S pl s (.int k (shl k m n)) := by
  have h1 := h.ev x
  have h2 := h.ev y
  rw [hx] at h1
  rw [hy] at h2
  simp only [RepV, RepCell] at h1 h2
  refine ⟨.int k (shl k m n), ?_, by simp [RepV, RepCell]⟩
  simp only [execOp, ho, h1, h2, Sem.run_bind, eqGuard_plain (P := P) (w := w) (u := .int k m) (by simp) (by simp), Result.andThen_ok, binOp, Op.shift]
  rw [if_neg (by omega)]
  rfl
theorem op_shr {t ty : TypeId} {x y : Operand} {k k' : IntKind} {m n : Int} (ho : o.op = .binOp .shr t x y ty) (h : Rep w S pl s a.tmps) (hx : ev s x = .int k m) (hy : ev s y = .int k' n) (hn : 0 ≤ n) :
    Quiet P o a w S pl s (.int k (shr k m n)) := by
  have h1 := h.ev x
  have h2 := h.ev y
  rw [hx] at h1
  rw [hy] at h2
  simp only [RepV, RepCell] at h1 h2
  refine ⟨.int k (shr k m n), ?_, by simp [RepV, RepCell]⟩
  simp only [execOp, ho, h1, h2, Sem.run_bind, eqGuard_plain (P := P) (w := w) (u := .int k m) (by simp) (by simp), Result.andThen_ok, binOp, Op.shift]
  rw [if_neg (by omega)]
  rfl
end
end Go.Ab
namespace Go.Ab
open Go.RowKit
set_option linter.unusedVariables false
set_option linter.unusedSimpArgs false
section
variable {P : Program} {D : TypeId → Option TD} {w : World} {S : Fl → Cset} {pl : Pl} {s s' : St} {a : Act} {o : Oper} {d : Nat} {oks : List Bool} {v : PV}
theorem TDok.struct {t : TypeId} {td : TD} (h : TDok P D t td) {offs : List (Nat × TypeId)} (hk : td.k = .struct offs) (w : World) :
    ∃ fs : Array Field, (underlying t).run P w = .ok (.struct fs) w ∧ P.underlying t = some (.struct fs) ∧ offs = fs.toList.map (fun f => (f.offset, f.type)) ∧ td.agg = true := by
  obtain ⟨u, h1, h2⟩ := h.und
  have hr : (underlying t).run P w = .ok u w := by simp [underlying, h1]
  cases u <;> simp only [TKok, hk, reduceCtorEq, false_and, and_false, exists_false, TK.struct.injEq] at h2
  rename_i fs
  obtain ⟨⟨_, rfl, h2⟩, h3⟩ := h2
  exact ⟨fs, hr, h1, h2, h3⟩
theorem TDok.slice {t e : TypeId} {td : TD} (h : TDok P D t td) (hk : td.k = .slice e) (w : World) :
    (underlying t).run P w = .ok (.slice e) w ∧ P.underlying t = some (.slice e) ∧ td.row = .slice (match D e with | some de => de.row | none => .unit) := by
  obtain ⟨u, h1, h2⟩ := h.und
  have hr : (underlying t).run P w = .ok u w := by simp [underlying, h1]
  cases u <;> simp only [TKok, hk, reduceCtorEq, false_and, and_false, exists_false, TK.slice.injEq] at h2
  obtain ⟨rfl, _, h2⟩ := h2
  exact ⟨hr, h1, h2⟩
theorem TDok.int {t : TypeId} {k : IntKind} {td : TD} (h : TDok P D t td) (hk : td.k = .int k) (w : World) : (underlying t).run P w = .ok (.int k) w ∧ P.underlying t = some (.int k) := by
  obtain ⟨u, h1, h2⟩ := h.und
  have hr : (underlying t).run P w = .ok u w := by simp [underlying, h1]
  cases u <;> simp only [TKok, hk, reduceCtorEq, false_and, and_false, exists_false, TK.int.injEq] at h2
  obtain ⟨rfl, _⟩ := h2
  exact ⟨hr, h1⟩
theorem TDok.str {t : TypeId} {td : TD} (h : TDok P D t td) (hk : td.k = .str) (w : World) : (underlying t).run P w = .ok .string w ∧ P.underlying t = some .string := by
  obtain ⟨u, h1, h2⟩ := h.und
  have hr : (underlying t).run P w = .ok u w := by simp [underlying, h1]
  cases u <;> simp only [TKok, hk, reduceCtorEq, false_and, and_false, exists_false] at h2
  exact ⟨hr, h1⟩
theorem TDok.arr {t : TypeId} {n : Nat} {e : TypeId} {td : TD} (h : TDok P D t td) (hk : td.k = .arr n e) (w : World) : (underlying t).run P w = .ok (.array n e) w ∧ P.underlying t = some (.array n e) := by
  obtain ⟨u, h1, h2⟩ := h.und
  have hr : (underlying t).run P w = .ok u w := by simp [underlying, h1]
  cases u <;> simp only [TKok, hk, reduceCtorEq, false_and, and_false, exists_false, TK.arr.injEq] at h2
  obtain ⟨⟨rfl, rfl⟩, _⟩ := h2
  exact ⟨hr, h1⟩
theorem field_of {offs : List (Nat × TypeId)} {fs : Array Field} {f off : Nat} {e : TypeId} (h : offs = fs.toList.map (fun f => (f.offset, f.type))) (ho : offs[f]? = some (off, e)) : ∃ x, fs[f]? = some x ∧ x.offset = off ∧ x.type = e := by
  subst h
  rw [List.getElem?_map] at ho
  cases hx : fs.toList[f]? with
  | none => rw [hx] at ho; simp at ho
  | some x =>
    rw [hx] at ho
    simp at ho
    exact ⟨x, by simpa using hx, ho.1, ho.2⟩
theorem op_fieldAddr {e e' : TypeId} {x : Operand} {f off : Nat} {td td' : TD} {offs : List (Nat × TypeId)} {b q : Nat} {v' : PV} (hD : Dok P D) (ho : o.op = .fieldAddr e x f) (h : Rep w S pl s a.tmps) (ht : D e = some td) (hk : td.k = .struct offs)
    (hf : offs[f]? = some (off, e')) (ht' : D e' = some td') (hz : 0 < td'.sz) (hx : a.eval x = .pointer (some (at_ b q))) (hv : RepV w S s pl v' (.pointer (some (at_ b (q + off))))) : Quiet P o a w S pl s v' := by
  obtain ⟨fs, h1, _, h2, _⟩ := (hD e td ht).struct hk w
  obtain ⟨fl, h3, h4, h5⟩ := field_of h2 hf
  refine ⟨_, ?_, hv⟩
  have hs := (hD e' td' ht').run_size w
  simp [execOp, ho, hx, Instr.fieldAt, Instr.sureAddr, h1, h3, fieldPlace, h4, h5, hs, Nat.ne_of_gt hz, at_add]
theorem op_field {e e' : TypeId} {x : Operand} {f off : Nat} {td td' : TD} {offs : List (Nat × TypeId)} {cs : List PV} (hD : Dok P D) (ho : o.op = .field e x f) (h : Rep w S pl s a.tmps) (ht : D e = some td) (hk : td.k = .struct offs)
    (hf : offs[f]? = some (off, e')) (ht' : D e' = some td') (hx : ev s x = .agg cs) (h1 : one td'.agg td'.sz (ptake td'.sz (pdrop off cs)) = some v) : Quiet P o a w S pl s v := by
  obtain ⟨fs, g1, _, g2, _⟩ := (hD e td ht).struct hk w
  obtain ⟨fl, g3, g4, g5⟩ := field_of g2 hf
  have hx1 := h.ev x
  rw [hx] at hx1
  simp only [RepV] at hx1
  obtain ⟨vs, e1, r1, r2⟩ := hx1
  have hr := (r1.drop off).take td'.sz
  have hg := (hD e' td' ht').run_agg w
  have hs := (hD e' td' ht').run_size w
  cases hagg : td'.agg
  · rw [hagg] at h1 hg
    simp only [one, Bool.false_eq_true, if_false] at h1
    split at h1
    · rename_i y hy
      obtain rfl := Option.some.inj h1
      rw [hy] at hr
      simp only [RepL] at hr
      obtain ⟨u, us, hus, hu, _⟩ := hr
      have hu0 : vs[off]? = some u := by
        have : ((vs.toList.drop off).take td'.sz)[0]? = some u := by rw [hus]; rfl
        rw [List.getElem?_take] at this
        split at this
        · simpa [List.getElem?_drop] using this
        · simp at this
      exact ⟨u, by simp [execOp, ho, e1, Instr.field, g1, g3, part, g4, g5, hg, asAgg, hu0], hu⟩
    · simp at h1
  · rw [hagg] at h1 hg
    simp only [one, if_true] at h1
    cases hb : Nat.beq (plen (ptake td'.sz (pdrop off cs))) td'.sz <;> simp only [hb, cond, reduceCtorEq, Option.some.injEq] at h1
    subst h1
    refine ⟨.agg (vs.extract off (off + td'.sz)), by simp [execOp, ho, e1, Instr.field, g1, g3, part, g4, g5, hg, hs, asAgg], ?_⟩
    simp only [RepV]
    refine ⟨_, rfl, ?_, fun u hu => ?_⟩
    · have : (vs.extract off (off + td'.sz)).toList = (vs.toList.drop off).take td'.sz := by simp
      rw [this]
      exact hr
    · have : (vs.extract off (off + td'.sz)).toList = (vs.toList.drop off).take td'.sz := by simp
      rw [this] at hu
      exact r2 u (List.mem_of_mem_drop (List.mem_of_mem_take hu))
theorem op_index {e : TypeId} {x i : Operand} {b : ByteArray} {k : IntKind} {n : Int} {td : TD} (hD : Dok P D) (ho : o.op = .index e x i) (h : Rep w S pl s a.tmps) (ht : D e = some td) (hk : td.k = .str) (hx : ev s x = .str b) (hi : ev s i = .int k n)
    (h0 : 0 ≤ n) (hn : n < b.size) : Quiet P o a w S pl s (.int .u8 (bt b n)) := by
  have h1 := h.ev x
  have h2 := h.ev i
  rw [hx] at h1
  rw [hi] at h2
  simp only [RepV, RepCell] at h1 h2
  obtain ⟨hu, _⟩ := (hD e td ht).str hk w
  have hlt : n.toNat < b.size := by omega
  refine ⟨.int .u8 (bt b n), ?_, by simp [RepV, RepCell]⟩
  have hb : b[n.toNat]? = some b[n.toNat] := getElem?_pos b n.toNat hlt
  have hbt : ((b[n.toNat]).toNat : Int) = bt b n := by
    unfold bt
    have : b.data.getD n.toNat 0 = b[n.toNat] := by
      rw [Array.getD_eq_getD_getElem?, Array.getElem?_eq_getElem (by simpa using hlt)]
      rfl
    rw [this]
  simp [execOp, ho, h1, h2, Instr.index, asIntOf, hu, h0, hb, hbt]
theorem op_lenS {x : Operand} {ts : Array TypeId} {t : TypeId} {td : TD} {b : ByteArray} (hD : Dok P D) (ho : o.op = .call ⟨.builtin .len, #[x], ts⟩) (h : Rep w S pl s a.tmps) (hts : ts[0]? = some t) (ht : D t = some td) (hk : td.k = .str)
    (hx : ev s x = .str b) : Quiet P o a w S pl s (.int .i64 b.size) := by
  have h1 := h.ev x
  obtain ⟨hu, _⟩ := (hD t td ht).str hk w
  rw [hx] at h1
  simp only [RepV, RepCell] at h1
  exact ⟨.int .i64 b.size, by simp [execOp, ho, resolve, Deferred.ofValue, invoke, builtin, Builtin.len_, h1, hts, hu, goInt], by simp [RepV, RepCell]⟩
theorem len_rep {p : PV} {v : Value} {n : Int} (h : Rep w S pl s a.tmps) (h1 : RepV w S s pl p v) (hn : lenOf s p = some n) : ∃ A m c, v = .slice A m c ∧ n = (m : Int) := by
  unfold lenOf at hn
  split at hn
  · rename_i f t' l
    obtain rfl := Option.some.inj hn
    cases f <;> simp only [RepV, RepCell] at h1
    all_goals (obtain ⟨A, cap, e, _⟩ := h1; simp at e; exact ⟨_, _, _, e, rfl⟩)
  · obtain rfl := Option.some.inj hn
    simp only [RepV, RepCell] at h1
    exact ⟨_, _, _, h1, rfl⟩
  · rename_i r c
    simp only [RepV, RepCell] at h1
    split at hn
    · rename_i w' hw
      obtain rfl := Option.some.inj hn
      have ho := (h.ownAt hw).2
      rw [h1.1]
      rcases ho with ⟨e, hl⟩ | ⟨b, cap, _, _, _, e, _⟩
      · rw [e, hl]; exact ⟨_, _, _, rfl, rfl⟩
      · rw [e]; exact ⟨_, _, _, rfl, rfl⟩
    · simp at hn
  · rename_i r c lo hi
    simp only [RepV, RepCell] at h1
    split at hn
    · rename_i w' hw
      obtain rfl := Option.some.inj hn
      obtain ⟨_, h1⟩ := h1
      obtain ⟨a', n', cap, A, e1, e2, e3, e4, e5, _⟩ := h1 w' hw
      exact ⟨_, _, _, e5, by omega⟩
    · simp at hn
  · simp at hn
theorem len_cap {p : PV} {v : Value} {n : Int} (h : Rep w S pl s a.tmps) (h1 : RepV w S s pl p v) (hn : lenOf s p = some n) : ∃ A m c, v = .slice A m c ∧ n = (m : Int) ∧ m ≤ c := by
  unfold lenOf at hn
  split at hn
  · rename_i f t' l
    obtain rfl := Option.some.inj hn
    cases f <;> simp only [RepV, RepCell] at h1
    all_goals (obtain ⟨A, cap, e, hl, _⟩ := h1; simp at e; exact ⟨_, _, _, e, rfl, hl⟩)
  · obtain rfl := Option.some.inj hn
    simp only [RepV, RepCell] at h1
    exact ⟨_, _, _, h1, rfl, Nat.le_refl _⟩
  · rename_i r c
    simp only [RepV, RepCell] at h1
    split at hn
    · rename_i w' hw
      obtain rfl := Option.some.inj hn
      have ho := (h.ownAt hw).2
      rw [h1.1]
      rcases ho with ⟨e, hl⟩ | ⟨b, cap, _, _, _, e, hle, _⟩
      · rw [e, hl]; exact ⟨_, _, _, rfl, rfl, Nat.le_refl _⟩
      · rw [e]; exact ⟨_, _, _, rfl, rfl, hle⟩
    · simp at hn
  · rename_i r c lo hi
    simp only [RepV, RepCell] at h1
    split at hn
    · rename_i w' hw
      obtain rfl := Option.some.inj hn
      obtain ⟨_, h1⟩ := h1
      obtain ⟨a', n', cap, A, e1, e2, e3, e4, e5, _⟩ := h1 w' hw
      have ho := (h.ownAt hw).2
      rw [e1] at ho
      have hc : n' = w'.l.length ∧ n' ≤ cap := by
        rcases ho with ⟨e2, hl⟩ | ⟨b, cap', _, _, _, e2, hle, _⟩
        · cases e2; simp [hl]
        · cases e2; exact ⟨rfl, hle⟩
      exact ⟨_, _, _, e5, by omega, by omega⟩
    · simp at hn
  · simp at hn
theorem op_lenL {x : Operand} {ts : Array TypeId} {t e : TypeId} {td : TD} {n : Int} (hD : Dok P D) (ho : o.op = .call ⟨.builtin .len, #[x], ts⟩) (h : Rep w S pl s a.tmps) (hts : ts[0]? = some t) (ht : D t = some td) (hk : td.k = .slice e)
    (hn : lenOf s (ev s x) = some n) : Quiet P o a w S pl s (.int .i64 n) := by
  obtain ⟨A, m, c, e1, rfl⟩ := len_rep h (h.ev x) hn
  obtain ⟨hu, _⟩ := (hD t td ht).slice hk w
  exact ⟨.int .i64 m, by simp [execOp, ho, resolve, Deferred.ofValue, invoke, builtin, Builtin.len_, e1, hts, hu, goInt], by simp [RepV, RepCell]⟩
theorem sliceBound_ok {k : IntKind} {i : Int} {y : Nat} {c : BoundsCode} (h0 : 0 ≤ i) (h1 : i ≤ y) : (Instr.sliceBound (.int k i) y c).run P w = .ok i.toNat w := by
  simp [Instr.sliceBound, asIntOf, h0, h1]
def IsInt : Option Value → Option Int → Prop
  | none, none => True
  | some v, some i => ∃ k, v = .int k i
  | _, _ => False
theorem bounds_ok {n : Int} {lo hi : Option Int} (h : ∀ c ∈ bounds n lo hi, c = true) : (∀ l, lo = some l → 0 ≤ l ∧ l ≤ (match hi with | some h => h | none => n)) ∧ ∀ h, hi = some h → 0 ≤ h ∧ h ≤ n := by
  cases lo <;> cases hi <;> simp [bounds] at h ⊢
  · exact h
  · exact h
  · exact ⟨h.2, h.1⟩
theorem sliceBounds_ok {b : Bool} {len cap : Nat} {lo hi : Option Int} {x y : Option Value} (hx : IsInt x lo) (hy : IsInt y hi) (hc : len ≤ cap) (h : ∀ c ∈ bounds len lo hi, c = true) :
    (Instr.sliceBounds b len cap x y none).run P w = .ok (loN lo, hiN len hi, cap) w ∧ loN lo ≤ hiN len hi ∧ hiN len hi ≤ len := by
  obtain ⟨h1, h2⟩ := bounds_ok h
  cases lo <;> cases hi <;> cases x <;> cases y <;> simp only [IsInt] at hx hy
  · simp [Instr.sliceBounds, loN, hiN]
  · rename_i h0 v
    obtain ⟨k, rfl⟩ := hy
    have h3 := h2 h0 rfl
    have hb := fun c => sliceBound_ok (P := P) (w := w) (k := k) (y := cap) (c := c) h3.1 (by omega)
    simp [Instr.sliceBounds, loN, hiN, hb]
    omega
  · rename_i l0 v
    obtain ⟨k, rfl⟩ := hx
    have h3 := h1 l0 rfl
    simp only at h3
    have hb := fun c => sliceBound_ok (P := P) (w := w) (k := k) (y := len) (c := c) h3.1 (by omega)
    simp [Instr.sliceBounds, loN, hiN, hb]
    omega
  · rename_i l0 h0 v u
    obtain ⟨k, rfl⟩ := hx
    obtain ⟨k', rfl⟩ := hy
    have h3 := h1 l0 rfl
    have h4 := h2 h0 rfl
    simp only at h3
    have hb := fun c => sliceBound_ok (P := P) (w := w) (k := k') (y := cap) (c := c) h4.1 (by omega)
    have hb' := fun c => sliceBound_ok (P := P) (w := w) (k := k) (y := h0.toNat) (c := c) h3.1 (by omega)
    simp [Instr.sliceBounds, loN, hiN, hb, hb']
    omega
theorem boundsC_ok {n m a : Int} {lo hi : Option Int} (h : ∀ c ∈ boundsC n m a lo hi, c = true) : (∀ l, lo = some l → 0 ≤ l ∧ l ≤ (match hi with | some h => h | none => n)) ∧ ∀ h, hi = some h → 0 ≤ h ∧ (h ≤ n ∨ a = 0 ∧ h ≤ m) := by
  cases lo <;> cases hi <;> simp [boundsC] at h ⊢
  · exact h
  · exact h
  · exact ⟨h.2, h.1⟩
theorem sliceBoundsC_ok {b : Bool} {len mx cap : Nat} {lo hi : Option Int} {x y : Option Value} (hx : IsInt x lo) (hy : IsInt y hi) {m a : Int} (hc : len ≤ mx) (hm : mx ≤ cap) (ha : a = 0 → m ≤ (mx : Int)) (h : ∀ c ∈ boundsC len m a lo hi, c = true) :
    (Instr.sliceBounds b len cap x y none).run P w = .ok (loN lo, hiN len hi, cap) w ∧ loN lo ≤ hiN len hi ∧ hiN len hi ≤ mx := by
  obtain ⟨h1, h2⟩ := boundsC_ok h
  cases lo <;> cases hi <;> cases x <;> cases y <;> simp only [IsInt] at hx hy
  · simp [Instr.sliceBounds, loN, hiN, hc]
  · rename_i h0 v
    obtain ⟨k, rfl⟩ := hy
    have h3 := h2 h0 rfl
    have hb := fun c => sliceBound_ok (P := P) (w := w) (k := k) (y := cap) (c := c) h3.1 (by omega)
    simp [Instr.sliceBounds, loN, hiN, hb]
    omega
  · rename_i l0 v
    obtain ⟨k, rfl⟩ := hx
    have h3 := h1 l0 rfl
    simp only at h3
    have hb := fun c => sliceBound_ok (P := P) (w := w) (k := k) (y := len) (c := c) h3.1 (by omega)
    simp [Instr.sliceBounds, loN, hiN, hb]
    omega
  · rename_i l0 h0 v u
    obtain ⟨k, rfl⟩ := hx
    obtain ⟨k', rfl⟩ := hy
    have h3 := h1 l0 rfl
    have h4 := h2 h0 rfl
    simp only at h3
    have hb := fun c => sliceBound_ok (P := P) (w := w) (k := k') (y := cap) (c := c) h4.1 (by omega)
    have hb' := fun c => sliceBound_ok (P := P) (w := w) (k := k) (y := h0.toNat) (c := c) h3.1 (by omega)
    simp [Instr.sliceBounds, loN, hiN, hb, hb']
    omega
theorem sliceBounds3_ok {len cap : Nat} {lo : Option Int} {h m : Int} {x : Option Value} {k k' : IntKind} (hx : IsInt x lo) (h1 : 0 ≤ m ∧ m ≤ (cap : Int)) (h2 : 0 ≤ h ∧ h ≤ m) (h3 : 0 ≤ loI lo ∧ loI lo ≤ h) :
    (Instr.sliceBounds true len cap x (some (.int k h)) (some (.int k' m))).run P w = .ok (loN lo, h.toNat, m.toNat) w := by
  have hb := fun c => sliceBound_ok (P := P) (w := w) (k := k') (y := cap) (c := c) h1.1 (by omega)
  have hb' := fun c => sliceBound_ok (P := P) (w := w) (k := k) (y := m.toNat) (c := c) h2.1 (by omega)
  cases lo <;> cases x <;> simp only [IsInt] at hx
  · simp [Instr.sliceBounds, loN, hb, hb']
  · rename_i l0 v
    obtain ⟨k0, rfl⟩ := hx
    simp only [loI] at h3
    have hb2 := fun c => sliceBound_ok (P := P) (w := w) (k := k0) (y := h.toNat) (c := c) h3.1 (by omega)
    simp [Instr.sliceBounds, loN, hb, hb', hb2]
theorem RepC.part {S : Cset} {t : Ty} {l : List t.val} {A : Option Addr} {n cap : Nat} (h : RepC w S (.slice t) l [.slice A n cap]) {i j : Nat} (hij : i ≤ j) (hj : j ≤ l.length) :
    RepC w S (.slice t) ((l.take j).drop i) [.slice (if cap = i then A else A.map (·.add (i * t.sz'))) (j - i) (cap - i)] := by
  obtain ⟨A', cap', e, hle, h⟩ := h
  simp only [List.cons.injEq, Value.slice.injEq, and_true] at e
  obtain ⟨rfl, rfl, rfl⟩ := e
  refine ⟨if cap = i then A else A.map (·.add (i * t.sz')), cap - i, ?_, ?_, fun hne => ?_⟩
  · simp [List.length_take]
    omega
  · simp [List.length_take]; omega
  · have hlen : i < j := by
      rcases Nat.lt_or_ge i j with h' | h'
      · exact h'
      · exact absurd (List.drop_eq_nil_of_le (by simp; omega)) hne
    obtain ⟨a0, rfl, hs, h⟩ := h (by intro e; subst e; simp at hj; omega)
    have hcap : cap ≠ i := by omega
    refine ⟨a0.add (i * t.sz'), by simp [hcap], ?_, fun q x hx => ?_⟩
    · unfold Addr.add; split
      · exact hs
      · rfl
    · rw [List.getElem?_drop, List.getElem?_take] at hx
      split at hx
      · obtain ⟨row, r1, r2, r3⟩ := h (i + q) x hx
        refine ⟨row, r1, fun y v hv => ?_, r3⟩
        have hb : (a0.add (i * t.sz')).block = a0.block := by unfold Addr.add; split <;> rfl
        have hoff : (a0.add (i * t.sz')).off = a0.off + i * t.sz' := by unfold Addr.add; split <;> simp_all
        rw [hb, hoff]
        have := r2 y v hv
        rw [show a0.off + (i + q) * t.sz' + y = a0.off + i * t.sz' + q * t.sz' + y by rw [Nat.add_mul]; omega] at this
        exact this
      · simp at hx
end
end Go.Ab
namespace Go.Ab
open Go.RowKit
set_option linter.unusedVariables false
set_option linter.unusedSimpArgs false
section
variable {P : Program} {D : TypeId → Option TD} {w : World} {S : Fl → Cset} {pl : Pl} {s s' : St} {a : Act} {o : Oper} {d : Nat} {oks : List Bool} {v : PV}
theorem elem_ok (hD : Dok P D) {t : TypeId} {td de : TD} {ty : Ty} (ht : D t = some td) (he : elemTy D td = some (ty, de)) (w : World) :
    ∃ e i, td.k = .slice e ∧ (underlying t).run P w = .ok (.slice e) w ∧ D e = some de ∧ ty = de.row ∧ (sizeOf e).run P w = .ok ty.sz' w ∧ (typeInfo e).run P w = .ok i w ∧ i.size = ty.sz' ∧ (i.bytes : Int) = de.bytes ∧
      (∃ z, i.zero = some z ∧ zOkL (zero de.row) z.cells.toList = true) ∧ 0 < de.bytes := by
  unfold elemTy at he
  split at he
  · rename_i e hk
    split at he
    · rename_i de' hde
      simp only [Option.some.injEq, Prod.mk.injEq] at he
      obtain ⟨rfl, rfl⟩ := he
      obtain ⟨h1, _, _⟩ := (hD t td ht).slice hk w
      obtain ⟨i, h2, h3, h4, z, h5, h6, _⟩ := (hD e de' hde).run_info w
      have hs := (hD e de' hde).run_size w
      have hr := (hD e de' hde).row
      exact ⟨e, i, hk, h1, hde, rfl, by rw [hs, hr], h2, by rw [h3, hr], h4, ⟨z, h5, h6⟩, (hD e de' hde).pos⟩
    · simp at he
  · simp at he
theorem opInt_ok (h : Rep w S pl s a.tmps) {x : Option Operand} {i : Option Int} (hx : opInt s x = some i) : IsInt (x.map a.eval) i := by
  cases x with
  | none => simp [opInt] at hx; subst hx; trivial
  | some x =>
    have h1 := h.ev x
    simp only [opInt] at hx
    split at hx
    · rename_i k n hn
      obtain rfl := Option.some.inj hx
      rw [hn] at h1
      simp only [RepV, RepCell] at h1
      exact ⟨k, h1⟩
    · simp at hx
theorem op_sliceStr {t : TypeId} {x : Operand} {lo hi : Option Operand} {td : TD} {i j : Option Int} {b : ByteArray} (hD : Dok P D) (ho : o.op = .slice t x lo hi none) (h : Rep w S pl s a.tmps) (ht : D t = some td) (hk : td.k = .str)
    (hx : ev s x = .str b) (hlo : opInt s lo = some i) (hhi : opInt s hi = some j) (hok : ∀ c ∈ bounds b.size i j, c = true) : Quiet P o a w S pl s (.str (b.extract (loN i) (hiN b.size j))) := by
  have h1 := h.ev x
  rw [hx] at h1
  simp only [RepV, RepCell] at h1
  obtain ⟨hu, _⟩ := (hD t td ht).str hk w
  obtain ⟨hb, _, _⟩ := sliceBounds_ok (P := P) (w := w) (b := false) (opInt_ok h hlo) (opInt_ok h hhi) (Nat.le_refl b.size) hok
  exact ⟨.string (b.extract (loN i) (hiN b.size j)), by simp [execOp, ho, h1, Instr.sliceAt, hu, Instr.slice, hb], by simp [RepV, RepCell]⟩
theorem run_slice {t e : TypeId} {x : Operand} {lo hi : Option Operand} {A : Option Addr} {n cap z : Nat} {i j : Option Int} (ho : o.op = .slice t x lo hi none) (hu : (underlying t).run P w = .ok (.slice e) w) (hz : (sizeOf e).run P w = .ok z w)
    (hx : a.eval x = .slice A n cap) (hlo : IsInt (lo.map a.eval) i) (hhi : IsInt (hi.map a.eval) j) (hc : n ≤ cap) (hok : ∀ c ∈ bounds n i j, c = true) :
    (execOp a.eval o).run P w = .ok (.value (.slice (if cap = loN i then A else A.map (·.add (loN i * z))) (hiN n j - loN i) (cap - loN i))) w ∧ loN i ≤ hiN n j ∧ hiN n j ≤ n := by
  obtain ⟨hb, h1, h2⟩ := sliceBounds_ok (P := P) (w := w) (b := true) hlo hhi hc hok
  exact ⟨by simp [execOp, ho, hx, Instr.sliceAt, hu, Instr.slice, hb, hz], h1, h2⟩
theorem run_sliceC {t e : TypeId} {x : Operand} {lo hi : Option Operand} {A : Option Addr} {n mx cap z : Nat} {i j : Option Int} (ho : o.op = .slice t x lo hi none) (hu : (underlying t).run P w = .ok (.slice e) w) (hz : (sizeOf e).run P w = .ok z w)
    (hx : a.eval x = .slice A n cap) (hlo : IsInt (lo.map a.eval) i) (hhi : IsInt (hi.map a.eval) j) {m b : Int} (hc : n ≤ mx) (hm : mx ≤ cap) (hb0 : b = 0 → m ≤ (mx : Int)) (hok : ∀ c ∈ boundsC n m b i j, c = true) :
    (execOp a.eval o).run P w = .ok (.value (.slice (if cap = loN i then A else A.map (·.add (loN i * z))) (hiN n j - loN i) (cap - loN i))) w ∧ loN i ≤ hiN n j ∧ hiN n j ≤ mx := by
  obtain ⟨hb, h1, h2⟩ := sliceBoundsC_ok (P := P) (w := w) (b := true) hlo hhi hc hm hb0 hok
  exact ⟨by simp [execOp, ho, hx, Instr.sliceAt, hu, Instr.slice, hb, hz], h1, h2⟩
theorem op_slice3 {t : TypeId} {x hi mx : Operand} {lo : Option Operand} {td : TD} {q : Ty × TD} {i : Option Int} {k k' : IntKind} {h m n : Int} (hD : Dok P D) (ho : o.op = .slice t x lo (some hi) (some mx)) (hr : Rep w S pl s a.tmps) (ht : D t = some td) (he : elemTy D td = some q)
    (hlo : opInt s lo = some i) (hhi : ev s hi = .int k h) (hmx : ev s mx = .int k' m) (hn : lenOf s (ev s x) = some n) (h1 : 0 ≤ m ∧ m ≤ n) (h2 : 0 ≤ h ∧ h ≤ m) (h3 : 0 ≤ loI i ∧ loI i ≤ h) : Quiet P o a w S pl s .any := by
  obtain ⟨ty, de⟩ := q
  obtain ⟨e, _, _, hu, _, _, hz, _⟩ := elem_ok hD ht he w
  have g1 := hr.ev hi
  rw [hhi] at g1
  have g2 := hr.ev mx
  rw [hmx] at g2
  simp only [RepV, RepCell] at g1 g2
  obtain ⟨A, l, c, e1, e2, e3⟩ := len_cap hr (hr.ev x) hn
  have hb := sliceBounds3_ok (P := P) (w := w) (len := l) (cap := c) (k := k) (k' := k') (opInt_ok hr hlo) (by omega) h2 h3
  exact ⟨_, by simp [execOp, ho, e1, g1, g2, Instr.sliceAt, hu, Instr.slice, hb, hz]; rfl, by simp [RepV]⟩
theorem part_eq {α : Type} (l : List α) (i j : Option Int) : sliceV.part l i j = (l.take (hiN l.length j)).drop (loN i) := by
  cases i <;> cases j <;> simp [sliceV.part, hiN, loN]
theorem op_sliceL {t : TypeId} {x : Operand} {lo hi : Option Operand} {td de : TD} {ty : Ty} {i j : Option Int} (hD : Dok P D) (ho : o.op = .slice t x lo hi none) (h : Rep w S pl s a.tmps) (ht : D t = some td) (he : elemTy D td = some (ty, de))
    (hlo : opInt s lo = some i) (hhi : opInt s hi = some j) (hs : sliceV s ty (ev s x) i j = some (oks, v)) (hok : ∀ c ∈ oks, c = true) : Quiet P o a w S pl s v := by
  have h1 := h.ev x
  obtain ⟨e, _, _, hu, _, _, hz, _⟩ := elem_ok hD ht he w
  have hlo := opInt_ok h hlo
  have hhi := opInt_ok h hhi
  unfold sliceV at hs
  split at hs
  · rename_i t' l hx
    split at hs
    · rename_i e'
      subst e'
      simp only [Option.some.injEq, Prod.mk.injEq] at hs
      obtain ⟨rfl, rfl⟩ := hs
      rw [hx] at h1
      simp only [RepV, RepCell] at h1
      obtain ⟨A, cap, e1, hle, _⟩ := h1
      simp only [List.cons.injEq, and_true] at e1
      obtain ⟨g1, g2, g3⟩ := run_slice ho hu hz e1 hlo hhi hle hok
      refine ⟨_, g1, ?_⟩
      simp only [RepV, RepCell]
      rw [part_eq]
      have h1 := h.ev x
      rw [hx] at h1
      simp only [RepV, RepCell] at h1
      rw [e1] at h1
      exact RepC.part h1 g2 g3
    · simp at hs
  · rename_i t' l hx
    split at hs
    · rename_i e'
      subst e'
      simp only [Option.some.injEq, Prod.mk.injEq] at hs
      obtain ⟨rfl, rfl⟩ := hs
      rw [hx] at h1
      simp only [RepV, RepCell] at h1
      obtain ⟨A, cap, e1, hle, _⟩ := h1
      simp only [List.cons.injEq, and_true] at e1
      obtain ⟨g1, g2, g3⟩ := run_slice ho hu hz e1 hlo hhi hle hok
      refine ⟨_, g1, ?_⟩
      simp only [RepV, RepCell]
      rw [part_eq]
      have h1 := h.ev x
      rw [hx] at h1
      simp only [RepV, RepCell] at h1
      rw [e1] at h1
      exact RepC.part h1 g2 g3
    · simp at hs
  · rename_i r c hx
    rw [hx] at h1
    simp only [RepV, RepCell] at h1
    obtain ⟨hv, A, n, cap, e1⟩ := h1
    split at hs
    · rename_i w' hw
      split at hs
      · rename_i e'
        have hoR := (h.ownAt hw).2
        rw [← hv, e1] at hoR
        have hn : n = w'.l.length ∧ n ≤ cap := by
          rcases hoR with ⟨e2, hl⟩ | ⟨b, cap', _, _, _, e2, hle, _⟩
          · cases e2; simp [hl]
          · cases e2; exact ⟨rfl, hle⟩
        have key : ∀ (q : ∀ c ∈ bounds w'.l.length i j, c = true), Quiet P o a w S pl s (.sub r c (loI i) (hiI w'.l.length j)) := fun q => by
          rw [← hn.1] at q
          obtain ⟨g1, g2, g3⟩ := run_slice ho hu hz e1 hlo hhi hn.2 q
          obtain ⟨b1, b2⟩ := bounds_ok q
          have hl0 : 0 ≤ loI i ∧ (loI i).toNat = loN i := by
            cases i with
            | none => simp [loN, loI]
            | some a => exact ⟨(b1 a rfl).1, rfl⟩
          have hh0 : (hiI w'.l.length j).toNat = hiN n j ∧ 0 ≤ hiI w'.l.length j := by
            cases j with
            | none => simp [hiN, hiI, hn.1]
            | some b => exact ⟨rfl, (b2 b rfl).1⟩
          refine ⟨_, g1, ?_⟩
          simp only [RepV, RepCell]
          refine ⟨⟨_, _, _, rfl⟩, fun o' ho' => ?_⟩
          rw [hw] at ho'
          obtain rfl := Option.some.inj ho'
          refine ⟨A, n, cap, _, by rw [← hv, e1], hl0.1, by omega, by omega, by rw [hl0.2, hh0.1], fun hz0 => ?_, fun hlt => ?_⟩
          · have : loN i = 0 := by omega
            rw [this]
            split
            · rfl
            · simp [Addr.add]
          · rw [hl0.2, if_neg (by omega), e']
        split at hs
        · simp only [Option.some.injEq, Prod.mk.injEq] at hs
          obtain ⟨rfl, rfl⟩ := hs
          obtain ⟨g1, g2, g3⟩ := run_slice (i := none) (j := none) ho hu hz e1 hlo hhi hn.2 (by simp [bounds])
          have g4 : (if cap = loN none then A else A.map (·.add (loN none * ty.sz'))) = A := by
            split
            · rfl
            · simp [loN, Addr.add]
          rw [g4] at g1
          refine ⟨_, g1, ?_⟩
          simp only [RepV, RepCell]
          rw [← hv, e1]
          exact ⟨by simp [loN, hiN], _, _, _, rfl⟩
        · simp only [Option.some.injEq, Prod.mk.injEq] at hs
          obtain ⟨rfl, rfl⟩ := hs
          exact key hok
      · simp at hs
    · simp at hs
  · rename_i r c lo' hi' hx
    rw [hx] at h1
    simp only [RepV, RepCell] at h1
    split at hs
    · rename_i w' hw
      split at hs
      · rename_i e'
        obtain ⟨_, h1⟩ := h1
        obtain ⟨A0, n, cap, A, e1, e2, e3, e4, e5, e6, e7⟩ := h1 w' hw
        simp only [Option.some.injEq, Prod.mk.injEq] at hs
        obtain ⟨rfl, rfl⟩ := hs
        have hoR := (h.ownAt hw).2
        rw [e1] at hoR
        have hn : n = w'.l.length ∧ n ≤ cap := by
          rcases hoR with ⟨e2, hl⟩ | ⟨b, cap', _, _, _, e2, hle, _⟩
          · cases e2; simp [hl]
          · cases e2; exact ⟨rfl, hle⟩
        have hq : ((hi'.toNat - lo'.toNat : Nat) : Int) = hi' - lo' := by omega
        rw [← hq] at hok
        obtain ⟨g1, g2, g3⟩ := run_sliceC ho hu hz e5 hlo hhi (mx := w'.l.length - lo'.toNat) (by omega) (by omega) (by omega) hok
        obtain ⟨b1, b2⟩ := boundsC_ok hok
        have g4 : hiN (hi'.toNat - lo'.toNat) j ≤ hi'.toNat - lo'.toNat ∨ lo' = 0 := by
          cases j with
          | none => left; simp [hiN]
          | some b => rcases (b2 b rfl).2 with h' | h'
                      · left; simp only [hiN]; omega
                      · exact .inr h'.1
        have hl0 : loA lo' i = lo' + loN i := by
          cases i with
          | none => simp [loN, loA]
          | some a => have := (b1 a rfl).1; simp only [loN, loA]; omega
        have hh0 : hiA lo' hi' j = lo' + hiN (hi'.toNat - lo'.toNat) j := by
          cases j with
          | none => simp only [hiN, hiA]; omega
          | some a => have := (b2 a rfl).1; simp only [hiN, hiA]; omega
        refine ⟨_, g1, ?_⟩
        rw [hl0, hh0]
        simp only [RepV, RepCell]
        refine ⟨⟨_, _, _, rfl⟩, fun o' ho' => ?_⟩
        rw [hw] at ho'
        obtain rfl := Option.some.inj ho'
        have t1 : (lo' + (loN i : Int)).toNat = lo'.toNat + loN i := by omega
        have t2 : (lo' + (hiN (hi'.toNat - lo'.toNat) j : Int)).toNat = lo'.toNat + hiN (hi'.toNat - lo'.toNat) j := by omega
        refine ⟨A0, n, cap, _, e1, by omega, by omega, by omega, by rw [t1, t2]; congr 1 <;> omega, fun hz0 => ?_, fun hlt => ?_⟩
        · have h0 : loN i = 0 := by omega
          have h0' : lo' = 0 := by omega
          rw [h0, ← e6 h0']
          split
          · rfl
          · simp [Addr.add]
        · have hA : A = A0.map (·.add (lo'.toNat * w'.t.sz')) := by
            rcases g4 with g4 | g4
            · exact e7 (by omega)
            · rw [e6 g4, g4]
              cases A0 <;> simp [Addr.add]
          rw [if_neg (by omega), hA, t1, e', Nat.add_mul]
          cases A0 with
          | none => rfl
          | some q =>
            simp only [Option.map_some, Option.some.injEq]
            unfold Addr.add
            split <;> split <;> split <;> simp_all <;> omega
      · simp at hs
    · simp at hs
  · rename_i hx
    simp only [Option.some.injEq, Prod.mk.injEq] at hs
    obtain ⟨rfl, rfl⟩ := hs
    rw [hx] at h1
    simp only [RepV, RepCell] at h1
    obtain ⟨g1, g2, g3⟩ := run_slice (n := 0) ho hu hz h1 hlo hhi (Nat.le_refl 0) hok
    refine ⟨_, g1, ?_⟩
    simp only [RepV, RepCell]
    have : loN i = 0 := by omega
    rw [this]
    simp
    omega
  · simp at hs
end
end Go.Ab
namespace Go.Ab
open Go.RowKit
set_option linter.unusedVariables false
set_option linter.unusedSimpArgs false
section
variable {P : Program} {D : TypeId → Option TD} {w : World} {S : Fl → Cset} {pl : Pl} {s s' : St} {a : Act} {o : Oper} {d : Nat} {oks : List Bool} {v : PV}
theorem run_indexL {t e : TypeId} {x i : Operand} {A : Addr} {k : IntKind} {n cap z : Nat} {m : Int} (ho : o.op = .indexAddr t x i) (hu : (underlying t).run P w = .ok (.slice e) w) (hz : (sizeOf e).run P w = .ok z w)
    (hx : a.eval x = .slice (some A) n cap) (hi : a.eval i = .int k m) (h0 : 0 ≤ m) (h1 : m < n) : (execOp a.eval o).run P w = .ok (.value (.pointer (some (A.add (m.toNat * z))))) w := by
  simp [execOp, ho, hx, hi, Instr.indexAt, asIntOf, hu, h0, h1, hz]
theorem run_indexA {t e : TypeId} {x i : Operand} {A : Addr} {k : IntKind} {n z : Nat} {m : Int} (ho : o.op = .indexAddr t x i) (hu : (underlying t).run P w = .ok (.array n e) w) (hz : (sizeOf e).run P w = .ok z w)
    (hx : a.eval x = .pointer (some A)) (hi : a.eval i = .int k m) (h0 : 0 ≤ m) (h1 : m < n) : (execOp a.eval o).run P w = .ok (.value (.pointer (some (A.add (m.toNat * z))))) w := by
  simp [execOp, ho, hx, hi, Instr.indexAt, asIntOf, hu, h0, h1, hz, Instr.sureAddr]
theorem op_indexI {t : TypeId} {x i : Operand} {f : Fl} {ty : Ty} {l : List ty.val} {k : IntKind} {m : Int} {td de : TD} (hD : Dok P D) (ho : o.op = .indexAddr t x i) (h : Rep w S pl s a.tmps) (ht : D t = some td) (he : elemTy D td = some (ty, de))
    (hx : ev s x = .sl f ty l) (hi : ev s i = .int k m) (h0 : 0 ≤ m) (h1 : m < l.length) : Quiet P o a w S pl s (.iptr f ty l m 0) := by
  have hx1 := h.ev x
  have hi1 := h.ev i
  rw [hx] at hx1
  rw [hi] at hi1
  simp only [RepV, RepCell] at hi1
  obtain ⟨e, _, _, hu, _, _, hz, _⟩ := elem_ok hD ht he w
  have hlt : m.toNat < l.length := by omega
  have key : ∀ g, (g = .imm ∨ g = .bor) → RepC w (S g) (.slice ty) l [a.eval x] → Quiet P o a w S pl s (.iptr g ty l m 0) := fun g hg q => by
    obtain ⟨A, cap, e1, hle, q⟩ := q
    simp only [List.cons.injEq, and_true] at e1
    obtain ⟨a0, rfl, hs, q⟩ := q (by intro e; subst e; simp at hlt)
    obtain ⟨row, r1, r2, r3⟩ := q m.toNat _ (List.getElem?_eq_getElem hlt)
    refine ⟨_, run_indexL ho hu hz e1 hi1 h0 h1, ?_⟩
    simp only [RepV, RepCell]
    refine ⟨hg, _, h0, List.getElem?_eq_getElem hlt, at_ a0.block (a0.off + m.toNat * ty.sz'), row, ?_, r1, r2, r3⟩
    congr 2
    unfold Addr.add at_
    split
    · rename_i hz; rw [hz]; cases a0; simp at hs; subst hs; rfl
    · rfl
  cases f <;> simp only [RepV, RepCell] at hx1
  · exact key .imm (.inl rfl) hx1
  · exact key .bor (.inr rfl) hx1
theorem op_indexV {t : TypeId} {x i : Operand} {r c : Nat} {w' : Row} {k : IntKind} {m : Int} {td de : TD} (hD : Dok P D) (ho : o.op = .indexAddr t x i) (h : Rep w S pl s a.tmps) (ht : D t = some td) (he : elemTy D td = some (w'.t, de))
    (hx : ev s x = .view r c) (hw : rowAt s r c = some w') (hi : ev s i = .int k m) (h0 : 0 ≤ m) (h1 : m < w'.l.length) : Quiet P o a w S pl s (.eptr r c m 0) := by
  have hx1 := h.ev x
  have hi1 := h.ev i
  rw [hx] at hx1
  rw [hi] at hi1
  simp only [RepV, RepCell] at hx1 hi1
  obtain ⟨e, _, _, hu, _, _, hz, _⟩ := elem_ok hD ht he w
  obtain ⟨hv, _⟩ := hx1
  have hoR := (h.ownAt hw).2
  rcases hoR with ⟨e2, hl⟩ | ⟨b, cap, _, _, _, e2, hle, _⟩
  · rw [hl] at h1; simp at h1; omega
  · rw [e2] at hv
    refine ⟨_, run_indexL ho hu hz hv hi1 h0 h1, ?_⟩
    simp only [RepV, RepCell]
    refine ⟨⟨_, rfl⟩, fun o' ho' => ?_⟩
    rw [hw] at ho'
    obtain rfl := Option.some.inj ho'
    exact ⟨h0, h1, b, _, cap, e2, by rw [at_add]; simp⟩
theorem op_indexS {t : TypeId} {x i : Operand} {r c : Nat} {lo hi : Int} {w' : Row} {k : IntKind} {m : Int} {td de : TD} (hD : Dok P D) (ho : o.op = .indexAddr t x i) (h : Rep w S pl s a.tmps) (ht : D t = some td) (he : elemTy D td = some (w'.t, de))
    (hx : ev s x = .sub r c lo hi) (hw : rowAt s r c = some w') (hi' : ev s i = .int k m) (h0 : 0 ≤ m) (h1 : m < hi - lo) : Quiet P o a w S pl s (.eptr r c (lo + m) 0) := by
  have hx1 := h.ev x
  have hi1 := h.ev i
  rw [hx] at hx1
  rw [hi'] at hi1
  simp only [RepV, RepCell] at hx1 hi1
  obtain ⟨e, _, _, hu, _, _, hz, _⟩ := elem_ok hD ht he w
  obtain ⟨_, hx1⟩ := hx1
  obtain ⟨A0, n, cap, A, e1, e2, e3, e4, e5, e6, e7⟩ := hx1 w' hw
  have hoR := (h.ownAt hw).2
  rw [e1] at hoR
  rcases hoR with ⟨e8, hl⟩ | ⟨b, cap', _, _, _, e8, hle, _⟩
  · rw [hl] at e4; simp at e4; omega
  · cases e8
    have hA := e7 (by omega)
    simp only [Option.map_some] at hA
    rw [hA, at_add] at e5
    refine ⟨_, run_indexL ho hu hz e5 hi1 h0 (by omega), ?_⟩
    simp only [RepV, RepCell]
    refine ⟨⟨_, rfl⟩, fun o' ho' => ?_⟩
    rw [hw] at ho'
    obtain rfl := Option.some.inj ho'
    refine ⟨by omega, by omega, b, _, _, e1, ?_⟩
    rw [at_add]
    congr 3
    rw [show (lo + m).toNat = lo.toNat + m.toNat by omega, Nat.add_mul]
    omega
theorem op_indexC {t e : TypeId} {x i : Operand} {r c n : Nat} {k : IntKind} {m : Int} {td te : TD} (hD : Dok P D) (ho : o.op = .indexAddr t x i) (h : Rep w S pl s a.tmps) (ht : D t = some td) (hk : td.k = .arr n e) (hte : D e = some te)
    (hx : ev s x = .ptr r c) (hi : ev s i = .int k m) (h0 : 0 ≤ m) (h1 : m.toNat < n) : Quiet P o a w S pl s (.ptr r (c + m.toNat * te.sz)) := by
  have hx1 := h.ev x
  have hi1 := h.ev i
  rw [hx] at hx1
  rw [hi] at hi1
  simp only [RepV, RepCell] at hx1 hi1
  obtain ⟨b, q, hm, e1⟩ := hx1
  refine ⟨_, run_indexA ho ((hD t td ht).arr hk w).1 ((hD e te hte).run_size w) e1 hi1 h0 (by omega), ?_⟩
  simp only [RepV, RepCell]
  exact ⟨b, q, hm, by rw [at_add, Nat.add_assoc]⟩
theorem op_indexX {t e : TypeId} {x i : Operand} {r c n : Nat} {k : IntKind} {m : Int} {td te : TD} (hD : Dok P D) (ho : o.op = .indexAddr t x i) (h : Rep w S pl s a.tmps) (ht : D t = some td) (hk : td.k = .arr n e) (hte : D e = some te)
    (hx : ev s x = .ptr r c) (hi : ev s i = .int k m) (h0 : 0 ≤ m) (h1 : m < n) : Quiet P o a w S pl s (.aptr r c n te.sz m) := by
  have hx1 := h.ev x
  have hi1 := h.ev i
  rw [hx] at hx1
  rw [hi] at hi1
  simp only [RepV, RepCell] at hx1 hi1
  obtain ⟨b, q, hm, e1⟩ := hx1
  refine ⟨_, run_indexA ho ((hD t td ht).arr hk w).1 ((hD e te hte).run_size w) e1 hi1 h0 h1, ?_⟩
  simp only [RepV, RepCell]
  exact ⟨b, q, hm, h0, h1, by rw [at_add]⟩
theorem op_convInt {t t' : TypeId} {x : Operand} {k k' : IntKind} {n : Int} {td td' : TD} (hD : Dok P D) (ho : o.op = .convert t t' x) (h : Rep w S pl s a.tmps) (ht : D t = some td) (ht' : D t' = some td') (hk : td'.k = .int k) (hx : ev s x = .int k' n) :
    Quiet P o a w S pl s (.int k (wr k n)) := by
  have h1 := h.ev x
  rw [hx] at h1
  simp only [RepV, RepCell] at h1
  obtain ⟨u, hu, _⟩ := (hD t td ht).run_und w
  obtain ⟨hu', _⟩ := (hD t' td' ht').int hk w
  exact ⟨.int k (k.wrap n), by simp [execOp, ho, h1, convert, hu, hu', Conv.intToInt], by simp [RepV, RepCell, wr_eq]⟩
theorem op_convStr {t t' : TypeId} {x : Operand} {b : ByteArray} {td td' : TD} (hD : Dok P D) (ho : o.op = .convert t t' x) (h : Rep w S pl s a.tmps) (ht : D t = some td) (ht' : D t' = some td') (hk : td'.k = .str) (hx : ev s x = .str b) :
    Quiet P o a w S pl s (.str b) := by
  have h1 := h.ev x
  rw [hx] at h1
  simp only [RepV, RepCell] at h1
  obtain ⟨u, hu, _⟩ := (hD t td ht).run_und w
  obtain ⟨hu', _⟩ := (hD t' td' ht').str hk w
  exact ⟨.string b, by simp [execOp, ho, h1, convert, hu, hu'], by simp [RepV, RepCell]⟩
theorem op_min {x y : Operand} {ts : Array TypeId} {k k' : IntKind} {m n : Int} (ho : o.op = .call ⟨.builtin .min, #[x, y], ts⟩) (h : Rep w S pl s a.tmps) (hx : ev s x = .int k m) (hy : ev s y = .int k' n) :
    Quiet P o a w S pl s (.int k (cond (decide (n < m)) n m)) := by
  have h1 := h.ev x
  have h2 := h.ev y
  rw [hx] at h1
  rw [hy] at h2
  simp only [RepV, RepCell] at h1 h2
  refine ⟨.int k (if n < m then n else m), by simp [execOp, ho, resolve, invoke, builtin, Builtin.min_, Builtin.min2, h1, h2], ?_⟩
  simp only [RepV, RepCell]
  by_cases hc : n < m <;> simp [hc]
theorem op_max {x y : Operand} {ts : Array TypeId} {k k' : IntKind} {m n : Int} (ho : o.op = .call ⟨.builtin .max, #[x, y], ts⟩) (h : Rep w S pl s a.tmps) (hx : ev s x = .int k m) (hy : ev s y = .int k' n) :
    Quiet P o a w S pl s (.int k (cond (decide (n > m)) n m)) := by
  have h1 := h.ev x
  have h2 := h.ev y
  rw [hx] at h1
  rw [hy] at h2
  simp only [RepV, RepCell] at h1 h2
  refine ⟨.int k (if n > m then n else m), by simp [execOp, ho, resolve, invoke, builtin, Builtin.max_, Builtin.max2, h1, h2], ?_⟩
  simp only [RepV, RepCell]
  by_cases hc : m < n <;> simp [hc]
theorem op_func {f : FuncId} {first caps : Array Operand} (ho : o.op = .makeFunc (.func f) first caps) (h : Rep w S pl s a.tmps) (hf : first.size = 0) : Quiet P o a w S pl s (.clo f (caps.toList.map (ev s))) := by
  refine ⟨.func (.func f) (first.map a.eval) (caps.map a.eval), by simp [execOp, ho, Instr.makeFunc], ?_⟩
  obtain rfl : first = #[] := by simpa using hf
  simp only [RepV]
  refine ⟨caps.map a.eval, by simp, ?_⟩
  refine RepL.of (by simp) fun i u hu => ?_
  simp at hu
  obtain ⟨x, hx, rfl⟩ := hu
  have hi : i < caps.size := (Array.getElem?_eq_some_iff.1 hx).1
  rw [gt_get _ _ (by simpa using hi)]
  simp
  rw [(Array.getElem?_eq_some_iff.1 hx).2]
  exact h.ev x
end
end Go.Ab
namespace Go.Ab
open Go.RowKit
set_option linter.unusedVariables false
set_option linter.unusedSimpArgs false
section
variable {P : Program} {w w' : World} {S : Fl → Cset} {pl : Pl} {s s' : St}
theorem gr_scrR (kill : Nat → Nat → Bool) (gone : Nat → Bool) (l : List (List PV)) (r : Nat) : gr (scrR kill gone l) r = scrL kill gone (gr l r) := by
  induction l generalizing r with
  | nil => simp [scrR, gr, scrL]
  | cons x l ih => cases r with
    | zero => simp [scrR, gr]
    | succ r => simp [scrR, gr, ih]
theorem scrR_len (kill : Nat → Nat → Bool) (gone : Nat → Bool) (l : List (List PV)) : (scrR kill gone l).length = l.length := by
  induction l with
  | nil => simp [scrR]
  | cons x l ih => simp [scrR, ih]
theorem rowOf_scr (kill : Nat → Nat → Bool) (gone : Nat → Bool) (p : PV) : rowOf (scrV kill gone p) = rowOf p := by
  cases p <;> simp only [scrV] <;> first | rfl | (simp only [rowOf]; done) | (cases kill _ _ <;> rfl) | (cases gone _ <;> rfl)
theorem rowAt_scr (kill : Nat → Nat → Bool) (gone : Nat → Bool) (s : St) (r c : Nat) : rowAt (scr kill gone s) r c = rowAt s r c := by
  unfold rowAt scr
  simp only [gr_scrR, scrL_gt, rowOf_scr]
theorem RepV.state (hr : ∀ r c, rowAt s' r c = rowAt s r c) {p : PV} {v : Value} (h : RepV w S s pl p v) : RepV w S s' pl p v :=
  RepV.keep (K := fun _ _ => True) (M := fun _ => True) ⟨fun _ _ _ _ _ _ h => h, fun _ _ _ _ h => h, fun _ _ _ => rfl, fun r c o' _ ho => ⟨o', by rw [← hr]; exact ho, rfl, rfl⟩, fun _ _ => rfl⟩ (okV.all (fun _ _ => trivial) (fun _ => trivial) p) h
theorem rng_of (hr : ∀ r c, rowAt s' r c = rowAt s r c) (hl : ∀ r, (gr s'.r r).length = (gr s.r r).length) (r : Nat) (j : Option Nat) (b x : Nat) : rng s' pl r j b x ↔ rng s pl r j b x := by
  cases j <;> simp [rng, hr, hl]
theorem owned_of (hr : ∀ r c, rowAt s' r c = rowAt s r c) (hl : ∀ r, (gr s'.r r).length = (gr s.r r).length) (b x : Nat) : owned s' pl b x ↔ owned s pl b x := by
  simp only [owned, rng_of hr hl]
theorem Rep.scr {a : Array Value} (h : Rep w S pl s a) (kill : Nat → Nat → Bool) (gone : Nat → Bool) : Rep w S pl (scr kill gone s) a := by
  have hr := rowAt_scr kill gone s
  have hl : ∀ r, (gr (Go.Ab.scr kill gone s).r r).length = (gr s.r r).length := fun r => by simp [Go.Ab.scr, gr_scrR, scrL_len]
  refine ⟨by simp [Go.Ab.scr, scrL_len, h.len], fun i => ?_, fun r j hj => ?_, fun r b o j hm hj => h.mem r b o j hm (by rw [← hl]; exact hj), fun r j r' j' b x h1 h2 => h.disj r j r' j' b x ((rng_of hr hl _ _ _ _).1 h1) ((rng_of hr hl _ _ _ _).1 h2), fun b x hb => fun ho => h.apart b x hb ((owned_of hr hl b x).1 ho), h.sub, h.live, h.stat⟩
  · simp only [Go.Ab.scr, scrL_gt]
    exact RepV.state (s' := Go.Ab.scr kill gone s) hr (RepV.scr (h.slots i))
  · have h1 := h.roots r j (by rw [← hl]; exact hj)
    refine ⟨?_, h1.2⟩
    have h1 := h1.1
    unfold RepRoot at *
    simp only [Go.Ab.scr, gr_scrR, scrL_gt, rowOf_scr]
    split at h1
    · exact h1
    · exact RepV.state (s' := Go.Ab.scr kill gone s) hr (RepV.scr h1)
structure okS (K : Nat → Nat → Prop) (M : Nat → Prop) (s : St) : Prop where
  t : ∀ i, okV K M (gt s.t i)
  r : ∀ r j, okV K M (gt (gr s.r r) j)
theorem okL_gt {K : Nat → Nat → Prop} {M : Nat → Prop} : ∀ {l : List PV}, okL K M l → ∀ i, okV K M (gt l i)
  | [], _, i => by simp [gt, okV]
  | p :: l, h, 0 => by simp only [okL] at h; exact h.1
  | p :: l, h, i + 1 => by simp only [okL] at h; simpa [gt] using okL_gt h.2 i
theorem scr_okS {kill : Nat → Nat → Bool} {gone : Nat → Bool} {K : Nat → Nat → Prop} {M : Nat → Prop} (hK : ∀ r c, kill r c = false → K r c) (hM : ∀ r, gone r = false → M r) (s : St) : okS K M (scr kill gone s) :=
  ⟨fun i => okL_gt (scrL_ok hK hM s.t) i, fun r j => by simp only [scr, gr_scrR]; exact okL_gt (scrL_ok hK hM _) j⟩
theorem OwnRow.keep {t : Ty} {l : List t.val} {v : Value} {S S' O : Cset} (h : OwnRow w S t l v) (fr : Fr O w w') (hO : ∀ b x, rowRange t v b x → ¬ O b x)
    (hc : ∀ b o u, S b o → w.cell? (at_ b o) = some u → w'.cell? (at_ b o) = some u) (hS : ∀ b o, S b o → S' b o) : OwnRow w' S' t l v := by
  rcases h with h | ⟨b, cap, c, e, fz, rfl, hle, hh, hsz, hfz, hrow⟩
  · exact .inl h
  · obtain ⟨a', ha', hs⟩ := fr.obj b _ hh
    have hin : ∀ x, x < cap * t.sz' → ¬ O b x := fun x hx => hO b x ⟨_, _, _, rfl, rfl, hx⟩
    have key : ∃ c', a' = .cells c' e fz ∧ c'.size = c.size ∧ ∀ x, x < cap * t.sz' → c'[x]? = c[x]? := by
      rcases hs with rfl | ⟨c1, c2, e', f', h1, rfl, h3, h4⟩
      · exact ⟨c, rfl, rfl, fun _ _ => rfl⟩
      · cases h1
        exact ⟨c2, rfl, h3.symm, fun x hx => (h4 x (hin x hx)).symm⟩
    obtain ⟨c', rfl, hsz', hc'⟩ := key
    refine .inr ⟨b, cap, c', e, fz, rfl, hle, ha', by omega, hfz, fun i x hx => ?_⟩
    obtain ⟨row, r1, r2, r3⟩ := hrow i x hx
    refine ⟨row, r1, fun j u hu => ?_, RepC.mono hc hS r3⟩
    have hi : i < l.length := (List.getElem?_eq_some_iff.1 hx).1
    have hj : j < t.sz' := by rw [← r1]; exact (List.getElem?_eq_some_iff.1 hu).1
    have : i * t.sz' + j < cap * t.sz' := by
      have : (i + 1) * t.sz' ≤ cap * t.sz' := Nat.mul_le_mul_right _ (by omega)
      rw [Nat.add_mul] at this
      omega
    rw [hc' _ this]
    exact r2 j u hu
def Pl.set (pl : Pl) (d : Nat) (m : Option (Nat × Nat)) (g : Nat → Value) : Pl :=
  ⟨fun r => if r = d then m else pl.mem r, fun r j => if r = d then g j else pl.hv r j⟩
def newRngF (m : Option (Nat × Nat)) (cs : List PV) (g : Nat → Value) : Option Nat → Nat → Nat → Prop
  | none, b, x => ∃ o, m = some (b, o) ∧ o ≤ x ∧ x < o + cs.length
  | some j, b, x => ∃ o, rowOf (gt cs j) = some o ∧ rowRange o.t (g j) b x
abbrev newRng (m : Option (Nat × Nat)) (cs : List PV) (vs : List Value) : Option Nat → Nat → Nat → Prop := newRngF m cs fun j => vs.getD j undef
theorem Rep.setRoot {a : Array Value} (h : Rep w S pl s a) {d : Nat} {cs : List PV} {g : Nat → Value} {m : Option (Nat × Nat)} (Kd : Nat → Prop) (Md : Prop)
    (hKd : ∀ c, Kd c → g c = pl.hv d c ∧ ∀ o', rowOf (gt cs c) = some o' → ∃ o, rowAt s d c = some o ∧ o.t = o'.t ∧ o.l.length = o'.l.length) (hMd : Md → m = pl.mem d)
    (hs : okS (fun r c => r ≠ d ∨ Kd c) (fun r => r ≠ d ∨ Md) s) (hc : ∀ j, okV (fun r c => r ≠ d ∨ Kd c) (fun r => r ≠ d ∨ Md) (gt cs j))
    (fr : Fr (fun b x => ∃ j, rng s pl d j b x) w w')
    (hrow : ∀ j, j < cs.length → (match rowOf (gt cs j) with
      | some o => OwnRow w' (S .imm) o.t o.l (g j)
      | none => RepV w S s pl (gt cs j) (g j)) ∧ (g j).oneCell' = true)
    (hm : ∀ b o j, m = some (b, o) → j < cs.length → w'.cell? (at_ b (o + j)) = some (g j) ∧ w'.frozen? (at_ b (o + j)) = false)
    (hd1 : ∀ u u' b x, newRngF m cs g u b x → newRngF m cs g u' b x → u = u')
    (hd2 : ∀ u b x, newRngF m cs g u b x → (∀ r j, r ≠ d → ¬ rng s pl r j b x) ∧ ¬ S .bor b x) :
    Rep w' S (pl.set d m g) ⟨s.t, pr s.r d cs⟩ a := by
  have hcell : ∀ f, f = .imm ∨ f = .bor → ∀ b o v, S f b o → w.cell? (at_ b o) = some v → w'.cell? (at_ b o) = some v := fun f hf b o v hS hv => by
    have hb : S .bor b o := by rcases hf with rfl | rfl; exact h.sub _ _ hS; exact hS
    refine fr.cell (fun hO => ?_) hv
    obtain ⟨j, hj⟩ := hO
    exact h.apart b o hb ⟨d, j, hj⟩
  have hrne : ∀ r c, r ≠ d → rowAt (⟨s.t, pr s.r d cs⟩ : St) r c = rowAt s r c := fun r c hr => by simp [rowAt, gr_pr, hr]
  have hgne : ∀ r, r ≠ d → gr (pr s.r d cs) r = gr s.r r := fun r hr => by simp [gr_pr, hr]
  have hgd : gr (pr s.r d cs) d = cs ∨ gr (pr s.r d cs) d = [] := by
    rw [gr_pr]
    by_cases hl : d < s.r.length
    · simp [hl]
    · simp [hl]; right; exact gr_big _ _ (by omega)
  have kept : Kept w w' S S s ⟨s.t, pr s.r d cs⟩ pl (pl.set d m g) (fun r c => r ≠ d ∨ Kd c) (fun r => r ≠ d ∨ Md) := by
    refine ⟨hcell, fun _ _ _ _ h => h, fun r c hr => ?_, fun r c o' hr ho => ?_, fun r hr => ?_⟩
    · by_cases e : r = d
      · subst e
        simp only [Pl.set, if_true]
        exact (hKd c (hr.resolve_left (fun h => h rfl))).1
      · simp [Pl.set, e]
    · by_cases e : r = d
      · subst e
        simp only [rowAt] at ho
        rcases hgd with e | e
        · rw [e] at ho
          exact (hKd c (hr.resolve_left (fun h => h rfl))).2 o' ho
        · rw [e] at ho
          simp [gt, rowOf] at ho
      · exact ⟨o', by rw [← hrne r c e]; exact ho, rfl, rfl⟩
    · by_cases e : r = d
      · subst e
        simp only [Pl.set, if_true]
        exact hMd (hr.resolve_left (fun h => h rfl))
      · simp [Pl.set, e]
  have hrng : ∀ r j b x, r ≠ d → (rng ⟨s.t, pr s.r d cs⟩ (pl.set d m g) r j b x ↔ rng s pl r j b x) := fun r j b x hr => by
    cases j with
    | none => simp only [rng, Pl.set, if_neg hr, hgne r hr]
    | some j => simp only [rng, Pl.set, if_neg hr, hrne r j hr]
  have hrngd : ∀ j b x, rng ⟨s.t, pr s.r d cs⟩ (pl.set d m g) d j b x → newRngF m cs g j b x := fun j b x hj => by
    cases j with
    | none =>
      simp only [rng, Pl.set, if_true, newRngF] at *
      obtain ⟨o, h1, h2, h3⟩ := hj
      refine ⟨o, h1, h2, ?_⟩
      rcases hgd with e | e
      · rw [e] at h3; exact h3
      · rw [e] at h3; simp at h3; omega
    | some j =>
      simp only [rng, Pl.set, if_true, newRngF, rowAt] at *
      rcases hgd with e | e
      · rw [e] at hj; exact hj
      · rw [e] at hj; simp [gt, rowOf] at hj
  refine ⟨h.len, fun i => RepV.keep kept (hs.t i) (h.slots i), fun r j hj => ?_, fun r b o j hmr hj => ?_, fun r j r' j' b x h1 h2 => ?_, fun b x hS => ?_, h.sub, fun b x hS => Nat.lt_of_lt_of_le (h.live b x hS) fr.size, h.stat.step fr (fun b x ⟨j, hj⟩ hS => h.apart b x (h.sub _ _ hS) ⟨d, j, hj⟩) (fun _ _ h => h)⟩
  · by_cases hr : r = d
    · subst hr
      rcases hgd with e | e
      · simp only [e] at hj ⊢
        obtain ⟨h1, h2⟩ := hrow j hj
        refine ⟨?_, by simpa [Pl.set] using h2⟩
        have e' : (pl.set r m g).hv r j = g j := by simp [Pl.set]
        unfold RepRoot
        rw [e']
        cases hro : rowOf (gt cs j) with
        | some o => rw [hro] at h1; exact h1
        | none => rw [hro] at h1; exact RepV.keep kept (hc j) h1
      · simp only [e] at hj; simp at hj
    · simp only [hgne r hr] at hj ⊢
      obtain ⟨h1, h2⟩ := h.roots r j hj
      refine ⟨?_, by simpa [Pl.set, hr] using h2⟩
      have e' : (pl.set d m g).hv r j = pl.hv r j := by simp [Pl.set, hr]
      unfold RepRoot at *
      rw [e']
      split at h1
      · rename_i o' ho'
        refine OwnRow.keep h1 fr (fun b x hx hO => ?_) (hcell .imm (.inl rfl)) (fun _ _ h => h)
        obtain ⟨j', hj'⟩ := hO
        exact hr (h.disj r (some j) d j' b x ⟨o', ho', hx⟩ hj').1
      · exact RepV.keep kept (hs.r r j) h1
  · by_cases hr : r = d
    · subst hr
      simp only [Pl.set, if_true] at hmr ⊢
      rcases hgd with e | e
      · simp only [e] at hj
        exact hm b o j hmr hj
      · simp only [e] at hj; simp at hj
    · simp only [Pl.set, if_neg hr, hgne r hr] at hmr hj ⊢
      obtain ⟨h1, h2⟩ := h.mem r b o j hmr hj
      have hn : ¬ ∃ j', rng s pl d j' b (o + j) := fun ⟨j', hj'⟩ => hr (h.disj r none d j' b (o + j) ⟨o, hmr, by omega, by omega⟩ hj').1
      refine ⟨fr.cell hn h1, ?_⟩
      have hb : b < w.heap.size := by
        unfold World.cell? at_ at h1
        simp only at h1
        split at h1
        · rename_i hh; exact (Array.getElem?_eq_some_iff.1 hh).1
        · simp at h1
      rw [fr.frozen (a := at_ b (o + j)) hb]
      exact h2
  · by_cases hr : r = d
    · by_cases hr' : r' = d
      · subst hr; subst hr'
        exact ⟨rfl, hd1 j j' b x (hrngd j b x h1) (hrngd j' b x h2)⟩
      · subst hr
        exact absurd ((hrng r' j' b x hr').1 h2) ((hd2 j b x (hrngd j b x h1)).1 r' j' hr')
    · by_cases hr' : r' = d
      · subst hr'
        exact absurd ((hrng r j b x hr).1 h1) ((hd2 j' b x (hrngd j' b x h2)).1 r j hr)
      · exact h.disj r j r' j' b x ((hrng r j b x hr).1 h1) ((hrng r' j' b x hr').1 h2)
  · rintro ⟨r, j, hj⟩
    by_cases hr : r = d
    · subst hr
      exact (hd2 j b x (hrngd j b x hj)).2 hS
    · exact h.apart b x hS ⟨r, j, (hrng r j b x hr).1 hj⟩
end
end Go.Ab
namespace Go.Ab
open Go.RowKit
set_option linter.unusedVariables false
set_option linter.unusedSimpArgs false
section
variable {P : Program} {w w' : World} {S : Fl → Cset} {pl : Pl} {s s' : St}
theorem RepRoot.turn {S' : Fl → Cset} {pl' : Pl} {p : PV} {v : Value} (h : RepRoot w S s pl p v) (h1 : ∀ o, rowOf p = some o → OwnRow w (S .imm) o.t o.l v → OwnRow w' (S' .imm) o.t o.l v) (h2 : RepV w S s pl p v → RepV w' S' s' pl' p v) : RepRoot w' S' s' pl' p v := by
  unfold RepRoot at *
  cases hr : rowOf p with
  | some o => rw [hr] at h; exact h1 o hr h
  | none => rw [hr] at h; exact h2 h
theorem RepRoot.state {p : PV} {v : Value} (h : RepRoot w S s pl p v) (h2 : RepV w S s pl p v → RepV w S s' pl p v) : RepRoot w S s' pl p v := h.turn (fun _ _ h => h) h2
theorem Rep.setT {a : Act} (h : Rep w S pl s a.tmps) {o : Oper} {v : PV} {x : Value} (hv : RepV w S s pl v x) : Rep w S pl (setT s o v) (a.put o.dst x).tmps := by
  unfold Go.Ab.setT Act.put
  cases o.dst with
  | none => exact h
  | some d =>
    have hr : ∀ r c, rowAt (⟨pt s.t d v, s.r⟩ : St) r c = rowAt s r c := fun _ _ => rfl
    refine ⟨by simp [pt_len, h.len], fun i => ?_, fun r j hj => ?_, h.mem, fun r j r' j' b x h1 h2 => h.disj r j r' j' b x ((rng_of hr (fun _ => rfl) _ _ _ _).1 h1) ((rng_of hr (fun _ => rfl) _ _ _ _).1 h2), fun b x hb ho => h.apart b x hb ((owned_of hr (fun _ => rfl) b x).1 ho), h.sub, h.live, h.stat⟩
    · simp only [gt_pt]
      by_cases hi : i = d ∧ d < s.t.length
      · obtain ⟨rfl, hd⟩ := hi
        rw [if_pos ⟨rfl, hd⟩]
        have : (a.tmps.setIfInBounds i x).getD i undef = x := by
          rw [h.len] at hd
          simp [Array.getD, hd]
        rw [this]
        exact RepV.state hr hv
      · rw [if_neg hi]
        have : (a.tmps.setIfInBounds d x).getD i undef = a.tmps.getD i undef := by
          rw [h.len] at hi
          by_cases hid : i = d
          · subst hid
            have : ¬ i < a.tmps.size := fun h => hi ⟨rfl, h⟩
            simp [Array.getD, this]
          · rw [Array.getD_eq_getD_getElem?, Array.getD_eq_getD_getElem?, Array.getElem?_setIfInBounds_ne (by omega)]
        rw [this]
        exact RepV.state hr (h.slots i)
    · have h1 := h.roots r j hj
      exact ⟨h1.1.state (RepV.state hr), h1.2⟩
structure Fewer (s s' : St) : Prop where
  t : s'.t = s.t
  row : ∀ r c o, rowAt s' r c = some o → rowAt s r c = some o
  len : ∀ r, (gr s'.r r).length = (gr s.r r).length
theorem Fewer.refl (s : St) : Fewer s s := ⟨rfl, fun _ _ _ h => h, fun _ => rfl⟩
theorem Fewer.trans {s1 s2 s3 : St} (h : Fewer s1 s2) (k : Fewer s2 s3) : Fewer s1 s3 := ⟨k.t.trans h.t, fun r c o ho => h.row r c o (k.row r c o ho), fun r => (k.len r).trans (h.len r)⟩
theorem Fewer.rng (f : Fewer s s') {r : Nat} {j : Option Nat} {b x : Nat} (h : rng s' pl r j b x) : rng s pl r j b x := by
  cases j with
  | none => simpa [Go.Ab.rng, f.len] using h
  | some j => obtain ⟨o, h1, h2⟩ := h; exact ⟨o, f.row _ _ _ h1, h2⟩
theorem Fewer.owned (f : Fewer s s') {b x : Nat} (h : owned s' pl b x) : owned s pl b x := by
  obtain ⟨r, j, h⟩ := h
  exact ⟨r, j, f.rng h⟩
theorem Fewer.repV (f : Fewer s s') {p : PV} {v : Value} (h : RepV w S s pl p v) : RepV w S s' pl p v :=
  RepV.keep (K := fun _ _ => True) (M := fun _ => True) ⟨fun _ _ _ _ _ _ h => h, fun _ _ _ _ h => h, fun _ _ _ => rfl, fun r c o' _ ho => ⟨o', f.row _ _ _ ho, rfl, rfl⟩, fun _ _ => rfl⟩ (okV.all (fun _ _ => trivial) (fun _ => trivial) p) h
theorem Fewer.repL (f : Fewer s s') {p : List PV} {v : List Value} (h : RepL w S s pl p v) : RepL w S s' pl p v :=
  RepL.keep (K := fun _ _ => True) (M := fun _ => True) ⟨fun _ _ _ _ _ _ h => h, fun _ _ _ _ h => h, fun _ _ _ => rfl, fun r c o' _ ho => ⟨o', f.row _ _ _ ho, rfl, rfl⟩, fun _ _ => rfl⟩ (okL.all (fun _ _ => trivial) (fun _ => trivial) p) h
theorem rowAt_pc (s : St) (r c : Nat) (v : PV) (r' c' : Nat) : rowAt ⟨s.t, pc s.r r c v⟩ r' c' = if r' = r ∧ c' = c ∧ c < (gr s.r r).length then rowOf v else rowAt s r' c' := by
  unfold rowAt pc
  simp only [gr_pr]
  by_cases hr : r' = r
  · subst hr
    by_cases hl : r' < s.r.length
    · simp only [hl, and_true, if_true, gt_pt]
      by_cases hc : c' = c ∧ c < (gr s.r r').length
      · simp [hc]
      · simp [hc]
    · have : gr s.r r' = [] := gr_big _ _ (by omega)
      simp [hl, this]
  · simp [hr]
theorem len_pc (s : St) (r c : Nat) (v : PV) (r' : Nat) : (gr (pc s.r r c v) r').length = (gr s.r r').length := by
  unfold pc
  simp only [gr_pr]
  split
  · rename_i h; rw [h.1, pt_len]
  · rfl
theorem fewer_kill (s : St) (r c : Nat) : Fewer s ⟨s.t, pc s.r r c .any⟩ :=
  ⟨rfl, fun r' c' o ho => by
    rw [rowAt_pc] at ho
    split at ho
    · simp [rowOf] at ho
    · exact ho, fun r' => len_pc s r c .any r'⟩
theorem gt_pc (s : St) (r c : Nat) (v : PV) (r' c' : Nat) : gt (gr (pc s.r r c v) r') c' = if r' = r ∧ c' = c ∧ c < (gr s.r r).length then v else gt (gr s.r r') c' := by
  unfold pc
  simp only [gr_pr]
  by_cases hr : r' = r
  · subst hr
    by_cases hl : r' < s.r.length
    · simp only [hl, and_true, if_true, gt_pt]
      by_cases hc : c' = c ∧ c < (gr s.r r').length
      · simp [hc]
      · simp [hc]
    · have : gr s.r r' = [] := gr_big _ _ (by omega)
      simp [hl, this]
  · simp [hr]
theorem Rep.kill {a : Array Value} (h : Rep w S pl s a) (r c : Nat) : Rep w S pl ⟨s.t, pc s.r r c .any⟩ a := by
  have f := fewer_kill s r c
  refine ⟨h.len, fun i => f.repV (h.slots i), fun r' j hj => ?_, fun r' b o j hm hj => h.mem r' b o j hm (by rw [← f.len]; exact hj), fun r j r' j' b x h1 h2 => h.disj r j r' j' b x (f.rng h1) (f.rng h2), fun b x hb ho => h.apart b x hb (f.owned ho), h.sub, h.live, h.stat⟩
  have hj' : j < (gr s.r r').length := by rw [← f.len]; exact hj
  have h1 := h.roots r' j hj'
  refine ⟨?_, h1.2⟩
  have h1 := h1.1
  show RepRoot w S _ pl (gt (gr (pc s.r r c .any) r') j) (pl.hv r' j)
  rw [gt_pc]
  split
  · simp [RepRoot, rowOf, RepV]
  · exact RepRoot.state h1 f.repV
structure Float (w : World) (S : Fl → Cset) (s : St) (pl : Pl) (cs : List PV) (vs : List Value) : Prop where
  len : vs.length = cs.length
  rep : ∀ j, j < cs.length → RepRoot w S s pl (gt cs j) (vs.getD j undef) ∧ (vs.getD j undef).oneCell' = true
  disj : ∀ j j' b x, newRng none cs vs (some j) b x → newRng none cs vs (some j') b x → j = j'
  apart : ∀ j b x, newRng none cs vs (some j) b x → ¬ owned s pl b x ∧ ¬ S .bor b x
theorem rowOf_rep {p : PV} {v : Value} (h : RepV w S s pl p v) : rowOf p = none := by
  cases p with
  | sl f t l => cases f <;> first | rfl | (simp only [RepV, RepCell] at h)
  | _ => rfl
theorem newRng_cons_zero {p : PV} {cs : List PV} {u : Value} {vs : List Value} {b x : Nat} : newRng none (p :: cs) (u :: vs) (some 0) b x ↔ ∃ o, rowOf p = some o ∧ rowRange o.t u b x := by
  simp [newRngF, gt]
theorem newRng_cons_succ {p : PV} {cs : List PV} {u : Value} {vs : List Value} {j b x : Nat} : newRng none (p :: cs) (u :: vs) (some (j + 1)) b x ↔ newRng none cs vs (some j) b x := by
  simp [newRngF, gt]
theorem Float.cons {p : PV} {u : Value} {cs : List PV} {vs : List Value} (h : Float w S s pl cs vs) (h1 : RepRoot w S s pl p u) (h2 : u.oneCell' = true)
    (h3 : ∀ o, rowOf p = some o → ∀ b x, rowRange o.t u b x → ¬ owned s pl b x ∧ ¬ S .bor b x ∧ ∀ j, ¬ newRng none cs vs (some j) b x) : Float w S s pl (p :: cs) (u :: vs) := by
  refine ⟨by simp [h.len], fun j hj => ?_, fun j j' b x a1 a2 => ?_, fun j b x a1 => ?_⟩
  · cases j with
    | zero => simpa [gt] using ⟨h1, h2⟩
    | succ j => simpa [gt] using h.rep j (by simpa using hj)
  · cases j with
    | zero => cases j' with
      | zero => rfl
      | succ j' =>
        rw [newRng_cons_zero] at a1
        rw [newRng_cons_succ] at a2
        obtain ⟨o, b1, b2⟩ := a1
        exact absurd a2 ((h3 o b1 b x b2).2.2 j')
    | succ j => cases j' with
      | zero =>
        rw [newRng_cons_zero] at a2
        rw [newRng_cons_succ] at a1
        obtain ⟨o, b1, b2⟩ := a2
        exact absurd a1 ((h3 o b1 b x b2).2.2 j)
      | succ j' =>
        rw [newRng_cons_succ] at a1 a2
        rw [h.disj j j' b x a1 a2]
  · cases j with
    | zero =>
      rw [newRng_cons_zero] at a1
      obtain ⟨o, b1, b2⟩ := a1
      exact ⟨(h3 o b1 b x b2).1, (h3 o b1 b x b2).2.1⟩
    | succ j =>
      rw [newRng_cons_succ] at a1
      exact h.apart j b x a1
theorem Float.nil : Float w S s pl [] [] := ⟨rfl, fun j hj => by simp at hj, fun j j' b x a1 => by simp [newRngF, gt, rowOf] at a1, fun j b x a1 => by simp [newRngF, gt, rowOf] at a1⟩
theorem OwnRow.take {S : Cset} {t : Ty} {l : List t.val} {A : Option Addr} {n cap : Nat} (h : OwnRow w S t l (.slice A n cap)) {k : Nat} (hk : k ≤ l.length) : OwnRow w S t (l.take k) (.slice A k cap) := by
  rcases h with ⟨e, rfl⟩ | ⟨b, cap', c, e, fz, hv, hle, hh, hsz, hfz, hrow⟩
  · simp only [Value.slice.injEq] at e
    obtain ⟨rfl, rfl, rfl⟩ := e
    simp at hk
    subst hk
    exact .inl ⟨rfl, rfl⟩
  · simp only [Value.slice.injEq] at hv
    obtain ⟨rfl, rfl, rfl⟩ := hv
    refine .inr ⟨b, cap, c, e, fz, by simp; omega, by simp; omega, hh, hsz, hfz, fun i x hx => ?_⟩
    rw [List.getElem?_take] at hx
    split at hx
    · exact hrow i x hx
    · simp at hx
theorem moves_ok {a : Array Value} : ∀ {ps : List PV} {vs : List Value} {s s' : St} {cs : List PV}, Rep w S pl s a → RepL w S s pl ps vs → (∀ u ∈ vs, u.oneCell' = true) → moves s ps = (cs, s') →
    Rep w S pl s' a ∧ Fewer s s' ∧ Float w S s' pl cs vs ∧ ∀ j b x, newRng none cs vs (some j) b x → owned s pl b x
  | [], vs, s, s', cs, h, hr, h1, hm => by
    simp only [moves, Prod.mk.injEq] at hm
    obtain ⟨rfl, rfl⟩ := hm
    simp only [RepL] at hr
    subst hr
    exact ⟨h, Fewer.refl _, Float.nil, fun j b x a1 => by simp [newRngF, gt, rowOf] at a1⟩
  | p :: ps, vs, s, s', cs, h, hr, h1, hm => by
    simp only [RepL] at hr
    obtain ⟨u, us, rfl, r1, r2⟩ := hr
    simp only [moves] at hm
    cases hmv : move s p with
    | mk y s1 =>
    rw [hmv] at hm
    simp only at hm
    cases hms : moves s1 ps with
    | mk l s2 =>
    rw [hms] at hm
    simp only [Prod.mk.injEq] at hm
    obtain ⟨rfl, rfl⟩ := hm
    have hu : u.oneCell' = true := h1 u (by simp)
    have hus : ∀ z ∈ us, z.oneCell' = true := fun z hz => h1 z (by simp [hz])
    have plain : ∀ y, RepV w S s pl y u → s1 = s → Rep w S pl s2 a ∧ Fewer s s2 ∧ Float w S s2 pl (y :: l) (u :: us) ∧ ∀ j b x, newRng none (y :: l) (u :: us) (some j) b x → owned s pl b x := fun y hy e => by
      subst e
      obtain ⟨g1, g2, g3, g4⟩ := moves_ok h r2 hus hms
      have hn := rowOf_rep hy
      refine ⟨g1, g2, g3.cons ?_ hu (fun o ho => by rw [hn] at ho; simp at ho), fun j b x a1 => ?_⟩
      · unfold RepRoot; rw [hn]; exact g2.repV hy
      · cases j with
        | zero => rw [newRng_cons_zero, hn] at a1; simp at a1
        | succ j => rw [newRng_cons_succ] at a1; exact g4 j b x a1
    have taken : ∀ {r c : Nat} {t : Ty} {l0 l1 : List t.val}, rowAt s r c = some ⟨true, t, l0⟩ → OwnRow w (S .imm) t l1 u → (∀ b x, rowRange t u b x → rng s pl r (some c) b x) → y = .sl .own t l1 → s1 = ⟨s.t, pc s.r r c .any⟩ →
        Rep w S pl s2 a ∧ Fewer s s2 ∧ Float w S s2 pl (y :: l) (u :: us) ∧ ∀ j b x, newRng none (y :: l) (u :: us) (some j) b x → owned s pl b x := fun {r c t l0 l1} hw hown hrng ey es => by
      subst ey
      subst es
      obtain ⟨hc, _⟩ := h.ownAt hw
      have hf := fewer_kill s r c
      obtain ⟨g1, g2, g3, g4⟩ := moves_ok (h.kill r c) (hf.repL r2) hus hms
      have hno : ∀ b x, rowRange t u b x → ¬ owned (⟨s.t, pc s.r r c .any⟩ : St) pl b x := fun b x hx ⟨r', j', hj'⟩ => by
        obtain ⟨rfl, rfl⟩ := h.disj r (some c) r' j' b x (hrng b x hx) (hf.rng hj')
        obtain ⟨o, ho, _⟩ := hj'
        rw [rowAt_pc, if_pos ⟨rfl, rfl, hc⟩] at ho
        simp [rowOf] at ho
      refine ⟨g1, hf.trans g2, g3.cons ?_ hu (fun o ho b x hx => ?_), fun j b x a1 => ?_⟩
      · unfold RepRoot
        simp only [rowOf]
        exact hown
      · simp only [rowOf, Option.some.injEq] at ho
        subst ho
        exact ⟨fun hh => hno b x hx (g2.owned hh), fun hh => h.apart b x hh ⟨r, _, hrng b x hx⟩, fun j hj => hno b x hx (g4 j b x hj)⟩
      · cases j with
        | zero =>
          rw [newRng_cons_zero] at a1
          obtain ⟨o, b1, b2⟩ := a1
          simp only [rowOf, Option.some.injEq] at b1
          subst b1
          exact ⟨r, _, hrng b x b2⟩
        | succ j => rw [newRng_cons_succ] at a1; exact hf.owned (g4 j b x a1)
    unfold move at hmv
    split at hmv
    · rename_i r c
      split at hmv
      · rename_i t l0 hg
        simp only [Prod.mk.injEq] at hmv
        have hw : rowAt s r c = some ⟨true, t, l0⟩ := by unfold rowAt; rw [hg]; rfl
        simp only [RepV, RepCell] at r1
        obtain ⟨e1, _⟩ := r1
        exact taken hw (by rw [e1]; exact (h.ownAt hw).2) (fun b x hx => ⟨_, hw, by rw [← e1]; exact hx⟩) hmv.1.symm hmv.2.symm
      · simp only [Prod.mk.injEq] at hmv
        obtain ⟨rfl, rfl⟩ := hmv
        exact plain _ r1 rfl
      · simp only [Prod.mk.injEq] at hmv
        obtain ⟨rfl, rfl⟩ := hmv
        exact plain _ (by simp [RepV]) rfl
    · rename_i r c hi
      split at hmv
      · rename_i t l0 hg
        simp only [Prod.mk.injEq] at hmv
        have hw : rowAt s r c = some ⟨true, t, l0⟩ := by unfold rowAt; rw [hg]; rfl
        simp only [RepV, RepCell] at r1
        obtain ⟨a', n, cap, A', e1, e2, e3, e4, e5, e6, _⟩ := r1.2 _ hw
        obtain rfl := e6 trivial
        have hown := (h.ownAt hw).2
        have e4' : hi ≤ (l0.length : Int) := e4
        rw [e1] at hown
        have e5' : u = .slice A' hi.toNat cap := by rw [e5]; rfl
        refine taken hw (l1 := l0.take hi.toNat) (by rw [e5']; exact hown.take (by omega)) (fun b x hx => ?_) hmv.1.symm hmv.2.symm
        obtain ⟨a2, n2, cap2, q1, q2, q3⟩ := hx
        rw [e5'] at q1
        simp only [Value.slice.injEq] at q1
        obtain ⟨q4, q5, q6⟩ := q1
        exact ⟨_, hw, a2, n, cap, by rw [e1, q4], q2, by rw [q6]; exact q3⟩
      · simp only [Prod.mk.injEq] at hmv
        obtain ⟨rfl, rfl⟩ := hmv
        exact plain _ r1 rfl
    · simp only [Prod.mk.injEq] at hmv
      obtain ⟨rfl, rfl⟩ := hmv
      exact plain _ r1 rfl
end
end Go.Ab
namespace Go.Ab
open Go.RowKit
set_option linter.unusedVariables false
set_option linter.unusedSimpArgs false
section
variable {P : Program} {w w' : World} {S : Fl → Cset} {pl : Pl} {s s' : St}
theorem cell_lt {b o : Nat} {v : Value} (h : w.cell? (at_ b o) = some v) : b < w.heap.size := by
  unfold World.cell? at_ at h
  simp only at h
  split at h
  · rename_i hh; exact (Array.getElem?_eq_some_iff.1 hh).1
  · simp at h
theorem OwnRow.lt {S : Cset} {t : Ty} {l : List t.val} {v : Value} (h : OwnRow w S t l v) {b x : Nat} (hr : rowRange t v b x) : b < w.heap.size := by
  obtain ⟨a, n, cap, rfl, rfl, hx⟩ := hr
  rcases h with ⟨e, _⟩ | ⟨b, cap', c, e, fz, e1, _, hh, _⟩
  · cases e
  · simp only [Value.slice.injEq, Option.some.injEq] at e1
    obtain ⟨rfl, _, _⟩ := e1
    exact (Array.getElem?_eq_some_iff.1 hh).1
theorem Rep.rng_lt {a : Array Value} (h : Rep w S pl s a) {r : Nat} {j : Option Nat} {b x : Nat} (hr : rng s pl r j b x) : b < w.heap.size := by
  cases j with
  | none =>
    obtain ⟨o, h1, h2, h3⟩ := hr
    have := (h.mem r b o (x - o) h1 (by omega)).1
    exact cell_lt this
  | some j =>
    obtain ⟨o, h1, h2⟩ := hr
    exact (h.ownAt h1).2.lt h2
theorem Fr.alloc (O : Cset) (w : World) (o : Obj) : Fr O w { w with heap := w.heap.push o } :=
  ⟨rfl, rfl, rfl, by simp, fun b a ha => ⟨a, by
    have := (Array.getElem?_eq_some_iff.1 ha).1
    rw [← ha]
    simp [Array.getElem?_push, Nat.ne_of_lt this], .refl _ a⟩⟩
theorem gt_scrL_row (kill : Nat → Nat → Bool) (gone : Nat → Bool) (cs : List PV) (j : Nat) : rowOf (gt (scrL kill gone cs) j) = rowOf (gt cs j) := by rw [scrL_gt, rowOf_scr]
theorem newRng_scr (kill : Nat → Nat → Bool) (gone : Nat → Bool) (m : Option (Nat × Nat)) (cs : List PV) (g : Nat → Value) (u : Option Nat) (b x : Nat) : newRngF m (scrL kill gone cs) g u b x ↔ newRngF m cs g u b x := by
  cases u with
  | none => simp [newRngF, scrL_len]
  | some j => simp [newRngF, gt_scrL_row]
theorem newRng_m (m m' : Option (Nat × Nat)) (cs : List PV) (vs : List Value) (j b x : Nat) : newRng m cs vs (some j) b x ↔ newRng m' cs vs (some j) b x := Iff.rfl
theorem Rep.lay {a : Array Value} (h : Rep w S pl s a) {cs : List PV} {vs : List Value} (f : Float w S s pl cs vs) (d : Nat) (m : Option (Nat × Nat)) (w' : World) (fr : Fr (fun _ _ => False) w w')
    (hm : ∀ b o, m = some (b, o) → w.heap.size ≤ b) (hm' : ∀ b o j, m = some (b, o) → j < cs.length → w'.cell? (at_ b (o + j)) = some (vs.getD j undef) ∧ w'.frozen? (at_ b (o + j)) = false) :
    Rep w' S (pl.set d m fun j => vs.getD j undef) (Go.Ab.lay s d cs) a ∧ ∀ b x, owned (Go.Ab.lay s d cs) (pl.set d m fun j => vs.getD j undef) b x → owned s pl b x ∨ ∃ u, newRng m cs vs u b x := by
  have hr1 := rowAt_scr (fun r _ => atRoot d r) (atRoot d) s
  have hl1 : ∀ r, (gr (Go.Ab.scr (fun r _ => atRoot d r) (atRoot d) s).r r).length = (gr s.r r).length := fun r => by simp [Go.Ab.scr, gr_scrR, scrL_len]
  have h1 := h.scr (fun r _ => atRoot d r) (atRoot d)
  have hne : ∀ r, atRoot d r = false → r ≠ d := fun r hr e => by subst e; simp [atRoot] at hr
  have hcell : ∀ b o v, w.cell? (at_ b o) = some v → w'.cell? (at_ b o) = some v := fun b o v hv => fr.cell (fun h => h) hv
  have hlt : ∀ j b x, newRng m cs vs (some j) b x → b < w.heap.size := fun j b x hj => by
    obtain ⟨o, e1, e2⟩ := hj
    have hj' : j < cs.length := by
      rcases Nat.lt_or_ge j cs.length with h' | h'
      · exact h'
      · rw [gt_big _ _ h'] at e1; simp [rowOf] at e1
    have := (f.rep j hj').1
    unfold RepRoot at this
    rw [e1] at this
    exact this.lt e2
  have hres := h1.setRoot (d := d) (cs := scrL (fun r _ => atRoot d r) (atRoot d) cs) (g := fun j => vs.getD j undef) (m := m) (w' := w')
    (fun _ => False) False (fun _ h => h.elim) (fun h => h.elim)
    (scr_okS (fun r c hr => .inl (hne r hr)) (fun r hr => .inl (hne r hr)) s) (fun j => okL_gt (scrL_ok (fun r c hr => .inl (hne r hr)) (fun r hr => .inl (hne r hr)) cs) j)
    (fr.mono fun _ _ _ h => h.elim)
    (fun j hj => by
      rw [scrL_len] at hj
      obtain ⟨q1, q2⟩ := f.rep j hj
      refine ⟨?_, q2⟩
      rw [gt_scrL_row]
      unfold RepRoot at q1
      cases hro : rowOf (gt cs j) with
      | some o =>
        rw [hro] at q1
        exact q1.keep fr (fun _ _ _ h => h) (fun b o u _ hu => hcell b o u hu) (fun _ _ h => h)
      | none =>
        rw [hro] at q1
        rw [scrL_gt]
        exact RepV.state (s' := Go.Ab.scr (fun r _ => atRoot d r) (atRoot d) s) hr1 (RepV.scr q1))
    (fun b o j e hj => by rw [scrL_len] at hj; exact hm' b o j e hj)
    (fun u u' b x a1 a2 => by
      have a1 := (newRng_scr _ _ _ _ _ _ _ _).1 a1
      have a2 := (newRng_scr _ _ _ _ _ _ _ _).1 a2
      cases u with
      | none => cases u' with
        | none => rfl
        | some j' =>
          obtain ⟨o, e, _⟩ := a1
          have := hm b o e
          have := hlt j' b x a2
          omega
      | some j => cases u' with
        | none =>
          obtain ⟨o, e, _⟩ := a2
          have := hm b o e
          have := hlt j b x a1
          omega
        | some j' => rw [f.disj j j' b x a1 a2])
    (fun u b x a1 => by
      have a1 := (newRng_scr _ _ _ _ _ _ _ _).1 a1
      cases u with
      | none =>
        obtain ⟨o, e, _⟩ := a1
        have hb := hm b o e
        refine ⟨fun r j _ hj => ?_, fun hS => ?_⟩
        · have := h1.rng_lt hj
          omega
        · have := h.live b x hS
          omega
      | some j =>
        obtain ⟨g1, g2⟩ := f.apart j b x a1
        exact ⟨fun r j' _ hj => g1 ⟨r, j', (rng_of hr1 hl1 _ _ _ _).1 hj⟩, g2⟩)
  refine ⟨hres, fun b x ⟨r, j, hj⟩ => ?_⟩
  by_cases hr : r = d
  · subst hr
    refine .inr ⟨j, ?_⟩
    unfold Go.Ab.lay at hj
    simp only at hj
    have hgd : gr (pr (Go.Ab.scr (fun r_1 _ => atRoot r r_1) (atRoot r) s).r r (scrL (fun r_1 _ => atRoot r r_1) (atRoot r) cs)) r = scrL (fun r_1 _ => atRoot r r_1) (atRoot r) cs ∨ gr (pr (Go.Ab.scr (fun r_1 _ => atRoot r r_1) (atRoot r) s).r r (scrL (fun r_1 _ => atRoot r r_1) (atRoot r) cs)) r = [] := by
      rw [gr_pr]
      by_cases hl : r < (Go.Ab.scr (fun r_1 _ => atRoot r r_1) (atRoot r) s).r.length
      · simp [hl]
      · simp [hl]; right; exact gr_big _ _ (by omega)
    refine (newRng_scr (fun r_1 _ => atRoot r r_1) (atRoot r) _ _ _ _ _ _).1 ?_
    cases j with
    | none =>
      simp only [rng, Pl.set, if_true, newRngF] at *
      obtain ⟨o, k1, k2, k3⟩ := hj
      refine ⟨o, k1, k2, ?_⟩
      rcases hgd with e | e
      · rw [e] at k3; exact k3
      · rw [e] at k3; simp at k3; omega
    | some j =>
      simp only [rng, Pl.set, if_true, newRngF, rowAt] at *
      rcases hgd with e | e
      · rw [e] at hj; exact hj
      · rw [e] at hj; simp [gt, rowOf] at hj
  · refine .inl ⟨r, j, (rng_of hr1 hl1 _ _ _ _).1 ?_⟩
    unfold Go.Ab.lay at hj
    simp only at hj
    cases j with
    | none => simpa [rng, Pl.set, hr, gr_pr] using hj
    | some j => simpa [rng, Pl.set, hr, rowAt, gr_pr] using hj
end
end Go.Ab
namespace Go.Ab
open Go.RowKit
set_option linter.unusedVariables false
set_option linter.unusedSimpArgs false
def StayB (d : Nat) (bx : List Spot) (pl pl' : Pl) : Prop := ∀ r, r ≠ d → pl'.mem r = pl.mem r ∧ ∀ c, hits (r, c, 1) bx = false → pl'.hv r c = pl.hv r c
def Stay (d : Nat) (pl pl' : Pl) : Prop := ∀ r, r ≠ d → pl'.mem r = pl.mem r ∧ ∀ c, pl'.hv r c = pl.hv r c
theorem Stay.refl (d : Nat) (pl : Pl) : Stay d pl pl := fun _ _ => ⟨rfl, fun _ => rfl⟩
theorem Stay.toB {d : Nat} {pl pl' : Pl} (h : Stay d pl pl') (bx : List Spot) : StayB d bx pl pl' := fun r hr => ⟨(h r hr).1, fun c _ => (h r hr).2 c⟩
theorem Stay.set (pl : Pl) (d : Nat) (m : Option (Nat × Nat)) (g : Nat → Value) : Stay d pl (pl.set d m g) := fun r hr => by simp [Pl.set, hr]
def Good (P : Program) (d : Nat) (o : Oper) (a : Act) (w : World) (S : Fl → Cset) (pl : Pl) (s : St) (v : PV) (s' : St) : Prop :=
  ∃ x w' S' pl', ((execOp a.eval o).run P w = .ok (.value x) w' ∨ (execOp a.eval o).run P w = .ok .skip w' ∧ x = undef) ∧
    Rep w' S' pl' s' a.tmps ∧ RepV w' S' s' pl' v x ∧ Step w S pl s w' S' pl' s' ∧ (calm o.op = true → StayB d (bxS s o.op) pl pl')
section
variable {P : Program} {D : TypeId → Option TD} {w : World} {S : Fl → Cset} {pl : Pl} {s s' : St} {a : Act} {o : Oper} {d : Nat} {oks : List Bool} {v : PV}
theorem Quiet.good (h : Rep w S pl s a.tmps) (q : Quiet P o a w S pl s v) : Good P d o a w S pl s v s := by
  obtain ⟨x, h1, h2⟩ := q
  exact ⟨x, w, S, pl, .inl h1, h, h2, .refl _ _ _ _, fun _ => (Stay.refl d pl).toB _⟩
theorem Fewer.step (f : Fewer s s') : Step w S pl s w S pl s' := ⟨.refl _ w, fun _ _ _ _ h => h, fun _ _ h => .inl h, fun _ _ h => .inl h, fun _ _ h => .inl (f.owned h)⟩
theorem len_getD {vs : List Value} {j : Nat} {u : Value} (h : vs[j]? = some u) : vs.getD j undef = u := by simp [List.getD, h]
theorem alloc_cells (w : World) (vs : List Value) (t : TypeId) (n : Nat) (hn : vs.length = n) : ∀ b o j, some (w.heap.size, 0) = some (b, o) → j < n →
    ({ w with heap := w.heap.push (.cells vs.toArray t) } : World).cell? (at_ b (o + j)) = some (vs.getD j undef) ∧ ({ w with heap := w.heap.push (.cells vs.toArray t) } : World).frozen? (at_ b (o + j)) = false := by
  intro b o j e hj
  simp only [Option.some.injEq, Prod.mk.injEq] at e
  obtain ⟨rfl, rfl⟩ := e
  have h1 := World.cell?_alloc_at (w := w) vs.toArray t w.heap.size (0 + j) rfl
  have h2 := World.frozen?_alloc_at (w := w) vs.toArray t w.heap.size (0 + j) rfl
  refine ⟨?_, h2⟩
  have : (vs.toArray)[0 + j]? = some (vs.getD j undef) := by
    simp [List.getD, List.getElem?_eq_getElem (show j < vs.length by omega)]
  rw [← this]
  exact h1
theorem lay_new (h : Rep w S pl s a.tmps) {cs : List PV} {vs : List Value} (f : Float w S s pl cs vs) (d : Nat) (t : TypeId) :
    ∃ pl', Rep { w with heap := w.heap.push (.cells vs.toArray t) } S pl' (lay s d cs) a.tmps ∧
      RepV { w with heap := w.heap.push (.cells vs.toArray t) } S (lay s d cs) pl' (.ptr d 0) (.pointer (some ⟨w.heap.size, 0, none⟩)) ∧
      (∀ b x, owned (lay s d cs) pl' b x → owned s pl b x ∨ (∃ j, newRng none cs vs (some j) b x) ∨ w.heap.size ≤ b) ∧ Stay d pl pl' := by
  obtain ⟨g1, g2⟩ := h.lay f d (some (w.heap.size, 0)) { w with heap := w.heap.push (.cells vs.toArray t) } (Fr.alloc _ w _)
    (fun b o e => by simp only [Option.some.injEq, Prod.mk.injEq] at e; omega) (fun b o j e hj => alloc_cells w vs t _ f.len b o j e hj)
  refine ⟨_, g1, ?_, fun b x hx => ?_, Stay.set _ _ _ _⟩
  · simp only [RepV, RepCell]
    exact ⟨w.heap.size, 0, by simp [Pl.set], rfl⟩
  · rcases g2 b x hx with h' | ⟨u, hu⟩
    · exact .inl h'
    · cases u with
      | none =>
        obtain ⟨o, e, _⟩ := hu
        simp only [Option.some.injEq, Prod.mk.injEq] at e
        exact .inr (.inr (by omega))
      | some j => exact .inr (.inl ⟨j, hu⟩)
theorem op_box {e : TypeId} {x : Operand} {ps cs : List PV} {s1 : St} (ho : o.op = .box e x) (h : Rep w S pl s a.tmps) (hc : cells (ev s x) = some ps) (hm : moves s ps = (cs, s1)) : Good P d o a w S pl s (.ptr d 0) (lay s1 d cs) := by
  obtain ⟨r1, r2⟩ := (h.ev x).cells hc
  obtain ⟨g1, g2, g3, g4⟩ := moves_ok h r1 r2 hm
  obtain ⟨pl', k1, k2, k3, k4⟩ := lay_new g1 g3 d e
  refine ⟨_, _, S, pl', .inl ?_, k1, k2, ?_, fun _ => k4.toB _⟩
  · simp [execOp, ho, Instr.box, newVar, newRow]
  · refine ⟨Fr.alloc _ w _, fun _ _ _ _ h => h, fun _ _ h => .inl h, fun _ _ h => .inl h, fun b y hy => ?_⟩
    rcases k3 b y hy with h' | ⟨j, hj⟩ | h'
    · exact .inl (g2.owned h')
    · exact .inl (g4 j b y hj)
    · exact .inr h'
theorem zero_rep : ∀ {ps : List PV} {vs : List Value}, zOkL ps vs = true → RepL w S s pl ps vs ∧ ∀ u ∈ vs, u.oneCell' = true
  | [], [], _ => by simp [RepL]
  | [], _ :: _, h => by simp [zOkL] at h
  | _ :: _, [], h => by simp [zOkL] at h
  | p :: ps, v :: vs, h => by
    simp only [zOkL, Bool.and_eq_true] at h
    obtain ⟨i1, i2⟩ := zero_rep (ps := ps) (vs := vs) h.2
    have h1 : RepV w S s pl p v ∧ v.oneCell' = true := by
      have h := h.1
      unfold zOk at h
      split at h
      · simp only [beq_iff_eq] at h; subst h; simp [RepV, RepCell, Value.oneCell']
      · simp [RepV, RepCell, Value.oneCell']
      · rename_i b c hh
        simp only [Bool.and_eq_true, Array.isEmpty_iff] at h
        have : b = c := by cases b; cases c; simp_all
        subst this
        simp [RepV, RepCell, Value.oneCell']
      · simp [RepV, RepCell, Value.oneCell']
      · simp [RepV, h]
      · simp at h
    simp only [RepL]
    exact ⟨⟨v, vs, rfl, h1.1, i1⟩, by simpa using ⟨h1.2, i2⟩⟩
theorem Float.of_repL {ps : List PV} {vs : List Value} (h : RepL w S s pl ps vs) (h1 : ∀ u ∈ vs, u.oneCell' = true) : Float w S s pl ps vs := by
  have hn : ∀ j, rowOf (gt ps j) = none := fun j => by
    rcases Nat.lt_or_ge j ps.length with h' | h'
    · have hl : j < vs.length := by rw [h.len]; exact h'
      exact rowOf_rep (h.get j _ (List.getElem?_eq_getElem hl))
    · rw [gt_big _ _ h']; rfl
  refine ⟨h.len, fun j hj => ?_, fun j j' b x a1 => ?_, fun j b x a1 => ?_⟩
  · have hl : j < vs.length := by rw [h.len]; exact hj
    have e := List.getElem?_eq_getElem hl
    rw [len_getD e]
    refine ⟨?_, h1 _ (List.getElem_mem hl)⟩
    unfold RepRoot
    rw [hn j]
    exact h.get j _ e
  · simp [newRngF, hn] at a1
  · simp [newRngF, hn] at a1
theorem op_alloc {e : TypeId} {t : TD} (hD : Dok P D) (ho : o.op = .alloc e) (h : Rep w S pl s a.tmps) (ht : D e = some t) : Good P d o a w S pl s (.ptr d 0) (lay s d (zero t.row)) := by
  obtain ⟨i, h1, _, _, z, h2, h3, _⟩ := (hD e t ht).run_info w
  obtain ⟨r1, r2⟩ := zero_rep (w := w) (S := S) (s := s) (pl := pl) h3
  obtain ⟨pl', k1, k2, k3, k4⟩ := lay_new h (Float.of_repL r1 r2) d e
  refine ⟨_, _, S, pl', .inl ?_, k1, k2, ?_, fun _ => k4.toB _⟩
  · simp [execOp, ho, Instr.alloc, zeroValue, h1, h2, newVar, newRow]
  · refine ⟨Fr.alloc _ w _, fun _ _ _ _ h => h, fun _ _ h => .inl h, fun _ _ h => .inl h, fun b y hy => ?_⟩
    rcases k3 b y hy with h' | ⟨j, hj⟩ | h'
    · exact .inl h'
    · have hn := rowOf_rep (w := w) (S := S) (s := s) (pl := pl) (p := gt (zero t.row) j) (v := z.cells.toList.getD j undef)
      exfalso
      obtain ⟨q, hq, _⟩ := hj
      have hlt : j < (zero t.row).length := by
        rcases Nat.lt_or_ge j (zero t.row).length with h' | h'
        · exact h'
        · rw [gt_big _ _ h'] at hq; simp [rowOf] at hq
      have hl : j < z.cells.toList.length := by rw [r1.len]; exact hlt
      rw [rowOf_rep (r1.get j _ (List.getElem?_eq_getElem hl))] at hq
      simp at hq
    · exact .inr h'
end
end Go.Ab
namespace Go.Ab
open Go.RowKit
set_option linter.unusedVariables false
set_option linter.unusedSimpArgs false
section
variable {P : Program} {D : TypeId → Option TD} {w : World} {S : Fl → Cset} {pl : Pl} {s s' : St} {a : Act} {o : Oper} {d : Nat} {oks : List Bool} {v : PV}
theorem Fr.setCell {O : Cset} {b o : Nat} (hO : O b o) (w : World) (v : Value) : Fr O w (w.setCell (at_ b o) v) := by
  refine ⟨rfl, rfl, rfl, by simp [World.setCell], fun i x hx => ?_⟩
  unfold World.setCell
  simp only [Array.getElem?_modify]
  by_cases hi : b = i
  · subst hi
    simp only [at_, if_true, hx, Option.map_some]
    refine ⟨_, rfl, ?_⟩
    cases x with
    | cells c e f =>
      refine .inr ⟨c, c.setIfInBounds o v, e, f, rfl, by simp, by simp, fun y hy => ?_⟩
      have : y ≠ o := fun e => hy (e ▸ hO)
      rw [Array.getElem?_setIfInBounds_ne (Ne.symm this)]
    | _ => exact .inl rfl
  · have hi' : ¬ (at_ b o).block = i := hi
    rw [if_neg hi']
    exact ⟨x, hx, .refl _ x⟩
theorem Fr.setCells {O : Cset} {b : Nat} : ∀ (vs : List Value) (o : Nat) (w : World), (∀ j, j < vs.length → O b (o + j)) → Fr O w (w.setCells b o vs)
  | [], o, w, _ => .refl _ w
  | v :: vs, o, w, h => (Fr.setCell (h 0 (by simp)) w v).trans (Fr.setCells vs (o + 1) _ fun j hj => by
      have := h (j + 1) (by simpa using hj)
      rwa [show o + (j + 1) = o + 1 + j by omega] at this)
theorem psplice_eq (l : List PV) (c : Nat) (v : List PV) : psplice l c v = l.take c ++ (v ++ l.drop (c + v.length)) := by
  simp [psplice, pcat_eq, ptake_eq, pdrop_eq, plen_eq]
theorem gt_append (l m : List PV) (i : Nat) : gt (l ++ m) i = if i < l.length then gt l i else gt m (i - l.length) := by
  induction l generalizing i with
  | nil => simp
  | cons x l ih => cases i with
    | zero => simp [gt]
    | succ i => simp [gt, ih]
theorem gt_take (l : List PV) (n i : Nat) : gt (l.take n) i = if i < n then gt l i else .any := by
  induction l generalizing n i with
  | nil => simp [gt]
  | cons x l ih => cases n with
    | zero => simp [gt]
    | succ n => cases i with
      | zero => simp [gt]
      | succ i => simp [gt, ih]
theorem gt_drop (l : List PV) (n i : Nat) : gt (l.drop n) i = gt l (n + i) := by
  induction l generalizing n i with
  | nil => simp [gt]
  | cons x l ih => cases n with
    | zero => simp
    | succ n => simp [ih, gt, Nat.succ_add]
theorem gt_psplice (l : List PV) (c : Nat) (v : List PV) (h : c + v.length ≤ l.length) (i : Nat) : gt (psplice l c v) i = if c ≤ i ∧ i < c + v.length then gt v (i - c) else gt l i := by
  rw [psplice_eq, gt_append, gt_append, gt_take, gt_drop]
  simp only [List.length_take]
  by_cases h1 : i < c
  · rw [if_pos (by omega), if_pos h1, if_neg (by omega)]
  · by_cases h2 : i < c + v.length
    · rw [if_neg (by omega), if_pos (by omega), if_pos (by omega), show i - min c l.length = i - c by omega]
    · rw [if_neg (by omega), if_neg (by omega), if_neg (by omega)]
      congr 1
      omega
theorem len_psplice (l : List PV) (c : Nat) (v : List PV) (h : c + v.length ≤ l.length) : (psplice l c v).length = l.length := by
  rw [psplice_eq]
  simp
  omega
theorem inRoot_false {d lo n r c : Nat} (h : inRoot d lo n r c = false) : r ≠ d ∨ ¬ (lo ≤ c ∧ c < lo + n) := by
  by_cases hr : r = d
  · right
    rintro ⟨h1, h2⟩
    subst hr
    have e1 : Nat.ble lo c = true := Nat.ble_eq ▸ h1
    have e2 : Nat.ble (c + 1) (lo + n) = true := Nat.ble_eq ▸ h2
    simp [inRoot, e1, e2] at h
  · exact .inl hr
theorem Rep.rewrite {a : Array Value} (h : Rep w S pl s a) {cs : List PV} {vs : List Value} (f : Float w S s pl cs vs) {r c b q : Nat} (hm : pl.mem r = some (b, q)) (hc : c + cs.length ≤ (gr s.r r).length) :
    ∃ pl', Rep (w.setCells b (q + c) vs) S pl' (rewrite s r c cs psplice cs.length) a ∧
      (∀ b x, owned (Go.Ab.rewrite s r c cs psplice cs.length) pl' b x → owned s pl b x ∨ ∃ j, newRng none cs vs (some j) b x) ∧ ∀ d, StayB d [(r, c, cs.length)] pl pl' := by
  have h1 := h.scr (inRoot r c cs.length) (fun _ => false)
  have hr1 := rowAt_scr (inRoot r c cs.length) (fun _ => false) s
  have hl1 : ∀ r', (gr (Go.Ab.scr (inRoot r c cs.length) (fun _ => false) s).r r').length = (gr s.r r').length := fun r' => by simp [Go.Ab.scr, gr_scrR, scrL_len]
  have hgs : ∀ r' j, gt (gr (Go.Ab.scr (inRoot r c cs.length) (fun _ => false) s).r r') j = scrV (inRoot r c cs.length) (fun _ => false) (gt (gr s.r r') j) := fun r' j => by simp [Go.Ab.scr, gr_scrR, scrL_gt]
  let g : Nat → Value := fun j => if c ≤ j ∧ j < c + cs.length then vs.getD (j - c) undef else pl.hv r j
  have hcells : ∀ j, j < vs.length → (w.cell? ⟨b, q + c + j, none⟩).isSome = true ∧ w.frozen? ⟨b, q + c + j, none⟩ = false := fun j hj => by
    obtain ⟨e1, e2⟩ := h.mem r b q (c + j) hm (by rw [f.len] at hj; omega)
    rw [show q + (c + j) = q + c + j by omega] at e1 e2
    exact ⟨by have := e1; unfold at_ at this; simp [this], e2⟩
  have hrngF : ∀ j b' x, newRngF (some (b, q)) (psplice (gr (Go.Ab.scr (inRoot r c cs.length) (fun _ => false) s).r r) c (scrL (inRoot r c cs.length) (fun _ => false) cs)) g (some j) b' x →
      (c ≤ j ∧ j < c + cs.length ∧ newRng none cs vs (some (j - c)) b' x) ∨ (¬ (c ≤ j ∧ j < c + cs.length) ∧ rng s pl r (some j) b' x) := fun j b' x hj => by
    obtain ⟨o', ho', hx⟩ := hj
    rw [gt_psplice _ _ _ (by rw [hl1, scrL_len]; exact hc), scrL_len] at ho'
    simp only [g] at hx
    by_cases hin : c ≤ j ∧ j < c + cs.length
    · rw [if_pos hin, scrL_gt, rowOf_scr] at ho'
      rw [if_pos hin] at hx
      exact .inl ⟨hin.1, hin.2, o', ho', hx⟩
    · rw [if_neg hin, hgs, rowOf_scr] at ho'
      rw [if_neg hin] at hx
      exact .inr ⟨hin, o', ho', hx⟩
  have hres := h1.setRoot (d := r) (cs := psplice (gr (Go.Ab.scr (inRoot r c cs.length) (fun _ => false) s).r r) c (scrL (inRoot r c cs.length) (fun _ => false) cs)) (g := g) (m := some (b, q)) (w' := w.setCells b (q + c) vs)
    (fun c' => ¬ (c ≤ c' ∧ c' < c + cs.length)) True
    (fun c' hc' => by
      refine ⟨by simp only [g]; rw [if_neg hc'], fun o' ho' => ?_⟩
      rw [gt_psplice _ _ _ (by rw [hl1, scrL_len]; exact hc), scrL_len, if_neg hc'] at ho'
      exact ⟨o', ho', rfl, rfl⟩)
    (fun _ => hm.symm)
    (scr_okS (fun r' c' hr => inRoot_false hr) (fun _ _ => .inr trivial) s)
    (fun j => by
      rw [gt_psplice _ _ _ (by rw [hl1, scrL_len]; exact hc)]
      split
      · exact okL_gt (scrL_ok (fun r' c' hr => inRoot_false hr) (fun _ _ => .inr trivial) cs) _
      · rw [hgs]; exact scrV_ok (fun r' c' hr => inRoot_false hr) (fun _ _ => .inr trivial) _)
    (Fr.setCells vs (q + c) w fun j hj => ⟨none, q, hm, by omega, by rw [hl1]; rw [f.len] at hj; omega⟩)
    (fun j hj => by
      rw [len_psplice _ _ _ (by rw [hl1, scrL_len]; exact hc), hl1] at hj
      have fr := Fr.setCells (O := fun b' x => b' = b ∧ q + c ≤ x ∧ x < q + c + vs.length) vs (q + c) w (fun j hj => ⟨rfl, by omega, by omega⟩)
      have hnone : ∀ b' x, (b' = b ∧ q + c ≤ x ∧ x < q + c + vs.length) → rng s pl r none b' x := fun b' x ⟨e1, e2, e3⟩ => ⟨q, by rw [e1]; exact hm, by omega, by rw [f.len] at e3; omega⟩
      have hcell : ∀ b' x u, S .imm b' x → w.cell? (at_ b' x) = some u → (w.setCells b (q + c) vs).cell? (at_ b' x) = some u := fun b' x u hS hu =>
        fr.cell (fun hO => h.apart b' x (h.sub _ _ hS) ⟨r, none, hnone b' x hO⟩) hu
      rw [gt_psplice _ _ _ (by rw [hl1, scrL_len]; exact hc), scrL_len]
      simp only [g]
      by_cases hin : c ≤ j ∧ j < c + cs.length
      · rw [if_pos hin, if_pos hin, scrL_gt, rowOf_scr]
        obtain ⟨q1, q2⟩ := f.rep (j - c) (by omega)
        refine ⟨?_, q2⟩
        unfold RepRoot at q1
        cases hro : rowOf (gt cs (j - c)) with
        | some o' =>
          rw [hro] at q1
          exact OwnRow.keep q1 fr (fun b' x hx hO => (f.apart (j - c) b' x ⟨o', hro, hx⟩).1 ⟨r, none, hnone b' x hO⟩) hcell (fun _ _ h => h)
        | none =>
          rw [hro] at q1
          exact RepV.state (s' := Go.Ab.scr (inRoot r c cs.length) (fun _ => false) s) hr1 (RepV.scr q1)
      · rw [if_neg hin, if_neg hin, hgs, rowOf_scr]
        obtain ⟨q1, q2⟩ := h.roots r j hj
        refine ⟨?_, q2⟩
        unfold RepRoot at q1
        cases hro : rowOf (gt (gr s.r r) j) with
        | some o' =>
          rw [hro] at q1
          exact OwnRow.keep q1 fr (fun b' x hx hO => by have := h.disj r (some j) r none b' x ⟨o', hro, hx⟩ (hnone b' x hO); exact absurd this.2 (by simp)) hcell (fun _ _ h => h)
        | none =>
          rw [hro] at q1
          exact RepV.state (s' := Go.Ab.scr (inRoot r c cs.length) (fun _ => false) s) hr1 (RepV.scr q1))
    (fun b' q' j e hj => by
      simp only [Option.some.injEq, Prod.mk.injEq] at e
      obtain ⟨rfl, rfl⟩ := e
      rw [len_psplice _ _ _ (by rw [hl1, scrL_len]; exact hc), hl1] at hj
      obtain ⟨e1, e2⟩ := h.mem r b q j hm hj
      refine ⟨?_, by rw [World.frozen?_setCells]; exact e2⟩
      simp only [g]
      by_cases hin : c ≤ j ∧ j < c + cs.length
      · rw [if_pos hin]
        have hlt : j - c < vs.length := by rw [f.len]; omega
        have := World.cell?_setCells_in b vs (q + c) w (fun i hi => (hcells i hi).1) (j - c) hlt
        rw [show q + c + (j - c) = q + j by omega] at this
        unfold at_
        rw [this, len_getD (List.getElem?_eq_getElem hlt)]
      · rw [if_neg hin]
        rw [World.cell?_setCells_out b vs (q + c) w (at_ b (q + j)) (fun _ _ => by simp only [at_]; rw [f.len]; omega)]
        exact e1)
    (fun u u' b' x a1 a2 => by
      cases u with
      | none => cases u' with
        | none => rfl
        | some j' =>
          obtain ⟨o', e, e2, e3⟩ := a1
          simp only [Option.some.injEq, Prod.mk.injEq] at e
          obtain ⟨rfl, rfl⟩ := e
          rw [len_psplice _ _ _ (by rw [hl1, scrL_len]; exact hc), hl1] at e3
          have hn : rng s pl r none b x := ⟨q, hm, e2, e3⟩
          rcases hrngF j' b x a2 with ⟨_, _, h5⟩ | ⟨_, h5⟩
          · exact absurd ⟨r, none, hn⟩ (f.apart _ b x h5).1
          · exact absurd (h.disj r none r (some j') b x hn h5).2 (by simp)
      | some j => cases u' with
        | none =>
          obtain ⟨o', e, e2, e3⟩ := a2
          simp only [Option.some.injEq, Prod.mk.injEq] at e
          obtain ⟨rfl, rfl⟩ := e
          rw [len_psplice _ _ _ (by rw [hl1, scrL_len]; exact hc), hl1] at e3
          have hn : rng s pl r none b x := ⟨q, hm, e2, e3⟩
          rcases hrngF j b x a1 with ⟨_, _, h5⟩ | ⟨_, h5⟩
          · exact absurd ⟨r, none, hn⟩ (f.apart _ b x h5).1
          · exact absurd (h.disj r none r (some j) b x hn h5).2 (by simp)
        | some j' =>
          rcases hrngF j b' x a1 with ⟨h3, h4, h5⟩ | ⟨h4, h5⟩
          · rcases hrngF j' b' x a2 with ⟨k3, k4, k5⟩ | ⟨k4, k5⟩
            · have := f.disj _ _ b' x h5 k5
              congr 1
              omega
            · exact absurd ⟨r, _, k5⟩ (f.apart _ b' x h5).1
          · rcases hrngF j' b' x a2 with ⟨k3, k4, k5⟩ | ⟨k4, k5⟩
            · exact absurd ⟨r, _, h5⟩ (f.apart _ b' x k5).1
            · exact (h.disj r (some j) r (some j') b' x h5 k5).2)
    (fun u b' x a1 => by
      have key : ¬ S .bor b' x ∧ ∀ r' j', r' ≠ r → ¬ rng s pl r' j' b' x := by
        cases u with
        | none =>
          obtain ⟨o', e, e2, e3⟩ := a1
          simp only [Option.some.injEq, Prod.mk.injEq] at e
          obtain ⟨rfl, rfl⟩ := e
          rw [len_psplice _ _ _ (by rw [hl1, scrL_len]; exact hc), hl1] at e3
          have hn : rng s pl r none b x := ⟨q, hm, e2, e3⟩
          exact ⟨fun hS => h.apart b x hS ⟨r, none, hn⟩, fun r' j' hr' hj' => hr' (h.disj r' j' r none b x hj' hn).1⟩
        | some j =>
          rcases hrngF j b' x a1 with ⟨h3, h4, h5⟩ | ⟨h4, h5⟩
          · obtain ⟨k1, k2⟩ := f.apart _ b' x h5
            exact ⟨k2, fun r' j' _ hj' => k1 ⟨r', j', hj'⟩⟩
          · exact ⟨fun hS => h.apart b' x hS ⟨r, _, h5⟩, fun r' j' hr' hj' => hr' (h.disj r' j' r (some j) b' x hj' h5).1⟩
      exact ⟨fun r' j' hr' hj' => key.2 r' j' hr' ((rng_of hr1 hl1 _ _ _ _).1 hj'), key.1⟩)
  refine ⟨_, hres, fun b' x ⟨r', j, hj⟩ => ?_, fun d r' _ => ?_⟩
  rotate_left
  · by_cases e : r' = r
    · subst e
      refine ⟨by simp [Pl.set, hm], fun c' hc' => ?_⟩
      simp only [Pl.set, if_true, g]
      rw [if_neg]
      rintro ⟨q1, q2⟩
      simp only [hits, meets, Bool.or_false, Bool.and_eq_false_iff, Nat.beq_refl, Bool.true_eq_false, false_or] at hc'
      rcases hc' with hc' | hc'
      · rw [Bool.eq_false_iff] at hc'; simp only [ne_eq, Nat.ble_eq] at hc'; omega
      · rw [Bool.eq_false_iff] at hc'; simp only [ne_eq, Nat.ble_eq] at hc'; omega
    · exact ⟨by simp [Pl.set, e], fun _ _ => by simp [Pl.set, e]⟩
  by_cases hr : r' = r
  · subst hr
    cases j with
    | none =>
      obtain ⟨o', e, e2, e3⟩ := hj
      simp only [Pl.set, if_true, Option.some.injEq, Prod.mk.injEq] at e
      obtain ⟨rfl, rfl⟩ := e
      refine .inl ⟨r', none, q, hm, e2, ?_⟩
      have hle : (gr (Go.Ab.rewrite s r' c cs psplice cs.length).r r').length ≤ (gr s.r r').length := by
        unfold Go.Ab.rewrite
        simp only [gr_pr]
        split
        · rw [len_psplice _ _ _ (by rw [hl1, scrL_len]; exact hc), hl1]; exact Nat.le_refl _
        · rw [hl1]; exact Nat.le_refl _
      omega
    | some j =>
      obtain ⟨o', e, e2⟩ := hj
      have e' : rowOf (gt (psplice (gr (Go.Ab.scr (inRoot r' c cs.length) (fun _ => false) s).r r') c (scrL (inRoot r' c cs.length) (fun _ => false) cs)) j) = some o' := by
        unfold rowAt Go.Ab.rewrite at e
        simp only [gr_pr] at e
        split at e
        · exact e
        · rename_i hn
          exfalso
          rw [hgs, rowOf_scr, gr_big s.r r' (by
            simp only [Go.Ab.scr, scrR_len, true_and] at hn
            omega)] at e
          simp [gt, rowOf] at e
      simp only [Pl.set, if_true] at e2
      rcases hrngF j b' x ⟨o', e', e2⟩ with ⟨h3, h4, h5⟩ | ⟨h4, h5⟩
      · exact .inr ⟨_, h5⟩
      · exact .inl ⟨r', _, h5⟩
  · refine .inl ⟨r', j, (rng_of hr1 hl1 _ _ _ _).1 ?_⟩
    unfold Go.Ab.rewrite at hj
    simp only at hj
    cases j with
    | none => simpa [rng, Pl.set, hr, gr_pr] using hj
    | some j => simpa [rng, Pl.set, hr, rowAt, gr_pr] using hj
theorem run_storeV {t : TypeId} {td : TD} (hD : TDok P D t td) {b q : Nat} {v : Value} (hl : v.cells.toList.length = td.sz) (h1 : ∀ u ∈ v.cells.toList, u.oneCell' = true)
    (hc : ∀ j, j < v.cells.toList.length → (w.cell? ⟨b, q + j, none⟩).isSome = true) (hf : ∀ j, j < v.cells.toList.length → w.frozen? ⟨b, q + j, none⟩ = false) :
    (storeVar t (at_ b q) v).run P w = .ok () (w.setCells b q v.cells.toList) := by
  have hs := hD.run_size w
  have := run_storeCells_cells (P := P) b q v.cells.toList 0 w (by simpa using hc) (by simpa using hf) h1
  unfold storeVar
  simp only [Sem.run_bind, hs, Result.andThen_ok]
  rw [if_neg (by simpa using hl)]
  simpa [at_] using this
theorem op_store {e : TypeId} {x y : Operand} {t : TD} {ps cs : List PV} {s1 : St} {r c : Nat} (hD : Dok P D) (ho : o.op = .store e y x) (h : Rep w S pl s a.tmps) (ht : D e = some t) (hc : cells (ev s x) = some ps) (hl : ps.length = t.sz)
    (hy : ev s y = .ptr r c) (hm : moves s ps = (cs, s1)) (hlen : c + cs.length ≤ (gr s1.r r).length) : Good P d o a w S pl s .any (rewrite s1 r c cs psplice cs.length) := by
  obtain ⟨r1, r2⟩ := (h.ev x).cells hc
  obtain ⟨g1, g2, g3, g4⟩ := moves_ok h r1 r2 hm
  have h2 := h.ev y
  rw [hy] at h2
  simp only [RepV, RepCell] at h2
  obtain ⟨b, q, hmem, e1⟩ := h2
  obtain ⟨pl', k1, k2, k5⟩ := g1.rewrite g3 hmem hlen
  have hlv : (a.eval x).cells.toList.length = t.sz := by rw [r1.len, hl]
  have hcs : ∀ j, j < (a.eval x).cells.toList.length → (w.cell? ⟨b, q + c + j, none⟩).isSome = true ∧ w.frozen? ⟨b, q + c + j, none⟩ = false := fun j hj => by
    obtain ⟨e1, e2⟩ := g1.mem r b q (c + j) hmem (by rw [g3.len] at hj; omega)
    rw [show q + (c + j) = q + c + j by omega] at e1 e2
    exact ⟨by have := e1; unfold at_ at this; simp [this], e2⟩
  have hrun := run_storeV (w := w) (hD e t ht) (b := b) (q := q + c) hlv r2 (fun j hj => (hcs j hj).1) (fun j hj => (hcs j hj).2)
  refine ⟨undef, _, S, pl', .inr ⟨?_, rfl⟩, k1, by simp [RepV], ?_, fun _ => (by rw [ho]; simp only [bxS, hy, hc]; have hcl : cs.length = ps.length := (by rw [← g3.len, r1.len]); rw [← hcl]; exact k5 d)⟩
  · simp [execOp, ho, Instr.storeAt, Instr.sureAddr, e1, hrun]
  · refine ⟨Fr.setCells _ _ w fun j hj => ⟨r, none, q, hmem, by omega, ?_⟩, fun _ _ _ _ h => h, fun _ _ h => .inl h, fun _ _ h => .inl h, fun b' x' hx' => ?_⟩
    · rw [← g2.len, g3.len] at *
      omega
    · rcases k2 b' x' hx' with h' | ⟨j, hj⟩
      · exact .inl (g2.owned h')
      · exact .inl (g4 j b' x' hj)
end
end Go.Ab
namespace Go.Ab
open Go.RowKit
set_option linter.unusedVariables false
set_option linter.unusedSimpArgs false
section
variable {P : Program} {D : TypeId → Option TD} {w : World} {S : Fl → Cset} {pl : Pl} {s s' : St} {a : Act} {o : Oper} {d : Nat} {oks : List Bool} {v : PV}
def addS (S : Fl → Cset) (R : Cset) : Fl → Cset := fun f b x => S f b x ∨ R b x
theorem Rep.grow {a : Array Value} (h : Rep w S pl s a) {R : Cset} (hR : ∀ b x, R b x → ¬ owned s pl b x ∧ b < w.heap.size) : Rep w (addS S R) pl s a := by
  have k : ∀ p v, RepV w S s pl p v → RepV w (addS S R) s pl p v := fun p v hv =>
    RepV.keep (K := fun _ _ => True) (M := fun _ => True) ⟨fun _ _ _ _ _ _ h => h, fun _ _ _ _ h => .inl h, fun _ _ _ => rfl, fun r c o' _ ho => ⟨o', ho, rfl, rfl⟩, fun _ _ => rfl⟩ (okV.all (fun _ _ => trivial) (fun _ => trivial) p) hv
  refine ⟨h.len, fun i => k _ _ (h.slots i), fun r j hj => ?_, h.mem, h.disj, fun b x hb ho => ?_, fun b x hb => ?_, fun b x hb => ?_, h.stat.mono fun b x hb => .inl hb⟩
  · obtain ⟨h1, h2⟩ := h.roots r j hj
    exact ⟨h1.turn (fun o _ ho => ho.keep (Fr.refl (fun _ _ => False) w) (fun _ _ _ h => h) (fun _ _ _ _ h => h) (fun _ _ h => .inl h)) (k _ _), h2⟩
  · rcases hb with hb | hb
    · exact h.apart b x hb ho
    · exact (hR b x hb).1 ho
  · exact hb.imp (h.sub b x) id
  · rcases hb with hb | hb
    · exact h.live b x hb
    · exact (hR b x hb).2
theorem OwnRow.toRepC {S S' : Cset} {t : Ty} {l : List t.val} {v : Value} (h : OwnRow w S t l v) (hS : ∀ b x, S b x → S' b x) (hR : ∀ b x, rowRange t v b x → S' b x) : RepC w S' (.slice t) l [v] := by
  rcases h with ⟨rfl, rfl⟩ | ⟨b, cap, c, e, fz, rfl, hle, hh, hsz, hfz, hrow⟩
  · exact ⟨none, 0, rfl, by simp, by simp⟩
  · refine ⟨_, cap, rfl, hle, fun _ => ⟨at_ b 0, rfl, rfl, fun i x hx => ?_⟩⟩
    obtain ⟨row, r1, r2, r3⟩ := hrow i x hx
    have hi : i < l.length := (List.getElem?_eq_some_iff.1 hx).1
    refine ⟨row, r1, fun j u hu => ⟨?_, hR b _ ⟨_, _, _, rfl, rfl, ?_⟩⟩, RepC.mono (fun _ _ _ _ h => h) hS r3⟩
    · unfold World.cell? at_
      simp only [hh, Nat.zero_add]
      simpa using r2 j u hu
    · have hj : j < t.sz' := by rw [← r1]; exact (List.getElem?_eq_some_iff.1 hu).1
      have : (i + 1) * t.sz' ≤ cap * t.sz' := Nat.mul_le_mul_right _ (by omega)
      rw [Nat.add_mul] at this
      simp only [at_]
      omega
def RootL (w : World) (S : Fl → Cset) (s : St) (pl : Pl) (S' : Cset) : List PV → List Value → Prop
  | [], vs => vs = []
  | p :: ps, vs => ∃ u us, vs = u :: us ∧ RepRoot w S s pl p u ∧ u.oneCell' = true ∧ (∀ o, rowOf p = some o → ∀ b x, rowRange o.t u b x → S' b x) ∧ RootL w S s pl S' ps us
theorem RootL.of : ∀ {cs : List PV} {vs : List Value} {S' : Cset}, vs.length = cs.length → (∀ j, j < cs.length → RepRoot w S s pl (gt cs j) (vs.getD j undef) ∧ (vs.getD j undef).oneCell' = true) →
    (∀ j b x, newRng none cs vs (some j) b x → S' b x) → RootL w S s pl S' cs vs
  | [], vs, S', hl, _, _ => by simp only [RootL]; exact List.length_eq_zero_iff.1 (by simpa using hl)
  | p :: ps, [], S', hl, _, _ => by simp at hl
  | p :: ps, v :: vs, S', hl, h, hR => by
    simp only [RootL]
    have h0 := h 0 (by simp)
    simp only [gt, List.getD_cons_zero] at h0
    exact ⟨v, vs, rfl, h0.1, h0.2, fun o ho b x hx => hR 0 b x (newRng_cons_zero.2 ⟨o, ho, hx⟩), RootL.of (by simpa using hl) (fun j hj => by simpa [gt] using h (j + 1) (by simpa using hj)) (fun j b x hj => hR (j + 1) b x (newRng_cons_succ.2 hj))⟩
theorem dec_rep {S' : Cset} (hS : ∀ b x, S .imm b x → S' b x) : ∀ {t : Ty} {cs rest : List PV} {vs : List Value} {y : t.val}, RootL w S s pl S' cs vs → dec t cs = some (y, rest) →
    ∃ v1 v2, vs = v1 ++ v2 ∧ RepC w S' t y v1 ∧ RootL w S s pl S' rest v2
  | .int k, [], rest, vs, y, h, hd => by simp [dec] at hd
  | .int k, p :: r, rest, vs, y, h, hd => by
    cases p <;> simp only [dec, reduceCtorEq] at hd
    rename_i k' n
    split at hd
    · rename_i e
      subst e
      simp only [Option.some.injEq, Prod.mk.injEq] at hd
      obtain ⟨rfl, rfl⟩ := hd
      simp only [RootL] at h
      obtain ⟨u, us, rfl, h1, _, _, h2⟩ := h
      simp only [RepRoot, rowOf, RepV, RepCell] at h1
      exact ⟨[u], us, rfl, by simp [RepC, h1], h2⟩
    · simp at hd
  | .bool, [], rest, vs, y, h, hd => by simp [dec] at hd
  | .bool, p :: r, rest, vs, y, h, hd => by
    cases p <;> simp only [dec, reduceCtorEq, Option.some.injEq, Prod.mk.injEq] at hd
    obtain ⟨rfl, rfl⟩ := hd
    simp only [RootL] at h
    obtain ⟨u, us, rfl, h1, _, _, h2⟩ := h
    simp only [RepRoot, rowOf, RepV, RepCell] at h1
    exact ⟨[u], us, rfl, by simp [RepC, h1], h2⟩
  | .str, [], rest, vs, y, h, hd => by simp [dec] at hd
  | .str, p :: r, rest, vs, y, h, hd => by
    cases p <;> simp only [dec, reduceCtorEq, Option.some.injEq, Prod.mk.injEq] at hd
    obtain ⟨rfl, rfl⟩ := hd
    simp only [RootL] at h
    obtain ⟨u, us, rfl, h1, _, _, h2⟩ := h
    simp only [RepRoot, rowOf, RepV, RepCell] at h1
    exact ⟨[u], us, rfl, by simp [RepC, h1], h2⟩
  | .slice t, [], rest, vs, y, h, hd => by simp [dec] at hd
  | .slice t, p :: r, rest, vs, y, h, hd => by
    cases p <;> simp only [dec, reduceCtorEq, Option.some.injEq, Prod.mk.injEq] at hd
    · rename_i f t' l
      split at hd
      · simp at hd
      · rename_i hf
        split at hd
        · rename_i e
          subst e
          simp only [Option.some.injEq, Prod.mk.injEq] at hd
          obtain ⟨rfl, rfl⟩ := hd
          simp only [RootL] at h
          obtain ⟨u, us, rfl, h1, _, hR, h2⟩ := h
          cases f
          · simp only [RepRoot, rowOf, RepV, RepCell] at h1
            exact ⟨[u], us, rfl, RepC.mono (fun _ _ _ _ h => h) hS h1, h2⟩
          · exact absurd (.inl rfl) hf
          · simp only [RepRoot, rowOf] at h1
            exact ⟨[u], us, rfl, h1.toRepC hS (fun b x hx => hR _ rfl b x hx), h2⟩
          · exact absurd (.inr rfl) hf
        · simp at hd
    · obtain ⟨rfl, rfl⟩ := hd
      simp only [RootL] at h
      obtain ⟨u, us, rfl, h1, _, hR, h2⟩ := h
      simp only [RepRoot, rowOf, RepV, RepCell] at h1
      subst h1
      exact ⟨[_], us, rfl, ⟨none, 0, rfl, by simp, by simp⟩, h2⟩
  | .pair a b, cs, rest, vs, y, h, hd => by
    simp only [dec] at hd
    cases ha : dec a cs with
    | none => simp [ha] at hd
    | some q =>
      obtain ⟨x1, r1⟩ := q
      simp only [ha] at hd
      cases hb : dec b r1 with
      | none => simp [hb] at hd
      | some q =>
        obtain ⟨x2, r2⟩ := q
        simp only [hb, Option.some.injEq, Prod.mk.injEq] at hd
        obtain ⟨rfl, rfl⟩ := hd
        obtain ⟨v1, v2, rfl, g1, g2⟩ := dec_rep hS h ha
        obtain ⟨v3, v4, rfl, g3, g4⟩ := dec_rep hS g2 hb
        exact ⟨v1 ++ v3, v4, by simp, ⟨v1, v3, rfl, g1, g3⟩, g4⟩
  | .unit, cs, rest, vs, y, h, hd => by
    simp only [dec, Option.some.injEq, Prod.mk.injEq] at hd
    obtain ⟨_, rfl⟩ := hd
    exact ⟨[], vs, rfl, rfl, h⟩
  | .opq, [], rest, vs, y, h, hd => by simp [dec] at hd
  | .opq, p :: r, rest, vs, y, h, hd => by
    simp only [dec, Option.some.injEq, Prod.mk.injEq] at hd
    obtain ⟨_, rfl⟩ := hd
    simp only [RootL] at h
    obtain ⟨u, us, rfl, h1, h3, _, h2⟩ := h
    exact ⟨[u], us, rfl, ⟨u, rfl, h3⟩, h2⟩
  | .sum _ _, cs, rest, vs, y, h, hd => by simp [dec] at hd
end
end Go.Ab
namespace Go.Ab
open Go.RowKit
set_option linter.unusedVariables false
set_option linter.unusedSimpArgs false
section
variable {P : Program} {D : TypeId → Option TD} {w w' : World} {S : Fl → Cset} {pl : Pl} {s s' : St} {a : Act} {o : Oper} {d : Nat} {oks : List Bool} {v : PV}
theorem RepV.world (fr : Fr (fun _ _ => False) w w') {p : PV} {v : Value} (h : RepV w S s pl p v) : RepV w' S s pl p v :=
  RepV.keep (K := fun _ _ => True) (M := fun _ => True) ⟨fun _ _ _ _ _ _ h => fr.cell (fun h => h) h, fun _ _ _ _ h => h, fun _ _ _ => rfl, fun r c o' _ ho => ⟨o', ho, rfl, rfl⟩, fun _ _ => rfl⟩ (okV.all (fun _ _ => trivial) (fun _ => trivial) p) h
theorem Rep.world {a : Array Value} (h : Rep w S pl s a) (fr : Fr (fun _ _ => False) w w') : Rep w' S pl s a := by
  refine ⟨h.len, fun i => (h.slots i).world fr, fun r j hj => ?_, fun r b o j hm hj => ?_, h.disj, h.apart, h.sub, fun b x hb => Nat.lt_of_lt_of_le (h.live b x hb) fr.size, h.stat.step fr (fun _ _ hx => hx.elim) (fun _ _ h => h)⟩
  · obtain ⟨h1, h2⟩ := h.roots r j hj
    exact ⟨h1.turn (fun o _ ho => ho.keep fr (fun _ _ _ h => h) (fun _ _ _ _ h => fr.cell (fun h => h) h) (fun _ _ h => h)) (RepV.world fr), h2⟩
  · obtain ⟨h1, h2⟩ := h.mem r b o j hm hj
    exact ⟨fr.cell (fun h => h) h1, by rw [fr.frozen (a := at_ b (o + j)) (cell_lt h1)]; exact h2⟩
theorem lay_row (h : Rep w S pl s a.tmps) (d : Nat) {t : Ty} {l : List t.val} {c : Array Value} {e : TypeId} {cap : Nat} (hle : l.length ≤ cap) (hsz : cap * t.sz' ≤ c.size) {fz : Nat × Nat} (hfz : ∀ x, x < cap * t.sz' → ¬ (fz.1 ≤ x ∧ x < fz.2))
    (hrow : ∀ (i : Nat) (x : t.val), l[i]? = some x → ∃ row : List Value, row.length = t.sz' ∧ (∀ (j : Nat) (u : Value), row[j]? = some u → c[i * t.sz' + j]? = some u) ∧ RepC w (S .imm) t x row)
    {w' : World} (fr : Fr (fun _ _ => False) w w') (hh : w'.heap[w.heap.size]? = some (.cells c e fz)) :
    ∃ pl', Rep w' S pl' (lay s d [.sl .own t l]) a.tmps ∧ RepV w' S (lay s d [.sl .own t l]) pl' (.view d 0) (.slice (some ⟨w.heap.size, 0, none⟩) l.length cap) ∧
      (∀ b x, owned (lay s d [.sl .own t l]) pl' b x → owned s pl b x ∨ w.heap.size ≤ b) ∧ Stay d pl pl' := by
  have h1 := h.world fr
  have hown : OwnRow w' (S .imm) t l (.slice (some (at_ w.heap.size 0)) l.length cap) := by
    refine .inr ⟨w.heap.size, cap, c, e, fz, rfl, hle, hh, hsz, hfz, fun i x hx => ?_⟩
    obtain ⟨row, r1, r2, r3⟩ := hrow i x hx
    exact ⟨row, r1, r2, RepC.mono (fun _ _ _ _ h => fr.cell (fun h => h) h) (fun _ _ h => h) r3⟩
  have hn : ∀ b x, rowRange t (.slice (some (at_ w.heap.size 0)) l.length cap) b x → b = w.heap.size := fun b x ⟨q, n', cap', e1, e2, _⟩ => by
    simp only [Value.slice.injEq, Option.some.injEq] at e1
    obtain ⟨rfl, _, _⟩ := e1
    exact e2.symm
  have hf : Float w' S s pl [.sl .own t l] [.slice (some (at_ w.heap.size 0)) l.length cap] := by
    refine Float.nil.cons ?_ rfl (fun o' ho b x hx => ?_)
    · unfold RepRoot; simpa [rowOf] using hown
    · simp only [rowOf, Option.some.injEq] at ho
      subst ho
      have hb := hn b x hx
      refine ⟨fun ⟨r, j, hj⟩ => ?_, fun hS => ?_, fun j hj => by simp [newRngF, gt, rowOf] at hj⟩
      · have := h.rng_lt hj; omega
      · have := h.live b x hS; omega
  obtain ⟨g1, g2⟩ := h1.lay hf d none w' (Fr.refl _ w') (fun b o e => by cases e) (fun b o j e => by cases e)
  refine ⟨_, g1, ?_, fun b x hx => ?_, Stay.set _ _ _ _⟩
  · simp only [RepV, RepCell]
    exact ⟨by simp [Pl.set, at_], _, _, _, rfl⟩
  · rcases g2 b x hx with h' | ⟨u, hu⟩
    · exact .inl h'
    · right
      cases u with
      | none => obtain ⟨_, e, _⟩ := hu; cases e
      | some j =>
        cases j with
        | zero =>
          obtain ⟨o', e1, e2⟩ := hu
          simp only [gt, rowOf, Option.some.injEq] at e1
          subst e1
          have := hn b x (by simpa using e2)
          omega
        | succ j => obtain ⟨o', e1, e2⟩ := hu; simp [gt, rowOf] at e1
theorem rowsOf_ok {t : Ty} : ∀ {l : List (Nat × Operand)} {i : Nat} {s s' : St} {S : Fl → Cset} {ys : List t.val}, Rep w S pl s a.tmps → rowsOf t i l s = some (ys, s') →
    ∃ S', Rep w S' pl s' a.tmps ∧ Fewer s s' ∧ (∀ f b x, S f b x → S' f b x) ∧ (∀ f b x, S' f b x → S f b x ∨ owned s pl b x) ∧
      l.map (fun q => (q.1, a.eval q.2)) = ((l.map fun q => a.eval q.2).zipIdx i).map (fun x => (x.2, x.1)) ∧ ys.length = l.length ∧
      (∀ u ∈ l.map (fun q => a.eval q.2), u.cells.size = t.sz') ∧ ∀ (k : Nat) (y : t.val), ys[k]? = some y → ∃ u, (l.map fun q => a.eval q.2)[k]? = some u ∧ RepC w (S' .imm) t y u.cells.toList
  | [], i, s, s', S, ys, h, hr => by
    simp only [rowsOf, Option.some.injEq, Prod.mk.injEq] at hr
    obtain ⟨rfl, rfl⟩ := hr
    exact ⟨S, h, Fewer.refl _, fun _ _ _ h => h, fun _ _ _ h => .inl h, rfl, rfl, by simp, by simp⟩
  | (j, x) :: l, i, s, s', S, ys, h, hr => by
    simp only [rowsOf] at hr
    split at hr
    · rename_i hij
      subst hij
      cases hc : cells (ev s x) with
      | none => simp [hc] at hr
      | some ps =>
      simp only [hc] at hr
      cases hm : moves s ps with
      | mk cs s1 =>
      simp only [hm] at hr
      split at hr
      · rename_i y hd
        cases hr2 : rowsOf t (j + 1) l s1 with
        | none => simp [hr2] at hr
        | some q =>
        obtain ⟨ys', s2⟩ := q
        simp only [hr2, Option.some.injEq, Prod.mk.injEq] at hr
        obtain ⟨rfl, rfl⟩ := hr
        obtain ⟨r1, r2⟩ := (h.ev x).cells hc
        obtain ⟨g1, g2, g3, g4⟩ := moves_ok h r1 r2 hm
        have hS : ∀ b z, (fun b z => ∃ j, newRng none cs (a.eval x).cells.toList (some j) b z) b z → ¬ owned s1 pl b z ∧ b < w.heap.size := fun b z ⟨k, hk⟩ => by
          refine ⟨(g3.apart k b z hk).1, ?_⟩
          obtain ⟨r, j', hj'⟩ := g4 k b z hk
          exact h.rng_lt hj'
        have g5 := g1.grow (R := fun b z => ∃ j, newRng none cs (a.eval x).cells.toList (some j) b z) hS
        have hroot := RootL.of (S' := addS S (fun b z => ∃ j, newRng none cs (a.eval x).cells.toList (some j) b z) .imm) g3.len g3.rep (fun k b z hk => .inr ⟨k, hk⟩)
        obtain ⟨v1, v2, e1, e2, e3⟩ := dec_rep (fun b z hb => .inl hb) hroot hd
        simp only [RootL] at e3
        subst e3
        simp only [List.append_nil] at e1
        subst e1
        obtain ⟨S', k1, k2, k3, k4, k5, k6, k7, k8⟩ := rowsOf_ok g5 hr2
        refine ⟨S', k1, g2.trans k2, fun f b z hz => k3 f b z (.inl hz), fun f b z hz => ?_, ?_, by simp [k6], ?_, ?_⟩
        · rcases k4 f b z hz with (hz | ⟨k, hk⟩) | hz
          · exact .inl hz
          · exact .inr (g4 k b z hk)
          · exact .inr (g2.owned hz)
        · simp only [List.map_cons, List.zipIdx_cons, List.cons.injEq, true_and]
          exact k5
        · intro u hu
          rcases List.mem_cons.1 hu with rfl | hu
          · have := e2.len; simpa using this
          · exact k7 u hu
        · intro k y' hy
          cases k with
          | zero =>
            simp only [List.getElem?_cons_zero, Option.some.injEq] at hy
            subst hy
            exact ⟨_, rfl, RepC.mono (fun _ _ _ _ h => h) (fun b z hz => k3 .imm b z hz) e2⟩
          | succ k => simpa using k8 k y' (by simpa using hy)
      · simp at hr
    · simp at hr
theorem op_buildSlice {e : TypeId} {n : Nat} {ps : Array (Nat × Operand)} {td de : TD} {t : Ty} {ys : List t.val} (hD : Dok P D) (ho : o.op = .buildSlice e n ps) (h : Rep w S pl s a.tmps) (ht : D e = some td) (he : elemTy D td = some (t, de))
    (hn : ps.toList.length = n) (hz : 0 < t.sz') (hmax : n * t.sz' ≤ 16777216) (hr : rowsOf t 0 ps.toList s = some (ys, s')) : Good P d o a w S pl s (.view d 0) (lay s' d [.sl .own t ys]) := by
  obtain ⟨S', k1, k2, k3, k4, k5, k6, k7, k8⟩ := rowsOf_ok h hr
  obtain ⟨e', i, _, hu, _, _, hsz, hti, _, _, ⟨z, hz1, _⟩, _⟩ := elem_ok hD ht he w
  let us := ps.toList.map fun q => a.eval q.2
  let c : Array Value := (us.flatMap fun v => v.cells.toList).toArray
  have hlen : us.length = n := by simp [us, ← hn]
  have hfill : ∀ z0 : Array Value, z0.size = n * t.sz' → Instr.fill (fun i => some (i * t.sz', t.sz')) z0 (ps.toList.map fun q => (q.1, a.eval q.2)) = some c := fun z0 hz0 => by
    rw [k5]
    exact Go.Great.fill_whole hz us z0 k7 (by rw [hlen, hz0])
  have hcs : c.size = n * t.sz' := by
    have : ∀ l : List Value, (∀ u ∈ l, u.cells.size = t.sz') → (l.flatMap fun v => v.cells.toList).length = l.length * t.sz' := fun l => by
      induction l with
      | nil => simp
      | cons u l ih =>
        intro hl
        simp only [List.flatMap_cons, List.length_append, List.length_cons]
        rw [ih (fun v hv => hl v (by simp [hv]))]
        have := hl u (by simp)
        simp [this, Nat.add_mul]
        omega
    simp only [c, List.size_toArray]
    rw [this us k7, hlen]
  have hrow : ∀ (i : Nat) (x : t.val), ys[i]? = some x → ∃ row : List Value, row.length = t.sz' ∧ (∀ (j : Nat) (u : Value), row[j]? = some u → c[i * t.sz' + j]? = some u) ∧ RepC w (S' .imm) t x row := fun i x hx => by
    obtain ⟨u, hu, hrep⟩ := k8 i x hx
    refine ⟨u.cells.toList, hrep.len, fun j v hv => ?_, hrep⟩
    have hj : j < t.sz' := by rw [← hrep.len]; exact (List.getElem?_eq_some_iff.1 hv).1
    have := Go.Great.flat_get hz us k7 (i * t.sz' + j)
    simp only [c, List.getElem?_toArray]
    rw [this]
    have h1 : (i * t.sz' + j) / t.sz' = i := by
      rw [Nat.add_comm, Nat.add_mul_div_right _ _ hz, Nat.div_eq_of_lt hj, Nat.zero_add]
    have h2 : (i * t.sz' + j) % t.sz' = j := by
      rw [Nat.add_comm, Nat.add_mul_mod_self_right, Nat.mod_eq_of_lt hj]
    rw [h1, h2, hu]
    simpa using hv
  have hle : ys.length = n := by rw [k6, hn]
  obtain ⟨pl', g1, g2, g3, g4⟩ := lay_row k1 d (t := t) (l := ys) (c := c) (e := e') (cap := n) (by omega) (by rw [hcs]; exact Nat.le_refl _) (fz := (0, 0)) (fun x _ hh => by omega) hrow
    (Fr.alloc _ w (.cells c e')) (by simp)
  rw [hle] at g2
  refine ⟨_, _, S', pl', .inl ?_, g1, g2, ?_, fun _ => g4.toB _⟩
  · have hp : (Array.map (fun x => (x.fst, a.eval x.snd)) ps).toList = ps.toList.map fun q => (q.1, a.eval q.2) := by simp
    have hmax' : ¬ (2 ^ 24 < n * t.sz') := by omega
    simp only [execOp, ho, Instr.buildSlice, Sem.run_bind, hu, Result.andThen_ok, hsz]
    rw [if_neg (by omega)]
    by_cases h0 : n * t.sz' = 0
    · have hf := hfill #[] (by simp [h0])
      have hr0 : (Array.map (fun _ => (default : Value)) (Array.range 0)) = #[] := by simp
      simp [h0, hp, newRow, hn, hr0]
      rw [hf]
      simp
    · have hf := hfill (Array.map (fun x => z.cells[x % z.cells.size]!) (Array.range (n * t.sz'))) (by simp)
      simp [h0, zeroValue, hti, hz1, hp, hf, newRow]
  · refine ⟨Fr.alloc _ w _, fun f _ b x hx => k3 f b x hx, fun b x hx => ?_, fun b x hx => ?_, fun b x hx => ?_⟩
    · rcases k4 _ b x hx with h' | h'
      · exact .inl h'
      · exact .inr (.inl h')
    · rcases k4 _ b x hx with h' | h'
      · exact .inl h'
      · exact .inr (.inl h')
    · rcases g3 b x hx with h' | h'
      · exact .inl (k2.owned h')
      · exact .inr h'
end
end Go.Ab
namespace Go.Ab
open Go.RowKit
set_option linter.unusedVariables false
set_option linter.unusedSimpArgs false
section
variable {P : Program} {D : TypeId → Option TD} {w w' : World} {S : Fl → Cset} {pl : Pl} {s s' : St} {a : Act} {o : Oper} {d : Nat} {oks : List Bool} {v : PV}
theorem Rep.world' {a : Array Value} {O : Cset} (h : Rep w S pl s a) (fr : Fr O w w') (hO : ∀ b x, O b x → ¬ owned s pl b x ∧ ¬ S .bor b x) : Rep w' S pl s a := by
  have hc : ∀ f, f = .imm ∨ f = .bor → ∀ b o v, S f b o → w.cell? (at_ b o) = some v → w'.cell? (at_ b o) = some v := fun f hf b o v hS hv => by
    have hb : S .bor b o := by rcases hf with rfl | rfl; exact h.sub _ _ hS; exact hS
    exact fr.cell (fun hh => (hO b o hh).2 hb) hv
  have k : ∀ p v, RepV w S s pl p v → RepV w' S s pl p v := fun p v hv =>
    RepV.keep (K := fun _ _ => True) (M := fun _ => True) ⟨hc, fun _ _ _ _ h => h, fun _ _ _ => rfl, fun r c o' _ ho => ⟨o', ho, rfl, rfl⟩, fun _ _ => rfl⟩ (okV.all (fun _ _ => trivial) (fun _ => trivial) p) hv
  refine ⟨h.len, fun i => k _ _ (h.slots i), fun r j hj => ?_, fun r b o j hm hj => ?_, h.disj, h.apart, h.sub, fun b x hb => Nat.lt_of_lt_of_le (h.live b x hb) fr.size, h.stat.step fr (fun b x hx hS => (hO b x hx).2 (h.sub _ _ hS)) (fun _ _ h => h)⟩
  · obtain ⟨h1, h2⟩ := h.roots r j hj
    exact ⟨h1.turn (fun o ho hoo => hoo.keep fr (fun b x hx hh => (hO b x hh).1 ⟨r, some j, o, ho, hx⟩) (hc .imm (.inl rfl)) (fun _ _ h => h)) (k _ _), h2⟩
  · obtain ⟨h1, h2⟩ := h.mem r b o j hm hj
    refine ⟨fr.cell (fun hh => (hO _ _ hh).1 ⟨r, none, o, hm, by omega, by omega⟩) h1, by rw [fr.frozen (a := at_ b (o + j)) (cell_lt h1)]; exact h2⟩
theorem lay_float (h : Rep w S pl s a.tmps) (d : Nat) {t : Ty} {l : List t.val} {v : Value} (hown : OwnRow w (S .imm) t l v) (hv : v.oneCell' = true) (hn : ∀ b x, rowRange t v b x → ¬ owned s pl b x ∧ ¬ S .bor b x) :
    ∃ pl', Rep w S pl' (lay s d [.sl .own t l]) a.tmps ∧ RepV w S (lay s d [.sl .own t l]) pl' (.view d 0) v ∧ (∀ b x, owned (lay s d [.sl .own t l]) pl' b x → owned s pl b x ∨ rowRange t v b x) ∧ Stay d pl pl' := by
  have hf : Float w S s pl [.sl .own t l] [v] := by
    refine Float.nil.cons ?_ hv (fun o' ho b x hx => ?_)
    · unfold RepRoot; simpa [rowOf] using hown
    · simp only [rowOf, Option.some.injEq] at ho
      subst ho
      exact ⟨(hn b x hx).1, (hn b x hx).2, fun j hj => by simp [newRngF, gt, rowOf] at hj⟩
  obtain ⟨g1, g2⟩ := h.lay hf d none w (Fr.refl _ w) (fun b o e => by cases e) (fun b o j e => by cases e)
  refine ⟨_, g1, ?_, fun b x hx => ?_, Stay.set _ _ _ _⟩
  · simp only [RepV, RepCell]
    exact ⟨by simp [Pl.set], hown.sliceOf⟩
  · rcases g2 b x hx with h' | ⟨u, hu⟩
    · exact .inl h'
    · right
      cases u with
      | none => obtain ⟨_, e, _⟩ := hu; cases e
      | some j =>
        cases j with
        | zero =>
          obtain ⟨o', e1, e2⟩ := hu
          simp only [gt, rowOf, Option.some.injEq] at e1
          subst e1
          simpa using e2
        | succ j => obtain ⟨o', e1, e2⟩ := hu; simp [gt, rowOf] at e1
theorem zOkL_one {p : PV} {zs : List Value} (h : zOkL [p] zs = true) : ∃ z, zs = [z] ∧ zOk p z = true := by
  cases zs with
  | nil => simp [zOkL] at h
  | cons z zs =>
    cases zs with
    | nil => simp only [zOkL, Bool.and_true] at h; exact ⟨z, rfl, h⟩
    | cons _ _ => simp [zOkL] at h
theorem zOkL_append : ∀ {p1 p2 : List PV} {zs : List Value}, zOkL (p1 ++ p2) zs = true → ∃ z1 z2, zs = z1 ++ z2 ∧ zOkL p1 z1 = true ∧ zOkL p2 z2 = true
  | [], _, zs, h => ⟨[], zs, rfl, rfl, h⟩
  | p :: ps, p2, [], h => by simp [zOkL] at h
  | p :: ps, p2, z :: zs, h => by
    simp only [List.cons_append, zOkL, Bool.and_eq_true] at h
    obtain ⟨z1, z2, rfl, h1, h2⟩ := zOkL_append h.2
    exact ⟨z :: z1, z2, rfl, by simp [zOkL, h.1, h1], h2⟩
theorem zero_repC {S : Cset} : ∀ {t : Ty} {zs : List Value}, zOkL (zero t) zs = true → RepC w S t t.dflt zs
  | .int k, zs, h => by
    obtain ⟨z, rfl, hz⟩ := zOkL_one h
    have h1 := (zero_rep (w := w) (S := fun _ _ _ => False) (s := ⟨[], []⟩) (pl := ⟨fun _ => none, fun _ _ => undef⟩) (ps := zero (.int k)) (vs := [z]) (by simpa [zero, zOkL] using hz)).1
    simp only [zero, RepL, RepV, RepCell] at h1
    obtain ⟨u, us, e, rfl, rfl⟩ := h1
    simpa [RepC, Ty.dflt] using e
  | .bool, zs, h => by
    obtain ⟨z, rfl, hz⟩ := zOkL_one h
    have h1 := (zero_rep (w := w) (S := fun _ _ _ => False) (s := ⟨[], []⟩) (pl := ⟨fun _ => none, fun _ _ => undef⟩) (ps := zero .bool) (vs := [z]) (by simpa [zero, zOkL] using hz)).1
    simp only [zero, RepL, RepV, RepCell] at h1
    obtain ⟨u, us, e, rfl, rfl⟩ := h1
    simpa [RepC, Ty.dflt] using e
  | .str, zs, h => by
    obtain ⟨z, rfl, hz⟩ := zOkL_one h
    have h1 := (zero_rep (w := w) (S := fun _ _ _ => False) (s := ⟨[], []⟩) (pl := ⟨fun _ => none, fun _ _ => undef⟩) (ps := zero .str) (vs := [z]) (by simpa [zero, zOkL] using hz)).1
    simp only [zero, RepL, RepV, RepCell] at h1
    obtain ⟨u, us, e, rfl, rfl⟩ := h1
    simpa [RepC, Ty.dflt] using e
  | .slice t, zs, h => by
    obtain ⟨z, rfl, hz⟩ := zOkL_one h
    have h1 := (zero_rep (w := w) (S := fun _ _ _ => False) (s := ⟨[], []⟩) (pl := ⟨fun _ => none, fun _ _ => undef⟩) (ps := zero (.slice t)) (vs := [z]) (by simpa [zero, zOkL] using hz)).1
    simp only [zero, RepL, RepV, RepCell] at h1
    obtain ⟨u, us, e, rfl, rfl⟩ := h1
    simp only [List.cons.injEq, and_true] at e
    subst e
    exact ⟨none, 0, rfl, by simp [Ty.dflt], by simp [Ty.dflt]⟩
  | .pair a b, zs, h => by
    obtain ⟨z1, z2, rfl, h1, h2⟩ := zOkL_append h
    exact ⟨z1, z2, rfl, zero_repC h1, zero_repC h2⟩
  | .unit, zs, h => by
    cases zs with
    | nil => rfl
    | cons _ _ => simp [zero, zOkL] at h
  | .opq, zs, h => by
    obtain ⟨z, rfl, hz⟩ := zOkL_one h
    exact ⟨z, rfl, by simpa [zOk] using hz⟩
  | .sum _ _, zs, h => by
    cases zs with
    | nil => rfl
    | cons _ _ => simp [zero, zOkL] at h
theorem RepC.flat {S S' : Cset} : ∀ {t : Ty} {x : t.val} {cs : List Value}, Go.Ab.flat t = true → RepC w S t x cs → RepC w' S' t x cs
  | .int _, _, _, _, h => h
  | .bool, _, _, _, h => h
  | .str, _, _, _, h => h
  | .slice _, _, _, hf, _ => by simp [Go.Ab.flat] at hf
  | .pair a b, _, _, hf, h => by
    simp only [Go.Ab.flat, Bool.and_eq_true] at hf
    obtain ⟨c1, c2, e, h1, h2⟩ := h
    exact ⟨c1, c2, e, h1.flat hf.1, h2.flat hf.2⟩
  | .unit, _, _, _, h => h
  | .opq, _, _, _, h => h
  | .sum _ _, _, _, hf, _ => by simp [Go.Ab.flat] at hf
theorem zOkL_len : ∀ {ps : List PV} {vs : List Value}, zOkL ps vs = true → vs.length = ps.length
  | [], [], _ => rfl
  | [], _ :: _, h => by simp [zOkL] at h
  | _ :: _, [], h => by simp [zOkL] at h
  | p :: ps, v :: vs, h => by simp only [zOkL, Bool.and_eq_true] at h; simp [zOkL_len h.2]
theorem wrap_small {n : Int} (h0 : 0 ≤ n) (h1 : n ≤ 140737488355328) : IntKind.i64.wrap n = n := by
  rw [IntWalk.i64_left]
  exact IntWalk.wrap64_in n (by omega)
theorem op_makeSlice {e : TypeId} {x y : Operand} {td de : TD} {t : Ty} {k k' : IntKind} {n m : Int} (hD : Dok P D) (ho : o.op = .makeSlice e x y) (h : Rep w S pl s a.tmps) (ht : D e = some td) (he : elemTy D td = some (t, de))
    (hx : ev s x = .int k n) (hy : ev s y = .int k' m) (hz : 0 < t.sz') (h0 : 0 ≤ n) (h1 : n ≤ m) (h2 : m * de.bytes ≤ 140737488355328) : Good P d o a w S pl s (.view d 0) (lay s d [.sl .own t (List.replicate n.toNat t.dflt)]) := by
  obtain ⟨e', i, _, hu, _, rfl, hsz, hti, his, hib, ⟨z, hz1, hz2⟩, hpos⟩ := elem_ok hD ht he w
  have hx1 := h.ev x
  have hy1 := h.ev y
  rw [hx] at hx1
  rw [hy] at hy1
  simp only [RepV, RepCell] at hx1 hy1
  have hm : m ≤ 140737488355328 := by
    have : m * 1 ≤ m * de.bytes := Int.mul_le_mul_of_nonneg_left (by omega) (by omega)
    omega
  have w1 := wrap_small h0 (by omega : n ≤ 140737488355328)
  have w2 := wrap_small (by omega : 0 ≤ m) hm
  have hzl : z.cells.size = de.row.sz' := by
    have := (zero_repC (w := w) (S := fun _ _ => True) hz2).len
    simpa using this
  let c : Array Value := (Array.range (m.toNat * de.row.sz')).map fun x => z.cells[x % z.cells.size]!
  obtain ⟨pl', g1, g2, g3, g4⟩ := lay_row h d (t := de.row) (l := List.replicate n.toNat de.row.dflt) (c := c) (e := e') (cap := m.toNat) (by simp; omega) (by simp [c]) (fz := (0, 0)) (fun x _ hh => by omega)
    (fun i x hx => by
      have hi : i < n.toNat := by have := (List.getElem?_eq_some_iff.1 hx).1; simpa using this
      rw [List.getElem?_replicate, if_pos hi] at hx
      obtain rfl := Option.some.inj hx
      refine ⟨z.cells.toList, by simpa using hzl, fun j u hu => ?_, zero_repC hz2⟩
      have hj : j < de.row.sz' := by
        have := (List.getElem?_eq_some_iff.1 hu).1
        rw [← hzl]
        simpa using this
      have hlt : i * de.row.sz' + j < m.toNat * de.row.sz' := by
        have : (i + 1) * de.row.sz' ≤ m.toNat * de.row.sz' := Nat.mul_le_mul_right _ (by omega)
        rw [Nat.add_mul] at this
        omega
      have hmod : (i * de.row.sz' + j) % z.cells.size = j := by rw [hzl, Nat.add_comm, Nat.add_mul_mod_self_right, Nat.mod_eq_of_lt hj]
      simp only [c]
      rw [Array.getElem?_map, Array.getElem?_range]
      simp only [hlt, if_true, Option.map_some, hmod]
      have hu' : z.cells[j]? = some u := by simpa using hu
      rw [← hu']
      simp [getElem!_def, hu'])
    (Fr.alloc _ w (.cells c e')) (by simp)
  have hlr : (List.replicate n.toNat de.row.dflt).length = n.toNat := by simp
  rw [hlr] at g2
  refine ⟨_, _, S, pl', .inl ?_, g1, g2, ?_, fun _ => g4.toB _⟩
  · have t1 : ¬ (m < 0) := by omega
    have t2 : ¬ ((i.bytes : Int) * m > 2 ^ 48) := by rw [hib, Int.mul_comm]; omega
    have t3 : ¬ (n < 0) := by omega
    have t4 : ¬ (n > m) := by omega
    have hns : ¬ (m.toNat * de.row.sz' = 0) ∨ m.toNat * de.row.sz' = 0 := by omega
    simp only [execOp, ho, hx1, hy1, Instr.makeSlice, Sem.run_bind, hu, Result.andThen_ok, asInt, asIntOf, Sem.run_map, Sem.run_pure, hti, w1, w2, run_askRoom, hsz]
    have t2' : decide ((i.bytes : Int) * m > 2 ^ 48) = false := by simpa using t2
    simp only [t1, t3, t4, t2', decide_false, Bool.or_false, Bool.false_eq_true, if_false, Sem.run_bind, hti, run_askRoom, hsz, Result.andThen_ok]
    by_cases hn0 : m.toNat * de.row.sz' = 0
    · have hr0 : Array.range 0 = #[] := rfl
      simp [hn0, newRow, c, hr0]
    · simp [hn0, zeroValue, hti, hz1, newRow, c]
  · refine ⟨Fr.alloc _ w _, fun f _ b x hx => hx, fun b x hx => .inl hx, fun b x hx => .inl hx, fun b x hx => ?_⟩
    rcases g3 b x hx with h' | h'
    · exact .inl h'
    · exact .inr h'
end
end Go.Ab
namespace Go.Ab
open Go.RowKit
set_option linter.unusedVariables false
set_option linter.unusedSimpArgs false
section
variable {P : Program} {D : TypeId → Option TD} {w w' : World} {S : Fl → Cset} {pl : Pl} {s s' : St} {a : Act} {o : Oper} {d : Nat} {oks : List Bool} {v : PV}
def Rows (w : World) (S : Cset) (t : Ty) (l : List t.val) (news : List Value) : Prop :=
  news.length = l.length * t.sz' ∧ ∀ (i : Nat) (x : t.val), l[i]? = some x → ∃ row : List Value, row.length = t.sz' ∧ (∀ (j : Nat) (u : Value), row[j]? = some u → news[i * t.sz' + j]? = some u) ∧ RepC w S t x row
theorem Rows.one {S : Cset} {t : Ty} {l : List t.val} {news : List Value} (hz : 0 < t.sz') (h : Rows w S t l news) : ∀ u ∈ news, u.oneCell' = true := by
  intro u hu
  obtain ⟨j, hj⟩ := List.getElem?_of_mem hu
  have hjl : j < l.length * t.sz' := by rw [← h.1]; exact (List.getElem?_eq_some_iff.1 hj).1
  have hi : j / t.sz' < l.length := (Nat.div_lt_iff_lt_mul hz).2 hjl
  obtain ⟨row, r1, r2, r3⟩ := h.2 (j / t.sz') l[j / t.sz'] (List.getElem?_eq_getElem hi)
  have hm : j % t.sz' < row.length := by rw [r1]; exact Nat.mod_lt _ hz
  have := r2 (j % t.sz') row[j % t.sz'] (List.getElem?_eq_getElem hm)
  rw [show j / t.sz' * t.sz' + j % t.sz' = j by rw [Nat.mul_comm]; exact Nat.div_add_mod j t.sz', hj] at this
  obtain rfl := Option.some.inj this
  exact r3.one _ (List.getElem_mem hm)
theorem Rows.mono {S S' : Cset} {t : Ty} {l : List t.val} {news : List Value} (hw : ∀ b o v, S b o → w.cell? (at_ b o) = some v → w'.cell? (at_ b o) = some v) (hS : ∀ b o, S b o → S' b o) (h : Rows w S t l news) : Rows w' S' t l news :=
  ⟨h.1, fun i x hx => by obtain ⟨row, r1, r2, r3⟩ := h.2 i x hx; exact ⟨row, r1, r2, RepC.mono hw hS r3⟩⟩
theorem Rows.append {S : Cset} {t : Ty} {l m : List t.val} {c1 c2 : List Value} (h : Rows w S t l c1) (k : Rows w S t m c2) : Rows w S t (l ++ m) (c1 ++ c2) := by
  refine ⟨by rw [List.length_append, h.1, k.1, List.length_append, Nat.add_mul], fun i x hx => ?_⟩
  by_cases hi : i < l.length
  · rw [List.getElem?_append_left hi] at hx
    obtain ⟨row, r1, r2, r3⟩ := h.2 i x hx
    refine ⟨row, r1, fun j u hu => ?_, r3⟩
    have hh := r2 j u hu
    rw [List.getElem?_append_left (List.getElem?_eq_some_iff.1 hh).1]
    exact hh
  · rw [List.getElem?_append_right (by omega)] at hx
    obtain ⟨row, r1, r2, r3⟩ := k.2 _ x hx
    refine ⟨row, r1, fun j u hu => ?_, r3⟩
    have hh := r2 j u hu
    have he : i * t.sz' = (i - l.length) * t.sz' + l.length * t.sz' := by rw [← Nat.add_mul]; congr 1; omega
    rw [List.getElem?_append_right (by rw [h.1, he]; omega), h.1, show i * t.sz' + j - l.length * t.sz' = (i - l.length) * t.sz' + j by omega]
    exact hh
theorem Rows.of {S : Cset} {t : Ty} {b q : Nat} : ∀ {l : List t.val} {i0 : Nat}, (∀ (i : Nat) (x : t.val), l[i]? = some x → ∃ row : List Value, row.length = t.sz' ∧ (∀ (j : Nat) (u : Value), row[j]? = some u → w.cell? (at_ b (q + (i0 + i) * t.sz' + j)) = some u) ∧ RepC w S t x row) →
    ∃ news, Rows w S t l news ∧ ∀ (j : Nat) (u : Value), news[j]? = some u → w.cell? (at_ b (q + i0 * t.sz' + j)) = some u
  | [], i0, h => ⟨[], ⟨by simp, by simp⟩, by simp⟩
  | x :: l, i0, h => by
    obtain ⟨row, r1, r2, r3⟩ := h 0 x rfl
    obtain ⟨news, k1, k2⟩ := Rows.of (l := l) (i0 := i0 + 1) (S := S) (fun i y hy => by
      have := h (i + 1) y (by simpa using hy)
      rwa [show i0 + (i + 1) = i0 + 1 + i by omega] at this)
    refine ⟨row ++ news, ?_, fun j u hu => ?_⟩
    · have h1 : Rows w S t [x] row := ⟨by simp [r1], fun i y hy => by
        cases i with
        | zero => simp at hy; subst hy; exact ⟨row, r1, fun j u hu => by simpa using hu, r3⟩
        | succ i => simp at hy⟩
      exact h1.append k1
    · by_cases hj : j < row.length
      · rw [List.getElem?_append_left hj] at hu
        simpa using r2 j u hu
      · rw [List.getElem?_append_right (by omega)] at hu
        have := k2 _ u hu
        rw [Nat.add_mul, r1] at this
        rw [r1] at hj
        rwa [show q + (i0 * t.sz' + 1 * t.sz') + (j - t.sz') = q + i0 * t.sz' + j by omega] at this
theorem at_add' (b q n : Nat) : (at_ b q).add n = at_ b (q + n) := by
  unfold Addr.add at_
  split
  · rename_i h; subst h; rfl
  · rfl
theorem TDok.und_slice {t : TypeId} {td : TD} {e : TypeId} (h : TDok P D t td) (hk : td.k = .slice e) : P.underlying t = some (.slice e) := by
  obtain ⟨u, h1, h2⟩ := h.und
  cases u <;> simp only [TKok] at h2
  all_goals first
    | (have h3 := h2.1; rw [hk] at h3; cases h3; exact h1)
    | (exfalso; have h3 := h2.1; rw [hk] at h3; cases h3; done)
    | (exfalso; obtain ⟨⟨_, h3, _⟩, _⟩ := h2; rw [hk] at h3; cases h3)
theorem TDok.und_str {t : TypeId} {td : TD} (h : TDok P D t td) (hk : td.k = .str) : P.underlying t = some .string := by
  obtain ⟨u, h1, h2⟩ := h.und
  cases u <;> simp only [TKok] at h2
  all_goals first
    | exact h1
    | (exfalso; have h3 := h2.1; rw [hk] at h3; cases h3; done)
    | (exfalso; obtain ⟨⟨_, h3, _⟩, _⟩ := h2; rw [hk] at h3; cases h3)
theorem addr_eta {a : Addr} (h : a.spot = none) : a = at_ a.block a.off := by
  cases a
  simp at h
  subst h
  rfl
def Firsts (P : Program) (size : Nat) (x : Value) (n : Nat) (news : List Value) (w : World) : Prop := ∀ k, k ≤ n → (Builtin.firstCells size k x).run P w = .ok (news.take (k * size)).toArray w
theorem src_rows {S : Cset} {t : Ty} {tx e' : TypeId} {l : List t.val} {a : Addr} {cap : Nat} (hk : P.underlying tx = some (.slice e')) (hz : 0 < t.sz') (hs : a.spot = none)
    (h : ∀ (i : Nat) (x : t.val), l[i]? = some x → ∃ row : List Value, row.length = t.sz' ∧ (∀ (j : Nat) (u : Value), row[j]? = some u → w.cell? (at_ a.block (a.off + i * t.sz' + j)) = some u) ∧ RepC w S t x row) :
    ∃ news, Src P t.sz' tx (.slice (some a) l.length cap) l.length news w ∧ Rows w S t l news ∧ Firsts P t.sz' (.slice (some a) l.length cap) l.length news w := by
  obtain ⟨news, k1, k2⟩ := Rows.of (b := a.block) (q := a.off) (i0 := 0) (S := S) (by simpa using h)
  have key : ∀ (j : Nat) (u : Value), news[j]? = some u → w.cell? (a.add j) = some u := fun j u hu => by
    rw [addr_eta hs, at_add']
    simpa using k2 j u hu
  refine ⟨news, Src.ofSlice w hk a l.length cap news k1.1 key (k1.one hz), k1, fun k hk => ?_⟩
  refine run_firstCells_some (P := P) w t.sz' k a l.length cap _ ?_ fun j u hu => ?_
  · rw [List.length_take, k1.1]
    exact Nat.min_eq_left (Nat.mul_le_mul_right _ hk)
  · rw [List.getElem?_take] at hu
    split at hu
    · exact key j u hu
    · simp at hu
theorem src_empty {S : Cset} {t : Ty} {tx e' : TypeId} {A : Option Addr} {cap : Nat} (hk : P.underlying tx = some (.slice e')) (hz : 0 < t.sz') : ∃ news, Src P t.sz' tx (.slice A 0 cap) 0 news w ∧ Rows w S t ([] : List t.val) news ∧ Firsts P t.sz' (.slice A 0 cap) 0 news w := by
  cases A with
  | none => exact ⟨[], Src.ofNil w hk cap, by simp [Rows], fun k hk => by simp [Builtin.firstCells]⟩
  | some a => exact ⟨[], Src.ofSlice w hk a 0 cap [] (by simp) (by simp) (by simp), by simp [Rows], fun k hk => by
      obtain rfl : k = 0 := by omega
      simpa using run_firstCells_some (P := P) w t.sz' 0 a 0 cap [] (by simp) (by simp)⟩
theorem src_slice {S S' : Cset} {t : Ty} {tx e' : TypeId} {l : List t.val} {v : Value} (hk : P.underlying tx = some (.slice e')) (hz : 0 < t.sz') (h : RepC w S (.slice t) l [v]) (hc : ∀ (x : t.val) row, RepC w S t x row → RepC w S' t x row) :
    ∃ news, Src P t.sz' tx v l.length news w ∧ Rows w S' t l news ∧ Firsts P t.sz' v l.length news w := by
  obtain ⟨A, cap, e, hle, h⟩ := h
  simp only [List.cons.injEq, and_true] at e
  subst e
  by_cases hl : l = []
  · subst hl
    exact src_empty hk hz
  · obtain ⟨a, rfl, hs, h⟩ := h hl
    refine src_rows hk hz hs fun i x hx => ?_
    obtain ⟨row, r1, r2, r3⟩ := h i x hx
    exact ⟨row, r1, fun j u hu => (r2 j u hu).1, hc _ _ r3⟩
theorem OwnRow.cell {S : Cset} {t : Ty} {l : List t.val} {v : Value} (h : OwnRow w S t l v) : (v = .slice none 0 0 ∧ l = []) ∨ ∃ b cap, v = .slice (some (at_ b 0)) l.length cap ∧ l.length ≤ cap ∧
    ∀ (i : Nat) (x : t.val), l[i]? = some x → ∃ row : List Value, row.length = t.sz' ∧ (∀ (j : Nat) (u : Value), row[j]? = some u → w.cell? (at_ b (i * t.sz' + j)) = some u) ∧ RepC w S t x row := by
  rcases h with h | ⟨b, cap, c, e, fz, rfl, hle, hh, hsz, hfz, hrow⟩
  · exact .inl h
  · refine .inr ⟨b, cap, rfl, hle, fun i x hx => ?_⟩
    obtain ⟨row, r1, r2, r3⟩ := hrow i x hx
    refine ⟨row, r1, fun j u hu => ?_, r3⟩
    unfold World.cell? at_
    simp only [hh]
    simpa using r2 j u hu
theorem mayFeed_or {tx : TypeId} {p : PV} (hm : mayFeed D tx p = true) : ∃ td, D tx = some td ∧ ((∃ e, td.k = .slice e ∧ ∀ b, p ≠ .str b) ∨ (td.k = .str ∧ ∃ b, p = .str b)) := by
  unfold mayFeed at hm
  cases hdx : D tx with
  | none => simp [hdx] at hm
  | some td =>
    simp only [hdx] at hm
    refine ⟨td, rfl, ?_⟩
    split at hm
    · simp at hm
    · rename_i h1 h2
      exact .inl ⟨_, h1, fun b e => h2 b e⟩
    · rename_i h1
      exact .inr ⟨h1, _, rfl⟩
    · simp at hm
theorem source_ok (hD : Dok P D) (h : Rep w S pl s a.tmps) {t : Ty} {tx : TypeId} {y : Operand} {m : List t.val} (hs : source s t (ev s y) = some m) (hk : keeps s t (ev s y) = true) (hz : 0 < t.sz') (hm : mayFeed D tx (ev s y) = true) :
    ∃ news, Src P t.sz' tx (a.eval y) m.length news w ∧ Rows w (S .imm) t m news ∧ Firsts P t.sz' (a.eval y) m.length news w := by
  have h1 := h.ev y
  generalize hp : ev s y = p at *
  generalize a.eval y = v at *
  obtain ⟨td, hdx, hm⟩ := mayFeed_or hm
  have hflat : flat t = true → ∀ {S1 S2 : Cset} (x : t.val) row, RepC w S1 t x row → RepC w S2 t x row := fun hf S1 S2 x row hr => hr.flat hf
  rcases hm with ⟨e', hq, hne⟩ | ⟨hq, b, rfl⟩
  · have hu := (hD tx td hdx).und_slice hq
    unfold source at hs
    cases p with
    | sl f t' l =>
      cases f with
      | imm =>
        simp only [look] at hs
        simp only [reduceCtorEq, or_self, if_false] at hs
        split at hs
        · rename_i e; subst e
          obtain rfl := Option.some.inj hs
          simp only [RepV, RepCell] at h1
          exact src_slice hu hz h1 (fun _ _ h => h)
        · simp at hs
      | bor =>
        simp only [look] at hs
        simp only [reduceCtorEq, or_self, if_false] at hs
        split at hs
        · rename_i e; subst e
          obtain rfl := Option.some.inj hs
          simp only [RepV, RepCell] at h1
          have hf : flat t' = true := by simpa [keeps] using hk
          exact src_slice hu hz h1 (fun x row hr => hflat hf x row hr)
        · simp at hs
      | own => simp only [RepV, RepCell] at h1
      | lent => simp only [RepV, RepCell] at h1
    | nil =>
      simp only [look, Option.some.injEq] at hs
      subst hs
      simp only [RepV, RepCell] at h1
      subst h1
      exact src_empty hu hz
    | view r c =>
      simp only [look] at hs
      cases hr : rowAt s r c with
      | none => simp [hr] at hs
      | some o =>
        simp only [hr, reduceCtorEq, or_self, if_false] at hs
        split at hs
        · rename_i e
          obtain ⟨ow, ot, ol⟩ := o
          simp only at e hs
          subst e
          obtain rfl := Option.some.inj hs
          simp only [RepV, RepCell] at h1
          obtain ⟨rfl, _⟩ := h1
          rcases (h.ownAt hr).2.cell with ⟨e1, e2⟩ | ⟨b, cap, e1, e2, e3⟩
          · simp only at e2
            rw [e1, e2]
            exact src_empty hu hz
          · rw [e1]
            exact src_rows hu hz rfl (fun i x hx => by simpa [at_] using e3 i x hx)
        · simp at hs
    | sub r c lo hi =>
      simp only [look] at hs
      cases hr : rowAt s r c with
      | none => simp [hr] at hs
      | some o =>
        simp only [hr, reduceCtorEq, or_self, if_false] at hs
        split at hs
        · rename_i e
          obtain ⟨ow, ot, ol⟩ := o
          simp only at e hs
          subst e
          obtain rfl := Option.some.inj hs
          simp only [RepV, RepCell] at h1
          obtain ⟨_, h1⟩ := h1
          obtain ⟨q, n, cap, A, e1, e2, e3, e4, rfl, e5, e6⟩ := h1 _ hr
          simp only at e4 e6
          have hlen : ((ol.take hi.toNat).drop lo.toNat).length = hi.toNat - lo.toNat := by simp; omega
          rcases (h.ownAt hr).2.cell with ⟨g1, g2⟩ | ⟨b, cap', g1, g2, g3⟩
          · simp only at g2
            have : hi.toNat - lo.toNat = 0 := by rw [g2] at e4; simp at e4; omega
            rw [g2, this]
            simpa using src_empty hu hz
          · by_cases hlt : lo < hi
            · rw [g1] at e1
              simp only [Value.slice.injEq] at e1
              obtain ⟨rfl, rfl, rfl⟩ := e1
              have hA := e6 hlt
              simp only [Option.map_some, at_add', Nat.zero_add] at hA
              subst hA
              rw [← hlen]
              refine src_rows hu hz rfl fun i x hx => ?_
              have hx' : ol[lo.toNat + i]? = some x := by
                rw [List.getElem?_drop, List.getElem?_take] at hx
                split at hx
                · exact hx
                · simp at hx
              obtain ⟨row, r1, r2, r3⟩ := g3 _ x hx'
              refine ⟨row, r1, fun j u hu => ?_, r3⟩
              have := r2 j u hu
              rw [Nat.add_mul] at this
              simpa [at_] using this
            · have hl0 : hi.toNat - lo.toNat = 0 := by omega
              have hnil : (ol.take hi.toNat).drop lo.toNat = [] := List.length_eq_zero_iff.1 (by rw [hlen]; exact hl0)
              rw [hnil, hl0]
              exact src_empty hu hz
        · simp at hs
    | str b => exact absurd rfl (hne b)
    | any => simp [look] at hs
    | int => simp [look] at hs
    | bool => simp [look] at hs
    | isnil => simp [look] at hs
    | ptr => simp [look] at hs
    | aptr => simp [look] at hs
    | eptr => simp [look] at hs
    | iptr => simp [look] at hs
    | rop => simp [look] at hs
    | clo => simp [look] at hs
    | agg => simp [look] at hs
    | tup => simp [look] at hs
  · have hu := (hD tx td hdx).und_str hq
    simp only [source, look] at hs
    split at hs
    · rename_i e
      subst e
      obtain rfl := Option.some.inj hs
      simp only [RepV, RepCell] at h1
      subst h1
      have hl : (s2b b).length = b.size := by
        unfold s2b
        rw [List.length_map, Array.length_toList]
        rfl
      refine ⟨byteCells b, ?_, ⟨by simp only [Rows, hl, Ty.sz']; rw [byteCells_length]; omega, fun i x hx => ?_⟩, fun k hk => ?_⟩
      · rw [hl]
        exact Src.ofString w hu b
      rotate_left
      · simp [Builtin.firstCells, byteCells, Ty.sz']
        apply Array.ext'
        simp [List.map_take]
      · refine ⟨[.int .u8 x], rfl, fun j u hu => ?_, by simp [RepC]⟩
        cases j with
        | succ j => simp at hu
        | zero =>
          simp only [List.getElem?_cons_zero, Option.some.injEq] at hu
          subst hu
          unfold s2b at hx
          unfold byteCells
          simp only [Ty.sz', Nat.mul_one, Nat.add_zero]
          rw [List.getElem?_map] at hx ⊢
          cases hb : b.data.toList[i]? with
          | none => simp [hb] at hx
          | some z => simp [hb] at hx ⊢; exact hx
    · simp at hs
end
end Go.Ab
