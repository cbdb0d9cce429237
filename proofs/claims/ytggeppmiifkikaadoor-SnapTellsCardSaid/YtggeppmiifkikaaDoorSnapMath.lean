/- Pictures, with no program in sight: which may be, with which fault. -/
import Derived.Test.YtggeppmiifkikaaDoorWraps
namespace Go.Proofs.YtggeppmiifkikaaDoor
open Go Go.RowKit

structure It where
  key : ByteArray
  val : ByteArray
  dl : Int
structure Cfg where
  size : Int
  shift : Int
  window : Int
  margin : Int
  hold : Int
  quota : Int
  pin : Int
structure Pic where
  c : Cfg
  kind : Int
  now : Int
  items : List It
/-- "item", "config", "snap", "parse" -/
def tItem : ByteArray := ⟨#[105, 116, 101, 109]⟩
def tConfig : ByteArray := ⟨#[99, 111, 110, 102, 105, 103]⟩
def tSnap : ByteArray := ⟨#[115, 110, 97, 112]⟩
def tParse : ByteArray := ⟨#[112, 97, 114, 115, 101]⟩
/-- The number of an item's error; 0: none. -/
def itC (x : It) : Int := if x.key.size = 0 then 3 else if 64 < x.key.size ∨ 256 < x.val.size then 4 else if x.dl < 0 then 1 else 0
def itE (x : It) : EV := if itC x = 0 then .nil else .fault tItem x.key (.no (itC x))
def inR (n a b : Int) : Prop := a ≤ n ∧ n ≤ b
instance (n a b : Int) : Decidable (inR n a b) := by unfold inR; infer_instance
def cfgOk (c : Cfg) : Prop := inR c.size 0 16777216 ∧ inR c.shift 0 16 ∧ inR c.window 1 1048576 ∧ inR c.margin 0 1073741824 ∧ inR c.hold 1 64 ∧ inR c.quota 1 64
instance (c : Cfg) : Decidable (cfgOk c) := by unfold cfgOk; infer_instance
def cfgC (c : Cfg) : Int := if ¬ inR c.pin (-1) 6 then 7 else if ¬ cfgOk c then 1 else 0
def cfgE (c : Cfg) : EV := if cfgC c = 0 then .nil else .fault tConfig ⟨#[]⟩ (.no (cfgC c))
def overI (now : Int) (x : It) : Bool := decide (0 < x.dl) && decide (x.dl ≤ now)
def hasKey (l : List It) (k : ByteArray) : Bool := l.any fun x => decide (x.key = k)
/-- Does one of the first so many keys stand there twice? -/
def twiceN (l : List It) : Nat → Bool
  | 0 => false
  | j + 1 => twiceN l j || match l[j]? with | some x => hasKey (l.take j) x.key | none => false
def EV.isNil : EV → Bool
  | .nil => true
  | _ => false
def firstE : List It → EV
  | [] => .nil
  | x :: l => if itC x = 0 then firstE l else itE x
/-- What is wrong with a picture, where its numbers are right. -/
def restE (p : Pic) : EV :=
  if (firstE p.items).isNil = false then firstE p.items
  else if p.items.any (overI p.now) then .no 11
  else if twiceN p.items p.items.length then .no 10
  else .nil
def picE0 (p : Pic) : EV :=
  if cfgC p.c ≠ 0 then cfgE p.c
  else if ¬ inR p.kind 0 6 then .no 7
  else if ¬ (inR p.now 0 1099511627776 ∧ (p.items.length : Int) ≤ p.c.size) then .no 1
  else restE p
def wrapE : EV → EV
  | .nil => .nil
  | .no n => .fault tSnap ⟨#[]⟩ (.no n)
  | .fault o k e => .fault tSnap ⟨#[]⟩ (.fault o k e)
def picE (p : Pic) : EV := wrapE (picE0 p)
end Go.Proofs.YtggeppmiifkikaaDoor
