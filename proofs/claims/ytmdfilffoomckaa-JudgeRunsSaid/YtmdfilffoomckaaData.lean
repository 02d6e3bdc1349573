/- The data of a history, as Lean has them; what the witness is, and a key's values: plain definitions. No program in sight. -/
import Derived.Test.YtmdfilffoomckaaLists
namespace Go.Proofs.Ytmdfilffoomckaa

structure IdD where
  s : Int
  q : Int
  deriving DecidableEq, Inhabited

structure ValD where
  kind : Int
  bits : Int
  text : ByteArray
  deriving DecidableEq

instance : Inhabited ValD := ⟨⟨0, 0, ByteArray.empty⟩⟩

structure WrD where
  key : ByteArray
  val : ValD

structure RdD where
  key : ByteArray
  ver : Int

/-- A transaction: its lists, and the slice values that read as them. -/
structure TxnD where
  id : IdD
  reads : List RdD
  writes : List WrD
  ra : Option Addr
  rc : Nat
  wa : Option Addr
  wc : Nat
abbrev TxnD.rv (t : TxnD) : Value := .slice t.ra t.reads.length t.rc
abbrev TxnD.wv (t : TxnD) : Value := .slice t.wa t.writes.length t.wc

structure DoneD where
  txn : TxnD
  yes : Bool
  stamp : Int

structure SeenD where
  id : IdD
  key : ByteArray
  val : ValD

structure SnapD where
  session : Int
  stamp : Int
  floor : Int
  keys : List ByteArray
  vals : List ValD
  ka : Option Addr
  kc : Nat
  va : Option Addr
  vc : Nat
abbrev SnapD.kv (t : SnapD) : Value := .slice t.ka t.keys.length t.kc
abbrev SnapD.vv (t : SnapD) : Value := .slice t.va t.vals.length t.vc

structure HistD where
  done : List DoneD
  seen : List SeenD
  snaps : List SnapD
  da : Option Addr
  dc : Nat
  sa : Option Addr
  sc : Nat
  na : Option Addr
  nc : Nat
abbrev HistD.dv (t : HistD) : Value := .slice t.da t.done.length t.dc
abbrev HistD.sv (t : HistD) : Value := .slice t.sa t.seen.length t.sc
abbrev HistD.nv (t : HistD) : Value := .slice t.na t.snaps.length t.nc

instance : Inhabited TxnD := ⟨⟨default, [], [], none, 0, none, 0⟩⟩
instance : Inhabited DoneD := ⟨⟨default, false, 0⟩⟩

def encId (i : IdD) : List Value := [.int .i64 i.s, .int .i64 i.q]
def encVal (v : ValD) : List Value := [.int .i64 v.kind, .int .u64 v.bits, .string v.text]
def encWr (x : WrD) : List Value := [.string x.key, .int .i64 x.val.kind, .int .u64 x.val.bits, .string x.val.text]
def encRd (x : RdD) : List Value := [.string x.key, .int .u64 x.ver]
def encTxn (t : TxnD) : List Value := [.int .i64 t.id.s, .int .i64 t.id.q, t.rv, t.wv]
def encDone (d : DoneD) : List Value := [.int .i64 d.txn.id.s, .int .i64 d.txn.id.q, d.txn.rv, d.txn.wv, .bool d.yes, .int .u64 d.stamp]
def encSeen (x : SeenD) : List Value := [.int .i64 x.id.s, .int .i64 x.id.q, .string x.key, .int .i64 x.val.kind, .int .u64 x.val.bits, .string x.val.text]
def encSnap (x : SnapD) : List Value := [.int .i64 x.session, .int .u64 x.stamp, .int .u64 x.floor, x.kv, x.vv]
def encStr (s : ByteArray) : List Value := [.string s]
def encHist (h : HistD) : List Value := [h.dv, h.sv, h.nv]

def TxnOk (w : World) (t : TxnD) : Prop := RowOf encRd 2 w t.rv t.reads ∧ RowOf encWr 4 w t.wv t.writes
def SnapOk (w : World) (x : SnapD) : Prop := RowOf encStr 1 w x.kv x.keys ∧ RowOf encVal 3 w x.vv x.vals
def HistOk (w : World) (h : HistD) : Prop :=
  RowOf encDone 6 w h.dv h.done ∧ RowOf encSeen 6 w h.sv h.seen ∧ RowOf encSnap 5 w h.nv h.snaps ∧ (∀ d ∈ h.done, TxnOk w d.txn) ∧ ∀ x ∈ h.snaps, SnapOk w x

open Go.RowKit
theorem TxnOk.keep {w w' : World} {t : TxnD} (h : TxnOk w t) (hb : Below w.heap.size w w') : TxnOk w' t := ⟨h.1.keep hb, h.2.keep hb⟩
theorem SnapOk.keep {w w' : World} {t : SnapD} (h : SnapOk w t) (hb : Below w.heap.size w w') : SnapOk w' t := ⟨h.1.keep hb, h.2.keep hb⟩
theorem HistOk.keep {w w' : World} {h : HistD} (hh : HistOk w h) (hb : Below w.heap.size w w') : HistOk w' h :=
  ⟨hh.1.keep hb, hh.2.1.keep hb, hh.2.2.1.keep hb, fun d hd => (hh.2.2.2.1 d hd).keep hb, fun x hx => (hh.2.2.2.2 x hx).keep hb⟩

/-! ### What is reckoned -/
def lessId (a b : IdD) : Bool := decide (a.s < b.s) || (a.s == b.s && decide (a.q < b.q))
def lessD (a b : DoneD) : Bool := decide (a.stamp < b.stamp) || (a.stamp == b.stamp && lessId a.txn.id b.txn.id)

def zeroVal : ValD := ⟨0, 0, ByteArray.empty⟩
def wrote (ws : List WrD) (key : ByteArray) (was : ValD) : ValD := ws.foldl (fun v x => if x.key = key then x.val else v) was
end Go.Proofs.Ytmdfilffoomckaa
