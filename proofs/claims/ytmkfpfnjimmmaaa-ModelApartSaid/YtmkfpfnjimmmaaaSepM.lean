/- The data of package model. Printed by sep.py. -/
import Derived.Test.YtmkfpfnjimmmaaaSepL
namespace Go.Proofs.Ytmkfpfnjimmmaaa
open Go.RowKit
set_option linter.unusedVariables false
set_option linter.unusedSimpArgs false

def eInt (x : Int) : List D := [.int .i64 x]
def eU64 (x : Nat) : List D := [.int .u64 (x : Int)]
def eBool (x : Bool) : List D := [.bool x]
def eByte (b : UInt8) : List D := [.int .u8 (b.toNat : Int)]
def eBytes (l : List UInt8) : List D := [.view 1 (l.map eByte)]
def eInts (l : List Int) : List D := [.view 1 (l.map eInt)]
def eParts (l : List (List UInt8)) : List D := [.view 1 (l.map eBytes)]

structure LetterV where
  Cover : Bool
  From : Int
  To : Int
  Seq : Nat
  Text : List UInt8
  deriving Inhabited
/-- The cells of one of api.Letter. -/
def eLetter (x : LetterV) : List D := [.bool x.Cover, .int .i64 x.From, .int .i64 x.To, .int .u64 (x.Seq : Nat), .view 1 (x.Text.map eByte)]
/-- By value. -/
def aLetter (x : LetterV) : AV := .agg [.d (.bool x.Cover), .d (.int .i64 x.From), .d (.int .i64 x.To), .d (.int .u64 (x.Seq : Nat)), .d (.view 1 (x.Text.map eByte))]
def LetterV.zero : LetterV := ⟨false, 0, 0, 0, []⟩
/-- []api.Letter, as one cell. -/
def eL_Letter (l : List LetterV) : List D := [.view 5 (l.map eLetter)]
structure QueueV where
  Next : Nat
  Items : List LetterV
  deriving Inhabited
/-- The cells of one of api.Queue. -/
def eQueue (x : QueueV) : List D := [.int .u64 (x.Next : Nat), .view 5 (x.Items.map eLetter)]
/-- By value. -/
def aQueue (x : QueueV) : AV := .agg [.d (.int .u64 (x.Next : Nat)), .d (.view 5 (x.Items.map eLetter))]
def QueueV.zero : QueueV := ⟨0, []⟩
/-- []api.Queue, as one cell. -/
def eL_Queue (l : List QueueV) : List D := [.view 2 (l.map eQueue)]
/-- [][]api.Letter, as one cell. -/
def eL_LLetter (l : List (List LetterV)) : List D := [.view 1 (l.map eL_Letter)]
structure ModelV where
  Queues : List QueueV
  Come : List Int
  Boxes : List (List LetterV)
  deriving Inhabited
/-- The cells of one of api.Model. -/
def eModel (x : ModelV) : List D := [.view 2 (x.Queues.map eQueue), .view 1 (x.Come.map eInt), .view 1 (x.Boxes.map eL_Letter)]
/-- By value. -/
def aModel (x : ModelV) : AV := .agg [.d (.view 2 (x.Queues.map eQueue)), .d (.view 1 (x.Come.map eInt)), .d (.view 1 (x.Boxes.map eL_Letter))]
def ModelV.zero : ModelV := ⟨[], [], []⟩
structure CfgV where
  Seed : List UInt8
  Chain : Int
  Standby : Int
  Clients : Int
  Queue : Int
  Close : Int
  Long : Int
  Again : Int
  Window : Int
  Round : Nat
  Seq : Nat
  deriving Inhabited
/-- The cells of one of api.Cfg. -/
def eCfg (x : CfgV) : List D := [.view 1 (x.Seed.map eByte), .int .i64 x.Chain, .int .i64 x.Standby, .int .i64 x.Clients, .int .i64 x.Queue, .int .i64 x.Close, .int .i64 x.Long, .int .i64 x.Again, .int .i64 x.Window, .int .u64 (x.Round : Nat), .int .u64 (x.Seq : Nat)]
/-- By value. -/
def aCfg (x : CfgV) : AV := .agg [.d (.view 1 (x.Seed.map eByte)), .d (.int .i64 x.Chain), .d (.int .i64 x.Standby), .d (.int .i64 x.Clients), .d (.int .i64 x.Queue), .d (.int .i64 x.Close), .d (.int .i64 x.Long), .d (.int .i64 x.Again), .d (.int .i64 x.Window), .d (.int .u64 (x.Round : Nat)), .d (.int .u64 (x.Seq : Nat))]
def CfgV.zero : CfgV := ⟨[], 0, 0, 0, 0, 0, 0, 0, 0, 0, 0⟩
end Go.Proofs.Ytmkfpfnjimmmaaa
