import Derived.Test.YtebkbcpnjknkjaaBase
set_option linter.unusedVariables false
set_option linter.unusedSimpArgs false
namespace Go.Proofs.Ytebkbcpnjknkjaa
open Go.RowKit
/-! Data. -/
structure D9 where
  nr : Int
  arch : Int
  ip : Int
  a0 : Int
  a1 : Int
  a2 : Int
  a3 : Int
  a4 : Int
  a5 : Int
deriving DecidableEq
def in64u (x : Int) : Prop := 0 ≤ x ∧ x < 18446744073709551616
def D9.args (d : D9) : List Int := [d.a0, d.a1, d.a2, d.a3, d.a4, d.a5]
def D9.cells (d : D9) : List Value := [.int .u32 d.nr, .int .u32 d.arch, .int .u64 d.ip, .int .u64 d.a0, .int .u64 d.a1, .int .u64 d.a2, .int .u64 d.a3, .int .u64 d.a4, .int .u64 d.a5]
def D9.val (d : D9) : Value := .agg #[.int .u32 d.nr, .int .u32 d.arch, .int .u64 d.ip, .int .u64 d.a0, .int .u64 d.a1, .int .u64 d.a2, .int .u64 d.a3, .int .u64 d.a4, .int .u64 d.a5]
end Go.Proofs.Ytebkbcpnjknkjaa
