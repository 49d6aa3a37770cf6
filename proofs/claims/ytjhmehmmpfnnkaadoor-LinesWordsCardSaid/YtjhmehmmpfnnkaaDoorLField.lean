/-
  The contract of lines.field: the address of an op's field.
-/
import Derived.Test.YtjhmehmmpfnnkaaDoorLVerbs
namespace Go.Proofs.YtjhmehmmpfnnkaaDoor
open Go.RowKit Utf
set_option maxRecDepth 100000
set_option linter.unusedSimpArgs false
set_option linter.unusedVariables false

/-- Where a field lies in an op's block. -/
def offF : Fld → Nat
  | .who => 1 | .n => 2 | .fresh => 3 | .shard => 6 | .other => 7 | .server => 8 | .key => 17 | .lo => 18 | .hi => 19 | .ekey => 12
def isNum : Fld → Bool
  | .who | .n | .fresh | .shard | .other | .server => true
  | .key | .lo | .hi | .ekey => false
def ptrF (b : Nat) (f : Fld) : Value := .iface (if isNum f = true then 95 else 100) (.pointer (some ⟨b, offF f, none⟩))

theorem field_who (b : Nat) (w : World) :
    Calls Tryd.prog 38 #[.pointer (some ⟨b, 0, none⟩), .int .i32 119] w fun e w' => e = .returned (.iface 95 (.pointer (some ⟨b, 1, none⟩))) ∧ w = w' := by
  go_enter Tryd.func38, Tryd.ntmps38
  go_wp2_with fail
  go_ret
  exact ⟨rfl, rfl⟩

theorem field_n (b : Nat) (w : World) :
    Calls Tryd.prog 38 #[.pointer (some ⟨b, 0, none⟩), .int .i32 110] w fun e w' => e = .returned (.iface 95 (.pointer (some ⟨b, 2, none⟩))) ∧ w = w' := by
  go_enter Tryd.func38, Tryd.ntmps38
  go_wp2_with fail
  go_ret
  exact ⟨rfl, rfl⟩

theorem field_fresh (b : Nat) (w : World) :
    Calls Tryd.prog 38 #[.pointer (some ⟨b, 0, none⟩), .int .i32 102] w fun e w' => e = .returned (.iface 95 (.pointer (some ⟨b, 3, none⟩))) ∧ w = w' := by
  go_enter Tryd.func38, Tryd.ntmps38
  go_wp2_with fail
  go_ret
  exact ⟨rfl, rfl⟩

theorem field_shard (b : Nat) (w : World) :
    Calls Tryd.prog 38 #[.pointer (some ⟨b, 0, none⟩), .int .i32 115] w fun e w' => e = .returned (.iface 95 (.pointer (some ⟨b, 6, none⟩))) ∧ w = w' := by
  go_enter Tryd.func38, Tryd.ntmps38
  go_wp2_with fail
  go_ret
  exact ⟨rfl, rfl⟩

theorem field_other (b : Nat) (w : World) :
    Calls Tryd.prog 38 #[.pointer (some ⟨b, 0, none⟩), .int .i32 111] w fun e w' => e = .returned (.iface 95 (.pointer (some ⟨b, 7, none⟩))) ∧ w = w' := by
  go_enter Tryd.func38, Tryd.ntmps38
  go_wp2_with fail
  go_ret
  exact ⟨rfl, rfl⟩

theorem field_server (b : Nat) (w : World) :
    Calls Tryd.prog 38 #[.pointer (some ⟨b, 0, none⟩), .int .i32 118] w fun e w' => e = .returned (.iface 95 (.pointer (some ⟨b, 8, none⟩))) ∧ w = w' := by
  go_enter Tryd.func38, Tryd.ntmps38
  go_wp2_with fail
  go_ret
  exact ⟨rfl, rfl⟩

theorem field_key (b : Nat) (w : World) :
    Calls Tryd.prog 38 #[.pointer (some ⟨b, 0, none⟩), .int .i32 107] w fun e w' => e = .returned (.iface 100 (.pointer (some ⟨b, 17, none⟩))) ∧ w = w' := by
  go_enter Tryd.func38, Tryd.ntmps38
  go_wp2_with fail
  go_ret
  exact ⟨rfl, rfl⟩

theorem field_lo (b : Nat) (w : World) :
    Calls Tryd.prog 38 #[.pointer (some ⟨b, 0, none⟩), .int .i32 108] w fun e w' => e = .returned (.iface 100 (.pointer (some ⟨b, 18, none⟩))) ∧ w = w' := by
  go_enter Tryd.func38, Tryd.ntmps38
  go_wp2_with fail
  go_ret
  exact ⟨rfl, rfl⟩

theorem field_hi (b : Nat) (w : World) :
    Calls Tryd.prog 38 #[.pointer (some ⟨b, 0, none⟩), .int .i32 104] w fun e w' => e = .returned (.iface 100 (.pointer (some ⟨b, 19, none⟩))) ∧ w = w' := by
  go_enter Tryd.func38, Tryd.ntmps38
  go_wp2_with fail
  go_ret
  exact ⟨rfl, rfl⟩

theorem field_ekey (b : Nat) (w : World) :
    Calls Tryd.prog 38 #[.pointer (some ⟨b, 0, none⟩), .int .i32 101] w fun e w' => e = .returned (.iface 100 (.pointer (some ⟨b, 12, none⟩))) ∧ w = w' := by
  go_enter Tryd.func38, Tryd.ntmps38
  go_wp2_with fail
  go_ret
  exact ⟨rfl, rfl⟩

theorem field_any (f : Fld) (b : Nat) (w : World) :
    Calls Tryd.prog 38 #[.pointer (some ⟨b, 0, none⟩), .int .i32 (letP f : Int)] w fun e w' => e = .returned (ptrF b f) ∧ w = w' := by
  cases f
  · exact field_who b w
  · exact field_n b w
  · exact field_fresh b w
  · exact field_shard b w
  · exact field_other b w
  · exact field_server b w
  · exact field_key b w
  · exact field_lo b w
  · exact field_hi b w
  · exact field_ekey b w
end Go.Proofs.YtjhmehmmpfnnkaaDoor
