/- errors.Is by its contracts (after the kit's worked text for a toy), and path.errno. -/
import Derived.Test.YtmdfpknhfkgfoaaDoorChecked
import Derived.WalkKit
import Derived.LaidEql
import Derived.Stop.Asserts
import Derived.RowKitTokens
import Derived.Lib.Hide
namespace Go.Proofs.YtmdfpknhfkgfoaaDoor
open Go.RowKit Go.Extern.Stop Go.Stop Go.Extern

theorem isTypeOf (v : Value) (w : World) : (callFunc 79 #[.iface 174 v]).run Tryd.prog w = .ok (.value (.iface 148 (.agg #[.pointer (some ⟨2, 174, none⟩)]))) w := by kernel_rfl
theorem isComparable (w : World) : (callFunc 116 #[.agg #[.pointer (some ⟨2, 174, none⟩)]]).run Tryd.prog w = .ok (.value (.bool true)) w := by kernel_rfl
theorem isMethodComparable (v : Value) (w : World) : (Go.method 311 148 v "Comparable").run Tryd.prog w = .ok (116, v) w := by kernel_rfl
theorem isComp : (Tryd.prog.info? 174).map (·.comparable) = some true := by kernel_rfl
theorem isSize : (Tryd.prog.info? 199).map (·.size) = some 1 := by kernel_rfl

theorem noIsE (v : Value) (xT : TypeId) (w : World) : (Instr.typeAssert (.iface 174 v) xT 150 true).run Tryd.prog w = .ok (.tuple #[.nilIface, .bool false]) w := run_typeAssert_lacksB Tryd.underlying150 (by kernel_rfl) (by kernel_rfl) v xT w
theorem noUnwrapE (v : Value) (xT : TypeId) (w : World) : (Instr.typeAssert (.iface 174 v) xT 153 true).run Tryd.prog w = .ok (.tuple #[.nilIface, .bool false]) w := run_typeAssert_lacksB Tryd.underlying153 (by kernel_rfl) (by kernel_rfl) v xT w
theorem noUnwrapsE (v : Value) (xT : TypeId) (w : World) : (Instr.typeAssert (.iface 174 v) xT 154 true).run Tryd.prog w = .ok (.tuple #[.nilIface, .bool false]) w := run_typeAssert_lacksB Tryd.underlying154 (by kernel_rfl) (by kernel_rfl) v xT w

/-- errors.is(x, x). -/
theorem is2_same (a : Addr) (w : World) :
    Calls Tryd.prog 80 #[.iface 174 (.pointer (some a)), .iface 174 (.pointer (some a)), .bool true] w fun e w' => e = .returned (.bool true) ∧ w = w' := by
  obtain ⟨i, hi, hcmp⟩ := Option.map_eq_some_iff.1 isComp
  obtain ⟨j, hj, hjs⟩ := Option.map_eq_some_iff.1 isSize
  have heq := run_eql_iface_ptr_same (P := Tryd.prog) w a Tryd.underlying102 Tryd.underlying174 hi hcmp hj
  go_enter Tryd.func80, Tryd.ntmps80
  go_wp2
  refine wp_loop_rounds 1 ?_
  rw [rounds_succ]
  go_wp2
  go_ret
  exact ⟨rfl, rfl⟩

/-- errors.is(x, y), two different pointers to errors.errorString. -/
theorem is2_other (a b : Addr) (ca cb : Array Value) (ta tb : TypeId) (w : World) (hne : a ≠ b) (ha : w.heap[a.block]? = some (.cells ca ta (0, 0))) (hb : w.heap[b.block]? = some (.cells cb tb (0, 0))) :
    Calls Tryd.prog 80 #[.iface 174 (.pointer (some a)), .iface 174 (.pointer (some b)), .bool true] w fun e w' => e = .returned (.bool false) ∧ w = w' := by
  obtain ⟨i, hi, hcmp⟩ := Option.map_eq_some_iff.1 isComp
  obtain ⟨j, hj, hjs⟩ := Option.map_eq_some_iff.1 isSize
  have nE := noIsE
  have uE := noUnwrapE
  have vE := noUnwrapsE
  have heq := run_eql_iface_ptr_other (P := Tryd.prog) w Tryd.underlying102 Tryd.underlying174 hi hcmp hj (by rw [hjs]; decide) hne ha hb
  go_enter Tryd.func80, Tryd.ntmps80
  go_wp2
  refine wp_loop_rounds 1 ?_
  rw [rounds_succ]
  go_wp2
  go_ret
  exact ⟨rfl, rfl⟩

set_option maxRecDepth 100000 in
/-- errors.Is(x, x). -/
theorem is_same (a : Addr) (w : World) :
    Calls Tryd.prog 70 #[.iface 174 (.pointer (some a)), .iface 174 (.pointer (some a))] w fun e w' => e = .returned (.bool true) ∧ w = w' := by
  have tT := isTypeOf
  have cT := isComparable
  have mR := isMethodComparable
  go_enter Tryd.func70, Tryd.ntmps70
  go_wp2_with (go_at_call 80; refine (is2_same a _).mono ?_; rintro e w' ⟨rfl, rfl⟩)
  go_ret
  exact ⟨rfl, rfl⟩

set_option maxRecDepth 100000 in
/-- errors.Is(x, y), two different ones. -/
theorem is_other (a b : Addr) (ca cb : Array Value) (ta tb : TypeId) (w : World) (hne : a ≠ b) (ha : w.heap[a.block]? = some (.cells ca ta (0, 0))) (hb : w.heap[b.block]? = some (.cells cb tb (0, 0))) :
    Calls Tryd.prog 70 #[.iface 174 (.pointer (some a)), .iface 174 (.pointer (some b))] w fun e w' => e = .returned (.bool false) ∧ w = w' := by
  have tT := isTypeOf
  have cT := isComparable
  have mR := isMethodComparable
  have H := Lib.hid hne; have HA := Lib.hid ha; have HB := Lib.hid hb
  clear hne ha hb
  go_enter Tryd.func70, Tryd.ntmps70
  go_wp2_with (go_at_call 80; refine (is2_other a b ca cb ta tb _ H.out HA.out HB.out).mono ?_; rintro e w' ⟨rfl, rfl⟩)
  go_ret
  exact ⟨rfl, rfl⟩

/-- path's two errors lie in memory as their initialisers lay them. -/
structure Errs (aA aP : Addr) (w : World) : Prop where
  arg : w.cell? ⟨1, 0, none⟩ = some (.iface 174 (.pointer (some aA)))
  pth : w.cell? ⟨0, 0, none⟩ = some (.iface 174 (.pointer (some aP)))
  ne : aA ≠ aP
  fa : ∃ c t, w.heap[aA.block]? = some (.cells c t (0, 0))
  fp : ∃ c t, w.heap[aP.block]? = some (.cells c t (0, 0))
  sz : 2 ≤ w.heap.size

abbrev eVal (a : Addr) : Value := .iface 174 (.pointer (some a))

theorem errno_nil (w : World) : Calls Tryd.prog 47 #[.nilIface] w fun e w' => e = .returned (.int .i64 0) ∧ w = w' := by
  go_enter Tryd.func47, Tryd.ntmps47
  go_wp2
  go_ret
  exact ⟨rfl, rfl⟩

theorem errno_pth (aA aP : Addr) (w : World) (h : Errs aA aP w) : Calls Tryd.prog 47 #[eVal aP] w fun e w' => e = .returned (.int .i64 240) ∧ w = w' := by
  have c0 := h.pth
  go_enter Tryd.func47, Tryd.ntmps47
  go_wp2_with (go_at_call 70; refine (is_same aP _).mono ?_; rintro e w' ⟨rfl, rfl⟩)
  go_ret
  exact ⟨rfl, rfl⟩

theorem errno_arg (aA aP : Addr) (w : World) (h : Errs aA aP w) : Calls Tryd.prog 47 #[eVal aA] w fun e w' => e = .returned (.int .i64 2) ∧ w = w' := by
  have c0 := h.pth
  obtain ⟨ca, ta, ha⟩ := h.fa
  obtain ⟨cb, tb, hb⟩ := h.fp
  have HA := Lib.hid ha; have HB := Lib.hid hb; have H := Lib.hid h.ne
  clear ha hb h
  go_enter Tryd.func47, Tryd.ntmps47
  go_wp2_with (go_at_call 70; refine (is_other aA aP ca cb ta tb _ H.out HA.out HB.out).mono ?_; rintro e w' ⟨rfl, rfl⟩)
  go_ret
  exact ⟨rfl, rfl⟩

end Go.Proofs.YtmdfpknhfkgfoaaDoor
