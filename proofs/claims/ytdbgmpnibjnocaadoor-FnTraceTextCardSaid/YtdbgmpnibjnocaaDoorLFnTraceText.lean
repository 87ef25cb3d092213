/- For every argument the law FnTraceText returns true; the package-level variables that its row lists are tied to the program's text; no other conditions. -/
import Derived.Test.YtdbgmpnibjnocaaDoorRows
import Derived.Test.YtdbgmpnibjnocaaDoorCards
import Derived.Test.YtdbgmpnibjnocaaDoorTie
import Derived.Test.YtdbgmpnibjnocaaDoorCard
import Derived.Stop.LaidErr
import Derived.Test.YtdbgmpnibjnocaaDoorPTraceLaw
import Derived.WalkKit
import Derived.ProofKit
import Derived.OpenShut
import Derived.SevenTiedAt
import Derived.Lay
namespace Go.Proofs.YtdbgmpnibjnocaaDoor.fnTraceText
open Go.Proofs.YtdbgmpnibjnocaaDoor Go.ChangeShapes Go.WideShapes Go.ChangeAt Go.RowKit
set_option linter.unusedVariables false

theorem own : ownKnob Tryd.prog.godebug = none := by kernel_rfl

/-- A heap in which the variables lie as they are listed. -/
theorem door_met (os : Os) (args : Array Value) : laidMetH Tryd.prog Rows.fnTraceTextRow.laid ((World.laidAll Tryd.prog os Rows.fnTraceTextRow.laid).forCall (fun _ _ => 0) ⟨#[], args, []⟩).memory := by
  rw [MakeChecks.laidMetH_plain _ _ _ (by kernel_rfl)]
  exact laidMet_laidAll args (by kernel_rfl) (by kernel_rfl)

theorem f_tab {W : World} (h : laidMetH Tryd.prog Rows.fnTraceTextRow.laid W) : Lib.TabIs Tryd.prog W "internal/strconv.uint64pow10" .u64 Lib.pow10Tab := by
  rw [MakeChecks.laidMetH_plain _ _ _ (by kernel_rfl)] at h
  have h1 := laidMet.filter (fun x => x.1 == "internal/strconv.uint64pow10") h
  have e : Rows.fnTraceTextRow.laid.filter (fun x => x.1 == "internal/strconv.uint64pow10") = [("internal/strconv.uint64pow10", Lib.tabData .u64 Lib.pow10Tab)] := by kernel_rfl
  rw [e] at h1
  exact Lib.tabIs_of_head (g := 3) (t := 115) (e := 94) (n := 20) (by kernel_rfl) (by kernel_rfl) Tryd.underlying115 Tryd.underlying94 (by kernel_rfl) (by kernel_rfl) h1

theorem f_es {W : World} (h : laidMetH Tryd.prog Rows.fnTraceTextRow.laid W) : (Gl.iface Tryd.prog "strconv.ErrSyntax").I W := by
  rw [MakeChecks.laidMetH_plain _ _ _ (by kernel_rfl)] at h
  have h1 := laidMet.filter (fun x => x.1 == "strconv.ErrSyntax") h
  have e : Rows.fnTraceTextRow.laid.filter (fun x => x.1 == "strconv.ErrSyntax") = [("strconv.ErrSyntax", .iface "*errors.errorString" (.ptr (.agg [.lit (.string [105, 110, 118, 97, 108, 105, 100, 32, 115, 121, 110, 116, 97, 120])])))] := by kernel_rfl
  rw [e] at h1
  have star : ("*errors.errorString" : String) = "*" ++ "errors.errorString" := by decide
  obtain ⟨a, s, hv, _⟩ := laid_sentinel (g := 1) (ti := 71) (tp := 124) (te := 126) (ts := 9) h1 (by kernel_rfl) (by kernel_rfl) Tryd.underlying71
    (fun u hu => typeName_ptr_named (nm := "errors.errorString") (by rw [← star]; kernel_rfl) (by kernel_rfl) (by decide) u (by rw [← star]; exact hu)) Tryd.underlying124 Tryd.underlying126 rfl rfl Tryd.underlying9 (by kernel_rfl) (by kernel_rfl)
  exact ⟨_, _, hv⟩

theorem f_er {W : World} (h : laidMetH Tryd.prog Rows.fnTraceTextRow.laid W) : (Gl.iface Tryd.prog "strconv.ErrRange").I W := by
  rw [MakeChecks.laidMetH_plain _ _ _ (by kernel_rfl)] at h
  have h1 := laidMet.filter (fun x => x.1 == "strconv.ErrRange") h
  have e : Rows.fnTraceTextRow.laid.filter (fun x => x.1 == "strconv.ErrRange") = [("strconv.ErrRange", .iface "*errors.errorString" (.ptr (.agg [.lit (.string [118, 97, 108, 117, 101, 32, 111, 117, 116, 32, 111, 102, 32, 114, 97, 110, 103, 101])])))] := by kernel_rfl
  rw [e] at h1
  have star : ("*errors.errorString" : String) = "*" ++ "errors.errorString" := by decide
  obtain ⟨a, s, hv, _⟩ := laid_sentinel (g := 2) (ti := 71) (tp := 124) (te := 126) (ts := 9) h1 (by kernel_rfl) (by kernel_rfl) Tryd.underlying71
    (fun u hu => typeName_ptr_named (nm := "errors.errorString") (by rw [← star]; kernel_rfl) (by kernel_rfl) (by decide) u (by rw [← star]; exact hu)) Tryd.underlying124 Tryd.underlying126 rfl rfl Tryd.underlying9 (by kernel_rfl) (by kernel_rfl)
  exact ⟨_, _, hv⟩

theorem f_max {W : World} (h : W.ShapedOpen Tryd.prog) : (Gl.maxLen Tryd.prog).I W := by
  obtain ⟨m, hm⟩ := cell_of_shapedOpen_int (g := 0) (t := 3) (zero := #[.int .i64 0]) h (of_decide_eq_true (by kernel_rfl)) (by kernel_rfl) rfl (by kernel_rfl) (by kernel_rfl) Tryd.underlying3
  exact ⟨_, m, by kernel_rfl, hm⟩

theorem of_laid {W : World} (h : laidMetH Tryd.prog Rows.fnTraceTextRow.laid W) (hs : W.ShapedOpen Tryd.prog) : G0.I W := ⟨f_tab h, f_es h, f_er h, f_max hs⟩

set_option maxRecDepth 100000 in
theorem lifted (os : Os) (started : os.Started) (H : Type) (enc : TypeId × Value → H) :
    ReturnsInHanded {} Tryd.checked os 4 .any (fun w args => (Rows.fnTraceTextSpec.pre enc Tryd.prog Tryd.f4 [] false w args ∧ laidMetH Tryd.prog Rows.fnTraceTextRow.laid w) ∧ sizedMet enc Tryd.prog Tryd.f4 (OpenSpec.ofChange Rows.fnTraceTextSpec) false w args)
      (Rows.fnTraceTextSpec.post enc Tryd.prog Tryd.f4 false true false false) := by
  refine handed_card (C := Tryd.checked) (X := fun w _ => laidMetH Tryd.prog Rows.fnTraceTextRow.laid w) (fun _ _ _ hh h => h.of_heap hh) own started (by kernel_rfl) Tryd.func4
    (ChangeSpec.witness_shaped (enc := enc) (C := Tryd.checked) (os := os) (X := fun w _ => laidMetH Tryd.prog Rows.fnTraceTextRow.laid w) false (World.laidAll Tryd.prog os Rows.fnTraceTextRow.laid) #[.slice none 0 0] 8 (World.laidAll_os _ _ _) (World.shaped_of_ZipB (by kernel_rfl) (by kernel_rfl)) (by kernel_rfl) (by kernel_rfl) (by kernel_rfl) (door_met os _)) ?_
  intro W base args ds gs before hval0 hW hS hL
  exact law_calls (n := 1) (of_laid hL hS) ok_l_FnTraceText rfl (fun x hx => law_TraceText2 x hx) (by kernel_rfl) (by kernel_rfl) rfl Tryd.underlying4 rfl (by kernel_rfl) (fun ds h => by obtain ⟨d, rfl⟩ := List.length_eq_one_iff.1 h; rfl) hval0 hW

theorem over : Rows.FnTraceTextSaid :=
  OpenClaim.holds_of_wide 4 Tryd.f4 rfl rfl rfl rfl rfl rfl rfl ⟨rfl, rfl, rfl, rfl, rfl⟩ rfl rfl rfl rfl rfl (by kernel_rfl) Tryd.func4 (by kernel_rfl)
    (of_decide_eq_true (by kernel_rfl)) (by unfold Func.isWrapper; first | (rw [if_pos (by decide +kernel)]; kernel_rfl) | (rw [if_neg (by decide +kernel)]; exact ⟨rfl, rfl⟩))
    (fun os started H enc _ => lifted os started H enc)

/-- The statement. -/
theorem proved : Rows.FnTraceTextCardSaid :=
  Claim7.holds_tied_plain_at .later [] [.data, .data, .data, .data, .sentinel, .sentinel, .pinned] true (true, "ef6604b62f0dbd55b95c4aa8f14ffb18d0f54fe1ec44da7476d2dbf6906f5432") true
    over (fun _ h => by cases h) (by kernel_rfl) (fun _ h => by cases h) fnTraceText_row_tie rfl ⟨rfl, rfl⟩ (by kernel_rfl) rfl
    (fun f fn hf hfn => by
      obtain rfl : f = 4 := Option.some.inj ((show Tryd.prog.funcNamed "loop.example/g00833/laws.FnTraceText" = some 4 by kernel_rfl).symm.trans hf) |>.symm
      obtain rfl : fn = Tryd.f4 := (Option.some.inj (Tryd.func4.symm.trans hfn)).symm
      exact ⟨by kernel_rfl, fun j t ht => by
        have hm : t ∈ Tryd.f4.params.toList := by simpa using Array.mem_of_getElem? ht
        have hall : (Tryd.f4.params.toList.all fun u => !Tryd.prog.wantsStandIn u) = true := by kernel_rfl
        have := List.all_eq_true.1 hall t hm
        exact (show Tryd.prog.wantsStandIn t = false by simpa using this)⟩)
    (by kernel_rfl)
#print axioms proved
end Go.Proofs.YtdbgmpnibjnocaaDoor.fnTraceText
