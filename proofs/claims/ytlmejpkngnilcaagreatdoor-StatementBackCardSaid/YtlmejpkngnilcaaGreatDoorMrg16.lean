/- Parts of the proof, one behind the other: As XOnc, where what is handed over is a method bound to its receiver. sync.Once, one goroutine: Do, done already; Do, not yet done, by the contract of the function that it is handed. -/
import Derived.Test.YtlmejpkngnilcaaGreatDoorMrg15
import Derived.Test.YtlmejpkngnilcaaGreatDoorMrg01
import Derived.Laws.Pointers
import Derived.Laws.LoneSync
import Derived.Defers
import Derived.RegionTactic
import Derived.RegionCalls
import Derived.ChangeAlike
namespace Go.Proofs.YtlmejpkngnilcaaGreatDoor
open Go.RowKit

theorem onc_disable (w : World) : (callFunc 158 #[]).run Tryz.prog w = .ok (.value (.tuple #[])) w := run_call_mark0 Tryz.func158 (by kernel_rfl) (by kernel_rfl) (by kernel_rfl) .disable (by kernel_rfl) w
theorem onc_enable (w : World) : (callFunc 160 #[]).run Tryz.prog w = .ok (.value (.tuple #[])) w := run_call_mark0 Tryz.func160 (by kernel_rfl) (by kernel_rfl) (by kernel_rfl) .enable (by kernel_rfl) w
theorem onc_acquire (a : Addr) (w : World) : (callFunc 161 #[.pointer (some a)]).run Tryz.prog w = .ok (.value (.tuple #[])) w := run_call_marked Tryz.func161 (by kernel_rfl) (by kernel_rfl) (by kernel_rfl) .acquire (by kernel_rfl) a w
theorem onc_release (a : Addr) (w : World) : (callFunc 163 #[.pointer (some a)]).run Tryz.prog w = .ok (.value (.tuple #[])) w := run_call_marked Tryz.func163 (by kernel_rfl) (by kernel_rfl) (by kernel_rfl) .releaseMerge (by kernel_rfl) a w
set_option maxRecDepth 100000 in
theorem onc_store (a : Addr) (x : Value) (u : FrameMode) (w : World) (hc : w.cell? a = some x) (hz : w.frozen? a = false) :
    CallsD Tryz.prog 110 #[.pointer (some a), .bool true] u w fun e u' w' => u' = u ∧ (e = .returned (.tuple #[]) ∧ w' = w.drew.setCell a (.int .u32 1)) := by
  have hc' : w.drew.cell? a = some x := by go_simp
  have hz' : w.drew.frozen? a = false := by go_simp
  have hst := run_call_store (P := Tryz.prog) Tryz.func143 (by kernel_rfl) (by kernel_rfl) (by kernel_rfl) (by kernel_rfl) (k := .u32) (y := 1) hc' hz'
  go_enter_d Tryz.func110, Tryz.ntmps110
  go_wp2
  go_region_calls
  all_goals (go_end0; exact ⟨rfl, rfl⟩)
set_option maxRecDepth 100000 in
theorem onc_unlock (a : Addr) (u : FrameMode) (w : World) (hc : w.cell? a = some (.int .i32 1)) (hz : w.frozen? a = false) :
    CallsD Tryz.prog 109 #[.pointer (some a)] u w fun e u' w' => u' = u ∧ (e = .returned (.tuple #[]) ∧ w' = w.setCell a (.int .i32 0)) := by
  have hd := onc_disable
  have he := onc_enable
  have hr := onc_release
  have hadd := run_call_add (P := Tryz.prog) Tryz.func164 (by kernel_rfl) (by kernel_rfl) (by kernel_rfl) .i32 (by kernel_rfl) (y := -1) (s := 0) hc hz (by simp [go_sem]; rfl)
  have hcv := run_convert_to_unsafe (P := Tryz.prog) (src := 231) (dst := 117) Tryz.underlying231 Tryz.underlying117 (by kernel_rfl) hc
  go_enter_d Tryz.func109, Tryz.ntmps109
  go_wp2
  go_end0
  go_wp2
  go_end0
  exact ⟨rfl, rfl⟩
set_option maxRecDepth 100000 in
theorem onc_lock (a : Addr) (w : World) (hc : w.cell? a = some (.int .i32 0)) (hz : w.frozen? a = false) :
    Calls Tryz.prog 108 #[.pointer (some a)] w fun e w' => e = .returned (.tuple #[]) ∧ w' = w.setCell a (.int .i32 1) := by
  have hd := onc_disable
  have he := onc_enable
  have ha := onc_acquire
  have hcas := run_call_cas_hit (P := Tryz.prog) Tryz.func159 (by kernel_rfl) (by kernel_rfl) (by kernel_rfl) .i32 (by kernel_rfl) (y := 1) hc hz
  have hc' : (w.setCell a (.int .i32 1)).cell? a = some (.int .i32 1) := World.cell?_setCell_same w a _ hc
  have hcv := run_convert_to_unsafe (P := Tryz.prog) (src := 231) (dst := 117) Tryz.underlying231 Tryz.underlying117 (by kernel_rfl) hc'
  go_enter Tryz.func108, Tryz.ntmps108
  go_wp2
  first | go_end0 | (simp only [Exit.inBlock, Exit.then]; refine bodyPost_ret (results_none rfl _ _ _) rfl ?_) | refine bodyPost_ret (results_none rfl _ _ _) rfl ?_
  go_wp2
  go_end0
  exact ⟨rfl, rfl⟩
set_option maxRecDepth 100000 in
set_option maxHeartbeats 1600000 in
/-- '(*sync.Once).doSlow', not yet done, the lock free, by the contract of what is handed over. -/
theorem onc_slow (g o : Nat) (lb : Array Value) (Q : World → Prop) (w : World) (h0 : w.cell? ⟨g, o, none⟩ = some (.int .u32 0)) (h1 : w.cell? ⟨g, o + 1, none⟩ = some (.int .i32 0)) (f1 : w.frozen? ⟨g, o + 1, none⟩ = false)
    (hK : Calls Tryz.prog 56 lb (w.setCell ⟨g, o + 1, none⟩ (.int .i32 1)) fun e w' => e = .returned (.tuple #[]) ∧ Q w')
    (hQ : ∀ w', Q w' → w'.cell? ⟨g, o, none⟩ = some (.int .u32 0) ∧ w'.frozen? ⟨g, o, none⟩ = false ∧ w'.cell? ⟨g, o + 1, none⟩ = some (.int .i32 1) ∧ w'.frozen? ⟨g, o + 1, none⟩ = false) :
    Calls Tryz.prog 83 #[.pointer (some ⟨g, o, none⟩), .func (.func 56) lb #[]] w fun e w' => e = .returned (.tuple #[]) ∧
      ∃ w1, Q w1 ∧ w' = (w1.drew.setCell ⟨g, o, none⟩ (.int .u32 1)).setCell ⟨g, o + 1, none⟩ (.int .i32 0) := by
  have hl := run_call_load (P := Tryz.prog) Tryz.func107 (by kernel_rfl) (by kernel_rfl) (by kernel_rfl) .u32 (by kernel_rfl) (w := w.setCell ⟨g, o + 1, none⟩ (.int .i32 1)) (a := ⟨g, o, none⟩) (x := 0) ((World.cell?_setCell_other _ ⟨g, o + 1, none⟩ ⟨g, o, none⟩ _ (by simp)).trans h0)
  have hnot : ∀ (x : Bool) (w : World), (Op.unary .not (.bool x)).run Tryz.prog w = .ok (.bool (!x)) w := fun _ _ => rfl
  have HK := Lib.hid hK
  have HQ := Lib.hid hQ
  clear hK hQ
  go_enter_defers Tryz.func83, Tryz.ntmps83
  go_wp2_with (go_at_call 108; refine (onc_lock ⟨g, o + 1, none⟩ _ (by go_simp) (by go_simp)).mono ?_; rintro e w' ⟨rfl, rfl⟩)
  go_wp2_with (go_at_call 82; go_in)
  refine HK.out.mono ?_
  rintro e w1 ⟨rfl, hq⟩
  obtain ⟨q0, z0, q1, z1⟩ := HQ.out w1 hq
  have HQ1 := Lib.hid hq
  clear hq
  go_wp2
  refine leaves_cons (f := 110) (args := #[.pointer (some ⟨g, o, none⟩), .bool true]) (by simp) (by simp [go_sem]) ?_
  refine (onc_store ⟨g, o, none⟩ (.int .u32 0) .returning _ q0 z0).mono ?_
  rintro e u' w'' ⟨rfl, rfl, rfl⟩
  refine leaves_cons (f := 109) (args := #[.pointer (some ⟨g, o + 1, none⟩)]) (by simp [settle]) (by simp [go_sem]) ?_
  refine (onc_unlock ⟨g, o + 1, none⟩ _ _ ?_ (by simp [z1])).mono ?_
  · refine (World.cell?_setCell_other _ ⟨g, o, none⟩ ⟨g, o + 1, none⟩ _ (by simp)).trans ?_
    rw [World.cell?_drew]
    exact q1
  rintro e u' w'' ⟨rfl, rfl, rfl⟩
  simp [Leaves, settle, results, Tryz.results83]
  exact ⟨w1, HQ1.out, rfl⟩
set_option maxRecDepth 100000 in
theorem onc_first (g o : Nat) (lb : Array Value) (Q : World → Prop) (w : World) (h0 : w.cell? ⟨g, o, none⟩ = some (.int .u32 0)) (h1 : w.cell? ⟨g, o + 1, none⟩ = some (.int .i32 0)) (f1 : w.frozen? ⟨g, o + 1, none⟩ = false)
    (hK : Calls Tryz.prog 56 lb (w.setCell ⟨g, o + 1, none⟩ (.int .i32 1)) fun e w' => e = .returned (.tuple #[]) ∧ Q w')
    (hQ : ∀ w', Q w' → w'.cell? ⟨g, o, none⟩ = some (.int .u32 0) ∧ w'.frozen? ⟨g, o, none⟩ = false ∧ w'.cell? ⟨g, o + 1, none⟩ = some (.int .i32 1) ∧ w'.frozen? ⟨g, o + 1, none⟩ = false) :
    Calls Tryz.prog 55 #[.pointer (some ⟨g, o, none⟩), .func (.func 56) lb #[]] w fun e w' => e = .returned (.tuple #[]) ∧
      ∃ w1, Q w1 ∧ w' = (w1.drew.setCell ⟨g, o, none⟩ (.int .u32 1)).setCell ⟨g, o + 1, none⟩ (.int .i32 0) := by
  have hl := run_call_load (P := Tryz.prog) Tryz.func107 (by kernel_rfl) (by kernel_rfl) (by kernel_rfl) .u32 (by kernel_rfl) h0
  have hnot : ∀ (x : Bool) (w : World), (Op.unary .not (.bool x)).run Tryz.prog w = .ok (.bool (!x)) w := fun _ _ => rfl
  have HS := Lib.hid (onc_slow g o lb Q w h0 h1 f1 hK hQ)
  clear hK hQ
  go_enter Tryz.func55, Tryz.ntmps55
  go_wp2_with (go_at_call 82; go_in)
  refine HS.out.mono ?_
  rintro e w' ⟨rfl, w1, hq, rfl⟩
  have HQ1 := Lib.hid hq
  clear hq
  go_wp2
  go_end0
  exact ⟨rfl, w1, HQ1.out, rfl⟩
set_option maxRecDepth 100000 in
theorem onc_done (a : Addr) (d : Int) (hd : ¬ d = 0) (fv : Value) (w : World) (h0 : w.cell? a = some (.int .u32 d)) :
    Calls Tryz.prog 55 #[.pointer (some a), fv] w fun e w' => e = .returned (.tuple #[]) ∧ w' = w := by
  have hl := run_call_load (P := Tryz.prog) Tryz.func107 (by kernel_rfl) (by kernel_rfl) (by kernel_rfl) .u32 (by kernel_rfl) h0
  have hnot : ∀ (x : Bool) (w : World), (Op.unary .not (.bool x)).run Tryz.prog w = .ok (.bool (!x)) w := fun _ _ => rfl
  have hd' : (d != 0) = true := by simp [hd]
  go_enter Tryz.func55, Tryz.ntmps55
  go_wp2
  go_end0
  exact ⟨rfl, rfl⟩
end Go.Proofs.YtlmejpkngnilcaaGreatDoor
