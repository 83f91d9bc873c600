/- Steps in memory; much, at no files. -/
import Derived.Test.YtaiokogbhfliiaaGreatDoorQWwD
import Derived.Test.YtaiokogbhfliiaaGreatDoorMrg40
namespace Go.Proofs.YtaiokogbhfliiaaGreatDoor
open Go.RowKit Go.Maps

/-- A step. -/
structure Sv where
  dow : Int
  n : Int
  A : Option Addr
  c : Nat
  b : List UInt8
  KA : Option Addr
  kc : Nat
  keep : List Int
def Sv.cells (v : Sv) : List Value := [.int .i64 v.dow, .int .i64 v.n, .slice v.A v.b.length v.c, .slice v.KA v.keep.length v.kc]
structure Sok (w : World) (v : Sv) : Prop where
  b : RdB w w.heap.size v.A v.b
  keep : RdS Sto.I1 1 w w.heap.size v.KA v.keep
  kl : v.keep.length ≤ 9223372036854775807
theorem Sok.below {w w' : World} {v : Sv} (h : Sok w v) (hb : Below w.heap.size w w') : Sok w' v :=
  ⟨(h.b.below hb (Nat.le_refl _)).more hb.size, (h.keep.below hb (Nat.le_refl _)).more hb.size, h.kl⟩
/-- A row of steps that can be read. -/
structure RdT (w : World) (A : Option Addr) (l : List Sv) : Prop where
  row : RdS Sv.cells 4 w w.heap.size A l
  ok : ∀ v ∈ l, Sok w v
theorem RdT.below {w w' : World} {A : Option Addr} {l : List Sv} (h : RdT w A l) (hb : Below w.heap.size w w') : RdT w' A l :=
  ⟨(h.row.below hb (Nat.le_refl _)).more hb.size, fun v hv => (h.ok v hv).below hb⟩
theorem RdT.cell {w : World} {A : Option Addr} {l : List Sv} (h : RdT w A l) {k : Nat} (hk : k < l.length) : ∃ b off, A = some ⟨b, off, none⟩ ∧ b < w.heap.size ∧
    (∀ j u, (Sv.cells (l[k]))[j]? = some u → w.cell? ⟨b, off + k * 4 + j, none⟩ = some u) ∧ Sok w (l[k]) := by
  obtain ⟨b, off, hA, hb, hc⟩ := RdS.row (f := Sv.cells) (n := 4) (fun _ => rfl) (by omega) h.row (by omega)
  exact ⟨b, off, hA, hb, fun j u hu => hc k hk j u hu, h.ok _ (List.getElem_mem hk)⟩
namespace Wal
/-- What much says. -/
def MuchP (l : List Sv) (e : Ending) : Prop := ∃ q, e = .returned (.bool q) ∧ (q = false → ∀ v ∈ l.take 100, v.b.length ≤ 70000)
set_option maxHeartbeats 1000000 in
set_option maxRecDepth 100000 in
theorem much_any (a : Option Addr) (cap : Nat) (l : List Sv) (w : World) (h : RdT w a l) :
    Calls Tryz.prog 11 #[.slice none 0 0, .slice a l.length cap] w fun e w' => MuchP l e ∧ w' = w := by
  have H := Lib.hid h
  clear h
  go_enter Tryz.func11, Tryz.ntmps11
  go_wp2_with fail
  go_loopw [5, 6] (fun x i wr => x = .int .i64 0 ∧ i = .int .i64 0 ∧ w = wr) (fun _ _ _ => 0)
  case atStart => exact ⟨rfl, rfl, rfl⟩
  case round =>
    obtain ⟨rfl, rfl, rfl⟩ := hrel
    go_wp2_with fail
    go_loopw [5, 7] (fun x i wr => ∃ (t k : Nat), k ≤ l.length ∧ k ≤ 100 ∧ t ≤ 150000 ∧ x = .int .i64 (t : Int) ∧ i = .int .i64 (k : Int) ∧ Hid (∀ v ∈ l.take k, v.b.length ≤ 70000) ∧ w = wr) (fun _ i _ => 100 - (intOf i).toNat)
    case atStart => exact ⟨0, 0, by omega, by omega, by omega, rfl, rfl, Lib.hid (by simp), rfl⟩
    case round =>
      obtain ⟨t, k, hk, hk2, ht, rfl, rfl, HT, rfl⟩ := hrel
      have ht0 : ¬ (150000 : Int) < (t : Int) := by omega
      by_cases hkl : k < l.length
      · by_cases hk6 : k < 100
        · have hk6i : (k : Int) < 100 := by omega
          have hkli : (k : Int) < (l.length : Int) := by omega
          obtain ⟨b, off, hA, hb, hc, hok⟩ := H.out.cell hkl
          have HX : Hid (l.take (k + 1) = l.take k ++ [l[k]]) := Lib.hid (List.take_succ_eq_append_getElem hkl)
          obtain ⟨v, hv⟩ : ∃ v, v = l[k] := ⟨_, rfl⟩
          rw [← hv] at hc HX
          have r2 := hc 2 _ rfl
          clear hv hok hc
          subst hA
          by_cases hb7 : v.b.length ≤ 70000
          · have hb7i : ¬ (70000 : Int) < (v.b.length : Int) := by omega
            by_cases hs : t + v.b.length ≤ 150000
            · have hsi : ¬ (150000 : Int) < (t : Int) + (v.b.length : Int) := by omega
              go_wp2_with fail
              exact ⟨⟨t + v.b.length, k + 1, by omega, by omega, hs, by simp, by simp, Lib.hid (by
                rw [HX.out]
                intro x hx
                rcases List.mem_append.1 hx with hx | hx
                · exact HT.out x hx
                · rw [List.mem_singleton] at hx; rw [hx]; exact hb7), by first | rfl | trivial⟩, by simp only [intOf]; omega⟩
            · have hsi : (150000 : Int) < (t : Int) + (v.b.length : Int) := by omega
              go_wp2_with fail
              go_ret
              exact ⟨⟨true, rfl, fun h => by cases h⟩, rfl⟩
          · have hb7i : (70000 : Int) < (v.b.length : Int) := by omega
            go_wp2_with fail
            go_ret
            exact ⟨⟨true, rfl, fun h => by cases h⟩, rfl⟩
        · have hk6i : ¬ (k : Int) < 100 := by omega
          have hkli : (k : Int) < (l.length : Int) := by omega
          have hke : k = 100 := by omega
          go_wp2_with fail
          go_ret
          exact ⟨⟨_, rfl, fun _ => by rw [← hke]; exact HT.out⟩, rfl⟩
      · have hkli : ¬ (k : Int) < (l.length : Int) := by omega
        have hke : l.take 100 = l.take k := by rw [List.take_of_length_le (by omega), List.take_of_length_le (by omega)]
        go_wp2_with fail
        go_ret
        exact ⟨⟨_, rfl, fun _ => by rw [hke]; exact HT.out⟩, rfl⟩
end Wal
end Go.Proofs.YtaiokogbhfliiaaGreatDoor
