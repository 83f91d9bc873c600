/- Plain: a store with one file of a log, that ends with any number. -/
import Derived.Test.YtaiokogbhfliiaaGreatDoorMrg38
namespace Go.Proofs.YtaiokogbhfliiaaGreatDoor
open Go.WideShapes

namespace Wal
/-- A store of one file. -/
def oneFile (F : List UInt8) : Sto.St := ⟨10000, [⟨F, F.length⟩], [(name 7, 0)], [(name 7, 0)], [], [], false⟩
def st1 : Sto.St := ⟨10000, [⟨[], 0⟩], [(name 7, 0)], [], [.put (name 7) 0], [], false⟩
def st2 (F : List UInt8) : Sto.St := ⟨10000, [⟨F, 0⟩], [(name 7, 0)], [], [.put (name 7) 0], [], false⟩
def st3 (F : List UInt8) : Sto.St := ⟨10000, [⟨F, F.length⟩], [(name 7, 0)], [], [.put (name 7) 0], [], false⟩
theorem isn7 : [name 7].all Sto.isName = true := name_all (by decide)
theorem find7 : Sto.find [(name 7, 0)] (name 7) = some 0 := by unfold Sto.find; simp
theorem ends1 : Sto.create (Sto.new 10000) (name 7) = (0, st1) := by
  unfold Sto.create
  rw [Sto.meet_plain _ _ isn7 rfl rfl]
  rfl
theorem ends2 (F : List UInt8) (hF : F.length ≤ 10000) : Sto.append st1 (name 7) F = (0, st2 F) := by
  unfold Sto.append
  rw [Sto.meet_plain _ _ isn7 rfl rfl]
  simp only
  rw [if_neg (fun h => h rfl)]
  have : Sto.find st1.now (name 7) = some 0 := find7
  rw [this]
  simp only
  have hz : Sto.size st1 = 0 := rfl
  rw [if_neg (by rw [hz]; show ¬ (10000 : Int) - 0 < _; omega)]
  rfl
theorem ends3 (F : List UInt8) : Sto.sync (st2 F) (name 7) = (0, st3 F) := by
  unfold Sto.sync
  rw [Sto.meet_plain _ _ isn7 rfl rfl]
  simp only
  rw [if_neg (fun h => h rfl)]
  have : Sto.find (st2 F).now (name 7) = some 0 := find7
  rw [this]
  rfl
theorem ends4 (F : List UInt8) : Sto.syncDir (st3 F) = (0, oneFile F) := by rw [Sto.syncDir_plain _ rfl rfl]; rfl
theorem one_bytes (n : Nat) (b : List UInt8) : one (n, b) = bytes [(n, b)] := by simp [bytes]
theorem ends_tells (n : Nat) (b : List UInt8) (h1 : 1 ≤ n) (h2 : n ≤ 2199023255552) (hb : b.length ≤ 1000) : tells none (scan (one (n, b))) = if n ≤ 1099511627776 then [(n, b)] else [] := by
  by_cases h : n ≤ 1099511627776
  · rw [if_pos h]
    have := tells_bytes [b] n [] h1 (by simp only [List.length_cons, List.length_nil]; omega) (fun c hc => by rw [List.mem_singleton] at hc; rw [hc]; omega) rfl
    rw [List.append_nil] at this
    rw [one_bytes]
    exact this
  · rw [if_neg h]
    have h3 := scan_bytes [(n, b)] [] (fun x hx => by rw [List.mem_singleton] at hx; rw [hx]; exact ⟨by simp only; omega, by simp only; omega⟩) rfl
    rw [List.append_nil] at h3
    rw [one_bytes, h3]
    show tells none [fr (n, b)] = []
    rw [tells]
    have e : Cod.take (fr (n, b)).2 = some (n, b) := take_number (by omega) b
    rw [e]
    simp only
    rw [if_pos (.inr (.inr (.inl (by omega))))]
theorem ends_cl (n : Nat) (b : List UInt8) (h1 : 1 ≤ n) (h2 : n ≤ 2199023255552) (hb : b.length ≤ 1000) (hok : Sto.Ok (oneFile (one (n, b)))) : Cl (oneFile (one (n, b))) (if n ≤ 1099511627776 then n else 1) [⟨7, 0, if n ≤ 1099511627776 then [b] else []⟩] := by
  refine ⟨hok, rfl, ⟨rfl, List.pairwise_singleton _ _, fun f hf => ?_⟩, rfl, rfl, ⟨?_, trivial⟩, fun f hf => ?_⟩
  · rw [List.mem_singleton] at hf; rw [hf]; exact ⟨by show 1 ≤ 7; decide, by show 7 ≤ 999999; decide⟩
  · show tells none (scan (one (n, b))) = _
    rw [ends_tells n b h1 h2 hb]
    by_cases h : n ≤ 1099511627776
    · rw [if_pos h, if_pos h, if_pos h]; rfl
    · rw [if_neg h, if_neg h, if_neg h]; rfl
  · rw [List.mem_singleton] at hf; rw [hf]; rfl
end Wal
end Go.Proofs.YtaiokogbhfliiaaGreatDoor
