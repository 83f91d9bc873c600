/- Parts of the proof, one behind the other: The law's steps in memory. -/
import Derived.Test.YtgmnhdkdicgkcaaGreatDoorOrg24
namespace Go.Proofs.YtgmnhdkdicgkcaaGreatDoor
open Go.RowKit Go.Maps
namespace Ver
structure Tp where
 d : Int
 ev : Ev
 n : Int
 BA : Option Addr
 bc : Nat
 b : List UInt8
 KA : Option Addr
 kc : Nat
 keep : List Int
def Tp.cells (x : Tp) : List Value := [.int .i64 x.d, .slice x.ev.A x.ev.add.length x.ev.c, .slice x.ev.DA x.ev.drop.length x.ev.dc, .int .i64 x.ev.log, .int .i64 x.ev.next, .int .i64 x.n, .slice x.BA x.b.length x.bc, .slice x.KA x.keep.length x.kc]
structure TpOk (w : World) (B : Nat) (x : Tp) : Prop where
 ev : EvOk w B x.ev
 b : RdB w B x.BA x.b
 keep : RdS Sto.I1 1 w B x.KA x.keep
 al : x.ev.add.length ≤ 9223372036854775807
 dl : x.ev.drop.length ≤ 9223372036854775807
 fl : ∀ v ∈ x.ev.add, v.first.length ≤ 9223372036854775807 ∧ v.last.length ≤ 9223372036854775807
 bl : x.b.length ≤ 9223372036854775807
 kl : x.keep.length ≤ 9223372036854775807
structure RdTp (w : World) (B : Nat) (A : Option Addr) (l : List Tp) : Prop where
 row : RdS Tp.cells 8 w B A l
 ok : ∀ x ∈ l, TpOk w B x
theorem TpOk.below {w w' : World} {B D : Nat} {x : Tp} (h : TpOk w B x) (hb : Below D w w') (hD : B ≤ D) : TpOk w' B x := ⟨h.ev.below hb hD, h.b.below hb hD, h.keep.below hb hD, h.al, h.dl, h.fl, h.bl, h.kl⟩
theorem RdTp.below {w w' : World} {B D : Nat} {A : Option Addr} {l : List Tp} (h : RdTp w B A l) (hb : Below D w w') (hD : B ≤ D) : RdTp w' B A l := ⟨h.row.below hb hD, fun x hx => (h.ok x hx).below hb hD⟩
theorem RdTp.cell {w : World} {B : Nat} {A : Option Addr} {l : List Tp} (h : RdTp w B A l) {k : Nat} (hk : k < l.length) : ∃ b off, A = some ⟨b, off, none⟩ ∧ b < B ∧ (∀ j u, (Tp.cells (l[k]))[j]? = some u → w.cell? ⟨b, off + k * 8 + j, none⟩ = some u) ∧ TpOk w B (l[k]) := by
 obtain ⟨b, off, hA, hb, hc⟩ := RdS.row (f := Tp.cells) (n := 8) (fun _ => rfl) (by omega) h.row (by omega)
 exact ⟨b, off, hA, hb, fun j u hu => hc k hk j u hu, h.ok _ (List.getElem_mem hk)⟩
end Ver
end Go.Proofs.YtgmnhdkdicgkcaaGreatDoor
