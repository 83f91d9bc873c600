/- Parts of the proof, one behind the other: A drawn region inside a round of a range over a function: what a plain walk shows of it. Over any program. -/
import Derived.Test.YtlmejpkngnilcaaGreatDoorMrg38
import Derived.OwnWalkIn
namespace Go.Proofs.YtlmejpkngnilcaaGreatDoor

section
variable {P : Program} {ops : Array Oper} {Q : Exit → Act → World → Prop} {l n : Nat}
theorem rowsIn_wide {row : String} {args : Array Value} {w : World} {R : Value → World → Prop} (h : Rows P row args w R) : RowsIn (Fence.wide.inRound l) n P row args w R :=
  fun c cs _ => let ⟨v, w', r, s⟩ := h c cs; ⟨v, w', r, stepsIn_wide.2 s⟩
theorem uponIn_of_upon {o : Oper} {a : Act} {next next' : Act → World → Prop} (hn : ∀ a w, next a w → next' a w) {r : Result Next} (h : o.upon P a next Q r) : o.uponIn (Fence.wide.inRound l) n P a next' Q r := by
  unfold Oper.upon at h
  unfold Oper.uponIn
  split at h
  · exact hn _ _ h
  · exact hn _ _ h
  · exact hn _ _ h
  · refine ⟨fun e => (by cases e), CallsIn.mono (callsIn_wide.2 h) ?_⟩
    intro e w' hr
    cases e with
    | returned v => exact hn _ _ hr
    | panicked c => exact hr
    | outgrown => exact hr
  · exact ⟨fun e => (by cases e), RowsIn.mono (rowsIn_wide h) (fun v w' hr => hn _ _ hr)⟩
  · exact h
  · exact h.elim
theorem wpOpsIn_of_wpOps (hQ : ∀ a w, ¬ Q .outgrown a w) (hd : ∀ (i : Nat) (o : Oper), ops[i]? = some o → ∀ c, o.op ≠ .defer c) :
    ∀ (ls : List Nat) (a : Act) (w : World), wpOps P ops Q ls a w → wpOpsIn (Fence.wide.inRound l) n P ops Q ls a w
  | [], _, _, h => h
  | i :: rest, a, w, h => by
    unfold wpOps at h
    unfold wpOpsIn
    cases ho : ops[i]? with
    | none => rw [ho] at h; exact wpOpsIn_of_wpOps hQ hd rest a w h
    | some o =>
      rw [ho] at h
      simp only at h ⊢
      split at h
      · rename_i hw
        rw [if_pos hw]
        rcases h with h | ⟨_, a', w', hq⟩
        · refine ⟨fun _ _ => trivial, ?_⟩
          rw [Oper.semAt_plain _ _ _ (hd i o ho)]
          exact uponIn_of_upon (fun a w => wpOpsIn_of_wpOps hQ hd rest a w) h
        · exact absurd hq (hQ a' w')
      · rename_i hw
        rw [if_neg hw]
        exact ⟨fun _ _ => trivial, wpOpsIn_of_wpOps hQ hd rest _ w h⟩
/-- No operation defers. -/
def noDefer (ops : Array Oper) : Bool := ops.all fun o => match o.op with | .defer _ => false | _ => true
theorem noDefer_spec (h : noDefer ops = true) (i : Nat) (o : Oper) (ho : ops[i]? = some o) (c : Call) : o.op ≠ .defer c := by
  intro e
  unfold noDefer at h
  rw [Array.all_eq_true] at h
  obtain ⟨hi, hk⟩ := Array.getElem?_eq_some_iff.1 ho
  have := h i hi
  rw [hk, e] at this
  cases this
/-- The beginning: as wp_region_E. -/
theorem wpIn_region_E {id : Nat} {a : Act} {w : World} {S : World → Prop} (z : Nat) (hQ : ∀ a w, ¬ Q .outgrown a w) (hd : ∀ (i : Nat) (o : Oper), ops[i]? = some o → ∀ c, o.op ≠ .defer c) (hm : P.follows .mixedOrders = true)
    (h : wpAnyE P .any ops Q S z ops.size (Array.replicate ops.size false) a w.drew) : (Code.region id ops true).wpIn (Fence.wide.inRound l) n P Q a w :=
  wpIn_region_draw fun t => by
    refine wpOpsIn_of_wpOps hQ hd _ _ _ ?_
    simp only [Region.schedule, hm, Bool.true_or, if_true]
    exact wpAny_sound ops.size t _ a _ (wpAny_of_E _ _ _ _ h)
/-- The same for any condition on what is ready. -/
theorem wpIn_region_A {id : Nat} {a : Act} {w : World} (hQ : ∀ a w, ¬ Q .outgrown a w) (hd : ∀ (i : Nat) (o : Oper), ops[i]? = some o → ∀ c, o.op ≠ .defer c) (hm : P.follows .mixedOrders = true)
    (h : wpAny P .any ops Q ops.size (Array.replicate ops.size false) a w.drew) : (Code.region id ops true).wpIn (Fence.wide.inRound l) n P Q a w :=
  wpIn_region_draw fun t => by
    refine wpOpsIn_of_wpOps hQ hd _ _ _ ?_
    simp only [Region.schedule, hm, Bool.true_or, if_true]
    exact wpAny_sound ops.size t _ a _ h
end
end Go.Proofs.YtlmejpkngnilcaaGreatDoor
