/- Parts of the proof, one behind the other: A region that draws its order: loads taken first under a condition S on the world, S asked behind every operation but those of a list (its stores, and what may come behind one of them). Over any progr -/
import Derived.Test.YtgmnhdkdicgkcaaGreatDoorOrg07
import Derived.Deep.MidRow
namespace Go.Proofs.YtgmnhdkdicgkcaaGreatDoor
section
variable {P : Program} {ops : Array Oper} {Q : Exit → Act → World → Prop} {md : Region.Mode} {S : World → Prop}
def wpAnyZ (P : Program) (md : Region.Mode) (ops : Array Oper) (Q : Exit → Act → World → Prop) (S : World → Prop) (Z : List Nat) : Nat → Array Bool → Act → World → Prop
 | 0, listed, a, w => Region.ready md ops listed = [] ∧ Q .normal a w
 | fuel + 1, listed, a, w =>
   (Region.ready md ops listed = [] → Q .normal a w) ∧
   ∀ i ∈ Region.ready md ops listed, wpOp P ops Q i (fun a' w' => (i ∉ Z → S w') ∧ wpAnyZ P md ops Q S Z fuel (listed.setIfInBounds i true) a' w') a w
variable {Z : List Nat}
theorem wpAny_of_Z : ∀ (fuel : Nat) (listed : Array Bool) (a : Act) (w : World), wpAnyZ P md ops Q S Z fuel listed a w → wpAny P md ops Q fuel listed a w
 | 0, _, _, _, h => h
 | fuel + 1, _, _, _, h => ⟨h.1, fun i hi => wpOp_mono (fun a' w' h' => wpAny_of_Z fuel _ a' w' h'.2) (h.2 i hi)⟩
theorem wpAnyZ_first {i : Nat} {oi : Oper} {v : Value} (hi : ops[i]? = some oi) (hsel : ∀ (j : Nat) (o : Oper) cs b, ops[j]? = some o → o.op ≠ .select cs b) 
   (hQ : ∀ c a w, Q (.panic c) (a.put oi.dst v) w → Q (.panic c) a w) :
   ∀ (fuel : Nat) (listed : Array Bool) (a : Act) (w : World),
     (∀ j oj, ops[j]? = some oj → j ≠ i → listed.getD j true = false → (∀ e ∈ oj.after, Region.binds md e = true → e.on ≠ i) → oi.apart ops oj = true) →
     (∀ z ∈ Z, listed.getD z true = true ∨ Region.waitsFor md ops z i = true) → i ∈ Region.ready md ops listed → YieldsIf P ops S oi v a → S w →
     wpAnyZ P md ops Q S Z fuel (listed.setIfInBounds i true) (a.put oi.dst v) w → wpAnyZ P md ops Q S Z (fuel + 1) listed a w := by
 intro fuel
 induction fuel with
 | zero =>
   intro listed a w _ _ hr hy hS H
   refine ⟨fun h => (by rw [h] at hr; cases hr), fun j hj => ?_⟩
   by_cases hji : j = i
   · subst hji; exact hy.wpOp hi hS ⟨fun _ => hS, H⟩
   · have := ready_mono hj hji
     rw [H.1] at this
     cases this
 | succ fuel ih =>
   intro listed a w hfree hz hr hy hS H
   have hun := (mem_ready.1 hr).1
   refine ⟨fun h => (by rw [h] at hr; cases hr), fun j hj => ?_⟩
   by_cases hji : j = i
   · subst hji; exact hy.wpOp hi hS ⟨fun _ => hS, H⟩
   · have hjz : j ∉ Z := fun e => by
       rcases hz j e with h | h
       · have := (mem_ready.1 hj).1
         rw [h] at this
         cases this
       · exact waits_not_ready h hun hj
     have hz' : ∀ z ∈ Z, (listed.setIfInBounds j true).getD z true = true ∨ Region.waitsFor md ops z i = true := fun z hm => by
       rcases hz z hm with h | h
       · refine .inl ?_
         by_cases hjk : j = z
         · subst hjk; exact absurd hm hjz
         · rw [getD_set_ne true hjk]; exact h
       · exact .inr h
     have h1 := H.2 j (ready_mono hj hji)
     obtain ⟨hjun, oj, hoj, hall⟩ := mem_ready.1 hj
     have hnot : ∀ e ∈ oj.after, Region.binds md e = true → e.on ≠ i := fun e he hb heq => by
       have h1 := hall e he hb
       rw [heq, getD_both hun] at h1
       cases h1
     have h2 := wpOp_putIf hoj (hfree j oj hoj hji hjun hnot) (fun cs b => hsel i oi cs b hi) (fun cs b => hsel j oj cs b hoj) hQ hy h1
     have hfree' : ∀ k ok, ops[k]? = some ok → k ≠ i → (listed.setIfInBounds j true).getD k true = false →
         (∀ e ∈ ok.after, Region.binds md e = true → e.on ≠ i) → oi.apart ops ok = true := fun k ok hk hki hun hno => by
       refine hfree k ok hk hki ?_ hno
       by_cases hjk : j = k
       · subst hjk; exact hjun
       · rw [getD_set_ne true hjk] at hun; exact hun
     refine wpOp_mono (fun a' w' h3 => ⟨fun _ => h3.2.1 hjz, ih (listed.setIfInBounds j true) a' w' hfree' hz' (ready_mono hr (Ne.symm hji)) h3.1 (h3.2.1 hjz) ?_⟩) h2
     rw [Array.setIfInBounds_comm _ _ hji]
     exact h3.2.2
theorem wpAnyZ_take {i : Nat} {oi : Oper} {v : Value} {fuel : Nat} {listed : Array Bool} {a : Act} {w : World} (hi : ops[i]? = some oi)
   (hs : Region.noSelect ops = true) (hz : (Z.all fun z => listed.getD z true || Region.waitsFor md ops z i) = true) (hf : Region.free md ops listed i = true) (hr : (Region.ready md ops listed).contains i = true)
   (hQ : ∀ c a w, Q (.panic c) (a.put oi.dst v) w → Q (.panic c) a w) (hy : YieldsIf P ops S oi v a) (hS : S w)
   (h : wpAnyZ P md ops Q S Z fuel (listed.setIfInBounds i true) (a.put oi.dst v) w) : wpAnyZ P md ops Q S Z (fuel + 1) listed a w :=
 wpAnyZ_first hi (Region.noSelect_spec hs) hQ fuel listed a w (Region.free_spec hi hf) (fun z hm => by simpa using List.all_eq_true.1 hz z hm) (by simpa using hr) hy hS h
theorem wpAnyZ_pure1 {i : Nat} {oi : Oper} {v : Value} (hi : ops[i]? = some oi) (hsel : ∀ (j : Nat) (o : Oper) cs b, ops[j]? = some o → o.op ≠ .select cs b) (hiz : i ∈ Z)
   (hQ : ∀ c a w, Q (.panic c) (a.put oi.dst v) w → Q (.panic c) a w) :
   ∀ (fuel : Nat) (listed : Array Bool) (a : Act) (w : World),
     (∀ j oj, ops[j]? = some oj → j ≠ i → listed.getD j true = false → (∀ e ∈ oj.after, Region.binds md e = true → e.on ≠ i) → oi.apart ops oj = true) →
     i ∈ Region.ready md ops listed → YieldsIf P ops (fun _ => True) oi v a →
     wpAnyZ P md ops Q S Z fuel (listed.setIfInBounds i true) (a.put oi.dst v) w → wpAnyZ P md ops Q S Z (fuel + 1) listed a w := by
 intro fuel
 induction fuel with
 | zero =>
   intro listed a w _ hr hy H
   refine ⟨fun h => (by rw [h] at hr; cases hr), fun j hj => ?_⟩
   by_cases hji : j = i
   · subst hji; exact hy.wpOp hi trivial ⟨fun h => absurd hiz h, H⟩
   · have := ready_mono hj hji
     rw [H.1] at this
     cases this
 | succ fuel ih =>
   intro listed a w hfree hr hy H
   have hun := (mem_ready.1 hr).1
   refine ⟨fun h => (by rw [h] at hr; cases hr), fun j hj => ?_⟩
   by_cases hji : j = i
   · subst hji; exact hy.wpOp hi trivial ⟨fun h => absurd hiz h, H⟩
   · have h1 := H.2 j (ready_mono hj hji)
     obtain ⟨hjun, oj, hoj, hall⟩ := mem_ready.1 hj
     have hnot : ∀ e ∈ oj.after, Region.binds md e = true → e.on ≠ i := fun e he hb heq => by
       have h1 := hall e he hb
       rw [heq, getD_both hun] at h1
       cases h1
     have h2 := wpOp_putIf hoj (hfree j oj hoj hji hjun hnot) (fun cs b => hsel i oi cs b hi) (fun cs b => hsel j oj cs b hoj) hQ hy h1
     have hfree' : ∀ k ok, ops[k]? = some ok → k ≠ i → (listed.setIfInBounds j true).getD k true = false →
         (∀ e ∈ ok.after, Region.binds md e = true → e.on ≠ i) → oi.apart ops ok = true := fun k ok hk hki hun hno => by
       refine hfree k ok hk hki ?_ hno
       by_cases hjk : j = k
       · subst hjk; exact hjun
       · rw [getD_set_ne true hjk] at hun; exact hun
     refine wpOp_mono (fun a' w' h3 => ⟨h3.2.1, ih (listed.setIfInBounds j true) a' w' hfree' (ready_mono hr (Ne.symm hji)) h3.1 ?_⟩) h2
     rw [Array.setIfInBounds_comm _ _ hji]
     exact h3.2.2
theorem wpAnyZ_pure {i : Nat} {oi : Oper} {v : Value} {fuel : Nat} {listed : Array Bool} {a : Act} {w : World} (hi : ops[i]? = some oi)
   (hs : Region.noSelect ops = true) (hz : Z.contains i = true) (hf : Region.free md ops listed i = true) (hr : (Region.ready md ops listed).contains i = true)
   (hQ : ∀ c a w, Q (.panic c) (a.put oi.dst v) w → Q (.panic c) a w) (hy : YieldsIf P ops (fun _ => True) oi v a)
   (h : wpAnyZ P md ops Q S Z fuel (listed.setIfInBounds i true) (a.put oi.dst v) w) : wpAnyZ P md ops Q S Z (fuel + 1) listed a w :=
 wpAnyZ_pure1 hi (Region.noSelect_spec hs) (by simpa using hz) hQ fuel listed a w (Region.free_spec hi hf) (by simpa using hr) hy h
theorem wpAnyZ_one {i : Nat} {o : Oper} {fuel : Nat} {listed : Array Bool} {a : Act} {w : World} (hr : Region.ready md ops listed = [i]) (hz : Z.contains i = true) (ho : ops[i]? = some o)
   (h : ∀ K : Act → World → Prop, (∀ a' w', wpAnyZ P md ops Q S Z fuel (listed.setIfInBounds i true) a' w' → K a' w') → if Region.wanted o (yielded ops a.tmps) = true then Oper.wp P o a w K Q else K (a.put o.dst undef) w) :
   wpAnyZ P md ops Q S Z (fuel + 1) listed a w := by
 refine ⟨fun h0 => (by rw [hr] at h0; cases h0), fun j hj => ?_⟩
 rw [hr] at hj
 have hji : j = i := by simpa using hj
 subst hji
 have hm : j ∈ Z := by simpa using hz
 unfold wpOp
 simp only [ho]
 have := h (fun a' w' => (j ∉ Z → S w') ∧ wpAnyZ P md ops Q S Z fuel (listed.setIfInBounds j true) a' w') (fun a' w' h2 => ⟨fun h => absurd hm h, h2⟩)
 split
 · rename_i hw; rw [if_pos hw] at this; exact .inl this
 · rename_i hw; rw [if_neg hw] at this; exact this
theorem wpAnyZ_end {fuel : Nat} {listed : Array Bool} {a : Act} {w : World} (hr : Region.ready md ops listed = []) (h : Q .normal a w) : wpAnyZ P md ops Q S Z fuel listed a w := by
 cases fuel with
 | zero => exact ⟨hr, h⟩
 | succ f => exact ⟨fun _ => h, by rw [hr]; simp⟩
theorem wp_region_Z {id : Nat} {a : Act} {w : World} (Z : List Nat) (S : World → Prop) (hm : P.follows .mixedOrders = true)
   (h : wpAnyZ P .any ops Q S Z ops.size (Array.replicate ops.size false) a w.drew) : (Code.region id ops true).wp P Q a w :=
 wp_region_any hm (wpAny_of_Z _ _ _ _ h)
theorem step_store_mid {w : World} {o : Oper} {a : Act} {K : Act → World → Prop} {E : Prop} (hgd : o.guard = none) (hd : o.dst = none) (ty : TypeId) (x y : Operand) (ho : o.op = .store ty x y)
   (b off : Nat) (cells : Array Value) (hx : a.eval x = .pointer (some ⟨b, off, none⟩)) (hy : a.eval y = .agg cells)
   (ht : w.there b off cells.size) (hi : (P.info? ty).map (·.size) = some cells.size) (h1 : cells.all (·.oneCell') = true)
   (h : K a (w.setCells b off cells.toList)) : if Region.wanted o (yielded ops a.tmps) = true then Oper.wp P o a w K Q else E := by
 have hw : Region.wanted o (yielded ops a.tmps) = true := by simp [Region.wanted, hgd]
 rw [if_pos hw]
 refine wp_store_mid ty x y ho b off cells hx hy ht hi h1 ?_
 rw [hd]
 exact h
end
end Go.Proofs.YtgmnhdkdicgkcaaGreatDoor
