/-
  As text G, with one operation z that waits for all others and may write whatever it likes. A region that draws its order, none of whose other operations changes what was there: what yields its value in every world that has only grown from the one at hand may be taken first. (Over the kit's Derived.Orders and Derived.OrdersHeld; there the condition on worlds is one for the whole region, here it grows with the walk.)
-/
import Derived.Test.YtlngfelpmebemaaK
import Derived.OrdersHeld
import Derived.RegionTactic
import Derived.Deep.QuietTactic
import Derived.Deep.AppendLies
namespace Go.Proofs.Ytlngfelpmebemaa
namespace L
open Go.RowKit
section
variable {P : Program} {ops : Array Oper} {Q : Exit → Act → World → Prop} {md : Region.Mode}
/-- Whatever order is picked from here on, each operation that is carried out leaves what was there. -/
def wpGrow (P : Program) (md : Region.Mode) (ops : Array Oper) (Q : Exit → Act → World → Prop) (S : List Nat) (z : Nat) : Nat → Array Bool → Act → World → Prop
  | 0, listed, a, w => Region.ready md ops listed = [] ∧ Q .normal a w
  | fuel + 1, listed, a, w =>
    (Region.ready md ops listed = [] → Q .normal a w) ∧
    ∀ i ∈ Region.ready md ops listed, wpOp P ops Q i (fun a' w' => (i = z ∨ Only S w w') ∧ wpGrow P md ops Q S z fuel (listed.setIfInBounds i true) a' w') a w
theorem wpAny_of_grow {S : List Nat} {z : Nat} : ∀ (fuel : Nat) (listed : Array Bool) (a : Act) (w : World), wpGrow P md ops Q S z fuel listed a w → wpAny P md ops Q fuel listed a w
  | 0, _, _, _, h => h
  | fuel + 1, _, _, _, h => ⟨h.1, fun i hi => wpOp_mono (fun a' w' h' => wpAny_of_grow fuel _ a' w' h'.2) (h.2 i hi)⟩
theorem yields_weaker {S T : World → Prop} {o : Oper} {v : Value} {a : Act} (h : YieldsIf P ops S o v a) (hT : ∀ w, T w → S w) : YieldsIf P ops T o v a :=
  h.imp (fun ⟨hw, hv⟩ => ⟨hw, fun w hw' => hv w (hT w hw')⟩) id
/-- z waits for all others, at most over one in between. -/
def LastOp (md : Region.Mode) (ops : Array Oper) (z : Nat) : Prop := ∀ oz, ops[z]? = some oz → ∀ k, k < ops.size → k ≠ z →
  ∃ e ∈ oz.after, Region.binds md e = true ∧ (e.on = k ∨ ∃ om, ops[e.on]? = some om ∧ ∃ e' ∈ om.after, Region.binds md e' = true ∧ e'.on = k)
/-- What was carried out waited for what was carried out. -/
def Closed (md : Region.Mode) (ops : Array Oper) (listed : Array Bool) : Prop := ∀ j oj, ops[j]? = some oj → listed.getD j false = true → ∀ e ∈ oj.after, Region.binds md e = true → listed.getD e.on false = true
theorem getD_set_mono {l : Array Bool} {j k : Nat} (h : l.getD k false = true) : (l.setIfInBounds j true).getD k false = true := by
  rw [Array.getD_eq_getD_getElem?] at h ⊢
  rw [Array.getElem?_setIfInBounds]
  split
  · split <;> simp_all
  · exact h
theorem Closed.add {listed : Array Bool} {j : Nat} (h : Closed md ops listed) (hj : j ∈ Region.ready md ops listed) : Closed md ops (listed.setIfInBounds j true) := by
  intro k ok hk hl e he hb
  by_cases hkj : j = k
  · subst hkj
    obtain ⟨_, o, ho, hall⟩ := mem_ready.1 hj
    obtain rfl := Option.some.inj (ho.symm.trans hk)
    exact getD_set_mono (hall e he hb)
  · refine getD_set_mono (h k ok hk ?_ e he hb)
    rw [Array.getD_eq_getD_getElem?, Array.getElem?_setIfInBounds, if_neg hkj] at hl
    rw [Array.getD_eq_getD_getElem?]
    exact hl
theorem wpGrow_first {S : List Nat} {z : Nat} {i : Nat} {oi : Oper} {v : Value} (hz : LastOp md ops z) (hiz : i ≠ z) (hi : ops[i]? = some oi) (hsel : ∀ (j : Nat) (o : Oper) cs b, ops[j]? = some o → o.op ≠ .select cs b)
    (hQ : ∀ c a w, Q (.panic c) (a.put oi.dst v) w → Q (.panic c) a w) :
    ∀ (fuel : Nat) (listed : Array Bool) (a : Act) (w : World), Closed md ops listed →
      (∀ j oj, ops[j]? = some oj → j ≠ i → listed.getD j true = false → (∀ e ∈ oj.after, Region.binds md e = true → e.on ≠ i) → oi.apart ops oj = true) →
      i ∈ Region.ready md ops listed → YieldsIf P ops (fun w' => Only S w w') oi v a →
      wpGrow P md ops Q S z fuel (listed.setIfInBounds i true) (a.put oi.dst v) w → wpGrow P md ops Q S z (fuel + 1) listed a w := by
  intro fuel
  induction fuel with
  | zero =>
    intro listed a w _ _ hr hy H
    refine ⟨fun h => (by rw [h] at hr; cases hr), fun j hj => ?_⟩
    by_cases hji : j = i
    · subst hji; exact hy.wpOp hi (Only.refl S w) ⟨.inr (Only.refl S w), H⟩
    · have h1 := ready_mono hj hji
      rw [H.1] at h1
      cases h1
  | succ fuel ih =>
    intro listed a w hcl hfree hr hy H
    refine ⟨fun h => (by rw [h] at hr; cases hr), fun j hj => ?_⟩
    by_cases hji : j = i
    · subst hji; exact hy.wpOp hi (Only.refl S w) ⟨.inr (Only.refl S w), H⟩
    · have h1 := H.2 j (ready_mono hj hji)
      obtain ⟨hjun, oj, hoj, hall⟩ := mem_ready.1 hj
      have hnot : ∀ e ∈ oj.after, Region.binds md e = true → e.on ≠ i := fun e he hb heq => by
        have h1 := hall e he hb
        have h0 := (mem_ready.1 hr).1
        rw [heq] at h1
        rcases Nat.lt_or_ge i listed.size with h' | h'
        · simp [h'] at h0 h1; rw [h0] at h1; cases h1
        · simp [Array.getElem?_eq_none h'] at h1
      have h2 := wpOp_putIf hoj (hfree j oj hoj hji hjun hnot) (fun cs b => hsel i oi cs b hi) (fun cs b => hsel j oj cs b hoj) hQ hy h1
      have hfree' : ∀ k ok, ops[k]? = some ok → k ≠ i → (listed.setIfInBounds j true).getD k true = false →
          (∀ e ∈ ok.after, Region.binds md e = true → e.on ≠ i) → oi.apart ops ok = true := fun k ok hk hki hun hno => by
        refine hfree k ok hk hki ?_ hno
        by_cases hjk : j = k
        · subst hjk; exact hjun
        · rw [getD_set_ne true hjk] at hun; exact hun
      have hjz : j ≠ z := by
        rintro rfl
        obtain ⟨e, he, hb, hk⟩ := hz oj hoj i (Array.getElem?_eq_some_iff.1 hi).1 hiz
        rcases hk with hk | ⟨om, hom, e', he', hb', hk⟩
        · exact hnot e he hb hk
        · have h1 := hcl e.on om hom (hall e he hb) e' he' hb'
          have h0 := (mem_ready.1 hr).1
          rw [hk] at h1
          rcases Nat.lt_or_ge i listed.size with h' | h'
          · simp [h'] at h0 h1; rw [h0] at h1; cases h1
          · simp [Array.getElem?_eq_none h'] at h1
      refine wpOp_mono (fun a' w' h3 => ⟨h3.2.1, ih (listed.setIfInBounds j true) a' w' (hcl.add hj) hfree' (ready_mono hr (Ne.symm hji)) (yields_weaker h3.1 fun w'' h => (h3.2.1.resolve_left hjz).trans h) ?_⟩) h2
      rw [Array.setIfInBounds_comm _ _ hji]
      exact h3.2.2
/-- What matters of an operation for its place: what it waits for, which temporaries it looks at, which it fills. -/
abbrev Row := List Nat × List Nat × Option Nat
def rowOf (md : Region.Mode) (ops : Array Oper) (o : Oper) : Row := ((o.after.toList.filter (Region.binds md)).map (·.on), o.looksAt ops, o.dst)
def tabOf (md : Region.Mode) (ops : Array Oper) : List Row := ops.toList.map (rowOf md ops)
def apartT (x y : Row) : Bool :=
  (match x.2.2 with
   | some d => !y.2.1.contains d && y.2.2 != some d
   | none => true) &&
  (match y.2.2 with
   | some d => !x.2.1.contains d
   | none => true)
theorem apartT_spec {x y : Oper} (h : apartT (rowOf md ops x) (rowOf md ops y) = true) : x.apart ops y = true := h
def readyT (tab : List Row) (l : List Bool) (i : Nat) : Bool :=
  !l.getD i true && (match tab[i]? with
   | some r => r.1.all fun k => l.getD k false
   | none => false)
theorem readyT_spec (l : List Bool) (i : Nat) : readyT (tabOf md ops) l i = true ↔ i ∈ Region.ready md ops l.toArray := by
  rw [mem_ready]
  unfold readyT tabOf
  have e1 : l.toArray.getD i true = l.getD i true := by simp [List.getD_eq_getElem?_getD]
  have e2 : ∀ k, l.toArray.getD k false = l.getD k false := fun k => by simp [List.getD_eq_getElem?_getD]
  rw [e1, List.getElem?_map, Array.getElem?_toList]
  cases ho : ops[i]? with
  | none => simp
  | some o =>
    simp only [Option.map_some, Bool.and_eq_true, Bool.not_eq_true', List.all_eq_true, rowOf, List.mem_map, List.mem_filter]
    constructor
    · rintro ⟨h1, h2⟩
      exact ⟨h1, o, rfl, fun e he hb => by rw [e2]; exact h2 _ ⟨e, ⟨by simpa using he, hb⟩, rfl⟩⟩
    · rintro ⟨h1, o', ho', h2⟩
      cases ho'
      refine ⟨h1, ?_⟩
      rintro k ⟨e, ⟨he, hb⟩, rfl⟩
      have := h2 e (by simpa using he) hb
      rwa [e2] at this
def freeT (tab : List Row) (l : List Bool) (i : Nat) (x : Row) : List Row → Nat → Bool
  | [], _ => true
  | y :: r, j => (j == i || l.getD j true || y.1.contains i || apartT x y) && freeT tab l i x r (j + 1)
theorem freeT_spec (tab : List Row) (l : List Bool) (i : Nat) (x : Row) : ∀ (r : List Row) (j : Nat), freeT tab l i x r j = true → ∀ k y, r[k]? = some y → j + k = i ∨ l.getD (j + k) true = true ∨ y.1.contains i = true ∨ apartT x y = true
  | [], _, _, k, y, hk => by simp at hk
  | z :: r, j, h, k, y, hk => by
    simp only [freeT, Bool.and_eq_true, Bool.or_eq_true, beq_iff_eq] at h
    cases k with
    | zero =>
      simp at hk
      subst hk
      rcases h.1 with ((h1 | h1) | h1) | h1
      · exact .inl (by omega)
      · exact .inr (.inl (by simpa using h1))
      · exact .inr (.inr (.inl h1))
      · exact .inr (.inr (.inr h1))
    | succ k =>
      have := freeT_spec tab l i x r (j + 1) h.2 k y (by simpa using hk)
      rwa [show j + 1 + k = j + (k + 1) by omega] at this
def aloneT (tab : List Row) (l : List Bool) (i n : Nat) : Bool := (List.range n).all fun j => j == i || !readyT tab l j
/-- The numbers in the order in which they are taken; beside each: may it be taken first? does it come up alone? -/
def lastT (tab : List Row) (n z : Nat) : Bool := match tab[z]? with
  | some r => (List.range n).all fun k => k == z || r.1.any fun m => m == k || (match tab[m]? with | some q => q.1.contains k | none => false)
  | none => true
theorem tab_get {z : Nat} {oz : Oper} (hoz : ops[z]? = some oz) : (tabOf md ops)[z]? = some (rowOf md ops oz) := by unfold tabOf; rw [List.getElem?_map, Array.getElem?_toList, hoz]; rfl
theorem row_has {oz : Oper} {k : Nat} (h : k ∈ (rowOf md ops oz).1) : ∃ e ∈ oz.after, Region.binds md e = true ∧ e.on = k := by
  simp only [rowOf, List.mem_map, List.mem_filter] at h
  obtain ⟨e, ⟨he, hb⟩, heq⟩ := h
  exact ⟨e, by simpa using he, hb, heq⟩
theorem lastT_spec {z : Nat} (h : lastT (tabOf md ops) ops.size z = true) : LastOp md ops z := by
  intro oz hoz k hk hkz
  unfold lastT at h
  rw [tab_get hoz] at h
  simp only [List.all_eq_true, List.mem_range, Bool.or_eq_true, beq_iff_eq, List.any_eq_true] at h
  obtain ⟨m, hm, h2⟩ := (h k hk).resolve_left hkz
  obtain ⟨e, he, hb, rfl⟩ := row_has hm
  refine ⟨e, he, hb, ?_⟩
  rcases h2 with h2 | h2
  · exact .inl h2
  · cases ho : ops[e.on]? with
    | none =>
      have : (tabOf md ops)[e.on]? = none := by unfold tabOf; rw [List.getElem?_map, Array.getElem?_toList, ho]; rfl
      rw [this] at h2
      cases h2
    | some om =>
      rw [tab_get ho] at h2
      obtain ⟨e', he', hb', h3⟩ := row_has (List.contains_iff_mem.1 h2)
      exact .inr ⟨om, rfl, e', he', hb', h3⟩
def rowsT (tab : List Row) (n z : Nat) : List (Nat × Bool × Bool) → List Bool → Bool
  | [], l => (List.range n).all fun j => !readyT tab l j
  | (i, f, c) :: r, l =>
    readyT tab l i && (!f || (i != z && (match tab[i]? with | some x => freeT tab l i x tab 0 | none => false))) && (!c || aloneT tab l i n) && rowsT tab n z r (l.set i true)
/-- The walk through a region in one order. -/
def GrowL (P : Program) (ops : Array Oper) (Q : Exit → Act → World → Prop) (S : List Nat) (z : Nat) : List (Nat × Bool × Bool) → Act → World → Prop
  | [], a, w => Q .normal a w
  | (i, f, c) :: r, a, w => ∃ oi, ops[i]? = some oi ∧
      ((f = true ∧ ∃ v, YieldsIf P ops (fun w' => Only S w w') oi v a ∧ GrowL P ops Q S z r (a.put oi.dst v) w) ∨
       (c = true ∧ Region.wanted oi (yielded ops a.tmps) = true ∧ oi.wp P a w (fun a' w' => (i = z ∨ Only S w w') ∧ GrowL P ops Q S z r a' w') Q))
theorem ready_lt {l : Array Bool} {j : Nat} (h : j ∈ Region.ready md ops l) : j < ops.size := by
  obtain ⟨_, o, ho, _⟩ := mem_ready.1 h
  exact (Array.getElem?_eq_some_iff.1 ho).1
theorem grow_of_rows {S : List Nat} {z : Nat} (hz : LastOp md ops z) (hsel : Region.noSelect ops = true) (hQ : ∀ c (a : Act) d v w, Q (.panic c) (a.put d v) w → Q (.panic c) a w) :
    ∀ (T : List (Nat × Bool × Bool)) (l : List Bool), rowsT (tabOf md ops) ops.size z T l = true → Closed md ops l.toArray → ∀ a w, GrowL P ops Q S z T a w → wpGrow P md ops Q S z T.length l.toArray a w
  | [], l, hT, _, a, w, h => by
    refine ⟨?_, h⟩
    rw [List.eq_nil_iff_forall_not_mem]
    intro j hj
    simp only [rowsT, List.all_eq_true, List.mem_range, Bool.not_eq_true'] at hT
    have := hT j (ready_lt hj)
    rw [(readyT_spec l j).2 hj] at this
    cases this
  | (i, f, c) :: r, l, hT, hcl, a, w, h => by
    simp only [rowsT, Bool.and_eq_true, Bool.or_eq_true, Bool.not_eq_true'] at hT
    obtain ⟨⟨⟨hrd, hf⟩, hc⟩, hr⟩ := hT
    obtain ⟨oi, hi, h⟩ := h
    have hcl' : Closed md ops (l.set i true).toArray := by
      have := hcl.add ((readyT_spec l i).1 hrd)
      simpa using this
    have hset : l.toArray.setIfInBounds i true = (l.set i true).toArray := by simp
    rcases h with ⟨hft, v, hy, hg⟩ | ⟨hct, hw, hwp⟩
    · have hfr := hf.resolve_left (by rw [hft]; simp)
      have htab : (tabOf md ops)[i]? = some (rowOf md ops oi) := by unfold tabOf; rw [List.getElem?_map, Array.getElem?_toList, hi]; rfl
      rw [htab] at hfr
      simp only [bne_iff_ne, ne_eq] at hfr
      refine wpGrow_first hz hfr.1 hi (Region.noSelect_spec hsel) (fun c a w => hQ c a _ _ w) r.length _ a w hcl (fun j oj hj hne hun hno => ?_) ((readyT_spec l i).1 hrd) hy ?_
      · have htj : (tabOf md ops)[j]? = some (rowOf md ops oj) := by unfold tabOf; rw [List.getElem?_map, Array.getElem?_toList, hj]; rfl
        have hl : l.getD j true = false := by simpa [List.getD_eq_getElem?_getD] using hun
        rcases freeT_spec _ l i _ _ 0 hfr.2 j _ htj with h1 | h1 | h1 | h1
        · exact absurd (by omega) hne
        · rw [Nat.zero_add, hl] at h1; cases h1
        · exfalso
          simp only [rowOf, List.contains_iff_mem, List.mem_map, List.mem_filter] at h1
          obtain ⟨e, ⟨he, hb⟩, heq⟩ := h1
          exact hno e (by simpa using he) hb heq
        · exact apartT_spec h1
      · rw [hset]
        exact grow_of_rows hz hsel hQ r _ hr hcl' _ _ hg
    · have hal := hc.resolve_left (by rw [hct]; simp)
      refine ⟨fun h0 => ?_, fun j hj => ?_⟩
      · have := (readyT_spec l i).1 hrd
        rw [h0] at this
        cases this
      · have hji : j = i := by
          simp only [aloneT, List.all_eq_true, List.mem_range, Bool.or_eq_true, beq_iff_eq, Bool.not_eq_true'] at hal
          rcases hal j (ready_lt hj) with h1 | h1
          · exact h1
          · rw [(readyT_spec l j).2 hj] at h1; cases h1
        subst hji
        rw [hset]
        unfold wpOp
        simp only [hi, hw, if_true]
        exact .inl (Oper.wp_mono (fun a' w' h => ⟨h.1, grow_of_rows hz hsel hQ r _ hr hcl' _ _ h.2⟩) hwp)
/-- The beginning. -/
theorem grow_start (S : List Nat) (z : Nat) (T : List (Nat × Bool × Bool)) {id : Nat} {a : Act} {w : World} (hm : P.follows .mixedOrders = true)
    (tab : List Row) (htab : tabOf .any ops = tab) (hs : Region.noSelect ops = true) {n : Nat} (hn : ops.size = n) (hT : (lastT tab n z && rowsT tab n z T (List.replicate n false) && T.length == n) = true)
    (hQ : ∀ c (a : Act) t v w, Q (.panic c) (a.put (some t) v) w → Q (.panic c) a w)
    (h : ∀ w1, Only [] w w1 → GrowL P ops Q S z T a w1) : (Code.region id ops true).wp P Q a w := by
  subst htab
  subst hn
  simp only [Bool.and_eq_true, beq_iff_eq] at hT
  obtain ⟨⟨h2, h1⟩, h3⟩ := hT
  have ho : Only [] w { w with drawn := w.drawn + 1 } := ⟨rfl, rfl, rfl, Nat.le_refl _, fun _ _ _ => rfl⟩
  refine wp_region_any hm (wpAny_of_grow (S := S) (z := z) _ _ _ _ ?_)
  have := grow_of_rows (S := S) (z := z) (lastT_spec h2) hs (fun c a d v w h => by cases d with | none => exact h | some t => exact hQ c a t v w h) T _ h1 (fun j oj _ hl => by exfalso; rw [Array.getD_eq_getD_getElem?, List.getElem?_toArray, List.getElem?_replicate] at hl; split at hl <;> simp at hl) a _ (h _ ho)
  rw [h3, List.toArray_replicate] at this
  exact this
section
variable {S : List Nat} {z : Nat} {i : Nat} {f c : Bool} {oi : Oper} {r : List (Nat × Bool × Bool)} {a : Act} {w : World}
theorem growl_off (hi : ops[i]? = some oi) (hw : Region.wanted oi (yielded ops a.tmps) = false) (h : GrowL P ops Q S z r (a.put oi.dst undef) w) : GrowL P ops Q S z ((i, true, c) :: r) a w :=
  ⟨oi, hi, .inl ⟨rfl, _, .inr ⟨hw, rfl⟩, h⟩⟩
theorem growl_on {v : Value} (hi : ops[i]? = some oi) (hw : Region.wanted oi (yielded ops a.tmps) = true) (hy : ∀ w', Only S w w' → (execOp a.eval oi).run P w' = .ok (.value v) w')
    (h : GrowL P ops Q S z r (a.put oi.dst v) w) : GrowL P ops Q S z ((i, true, c) :: r) a w :=
  ⟨oi, hi, .inl ⟨rfl, _, .inl ⟨hw, hy⟩, h⟩⟩
theorem growl_alone (hi : ops[i]? = some oi) (hw : Region.wanted oi (yielded ops a.tmps) = true) (h : oi.wp P a w (fun a' w' => (i = z ∨ Only S w w') ∧ GrowL P ops Q S z r a' w') Q) : GrowL P ops Q S z ((i, f, true) :: r) a w :=
  ⟨oi, hi, .inr ⟨rfl, hw, h⟩⟩
theorem growl_nil (h : Q .normal a w) : GrowL P ops Q S z [] a w := h
end
/-! ### The walk with the region's own temporaries beside the frame -/
def lk : List (Nat × Value) → Nat → Option Value
  | [], _ => none
  | (t, v) :: r, k => if k = t then some v else lk r k
def puts (a : Act) : List (Nat × Value) → Act
  | [] => a
  | (t, v) :: r => (puts a r).put (some t) v
def evE (a : Act) (env : List (Nat × Value)) : Operand → Value
  | .tmp t => match lk env t with
    | some v => v
    | none => a.eval (.tmp t)
  | x => a.eval x
theorem puts_size (a : Act) : ∀ env, (puts a env).tmps.size = a.tmps.size
  | [] => rfl
  | (t, v) :: r => by simp [puts, Act.put, puts_size a r]
theorem puts_defers (a : Act) : ∀ env, (puts a env).defers = a.defers
  | [] => rfl
  | (t, v) :: r => by simp [puts, Act.put, puts_defers a r]
theorem puts_get (a : Act) (k : Nat) : ∀ env : List (Nat × Value), (∀ p ∈ env, p.1 < a.tmps.size) → (puts a env).tmps[k]? = (lk env k).or a.tmps[k]?
  | [], _ => by simp [puts, lk]
  | (t, v) :: r, h => by
    have ht : t < a.tmps.size := h (t, v) (by simp)
    have ih := puts_get a k r (fun p hp => h p (by simp [hp]))
    show ((puts a r).tmps.setIfInBounds t v)[k]? = _
    rw [Array.getElem?_setIfInBounds]
    by_cases hk : t = k
    · subst hk
      rw [if_pos rfl, if_pos (by rw [puts_size]; exact ht)]
      simp [lk]
    · rw [if_neg hk, ih]
      simp [lk, Ne.symm hk]
theorem puts_eval (a : Act) (env : List (Nat × Value)) (h : ∀ p ∈ env, p.1 < a.tmps.size) : (puts a env).eval = evE a env := by
  funext x
  cases x with
  | tmp t =>
    show (puts a env).tmps.getD t undef = evE a env (.tmp t)
    rw [Array.getD_eq_getD_getElem?, puts_get a t env h]
    simp only [evE]
    cases hl : lk env t with
    | none => simp [Act.eval]
    | some v => simp
  | _ => rfl
/-- Is the operation carried out? -/
def wantE (ops : Array Oper) (env : List (Nat × Value)) (o : Oper) : Option Bool :=
  match o.guard with
  | none => some true
  | some (j, want) => match (ops[j]?).bind (·.dst) with
    | none => none
    | some d => match lk env d with
      | some (.bool b) => some (b == want)
      | some .nilIface => none
      | some (.tuple _) => some false
      | _ => none
theorem wantE_spec {env : List (Nat × Value)} {o : Oper} {b : Bool} (a : Act) (h : ∀ p ∈ env, p.1 < a.tmps.size) (hw : wantE ops env o = some b) : Region.wanted o (yielded ops (puts a env).tmps) = b := by
  unfold wantE at hw
  unfold Region.wanted
  cases hg : o.guard with
  | none => rw [hg] at hw; simpa using hw
  | some p =>
    obtain ⟨j, want⟩ := p
    rw [hg] at hw
    simp only at hw ⊢
    unfold yielded
    cases hd : (ops[j]?).bind (·.dst) with
    | none => rw [hd] at hw; cases hw
    | some d =>
      rw [hd] at hw
      simp only [Option.bind_some] at hw ⊢
      rw [puts_get a d env h]
      cases hl : lk env d with
      | none => rw [hl] at hw; simp at hw
      | some v =>
        rw [hl] at hw
        cases v <;> simp at hw ⊢ <;> simp [hw]
/-- The walk at a frame of which these temporaries were filled in the region. -/
def GrowE (P : Program) (ops : Array Oper) (Q : Exit → Act → World → Prop) (S : List Nat) (z : Nat) (T : List (Nat × Bool × Bool)) (a : Act) (N : Nat) (env : List (Nat × Value)) (w : World) : Prop :=
  a.tmps.size = N → (∀ p ∈ env, p.1 < N) → GrowL P ops Q S z T (puts a env) w
theorem growe_start {S : List Nat} {z : Nat} {T : List (Nat × Bool × Bool)} {a : Act} {w : World} {N : Nat} (hN : a.tmps.size = N) (h : GrowE P ops Q S z T a N [] w) : GrowL P ops Q S z T a w :=
  h hN (by simp)
theorem more_lt {d N : Nat} {v : Value} {env : List (Nat × Value)} (hd : d < N) (he : ∀ p ∈ env, p.1 < N) : ∀ p ∈ (d, v) :: env, p.1 < N := by
  intro p hp
  rcases List.mem_cons.1 hp with rfl | hp
  · exact hd
  · exact he p hp
section
variable {S : List Nat} {z : Nat} {i : Nat} {f c : Bool} {oi : Oper} {d : Nat} {T : List (Nat × Bool × Bool)} {a : Act} {w : World} {N : Nat} {env : List (Nat × Value)}
theorem ge_off (hi : ops[i]? = some oi) (hdst : oi.dst = some d) (hd : decide (d < N) = true) (hw : wantE ops env oi = some false) (h : GrowE P ops Q S z T a N ((d, undef) :: env) w) : GrowE P ops Q S z ((i, true, c) :: T) a N env w := by
  intro hN he
  subst hN
  refine growl_off hi (wantE_spec a he hw) ?_
  rw [hdst]
  exact h rfl (more_lt (of_decide_eq_true hd) he)
theorem ge_val {v : Value} (hi : ops[i]? = some oi) (hdst : oi.dst = some d) (hd : decide (d < N) = true) (hw : wantE ops env oi = some true) (hy : ∀ w', Only S w w' → (execOp (evE a env) oi).run P w' = .ok (.value v) w')
    (h : GrowE P ops Q S z T a N ((d, v) :: env) w) : GrowE P ops Q S z ((i, true, c) :: T) a N env w := by
  intro hN he
  subst hN
  refine growl_on hi (wantE_spec a he hw) (by rw [puts_eval a env he]; exact hy) ?_
  rw [hdst]
  exact h rfl (more_lt (of_decide_eq_true hd) he)
/-- What an operation copies. -/
def copies : Op → Option Operand
  | .move x | .assign x => some x
  | _ => none
theorem ge_move {v : Value} {x : Operand} (hi : ops[i]? = some oi) (hdst : oi.dst = some d) (hd : decide (d < N) = true) (hw : wantE ops env oi = some true) (hx : copies oi.op = some x) (hv : evE a env x = v)
    (h : GrowE P ops Q S z T a N ((d, v) :: env) w) : GrowE P ops Q S z ((i, true, c) :: T) a N env w := by
  refine ge_val hi hdst hd hw (fun w' _ => ?_) h
  subst hv
  unfold copies at hx
  unfold execOp
  split at hx
  · cases hx; rename_i heq; rw [heq]; rfl
  · cases hx; rename_i heq; rw [heq]; rfl
  · cases hx
theorem ge_pick {b : Bool} {v : Value} {x y y2 : Operand} (hi : ops[i]? = some oi) (hdst : oi.dst = some d) (hd : decide (d < N) = true) (hw : wantE ops env oi = some true) (hx : oi.op = .pick x y y2) (hb : evE a env x = .bool b)
    (hv : (if b = true then evE a env y else evE a env y2) = v) (h : GrowE P ops Q S z T a N ((d, v) :: env) w) : GrowE P ops Q S z ((i, true, c) :: T) a N env w := by
  refine ge_val hi hdst hd hw (fun w' _ => ?_) h
  subst hv
  unfold execOp
  rw [hx]
  simp only [hb, asBool]
  cases b <;> rfl
/-- A call of a Go function, that comes up alone. -/
theorem ge_call {g : FuncId} {xs : Array Operand} {tys : Array TypeId} {vs : Array Value} (hi : ops[i]? = some oi) (hdst : oi.dst = some d) (hd : decide (d < N) = true) (hw : wantE ops env oi = some true)
    (hx : oi.op = .call { callee := .value (.func g), args := xs, argTypes := tys }) (hvs : xs.map (evE a env) = vs) (hcf : (callFunc g vs).run P w = .ok (.enter g vs) w)
    (h : Calls P g vs w fun e w' => ∃ v, e = .returned v ∧ Only S w w' ∧ GrowE P ops Q S z T a N ((d, v) :: env) w') : GrowE P ops Q S z ((i, f, true) :: T) a N env w := by
  intro hN he
  subst hN
  refine growl_alone hi (wantE_spec a he hw) ?_
  unfold Oper.wp execOp
  rw [puts_eval a env he, hx]
  have hr : (do let d ← resolve (evE a env) { callee := .value (.func g), args := xs, argTypes := tys } oi.type; invoke d.target d.args).run P w = .ok (.enter g vs) w := by
    simp only [resolve, Sem.run_bind, hvs]
    have e1 : (evE a env (.func g)) = .func (.func g) #[] #[] := rfl
    rw [e1]
    simp only [Deferred.ofValue]
    simp [invoke, hcf]
  rw [hr]
  simp only [Oper.upon]
  refine Calls.mono h fun e w' ⟨v, he', ho, hg⟩ => ?_
  subst he'
  refine ⟨.inr ho, ?_⟩
  rw [hdst]
  exact hg rfl (more_lt (of_decide_eq_true hd) he)
/-- An operation that makes memory and comes up alone. -/
theorem ge_mem {v : Value} {w' : World} (hi : ops[i]? = some oi) (hdst : oi.dst = some d) (hd : decide (d < N) = true) (hw : wantE ops env oi = some true) (hy : (execOp (evE a env) oi).run P w = .ok (.value v) w')
    (ho : Only S w w') (h : GrowE P ops Q S z T a N ((d, v) :: env) w') : GrowE P ops Q S z ((i, f, true) :: T) a N env w := by
  intro hN he
  subst hN
  refine growl_alone hi (wantE_spec a he hw) ?_
  unfold Oper.wp
  rw [puts_eval a env he, hy]
  simp only [Oper.upon]
  refine ⟨.inr ho, ?_⟩
  rw [hdst]
  exact h rfl (more_lt (of_decide_eq_true hd) he)
/-- The operation that waits for all others. -/
theorem ge_last {w' : World} (hi : ops[z]? = some oi) (hdst : oi.dst = none) (hw : wantE ops env oi = some true) (hy : (execOp (evE a env) oi).run P w = .ok .skip w')
    (h : Q .normal (puts a env) w') : GrowE P ops Q S z ((z, f, true) :: []) a N env w := by
  intro hN he
  subst hN
  refine growl_alone hi (wantE_spec a he hw) ?_
  unfold Oper.wp
  rw [puts_eval a env he, hy]
  simp only [Oper.upon]
  refine ⟨.inl trivial, ?_⟩
  rw [hdst]
  exact h
/-- append to a slice of the call's own, of elements that lie in memory. -/
theorem ge_append (hi : ops[i]? = some oi) (hdst : oi.dst = some d) (hd : decide (d < N) = true) (hw : wantE ops env oi = some true) (s x : Operand) (t : TypeId)
    (ho : oi.op = .call { callee := .builtin .append, args := #[s, x], argTypes := #[t, t] })
    (base : Nat) (e : TypeId) (size bytes : Nat) (z9 : Value) (ht : P.underlying t = some (.slice e)) (hinfo : (P.info? e).map (fun i => (i.zero, i.size, i.bytes)) = some (some z9, size, bytes))
    (hzs : z9.cells.size = size) (hsz : 0 < size)
    (v : Value) (n : Nat) (xs : List Value) (hs : evE a env s = v) (hown : w.ownsRow base e size v n xs)
    (ad : Addr) (m c9 : Nat) (news : List Value) (hx : evE a env x = .slice (some ad) m c9) (hl : news.length = m * size) (hnews : CellsAt w ad news) (h1 : ∀ u ∈ news, u.oneCell' = true)
    (hm : 0 < m) (h63 : n + m ≤ maxLen) (hbytes : (n + m) * bytes ≤ 140737488355328) (hbase : base ≤ w.heap.size)
    (h : ∀ g cap w', w'.ownsRow base e size (.slice (some ⟨g, 0, none⟩) (n + m) cap) (n + m) (xs ++ news) → Only v.ownBlock.toList w w' → (v.ownBlock = some g ∨ g = w.heap.size) → g < w'.heap.size →
      Only S w w' ∧ GrowE P ops Q S z T a N ((d, .slice (some ⟨g, 0, none⟩) (n + m) cap) :: env) w') : GrowE P ops Q S z ((i, f, true) :: T) a N env w := by
  obtain ⟨ti, h2, h3, h4, h5⟩ := info_parts hinfo
  intro hN he
  subst hN
  refine growl_alone hi (wantE_spec a he hw) ?_
  have hs' : (puts a env).eval s = v := by rw [puts_eval a env he]; exact hs
  have hx' : (puts a env).eval x = .slice (some ad) m c9 := by rw [puts_eval a env he]; exact hx
  refine wp_append_lies w s x t ho base e ti z9 size bytes ht h2 h3 h4 h5 hzs hsz v n xs hs' hown ad m c9 news hx' hl hnews h1 hm h63 hbytes hbase _ rfl ?_
  intro g cap w' h6 h7 h8 h9
  obtain ⟨h10, h11⟩ := h g cap w' h6 ((Only.refl _ _).grown h7 (fun k hk => .inl (by rw [hk]; simp))) h8 h9
  refine ⟨.inr h10, ?_⟩
  rw [hdst]
  exact h11 rfl (more_lt (of_decide_eq_true hd) he)
theorem ge_done (h : Q .normal (puts a env) w) : GrowE P ops Q S z [] a N env w := fun _ _ => h
end
end
end L
/-- A slice of the call's own stays what it is. -/
theorem ownsRow_only {w w' : World} {base : Nat} {e : TypeId} {size : Nat} {v : Value} {n : Nat} {xs : List Value} {S : List Nat} (h : w.ownsRow base e size v n xs) (ho : Only S w w') (hS : ∀ k, v.ownBlock = some k → k ∉ S) : w'.ownsRow base e size v n xs := by
  refine ⟨h.1, ?_⟩
  rcases h.2 with hn | ⟨g, cap, cur, hv, hb, hg, rest⟩
  · exact .inl hn
  · exact .inr ⟨g, cap, cur, hv, hb, ho.heap hg (hS g (by rw [hv]; rfl)), rest⟩
end Go.Proofs.Ytlngfelpmebemaa
