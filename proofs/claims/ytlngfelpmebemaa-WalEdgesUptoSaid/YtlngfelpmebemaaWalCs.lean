/-
  The log over a disk when the power goes: between two groups, or in the middle of one. No program in sight.
-/
import Derived.Test.YtlngfelpmebemaaWalCr
namespace Go.Proofs.Ytlngfelpmebemaa
open Go Go.RowKit
set_option linter.unusedSimpArgs false
set_option linter.unusedVariables false
theorem nodup_bound : ∀ (p : Nat) (l : List Nat), l.Nodup → (∀ x ∈ l, x < p) → l.length ≤ p
  | 0, l, h, hl => by
    match l, hl with
    | [], _ => simp
    | x :: l, hl => exact absurd (hl x (List.mem_cons_self ..)) (by omega)
  | p + 1, l, h, hl => by
    have h1 := nodup_bound p (l.erase p) (h.erase p) (fun x hx => by
      have := (h.mem_erase_iff).1 hx
      have := hl x this.2
      omega)
    have h2 := List.length_erase (a := p) (l := l)
    split at h2 <;> omega
theorem right_targets {p : Nat} {xs : List Wr} (h : RightP p xs) : (targetsOf xs).Nodup ∧ ∀ t ∈ targetsOf xs, t < p := by
  unfold targetsOf
  refine ⟨?_, fun t ht => ?_⟩
  · have hn := h.2
    have h0 : ∀ x ∈ xs, 0 ≤ x.1 := fun x hx => (h.1 x hx).1
    clear h
    induction xs with
    | nil => simp
    | cons x xs ih =>
      rw [List.map_cons, List.nodup_cons] at hn ⊢
      refine ⟨fun hm => hn.1 ?_, ih hn.2 (fun y hy => h0 y (List.mem_cons_of_mem _ hy))⟩
      obtain ⟨y, hy, e⟩ := List.mem_map.1 hm
      refine List.mem_map.2 ⟨y, hy, ?_⟩
      have := h0 x (List.mem_cons_self ..)
      have := h0 y (List.mem_cons_of_mem _ hy)
      omega
  · obtain ⟨x, hx, rfl⟩ := List.mem_map.1 ht
    have := h.1 x hx
    unfold okW at this
    omega
theorem right_length {p : Nat} {xs : List Wr} (h : RightP p xs) : xs.length ≤ p := by
  have := nodup_bound p _ (right_targets h).1 (right_targets h).2
  unfold targetsOf at this
  simpa using this
/-- What is to be where, with a group behind it. -/
def behind (M : List (List UInt8)) (xs : List Wr) : List (List UInt8) := putAll (xs.map fun x => (x.1.toNat, x.2)) M
theorem behind_length (M : List (List UInt8)) (xs : List Wr) : (behind M xs).length = M.length := putAll_length _ _
theorem behind_other (M : List (List UInt8)) (xs : List Wr) (i : Nat) (h : i ∉ targetsOf xs) : (behind M xs).getD i [] = M.getD i [] := by
  refine putAll_other _ _ _ (fun y hy e => h ?_)
  obtain ⟨x, hx, rfl⟩ := List.mem_map.1 hy
  exact List.mem_map.2 ⟨x, hx, e⟩
theorem behind_at {p : Nat} {M : List (List UInt8)} {xs : List Wr} (h : RightP p xs) (hM : M.length = p) {x : Wr} (hx : x ∈ xs) : (behind M xs).getD x.1.toNat [] = x.2 := by
  have ht := right_targets h
  refine putAll_mem _ _ _ _ ?_ (List.mem_map.2 ⟨x, hx, rfl⟩) ?_
  · rw [List.map_map]
    exact ht.1
  · rw [hM]
    exact ht.2 _ (List.mem_map.2 ⟨x, hx, rfl⟩)
/-- Between two groups. -/
structure St0 (nm p : Nat) (L M : List (List UInt8)) : Prop where
  head : L.getD 0 [] = sec 0
  len : M.length = p
  data : ∀ i, i < p → L.getD (1 + nm + p + i) [] = M.getD i []
/-- A group is to be, and not yet all of it is. -/
structure St1 (nm p : Nat) (L M : List (List UInt8)) (xs : List Wr) : Prop where
  head : L.getD 0 [] = headOf xs.length
  names : ∀ j, j < listsN xs.length → L.getD (1 + j) [] = nameSec (targetsOf xs) j
  images : ∀ (k : Nat) (x : Wr), xs[k]? = some x → L.getD (1 + nm + k) [] = x.2
  len : M.length = p
  data : ∀ i, i < p → i ∉ targetsOf xs → L.getD (1 + nm + p + i) [] = M.getD i []
theorem imgW_fst (nm : Nat) : ∀ (xs : List Wr) (i : Nat), (imgW nm i xs).map (·.1) = List.range' (1 + nm + i) xs.length
  | [], i => rfl
  | x :: xs, i => by
    rw [imgW, List.map_cons, imgW_fst nm xs (i + 1), List.length_cons, List.range'_succ]
    rfl
theorem imgW_mem (nm : Nat) : ∀ (xs : List Wr) (i k : Nat) (x : Wr), xs[k]? = some x → (1 + nm + (i + k), x.2) ∈ imgW nm i xs
  | [], i, k, x, h => by simp at h
  | y :: xs, i, k, x, h => by
    rw [imgW]
    match k with
    | 0 =>
      simp at h
      subst h
      exact List.mem_cons_self ..
    | k + 1 =>
      have := imgW_mem nm xs (i + 1) k x (by simpa using h)
      rw [show i + 1 + k = i + (k + 1) by omega] at this
      exact List.mem_cons_of_mem _ this
theorem secW_fst : ∀ (bs : List (List UInt8)) (i : Nat), (secW i bs).map (·.1) = List.range' (1 + i) bs.length
  | [], i => rfl
  | b :: bs, i => by
    rw [secW, List.map_cons, secW_fst bs (i + 1), List.length_cons, List.range'_succ]
    rfl
theorem secW_mem : ∀ (bs : List (List UInt8)) (i k : Nat) (b : List UInt8), bs[k]? = some b → (1 + (i + k), b) ∈ secW i bs
  | [], i, k, b, h => by simp at h
  | y :: bs, i, k, b, h => by
    rw [secW]
    match k with
    | 0 =>
      simp at h
      subst h
      exact List.mem_cons_self ..
    | k + 1 =>
      have := secW_mem bs (i + 1) k b (by simpa using h)
      rw [show i + 1 + k = i + (k + 1) by omega] at this
      exact List.mem_cons_of_mem _ this
theorem fst_range {ws : Ws} {s n : Nat} (h : ws.map (·.1) = List.range' s n) {x : Nat × List UInt8} (hx : x ∈ ws) : s ≤ x.1 ∧ x.1 < s + n := by
  have : x.1 ∈ List.range' s n := by rw [← h]; exact List.mem_map.2 ⟨x, hx, rfl⟩
  rw [List.mem_range'_1] at this
  exact this
def namesOf (xs : List Wr) : List (List UInt8) := (List.range (listsN xs.length)).map (nameSec (targetsOf xs))
/-- The writes by which a group comes to be. -/
def firstW (nm : Nat) (xs : List Wr) : Ws := imgW nm 0 xs ++ secW 0 (namesOf xs)
def markW (nm : Nat) (xs : List Wr) : Ws := firstW nm xs ++ [(0, headOf xs.length)]
def dataW (nm p : Nat) (xs : List Wr) : Ws := xs.map fun x => (1 + nm + p + x.1.toNat, x.2)
def lastW (nm p : Nat) (xs : List Wr) : Ws := dataW nm p xs ++ [(0, sec 0)]
theorem imgW_length (nm : Nat) (xs : List Wr) (i : Nat) : (imgW nm i xs).length = xs.length := by
  have := congrArg List.length (imgW_fst nm xs i)
  simpa using this
theorem secW_length (bs : List (List UInt8)) (i : Nat) : (secW i bs).length = bs.length := by
  have := congrArg List.length (secW_fst bs i)
  simpa using this
theorem firstW_length (nm : Nat) (xs : List Wr) : (firstW nm xs).length = xs.length + listsN xs.length := by
  unfold firstW namesOf
  rw [List.length_append, imgW_length, secW_length]
  simp
theorem lists_mono {a b : Nat} (h : a ≤ b) : listsN a ≤ listsN b := by unfold listsN; omega
/-- Where a disk has room for its parts. -/
structure Geo (nm p n : Nat) : Prop where
  lists : nm = listsN p
  fit : 1 + nm + 2 * p ≤ n
  small : p ≤ 10000
theorem first_range {nm p n : Nat} (g : Geo nm p n) {xs : List Wr} (h : RightP p xs) {x : Nat × List UInt8} (hx : x ∈ firstW nm xs) : 1 ≤ x.1 ∧ x.1 < 1 + nm + p := by
  have hl := right_length h
  have hm := lists_mono hl
  have hg := g.lists
  unfold firstW namesOf at hx
  rcases List.mem_append.1 hx with hx | hx
  · have := fst_range (imgW_fst nm xs 0) hx
    omega
  · have := fst_range (secW_fst _ 0) hx
    simp at this
    omega
theorem nameSec_length (ts : List Nat) (j : Nat) (h : j < listsN ts.length) : (nameSec ts j).length = 256 := by
  unfold nameSec
  rw [List.length_take, List.length_drop, namesTo_length]
  omega
theorem targetsOf_length (xs : List Wr) : (targetsOf xs).length = xs.length := by simp [targetsOf]
theorem first_ok {nm p n : Nat} (g : Geo nm p n) {xs : List Wr} (h : RightP p xs) : OkW n (firstW nm xs) := by
  intro x hx
  have hr := first_range g h hx
  have hf := g.fit
  refine ⟨by omega, ?_⟩
  unfold firstW namesOf at hx
  rcases List.mem_append.1 hx with hx | hx
  · have : ∀ (xs : List Wr) (i : Nat), (∀ y ∈ xs, y.2.length = 256) → ∀ x ∈ imgW nm i xs, x.2.length = 256 := by
      intro xs
      induction xs with
      | nil => intro i _ x hx; simp [imgW] at hx
      | cons y xs ih =>
        intro i hy x hx
        rw [imgW] at hx
        rcases List.mem_cons.1 hx with rfl | hx
        · exact hy y (List.mem_cons_self ..)
        · exact ih (i + 1) (fun z hz => hy z (List.mem_cons_of_mem _ hz)) x hx
    exact this xs 0 (fun y hy => (h.1 y hy).2.2) x hx
  · have : ∀ (bs : List (List UInt8)) (i : Nat), (∀ y ∈ bs, y.length = 256) → ∀ x ∈ secW i bs, x.2.length = 256 := by
      intro bs
      induction bs with
      | nil => intro i _ x hx; simp [secW] at hx
      | cons y bs ih =>
        intro i hy x hx
        rw [secW] at hx
        rcases List.mem_cons.1 hx with rfl | hx
        · exact hy y (List.mem_cons_self ..)
        · exact ih (i + 1) (fun z hz => hy z (List.mem_cons_of_mem _ hz)) x hx
    refine this _ 0 (fun y hy => ?_) x hx
    obtain ⟨j, hj, rfl⟩ := List.mem_map.1 hy
    exact nameSec_length _ _ (by rw [targetsOf_length]; simpa using hj)
theorem mark_ok {nm p n : Nat} (g : Geo nm p n) {xs : List Wr} (h : RightP p xs) : OkW n (markW nm xs) :=
  (first_ok g h).append (fun x hx => by
    simp at hx
    subst hx
    exact ⟨by have := g.fit; show 0 < n; omega, headOf_length _⟩)
theorem last_ok {nm p n : Nat} (g : Geo nm p n) {xs : List Wr} (h : RightP p xs) : OkW n (lastW nm p xs) := by
  unfold lastW dataW
  refine OkW.append (fun x hx => ?_) (fun x hx => ?_)
  · obtain ⟨y, hy, rfl⟩ := List.mem_map.1 hx
    have := (right_targets h).2 _ (List.mem_map.2 ⟨y, hy, rfl⟩)
    have := g.fit
    exact ⟨by show 1 + nm + p + y.1.toNat < n; omega, (h.1 y hy).2.2⟩
  · simp at hx
    subst hx
    exact ⟨by have := g.fit; show 0 < n; omega, sec_length 0⟩
/-- Ahead of the mark all is as it was. -/
theorem first_state {nm p n : Nat} (g : Geo nm p n) {xs : List Wr} (h : RightP p xs) {L M : List (List UInt8)} (hs : St0 nm p L M) (k : Nat) : St0 nm p (putAll ((firstW nm xs).take k) L) M := by
  have hr : ∀ x ∈ (firstW nm xs).take k, 1 ≤ x.1 ∧ x.1 < 1 + nm + p := fun x hx => first_range g h (List.mem_of_mem_take hx)
  refine ⟨?_, hs.len, fun i hi => ?_⟩
  · rw [putAll_other _ _ _ (fun x hx => by have := hr x hx; omega)]
    exact hs.head
  · rw [putAll_other _ _ _ (fun x hx => by have := hr x hx; omega)]
    exact hs.data i hi
/-- The mark is what makes a group. -/
theorem mark_state {nm p n : Nat} (g : Geo nm p n) {xs : List Wr} (h : RightP p xs) {L M : List (List UInt8)} (hs : St0 nm p L M) (hn : L.length = n) : St1 nm p (putAll (markW nm xs) L) M xs := by
  have hl := right_length h
  have hm := lists_mono hl
  have hg := g.lists
  have hf := g.fit
  unfold markW
  rw [putAll_append]
  have hone : ∀ j, 1 ≤ j → (putAll [(0, headOf xs.length)] (putAll (firstW nm xs) L)).getD j [] = (putAll (firstW nm xs) L).getD j [] := fun j hj => putAll_other _ _ _ (fun x hx => by simp at hx; subst hx; show (0 : Nat) ≠ j; omega)
  refine ⟨?_, fun j hj => ?_, fun k x hx => ?_, hs.len, fun i hi hni => ?_⟩
  · exact putAll_mem _ _ _ _ (by simp) (by simp) (by rw [putAll_length]; omega)
  · rw [hone _ (by omega)]
    unfold firstW
    rw [putAll_append]
    refine putAll_mem _ _ _ _ (by rw [secW_fst]; exact List.nodup_range' ..) ?_ (by rw [putAll_length]; omega)
    have := secW_mem (namesOf xs) 0 j (nameSec (targetsOf xs) j) (by unfold namesOf; rw [List.getElem?_map, List.getElem?_range hj]; rfl)
    rwa [Nat.zero_add] at this
  · have hk : k < xs.length := (List.getElem?_eq_some_iff.1 hx).1
    rw [hone _ (by omega)]
    unfold firstW
    rw [putAll_append, putAll_other _ _ _ (fun y hy => by
      have := fst_range (secW_fst _ 0) hy
      unfold namesOf at this
      simp at this
      omega)]
    refine putAll_mem _ _ _ _ (by rw [imgW_fst]; exact List.nodup_range' ..) ?_ (by omega)
    have := imgW_mem nm xs 0 k x hx
    rwa [Nat.zero_add] at this
  · rw [hone _ (by omega), putAll_other _ _ _ (fun y hy => by have := first_range g h hy; omega)]
    exact hs.data i hi
/-- Behind the mark it stays, -/
theorem data_state {nm p n : Nat} (g : Geo nm p n) {xs : List Wr} (h : RightP p xs) {L M : List (List UInt8)} (hs : St1 nm p L M xs) (k : Nat) : St1 nm p (putAll ((dataW nm p xs).take k) L) M xs := by
  have hr : ∀ x ∈ (dataW nm p xs).take k, ∃ t ∈ targetsOf xs, x.1 = 1 + nm + p + t := fun x hx => by
    obtain ⟨y, hy, rfl⟩ := List.mem_map.1 (List.mem_of_mem_take hx)
    exact ⟨_, List.mem_map.2 ⟨y, hy, rfl⟩, rfl⟩
  have hl := right_length h
  have hm := lists_mono hl
  have hg := g.lists
  refine ⟨?_, fun j hj => ?_, fun k x hx => ?_, hs.len, fun i hi hni => ?_⟩
  · rw [putAll_other _ _ _ (fun x hx => by obtain ⟨t, _, e⟩ := hr x hx; omega)]
    exact hs.head
  · rw [putAll_other _ _ _ (fun x hx => by obtain ⟨t, _, e⟩ := hr x hx; omega)]
    exact hs.names j hj
  · have hk := (List.getElem?_eq_some_iff.1 hx).1
    rw [putAll_other _ _ _ (fun x hx => by obtain ⟨t, _, e⟩ := hr x hx; omega)]
    exact hs.images k x hx
  · rw [putAll_other _ _ _ (fun x hx e => by
      obtain ⟨t, ht, e2⟩ := hr x hx
      have : t = i := by omega
      exact hni (this ▸ ht))]
    exact hs.data i hi hni
/-- till all of it is. -/
theorem last_state {nm p n : Nat} (g : Geo nm p n) {xs : List Wr} (h : RightP p xs) {L M : List (List UInt8)} (hs : St1 nm p L M xs) (hn : L.length = n) : St0 nm p (putAll (lastW nm p xs) L) (behind M xs) := by
  have hf := g.fit
  have ht := right_targets h
  unfold lastW
  rw [putAll_append]
  refine ⟨putAll_mem _ _ _ _ (by simp) (by simp) (by rw [putAll_length]; omega), by rw [behind_length]; exact hs.len, fun i hi => ?_⟩
  rw [putAll_other _ _ _ (fun x hx => by simp at hx; subst hx; show (0 : Nat) ≠ _; omega)]
  by_cases hm : i ∈ targetsOf xs
  · obtain ⟨x, hx, rfl⟩ := List.mem_map.1 hm
    rw [behind_at h hs.len hx]
    refine putAll_mem _ _ _ _ ?_ (List.mem_map.2 ⟨x, hx, rfl⟩) (by omega)
    unfold dataW
    rw [List.map_map]
    have : (xs.map ((fun y : Nat × List UInt8 => y.1) ∘ fun x : Wr => (1 + nm + p + x.1.toNat, x.2))) = (targetsOf xs).map (1 + nm + p + ·) := by
      unfold targetsOf
      rw [List.map_map]
      rfl
    rw [this]
    exact List.Pairwise.map _ (fun a b (hab : a ≠ b) => by show 1 + nm + p + a ≠ 1 + nm + p + b; omega) ht.1
  · rw [behind_other _ _ _ hm]
    have := data_state g h hs (dataW nm p xs).length
    rw [List.take_length] at this
    exact this.data i hi hm
/-! What a group's Commit leaves, and what Open makes of it. -/
theorem appW_is {nm p : Nat} {L : List (List UInt8)} : ∀ (xs : List Wr) (i : Nat), (∀ (k : Nat) (x : Wr), xs[k]? = some x → L.getD (1 + nm + (i + k)) [] = x.2) → appW nm p i (targetsOf xs) L = dataW nm p xs
  | [], i, h => rfl
  | x :: xs, i, h => by
    show (1 + nm + p + x.1.toNat, L.getD (1 + nm + i) []) :: appW nm p (i + 1) (targetsOf xs) L = _
    have h0 := h 0 x rfl
    rw [Nat.add_zero] at h0
    rw [h0, appW_is xs (i + 1) (fun k y hy => by rw [show i + 1 + k = i + (k + 1) by omega]; exact h (k + 1) y (by simpa using hy))]
    rfl
theorem apply_is {nm p : Nat} {D : Dk} {M : List (List UInt8)} {xs : List Wr} (h : RightP p xs) (hs : St1 nm p D.L M xs) : applyP nm p 0 (targetsOf xs) D = runW (lastW nm p xs) D := by
  rw [apply_run nm p _ 0 D (by rw [targetsOf_length, Nat.zero_add]; exact right_length h), appW_is xs 0 (fun k x hx => by rw [Nat.zero_add]; exact hs.images k x hx)]
  rfl
theorem dataW_length (nm p : Nat) (xs : List Wr) : (dataW nm p xs).length = xs.length := by simp [dataW]
theorem lastW_length (nm p : Nat) (xs : List Wr) : (lastW nm p xs).length = xs.length + 1 := by simp [lastW, dataW]
theorem markW_length (nm : Nat) (xs : List Wr) : (markW nm xs).length = xs.length + listsN xs.length + 1 := by
  unfold markW
  rw [List.length_append, firstW_length]
  rfl
/-- What the last writes of a group leave. -/
theorem last_spec {nm p n : Nat} (g : Geo nm p n) {xs : List Wr} (h : RightP p xs) {D : Dk} {M : List (List UInt8)} (hs : St1 nm p D.L M xs) (hn : D.L.length = n) (ho : D.off = false) (hl : -1 ≤ D.left) :
    (∃ D', applyP nm p 0 (targetsOf xs) D = (0, D') ∧ St0 nm p D'.L (behind M xs) ∧ D'.L.length = n ∧ D'.off = false ∧ D'.writes = D.writes + (xs.length + 1 : Nat) ∧ ((D.left = -1 ∧ D'.left = -1) ∨ (((xs.length + 1 : Nat) : Int) ≤ D.left ∧ D'.left = D.left - (xs.length + 1 : Nat)))) ∨
    (∃ D' k, applyP nm p 0 (targetsOf xs) D = (6, D') ∧ k < xs.length + 1 ∧ D.left = (k : Int) ∧ St1 nm p D'.L M xs ∧ D'.L.length = n ∧ D'.off = true ∧ D'.writes = D.writes + k ∧ D'.left = 0) := by
  rw [apply_is h hs]
  rcases run_spec (lastW nm p xs) D ho (by rw [hn]; exact last_ok g h) hl with ⟨D', e1, e2, e3, e4, e5⟩ | ⟨D', k, e1, e2, e3, e4, e5, e6, e7⟩
  · rw [lastW_length] at e4 e5
    exact .inl ⟨D', e1, by rw [e2]; exact last_state g h hs hn, by rw [e2, putAll_length, hn], e3, e4, e5⟩
  · rw [lastW_length] at e2
    refine .inr ⟨D', k, e1, e2, e3, ?_, by rw [e4, putAll_length, hn], e5, e6, e7⟩
    have : (lastW nm p xs).take k = (dataW nm p xs).take k := by
      unfold lastW
      rw [List.take_append_of_le_length (by rw [dataW_length]; omega)]
    rw [e4, this]
    exact data_state g h hs k
theorem andP_assoc (a : Int × Dk) (f g : Dk → Int × Dk) : andP (andP a f) g = andP a fun D => andP (f D) g := by
  unfold andP
  by_cases h : a.1 ≠ 0
  · rw [if_pos h, if_pos h, if_pos h]
  · rw [if_neg h, if_neg h]
theorem write_run (D : Dk) (b : List UInt8) : runW [(0, b)] D = D.write 0 b := by
  rw [runW]
  simp only [runW]
  split
  · rfl
  · rename_i h0
    exact Prod.ext (by have : (D.write 0 b).1 = 0 := by simpa using h0
                       exact this.symm) rfl
theorem lay_is (nm p : Nat) (xs : List Wr) (D : Dk) : layP nm p xs D = andP (runW (markW nm xs) D) (applyP nm p 0 (targetsOf xs)) := by
  unfold markW firstW
  rw [← andP_run, ← andP_run, andP_assoc, andP_assoc, ← images_run]
  unfold layP
  congr 1
  funext D1
  rw [← secs_run]
  show andP (secsP 0 (namesOf xs) D1) _ = _
  congr 1
  funext D2
  rw [write_run]
/-- What Commit leaves of a disk between two groups. -/
theorem lay_spec {nm p n : Nat} (g : Geo nm p n) {xs : List Wr} (h : RightP p xs) {D : Dk} {M : List (List UInt8)} (hs : St0 nm p D.L M) (hn : D.L.length = n) (ho : D.off = false) (hl : -1 ≤ D.left) :
    (∃ D', layP nm p xs D = (0, D') ∧ St0 nm p D'.L (behind M xs) ∧ D'.L.length = n ∧ D'.off = false ∧ D'.writes = D.writes + (2 * xs.length + listsN xs.length + 2 : Nat) ∧ ((D.left = -1 ∧ D'.left = -1) ∨ (((2 * xs.length + listsN xs.length + 2 : Nat) : Int) ≤ D.left ∧ D'.left = D.left - (2 * xs.length + listsN xs.length + 2 : Nat)))) ∨
    (∃ D' k, layP nm p xs D = (6, D') ∧ k < 2 * xs.length + listsN xs.length + 2 ∧ D.left = (k : Int) ∧ (k < xs.length + listsN xs.length + 1 → St0 nm p D'.L M) ∧ (xs.length + listsN xs.length + 1 ≤ k → St1 nm p D'.L M xs) ∧ D'.L.length = n ∧ D'.off = true ∧ D'.writes = D.writes + k ∧ D'.left = 0) := by
  rw [lay_is]
  rcases run_spec (markW nm xs) D ho (by rw [hn]; exact mark_ok g h) hl with ⟨D1, e1, e2, e3, e4, e5⟩ | ⟨D', k, e1, e2, e3, e4, e5, e6, e7⟩
  · rw [e1]
    unfold andP
    rw [if_neg (by simp)]
    rw [markW_length] at e4 e5
    have h1 : St1 nm p D1.L M xs := by rw [e2]; exact mark_state g h hs hn
    have hn1 : D1.L.length = n := by rw [e2, putAll_length, hn]
    rcases last_spec g h h1 hn1 e3 (by omega) with ⟨D', f1, f2, f3, f4, f5, f6⟩ | ⟨D', k, f1, f2, f3, f4, f5, f6, f7, f8⟩
    · exact .inl ⟨D', f1, f2, f3, f4, by rw [f5, e4]; omega, by omega⟩
    · refine .inr ⟨D', xs.length + listsN xs.length + 1 + k, f1, by omega, by omega, fun h => by omega, fun _ => f4, f5, f6, by rw [f7, e4]; omega, f8⟩
  · rw [e1]
    unfold andP
    rw [if_pos (by simp)]
    rw [markW_length] at e2
    refine .inr ⟨D', k, rfl, by omega, e3, fun _ => ?_, fun h => by omega, by rw [e4, putAll_length, hn], e5, e6, e7⟩
    have : (markW nm xs).take k = (firstW nm xs).take k := by
      unfold markW
      rw [List.take_append_of_le_length (by rw [firstW_length]; omega)]
    rw [e4, this]
    exact first_state g h hs k
end Go.Proofs.Ytlngfelpmebemaa
