/- The plain meaning of the functions on budgets: lists of buckets and whole numbers, no Go, no memory. -/
import Derived.Test.YtlgahhfpdomdmaaMem
import Derived.RowKit
namespace Go.Proofs.Ytlgahhfpdomdmaa

/-- The error of bucket number i. -/
def bErr (x : Bk) (i : Int) : Int :=
  if x.par < -1 ∨ i ≤ x.par then 7
  else if (0 ≤ x.rate ∧ x.rate ≤ 1073741824) ∧ (0 ≤ x.burst ∧ x.burst ≤ 1073741824) ∧ (0 ≤ x.tok ∧ x.tok ≤ x.burst) then 0 else 2
/-- The error of the buckets from number i on. -/
def bksErr : List Bk → Int → Int
  | [], _ => 0
  | x :: l, i => if bErr x i = 0 then bksErr l (i + 1) else bErr x i
/-- The error of a budget. -/
def chk (t : Int) (l : List Bk) : Int :=
  if 64 < l.length then 6 else if t < 0 ∨ 1073741824 < t then 24 else bksErr l 0

/-- A bucket that is full. -/
def Bk.full (x : Bk) : Bk := { x with tok := max x.burst 0 }
/-- A bucket d ticks later. -/
def Bk.later (d : Int) (x : Bk) : Bk := { x with tok := min (x.tok + x.rate * d) x.burst }
/-- The first k buckets are turned. -/
def part (f : Bk → Bk) (l : List Bk) (k : Nat) : List Bk := (l.take k).map f ++ l.drop k
theorem part_length (f : Bk → Bk) (l : List Bk) (k : Nat) : (part f l k).length = l.length := by simp [part]; omega
theorem part_zero (f : Bk → Bk) (l : List Bk) : part f l 0 = l := by simp [part]
theorem part_all (f : Bk → Bk) (l : List Bk) : part f l l.length = l.map f := by simp [part]
theorem part_at (f : Bk → Bk) {l : List Bk} {k : Nat} (hk : k < l.length) (h' : k < (part f l k).length) : (part f l k)[k] = l[k] := by
  simp only [part]
  rw [List.getElem_append_right (by simp; omega)]
  simp [Nat.min_eq_left (Nat.le_of_lt hk)]
theorem part_succ (f : Bk → Bk) {l : List Bk} {k : Nat} (hk : k < l.length) : part f l (k + 1) = (part f l k).set k (f l[k]) := by
  apply List.ext_getElem
  · simp [part]; omega
  · intro i h1 h2
    simp only [part, List.getElem_append, List.getElem_set, List.getElem_map, List.getElem_take, List.getElem_drop, List.length_map, List.length_take]
    rcases Nat.lt_trichotomy i k with h | h | h
    · rw [dif_pos (by omega), if_neg (by omega), dif_pos (by omega)]
    · subst h; rw [dif_pos (by omega), if_pos rfl]
    · rw [dif_neg (by omega), if_neg (by omega), dif_neg (by omega)]
      congr 1
      omega

/-- What Advance returns: the error, the time, the buckets. -/
def advE (t : Int) (l : List Bk) (now : Int) : Int := if chk t l = 0 then (if now < t ∨ 1073741824 < now then 24 else 0) else chk t l
def advT (t : Int) (l : List Bk) (now : Int) : Int := if advE t l now = 0 then now else 0
def advL (t : Int) (l : List Bk) (now : Int) : List Bk := if advE t l now = 0 then l.map (Bk.later (now - t)) else []

/-- A bucket in order. -/
structure BkOk (x : Bk) (i : Int) : Prop where
  p0 : -1 ≤ x.par
  p1 : x.par < i
  r0 : 0 ≤ x.rate
  r1 : x.rate ≤ 1073741824
  b0 : 0 ≤ x.burst
  b1 : x.burst ≤ 1073741824
  t0 : 0 ≤ x.tok
  t1 : x.tok ≤ x.burst
theorem bErr_zero {x : Bk} {i : Int} : bErr x i = 0 ↔ BkOk x i := by
  unfold bErr
  constructor
  · intro h
    split at h
    · omega
    · split at h
      · constructor <;> omega
      · omega
  · rintro ⟨h1, h2, h3, h4, h5, h6, h7, h8⟩
    rw [if_neg (by omega), if_pos (by omega)]
theorem bksErr_zero {l : List Bk} {i : Int} : bksErr l i = 0 ↔ ∀ k (hk : k < l.length), BkOk l[k] (i + k) := by
  induction l generalizing i with
  | nil => simp [bksErr]
  | cons x l ih =>
    unfold bksErr
    constructor
    · intro h
      split at h
      · rename_i hx
        intro k hk
        cases k with
        | zero => simpa using bErr_zero.1 hx
        | succ k => have := (ih.1 h) k (by simpa using hk); rw [show i + 1 + (k : Int) = i + ((k + 1 : Nat) : Int) by omega] at this; exact this
      · contradiction
    · intro h
      have h0 := h 0 (by simp)
      rw [if_pos (bErr_zero.2 (by simpa using h0))]
      refine ih.2 fun k hk => ?_
      have := h (k + 1) (by simpa using hk)
      rw [show i + ((k + 1 : Nat) : Int) = i + 1 + (k : Int) by omega] at this
      exact this
/-- A budget in order. -/
structure BudOk (t : Int) (l : List Bk) : Prop where
  len : l.length ≤ 64
  t0 : 0 ≤ t
  t1 : t ≤ 1073741824
  at_ : ∀ k (hk : k < l.length), BkOk l[k] k
theorem chk_zero {t : Int} {l : List Bk} : chk t l = 0 ↔ BudOk t l := by
  unfold chk
  constructor
  · intro h
    split at h
    · omega
    · split at h
      · omega
      · refine ⟨by omega, by omega, by omega, fun k hk => ?_⟩
        have := bksErr_zero.1 h k hk
        rwa [Int.zero_add] at this
  · rintro ⟨h1, h2, h3, h4⟩
    rw [if_neg (by omega), if_neg (by omega)]
    exact bksErr_zero.2 fun k hk => by rw [Int.zero_add]; exact h4 k hk

/-- The path of a bucket: its own number, its parent's, and so on. -/
def pathF (l : List Bk) : Nat → Int → List Nat
  | 0, _ => []
  | f + 1, i => if h : 0 ≤ i ∧ i.toNat < l.length then i.toNat :: pathF l f (l[i.toNat]'h.2).par else []
def pathL (l : List Bk) (i : Int) : List Nat := pathF l (l.length + 1) i
/-- Each bucket's parent is before it. -/
def Up (l : List Bk) : Prop := ∀ k (hk : k < l.length), -1 ≤ (l[k]).par ∧ (l[k]).par < k
theorem BudOk.up {t : Int} {l : List Bk} (h : BudOk t l) : Up l := fun k hk => ⟨(h.at_ k hk).p0, (h.at_ k hk).p1⟩
theorem pathF_more {l : List Bk} (hu : Up l) : ∀ (f g : Nat) (i : Int), i < f → i < g → pathF l f i = pathF l g i := by
  intro f
  induction f with
  | zero =>
    intro g i h1 h2
    cases g with
    | zero => rfl
    | succ g => simp only [pathF]; rw [dif_neg (by omega)]
  | succ f ih =>
    intro g i h1 h2
    cases g with
    | zero => simp only [pathF]; rw [dif_neg (by omega)]
    | succ g =>
      simp only [pathF]
      by_cases h : 0 ≤ i ∧ i.toNat < l.length
      · rw [dif_pos h, dif_pos h]
        have := hu _ h.2
        rw [ih g _ (by omega) (by omega)]
      · rw [dif_neg h, dif_neg h]
theorem pathL_neg {l : List Bk} {i : Int} (h : i < 0) : pathL l i = [] := by
  unfold pathL
  simp only [pathF]
  rw [dif_neg (by omega)]
theorem pathL_step {l : List Bk} (hu : Up l) {k : Nat} (hk : k < l.length) : pathL l k = k :: pathL l (l[k]).par := by
  have := hu k hk
  unfold pathL
  rw [pathF, dif_pos ⟨by omega, by simpa using hk⟩]
  simp only [Int.toNat_natCast]
  rw [pathF_more hu l.length (l.length + 1) _ (by omega) (by omega)]
theorem pathL_lt {l : List Bk} (hu : Up l) : ∀ (m : Nat) (i : Int), i < m → i < l.length → ∀ x ∈ pathL l i, x < l.length ∧ (x : Int) ≤ i := by
  intro m
  induction m with
  | zero => intro i h1 _ x hx; rw [pathL_neg (by omega)] at hx; simp at hx
  | succ m ih =>
    intro i h1 h2 x hx
    by_cases h : i < 0
    · rw [pathL_neg h] at hx; simp at hx
    · obtain ⟨k, rfl⟩ := Int.eq_ofNat_of_zero_le (show 0 ≤ i by omega)
      rw [pathL_step hu (by omega)] at hx
      have := hu k (by omega)
      rcases List.mem_cons.1 hx with rfl | hx
      · omega
      · have := ih _ (by omega) (by omega) x hx
        omega

/-- The least tokens of a list of buckets, and of n. -/
def tokAt (l : List Bk) (i : Nat) : Int := (l[i]?.map Bk.tok).getD 0
def leastT (l : List Bk) (n : Int) (p : List Nat) : Int := p.foldl (fun n i => min n (tokAt l i)) n
def availL (l : List Bk) (k : Nat) : Int := leastT l (tokAt l k) (pathL l k)
/-- The error of a budget, or of the number of a bucket. -/
def findE (t : Int) (l : List Bk) (k : Int) : Int := if chk t l = 0 then (if k < 0 ∨ l.length ≤ k then 7 else 0) else chk t l
theorem findE_zero {t : Int} {l : List Bk} {k : Int} : findE t l k = 0 ↔ BudOk t l ∧ 0 ≤ k ∧ k < l.length := by
  unfold findE
  constructor
  · intro h
    split at h
    · rename_i hc
      split at h
      · omega
      · exact ⟨chk_zero.1 hc, by omega, by omega⟩
    · contradiction
  · rintro ⟨h1, h2, h3⟩
    rw [if_pos (chk_zero.2 h1), if_neg (by omega)]
def avlV (t : Int) (l : List Bk) (k : Int) : Int := if findE t l k = 0 then availL l k.toNat else 0

/-- What Take returns: the error, the time, the buckets. -/
def takE (t : Int) (l : List Bk) (k n : Int) : Int := if findE t l k = 0 then (if n < 0 then 1 else if availL l k.toNat < n then 16 else 0) else findE t l k
def takT (t : Int) (l : List Bk) (k n : Int) : Int := if takE t l k n = 0 then t else 0
def takeM (l : List Bk) (n : Int) (p : List Nat) : List Bk := l.mapIdx fun i x => if i ∈ p then { x with tok := x.tok - n } else x
def takL (t : Int) (l : List Bk) (k n : Int) : List Bk := if takE t l k n = 0 then takeM l n (pathL l k) else []
/-- What the loop computes: at each number of the list the tokens less n, wrapped. -/
def stepW (n : Int) (l : List Bk) (i : Nat) : List Bk := match l[i]? with
  | some x => l.set i { x with tok := Go.RowKit.wrap64 (x.tok - n) }
  | none => l
def takeW (l : List Bk) (n : Int) (p : List Nat) : List Bk := p.foldl (stepW n) l
theorem stepW_at {n : Int} {l : List Bk} {i : Nat} (h : i < l.length) : stepW n l i = l.set i { l[i] with tok := Go.RowKit.wrap64 (l[i].tok - n) } := by
  unfold stepW; rw [List.getElem?_eq_getElem h]
theorem stepW_length (n : Int) (l : List Bk) (i : Nat) : (stepW n l i).length = l.length := by
  unfold stepW; split <;> simp
theorem takeW_length (n : Int) (p : List Nat) : ∀ (l : List Bk), (takeW l n p).length = l.length := by
  unfold takeW
  induction p with
  | nil => intro l; rfl
  | cons i p ih => intro l; rw [List.foldl_cons, ih, stepW_length]
theorem takeW_snoc (l : List Bk) (n : Int) (p : List Nat) (i : Nat) : takeW l n (p ++ [i]) = stepW n (takeW l n p) i := by simp [takeW]
/-- A number list without repetition, each tokens not less than n: taken once each. -/
theorem takeW_eq {n : Int} (hn : 0 ≤ n) : ∀ (p : List Nat) (l : List Bk), p.Nodup → (∀ i ∈ p, ∃ h : i < l.length, n ≤ l[i].tok ∧ l[i].tok ≤ 1073741824) → takeW l n p = takeM l n p := by
  intro p
  induction p with
  | nil =>
    intro l _ _
    show l = takeM l n []
    apply List.ext_getElem <;> simp [takeM]
  | cons i p ih =>
    intro l hd hp
    rw [List.nodup_cons] at hd
    obtain ⟨hi, h1, h2⟩ := hp i (by simp)
    have hw : Go.RowKit.wrap64 (l[i].tok - n) = l[i].tok - n := by unfold Go.RowKit.wrap64; omega
    have hs : stepW n l i = l.set i { l[i] with tok := l[i].tok - n } := by rw [stepW_at hi, hw]
    show takeW (stepW n l i) n p = _
    rw [hs, ih _ hd.2]
    · apply List.ext_getElem
      · simp [takeM]
      · intro j h3 h4
        simp only [takeM, List.getElem_mapIdx, List.getElem_set, List.mem_cons]
        by_cases hj : i = j
        · subst hj
          simp [hd.1]
        · rw [if_neg hj]
          simp [Ne.symm hj]
    · intro j hj
      obtain ⟨h3, h4⟩ := hp j (by simp [hj])
      refine ⟨by simpa using h3, ?_⟩
      rw [List.getElem_set_ne (by rintro rfl; exact hd.1 hj)]
      exact h4
theorem pathL_nodup {l : List Bk} (hu : Up l) : ∀ (m : Nat) (i : Int), i < m → i < l.length → (pathL l i).Nodup := by
  intro m
  induction m with
  | zero => intro i h1 _; rw [pathL_neg (by omega)]; simp
  | succ m ih =>
    intro i h1 h2
    by_cases h : i < 0
    · rw [pathL_neg h]; simp
    · obtain ⟨k, rfl⟩ := Int.eq_ofNat_of_zero_le (show 0 ≤ i by omega)
      rw [pathL_step hu (by omega), List.nodup_cons]
      have := hu k (by omega)
      refine ⟨fun hm => ?_, ih _ (by omega) (by omega)⟩
      have := pathL_lt hu l.length _ (by omega) (by omega) k hm
      omega
theorem leastT_le (l : List Bk) : ∀ (p : List Nat) (n : Int), leastT l n p ≤ n ∧ ∀ i ∈ p, leastT l n p ≤ tokAt l i := by
  intro p
  induction p with
  | nil => intro n; simp [leastT]
  | cons i p ih =>
    intro n
    have := ih (min n (tokAt l i))
    have he : leastT l n (i :: p) = leastT l (min n (tokAt l i)) p := rfl
    rw [he]
    refine ⟨by omega, fun j hj => ?_⟩
    rcases List.mem_cons.1 hj with rfl | hj
    · omega
    · exact this.2 j hj
theorem takeW_path {t : Int} {l : List Bk} (h : BudOk t l) {k : Nat} (hk : k < l.length) {n : Int} (h0 : 0 ≤ n) (h1 : n ≤ availL l k) : takeW l n (pathL l k) = takeM l n (pathL l k) := by
  refine takeW_eq h0 _ _ (pathL_nodup h.up (k + 1) _ (by omega) (by omega)) fun i hi => ?_
  have h2 := pathL_lt h.up (k + 1) _ (by omega) (by omega) i hi
  refine ⟨h2.1, ?_, ?_⟩
  · have := (leastT_le l (pathL l k) (tokAt l k)).2 i hi
    unfold availL at h1
    have h3 : tokAt l i = l[i].tok := by simp [tokAt, h2.1]
    omega
  · have := h.at_ i h2.1
    have h4 := this.t1
    have h5 := this.b1
    omega

/-- One bucket of the path: how long until it has n tokens; none: never. -/
def bkAt (l : List Bk) (i : Nat) : Bk := l[i]?.getD ⟨-1, 0, 0, 0⟩
theorem bkAt_eq {l : List Bk} {i : Nat} (h : i < l.length) : bkAt l i = l[i] := by simp [bkAt, h]
def waitStep (l : List Bk) (n : Int) (v : Int) (i : Nat) : Option Int :=
  if n ≤ (bkAt l i).tok then some v
  else if (bkAt l i).burst < n ∨ (bkAt l i).rate = 0 then none
  else some (max v ((n - (bkAt l i).tok + (bkAt l i).rate - 1) / (bkAt l i).rate))
def waitL (l : List Bk) (n : Int) : List Nat → Int → Option Int
  | [], v => some v
  | i :: p, v => match waitStep l n v i with
    | some v => waitL l n p v
    | none => none
theorem waitL_append (l : List Bk) (n : Int) : ∀ (p q : List Nat) (v : Int), waitL l n (p ++ q) v = (waitL l n p v).bind (waitL l n q) := by
  intro p
  induction p with
  | nil => intro q v; rfl
  | cons i p ih =>
    intro q v
    simp only [List.cons_append, waitL]
    cases waitStep l n v i with
    | none => rfl
    | some u => exact ih q u
theorem waitL_snoc (l : List Bk) (n : Int) (p : List Nat) (i : Nat) (v : Int) : waitL l n (p ++ [i]) v = (waitL l n p v).bind (fun u => waitStep l n u i) := by
  rw [waitL_append]
  congr 1
  funext u
  simp only [waitL]
  cases waitStep l n u i <;> rfl
/-- What When returns: the error, the time. -/
def whnE (t : Int) (l : List Bk) (k n : Int) : Int :=
  if findE t l k = 0 then (if n < 0 then 1 else match waitL l n (pathL l k) 0 with
    | some v => if 1073741824 < t + v then 21 else 0
    | none => 21) else findE t l k
def whnT (t : Int) (l : List Bk) (k n : Int) : Int := if whnE t l k n = 0 then t + (waitL l n (pathL l k) 0).getD 0 else 0
/-- A wait is short. -/
theorem waitStep_le {l : List Bk} {t n v u : Int} {i : Nat} (h : BudOk t l) (hi : i < l.length) (hv : 0 ≤ v ∧ v ≤ 2147483648) (hs : waitStep l n v i = some u) : 0 ≤ u ∧ u ≤ 2147483648 := by
  have ok := h.at_ i hi
  have h1 := ok.t0
  have h2 := ok.t1
  have h3 := ok.b1
  have h4 := ok.r0
  have h5 := ok.r1
  unfold waitStep at hs
  rw [bkAt_eq hi] at hs
  split at hs
  · injection hs; omega
  · split at hs
    · contradiction
    · injection hs with hs
      have hp : 0 ≤ n - (l[i]).tok + (l[i]).rate - 1 := by omega
      have h6 := Int.ediv_nonneg hp h4
      have h7 := Int.ediv_le_self (l[i]).rate hp
      omega

end Go.Proofs.Ytlgahhfpdomdmaa
