/- The walks of arboretumbook.Room, and of what counts texts by it. -/
import Derived.Test.YtmdidmllaldbaaaGreatClone
namespace Go.Proofs.YtmdidmllaldbaaaGreat
open Go.RowKit
set_option linter.unusedVariables false
/-- A slice of numbers reads as vs. -/
def IntsAt (w : World) (ao : Option Addr) (n : Nat) (vs : List Int) : Prop :=
  vs.length = n ∧ (0 < n → ∃ b o, ao = some ⟨b, o, none⟩ ∧ ∀ k v, vs[k]? = some v → w.cell? ⟨b, o + k, none⟩ = some (.int .i64 v))
def roomV (left : Int) : List Int → Int
  | [] => left
  | v :: r => if left < 0 ∨ left < v then -1 else roomV (left - v) r
theorem roomV_le (l : List Int) : ∀ left : Int, (∀ v ∈ l, 0 ≤ v) → -1 ≤ left → -1 ≤ roomV left l ∧ roomV left l ≤ left := by
  induction l with
  | nil => intro left _ h; exact ⟨h, Int.le_refl _⟩
  | cons v r ih =>
    intro left hv h
    have h0 := hv v List.mem_cons_self
    rw [roomV]
    split
    · omega
    · have := ih (left - v) (fun u hu => hv u (List.mem_cons_of_mem _ hu)) (by omega)
      omega
set_option maxHeartbeats 400000 in
theorem room_any (left : Int) (ao : Option Addr) (n c : Nat) (vs : List Int) (w : World) (hl : IntsAt w ao n vs) (hn : n ≤ 9223372036854775807) (hv : ∀ v ∈ vs, 0 ≤ v ∧ v ≤ 9223372036854775807) (h1 : -9223372036854775808 ≤ left) (h2 : left ≤ 9223372036854775807) :
    Calls Tryz.prog 113 #[.int .i64 left, .slice ao n c] w fun e w' => e = .returned (.int .i64 (roomV left vs)) ∧ w = w' := by
  have HL := Lib.hid hl
  have HV := Lib.hid hv
  clear hl hv
  go_enter Tryz.func113, Tryz.ntmps113
  go_wp2
  go_loop [0, 5] (fun x i => ∃ (k : Nat) (L : Int), k ≤ n ∧ x = .int .i64 L ∧ i = .int .i64 k ∧ Hid (roomV L (vs.drop k) = roomV left vs) ∧ -9223372036854775808 ≤ L ∧ L ≤ 9223372036854775807) (fun _ i => n - (intOf i).toNat)
  case atStart => exact ⟨0, left, Nat.zero_le _, rfl, rfl, rfl, h1, h2⟩
  case round =>
    obtain ⟨k, L, hk, rfl, rfl, hf, hL1, hL2⟩ := hrel
    by_cases hlt : k < n
    · obtain ⟨b, o, rfl, hc⟩ := HL.out.2 (by omega)
      have hkl : k < vs.length := by rw [HL.out.1]; exact hlt
      obtain ⟨v, hve⟩ : ∃ v, vs[k]? = some v := ⟨_, List.getElem?_eq_getElem hkl⟩
      have hc1 := hc k v hve
      obtain ⟨hv0, hv9⟩ := HV.out v (List.mem_of_getElem? hve)
      have hdrop : vs.drop k = v :: vs.drop (k + 1) := by
        rw [List.drop_eq_getElem_cons hkl]
        congr 1
        exact (List.getElem?_eq_some_iff.1 hve).2
      rw [hdrop, roomV] at hf
      clear hc hve hdrop
      by_cases hneg : L < 0
      · have hd : decide (L < 0) = true := by simpa using hneg
        rw [if_pos (.inl hneg)] at hf
        go_wp2_with fail
        go_ret
        exact ⟨ret_int hf.out, rfl⟩
      · have hd : decide (L < 0) = false := by simpa using hneg
        by_cases hgt : L < v
        · have hd2 : decide (L < v) = true := by simpa using hgt
          rw [if_pos (.inr hgt)] at hf
          go_wp2_with fail
          go_ret
          exact ⟨ret_int hf.out, rfl⟩
        · have hd2 : decide (L < v) = false := by simpa using hgt
          rw [if_neg (by rintro (h | h); exact hneg h; exact hgt h)] at hf
          have HF := hf
          clear hf
          go_wp2_with fail
          go_round
          case rel => exact ⟨k + 1, L - v, by omega, by go_num, by go_num, HF, by omega, by omega⟩
          case measure => simp [intOf]; omega
    · have hkn : vs.drop k = [] := List.drop_eq_nil_of_le (by rw [HL.out.1]; omega)
      rw [hkn, roomV] at hf
      clear hkn
      go_wp2_with fail
      go_ret
      exact ⟨ret_int hf.out, rfl⟩
/-- One number in a new block. -/
theorem intsAt_one (W : World) (v : Int) (t : TypeId) : IntsAt (W.alloc (.cells #[.int .i64 v] t)) (some ⟨W.heap.size, 0, none⟩) 1 [v] :=
  ⟨rfl, fun _ => ⟨W.heap.size, 0, rfl, fun k u hk => by
    rcases k with _ | k
    · have : u = v := by simpa using hk.symm
      subst this
      rw [World.cell?_alloc_new]; rfl
    · simp at hk⟩⟩
theorem intsAt_two (W : World) (v u : Int) (t : TypeId) : IntsAt (W.alloc (.cells #[.int .i64 v, .int .i64 u] t)) (some ⟨W.heap.size, 0, none⟩) 2 [v, u] :=
  ⟨rfl, fun _ => ⟨W.heap.size, 0, rfl, fun k x hk => by
    rcases k with _ | _ | k
    · have : x = v := by simpa using hk.symm
      subst this
      rw [World.cell?_alloc_new]; rfl
    · have : x = u := by simpa using hk.symm
      subst this
      rw [World.cell?_alloc_new]; rfl
    · simp at hk⟩⟩
/-- A number between -1 and r. -/
def RoomRes (r : Int) (w : World) (e : Ending) (w' : World) : Prop := ∃ x : Int, e = .returned (.int .i64 x) ∧ -1 ≤ x ∧ x ≤ r ∧ w = w'
theorem room_one (left v : Int) (W : World) (h1 : -1 ≤ left) (h2 : left ≤ 9223372036854775807) (h3 : 0 ≤ v) (h4 : v ≤ 9223372036854775807) (t : TypeId) :
    Calls Tryz.prog 113 #[.int .i64 left, .slice (some ⟨W.heap.size, 0, none⟩) 1 1] (W.alloc (.cells #[.int .i64 v] t)) (RoomRes left (W.alloc (.cells #[.int .i64 v] t))) := by
  have hv : ∀ u ∈ [v], 0 ≤ u ∧ u ≤ 9223372036854775807 := by simp; omega
  refine (room_any left _ 1 1 [v] _ (intsAt_one W v t) (by omega) hv (by omega) h2).mono ?_
  rintro e w' ⟨he, hw⟩
  have := roomV_le [v] left (fun u hu => (hv u hu).1) h1
  exact ⟨_, he, this.1, this.2, hw⟩
theorem room_two (left v u : Int) (W : World) (h1 : -1 ≤ left) (h2 : left ≤ 9223372036854775807) (h3 : 0 ≤ v) (h4 : v ≤ 9223372036854775807) (h5 : 0 ≤ u) (h6 : u ≤ 9223372036854775807) (t : TypeId) :
    Calls Tryz.prog 113 #[.int .i64 left, .slice (some ⟨W.heap.size, 0, none⟩) 2 2] (W.alloc (.cells #[.int .i64 v, .int .i64 u] t)) (RoomRes left (W.alloc (.cells #[.int .i64 v, .int .i64 u] t))) := by
  have hv : ∀ x ∈ [v, u], 0 ≤ x ∧ x ≤ 9223372036854775807 := by simp; omega
  refine (room_any left _ 2 2 [v, u] _ (intsAt_two W v u t) (by omega) hv (by omega) h2).mono ?_
  rintro e w' ⟨he, hw⟩
  have := roomV_le [v, u] left (fun x hx => (hv x hx).1) h1
  exact ⟨_, he, this.1, this.2, hw⟩
/-- A number between -1 and r, that is r less v where it is one. -/
def RoomEq (r v : Int) (w : World) (e : Ending) (w' : World) : Prop := ∃ x : Int, e = .returned (.int .i64 x) ∧ -1 ≤ x ∧ x ≤ r ∧ (0 ≤ x → x = r - v) ∧ w = w'
theorem room_one_eq (left v : Int) (W : World) (h1 : -1 ≤ left) (h2 : left ≤ 9223372036854775807) (h3 : 0 ≤ v) (h4 : v ≤ 9223372036854775807) (t : TypeId) :
    Calls Tryz.prog 113 #[.int .i64 left, .slice (some ⟨W.heap.size, 0, none⟩) 1 1] (W.alloc (.cells #[.int .i64 v] t)) (RoomEq left v (W.alloc (.cells #[.int .i64 v] t))) := by
  have hv : ∀ u ∈ [v], 0 ≤ u ∧ u ≤ 9223372036854775807 := by simp; omega
  refine (room_any left _ 1 1 [v] _ (intsAt_one W v t) (by omega) hv (by omega) h2).mono ?_
  rintro e w' ⟨he, hw⟩
  have := roomV_le [v] left (fun u hu => (hv u hu).1) h1
  refine ⟨_, he, this.1, this.2, ?_, hw⟩
  unfold roomV roomV
  split <;> omega
theorem room_two_eq (left v u : Int) (W : World) (h1 : -1 ≤ left) (h2 : left ≤ 9223372036854775807) (h3 : 0 ≤ v) (h4 : v ≤ 9223372036854775807) (h5 : 0 ≤ u) (h6 : u ≤ 9223372036854775807) (t : TypeId) :
    Calls Tryz.prog 113 #[.int .i64 left, .slice (some ⟨W.heap.size, 0, none⟩) 2 2] (W.alloc (.cells #[.int .i64 v, .int .i64 u] t)) (RoomEq left (v + u) (W.alloc (.cells #[.int .i64 v, .int .i64 u] t))) := by
  have hv : ∀ x ∈ [v, u], 0 ≤ x ∧ x ≤ 9223372036854775807 := by simp; omega
  refine (room_any left _ 2 2 [v, u] _ (intsAt_two W v u t) (by omega) hv (by omega) h2).mono ?_
  rintro e w' ⟨he, hw⟩
  have := roomV_le [v, u] left (fun x hx => (hv x hx).1) h1
  refine ⟨_, he, this.1, this.2, ?_, hw⟩
  unfold roomV
  split
  · omega
  · unfold roomV roomV
    split <;> omega
theorem sum_take_succ : ∀ (L : List Nat) (k v : Nat), L[k]? = some v → (L.take (k + 1)).sum = (L.take k).sum + v := by
  intro L
  induction L with
  | nil => intro k v h; simp at h
  | cons a L ih =>
    intro k v h
    rcases k with _ | k
    · have : a = v := by simpa using h
      subst this; simp
    · have := ih k v (by simpa using h)
      rw [List.take_succ_cons, List.sum_cons, this, List.take_succ_cons, List.sum_cons]
      omega
end Go.Proofs.YtmdidmllaldbaaaGreat
