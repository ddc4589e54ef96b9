/- A client that is asked for one key: what it answers, call by call. -/
import Derived.Test.YtfogoebflfkknaaCliK
namespace Go.Proofs.Ytfogoebflfkknaa
open Go.Conc Go.RowKit
set_option linter.unusedVariables false
theorem OnePk.far {w0 w w' : World} {B b gn ch cap g : Nat} {v : CliV} {q : List (Int × RepV)} {fr dst : Int} {d : ByteArray} (h : OnePk w g fr dst d) (hC : Cli w0 w B b gn ch cap v q) (hF : FarC w w' b ch) : OnePk w' g fr dst d := by
  refine (hF.2 g (blk_lt h) ?_ ?_).trans h
  · intro e
    have := hC.blk
    unfold OnePk at h
    rw [← e, h] at this
    injection this with this
    injection this with _ this
    exact absurd this (by decide)
  · intro e
    obtain ⟨s, r, hc⟩ := hC.chn
    unfold OnePk at h
    rw [← e, h] at hc
    cases hc
theorem OnePk.below {w w' : World} {g : Nat} {fr dst : Int} {d : ByteArray} (h : OnePk w g fr dst d) (hb : Below w.heap.size w w') : OnePk w' g fr dst d := (hb.block g (blk_lt h)).trans h
theorem OnePk.facts {w : World} {g : Nat} {fr dst : Int} {d : ByteArray} (h : OnePk w g fr dst d) : w.cell? ⟨g, 0, none⟩ = some (.int .i64 fr) ∧ w.cell? ⟨g, 1, none⟩ = some (.int .i64 dst) ∧ w.cell? ⟨g, 2, none⟩ = some (.string d) :=
  ⟨blk_cell h 0, blk_cell h 1, blk_cell h 2⟩
theorem emp_nil' : emp ⟨#[]⟩ = true := by decide +kernel
def getO (key : ByteArray) : OpV := ⟨4, 0, 0, key, ⟨#[]⟩, ⟨#[]⟩⟩
theorem getO_ok {key : ByteArray} (h1 : 1 ≤ key.size) (h2 : key.size ≤ 38) : OpOk (getO key) ∧ validV (getO key) = 0 := by
  refine ⟨?_, ?_⟩
  · unfold OpOk getO
    dsimp only
    refine ⟨by omega, by omega, by omega, by omega, ?_, ?_⟩ <;> exact Nat.zero_le _
  · have hk : keyB key = true := by unfold keyB; simp; omega
    unfold validV getO rightV
    simp [hk, emp_nil']
    exact Nat.zero_le _
/-- A client that was asked one thing: it has asked once. -/
def gV (id : Int) (l : List Int) (o : OpV) (cur : Nat) (wait : Int) (st : Bool) : CliV :=
  { id := id, nodes := l, cur := cur, ss := 0, sq := 0, number := 1, asked := true, op := o, num := 1, opn := true, qu := o, wait := wait, stays := st }
section
variable {w0 W : World} {B b gn ch cap : Nat} {id : Int} {l : List Int} {key : ByteArray} {cur : Nat} {wait : Int} {st : Bool}
theorem gask (h : Cli w0 W B b gn ch cap (newV id l) []) (h1 : 1 ≤ key.size) (h2 : key.size ≤ 38) :
    Calls Try.prog 37 #[.pointer (some ⟨b, 0, none⟩), .int .i64 4, .string key, .string ⟨#[]⟩, .string ⟨#[]⟩] W fun e w' => e = .returned (.tuple #[.int .i64 1, .int .i64 0]) ∧ Cli w0 w' B b gn ch cap (askedV (newV id l) 4 key ⟨#[]⟩ ⟨#[]⟩) [] ∧ FarC W w' b ch :=
  asks_get h rfl (show (0 : Nat) ≤ 1000000 by omega) key ⟨#[]⟩ ⟨#[]⟩ (by omega) (by decide) (by decide) (getO_ok h1 h2).2
theorem gtick1 (h : Cli w0 W B b gn ch cap (askedV (newV id l) 4 key ⟨#[]⟩ ⟨#[]⟩) []) (h1 : 1 ≤ key.size) (h2 : key.size ≤ 38) (n : Int) (hn : l[0]? = some n) :
    Calls Try.prog 38 #[.pointer (some ⟨b, 0, none⟩)] W (Sent w0 W B b gn ch cap (gV id l (getO key) 0 20 false) [] n ⟨(askB 1 (getO key)).toArray⟩) := by
  have hq : askQ (askedV (newV id l) 4 key ⟨#[]⟩ ⟨#[]⟩) = getO key := by unfold askQ; rw [if_pos (by rfl)]; rfl
  have := tick_first h rfl rfl (show (0 : Nat) ≤ 999999 by omega) (show (0 : Int) ≤ 0 ∧ (0 : Int) ≤ 1000000 by omega) (by rw [hq]; exact (getO_ok h1 h2).1) (by rw [hq]; exact (getO_ok h1 h2).2) n hn
  have hv : sentV (askV (askedV (newV id l) 4 key ⟨#[]⟩ ⟨#[]⟩)) = gV id l (getO key) 0 20 false := by unfold sentV askV; rw [hq]; rfl
  rw [hv, hq] at this
  exact this
theorem gwait {q : List (Int × RepV)} (h : Cli w0 W B b gn ch cap (gV id l (getO key) cur wait st) q) (hw : 1 < wait) (hw2 : wait ≤ 1000) :
    Calls Try.prog 38 #[.pointer (some ⟨b, 0, none⟩)] W fun e w' => e = .returned (.slice none 0 0) ∧ Cli w0 w' B b gn ch cap (gV id l (getO key) cur (wait - 1) st) q ∧ FarC W w' b ch :=
  tick_wait h rfl rfl (by show 1 < wait ∧ wait ≤ 1000000; omega)
theorem gagain {q : List (Int × RepV)} (h : Cli w0 W B b gn ch cap (gV id l (getO key) cur wait false) q) (hw : -1000 ≤ wait) (hw2 : wait ≤ 1) (h1 : 1 ≤ key.size) (h2 : key.size ≤ 38) (n : Int) (hn : l[(cur + 1) % l.length]? = some n) :
    Calls Try.prog 38 #[.pointer (some ⟨b, 0, none⟩)] W (Sent w0 W B b gn ch cap (gV id l (getO key) ((cur + 1) % l.length) 20 false) q n ⟨(askB 1 (getO key)).toArray⟩) :=
  tick_again h rfl rfl (by show -1000000 ≤ wait ∧ wait ≤ 1; omega) (show (1 : Nat) ≤ 1000000 by omega) (getO_ok h1 h2).1 (getO_ok h1 h2).2 n hn
theorem gstay {q : List (Int × RepV)} (h : Cli w0 W B b gn ch cap (gV id l (getO key) cur wait true) q) (hw : -1000 ≤ wait) (hw2 : wait ≤ 1) (h1 : 1 ≤ key.size) (h2 : key.size ≤ 38) (n : Int) (hn : l[cur]? = some n) :
    Calls Try.prog 38 #[.pointer (some ⟨b, 0, none⟩)] W (Sent w0 W B b gn ch cap (gV id l (getO key) cur 20 false) q n ⟨(askB 1 (getO key)).toArray⟩) :=
  tick_again h rfl rfl (by show -1000000 ≤ wait ∧ wait ≤ 1; omega) (show (1 : Nat) ≤ 1000000 by omega) (getO_ok h1 h2).1 (getO_ok h1 h2).2 n hn
theorem gbusy {q : List (Int × RepV)} (h : Cli w0 W B b gn ch cap (gV id l (getO key) cur wait st) q) : Calls Try.prog 40 #[.pointer (some ⟨b, 0, none⟩)] W fun e w' => e = .returned (.bool true) ∧ W = w' := busy_any h
end
end Go.Proofs.Ytfogoebflfkknaa
