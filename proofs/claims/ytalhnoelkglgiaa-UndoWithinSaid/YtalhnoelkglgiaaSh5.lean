/- Words in which the printed functions (shp.py) are told: they unfold to what Sh0 reckons. No condition. -/
import Derived.Test.YtalhnoelkglgiaaSh4
namespace Go.Proofs.Ytalhnoelkglgiaa.Sh
open Go
set_option linter.unusedVariables false

def asF (g : Nat) (v : Value) (F : List Value → List Value → Prop) : Prop :=
  match v with
  | .func (.func g') first cap => cond (Nat.beq g' g) (F first.toList cap.toList) False
  | _ => False
inductive BitO where | and | or | xor | andNot
def bitI (op : BitO) (k : IntKind) (x y : Int) : Int :=
  match op with
  | .and => k.wrap ((BitVec.ofInt k.bits x &&& BitVec.ofInt k.bits y).toNat : Int)
  | .or => k.wrap ((BitVec.ofInt k.bits x ||| BitVec.ofInt k.bits y).toNat : Int)
  | .xor => k.wrap ((BitVec.ofInt k.bits x ^^^ BitVec.ofInt k.bits y).toNat : Int)
  | .andNot => k.wrap ((BitVec.ofInt k.bits x &&& ~~~ BitVec.ofInt k.bits y).toNat : Int)

def asAny (v : Value) (F : Value → Prop) : Prop := F v
theorem asAny_elim {v : Value} {F : Value → Prop} (h : asAny v F) : ∃ x, v = x ∧ F x := ⟨v, rfl, h⟩
theorem nilD_elim {ds : List Deferred} {p : Prop} (h : nilD ds p) : ds = [] ∧ p := by
  cases ds with
  | nil => exact ⟨rfl, h⟩
  | cons d ds => exact h.elim
theorem asI_elim {k : IntKind} {v : Value} {F : Int → Prop} (h : asI k v F) : ∃ n, v = .int k n ∧ F n := by
  unfold asI at h
  split at h
  · split at h
    · rename_i hk; subst hk; exact ⟨_, rfl, h⟩
    · exact h.elim
  · exact h.elim
theorem asB_elim {v : Value} {F : Bool → Prop} (h : asB v F) : ∃ n, v = .bool n ∧ F n := by
  unfold asB at h; split at h; exact ⟨_, rfl, h⟩; exact h.elim
theorem asS_elim {v : Value} {F : ByteArray → Prop} (h : asS v F) : ∃ n, v = .string n ∧ F n := by
  unfold asS at h; split at h; exact ⟨_, rfl, h⟩; exact h.elim
theorem asP_elim {v : Value} {F : Option Addr → Prop} (h : asP v F) : ∃ n, v = .pointer n ∧ F n := by
  unfold asP at h; split at h; exact ⟨_, rfl, h⟩; exact h.elim
theorem asM_elim {v : Value} {F : Option Nat → Prop} (h : asM v F) : ∃ n, v = .map n ∧ F n := by
  unfold asM at h; split at h; exact ⟨_, rfl, h⟩; exact h.elim
theorem asA_elim {v : Value} {F : Addr → Prop} (h : asA v F) : ∃ n, v = .pointer (some n) ∧ F n := by
  unfold asA at h
  split at h
  · rename_i p; cases p with
    | none => exact h.elim
    | some a => exact ⟨a, rfl, h⟩
  · exact h.elim
theorem asL_elim {v : Value} {F : Option Addr → Nat → Nat → Prop} (h : asL v F) : ∃ p l c, v = .slice p l c ∧ F p l c := by
  unfold asL at h; split at h; exact ⟨_, _, _, rfl, h⟩; exact h.elim
theorem asG_elim {v : Value} {F : List Value → Prop} (h : asG v F) : ∃ l, v = .agg l.toArray ∧ F l := by
  unfold asG at h; split at h; exact ⟨_, by simp, h⟩; exact h.elim
theorem asT_elim {v : Value} {F : List Value → Prop} (h : asT v F) : ∃ l, v = .tuple l.toArray ∧ F l := by
  unfold asT at h; split at h; exact ⟨_, by simp, h⟩; exact h.elim
theorem asHd_elim {l : List Value} {F : Value → List Value → Prop} (h : asHd l F) : ∃ x xs, l = x :: xs ∧ F x xs := by
  unfold asHd at h; split at h; exact ⟨_, _, rfl, h⟩; exact h.elim
theorem asEnd_elim {l : List Value} {p : Prop} (h : asEnd l p) : l = [] ∧ p := by
  cases l with
  | nil => exact ⟨rfl, h⟩
  | cons x xs => exact h.elim
theorem asF_elim {g : Nat} {v : Value} {F : List Value → List Value → Prop} (h : asF g v F) : ∃ f c, v = .func (.func g) f.toArray c.toArray ∧ F f c := by
  unfold asF at h
  split at h
  · rename_i g' first cap
    cases hb : Nat.beq g' g with
    | false => rw [hb] at h; exact h.elim
    | true => rw [hb] at h; exact ⟨_, _, by simp [Nat.eq_of_beq_eq_true hb], h⟩
  · exact h.elim
theorem put_id {e : Env} {d : Nat} {v : Value} (h : e d = v) : put e (some d) v = e := by
  funext i
  simp only [put]
  cases hb : Nat.beq i d with
  | false => rfl
  | true => rw [Nat.eq_of_beq_eq_true hb, cond_true, h]

end Go.Proofs.Ytalhnoelkglgiaa.Sh
