/- Readings of the arguments. -/
import Derived.Test.YtknllghkpjncoaaC0
import Derived.Test.YtknllghkpjncoaaVt
import Derived.WalkKit
import Derived.ProofKit
import Derived.OpenShut
import Derived.ShutString
import Derived.ChangeOld
import Derived.Below
import Derived.SizedLaws
set_option linter.unusedVariables false
set_option linter.unusedSimpArgs false
namespace Go.Proofs.LawsR
open Go Go.ChangeShapes Go.WideShapes Go.ChangeAt Go.RowKit VC Go.Proofs

theorem own : ownKnob Try.prog.godebug = none := by kernel_rfl
theorem laidOut : laidOutB Try.prog = true := by kernel_rfl
section
variable {w : World}
theorem rd_n : Rd Try.prog w 3 ic (fun n => (Lit.int .i64 n).wf = true) := rd_int Try.underlying3
theorem rd_b : Rd Try.prog w 5 bc (fun n => (Lit.int .u8 n).wf = true) := rd_int Try.underlying5
theorem rd_s : Rd Try.prog w 9 strc (fun s => s.size ≤ 140737488355328) := (rd_string Try.underlying9).map id (fun _ => rfl) (fun _ h => Nat.le_trans h (of_decide_eq_true (by kernel_rfl)))
theorem rd_ints : Rd Try.prog w 23 (fun l : List Int => [.sl (l.map ic)]) (fun l : List Int => l.length ≤ reachBytes ∧ ∀ a ∈ l, (Lit.int .i64 a).wf = true) := rd_slice Try.underlying23 (of_decide_eq_true (by kernel_rfl)) (of_decide_eq_true (by kernel_rfl)) rd_n
theorem rd_bytes : Rd Try.prog w 50 (fun l : List Int => [.sl (l.map bc)]) (fun l : List Int => l.length ≤ reachBytes ∧ ∀ a ∈ l, (Lit.int .u8 a).wf = true) := rd_slice Try.underlying50 (of_decide_eq_true (by kernel_rfl)) (of_decide_eq_true (by kernel_rfl)) rd_b
theorem rd_strs : Rd Try.prog w 29 (fun l : List ByteArray => [.sl (l.map strc)]) (fun l : List ByteArray => l.length ≤ reachBytes ∧ ∀ a ∈ l, a.size ≤ 140737488355328) := rd_slice Try.underlying29 (of_decide_eq_true (by kernel_rfl)) (of_decide_eq_true (by kernel_rfl)) rd_s
theorem rd_grp : Rd Try.prog w 25 (fun p : List Int × List Int => [.sl (p.1.map ic), .sl (p.2.map ic)]) (fun p => p.1.length ≤ 140737488355328 ∧ p.2.length ≤ 140737488355328) := by
  have h := rd_struct (w := w) Try.underlying25 (by kernel_rfl) (rds_cons (by kernel_rfl) rd_ints (rds_cons (by kernel_rfl) rd_ints rds_nil))
  exact h.map (fun p => (p.1, p.2.1)) (fun _ => rfl) (fun _ h => ⟨Nat.le_trans h.1.1 (of_decide_eq_true (by kernel_rfl)), Nat.le_trans h.2.1.1 (of_decide_eq_true (by kernel_rfl))⟩)
def t8 (f : Nat → Int) : List Tr := [.sc (.int .i64 (f 0)), .sc (.int .i64 (f 1)), .sc (.int .i64 (f 2)), .sc (.int .i64 (f 3)), .sc (.int .i64 (f 4)), .sc (.int .i64 (f 5)), .sc (.int .i64 (f 6)), .sc (.int .i64 (f 7))]
theorem t8_of : ∀ (l : List Int), l.length = 8 → t8 (fun j => l.getD j 0) = (l.map ic).flatten
  | [a, b, c, d, e, f, g, h], _ => rfl
theorem rd_a8 : Rd Try.prog w 53 t8 (fun _ => True) :=
  (rd_array (w := w) Try.underlying53 (of_decide_eq_true (by kernel_rfl)) (by kernel_rfl) rd_n).map2 (fun l j => l.getD j 0) (fun l h => t8_of l h.1) (fun _ _ => trivial)
theorem t2_of : ∀ (l : List Int), l.length = 2 → prc (l.getD 0 0, l.getD 1 0) = (l.map ic).flatten
  | [a, b], _ => rfl
theorem rd_a2 : Rd Try.prog w 84 prc (fun _ => True) :=
  (rd_array (w := w) Try.underlying84 (of_decide_eq_true (by kernel_rfl)) (by kernel_rfl) rd_n).map2 (fun l => (l.getD 0 0, l.getD 1 0)) (fun l h => t2_of l h.1) (fun _ _ => trivial)
theorem rd_a2s : Rd Try.prog w 27 (fun l : List (Int × Int) => [.sl (l.map prc)]) (fun l : List (Int × Int) => l.length ≤ reachBytes ∧ ∀ a ∈ l, True) := rd_slice Try.underlying27 (of_decide_eq_true (by kernel_rfl)) (of_decide_eq_true (by kernel_rfl)) rd_a2
theorem rd_Ad : Rd Try.prog w 181 adT (fun a => True) := by
  have h := rd_struct (w := w) Try.underlying181 (by kernel_rfl) (rds_cons (by kernel_rfl) (rd_bool Try.underlying4) (rds_cons (by kernel_rfl) rd_n (rds_cons (by kernel_rfl) rd_n rds_nil)))
  exact h.map (fun p => ⟨p.1, p.2.1, p.2.2.1⟩) (fun _ => rfl) (fun p h => trivial)
theorem rd_Pf : Rd Try.prog w 183 pfT (fun a => True) := by
  have h := rd_struct (w := w) Try.underlying183 (by kernel_rfl) (rds_cons (by kernel_rfl) rd_Ad (rds_cons (by kernel_rfl) rd_n rds_nil))
  exact h.map (fun p => ⟨p.1, p.2.1⟩) (fun _ => rfl) (fun p h => trivial)
theorem rd_Po : Rd Try.prog w 193 poT (fun a => True) := by
  have h := rd_struct (w := w) Try.underlying193 (by kernel_rfl) (rds_cons (by kernel_rfl) rd_Pf (rds_cons (by kernel_rfl) rd_n rds_nil))
  exact h.map (fun p => ⟨p.1, p.2.1⟩) (fun _ => rfl) (fun p h => trivial)
theorem rd_Pos : Rd Try.prog w 92 (fun l : List Po => [.sl (l.map poT)]) (fun l : List Po => l.length ≤ reachBytes ∧ ∀ a ∈ l, True) := rd_slice Try.underlying92 (of_decide_eq_true (by kernel_rfl)) (of_decide_eq_true (by kernel_rfl)) rd_Po
theorem rd_Bk : Rd Try.prog w 185 bkT (fun a => okBk 140737488355328 a) := by
  have h := rd_struct (w := w) Try.underlying185 (by kernel_rfl) (rds_cons (by kernel_rfl) rd_Pf (rds_cons (by kernel_rfl) rd_s rds_nil))
  exact h.map (fun p => ⟨p.1, p.2.1⟩) (fun _ => rfl) (fun p h => ⟨h.2.1⟩)
theorem rd_Bks : Rd Try.prog w 93 (fun l : List Bk => [.sl (l.map bkT)]) (fun l : List Bk => l.length ≤ reachBytes ∧ ∀ a ∈ l, okBk 140737488355328 a) := rd_slice Try.underlying93 (of_decide_eq_true (by kernel_rfl)) (of_decide_eq_true (by kernel_rfl)) rd_Bk
theorem rd_Pn : Rd Try.prog w 95 pnT (fun a => okPn 140737488355328 a) := by
  have h := rd_struct (w := w) Try.underlying95 (by kernel_rfl) (rds_cons (by kernel_rfl) rd_Pos (rds_cons (by kernel_rfl) rd_Bks rds_nil))
  exact h.map (fun p => ⟨p.1, p.2.1⟩) (fun _ => rfl) (fun p h => ⟨Nat.le_trans h.1.1 (of_decide_eq_true (by kernel_rfl)), Nat.le_trans h.2.1.1 (of_decide_eq_true (by kernel_rfl)), h.2.1.2⟩)
theorem rd_Le : Rd Try.prog w 188 leT (fun a => okLe 140737488355328 a) := by
  have h := rd_struct (w := w) Try.underlying188 (by kernel_rfl) (rds_cons (by kernel_rfl) rd_Ad (rds_cons (by kernel_rfl) rd_s (rds_cons (by kernel_rfl) rd_n (rds_cons (by kernel_rfl) rd_n rds_nil))))
  exact h.map (fun p => ⟨p.1, p.2.1, p.2.2.1, p.2.2.2.1⟩) (fun _ => rfl) (fun p h => ⟨h.2.1⟩)
theorem rd_Les : Rd Try.prog w 96 (fun l : List Le => [.sl (l.map leT)]) (fun l : List Le => l.length ≤ reachBytes ∧ ∀ a ∈ l, okLe 140737488355328 a) := rd_slice Try.underlying96 (of_decide_eq_true (by kernel_rfl)) (of_decide_eq_true (by kernel_rfl)) rd_Le
theorem rd_Bu : Rd Try.prog w 98 buT (fun a => okBu 140737488355328 a) := by
  have h := rd_struct (w := w) Try.underlying98 (by kernel_rfl) (rds_cons (by kernel_rfl) rd_Les (rds_cons (by kernel_rfl) rd_n (rds_cons (by kernel_rfl) rd_n rds_nil)))
  exact h.map (fun p => ⟨p.1, p.2.1, p.2.2.1⟩) (fun _ => rfl) (fun p h => ⟨Nat.le_trans h.1.1 (of_decide_eq_true (by kernel_rfl)), h.1.2⟩)
theorem rd_Se : Rd Try.prog w 190 seT (fun a => okSe 140737488355328 a) := by
  have h := rd_struct (w := w) Try.underlying190 (by kernel_rfl) (rds_cons (by kernel_rfl) rd_n (rds_cons (by kernel_rfl) rd_n (rds_cons (by kernel_rfl) rd_s (rds_cons (by kernel_rfl) rd_n rds_nil))))
  exact h.map (fun p => ⟨p.1, p.2.1, p.2.2.1, p.2.2.2.1⟩) (fun _ => rfl) (fun p h => ⟨h.2.2.1⟩)
theorem rd_Ses : Rd Try.prog w 99 (fun l : List Se => [.sl (l.map seT)]) (fun l : List Se => l.length ≤ reachBytes ∧ ∀ a ∈ l, okSe 140737488355328 a) := rd_slice Try.underlying99 (of_decide_eq_true (by kernel_rfl)) (of_decide_eq_true (by kernel_rfl)) rd_Se
theorem rd_De : Rd Try.prog w 101 deT (fun a => okDe 140737488355328 a) := by
  have h := rd_struct (w := w) Try.underlying101 (by kernel_rfl) (rds_cons (by kernel_rfl) rd_Ses (rds_cons (by kernel_rfl) rd_n rds_nil))
  exact h.map (fun p => ⟨p.1, p.2.1⟩) (fun _ => rfl) (fun p h => ⟨Nat.le_trans h.1.1 (of_decide_eq_true (by kernel_rfl)), h.1.2⟩)
theorem rd_St : Rd Try.prog w 103 stT (fun a => okSt 140737488355328 a) := by
  have h := rd_struct (w := w) Try.underlying103 (by kernel_rfl) (rds_cons (by kernel_rfl) rd_Pn (rds_cons (by kernel_rfl) rd_Bu (rds_cons (by kernel_rfl) rd_De (rds_cons (by kernel_rfl) rd_n rds_nil))))
  exact h.map (fun p => ⟨p.1, p.2.1, p.2.2.1, p.2.2.2.1⟩) (fun _ => rfl) (fun p h => ⟨h.1, h.2.1, h.2.2.1⟩)
theorem rd_Fi : Rd Try.prog w 104 fiT (fun a => okFi 140737488355328 a) := by
  have h := rd_struct (w := w) Try.underlying104 (by kernel_rfl) (rds_cons (by kernel_rfl) rd_bytes (rds_cons (by kernel_rfl) rd_n rds_nil))
  exact h.map (fun p => ⟨p.1, p.2.1⟩) (fun _ => rfl) (fun p h => ⟨Nat.le_trans h.1.1 (of_decide_eq_true (by kernel_rfl))⟩)
theorem rd_Ent : Rd Try.prog w 113 ec (fun a => okEnt 140737488355328 a) := by
  have h := rd_struct (w := w) Try.underlying113 (by kernel_rfl) (rds_cons (by kernel_rfl) rd_n (rds_cons (by kernel_rfl) rd_n (rds_cons (by kernel_rfl) rd_bytes rds_nil)))
  exact h.map (fun p => ⟨p.1, p.2.1, p.2.2.1⟩) (fun _ => rfl) (fun p h => ⟨Nat.le_trans h.2.2.1.1 (of_decide_eq_true (by kernel_rfl))⟩)
theorem rd_Ents : Rd Try.prog w 28 (fun l : List Ent => [.sl (l.map ec)]) (fun l : List Ent => l.length ≤ reachBytes ∧ ∀ a ∈ l, okEnt 140737488355328 a) := rd_slice Try.underlying28 (of_decide_eq_true (by kernel_rfl)) (of_decide_eq_true (by kernel_rfl)) rd_Ent
theorem rd_Kp : Rd Try.prog w 89 kpT (fun a => okKp 140737488355328 a) := by
  have h := rd_struct (w := w) Try.underlying89 (by kernel_rfl) (rds_cons (by kernel_rfl) rd_n (rds_cons (by kernel_rfl) rd_n (rds_cons (by kernel_rfl) rd_n (rds_cons (by kernel_rfl) rd_n (rds_cons (by kernel_rfl) rd_grp (rds_cons (by kernel_rfl) rd_bytes (rds_cons (by kernel_rfl) rd_Ents rds_nil)))))))
  exact h.map (fun p => ⟨p.1, p.2.1, p.2.2.1, p.2.2.2.1, p.2.2.2.2.1.1, p.2.2.2.2.1.2, p.2.2.2.2.2.1, p.2.2.2.2.2.2.1⟩) (fun _ => rfl) (fun p h => ⟨h.2.2.2.2.1.1, h.2.2.2.2.1.2, Nat.le_trans h.2.2.2.2.2.1.1 (of_decide_eq_true (by kernel_rfl)), Nat.le_trans h.2.2.2.2.2.2.1.1 (of_decide_eq_true (by kernel_rfl)), h.2.2.2.2.2.2.1.2⟩)
theorem rd_Sv : Rd Try.prog w 91 svT (fun a => okSv 140737488355328 a) := by
  have h := rd_struct (w := w) Try.underlying91 (by kernel_rfl) (rds_cons (by kernel_rfl) rd_n (rds_cons (by kernel_rfl) rd_Kp (rds_cons (by kernel_rfl) rd_n (rds_cons (by kernel_rfl) rd_n (rds_cons (by kernel_rfl) rd_n (rds_cons (by kernel_rfl) rd_ints (rds_cons (by kernel_rfl) rd_a8 (rds_cons (by kernel_rfl) rd_a8 (rds_cons (by kernel_rfl) rd_n (rds_cons (by kernel_rfl) rd_n rds_nil))))))))))
  exact h.map (fun p => ⟨p.1, p.2.1, p.2.2.1, p.2.2.2.1, p.2.2.2.2.1, p.2.2.2.2.2.1, p.2.2.2.2.2.2.1, p.2.2.2.2.2.2.2.1, p.2.2.2.2.2.2.2.2.1, p.2.2.2.2.2.2.2.2.2.1⟩) (fun _ => rfl) (fun p h => ⟨h.2.1, Nat.le_trans h.2.2.2.2.2.1.1 (of_decide_eq_true (by kernel_rfl))⟩)
theorem rd_Mg : Rd Try.prog w 110 mgT (fun a => okMg 140737488355328 a) := by
  have h := rd_struct (w := w) Try.underlying110 (by kernel_rfl) (rds_cons (by kernel_rfl) rd_n (rds_cons (by kernel_rfl) rd_n (rds_cons (by kernel_rfl) rd_n (rds_cons (by kernel_rfl) rd_n (rds_cons (by kernel_rfl) rd_n (rds_cons (by kernel_rfl) rd_n (rds_cons (by kernel_rfl) rd_Ents (rds_cons (by kernel_rfl) rd_n (rds_cons (by kernel_rfl) (rd_bool Try.underlying4) (rds_cons (by kernel_rfl) rd_bytes (rds_cons (by kernel_rfl) rd_grp rds_nil)))))))))))
  exact h.map (fun p => ⟨p.1, p.2.1, p.2.2.1, p.2.2.2.1, p.2.2.2.2.1, p.2.2.2.2.2.1, p.2.2.2.2.2.2.1, p.2.2.2.2.2.2.2.1, p.2.2.2.2.2.2.2.2.1, p.2.2.2.2.2.2.2.2.2.1, p.2.2.2.2.2.2.2.2.2.2.1.1, p.2.2.2.2.2.2.2.2.2.2.1.2⟩) (fun _ => rfl) (fun p h => ⟨Nat.le_trans h.2.2.2.2.2.2.1.1 (of_decide_eq_true (by kernel_rfl)), h.2.2.2.2.2.2.1.2, Nat.le_trans h.2.2.2.2.2.2.2.2.2.1.1 (of_decide_eq_true (by kernel_rfl)), h.2.2.2.2.2.2.2.2.2.2.1.1, h.2.2.2.2.2.2.2.2.2.2.1.2⟩)
theorem rd_Mgs : Rd Try.prog w 26 (fun l : List Mg => [.sl (l.map mgT)]) (fun l : List Mg => l.length ≤ reachBytes ∧ ∀ a ∈ l, okMg 140737488355328 a) := rd_slice Try.underlying26 (of_decide_eq_true (by kernel_rfl)) (of_decide_eq_true (by kernel_rfl)) rd_Mg
theorem rd_Rp : Rd Try.prog w 106 rpT (fun a => okRp 140737488355328 a) := by
  have h := rd_struct (w := w) Try.underlying106 (by kernel_rfl) (rds_cons (by kernel_rfl) rd_Sv (rds_cons (by kernel_rfl) rd_St (rds_cons (by kernel_rfl) rd_n (rds_cons (by kernel_rfl) rd_Fi (rds_cons (by kernel_rfl) (rd_bool Try.underlying4) rds_nil)))))
  exact h.map (fun p => ⟨p.1, p.2.1, p.2.2.1, p.2.2.2.1, p.2.2.2.2.1⟩) (fun _ => rfl) (fun p h => ⟨h.1, h.2.1, h.2.2.2.1⟩)
theorem rd_Rps : Rd Try.prog w 22 (fun l : List Rp => [.sl (l.map rpT)]) (fun l : List Rp => l.length ≤ reachBytes ∧ ∀ a ∈ l, okRp 140737488355328 a) := rd_slice Try.underlying22 (of_decide_eq_true (by kernel_rfl)) (of_decide_eq_true (by kernel_rfl)) rd_Rp
theorem rd_Cl : Rd Try.prog w 31 clT (fun a => okCl 140737488355328 a) := by
  have h := rd_struct (w := w) Try.underlying31 (by kernel_rfl) (rds_cons (by kernel_rfl) rd_Rps (rds_cons (by kernel_rfl) rd_grp (rds_cons (by kernel_rfl) rd_Mgs (rds_cons (by kernel_rfl) rd_a2s (rds_cons (by kernel_rfl) rd_Ents (rds_cons (by kernel_rfl) rd_strs (rds_cons (by kernel_rfl) (rd_bool Try.underlying4) rds_nil)))))))
  exact h.map (fun p => ⟨p.1, p.2.1.1, p.2.1.2, p.2.2.1, p.2.2.2.1, p.2.2.2.2.1, p.2.2.2.2.2.1, p.2.2.2.2.2.2.1⟩) (fun _ => rfl) (fun p h => ⟨Nat.le_trans h.1.1 (of_decide_eq_true (by kernel_rfl)), h.1.2, h.2.1.1, h.2.1.2, Nat.le_trans h.2.2.1.1 (of_decide_eq_true (by kernel_rfl)), h.2.2.1.2, Nat.le_trans h.2.2.2.1.1 (of_decide_eq_true (by kernel_rfl)), Nat.le_trans h.2.2.2.2.1.1 (of_decide_eq_true (by kernel_rfl)), h.2.2.2.2.1.2, Nat.le_trans h.2.2.2.2.2.1.1 (of_decide_eq_true (by kernel_rfl)), h.2.2.2.2.2.1.2⟩)
end
end Go.Proofs.LawsR
