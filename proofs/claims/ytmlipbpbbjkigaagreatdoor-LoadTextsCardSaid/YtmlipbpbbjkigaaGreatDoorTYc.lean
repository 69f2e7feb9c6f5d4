/- The pieces of the lists' Same, run with symbolic leaves. Written by walk3d.py. -/
import Derived.Test.YtmlipbpbbjkigaaGreatDoorTXb
set_option linter.unusedVariables false
set_option linter.unusedSimpArgs false
namespace Go.Proofs.YtmlipbpbbjkigaaGreatDoor
open Go Go.Ev Go.Proofs
set_option maxRecDepth 100000
theorem s_ne (xs : List InD) (ys : List InD) (ox : Option Cap) (oy : Option Cap) (opx : Bool) (opy : Bool) (fzx : Nat) (fzy : Nat) (hlx : ox = none → xs.length = 0) (hly : oy = none → ys.length = 0) (hn : xs.length ≠ ys.length) : Leads tabX 60 (bodyOf Go.Proofs.Tryz.f18) 5 5 26 ⟨[(0, (slV 15 xs.length ox)), (1, (slV 16 ys.length oy))], [(rwV ox (rowOf inC xs) opx fzx), (rwV oy (rowOf inC ys) opy fzy)]⟩ (.ret) ⟨[(4, (.bool false))], []⟩ [] := by
  refine Leads.ofC (H := [(1, [(1, (1, (.int .i64 (.ofNat xs.length)), none)), (3, (1, (.int .i64 (.ofNat ys.length)), none)), (4, (1, (.bool true), none))])]) (L := [(true, 4, (.bool false))]) (O := []) (ps := [∀ cf h, doX tabX cf (.builtin .len [24] [(slV 15 xs.length ox)]) h = some ((.int .i64 (.ofNat xs.length)), none), ∀ cf h, doX tabX cf (.builtin .len [24] [(slV 16 ys.length oy)]) h = some ((.int .i64 (.ofNat ys.length)), none), ∀ cf h, doX tabX cf (.bin false .neq 3 (.int .i64 (.ofNat xs.length)) (.int .i64 (.ofNat ys.length))) h = some ((.bool true), none)]) ?_ ?_ ?_ ?_ ?_ ?_ ?_
  · rcases ox with _ | _ <;> rcases oy with _ | _ <;> kernel_rfl
  · exact ⟨len_slV (ti := ty24) (e := 33) (by kernel_rfl) rfl hlx, len_slV (ti := ty24) (e := 33) (by kernel_rfl) rfl hly, vc_neq_t (by omega), trivial⟩
  · rcases ox with _ | _ <;> rcases oy with _ | _ <;> exact ⟨rfl, trivial⟩
  · rcases ox with _ | _ <;> rcases oy with _ | _ <;> exact trivial
  · rcases ox with _ | _ <;> rcases oy with _ | _ <;> kernel_rfl
  · exact Nat.le_of_ble_eq_true rfl
  · exact Nat.le_of_ble_eq_true rfl
theorem s_p0 (xs : List InD) (ys : List InD) (ox : Option Cap) (oy : Option Cap) (opx : Bool) (opy : Bool) (fzx : Nat) (fzy : Nat) (hlx : ox = none → xs.length = 0) (hly : oy = none → ys.length = 0) (hn : xs.length = ys.length) : Leads tabX 60 (takeSeq 2 (bodyOf Go.Proofs.Tryz.f18)) 5 5 26 ⟨[(0, (slV 15 xs.length ox)), (1, (slV 16 ys.length oy))], [(rwV ox (rowOf inC xs) opx fzx), (rwV oy (rowOf inC ys) opy fzy)]⟩ (.normal) ⟨[(0, (slV 15 xs.length ox)), (1, (slV 16 ys.length oy))], [(rwV ox (rowOf inC xs) opx fzx), (rwV oy (rowOf inC ys) opy fzy)]⟩ [15, 16] := by
  refine Leads.ofC (H := [(1, [(1, (1, (.int .i64 (.ofNat xs.length)), none)), (3, (1, (.int .i64 (.ofNat ys.length)), none)), (4, (1, (.bool false), none))])]) (L := [(false, 0, (slV 15 xs.length ox)), (false, 1, (slV 16 ys.length oy))]) (O := [(true, (rwV ox (rowOf inC xs) opx fzx)), (true, (rwV oy (rowOf inC ys) opy fzy))]) (ps := [∀ cf h, doX tabX cf (.builtin .len [24] [(slV 15 xs.length ox)]) h = some ((.int .i64 (.ofNat xs.length)), none), ∀ cf h, doX tabX cf (.builtin .len [24] [(slV 16 ys.length oy)]) h = some ((.int .i64 (.ofNat ys.length)), none), ∀ cf h, doX tabX cf (.bin false .neq 3 (.int .i64 (.ofNat xs.length)) (.int .i64 (.ofNat ys.length))) h = some ((.bool false), none)]) ?_ ?_ ?_ ?_ ?_ ?_ ?_
  · rcases ox with _ | _ <;> rcases oy with _ | _ <;> kernel_rfl
  · exact ⟨len_slV (ti := ty24) (e := 33) (by kernel_rfl) rfl hlx, len_slV (ti := ty24) (e := 33) (by kernel_rfl) rfl hly, vc_neq_f (by omega), trivial⟩
  · rcases ox with _ | _ <;> rcases oy with _ | _ <;> exact ⟨rfl, rfl, trivial⟩
  · rcases ox with _ | _ <;> rcases oy with _ | _ <;> exact ⟨(by first | exact trivial | exact rowOf_plain inC_plain _), (by first | exact trivial | exact rowOf_plain inC_plain _), trivial⟩
  · rcases ox with _ | _ <;> rcases oy with _ | _ <;> kernel_rfl
  · exact Nat.le_of_ble_eq_true rfl
  · exact Nat.le_of_ble_eq_true rfl
theorem s_p1 (xs : List InD) (ys : List InD) (ox : Option Cap) (oy : Option Cap) (opx : Bool) (opy : Bool) (fzx : Nat) (fzy : Nat) (hlx : ox = none → xs.length = 0) (hly : oy = none → ys.length = 0) : Leads tabX 60 (takeSeq 1 (lft (rgt (rgt (bodyOf Go.Proofs.Tryz.f18))))) 5 5 26 ⟨[(0, (slV 15 xs.length ox)), (1, (slV 16 ys.length oy))], [(rwV ox (rowOf inC xs) opx fzx), (rwV oy (rowOf inC ys) opy fzy)]⟩ (.normal) ⟨[(0, (slV 15 xs.length ox)), (1, (slV 16 ys.length oy)), (12, (.int .i64 (.ofNat xs.length))), (13, (.int .i64 (.ofNat 0)))], [(rwV ox (rowOf inC xs) opx fzx), (rwV oy (rowOf inC ys) opy fzy)]⟩ [15, 16] := by
  refine Leads.ofC (H := [(3, [(1, (1, (.int .i64 (.ofNat xs.length)), none))])]) (L := [(false, 0, (slV 15 xs.length ox)), (false, 1, (slV 16 ys.length oy)), (true, 12, (.int .i64 (.ofNat xs.length))), (true, 13, (.int .i64 (.ofNat 0)))]) (O := [(true, (rwV ox (rowOf inC xs) opx fzx)), (true, (rwV oy (rowOf inC ys) opy fzy))]) (ps := [∀ cf h, doX tabX cf (.builtin .len [24] [(slV 15 xs.length ox)]) h = some ((.int .i64 (.ofNat xs.length)), none)]) ?_ ?_ ?_ ?_ ?_ ?_ ?_
  · rcases ox with _ | _ <;> rcases oy with _ | _ <;> kernel_rfl
  · exact ⟨len_slV (ti := ty24) (e := 33) (by kernel_rfl) rfl hlx, trivial⟩
  · rcases ox with _ | _ <;> rcases oy with _ | _ <;> exact ⟨rfl, rfl, rfl, rfl, trivial⟩
  · rcases ox with _ | _ <;> rcases oy with _ | _ <;> exact ⟨(by first | exact trivial | exact rowOf_plain inC_plain _), (by first | exact trivial | exact rowOf_plain inC_plain _), trivial⟩
  · rcases ox with _ | _ <;> rcases oy with _ | _ <;> kernel_rfl
  · exact Nat.le_of_ble_eq_true rfl
  · exact Nat.le_of_ble_eq_true rfl
noncomputable def s_l_h0 (xs : List InD) (ys : List InD) (opx : Bool) (opy : Bool) (fzx : Nat) (fzy : Nat) (cx : Cap) (cy : Cap) (i : Nat) (x : InD) (y : InD) : AHeap := heapL 15 5 [(.row (rowOf inC xs) opx fzx false), (.row (rowOf inC ys) opy fzy false)]
theorem s_l (xs : List InD) (ys : List InD) (opx : Bool) (opy : Bool) (fzx : Nat) (fzy : Nat) (cx : Cap) (cy : Cap) (i : Nat) (x : InD) (y : InD) (hi : i < xs.length) (hl : xs.length ≤ 1048576) (hn : xs.length = ys.length) (hx : xs[i]? = some x) (hy : ys[i]? = some y) (h : decide (wIn x ≠ wIn y) = false) : Leads tabX 60 (lft (lft (rgt (lft (rgt (rgt (bodyOf Go.Proofs.Tryz.f18))))))) 5 5 26 ⟨[(0, (.slice 15 0 xs.length cx)), (1, (.slice 16 0 ys.length cy)), (12, (.int .i64 (.ofNat xs.length))), (13, (.int .i64 (.ofNat i)))], [(.row (rowOf inC xs) opx fzx false), (.row (rowOf inC ys) opy fzy false)]⟩ (.normal) ⟨[(0, (.slice 15 0 xs.length cx)), (1, (.slice 16 0 ys.length cy)), (12, (.int .i64 (.ofNat xs.length))), (13, (.int .i64 (.ofNat (i + 1))))], [(.row (rowOf inC xs) opx fzx false), (.row (rowOf inC ys) opy fzy false)]⟩ [15, 16] := by
  refine Leads.ofC (H := [(4, [(0, (1, (.bool true), none))]), (6, [(2, (1, (.ptr 15 (i * 33)), none)), (3, (2, (.agg (inC x)), none)), (6, (1, (.ptr 16 (i * 33)), none)), (7, (2, (.agg (inC y)), none)), (8, (1, (.bool false), none))]), (8, [(0, (1, (.int .i64 (.ofNat (i + 1))), none))])]) (L := [(false, 0, (.slice 15 0 xs.length cx)), (false, 1, (.slice 16 0 ys.length cy)), (true, 12, (.int .i64 (.ofNat xs.length))), (true, 13, (.int .i64 (.ofNat (i + 1))))]) (O := [(true, (.row (rowOf inC xs) opx fzx false)), (true, (.row (rowOf inC ys) opy fzy false))]) (ps := [∀ cf h, doX tabX cf (.bin false .lss 3 (.int .i64 (.ofNat i)) (.int .i64 (.ofNat xs.length))) h = some ((.bool true), none), ∀ cf h, doX tabX cf (.indexAddr 24 (.slice 15 0 xs.length cx) (.int .i64 (.ofNat i))) h = some ((.ptr 15 (i * 33)), none), ∀ cf, doX tabX cf (.load 33 (.ptr 15 (i * 33))) (s_l_h0 xs ys opx opy fzx fzy cx cy i x y) = some ((.agg (inC x)), none), ∀ cf h, doX tabX cf (.indexAddr 24 (.slice 16 0 ys.length cy) (.int .i64 (.ofNat i))) h = some ((.ptr 16 (i * 33)), none), ∀ cf, doX tabX cf (.load 33 (.ptr 16 (i * 33))) (s_l_h0 xs ys opx opy fzx fzy cx cy i x y) = some ((.agg (inC y)), none), ∀ cf h, doX tabX cf (.bin false .neq 33 (.agg (inC x)) (.agg (inC y))) h = some ((.bool false), none), ∀ cf h, doX tabX cf (.bin true .add 3 (.int .i64 (.ofNat i)) (.int .i64 (.ofNat 1))) h = some ((.int .i64 (.ofNat (i + 1))), none)]) ?_ ?_ ?_ ?_ ?_ ?_ ?_
  · kernel_rfl
  · exact ⟨vc_lss_t (by omega), vc_ia (b := Nat.blt i xs.length) (q := 0 + i * 33) (q' := i * 33) (fun _ _ => by kernel_rfl) (blt_of (by omega)) (by omega), vc_eq2 (ck (Nat.ble (i * 33 + 33) (rowOf inC xs).length) (some (.agg (takeAt (rowOf inC xs) (i * 33) 33)))) (fun _ => by kernel_rfl) (at_rowOf inC_len hx rfl), vc_ia (b := Nat.blt i ys.length) (q := 0 + i * 33) (q' := i * 33) (fun _ _ => by kernel_rfl) (blt_of (by omega)) (by omega), vc_eq2 (ck (Nat.ble (i * 33 + 33) (rowOf inC ys).length) (some (.agg (takeAt (rowOf inC ys) (i * 33) 33)))) (fun _ => by kernel_rfl) (at_rowOf inC_len hy rfl), vc_neqIn h, vc_add (by omega) (by omega), trivial⟩
  · exact ⟨rfl, rfl, rfl, rfl, trivial⟩
  · exact ⟨rowOf_plain inC_plain _, rowOf_plain inC_plain _, trivial⟩
  · kernel_rfl
  · exact Nat.le_of_ble_eq_true rfl
  · exact Nat.le_of_ble_eq_true rfl
noncomputable def s_r_h0 (xs : List InD) (ys : List InD) (opx : Bool) (opy : Bool) (fzx : Nat) (fzy : Nat) (cx : Cap) (cy : Cap) (i : Nat) (x : InD) (y : InD) : AHeap := heapL 15 5 [(.row (rowOf inC xs) opx fzx false), (.row (rowOf inC ys) opy fzy false)]
theorem s_r (xs : List InD) (ys : List InD) (opx : Bool) (opy : Bool) (fzx : Nat) (fzy : Nat) (cx : Cap) (cy : Cap) (i : Nat) (x : InD) (y : InD) (hi : i < xs.length) (hl : xs.length ≤ 1048576) (hn : xs.length = ys.length) (hx : xs[i]? = some x) (hy : ys[i]? = some y) (h : decide (wIn x ≠ wIn y) = true) : Leads tabX 60 (lft (lft (rgt (lft (rgt (rgt (bodyOf Go.Proofs.Tryz.f18))))))) 5 5 26 ⟨[(0, (.slice 15 0 xs.length cx)), (1, (.slice 16 0 ys.length cy)), (12, (.int .i64 (.ofNat xs.length))), (13, (.int .i64 (.ofNat i)))], [(.row (rowOf inC xs) opx fzx false), (.row (rowOf inC ys) opy fzy false)]⟩ (.ret) ⟨[(4, (.bool false))], []⟩ [] := by
  refine Leads.ofC (H := [(4, [(0, (1, (.bool true), none))]), (6, [(2, (1, (.ptr 15 (i * 33)), none)), (3, (2, (.agg (inC x)), none)), (6, (1, (.ptr 16 (i * 33)), none)), (7, (2, (.agg (inC y)), none)), (8, (1, (.bool true), none))])]) (L := [(true, 4, (.bool false))]) (O := []) (ps := [∀ cf h, doX tabX cf (.bin false .lss 3 (.int .i64 (.ofNat i)) (.int .i64 (.ofNat xs.length))) h = some ((.bool true), none), ∀ cf h, doX tabX cf (.indexAddr 24 (.slice 15 0 xs.length cx) (.int .i64 (.ofNat i))) h = some ((.ptr 15 (i * 33)), none), ∀ cf, doX tabX cf (.load 33 (.ptr 15 (i * 33))) (s_r_h0 xs ys opx opy fzx fzy cx cy i x y) = some ((.agg (inC x)), none), ∀ cf h, doX tabX cf (.indexAddr 24 (.slice 16 0 ys.length cy) (.int .i64 (.ofNat i))) h = some ((.ptr 16 (i * 33)), none), ∀ cf, doX tabX cf (.load 33 (.ptr 16 (i * 33))) (s_r_h0 xs ys opx opy fzx fzy cx cy i x y) = some ((.agg (inC y)), none), ∀ cf h, doX tabX cf (.bin false .neq 33 (.agg (inC x)) (.agg (inC y))) h = some ((.bool true), none)]) ?_ ?_ ?_ ?_ ?_ ?_ ?_
  · kernel_rfl
  · exact ⟨vc_lss_t (by omega), vc_ia (b := Nat.blt i xs.length) (q := 0 + i * 33) (q' := i * 33) (fun _ _ => by kernel_rfl) (blt_of (by omega)) (by omega), vc_eq2 (ck (Nat.ble (i * 33 + 33) (rowOf inC xs).length) (some (.agg (takeAt (rowOf inC xs) (i * 33) 33)))) (fun _ => by kernel_rfl) (at_rowOf inC_len hx rfl), vc_ia (b := Nat.blt i ys.length) (q := 0 + i * 33) (q' := i * 33) (fun _ _ => by kernel_rfl) (blt_of (by omega)) (by omega), vc_eq2 (ck (Nat.ble (i * 33 + 33) (rowOf inC ys).length) (some (.agg (takeAt (rowOf inC ys) (i * 33) 33)))) (fun _ => by kernel_rfl) (at_rowOf inC_len hy rfl), vc_neqIn h, trivial⟩
  · exact ⟨rfl, trivial⟩
  · exact trivial
  · kernel_rfl
  · exact Nat.le_of_ble_eq_true rfl
  · exact Nat.le_of_ble_eq_true rfl
theorem s_e (xs : List InD) (ys : List InD) (ox : Option Cap) (oy : Option Cap) (opx : Bool) (opy : Bool) (fzx : Nat) (fzy : Nat) (i : Nat) (hi : i = xs.length) : Leads tabX 60 (lft (lft (rgt (lft (rgt (rgt (bodyOf Go.Proofs.Tryz.f18))))))) 5 5 26 ⟨[(0, (slV 15 xs.length ox)), (1, (slV 16 ys.length oy)), (12, (.int .i64 (.ofNat xs.length))), (13, (.int .i64 (.ofNat i)))], [(rwV ox (rowOf inC xs) opx fzx), (rwV oy (rowOf inC ys) opy fzy)]⟩ (.exit 0) ⟨[], []⟩ [] := by
  refine Leads.ofC (H := [(4, [(0, (1, (.bool false), none))])]) (L := []) (O := []) (ps := [∀ cf h, doX tabX cf (.bin false .lss 3 (.int .i64 (.ofNat i)) (.int .i64 (.ofNat xs.length))) h = some ((.bool false), none)]) ?_ ?_ ?_ ?_ ?_ ?_ ?_
  · rcases ox with _ | _ <;> rcases oy with _ | _ <;> kernel_rfl
  · exact ⟨vc_lss_f (by omega), trivial⟩
  · rcases ox with _ | _ <;> rcases oy with _ | _ <;> exact trivial
  · rcases ox with _ | _ <;> rcases oy with _ | _ <;> exact trivial
  · rcases ox with _ | _ <;> rcases oy with _ | _ <;> kernel_rfl
  · exact Nat.le_of_ble_eq_true rfl
  · exact Nat.le_of_ble_eq_true rfl
theorem s_q   : Leads tabX 60 (rgt (rgt (rgt (bodyOf Go.Proofs.Tryz.f18)))) 5 5 26 ⟨[], []⟩ (.ret) ⟨[(4, (.bool true))], []⟩ [] := by
  refine Leads.ofC (H := []) (L := [(true, 4, (.bool true))]) (O := []) (ps := []) ?_ ?_ ?_ ?_ ?_ ?_ ?_
  · kernel_rfl
  · exact trivial
  · exact ⟨rfl, trivial⟩
  · exact trivial
  · kernel_rfl
  · exact Nat.le_of_ble_eq_true rfl
  · exact Nat.le_of_ble_eq_true rfl
end Go.Proofs.YtmlipbpbbjkigaaGreatDoor
