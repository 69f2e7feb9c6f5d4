/- Joined texts: the pieces of the two Joins, run with symbolic leaves. Written by walk3a.py. -/
import Derived.Test.YtmlipbpbbjkigaaGreatDoorTK
import Derived.Test.YtmlipbpbbjkigaaGreatDoorEvd
set_option linter.unusedVariables false
set_option linter.unusedSimpArgs false
namespace Go.Proofs.YtmlipbpbbjkigaaGreatDoor
open Go Go.Ev Go.Proofs
set_option maxRecDepth 100000
theorem numL_len (n : Int) : (numL n).length = 8 := rfl
theorem numR_len (n : Int) : (numR n).length = 8 := rfl
theorem j_p0 (ss : List (List UInt8)) (opn : Bool) (fz : Nat) (cp : Cap)  : Leads tabK 60 (takeSeq 2 (bodyOf Go.Proofs.Tryz.f14)) 6 5 45 ⟨[(0, (.slice 15 0 ss.length cp))], [(.row (rowOf strC ss) opn fz false)]⟩ (.normal) ⟨[(0, (.slice 15 0 ss.length cp)), (3, (.int .i64 (.ofNat 8)))], [(.row (rowOf strC ss) opn fz false)]⟩ [15] := by
  refine Leads.ofC (H := []) (L := [(false, 0, (.slice 15 0 ss.length cp)), (true, 3, (.int .i64 (.ofNat 8)))]) (O := [(true, (.row (rowOf strC ss) opn fz false))]) (ps := []) ?_ ?_ ?_ ?_ ?_ ?_ ?_
  · kernel_rfl
  · exact trivial
  · exact ⟨rfl, rfl, trivial⟩
  · exact ⟨rowOf_plain (fun _ => rfl) _, trivial⟩
  · kernel_rfl
  · exact Nat.le_of_ble_eq_true rfl
  · exact Nat.le_of_ble_eq_true rfl
theorem j_p1 (ss : List (List UInt8)) (opn : Bool) (fz : Nat) (cp : Cap)  : Leads tabK 60 (takeSeq 1 (lft (rgt (rgt (bodyOf Go.Proofs.Tryz.f14))))) 6 5 45 ⟨[(0, (.slice 15 0 ss.length cp)), (3, (.int .i64 (.ofNat 8)))], [(.row (rowOf strC ss) opn fz false)]⟩ (.normal) ⟨[(0, (.slice 15 0 ss.length cp)), (3, (.int .i64 (.ofNat 8))), (9, (.slice 15 0 ss.length cp)), (10, (.int .i64 (.ofNat ss.length))), (11, (.int .i64 (.ofNat 0)))], [(.row (rowOf strC ss) opn fz false)]⟩ [15] := by
  refine Leads.ofC (H := []) (L := [(false, 0, (.slice 15 0 ss.length cp)), (true, 3, (.int .i64 (.ofNat 8))), (false, 9, (.slice 15 0 ss.length cp)), (true, 10, (.int .i64 (.ofNat ss.length))), (true, 11, (.int .i64 (.ofNat 0)))]) (O := [(true, (.row (rowOf strC ss) opn fz false))]) (ps := []) ?_ ?_ ?_ ?_ ?_ ?_ ?_
  · kernel_rfl
  · exact trivial
  · exact ⟨rfl, rfl, rfl, rfl, rfl, trivial⟩
  · exact ⟨rowOf_plain (fun _ => rfl) _, trivial⟩
  · kernel_rfl
  · exact Nat.le_of_ble_eq_true rfl
  · exact Nat.le_of_ble_eq_true rfl
noncomputable def j_l1_h0 (ss : List (List UInt8)) (opn : Bool) (fz : Nat) (cp : Cap) (i : Nat) (n : Nat) (x : List UInt8) : AHeap := heapL 15 5 [(.row (rowOf strC ss) opn fz false)]
theorem j_l1 (ss : List (List UInt8)) (opn : Bool) (fz : Nat) (cp : Cap) (i : Nat) (n : Nat) (x : List UInt8) (hi : i < ss.length) (hx : ss[i]? = some x) (hn : n + (8 + x.length) < 4611686018427387904) (hl : ss.length < 4611686018427387904) : Leads tabK 60 (lft (lft (rgt (lft (rgt (rgt (bodyOf Go.Proofs.Tryz.f14))))))) 6 5 45 ⟨[(0, (.slice 15 0 ss.length cp)), (3, (.int .i64 (.ofNat n))), (9, (.slice 15 0 ss.length cp)), (10, (.int .i64 (.ofNat ss.length))), (11, (.int .i64 (.ofNat i)))], [(.row (rowOf strC ss) opn fz false)]⟩ (.normal) ⟨[(0, (.slice 15 0 ss.length cp)), (3, (.int .i64 (.ofNat (n + (8 + x.length))))), (9, (.slice 15 0 ss.length cp)), (10, (.int .i64 (.ofNat ss.length))), (11, (.int .i64 (.ofNat (i + 1))))], [(.row (rowOf strC ss) opn fz false)]⟩ [15] := by
  refine Leads.ofC (H := [(3, [(0, (1, (.bool true), none))]), (4, [(0, (1, (.ptr 15 i), none)), (1, (2, (.str x), none))]), (5, [(3, (1, (.int .i64 (.ofNat (8 + x.length))), none)), (4, (1, (.int .i64 (.ofNat (n + (8 + x.length)))), none))]), (6, [(0, (1, (.int .i64 (.ofNat (i + 1))), none))])]) (L := [(false, 0, (.slice 15 0 ss.length cp)), (true, 3, (.int .i64 (.ofNat (n + (8 + x.length))))), (false, 9, (.slice 15 0 ss.length cp)), (true, 10, (.int .i64 (.ofNat ss.length))), (true, 11, (.int .i64 (.ofNat (i + 1))))]) (O := [(true, (.row (rowOf strC ss) opn fz false))]) (ps := [∀ cf h, doX tabK cf (.bin false .lss 3 (.int .i64 (.ofNat i)) (.int .i64 (.ofNat ss.length))) h = some ((.bool true), none), ∀ cf h, doX tabK cf (.indexAddr 56 (.slice 15 0 ss.length cp) (.int .i64 (.ofNat i))) h = some ((.ptr 15 i), none), ∀ cf, doX tabK cf (.load 9 (.ptr 15 i)) (j_l1_h0 ss opn fz cp i n x) = some ((.str x), none), ∀ cf h, doX tabK cf (.bin true .add 3 (.int .i64 (.ofNat 8)) (.int .i64 (.ofNat x.length))) h = some ((.int .i64 (.ofNat (8 + x.length))), none), ∀ cf h, doX tabK cf (.bin false .add 3 (.int .i64 (.ofNat n)) (.int .i64 (.ofNat (8 + x.length)))) h = some ((.int .i64 (.ofNat (n + (8 + x.length)))), none), ∀ cf h, doX tabK cf (.bin true .add 3 (.int .i64 (.ofNat i)) (.int .i64 (.ofNat 1))) h = some ((.int .i64 (.ofNat (i + 1))), none)]) ?_ ?_ ?_ ?_ ?_ ?_ ?_
  · kernel_rfl
  · exact ⟨vc_lss_t (by omega), vc_ia (b := Nat.blt i ss.length) (q := 0 + i * 1) (q' := i) (fun _ _ => by kernel_rfl) (blt_of (by omega)) (by omega), vc_eq2 ((rowOf strC ss)[i]?) (fun _ => by kernel_rfl) (rowOf_get (f := AV.str) hx), vc_add (by omega) (by omega), vc_add (by omega) (by omega), vc_add (by omega) (by omega), trivial⟩
  · exact ⟨rfl, rfl, rfl, rfl, rfl, trivial⟩
  · exact ⟨rowOf_plain (fun _ => rfl) _, trivial⟩
  · kernel_rfl
  · exact Nat.le_of_ble_eq_true rfl
  · exact Nat.le_of_ble_eq_true rfl
theorem j_e1 (ss : List (List UInt8)) (opn : Bool) (fz : Nat) (cp : Cap) (i : Nat) (n : Nat) (hi : i = ss.length) : Leads tabK 60 (lft (lft (rgt (lft (rgt (rgt (bodyOf Go.Proofs.Tryz.f14))))))) 6 5 45 ⟨[(0, (.slice 15 0 ss.length cp)), (3, (.int .i64 (.ofNat n))), (9, (.slice 15 0 ss.length cp)), (10, (.int .i64 (.ofNat ss.length))), (11, (.int .i64 (.ofNat i)))], [(.row (rowOf strC ss) opn fz false)]⟩ (.exit 0) ⟨[(0, (.slice 15 0 ss.length cp)), (3, (.int .i64 (.ofNat n)))], [(.row (rowOf strC ss) opn fz false)]⟩ [15] := by
  refine Leads.ofC (H := [(3, [(0, (1, (.bool false), none))])]) (L := [(false, 0, (.slice 15 0 ss.length cp)), (true, 3, (.int .i64 (.ofNat n)))]) (O := [(true, (.row (rowOf strC ss) opn fz false))]) (ps := [∀ cf h, doX tabK cf (.bin false .lss 3 (.int .i64 (.ofNat i)) (.int .i64 (.ofNat ss.length))) h = some ((.bool false), none)]) ?_ ?_ ?_ ?_ ?_ ?_ ?_
  · kernel_rfl
  · exact ⟨vc_lss_f (by omega), trivial⟩
  · exact ⟨rfl, rfl, trivial⟩
  · exact ⟨rowOf_plain (fun _ => rfl) _, trivial⟩
  · kernel_rfl
  · exact Nat.le_of_ble_eq_true rfl
  · exact Nat.le_of_ble_eq_true rfl
noncomputable def j_p2_h0 (ss : List (List UInt8)) (opn : Bool) (fz : Nat) (cp : Cap) (m : Nat) : AHeap := heapL 15 5 [(.row (rowOf strC ss) opn fz false)]
noncomputable def j_p2_h1 (ss : List (List UInt8)) (opn : Bool) (fz : Nat) (cp : Cap) (m : Nat) : AHeap := AHeap.push (j_p2_h0 ss opn fz cp m) (.row (padB m []) false 0 true)
noncomputable def j_p2_h2 (ss : List (List UInt8)) (opn : Bool) (fz : Nat) (cp : Cap) (m : Nat) : AHeap := AHeap.put (j_p2_h1 ss opn fz cp m) 16 (.row (padB m (([]) ++ (numL (.ofNat ss.length)))) false 0 true)
theorem j_p2 (ss : List (List UInt8)) (opn : Bool) (fz : Nat) (cp : Cap) (m : Nat) (hm : 8 ≤ m ∧ m ≤ 1099511627800) : Leads tabK 60 (takeSeq 2 (rgt (rgt (rgt (bodyOf Go.Proofs.Tryz.f14))))) 6 5 45 ⟨[(0, (.slice 15 0 ss.length cp)), (3, (.int .i64 (.ofNat m)))], [(.row (rowOf strC ss) opn fz false)]⟩ (.normal) ⟨[(0, (.slice 15 0 ss.length cp)), (6, (.slice 16 0 ((([]) ++ (numL (.ofNat ss.length))).length) (.ex m)))], [(.row (rowOf strC ss) opn fz false), (.row (padB m (([]) ++ (numL (.ofNat ss.length)))) false 0 true)]⟩ [15, 16] := by
  refine Leads.ofC (H := [(7, [(1, (2, (.slice 16 0 0 (.ex m)), some (j_p2_h1 ss opn fz cp m)))]), (8, [(4, (2, (.slice 16 0 ((([]) ++ (numL (.ofNat ss.length))).length) (.ex m)), some (j_p2_h2 ss opn fz cp m)))])]) (L := [(false, 0, (.slice 15 0 ss.length cp)), (false, 6, (.slice 16 0 ((([]) ++ (numL (.ofNat ss.length))).length) (.ex m)))]) (O := [(true, (.row (rowOf strC ss) opn fz false)), (true, (.row (padB m (([]) ++ (numL (.ofNat ss.length)))) false 0 true))]) (ps := [∀ cf, doX tabK cf (.makeSlice 61 (.int .i64 (.ofNat 0)) (.int .i64 (.ofNat m))) (j_p2_h0 ss opn fz cp m) = some ((.slice 16 0 0 (.ex m)), some (j_p2_h1 ss opn fz cp m)), ∀ cf, doX tabK cf (.builtin .append [61, 9] [(.slice 16 0 0 (.ex m)), (.str (numL (.ofNat ss.length)))]) (j_p2_h1 ss opn fz cp m) = some ((.slice 16 0 ((([]) ++ (numL (.ofNat ss.length))).length) (.ex m)), some (j_p2_h2 ss opn fz cp m))]) ?_ ?_ ?_ ?_ ?_ ?_ ?_
  · kernel_rfl
  · exact ⟨make_bytes (T := tabK) (ti := ty61) (te := ty6) (by kernel_rfl) rfl (by kernel_rfl) rfl rfl rfl (by omega) (blt_lt (by kernel_rfl)) (by kernel_rfl), append_ex (out := []) (s := numL (.ofNat ss.length)) (m := m) (T := tabK) (ti := ty61) (te := ty6) (tx := ty9) (by kernel_rfl) rfl (by kernel_rfl) rfl rfl (by kernel_rfl) (by intro k h; cases h) (by kernel_rfl) (Nat.succ_pos _) (by (try simp only [List.length_append, List.length_cons, List.length_nil, numL_len] at *); omega) rfl, trivial⟩
  · exact ⟨rfl, rfl, trivial⟩
  · exact ⟨rowOf_plain (fun _ => rfl) _, padB_plain _ _, trivial⟩
  · kernel_rfl
  · exact Nat.le_of_ble_eq_true rfl
  · exact Nat.le_of_ble_eq_true rfl
theorem j_p3 (ss : List (List UInt8)) (opn : Bool) (fz : Nat) (cp : Cap) (m : Nat) (out : List UInt8)  : Leads tabK 60 (takeSeq 1 (lft (rgt (rgt (rgt (rgt (rgt (bodyOf Go.Proofs.Tryz.f14)))))))) 6 5 45 ⟨[(0, (.slice 15 0 ss.length cp)), (6, (.slice 16 0 out.length (.ex m)))], [(.row (rowOf strC ss) opn fz false), (.row (padB m out) false 0 true)]⟩ (.normal) ⟨[(6, (.slice 15 0 out.length (.ex m))), (28, (.slice 16 0 ss.length cp)), (29, (.int .i64 (.ofNat ss.length))), (30, (.int .i64 (.ofNat 0)))], [(.row (padB m out) false 0 true), (.row (rowOf strC ss) opn fz false)]⟩ [16, 15] := by
  refine Leads.ofC (H := []) (L := [(false, 6, (.slice 15 0 out.length (.ex m))), (false, 28, (.slice 16 0 ss.length cp)), (true, 29, (.int .i64 (.ofNat ss.length))), (true, 30, (.int .i64 (.ofNat 0)))]) (O := [(true, (.row (padB m out) false 0 true)), (true, (.row (rowOf strC ss) opn fz false))]) (ps := []) ?_ ?_ ?_ ?_ ?_ ?_ ?_
  · kernel_rfl
  · exact trivial
  · exact ⟨rfl, rfl, rfl, rfl, trivial⟩
  · exact ⟨padB_plain _ _, rowOf_plain (fun _ => rfl) _, trivial⟩
  · kernel_rfl
  · exact Nat.le_of_ble_eq_true rfl
  · exact Nat.le_of_ble_eq_true rfl
noncomputable def j_l2_h0 (ss : List (List UInt8)) (opn : Bool) (fz : Nat) (cp : Cap) (m : Nat) (out : List UInt8) (i : Nat) (c : UInt8) (s : List UInt8) : AHeap := heapL 15 5 [(.row (padB m out) false 0 true), (.row (rowOf strC ss) opn fz false)]
noncomputable def j_l2_h1 (ss : List (List UInt8)) (opn : Bool) (fz : Nat) (cp : Cap) (m : Nat) (out : List UInt8) (i : Nat) (c : UInt8) (s : List UInt8) : AHeap := AHeap.put (j_l2_h0 ss opn fz cp m out i c s) 15 (.row (padB m (out ++ (numL (.ofNat (c :: s).length)))) false 0 true)
noncomputable def j_l2_h2 (ss : List (List UInt8)) (opn : Bool) (fz : Nat) (cp : Cap) (m : Nat) (out : List UInt8) (i : Nat) (c : UInt8) (s : List UInt8) : AHeap := AHeap.put (j_l2_h1 ss opn fz cp m out i c s) 15 (.row (padB m ((out ++ numL (.ofNat (c :: s).length)) ++ (c :: s))) false 0 true)
theorem j_l2 (ss : List (List UInt8)) (opn : Bool) (fz : Nat) (cp : Cap) (m : Nat) (out : List UInt8) (i : Nat) (c : UInt8) (s : List UInt8) (hi : i < ss.length) (hl : ss.length < 4611686018427387904) (hx : ss[i]? = some (c :: s)) (hm : out.length + (8 + (c :: s).length) ≤ m) : Leads tabK 60 (lft (lft (rgt (lft (rgt (rgt (rgt (rgt (rgt (bodyOf Go.Proofs.Tryz.f14)))))))))) 6 5 45 ⟨[(6, (.slice 15 0 out.length (.ex m))), (28, (.slice 16 0 ss.length cp)), (29, (.int .i64 (.ofNat ss.length))), (30, (.int .i64 (.ofNat i)))], [(.row (padB m out) false 0 true), (.row (rowOf strC ss) opn fz false)]⟩ (.normal) ⟨[(6, (.slice 15 0 (((out ++ numL (.ofNat (c :: s).length)) ++ (c :: s)).length) (.ex m))), (28, (.slice 16 0 ss.length cp)), (29, (.int .i64 (.ofNat ss.length))), (30, (.int .i64 (.ofNat (i + 1))))], [(.row (padB m ((out ++ numL (.ofNat (c :: s).length)) ++ (c :: s))) false 0 true), (.row (rowOf strC ss) opn fz false)]⟩ [15, 16] := by
  refine Leads.ofC (H := [(10, [(0, (1, (.bool true), none))]), (11, [(0, (1, (.ptr 16 i), none)), (1, (2, (.str (c :: s)), none))]), (12, [(4, (2, (.slice 15 0 ((out ++ (numL (.ofNat (c :: s).length))).length) (.ex m)), some (j_l2_h1 ss opn fz cp m out i c s)))]), (13, [(2, (2, (.slice 15 0 (((out ++ numL (.ofNat (c :: s).length)) ++ (c :: s)).length) (.ex m)), some (j_l2_h2 ss opn fz cp m out i c s)))]), (14, [(0, (1, (.int .i64 (.ofNat (i + 1))), none))])]) (L := [(false, 6, (.slice 15 0 (((out ++ numL (.ofNat (c :: s).length)) ++ (c :: s)).length) (.ex m))), (false, 28, (.slice 16 0 ss.length cp)), (true, 29, (.int .i64 (.ofNat ss.length))), (true, 30, (.int .i64 (.ofNat (i + 1))))]) (O := [(true, (.row (padB m ((out ++ numL (.ofNat (c :: s).length)) ++ (c :: s))) false 0 true)), (true, (.row (rowOf strC ss) opn fz false))]) (ps := [∀ cf h, doX tabK cf (.bin false .lss 3 (.int .i64 (.ofNat i)) (.int .i64 (.ofNat ss.length))) h = some ((.bool true), none), ∀ cf h, doX tabK cf (.indexAddr 56 (.slice 16 0 ss.length cp) (.int .i64 (.ofNat i))) h = some ((.ptr 16 i), none), ∀ cf, doX tabK cf (.load 9 (.ptr 16 i)) (j_l2_h0 ss opn fz cp m out i c s) = some ((.str (c :: s)), none), ∀ cf, doX tabK cf (.builtin .append [61, 9] [(.slice 15 0 out.length (.ex m)), (.str (numL (.ofNat ((c :: s).length))))]) (j_l2_h0 ss opn fz cp m out i c s) = some ((.slice 15 0 ((out ++ (numL (.ofNat (c :: s).length))).length) (.ex m)), some (j_l2_h1 ss opn fz cp m out i c s)), ∀ cf, doX tabK cf (.builtin .append [61, 9] [(.slice 15 0 ((out ++ (numL (.ofNat (c :: s).length))).length) (.ex m)), (.str (c :: s))]) (j_l2_h1 ss opn fz cp m out i c s) = some ((.slice 15 0 (((out ++ numL (.ofNat (c :: s).length)) ++ (c :: s)).length) (.ex m)), some (j_l2_h2 ss opn fz cp m out i c s)), ∀ cf h, doX tabK cf (.bin true .add 3 (.int .i64 (.ofNat i)) (.int .i64 (.ofNat 1))) h = some ((.int .i64 (.ofNat (i + 1))), none)]) ?_ ?_ ?_ ?_ ?_ ?_ ?_
  · kernel_rfl
  · exact ⟨vc_lss_t (by omega), vc_ia (b := Nat.blt i ss.length) (q := 0 + i * 1) (q' := i) (fun _ _ => by kernel_rfl) (blt_of (by omega)) (by omega), vc_eq2 ((rowOf strC ss)[i]?) (fun _ => by kernel_rfl) (rowOf_get (f := AV.str) hx), append_ex (out := out) (s := numL (.ofNat (c :: s).length)) (m := m) (T := tabK) (ti := ty61) (te := ty6) (tx := ty9) (by kernel_rfl) rfl (by kernel_rfl) rfl rfl (by kernel_rfl) (by intro k h; cases h) (by kernel_rfl) (Nat.succ_pos _) (by (try simp only [List.length_append, List.length_cons, List.length_nil, numL_len] at *); omega) rfl, append_ex (out := out ++ numL (.ofNat (c :: s).length)) (s := c :: s) (m := m) (T := tabK) (ti := ty61) (te := ty6) (tx := ty9) (by kernel_rfl) rfl (by kernel_rfl) rfl rfl (by kernel_rfl) (by intro k h; cases h) (by kernel_rfl) (Nat.succ_pos _) (by (try simp only [List.length_append, List.length_cons, List.length_nil, numL_len] at *); omega) rfl, vc_add (by omega) (by omega), trivial⟩
  · exact ⟨rfl, rfl, rfl, rfl, trivial⟩
  · exact ⟨padB_plain _ _, rowOf_plain (fun _ => rfl) _, trivial⟩
  · kernel_rfl
  · exact Nat.le_of_ble_eq_true rfl
  · exact Nat.le_of_ble_eq_true rfl
noncomputable def j_l20_h0 (ss : List (List UInt8)) (opn : Bool) (fz : Nat) (cp : Cap) (m : Nat) (out : List UInt8) (i : Nat) : AHeap := heapL 15 5 [(.row (padB m out) false 0 true), (.row (rowOf strC ss) opn fz false)]
noncomputable def j_l20_h1 (ss : List (List UInt8)) (opn : Bool) (fz : Nat) (cp : Cap) (m : Nat) (out : List UInt8) (i : Nat) : AHeap := AHeap.put (j_l20_h0 ss opn fz cp m out i) 15 (.row (padB m (out ++ (numL (.ofNat 0)))) false 0 true)
theorem j_l20 (ss : List (List UInt8)) (opn : Bool) (fz : Nat) (cp : Cap) (m : Nat) (out : List UInt8) (i : Nat) (hi : i < ss.length) (hl : ss.length < 4611686018427387904) (hx : ss[i]? = some []) (hm : out.length + 8 ≤ m) : Leads tabK 60 (lft (lft (rgt (lft (rgt (rgt (rgt (rgt (rgt (bodyOf Go.Proofs.Tryz.f14)))))))))) 6 5 45 ⟨[(6, (.slice 15 0 out.length (.ex m))), (28, (.slice 16 0 ss.length cp)), (29, (.int .i64 (.ofNat ss.length))), (30, (.int .i64 (.ofNat i)))], [(.row (padB m out) false 0 true), (.row (rowOf strC ss) opn fz false)]⟩ (.normal) ⟨[(6, (.slice 15 0 ((out ++ (numL (.ofNat 0))).length) (.ex m))), (28, (.slice 16 0 ss.length cp)), (29, (.int .i64 (.ofNat ss.length))), (30, (.int .i64 (.ofNat (i + 1))))], [(.row (padB m (out ++ (numL (.ofNat 0)))) false 0 true), (.row (rowOf strC ss) opn fz false)]⟩ [15, 16] := by
  refine Leads.ofC (H := [(10, [(0, (1, (.bool true), none))]), (11, [(0, (1, (.ptr 16 i), none)), (1, (2, (.str []), none))]), (12, [(4, (2, (.slice 15 0 ((out ++ (numL (.ofNat 0))).length) (.ex m)), some (j_l20_h1 ss opn fz cp m out i)))]), (14, [(0, (1, (.int .i64 (.ofNat (i + 1))), none))])]) (L := [(false, 6, (.slice 15 0 ((out ++ (numL (.ofNat 0))).length) (.ex m))), (false, 28, (.slice 16 0 ss.length cp)), (true, 29, (.int .i64 (.ofNat ss.length))), (true, 30, (.int .i64 (.ofNat (i + 1))))]) (O := [(true, (.row (padB m (out ++ (numL (.ofNat 0)))) false 0 true)), (true, (.row (rowOf strC ss) opn fz false))]) (ps := [∀ cf h, doX tabK cf (.bin false .lss 3 (.int .i64 (.ofNat i)) (.int .i64 (.ofNat ss.length))) h = some ((.bool true), none), ∀ cf h, doX tabK cf (.indexAddr 56 (.slice 16 0 ss.length cp) (.int .i64 (.ofNat i))) h = some ((.ptr 16 i), none), ∀ cf, doX tabK cf (.load 9 (.ptr 16 i)) (j_l20_h0 ss opn fz cp m out i) = some ((.str []), none), ∀ cf, doX tabK cf (.builtin .append [61, 9] [(.slice 15 0 out.length (.ex m)), (.str [0, 0, 0, 0, 0, 0, 0, 0])]) (j_l20_h0 ss opn fz cp m out i) = some ((.slice 15 0 ((out ++ (numL (.ofNat 0))).length) (.ex m)), some (j_l20_h1 ss opn fz cp m out i)), ∀ cf h, doX tabK cf (.bin true .add 3 (.int .i64 (.ofNat i)) (.int .i64 (.ofNat 1))) h = some ((.int .i64 (.ofNat (i + 1))), none)]) ?_ ?_ ?_ ?_ ?_ ?_ ?_
  · kernel_rfl
  · exact ⟨vc_lss_t (by omega), vc_ia (b := Nat.blt i ss.length) (q := 0 + i * 1) (q' := i) (fun _ _ => by kernel_rfl) (blt_of (by omega)) (by omega), vc_eq2 ((rowOf strC ss)[i]?) (fun _ => by kernel_rfl) (rowOf_get (f := AV.str) hx), append_ex (out := out) (s := numL (.ofNat 0)) (m := m) (T := tabK) (ti := ty61) (te := ty6) (tx := ty9) (by kernel_rfl) rfl (by kernel_rfl) rfl rfl (by kernel_rfl) (by intro k h; cases h) (by kernel_rfl) (Nat.succ_pos _) (by (try simp only [List.length_append, List.length_cons, List.length_nil, numL_len] at *); omega) rfl, vc_add (by omega) (by omega), trivial⟩
  · exact ⟨rfl, rfl, rfl, rfl, trivial⟩
  · exact ⟨padB_plain _ _, rowOf_plain (fun _ => rfl) _, trivial⟩
  · kernel_rfl
  · exact Nat.le_of_ble_eq_true rfl
  · exact Nat.le_of_ble_eq_true rfl
theorem j_e2 (ss : List (List UInt8)) (opn : Bool) (fz : Nat) (cp : Cap) (m : Nat) (out : List UInt8) (i : Nat) (hi : i = ss.length) : Leads tabK 60 (lft (lft (rgt (lft (rgt (rgt (rgt (rgt (rgt (bodyOf Go.Proofs.Tryz.f14)))))))))) 6 5 45 ⟨[(6, (.slice 15 0 out.length (.ex m))), (28, (.slice 16 0 ss.length cp)), (29, (.int .i64 (.ofNat ss.length))), (30, (.int .i64 (.ofNat i)))], [(.row (padB m out) false 0 true), (.row (rowOf strC ss) opn fz false)]⟩ (.exit 2) ⟨[(6, (.slice 15 0 out.length (.ex m)))], [(.row (padB m out) false 0 true)]⟩ [15] := by
  refine Leads.ofC (H := [(10, [(0, (1, (.bool false), none))])]) (L := [(false, 6, (.slice 15 0 out.length (.ex m)))]) (O := [(true, (.row (padB m out) false 0 true))]) (ps := [∀ cf h, doX tabK cf (.bin false .lss 3 (.int .i64 (.ofNat i)) (.int .i64 (.ofNat ss.length))) h = some ((.bool false), none)]) ?_ ?_ ?_ ?_ ?_ ?_ ?_
  · kernel_rfl
  · exact ⟨vc_lss_f (by omega), trivial⟩
  · exact ⟨rfl, trivial⟩
  · exact ⟨padB_plain _ _, trivial⟩
  · kernel_rfl
  · exact Nat.le_of_ble_eq_true rfl
  · exact Nat.le_of_ble_eq_true rfl
noncomputable def j_p4_h0 (ss : List (List UInt8)) (opn : Bool) (fz : Nat) (cp : Cap) (m : Nat) (out : List UInt8) : AHeap := heapL 15 5 [(.row (padB m out) false 0 true)]
theorem j_p4 (ss : List (List UInt8)) (opn : Bool) (fz : Nat) (cp : Cap) (m : Nat) (out : List UInt8) (hm : out.length ≤ m) : Leads tabK 60 (rgt (rgt (rgt (rgt (rgt (rgt (bodyOf Go.Proofs.Tryz.f14))))))) 6 5 45 ⟨[(6, (.slice 15 0 out.length (.ex m)))], [(.row (padB m out) false 0 true)]⟩ (.ret) ⟨[(2, (.str out))], []⟩ [] := by
  refine Leads.ofC (H := [(15, [(1, (2, (.str out), none))])]) (L := [(true, 2, (.str out))]) (O := []) (ps := [∀ cf, doX tabK cf (.conv 61 9 (.slice 15 0 out.length (.ex m))) (j_p4_h0 ss opn fz cp m out) = some ((.str out), none)]) ?_ ?_ ?_ ?_ ?_ ?_ ?_
  · kernel_rfl
  · exact ⟨convert_pad (opn := false) (fz := 0) (wr := true) (T := tabK) (ti := ty61) (te := ty6) (td := ty9) (by kernel_rfl) rfl (by kernel_rfl) rfl (by kernel_rfl) rfl (by kernel_rfl) hm, trivial⟩
  · exact ⟨rfl, trivial⟩
  · exact trivial
  · kernel_rfl
  · exact Nat.le_of_ble_eq_true rfl
  · exact Nat.le_of_ble_eq_true rfl
theorem j_nil   : Leads tabK 60 (bodyOf Go.Proofs.Tryz.f14) 6 5 45 ⟨[(0, .nilslice)], []⟩ (.ret) ⟨[(2, (.str [0, 0, 0, 0, 0, 0, 0, 0]))], []⟩ [] := by
  refine Leads.ofC (H := []) (L := [(true, 2, (.str [0, 0, 0, 0, 0, 0, 0, 0]))]) (O := []) (ps := []) ?_ ?_ ?_ ?_ ?_ ?_ ?_
  · kernel_rfl
  · exact trivial
  · exact ⟨rfl, trivial⟩
  · exact trivial
  · kernel_rfl
  · exact Nat.le_of_ble_eq_true rfl
  · exact Nat.le_of_ble_eq_true rfl
theorem r_p0 (ss : List (List UInt8)) (opn : Bool) (fz : Nat) (cp : Cap)  : Leads tabK 60 (takeSeq 2 (bodyOf Go.Proofs.Tryz.f16)) 5 5 24 ⟨[(0, (.slice 15 0 ss.length cp))], [(.row (rowOf strC ss) opn fz false)]⟩ (.normal) ⟨[(0, (.slice 15 0 ss.length cp)), (3, (.str (numR (.ofNat ss.length))))], [(.row (rowOf strC ss) opn fz false)]⟩ [15] := by
  refine Leads.ofC (H := []) (L := [(false, 0, (.slice 15 0 ss.length cp)), (true, 3, (.str (numR (.ofNat ss.length))))]) (O := [(true, (.row (rowOf strC ss) opn fz false))]) (ps := []) ?_ ?_ ?_ ?_ ?_ ?_ ?_
  · kernel_rfl
  · exact trivial
  · exact ⟨rfl, rfl, trivial⟩
  · exact ⟨rowOf_plain (fun _ => rfl) _, trivial⟩
  · kernel_rfl
  · exact Nat.le_of_ble_eq_true rfl
  · exact Nat.le_of_ble_eq_true rfl
theorem r_p1 (ss : List (List UInt8)) (opn : Bool) (fz : Nat) (cp : Cap) (out : List UInt8)  : Leads tabK 60 (takeSeq 1 (lft (rgt (rgt (bodyOf Go.Proofs.Tryz.f16))))) 5 5 24 ⟨[(0, (.slice 15 0 ss.length cp)), (3, (.str out))], [(.row (rowOf strC ss) opn fz false)]⟩ (.normal) ⟨[(3, (.str out)), (9, (.slice 15 0 ss.length cp)), (10, (.int .i64 (.ofNat ss.length))), (11, (.int .i64 (.ofNat 0)))], [(.row (rowOf strC ss) opn fz false)]⟩ [15] := by
  refine Leads.ofC (H := []) (L := [(true, 3, (.str out)), (false, 9, (.slice 15 0 ss.length cp)), (true, 10, (.int .i64 (.ofNat ss.length))), (true, 11, (.int .i64 (.ofNat 0)))]) (O := [(true, (.row (rowOf strC ss) opn fz false))]) (ps := []) ?_ ?_ ?_ ?_ ?_ ?_ ?_
  · kernel_rfl
  · exact trivial
  · exact ⟨rfl, rfl, rfl, rfl, trivial⟩
  · exact ⟨rowOf_plain (fun _ => rfl) _, trivial⟩
  · kernel_rfl
  · exact Nat.le_of_ble_eq_true rfl
  · exact Nat.le_of_ble_eq_true rfl
noncomputable def r_l1_h0 (ss : List (List UInt8)) (opn : Bool) (fz : Nat) (cp : Cap) (out : List UInt8) (i : Nat) (x : List UInt8) : AHeap := heapL 15 5 [(.row (rowOf strC ss) opn fz false)]
theorem r_l1 (ss : List (List UInt8)) (opn : Bool) (fz : Nat) (cp : Cap) (out : List UInt8) (i : Nat) (x : List UInt8) (hi : i < ss.length) (hl : ss.length < 4611686018427387904) (hx : ss[i]? = some x) (hn : out.length + (8 + x.length) ≤ 1152921504606846976) : Leads tabK 60 (lft (lft (rgt (lft (rgt (rgt (bodyOf Go.Proofs.Tryz.f16))))))) 5 5 24 ⟨[(3, (.str out)), (9, (.slice 15 0 ss.length cp)), (10, (.int .i64 (.ofNat ss.length))), (11, (.int .i64 (.ofNat i)))], [(.row (rowOf strC ss) opn fz false)]⟩ (.normal) ⟨[(3, (.str ((out ++ (numR (.ofNat x.length))) ++ x))), (9, (.slice 15 0 ss.length cp)), (10, (.int .i64 (.ofNat ss.length))), (11, (.int .i64 (.ofNat (i + 1))))], [(.row (rowOf strC ss) opn fz false)]⟩ [15] := by
  refine Leads.ofC (H := [(3, [(0, (1, (.bool true), none))]), (4, [(0, (1, (.ptr 15 i), none)), (1, (2, (.str x), none))]), (5, [(4, (1, (.str (out ++ (numR (.ofNat x.length)))), none)), (6, (1, (.str ((out ++ (numR (.ofNat x.length))) ++ x)), none))]), (6, [(0, (1, (.int .i64 (.ofNat (i + 1))), none))])]) (L := [(true, 3, (.str ((out ++ (numR (.ofNat x.length))) ++ x))), (false, 9, (.slice 15 0 ss.length cp)), (true, 10, (.int .i64 (.ofNat ss.length))), (true, 11, (.int .i64 (.ofNat (i + 1))))]) (O := [(true, (.row (rowOf strC ss) opn fz false))]) (ps := [∀ cf h, doX tabK cf (.bin false .lss 3 (.int .i64 (.ofNat i)) (.int .i64 (.ofNat ss.length))) h = some ((.bool true), none), ∀ cf h, doX tabK cf (.indexAddr 56 (.slice 15 0 ss.length cp) (.int .i64 (.ofNat i))) h = some ((.ptr 15 i), none), ∀ cf, doX tabK cf (.load 9 (.ptr 15 i)) (r_l1_h0 ss opn fz cp out i x) = some ((.str x), none), ∀ cf h, doX tabK cf (.bin false .add 9 (.str out) (.str (numR (.ofNat x.length)))) h = some ((.str (out ++ (numR (.ofNat x.length)))), none), ∀ cf h, doX tabK cf (.bin false .add 9 (.str (out ++ (numR (.ofNat x.length)))) (.str x)) h = some ((.str ((out ++ (numR (.ofNat x.length))) ++ x)), none), ∀ cf h, doX tabK cf (.bin true .add 3 (.int .i64 (.ofNat i)) (.int .i64 (.ofNat 1))) h = some ((.int .i64 (.ofNat (i + 1))), none)]) ?_ ?_ ?_ ?_ ?_ ?_ ?_
  · kernel_rfl
  · exact ⟨vc_lss_t (by omega), vc_ia (b := Nat.blt i ss.length) (q := 0 + i * 1) (q' := i) (fun _ _ => by kernel_rfl) (blt_of (by omega)) (by omega), vc_eq2 ((rowOf strC ss)[i]?) (fun _ => by kernel_rfl) (rowOf_get (f := AV.str) hx), vc_cat (by unfold strMax; (try simp only [List.length_append, List.length_cons, List.length_nil, numL_len, numR_len] at *); omega) rfl, vc_cat (by unfold strMax; (try simp only [List.length_append, List.length_cons, List.length_nil, numL_len, numR_len] at *); omega) rfl, vc_add (by omega) (by omega), trivial⟩
  · exact ⟨rfl, rfl, rfl, rfl, trivial⟩
  · exact ⟨rowOf_plain (fun _ => rfl) _, trivial⟩
  · kernel_rfl
  · exact Nat.le_of_ble_eq_true rfl
  · exact Nat.le_of_ble_eq_true rfl
theorem r_e1 (ss : List (List UInt8)) (opn : Bool) (fz : Nat) (cp : Cap) (out : List UInt8) (i : Nat) (hi : i = ss.length) : Leads tabK 60 (lft (lft (rgt (lft (rgt (rgt (bodyOf Go.Proofs.Tryz.f16))))))) 5 5 24 ⟨[(3, (.str out)), (9, (.slice 15 0 ss.length cp)), (10, (.int .i64 (.ofNat ss.length))), (11, (.int .i64 (.ofNat i)))], [(.row (rowOf strC ss) opn fz false)]⟩ (.exit 0) ⟨[(3, (.str out))], []⟩ [] := by
  refine Leads.ofC (H := [(3, [(0, (1, (.bool false), none))])]) (L := [(true, 3, (.str out))]) (O := []) (ps := [∀ cf h, doX tabK cf (.bin false .lss 3 (.int .i64 (.ofNat i)) (.int .i64 (.ofNat ss.length))) h = some ((.bool false), none)]) ?_ ?_ ?_ ?_ ?_ ?_ ?_
  · kernel_rfl
  · exact ⟨vc_lss_f (by omega), trivial⟩
  · exact ⟨rfl, trivial⟩
  · exact trivial
  · kernel_rfl
  · exact Nat.le_of_ble_eq_true rfl
  · exact Nat.le_of_ble_eq_true rfl
theorem r_p2 (out : List UInt8)  : Leads tabK 60 (rgt (rgt (rgt (bodyOf Go.Proofs.Tryz.f16)))) 5 5 24 ⟨[(3, (.str out))], []⟩ (.ret) ⟨[(2, (.str out))], []⟩ [] := by
  refine Leads.ofC (H := []) (L := [(true, 2, (.str out))]) (O := []) (ps := []) ?_ ?_ ?_ ?_ ?_ ?_ ?_
  · kernel_rfl
  · exact trivial
  · exact ⟨rfl, trivial⟩
  · exact trivial
  · kernel_rfl
  · exact Nat.le_of_ble_eq_true rfl
  · exact Nat.le_of_ble_eq_true rfl
theorem r_nil   : Leads tabK 60 (bodyOf Go.Proofs.Tryz.f16) 5 5 24 ⟨[(0, .nilslice)], []⟩ (.ret) ⟨[(2, (.str [0, 0, 0, 0, 0, 0, 0, 0]))], []⟩ [] := by
  refine Leads.ofC (H := []) (L := [(true, 2, (.str [0, 0, 0, 0, 0, 0, 0, 0]))]) (O := []) (ps := []) ?_ ?_ ?_ ?_ ?_ ?_ ?_
  · kernel_rfl
  · exact trivial
  · exact ⟨rfl, trivial⟩
  · exact trivial
  · kernel_rfl
  · exact Nat.le_of_ble_eq_true rfl
  · exact Nat.le_of_ble_eq_true rfl
end Go.Proofs.YtmlipbpbbjkigaaGreatDoor
