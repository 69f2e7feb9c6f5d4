/- The pieces of inputs, run with symbolic leaves. Written by walk3b.py. -/
import Derived.Test.YtmlipbpbbjkigaaGreatDoorTX
set_option linter.unusedVariables false
set_option linter.unusedSimpArgs false
namespace Go.Proofs.YtmlipbpbbjkigaaGreatDoor
open Go Go.Ev Go.Proofs
set_option maxRecDepth 100000
theorem i_p0 (xs : List InD) (opn : Bool) (fz : Nat) (cp : Cap)  : Leads tabV 60 (takeSeq 2 (bodyOf Go.Proofs.Tryz.f17)) 5 5 23 ⟨[(0, (.slice 15 0 xs.length cp))], [(.row (rowOf inC xs) opn fz false)]⟩ (.normal) ⟨[(0, (.slice 15 0 xs.length cp)), (3, .nilslice)], [(.row (rowOf inC xs) opn fz false)]⟩ [15] := by
  refine Leads.ofC (H := []) (L := [(false, 0, (.slice 15 0 xs.length cp)), (true, 3, .nilslice)]) (O := [(true, (.row (rowOf inC xs) opn fz false))]) (ps := []) ?_ ?_ ?_ ?_ ?_ ?_ ?_
  · kernel_rfl
  · exact trivial
  · exact ⟨rfl, rfl, trivial⟩
  · exact ⟨rowOf_plain inC_plain _, trivial⟩
  · kernel_rfl
  · exact Nat.le_of_ble_eq_true rfl
  · exact Nat.le_of_ble_eq_true rfl
theorem i_p1 (xs : List InD) (opn : Bool) (fz : Nat) (cp : Cap)  : Leads tabV 60 (takeSeq 1 (lft (rgt (rgt (bodyOf Go.Proofs.Tryz.f17))))) 5 5 23 ⟨[(0, (.slice 15 0 xs.length cp)), (3, .nilslice)], [(.row (rowOf inC xs) opn fz false)]⟩ (.normal) ⟨[(6, (.slice 15 0 xs.length cp)), (7, (.int .i64 (.ofNat xs.length))), (8, (.int .i64 (.ofNat 0))), (3, .nilslice)], [(.row (rowOf inC xs) opn fz false), .dead]⟩ [15, 0] := by
  refine Leads.ofC (H := []) (L := [(false, 6, (.slice 15 0 xs.length cp)), (true, 7, (.int .i64 (.ofNat xs.length))), (true, 8, (.int .i64 (.ofNat 0))), (true, 3, .nilslice)]) (O := [(true, (.row (rowOf inC xs) opn fz false)), (true, .dead)]) (ps := []) ?_ ?_ ?_ ?_ ?_ ?_ ?_
  · kernel_rfl
  · exact trivial
  · exact ⟨rfl, rfl, rfl, rfl, trivial⟩
  · exact ⟨rowOf_plain inC_plain _, trivial, trivial⟩
  · kernel_rfl
  · exact Nat.le_of_ble_eq_true rfl
  · exact Nat.le_of_ble_eq_true rfl
noncomputable def i_l0_h0 (xs : List InD) (opn : Bool) (fz : Nat) (cp : Cap) (i : Nat) (x : InD) : AHeap := heapL 15 5 [(.row (rowOf inC xs) opn fz false), .dead]
noncomputable def i_l0_h1 (xs : List InD) (opn : Bool) (fz : Nat) (cp : Cap) (i : Nat) (x : InD) : AHeap := AHeap.put (AHeap.push (i_l0_h0 xs opn fz cp i x) (.row [(.str []), (.int .u8 (.ofNat 0)), (.int .u8 (.ofNat 0)), (.int .u8 (.ofNat 0)), (.int .u8 (.ofNat 0)), (.int .u8 (.ofNat 0)), (.int .u8 (.ofNat 0)), (.int .u8 (.ofNat 0)), (.int .u8 (.ofNat 0)), (.int .u8 (.ofNat 0)), (.int .u8 (.ofNat 0)), (.int .u8 (.ofNat 0)), (.int .u8 (.ofNat 0)), (.int .u8 (.ofNat 0)), (.int .u8 (.ofNat 0)), (.int .u8 (.ofNat 0)), (.int .u8 (.ofNat 0)), (.int .u8 (.ofNat 0)), (.int .u8 (.ofNat 0)), (.int .u8 (.ofNat 0)), (.int .u8 (.ofNat 0)), (.int .u8 (.ofNat 0)), (.int .u8 (.ofNat 0)), (.int .u8 (.ofNat 0)), (.int .u8 (.ofNat 0)), (.int .u8 (.ofNat 0)), (.int .u8 (.ofNat 0)), (.int .u8 (.ofNat 0)), (.int .u8 (.ofNat 0)), (.int .u8 (.ofNat 0)), (.int .u8 (.ofNat 0)), (.int .u8 (.ofNat 0)), (.int .u8 (.ofNat 0))] false 0 true)) 17 (.row (inC x) false 0 true)
theorem i_l0 (xs : List InD) (opn : Bool) (fz : Nat) (cp : Cap) (i : Nat) (x : InD) (hi : i < xs.length) (hl : xs.length ≤ 1048576) (hx : xs[i]? = some x) : Leads tabV 60 (lft (lft (rgt (lft (rgt (rgt (bodyOf Go.Proofs.Tryz.f17))))))) 5 5 23 ⟨[(6, (.slice 15 0 xs.length cp)), (7, (.int .i64 (.ofNat xs.length))), (8, (.int .i64 (.ofNat i))), (3, .nilslice)], [(.row (rowOf inC xs) opn fz false), .dead]⟩ (.normal) ⟨[(6, (.slice 15 0 xs.length cp)), (7, (.int .i64 (.ofNat xs.length))), (8, (.int .i64 (.ofNat (i + 1)))), (3, (.slice 16 0 2 (.op 1)))], [(.row (rowOf inC xs) opn fz false), (.row [(.str x.path), (.str (idL x.id))] true 0 true)]⟩ [15, 19] := by
  refine Leads.ofC (H := [(3, [(0, (1, (.bool true), none))]), (4, [(0, (1, (.ptr 15 (i * 33)), none)), (1, (2, (.agg (inC x)), none))]), (5, [(5, (2, (.str (idL x.id)), none))]), (6, [(0, (1, (.int .i64 (.ofNat (i + 1))), none))])]) (L := [(false, 6, (.slice 15 0 xs.length cp)), (true, 7, (.int .i64 (.ofNat xs.length))), (true, 8, (.int .i64 (.ofNat (i + 1)))), (false, 3, (.slice 16 0 2 (.op 1)))]) (O := [(true, (.row (rowOf inC xs) opn fz false)), (true, (.row [(.str x.path), (.str (idL x.id))] true 0 true))]) (ps := [∀ cf h, doX tabV cf (.bin false .lss 3 (.int .i64 (.ofNat i)) (.int .i64 (.ofNat xs.length))) h = some ((.bool true), none), ∀ cf h, doX tabV cf (.indexAddr 24 (.slice 15 0 xs.length cp) (.int .i64 (.ofNat i))) h = some ((.ptr 15 (i * 33)), none), ∀ cf, doX tabV cf (.load 33 (.ptr 15 (i * 33))) (i_l0_h0 xs opn fz cp i x) = some ((.agg (inC x)), none), ∀ cf, doX tabV cf (.conv 61 9 (.slice 17 1 32 (.ex 32))) (i_l0_h1 xs opn fz cp i x) = some ((.str (idL x.id)), none), (.nilslice : AV) = .nilslice, ∀ cf h, doX tabV cf (.bin true .add 3 (.int .i64 (.ofNat i)) (.int .i64 (.ofNat 1))) h = some ((.int .i64 (.ofNat (i + 1))), none)]) ?_ ?_ ?_ ?_ ?_ ?_ ?_
  · kernel_rfl
  · exact ⟨vc_lss_t (by omega), vc_ia (b := Nat.blt i xs.length) (q := 0 + i * 33) (q' := i * 33) (fun _ _ => by kernel_rfl) (blt_of (by omega)) (by omega), vc_eq2 (ck (Nat.ble (i * 33 + 33) (rowOf inC xs).length) (some (.agg (takeAt (rowOf inC xs) (i * 33) 33)))) (fun _ => by kernel_rfl) (at_rowOf inC_len hx rfl), vc_eqr2 (ob (unbytesE (bytesE (idL x.id))) fun bs => okv (.str bs)) (fun _ => by kernel_rfl) (id_text _), rfl, vc_add (by omega) (by omega), trivial⟩
  · exact ⟨rfl, rfl, rfl, rfl, trivial⟩
  · exact ⟨rowOf_plain inC_plain _, rfl, trivial⟩
  · kernel_rfl
  · exact Nat.le_of_ble_eq_true rfl
  · exact Nat.le_of_ble_eq_true rfl
noncomputable def i_l1_h0 (xs : List InD) (opn : Bool) (fz : Nat) (cp : Cap) (i : Nat) (w : List UInt8) (ws : List (List UInt8)) (x : InD) : AHeap := heapL 15 5 [(.row (rowOf inC xs) opn fz false), (.row (rowOf strC (w :: ws)) true 0 true)]
noncomputable def i_l1_h1 (xs : List InD) (opn : Bool) (fz : Nat) (cp : Cap) (i : Nat) (w : List UInt8) (ws : List (List UInt8)) (x : InD) : AHeap := AHeap.put (AHeap.push (i_l1_h0 xs opn fz cp i w ws x) (.row [(.str []), (.int .u8 (.ofNat 0)), (.int .u8 (.ofNat 0)), (.int .u8 (.ofNat 0)), (.int .u8 (.ofNat 0)), (.int .u8 (.ofNat 0)), (.int .u8 (.ofNat 0)), (.int .u8 (.ofNat 0)), (.int .u8 (.ofNat 0)), (.int .u8 (.ofNat 0)), (.int .u8 (.ofNat 0)), (.int .u8 (.ofNat 0)), (.int .u8 (.ofNat 0)), (.int .u8 (.ofNat 0)), (.int .u8 (.ofNat 0)), (.int .u8 (.ofNat 0)), (.int .u8 (.ofNat 0)), (.int .u8 (.ofNat 0)), (.int .u8 (.ofNat 0)), (.int .u8 (.ofNat 0)), (.int .u8 (.ofNat 0)), (.int .u8 (.ofNat 0)), (.int .u8 (.ofNat 0)), (.int .u8 (.ofNat 0)), (.int .u8 (.ofNat 0)), (.int .u8 (.ofNat 0)), (.int .u8 (.ofNat 0)), (.int .u8 (.ofNat 0)), (.int .u8 (.ofNat 0)), (.int .u8 (.ofNat 0)), (.int .u8 (.ofNat 0)), (.int .u8 (.ofNat 0)), (.int .u8 (.ofNat 0))] false 0 true)) 17 (.row (inC x) false 0 true)
noncomputable def i_l1_h2 (xs : List InD) (opn : Bool) (fz : Nat) (cp : Cap) (i : Nat) (w : List UInt8) (ws : List (List UInt8)) (x : InD) : AHeap := AHeap.push (i_l1_h1 xs opn fz cp i w ws x) (.row [(.str x.path), (.str (idL x.id))] false 0 true)
noncomputable def i_l1_h3 (xs : List InD) (opn : Bool) (fz : Nat) (cp : Cap) (i : Nat) (w : List UInt8) (ws : List (List UInt8)) (x : InD) : AHeap := AHeap.push (AHeap.put (i_l1_h2 xs opn fz cp i w ws x) 16 .dead) (.row (rowOf strC ((w :: ws) ++ [x.path, idL x.id])) true 0 true)
theorem i_l1 (xs : List InD) (opn : Bool) (fz : Nat) (cp : Cap) (i : Nat) (w : List UInt8) (ws : List (List UInt8)) (x : InD) (hi : i < xs.length) (hl : xs.length ≤ 1048576) (hx : xs[i]? = some x) (hw : (w :: ws).length ≤ 1099511627) : Leads tabV 60 (lft (lft (rgt (lft (rgt (rgt (bodyOf Go.Proofs.Tryz.f17))))))) 5 5 23 ⟨[(6, (.slice 15 0 xs.length cp)), (7, (.int .i64 (.ofNat xs.length))), (8, (.int .i64 (.ofNat i))), (3, (.slice 16 0 ((w :: ws).length) (.op 1)))], [(.row (rowOf inC xs) opn fz false), (.row (rowOf strC (w :: ws)) true 0 true)]⟩ (.normal) ⟨[(6, (.slice 15 0 xs.length cp)), (7, (.int .i64 (.ofNat xs.length))), (8, (.int .i64 (.ofNat (i + 1)))), (3, (.slice 16 0 (((w :: ws) ++ [x.path, idL x.id]).length) (.op 1)))], [(.row (rowOf inC xs) opn fz false), (.row (rowOf strC ((w :: ws) ++ [x.path, idL x.id])) true 0 true)]⟩ [15, 19] := by
  refine Leads.ofC (H := [(3, [(0, (1, (.bool true), none))]), (4, [(0, (1, (.ptr 15 (i * 33)), none)), (1, (2, (.agg (inC x)), none))]), (5, [(5, (2, (.str (idL x.id)), none)), (7, (2, (.slice 19 0 (((w :: ws) ++ [x.path, idL x.id]).length) (.op 1)), some (i_l1_h3 xs opn fz cp i w ws x)))]), (6, [(0, (1, (.int .i64 (.ofNat (i + 1))), none))])]) (L := [(false, 6, (.slice 15 0 xs.length cp)), (true, 7, (.int .i64 (.ofNat xs.length))), (true, 8, (.int .i64 (.ofNat (i + 1)))), (false, 3, (.slice 16 0 (((w :: ws) ++ [x.path, idL x.id]).length) (.op 1)))]) (O := [(true, (.row (rowOf inC xs) opn fz false)), (true, (.row (rowOf strC ((w :: ws) ++ [x.path, idL x.id])) true 0 true))]) (ps := [∀ cf h, doX tabV cf (.bin false .lss 3 (.int .i64 (.ofNat i)) (.int .i64 (.ofNat xs.length))) h = some ((.bool true), none), ∀ cf h, doX tabV cf (.indexAddr 24 (.slice 15 0 xs.length cp) (.int .i64 (.ofNat i))) h = some ((.ptr 15 (i * 33)), none), ∀ cf, doX tabV cf (.load 33 (.ptr 15 (i * 33))) (i_l1_h0 xs opn fz cp i w ws x) = some ((.agg (inC x)), none), ∀ cf, doX tabV cf (.conv 61 9 (.slice 17 1 32 (.ex 32))) (i_l1_h1 xs opn fz cp i w ws x) = some ((.str (idL x.id)), none), ∀ cf, doX tabV cf (.builtin .append [56, 56] [(.slice 16 0 ((w :: ws).length) (.op 1)), (.slice 18 0 2 (.ex 2))]) (i_l1_h2 xs opn fz cp i w ws x) = some ((.slice 19 0 (((w :: ws) ++ [x.path, idL x.id]).length) (.op 1)), some (i_l1_h3 xs opn fz cp i w ws x)), ((.slice 16 0 ((w :: ws).length) (.op 1)) : AV) = (.slice 16 0 ((w :: ws).length) (.op 1)), ∀ cf h, doX tabV cf (.bin true .add 3 (.int .i64 (.ofNat i)) (.int .i64 (.ofNat 1))) h = some ((.int .i64 (.ofNat (i + 1))), none)]) ?_ ?_ ?_ ?_ ?_ ?_ ?_
  · kernel_rfl
  · exact ⟨vc_lss_t (by omega), vc_ia (b := Nat.blt i xs.length) (q := 0 + i * 33) (q' := i * 33) (fun _ _ => by kernel_rfl) (blt_of (by omega)) (by omega), vc_eq2 (ck (Nat.ble (i * 33 + 33) (rowOf inC xs).length) (some (.agg (takeAt (rowOf inC xs) (i * 33) 33)))) (fun _ => by kernel_rfl) (at_rowOf inC_len hx rfl), vc_eqr2 (ob (unbytesE (bytesE (idL x.id))) fun bs => okv (.str bs)) (fun _ => by kernel_rfl) (id_text _), append_op (es := 1) (T := tabV) (ti := ty56) (te := ty9) (tx := ty56) (cs := rowOf strC (w :: ws)) (new := rowOf strC [x.path, idL x.id]) (k := 2) (n := (w :: ws).length) (by kernel_rfl) rfl (by kernel_rfl) rfl (Nat.le_refl 1) rfl rfl (Nat.le_of_ble_eq_true rfl) (by kernel_rfl) (by intro k h; cases h) (by kernel_rfl) (by rw [rowOf_len (k := 1) (fun _ => rfl)]) (by kernel_rfl) rfl (Nat.succ_pos _) (rowOf_app _ _ _).symm (rowOf_one (fun _ => rfl) _) (by show _ * 16 ≤ _; omega) (blt_lt (by kernel_rfl)) (by kernel_rfl) (by rw [List.length_append]; rfl), rfl, vc_add (by omega) (by omega), trivial⟩
  · exact ⟨rfl, rfl, rfl, rfl, trivial⟩
  · exact ⟨rowOf_plain inC_plain _, rowOf_plain (fun _ => rfl) _, trivial⟩
  · kernel_rfl
  · exact Nat.le_of_ble_eq_true rfl
  · exact Nat.le_of_ble_eq_true rfl
theorem i_e0 (xs : List InD) (opn : Bool) (fz : Nat) (cp : Cap) (i : Nat) (hi : i = xs.length) : Leads tabV 60 (lft (lft (rgt (lft (rgt (rgt (bodyOf Go.Proofs.Tryz.f17))))))) 5 5 23 ⟨[(6, (.slice 15 0 xs.length cp)), (7, (.int .i64 (.ofNat xs.length))), (8, (.int .i64 (.ofNat i))), (3, .nilslice)], [(.row (rowOf inC xs) opn fz false), .dead]⟩ (.exit 0) ⟨[(3, .nilslice)], [.dead]⟩ [0] := by
  refine Leads.ofC (H := [(3, [(0, (1, (.bool false), none))])]) (L := [(true, 3, .nilslice)]) (O := [(true, .dead)]) (ps := [∀ cf h, doX tabV cf (.bin false .lss 3 (.int .i64 (.ofNat i)) (.int .i64 (.ofNat xs.length))) h = some ((.bool false), none)]) ?_ ?_ ?_ ?_ ?_ ?_ ?_
  · kernel_rfl
  · exact ⟨vc_lss_f (by omega), trivial⟩
  · exact ⟨rfl, trivial⟩
  · exact ⟨trivial, trivial⟩
  · kernel_rfl
  · exact Nat.le_of_ble_eq_true rfl
  · exact Nat.le_of_ble_eq_true rfl
theorem i_e1 (xs : List InD) (opn : Bool) (fz : Nat) (cp : Cap) (i : Nat) (w : List UInt8) (ws : List (List UInt8)) (hi : i = xs.length) : Leads tabV 60 (lft (lft (rgt (lft (rgt (rgt (bodyOf Go.Proofs.Tryz.f17))))))) 5 5 23 ⟨[(6, (.slice 15 0 xs.length cp)), (7, (.int .i64 (.ofNat xs.length))), (8, (.int .i64 (.ofNat i))), (3, (.slice 16 0 ((w :: ws).length) (.op 1)))], [(.row (rowOf inC xs) opn fz false), (.row (rowOf strC (w :: ws)) true 0 true)]⟩ (.exit 0) ⟨[(3, (.slice 15 0 ((w :: ws).length) (.op 1)))], [(.row (rowOf strC (w :: ws)) true 0 true)]⟩ [16] := by
  refine Leads.ofC (H := [(3, [(0, (1, (.bool false), none))])]) (L := [(false, 3, (.slice 15 0 ((w :: ws).length) (.op 1)))]) (O := [(true, (.row (rowOf strC (w :: ws)) true 0 true))]) (ps := [∀ cf h, doX tabV cf (.bin false .lss 3 (.int .i64 (.ofNat i)) (.int .i64 (.ofNat xs.length))) h = some ((.bool false), none)]) ?_ ?_ ?_ ?_ ?_ ?_ ?_
  · kernel_rfl
  · exact ⟨vc_lss_f (by omega), trivial⟩
  · exact ⟨rfl, trivial⟩
  · exact ⟨rowOf_plain (fun _ => rfl) _, trivial⟩
  · kernel_rfl
  · exact Nat.le_of_ble_eq_true rfl
  · exact Nat.le_of_ble_eq_true rfl
theorem i_q0   : Leads tabV 60 (rgt (rgt (rgt (bodyOf Go.Proofs.Tryz.f17)))) 5 5 23 ⟨[(3, .nilslice)], [.dead]⟩ (.ret) ⟨[(2, (.str (joinL [])))], []⟩ [] := by
  refine Leads.ofC (H := []) (L := [(true, 2, (.str (joinL [])))]) (O := []) (ps := []) ?_ ?_ ?_ ?_ ?_ ?_ ?_
  · kernel_rfl
  · exact trivial
  · exact ⟨rfl, trivial⟩
  · exact trivial
  · kernel_rfl
  · exact Nat.le_of_ble_eq_true rfl
  · exact Nat.le_of_ble_eq_true rfl
noncomputable def i_q1_h0 (w : List UInt8) (ws : List (List UInt8)) : AHeap := heapL 15 5 [(.row (rowOf strC (w :: ws)) true 0 true)]
theorem i_q1 (w : List UInt8) (ws : List (List UInt8)) (hb : (joinL (w :: ws)).length ≤ 1152921504606846976) : Leads tabV 60 (rgt (rgt (rgt (bodyOf Go.Proofs.Tryz.f17)))) 5 5 23 ⟨[(3, (.slice 15 0 ((w :: ws).length) (.op 1)))], [(.row (rowOf strC (w :: ws)) true 0 true)]⟩ (.ret) ⟨[(2, (.str (joinL (w :: ws))))], []⟩ [] := by
  refine Leads.ofC (H := [(7, [(1, (2, (.str (joinL (w :: ws))), none))])]) (L := [(true, 2, (.str (joinL (w :: ws))))]) (O := []) (ps := [∀ cf, doX tabV cf (.call 16 [(.slice 15 0 ((w :: ws).length) (.op 1))]) (i_q1_h0 w ws) = some ((.str (joinL (w :: ws))), none)]) ?_ ?_ ?_ ?_ ?_ ?_ ?_
  · kernel_rfl
  · exact ⟨vc_join (most := 1152921504606846976) (ws := (w :: ws)) (opn := true) (fz := 0) (wr := true) (by kernel_rfl) (by kernel_rfl) (by kernel_rfl) rfl (by assumption), trivial⟩
  · exact ⟨rfl, trivial⟩
  · exact trivial
  · kernel_rfl
  · exact Nat.le_of_ble_eq_true rfl
  · exact Nat.le_of_ble_eq_true rfl
theorem i_nil   : Leads tabV 60 (bodyOf Go.Proofs.Tryz.f17) 5 5 23 ⟨[(0, .nilslice)], []⟩ (.ret) ⟨[(2, (.str (joinL [])))], []⟩ [] := by
  refine Leads.ofC (H := []) (L := [(true, 2, (.str (joinL [])))]) (O := []) (ps := []) ?_ ?_ ?_ ?_ ?_ ?_ ?_
  · kernel_rfl
  · exact trivial
  · exact ⟨rfl, trivial⟩
  · exact trivial
  · kernel_rfl
  · exact Nat.le_of_ble_eq_true rfl
  · exact Nat.le_of_ble_eq_true rfl
end Go.Proofs.YtmlipbpbbjkigaaGreatDoor
