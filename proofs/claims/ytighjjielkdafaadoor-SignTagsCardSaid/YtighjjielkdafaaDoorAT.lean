/- The types of the program that the law reaches, as plain values. -/
import Derived.Test.YtighjjielkdafaaDoorMhN
import Derived.Test.YtighjjielkdafaaDoorChecked
namespace Go.Mg
open Go Go.Proofs
def d_3 : TyD := ⟨.int .i64, 1, 8, (.int .i64 0), true⟩
def d_4 : TyD := ⟨.bool, 1, 1, (.bool false), true⟩
def d_5 : TyD := ⟨.int .u8, 1, 1, (.int .u8 0), true⟩
def d_9 : TyD := ⟨.str, 1, 16, (.str ⟨#[]⟩), false⟩
def d_22 : TyD := ⟨.slice 5, 1, 24, .nils, false⟩
def d_24 : TyD := ⟨.array 32 5, 32, 32, (.arr 1 32 (List.replicate 32 (.int .u8 0))), true⟩
def d_25 : TyD := ⟨.array 32 5, 32, 32, (.arr 1 32 (List.replicate 32 (.int .u8 0))), true⟩
def d_29 : TyD := ⟨.int .u64, 1, 8, (.int .u64 0), true⟩
def d_36 : TyD := ⟨.slice 25, 1, 24, .nils, false⟩
def d_39 : TyD := ⟨.int .u64, 1, 8, (.int .u64 0), true⟩
def d_41 : TyD := ⟨.int .u64, 1, 8, (.int .u64 0), true⟩
def d_46 : TyD := ⟨.int .i64, 1, 8, (.int .i64 0), true⟩
def d_51 : TyD := ⟨.slice 24, 1, 24, .nils, false⟩
def d_72 : TyD := ⟨.int .u32, 1, 4, (.int .u32 0), true⟩
def d_73 : TyD := ⟨.array 8 72, 8, 32, (.arr 1 8 (List.replicate 8 (.int .u32 0))), true⟩
def d_75 : TyD := ⟨.ptr 73, 1, 8, .nilp, false⟩
def d_76 : TyD := ⟨.array 64 72, 64, 256, (.arr 1 64 (List.replicate 64 (.int .u32 0))), true⟩
def d_83 : TyD := ⟨.slice 72, 1, 24, .nils, false⟩
def tys : List (Nat × TyD) := [(3, d_3), (4, d_4), (5, d_5), (9, d_9), (22, d_22), (24, d_24), (25, d_25), (29, d_29), (36, d_36), (39, d_39), (41, d_41), (46, d_46), (51, d_51), (72, d_72), (73, d_73), (75, d_75), (76, d_76), (83, d_83)]
def tyT : Nat → Option TyD := get tys
theorem tys_chk : (tys.all fun x => tyChk Tryd.prog x.1 x.2) = true := by kernel_rfl
theorem prog_mixed : Tryd.prog.follows .mixedOrders = true := by kernel_rfl
def w_3 (x : Int) : Prop := IntKind.min .i64 ≤ x ∧ x ≤ IntKind.max .i64
theorem y_3 : Tyo tyT 3 (T.int .i64) w_3 := tyo_int _ (i := d_3) rfl rfl
def w_4 (x : Bool) : Prop := True
theorem y_4 : Tyo tyT 4 T.bool w_4 := tyo_bool (i := d_4) rfl rfl
def w_5 (x : Int) : Prop := IntKind.min .u8 ≤ x ∧ x ≤ IntKind.max .u8
theorem y_5 : Tyo tyT 5 (T.int .u8) w_5 := tyo_int _ (i := d_5) rfl rfl
def w_9 (x : ByteArray) : Prop := x.size ≤ maxLen
theorem y_9 : Tyo tyT 9 T.str w_9 := tyo_str (i := d_9) rfl rfl
def w_22 (x : (List Int)) : Prop := x.length ≤ maxLen ∧ ∀ y ∈ x, w_5 y
theorem y_22 : Tyo tyT 22 (eS 1 (T.int .u8)) w_22 := tyo_slice (i := d_22) (j := d_5) rfl rfl rfl rfl y_5
def w_24 (x : (Arr 32 Int)) : Prop := ∀ y ∈ x.l, w_5 y
theorem y_24 : Tyo tyT 24 (eA 1 (T.int .u8)) w_24 := tyo_arr (i := d_24) (j := d_5) rfl rfl rfl rfl y_5
def w_25 (x : (Arr 32 Int)) : Prop := ∀ y ∈ x.l, w_5 y
theorem y_25 : Tyo tyT 25 (eA 1 (T.int .u8)) w_25 := tyo_arr (i := d_25) (j := d_5) rfl rfl rfl rfl y_5
def w_29 (x : Int) : Prop := IntKind.min .u64 ≤ x ∧ x ≤ IntKind.max .u64
theorem y_29 : Tyo tyT 29 (T.int .u64) w_29 := tyo_int _ (i := d_29) rfl rfl
def w_36 (x : (List (Arr 32 Int))) : Prop := x.length ≤ maxLen ∧ ∀ y ∈ x, w_25 y
theorem y_36 : Tyo tyT 36 (eS 32 (eA 1 (T.int .u8))) w_36 := tyo_slice (i := d_36) (j := d_25) rfl rfl rfl rfl y_25
def w_39 (x : Int) : Prop := IntKind.min .u64 ≤ x ∧ x ≤ IntKind.max .u64
theorem y_39 : Tyo tyT 39 (T.int .u64) w_39 := tyo_int _ (i := d_39) rfl rfl
def w_41 (x : Int) : Prop := IntKind.min .u64 ≤ x ∧ x ≤ IntKind.max .u64
theorem y_41 : Tyo tyT 41 (T.int .u64) w_41 := tyo_int _ (i := d_41) rfl rfl
def w_46 (x : Int) : Prop := IntKind.min .i64 ≤ x ∧ x ≤ IntKind.max .i64
theorem y_46 : Tyo tyT 46 (T.int .i64) w_46 := tyo_int _ (i := d_46) rfl rfl
def w_51 (x : (List (Arr 32 Int))) : Prop := x.length ≤ maxLen ∧ ∀ y ∈ x, w_24 y
theorem y_51 : Tyo tyT 51 (eS 32 (eA 1 (T.int .u8))) w_51 := tyo_slice (i := d_51) (j := d_24) rfl rfl rfl rfl y_24
def w_72 (x : Int) : Prop := IntKind.min .u32 ≤ x ∧ x ≤ IntKind.max .u32
theorem y_72 : Tyo tyT 72 (T.int .u32) w_72 := tyo_int _ (i := d_72) rfl rfl
def w_73 (x : (Arr 8 Int)) : Prop := ∀ y ∈ x.l, w_72 y
theorem y_73 : Tyo tyT 73 (eA 1 (T.int .u32)) w_73 := tyo_arr (i := d_73) (j := d_72) rfl rfl rfl rfl y_72
def w_76 (x : (Arr 64 Int)) : Prop := ∀ y ∈ x.l, w_72 y
theorem y_76 : Tyo tyT 76 (eA 1 (T.int .u32)) w_76 := tyo_arr (i := d_76) (j := d_72) rfl rfl rfl rfl y_72
def w_83 (x : (List Int)) : Prop := x.length ≤ maxLen ∧ ∀ y ∈ x, w_72 y
theorem y_83 : Tyo tyT 83 (eS 1 (T.int .u32)) w_83 := tyo_slice (i := d_83) (j := d_72) rfl rfl rfl rfl y_72
theorem c_5 : Cmp tyT 5 1 (T.int .u8) := cmp_int _ (i := d_5) rfl rfl
theorem c_24 : Cmp (α := (Arr 32 Int)) tyT 24 2 (eA 1 (T.int .u8)) := cmp_eA (i := d_24) (j := d_5) rfl rfl rfl rfl c_5
theorem beql_24 (E : Env) (hE : E.ty = tyT) (a b : (Arr 32 Int)) : binOp E .eql 24 (.t ((eA 1 (T.int .u8)) a)) (.t ((eA 1 (T.int .u8)) b)) = some (.bool (decide (a = b))) := by
  rw [bin_eq (i := d_24) (d := 2) (by rw [hE]; rfl) rfl (by decide) (by rw [hE]; exact c_24) (fun _ => rfl) .eql (.inl rfl) a b]; rfl
theorem bneq_24 (E : Env) (hE : E.ty = tyT) (a b : (Arr 32 Int)) : binOp E .neq 24 (.t ((eA 1 (T.int .u8)) a)) (.t ((eA 1 (T.int .u8)) b)) = some (.bool (!(decide (a = b)))) := by
  rw [bin_eq (i := d_24) (d := 2) (by rw [hE]; rfl) rfl (by decide) (by rw [hE]; exact c_24) (fun _ => rfl) .neq (.inr rfl) a b]; rfl
theorem c_25 : Cmp (α := (Arr 32 Int)) tyT 25 2 (eA 1 (T.int .u8)) := cmp_eA (i := d_25) (j := d_5) rfl rfl rfl rfl c_5
theorem beql_25 (E : Env) (hE : E.ty = tyT) (a b : (Arr 32 Int)) : binOp E .eql 25 (.t ((eA 1 (T.int .u8)) a)) (.t ((eA 1 (T.int .u8)) b)) = some (.bool (decide (a = b))) := by
  rw [bin_eq (i := d_25) (d := 2) (by rw [hE]; rfl) rfl (by decide) (by rw [hE]; exact c_25) (fun _ => rfl) .eql (.inl rfl) a b]; rfl
theorem bneq_25 (E : Env) (hE : E.ty = tyT) (a b : (Arr 32 Int)) : binOp E .neq 25 (.t ((eA 1 (T.int .u8)) a)) (.t ((eA 1 (T.int .u8)) b)) = some (.bool (!(decide (a = b)))) := by
  rw [bin_eq (i := d_25) (d := 2) (by rw [hE]; rfl) rfl (by decide) (by rw [hE]; exact c_25) (fun _ => rfl) .neq (.inr rfl) a b]; rfl
end Go.Mg
