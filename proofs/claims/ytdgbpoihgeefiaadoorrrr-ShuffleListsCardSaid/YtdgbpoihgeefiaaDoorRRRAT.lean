/- The types of the program that the law reaches, as plain values. -/
import Derived.Test.YtdgbpoihgeefiaaDoorRRRMhN
import Derived.Test.YtdgbpoihgeefiaaDoorRRRChecked
namespace Go.Mg
open Go Go.Proofs
structure GHeader where
  Slot : Int
  Proposer : Int
  Parent : (Arr 32 Int)
  State : (Arr 32 Int)
  Body : (Arr 32 Int)
  deriving DecidableEq
def e_GHeader (x : GHeader) : T := .tup [(T.int .u64) x.Slot, (T.int .u64) x.Proposer, (eA 1 (T.int .u8)) x.Parent, (eA 1 (T.int .u8)) x.State, (eA 1 (T.int .u8)) x.Body]
def z_GHeader : GHeader := ⟨(0:Int), (0:Int), (Arr.rep 32 (0:Int)), (Arr.rep 32 (0:Int)), (Arr.rep 32 (0:Int))⟩
theorem i_GHeader : Inj e_GHeader := by
  rintro t ⟨a0, a1, a2, a3, a4⟩ ⟨b0, b1, b2, b3, b4⟩ h1 h2
  obtain ⟨l, rfl, h1⟩ := leT_tup h1
  replace h2 := leT_tups h2
  obtain ⟨x0, l, rfl, p0, h1⟩ := leTs_cons h1
  obtain ⟨q0, h2⟩ := leTs_two h2
  obtain ⟨x1, l, rfl, p1, h1⟩ := leTs_cons h1
  obtain ⟨q1, h2⟩ := leTs_two h2
  obtain ⟨x2, l, rfl, p2, h1⟩ := leTs_cons h1
  obtain ⟨q2, h2⟩ := leTs_two h2
  obtain ⟨x3, l, rfl, p3, h1⟩ := leTs_cons h1
  obtain ⟨q3, h2⟩ := leTs_two h2
  obtain ⟨x4, l, rfl, p4, h1⟩ := leTs_cons h1
  obtain ⟨q4, h2⟩ := leTs_two h2
  have e0 : a0 = b0 := (inj_int _) _ _ _ p0 q0
  have e1 : a1 = b1 := (inj_int _) _ _ _ p1 q1
  have e2 : a2 = b2 := (inj_eA (inj_int _)) _ _ _ p2 q2
  have e3 : a3 = b3 := (inj_eA (inj_int _)) _ _ _ p3 q3
  have e4 : a4 = b4 := (inj_eA (inj_int _)) _ _ _ p4 q4
  rw [e0, e1, e2, e3, e4]
theorem fl_GHeader (x : GHeader) : (e_GHeader x).flat = true := flat_tup (flats_cons ((fun _ => rfl) _) (flats_cons ((fun _ => rfl) _) (flats_cons ((flat_eA (fun _ => rfl)) _) (flats_cons ((flat_eA (fun _ => rfl)) _) (flats_cons ((flat_eA (fun _ => rfl)) _) flats_nil)))))
structure GEth where
  Deposits : (Arr 32 Int)
  Count : Int
  deriving DecidableEq
def e_GEth (x : GEth) : T := .tup [(eA 1 (T.int .u8)) x.Deposits, (T.int .u64) x.Count]
def z_GEth : GEth := ⟨(Arr.rep 32 (0:Int)), (0:Int)⟩
theorem i_GEth : Inj e_GEth := by
  rintro t ⟨a0, a1⟩ ⟨b0, b1⟩ h1 h2
  obtain ⟨l, rfl, h1⟩ := leT_tup h1
  replace h2 := leT_tups h2
  obtain ⟨x0, l, rfl, p0, h1⟩ := leTs_cons h1
  obtain ⟨q0, h2⟩ := leTs_two h2
  obtain ⟨x1, l, rfl, p1, h1⟩ := leTs_cons h1
  obtain ⟨q1, h2⟩ := leTs_two h2
  have e0 : a0 = b0 := (inj_eA (inj_int _)) _ _ _ p0 q0
  have e1 : a1 = b1 := (inj_int _) _ _ _ p1 q1
  rw [e0, e1]
theorem fl_GEth (x : GEth) : (e_GEth x).flat = true := flat_tup (flats_cons ((flat_eA (fun _ => rfl)) _) (flats_cons ((fun _ => rfl) _) flats_nil))
structure GValidator where
  Key : (Arr 32 Int)
  Cred : (Arr 32 Int)
  Effective : Int
  Slashed : Bool
  Eligible : Int
  Active : Int
  Exit : Int
  Withdraw : Int
  deriving DecidableEq
def e_GValidator (x : GValidator) : T := .tup [(eA 1 (T.int .u8)) x.Key, (eA 1 (T.int .u8)) x.Cred, (T.int .u64) x.Effective, T.bool x.Slashed, (T.int .u64) x.Eligible, (T.int .u64) x.Active, (T.int .u64) x.Exit, (T.int .u64) x.Withdraw]
def z_GValidator : GValidator := ⟨(Arr.rep 32 (0:Int)), (Arr.rep 32 (0:Int)), (0:Int), false, (0:Int), (0:Int), (0:Int), (0:Int)⟩
theorem i_GValidator : Inj e_GValidator := by
  rintro t ⟨a0, a1, a2, a3, a4, a5, a6, a7⟩ ⟨b0, b1, b2, b3, b4, b5, b6, b7⟩ h1 h2
  obtain ⟨l, rfl, h1⟩ := leT_tup h1
  replace h2 := leT_tups h2
  obtain ⟨x0, l, rfl, p0, h1⟩ := leTs_cons h1
  obtain ⟨q0, h2⟩ := leTs_two h2
  obtain ⟨x1, l, rfl, p1, h1⟩ := leTs_cons h1
  obtain ⟨q1, h2⟩ := leTs_two h2
  obtain ⟨x2, l, rfl, p2, h1⟩ := leTs_cons h1
  obtain ⟨q2, h2⟩ := leTs_two h2
  obtain ⟨x3, l, rfl, p3, h1⟩ := leTs_cons h1
  obtain ⟨q3, h2⟩ := leTs_two h2
  obtain ⟨x4, l, rfl, p4, h1⟩ := leTs_cons h1
  obtain ⟨q4, h2⟩ := leTs_two h2
  obtain ⟨x5, l, rfl, p5, h1⟩ := leTs_cons h1
  obtain ⟨q5, h2⟩ := leTs_two h2
  obtain ⟨x6, l, rfl, p6, h1⟩ := leTs_cons h1
  obtain ⟨q6, h2⟩ := leTs_two h2
  obtain ⟨x7, l, rfl, p7, h1⟩ := leTs_cons h1
  obtain ⟨q7, h2⟩ := leTs_two h2
  have e0 : a0 = b0 := (inj_eA (inj_int _)) _ _ _ p0 q0
  have e1 : a1 = b1 := (inj_eA (inj_int _)) _ _ _ p1 q1
  have e2 : a2 = b2 := (inj_int _) _ _ _ p2 q2
  have e3 : a3 = b3 := inj_bool _ _ _ p3 q3
  have e4 : a4 = b4 := (inj_int _) _ _ _ p4 q4
  have e5 : a5 = b5 := (inj_int _) _ _ _ p5 q5
  have e6 : a6 = b6 := (inj_int _) _ _ _ p6 q6
  have e7 : a7 = b7 := (inj_int _) _ _ _ p7 q7
  rw [e0, e1, e2, e3, e4, e5, e6, e7]
theorem fl_GValidator (x : GValidator) : (e_GValidator x).flat = true := flat_tup (flats_cons ((flat_eA (fun _ => rfl)) _) (flats_cons ((flat_eA (fun _ => rfl)) _) (flats_cons ((fun _ => rfl) _) (flats_cons ((fun _ => rfl) _) (flats_cons ((fun _ => rfl) _) (flats_cons ((fun _ => rfl) _) (flats_cons ((fun _ => rfl) _) (flats_cons ((fun _ => rfl) _) flats_nil))))))))
structure GCheckpoint where
  Epoch : Int
  Root : (Arr 32 Int)
  deriving DecidableEq
def e_GCheckpoint (x : GCheckpoint) : T := .tup [(T.int .u64) x.Epoch, (eA 1 (T.int .u8)) x.Root]
def z_GCheckpoint : GCheckpoint := ⟨(0:Int), (Arr.rep 32 (0:Int))⟩
theorem i_GCheckpoint : Inj e_GCheckpoint := by
  rintro t ⟨a0, a1⟩ ⟨b0, b1⟩ h1 h2
  obtain ⟨l, rfl, h1⟩ := leT_tup h1
  replace h2 := leT_tups h2
  obtain ⟨x0, l, rfl, p0, h1⟩ := leTs_cons h1
  obtain ⟨q0, h2⟩ := leTs_two h2
  obtain ⟨x1, l, rfl, p1, h1⟩ := leTs_cons h1
  obtain ⟨q1, h2⟩ := leTs_two h2
  have e0 : a0 = b0 := (inj_int _) _ _ _ p0 q0
  have e1 : a1 = b1 := (inj_eA (inj_int _)) _ _ _ p1 q1
  rw [e0, e1]
theorem fl_GCheckpoint (x : GCheckpoint) : (e_GCheckpoint x).flat = true := flat_tup (flats_cons ((fun _ => rfl) _) (flats_cons ((flat_eA (fun _ => rfl)) _) flats_nil))
structure GVote where
  Slot : Int
  Index : Int
  Block : (Arr 32 Int)
  Source : GCheckpoint
  Target : GCheckpoint
  deriving DecidableEq
def e_GVote (x : GVote) : T := .tup [(T.int .u64) x.Slot, (T.int .u64) x.Index, (eA 1 (T.int .u8)) x.Block, e_GCheckpoint x.Source, e_GCheckpoint x.Target]
def z_GVote : GVote := ⟨(0:Int), (0:Int), (Arr.rep 32 (0:Int)), z_GCheckpoint, z_GCheckpoint⟩
theorem i_GVote : Inj e_GVote := by
  rintro t ⟨a0, a1, a2, a3, a4⟩ ⟨b0, b1, b2, b3, b4⟩ h1 h2
  obtain ⟨l, rfl, h1⟩ := leT_tup h1
  replace h2 := leT_tups h2
  obtain ⟨x0, l, rfl, p0, h1⟩ := leTs_cons h1
  obtain ⟨q0, h2⟩ := leTs_two h2
  obtain ⟨x1, l, rfl, p1, h1⟩ := leTs_cons h1
  obtain ⟨q1, h2⟩ := leTs_two h2
  obtain ⟨x2, l, rfl, p2, h1⟩ := leTs_cons h1
  obtain ⟨q2, h2⟩ := leTs_two h2
  obtain ⟨x3, l, rfl, p3, h1⟩ := leTs_cons h1
  obtain ⟨q3, h2⟩ := leTs_two h2
  obtain ⟨x4, l, rfl, p4, h1⟩ := leTs_cons h1
  obtain ⟨q4, h2⟩ := leTs_two h2
  have e0 : a0 = b0 := (inj_int _) _ _ _ p0 q0
  have e1 : a1 = b1 := (inj_int _) _ _ _ p1 q1
  have e2 : a2 = b2 := (inj_eA (inj_int _)) _ _ _ p2 q2
  have e3 : a3 = b3 := i_GCheckpoint _ _ _ p3 q3
  have e4 : a4 = b4 := i_GCheckpoint _ _ _ p4 q4
  rw [e0, e1, e2, e3, e4]
theorem fl_GVote (x : GVote) : (e_GVote x).flat = true := flat_tup (flats_cons ((fun _ => rfl) _) (flats_cons ((fun _ => rfl) _) (flats_cons ((flat_eA (fun _ => rfl)) _) (flats_cons (fl_GCheckpoint _) (flats_cons (fl_GCheckpoint _) flats_nil)))))
structure GPending where
  Bits : (List Bool)
  Data : GVote
  Delay : Int
  Proposer : Int
  deriving DecidableEq
def e_GPending (x : GPending) : T := .tup [(eS 1 T.bool) x.Bits, e_GVote x.Data, (T.int .u64) x.Delay, (T.int .u64) x.Proposer]
def z_GPending : GPending := ⟨[], z_GVote, (0:Int), (0:Int)⟩
theorem i_GPending : Inj e_GPending := by
  rintro t ⟨a0, a1, a2, a3⟩ ⟨b0, b1, b2, b3⟩ h1 h2
  obtain ⟨l, rfl, h1⟩ := leT_tup h1
  replace h2 := leT_tups h2
  obtain ⟨x0, l, rfl, p0, h1⟩ := leTs_cons h1
  obtain ⟨q0, h2⟩ := leTs_two h2
  obtain ⟨x1, l, rfl, p1, h1⟩ := leTs_cons h1
  obtain ⟨q1, h2⟩ := leTs_two h2
  obtain ⟨x2, l, rfl, p2, h1⟩ := leTs_cons h1
  obtain ⟨q2, h2⟩ := leTs_two h2
  obtain ⟨x3, l, rfl, p3, h1⟩ := leTs_cons h1
  obtain ⟨q3, h2⟩ := leTs_two h2
  have e0 : a0 = b0 := (inj_eS inj_bool) _ _ _ p0 q0
  have e1 : a1 = b1 := i_GVote _ _ _ p1 q1
  have e2 : a2 = b2 := (inj_int _) _ _ _ p2 q2
  have e3 : a3 = b3 := (inj_int _) _ _ _ p3 q3
  rw [e0, e1, e2, e3]
structure GState where
  Slot : Int
  Header : GHeader
  BlockRoots : (Arr 16 (Arr 32 Int))
  StateRoots : (Arr 16 (Arr 32 Int))
  Eth : GEth
  EthVotes : (List GEth)
  Deposited : Int
  Validators : (List GValidator)
  Balances : (List Int)
  Mixes : (Arr 8 (Arr 32 Int))
  Fines : (Arr 8 Int)
  Previous : (List GPending)
  Current : (List GPending)
  Bits : (Arr 4 Bool)
  PreviousJust : GCheckpoint
  CurrentJust : GCheckpoint
  Finalized : GCheckpoint
  deriving DecidableEq
def e_GState (x : GState) : T := .tup [(T.int .u64) x.Slot, e_GHeader x.Header, (eA 32 (eA 1 (T.int .u8))) x.BlockRoots, (eA 32 (eA 1 (T.int .u8))) x.StateRoots, e_GEth x.Eth, (eS 33 e_GEth) x.EthVotes, (T.int .u64) x.Deposited, (eS 70 e_GValidator) x.Validators, (eS 1 (T.int .u64)) x.Balances, (eA 32 (eA 1 (T.int .u8))) x.Mixes, (eA 1 (T.int .u64)) x.Fines, (eS 103 e_GPending) x.Previous, (eS 103 e_GPending) x.Current, (eA 1 T.bool) x.Bits, e_GCheckpoint x.PreviousJust, e_GCheckpoint x.CurrentJust, e_GCheckpoint x.Finalized]
def z_GState : GState := ⟨(0:Int), z_GHeader, (Arr.rep 16 (Arr.rep 32 (0:Int))), (Arr.rep 16 (Arr.rep 32 (0:Int))), z_GEth, [], (0:Int), [], [], (Arr.rep 8 (Arr.rep 32 (0:Int))), (Arr.rep 8 (0:Int)), [], [], (Arr.rep 4 false), z_GCheckpoint, z_GCheckpoint, z_GCheckpoint⟩
theorem i_GState : Inj e_GState := by
  rintro t ⟨a0, a1, a2, a3, a4, a5, a6, a7, a8, a9, a10, a11, a12, a13, a14, a15, a16⟩ ⟨b0, b1, b2, b3, b4, b5, b6, b7, b8, b9, b10, b11, b12, b13, b14, b15, b16⟩ h1 h2
  obtain ⟨l, rfl, h1⟩ := leT_tup h1
  replace h2 := leT_tups h2
  obtain ⟨x0, l, rfl, p0, h1⟩ := leTs_cons h1
  obtain ⟨q0, h2⟩ := leTs_two h2
  obtain ⟨x1, l, rfl, p1, h1⟩ := leTs_cons h1
  obtain ⟨q1, h2⟩ := leTs_two h2
  obtain ⟨x2, l, rfl, p2, h1⟩ := leTs_cons h1
  obtain ⟨q2, h2⟩ := leTs_two h2
  obtain ⟨x3, l, rfl, p3, h1⟩ := leTs_cons h1
  obtain ⟨q3, h2⟩ := leTs_two h2
  obtain ⟨x4, l, rfl, p4, h1⟩ := leTs_cons h1
  obtain ⟨q4, h2⟩ := leTs_two h2
  obtain ⟨x5, l, rfl, p5, h1⟩ := leTs_cons h1
  obtain ⟨q5, h2⟩ := leTs_two h2
  obtain ⟨x6, l, rfl, p6, h1⟩ := leTs_cons h1
  obtain ⟨q6, h2⟩ := leTs_two h2
  obtain ⟨x7, l, rfl, p7, h1⟩ := leTs_cons h1
  obtain ⟨q7, h2⟩ := leTs_two h2
  obtain ⟨x8, l, rfl, p8, h1⟩ := leTs_cons h1
  obtain ⟨q8, h2⟩ := leTs_two h2
  obtain ⟨x9, l, rfl, p9, h1⟩ := leTs_cons h1
  obtain ⟨q9, h2⟩ := leTs_two h2
  obtain ⟨x10, l, rfl, p10, h1⟩ := leTs_cons h1
  obtain ⟨q10, h2⟩ := leTs_two h2
  obtain ⟨x11, l, rfl, p11, h1⟩ := leTs_cons h1
  obtain ⟨q11, h2⟩ := leTs_two h2
  obtain ⟨x12, l, rfl, p12, h1⟩ := leTs_cons h1
  obtain ⟨q12, h2⟩ := leTs_two h2
  obtain ⟨x13, l, rfl, p13, h1⟩ := leTs_cons h1
  obtain ⟨q13, h2⟩ := leTs_two h2
  obtain ⟨x14, l, rfl, p14, h1⟩ := leTs_cons h1
  obtain ⟨q14, h2⟩ := leTs_two h2
  obtain ⟨x15, l, rfl, p15, h1⟩ := leTs_cons h1
  obtain ⟨q15, h2⟩ := leTs_two h2
  obtain ⟨x16, l, rfl, p16, h1⟩ := leTs_cons h1
  obtain ⟨q16, h2⟩ := leTs_two h2
  have e0 : a0 = b0 := (inj_int _) _ _ _ p0 q0
  have e1 : a1 = b1 := i_GHeader _ _ _ p1 q1
  have e2 : a2 = b2 := (inj_eA (inj_eA (inj_int _))) _ _ _ p2 q2
  have e3 : a3 = b3 := (inj_eA (inj_eA (inj_int _))) _ _ _ p3 q3
  have e4 : a4 = b4 := i_GEth _ _ _ p4 q4
  have e5 : a5 = b5 := (inj_eS i_GEth) _ _ _ p5 q5
  have e6 : a6 = b6 := (inj_int _) _ _ _ p6 q6
  have e7 : a7 = b7 := (inj_eS i_GValidator) _ _ _ p7 q7
  have e8 : a8 = b8 := (inj_eS (inj_int _)) _ _ _ p8 q8
  have e9 : a9 = b9 := (inj_eA (inj_eA (inj_int _))) _ _ _ p9 q9
  have e10 : a10 = b10 := (inj_eA (inj_int _)) _ _ _ p10 q10
  have e11 : a11 = b11 := (inj_eS i_GPending) _ _ _ p11 q11
  have e12 : a12 = b12 := (inj_eS i_GPending) _ _ _ p12 q12
  have e13 : a13 = b13 := (inj_eA inj_bool) _ _ _ p13 q13
  have e14 : a14 = b14 := i_GCheckpoint _ _ _ p14 q14
  have e15 : a15 = b15 := i_GCheckpoint _ _ _ p15 q15
  have e16 : a16 = b16 := i_GCheckpoint _ _ _ p16 q16
  rw [e0, e1, e2, e3, e4, e5, e6, e7, e8, e9, e10, e11, e12, e13, e14, e15, e16]
def d_3 : TyD := ⟨.int .i64, 1, 8, (.int .i64 0), true⟩
def d_4 : TyD := ⟨.bool, 1, 1, (.bool false), true⟩
def d_5 : TyD := ⟨.int .u8, 1, 1, (.int .u8 0), true⟩
def d_22 : TyD := ⟨.int .u64, 1, 8, (.int .u64 0), true⟩
def d_23 : TyD := ⟨.array 32 5, 32, 32, (.arr 1 32 (List.replicate 32 (.int .u8 0))), true⟩
def d_24 : TyD := ⟨.array 32 5, 32, 32, (.arr 1 32 (List.replicate 32 (.int .u8 0))), true⟩
def d_26 : TyD := ⟨.int .i64, 1, 8, (.int .i64 0), true⟩
def d_32 : TyD := ⟨.slice 22, 1, 24, .nils, false⟩
def d_36 : TyD := ⟨.slice 4, 1, 24, .nils, false⟩
def d_39 : TyD := ⟨.struct [(22, 0), (22, 1), (24, 2), (24, 34), (24, 66)], 98, 112, (.tup [(.int .u64 0), (.int .u64 0), (.arr 1 32 (List.replicate 32 (.int .u8 0))), (.arr 1 32 (List.replicate 32 (.int .u8 0))), (.arr 1 32 (List.replicate 32 (.int .u8 0)))]), true⟩
def d_40 : TyD := ⟨.array 16 24, 512, 512, (.arr 32 16 (List.replicate 16 (.arr 1 32 (List.replicate 32 (.int .u8 0))))), true⟩
def d_42 : TyD := ⟨.struct [(24, 0), (22, 32)], 33, 40, (.tup [(.arr 1 32 (List.replicate 32 (.int .u8 0))), (.int .u64 0)]), true⟩
def d_43 : TyD := ⟨.slice 42, 1, 24, .nils, false⟩
def d_44 : TyD := ⟨.slice 62, 1, 24, .nils, false⟩
def d_45 : TyD := ⟨.array 8 24, 256, 256, (.arr 32 8 (List.replicate 8 (.arr 1 32 (List.replicate 32 (.int .u8 0))))), true⟩
def d_46 : TyD := ⟨.array 8 22, 8, 64, (.arr 1 8 (List.replicate 8 (.int .u64 0))), true⟩
def d_47 : TyD := ⟨.slice 91, 1, 24, .nils, false⟩
def d_48 : TyD := ⟨.array 4 4, 4, 4, (.arr 1 4 (List.replicate 4 (.bool false))), true⟩
def d_50 : TyD := ⟨.struct [(22, 0), (24, 1)], 33, 40, (.tup [(.int .u64 0), (.arr 1 32 (List.replicate 32 (.int .u8 0)))]), true⟩
def d_52 : TyD := ⟨.struct [(22, 0), (39, 1), (40, 99), (40, 611), (42, 1123), (43, 1156), (22, 1157), (44, 1158), (32, 1159), (45, 1160), (46, 1416), (47, 1424), (47, 1425), (48, 1426), (50, 1430), (50, 1463), (50, 1496)], 1529, 1760, (.tup [(.int .u64 0), (.tup [(.int .u64 0), (.int .u64 0), (.arr 1 32 (List.replicate 32 (.int .u8 0))), (.arr 1 32 (List.replicate 32 (.int .u8 0))), (.arr 1 32 (List.replicate 32 (.int .u8 0)))]), (.arr 32 16 (List.replicate 16 (.arr 1 32 (List.replicate 32 (.int .u8 0))))), (.arr 32 16 (List.replicate 16 (.arr 1 32 (List.replicate 32 (.int .u8 0))))), (.tup [(.arr 1 32 (List.replicate 32 (.int .u8 0))), (.int .u64 0)]), .nils, (.int .u64 0), .nils, .nils, (.arr 32 8 (List.replicate 8 (.arr 1 32 (List.replicate 32 (.int .u8 0))))), (.arr 1 8 (List.replicate 8 (.int .u64 0))), .nils, .nils, (.arr 1 4 (List.replicate 4 (.bool false))), (.tup [(.int .u64 0), (.arr 1 32 (List.replicate 32 (.int .u8 0)))]), (.tup [(.int .u64 0), (.arr 1 32 (List.replicate 32 (.int .u8 0)))]), (.tup [(.int .u64 0), (.arr 1 32 (List.replicate 32 (.int .u8 0)))])]), false⟩
def d_56 : TyD := ⟨.slice 5, 1, 24, .nils, false⟩
def d_62 : TyD := ⟨.struct [(24, 0), (24, 32), (22, 64), (4, 65), (22, 66), (22, 67), (22, 68), (22, 69)], 70, 112, (.tup [(.arr 1 32 (List.replicate 32 (.int .u8 0))), (.arr 1 32 (List.replicate 32 (.int .u8 0))), (.int .u64 0), (.bool false), (.int .u64 0), (.int .u64 0), (.int .u64 0), (.int .u64 0)]), true⟩
def d_64 : TyD := ⟨.int .u32, 1, 4, (.int .u32 0), true⟩
def d_65 : TyD := ⟨.array 8 64, 8, 32, (.arr 1 8 (List.replicate 8 (.int .u32 0))), true⟩
def d_67 : TyD := ⟨.ptr 65, 1, 8, .nilp, false⟩
def d_68 : TyD := ⟨.int .u64, 1, 8, (.int .u64 0), true⟩
def d_69 : TyD := ⟨.array 64 64, 64, 256, (.arr 1 64 (List.replicate 64 (.int .u32 0))), true⟩
def d_72 : TyD := ⟨.slice 64, 1, 24, .nils, false⟩
def d_89 : TyD := ⟨.struct [(22, 0), (22, 1), (24, 2), (50, 34), (50, 67)], 100, 128, (.tup [(.int .u64 0), (.int .u64 0), (.arr 1 32 (List.replicate 32 (.int .u8 0))), (.tup [(.int .u64 0), (.arr 1 32 (List.replicate 32 (.int .u8 0)))]), (.tup [(.int .u64 0), (.arr 1 32 (List.replicate 32 (.int .u8 0)))])]), true⟩
def d_91 : TyD := ⟨.struct [(36, 0), (89, 1), (22, 101), (22, 102)], 103, 168, (.tup [.nils, (.tup [(.int .u64 0), (.int .u64 0), (.arr 1 32 (List.replicate 32 (.int .u8 0))), (.tup [(.int .u64 0), (.arr 1 32 (List.replicate 32 (.int .u8 0)))]), (.tup [(.int .u64 0), (.arr 1 32 (List.replicate 32 (.int .u8 0)))])]), (.int .u64 0), (.int .u64 0)]), false⟩
def tys : List (Nat × TyD) := [(3, d_3), (4, d_4), (5, d_5), (22, d_22), (23, d_23), (24, d_24), (26, d_26), (32, d_32), (36, d_36), (39, d_39), (40, d_40), (42, d_42), (43, d_43), (44, d_44), (45, d_45), (46, d_46), (47, d_47), (48, d_48), (50, d_50), (52, d_52), (56, d_56), (62, d_62), (64, d_64), (65, d_65), (67, d_67), (68, d_68), (69, d_69), (72, d_72), (89, d_89), (91, d_91)]
def tyT : Nat → Option TyD := get tys
theorem tys_chk : (tys.all fun x => tyChk Tryd.prog x.1 x.2) = true := by kernel_rfl
theorem prog_mixed : Tryd.prog.follows .mixedOrders = true := by kernel_rfl
def w_3 (x : Int) : Prop := IntKind.min .i64 ≤ x ∧ x ≤ IntKind.max .i64
theorem y_3 : Tyo tyT 3 (T.int .i64) w_3 := tyo_int _ (i := d_3) rfl rfl
def w_4 (x : Bool) : Prop := True
theorem y_4 : Tyo tyT 4 T.bool w_4 := tyo_bool (i := d_4) rfl rfl
def w_5 (x : Int) : Prop := IntKind.min .u8 ≤ x ∧ x ≤ IntKind.max .u8
theorem y_5 : Tyo tyT 5 (T.int .u8) w_5 := tyo_int _ (i := d_5) rfl rfl
def w_22 (x : Int) : Prop := IntKind.min .u64 ≤ x ∧ x ≤ IntKind.max .u64
theorem y_22 : Tyo tyT 22 (T.int .u64) w_22 := tyo_int _ (i := d_22) rfl rfl
def w_23 (x : (Arr 32 Int)) : Prop := ∀ y ∈ x.l, w_5 y
theorem y_23 : Tyo tyT 23 (eA 1 (T.int .u8)) w_23 := tyo_arr (i := d_23) (j := d_5) rfl rfl rfl rfl y_5
def w_24 (x : (Arr 32 Int)) : Prop := ∀ y ∈ x.l, w_5 y
theorem y_24 : Tyo tyT 24 (eA 1 (T.int .u8)) w_24 := tyo_arr (i := d_24) (j := d_5) rfl rfl rfl rfl y_5
def w_26 (x : Int) : Prop := IntKind.min .i64 ≤ x ∧ x ≤ IntKind.max .i64
theorem y_26 : Tyo tyT 26 (T.int .i64) w_26 := tyo_int _ (i := d_26) rfl rfl
def w_32 (x : (List Int)) : Prop := x.length ≤ maxLen ∧ ∀ y ∈ x, w_22 y
theorem y_32 : Tyo tyT 32 (eS 1 (T.int .u64)) w_32 := tyo_slice (i := d_32) (j := d_22) rfl rfl rfl rfl y_22
def w_36 (x : (List Bool)) : Prop := x.length ≤ maxLen ∧ ∀ y ∈ x, w_4 y
theorem y_36 : Tyo tyT 36 (eS 1 T.bool) w_36 := tyo_slice (i := d_36) (j := d_4) rfl rfl rfl rfl y_4
def w_39 (x : GHeader) : Prop := w_22 x.Slot ∧ w_22 x.Proposer ∧ w_24 x.Parent ∧ w_24 x.State ∧ w_24 x.Body ∧ True
theorem y_39 : Tyo tyT 39 e_GHeader w_39 := by
  intro n v hv
  obtain ⟨m, l, rfl, h⟩ := typed_struct (i := d_39) rfl rfl hv
  obtain ⟨v0, l0, rfl, h0, k0⟩ := allT_cons h
  obtain ⟨a0, rfl, w0⟩ := y_22 m v0 h0
  obtain ⟨v1, l1, rfl, h1, k1⟩ := allT_cons k0
  obtain ⟨a1, rfl, w1⟩ := y_22 m v1 h1
  obtain ⟨v2, l2, rfl, h2, k2⟩ := allT_cons k1
  obtain ⟨a2, rfl, w2⟩ := y_24 m v2 h2
  obtain ⟨v3, l3, rfl, h3, k3⟩ := allT_cons k2
  obtain ⟨a3, rfl, w3⟩ := y_24 m v3 h3
  obtain ⟨v4, l4, rfl, h4, k4⟩ := allT_cons k3
  obtain ⟨a4, rfl, w4⟩ := y_24 m v4 h4
  obtain rfl := allT_nil k4
  exact ⟨⟨a0, a1, a2, a3, a4⟩, rfl, ⟨w0, w1, w2, w3, w4, trivial⟩⟩
def w_40 (x : (Arr 16 (Arr 32 Int))) : Prop := ∀ y ∈ x.l, w_24 y
theorem y_40 : Tyo tyT 40 (eA 32 (eA 1 (T.int .u8))) w_40 := tyo_arr (i := d_40) (j := d_24) rfl rfl rfl rfl y_24
def w_42 (x : GEth) : Prop := w_24 x.Deposits ∧ w_22 x.Count ∧ True
theorem y_42 : Tyo tyT 42 e_GEth w_42 := by
  intro n v hv
  obtain ⟨m, l, rfl, h⟩ := typed_struct (i := d_42) rfl rfl hv
  obtain ⟨v0, l0, rfl, h0, k0⟩ := allT_cons h
  obtain ⟨a0, rfl, w0⟩ := y_24 m v0 h0
  obtain ⟨v1, l1, rfl, h1, k1⟩ := allT_cons k0
  obtain ⟨a1, rfl, w1⟩ := y_22 m v1 h1
  obtain rfl := allT_nil k1
  exact ⟨⟨a0, a1⟩, rfl, ⟨w0, w1, trivial⟩⟩
def w_43 (x : (List GEth)) : Prop := x.length ≤ maxLen ∧ ∀ y ∈ x, w_42 y
theorem y_43 : Tyo tyT 43 (eS 33 e_GEth) w_43 := tyo_slice (i := d_43) (j := d_42) rfl rfl rfl rfl y_42
def w_62 (x : GValidator) : Prop := w_24 x.Key ∧ w_24 x.Cred ∧ w_22 x.Effective ∧ w_4 x.Slashed ∧ w_22 x.Eligible ∧ w_22 x.Active ∧ w_22 x.Exit ∧ w_22 x.Withdraw ∧ True
theorem y_62 : Tyo tyT 62 e_GValidator w_62 := by
  intro n v hv
  obtain ⟨m, l, rfl, h⟩ := typed_struct (i := d_62) rfl rfl hv
  obtain ⟨v0, l0, rfl, h0, k0⟩ := allT_cons h
  obtain ⟨a0, rfl, w0⟩ := y_24 m v0 h0
  obtain ⟨v1, l1, rfl, h1, k1⟩ := allT_cons k0
  obtain ⟨a1, rfl, w1⟩ := y_24 m v1 h1
  obtain ⟨v2, l2, rfl, h2, k2⟩ := allT_cons k1
  obtain ⟨a2, rfl, w2⟩ := y_22 m v2 h2
  obtain ⟨v3, l3, rfl, h3, k3⟩ := allT_cons k2
  obtain ⟨a3, rfl, w3⟩ := y_4 m v3 h3
  obtain ⟨v4, l4, rfl, h4, k4⟩ := allT_cons k3
  obtain ⟨a4, rfl, w4⟩ := y_22 m v4 h4
  obtain ⟨v5, l5, rfl, h5, k5⟩ := allT_cons k4
  obtain ⟨a5, rfl, w5⟩ := y_22 m v5 h5
  obtain ⟨v6, l6, rfl, h6, k6⟩ := allT_cons k5
  obtain ⟨a6, rfl, w6⟩ := y_22 m v6 h6
  obtain ⟨v7, l7, rfl, h7, k7⟩ := allT_cons k6
  obtain ⟨a7, rfl, w7⟩ := y_22 m v7 h7
  obtain rfl := allT_nil k7
  exact ⟨⟨a0, a1, a2, a3, a4, a5, a6, a7⟩, rfl, ⟨w0, w1, w2, w3, w4, w5, w6, w7, trivial⟩⟩
def w_44 (x : (List GValidator)) : Prop := x.length ≤ maxLen ∧ ∀ y ∈ x, w_62 y
theorem y_44 : Tyo tyT 44 (eS 70 e_GValidator) w_44 := tyo_slice (i := d_44) (j := d_62) rfl rfl rfl rfl y_62
def w_45 (x : (Arr 8 (Arr 32 Int))) : Prop := ∀ y ∈ x.l, w_24 y
theorem y_45 : Tyo tyT 45 (eA 32 (eA 1 (T.int .u8))) w_45 := tyo_arr (i := d_45) (j := d_24) rfl rfl rfl rfl y_24
def w_46 (x : (Arr 8 Int)) : Prop := ∀ y ∈ x.l, w_22 y
theorem y_46 : Tyo tyT 46 (eA 1 (T.int .u64)) w_46 := tyo_arr (i := d_46) (j := d_22) rfl rfl rfl rfl y_22
def w_50 (x : GCheckpoint) : Prop := w_22 x.Epoch ∧ w_24 x.Root ∧ True
theorem y_50 : Tyo tyT 50 e_GCheckpoint w_50 := by
  intro n v hv
  obtain ⟨m, l, rfl, h⟩ := typed_struct (i := d_50) rfl rfl hv
  obtain ⟨v0, l0, rfl, h0, k0⟩ := allT_cons h
  obtain ⟨a0, rfl, w0⟩ := y_22 m v0 h0
  obtain ⟨v1, l1, rfl, h1, k1⟩ := allT_cons k0
  obtain ⟨a1, rfl, w1⟩ := y_24 m v1 h1
  obtain rfl := allT_nil k1
  exact ⟨⟨a0, a1⟩, rfl, ⟨w0, w1, trivial⟩⟩
def w_89 (x : GVote) : Prop := w_22 x.Slot ∧ w_22 x.Index ∧ w_24 x.Block ∧ w_50 x.Source ∧ w_50 x.Target ∧ True
theorem y_89 : Tyo tyT 89 e_GVote w_89 := by
  intro n v hv
  obtain ⟨m, l, rfl, h⟩ := typed_struct (i := d_89) rfl rfl hv
  obtain ⟨v0, l0, rfl, h0, k0⟩ := allT_cons h
  obtain ⟨a0, rfl, w0⟩ := y_22 m v0 h0
  obtain ⟨v1, l1, rfl, h1, k1⟩ := allT_cons k0
  obtain ⟨a1, rfl, w1⟩ := y_22 m v1 h1
  obtain ⟨v2, l2, rfl, h2, k2⟩ := allT_cons k1
  obtain ⟨a2, rfl, w2⟩ := y_24 m v2 h2
  obtain ⟨v3, l3, rfl, h3, k3⟩ := allT_cons k2
  obtain ⟨a3, rfl, w3⟩ := y_50 m v3 h3
  obtain ⟨v4, l4, rfl, h4, k4⟩ := allT_cons k3
  obtain ⟨a4, rfl, w4⟩ := y_50 m v4 h4
  obtain rfl := allT_nil k4
  exact ⟨⟨a0, a1, a2, a3, a4⟩, rfl, ⟨w0, w1, w2, w3, w4, trivial⟩⟩
def w_91 (x : GPending) : Prop := w_36 x.Bits ∧ w_89 x.Data ∧ w_22 x.Delay ∧ w_22 x.Proposer ∧ True
theorem y_91 : Tyo tyT 91 e_GPending w_91 := by
  intro n v hv
  obtain ⟨m, l, rfl, h⟩ := typed_struct (i := d_91) rfl rfl hv
  obtain ⟨v0, l0, rfl, h0, k0⟩ := allT_cons h
  obtain ⟨a0, rfl, w0⟩ := y_36 m v0 h0
  obtain ⟨v1, l1, rfl, h1, k1⟩ := allT_cons k0
  obtain ⟨a1, rfl, w1⟩ := y_89 m v1 h1
  obtain ⟨v2, l2, rfl, h2, k2⟩ := allT_cons k1
  obtain ⟨a2, rfl, w2⟩ := y_22 m v2 h2
  obtain ⟨v3, l3, rfl, h3, k3⟩ := allT_cons k2
  obtain ⟨a3, rfl, w3⟩ := y_22 m v3 h3
  obtain rfl := allT_nil k3
  exact ⟨⟨a0, a1, a2, a3⟩, rfl, ⟨w0, w1, w2, w3, trivial⟩⟩
def w_47 (x : (List GPending)) : Prop := x.length ≤ maxLen ∧ ∀ y ∈ x, w_91 y
theorem y_47 : Tyo tyT 47 (eS 103 e_GPending) w_47 := tyo_slice (i := d_47) (j := d_91) rfl rfl rfl rfl y_91
def w_48 (x : (Arr 4 Bool)) : Prop := ∀ y ∈ x.l, w_4 y
theorem y_48 : Tyo tyT 48 (eA 1 T.bool) w_48 := tyo_arr (i := d_48) (j := d_4) rfl rfl rfl rfl y_4
def w_52 (x : GState) : Prop := w_22 x.Slot ∧ w_39 x.Header ∧ w_40 x.BlockRoots ∧ w_40 x.StateRoots ∧ w_42 x.Eth ∧ w_43 x.EthVotes ∧ w_22 x.Deposited ∧ w_44 x.Validators ∧ w_32 x.Balances ∧ w_45 x.Mixes ∧ w_46 x.Fines ∧ w_47 x.Previous ∧ w_47 x.Current ∧ w_48 x.Bits ∧ w_50 x.PreviousJust ∧ w_50 x.CurrentJust ∧ w_50 x.Finalized ∧ True
theorem y_52 : Tyo tyT 52 e_GState w_52 := by
  intro n v hv
  obtain ⟨m, l, rfl, h⟩ := typed_struct (i := d_52) rfl rfl hv
  obtain ⟨v0, l0, rfl, h0, k0⟩ := allT_cons h
  obtain ⟨a0, rfl, w0⟩ := y_22 m v0 h0
  obtain ⟨v1, l1, rfl, h1, k1⟩ := allT_cons k0
  obtain ⟨a1, rfl, w1⟩ := y_39 m v1 h1
  obtain ⟨v2, l2, rfl, h2, k2⟩ := allT_cons k1
  obtain ⟨a2, rfl, w2⟩ := y_40 m v2 h2
  obtain ⟨v3, l3, rfl, h3, k3⟩ := allT_cons k2
  obtain ⟨a3, rfl, w3⟩ := y_40 m v3 h3
  obtain ⟨v4, l4, rfl, h4, k4⟩ := allT_cons k3
  obtain ⟨a4, rfl, w4⟩ := y_42 m v4 h4
  obtain ⟨v5, l5, rfl, h5, k5⟩ := allT_cons k4
  obtain ⟨a5, rfl, w5⟩ := y_43 m v5 h5
  obtain ⟨v6, l6, rfl, h6, k6⟩ := allT_cons k5
  obtain ⟨a6, rfl, w6⟩ := y_22 m v6 h6
  obtain ⟨v7, l7, rfl, h7, k7⟩ := allT_cons k6
  obtain ⟨a7, rfl, w7⟩ := y_44 m v7 h7
  obtain ⟨v8, l8, rfl, h8, k8⟩ := allT_cons k7
  obtain ⟨a8, rfl, w8⟩ := y_32 m v8 h8
  obtain ⟨v9, l9, rfl, h9, k9⟩ := allT_cons k8
  obtain ⟨a9, rfl, w9⟩ := y_45 m v9 h9
  obtain ⟨v10, l10, rfl, h10, k10⟩ := allT_cons k9
  obtain ⟨a10, rfl, w10⟩ := y_46 m v10 h10
  obtain ⟨v11, l11, rfl, h11, k11⟩ := allT_cons k10
  obtain ⟨a11, rfl, w11⟩ := y_47 m v11 h11
  obtain ⟨v12, l12, rfl, h12, k12⟩ := allT_cons k11
  obtain ⟨a12, rfl, w12⟩ := y_47 m v12 h12
  obtain ⟨v13, l13, rfl, h13, k13⟩ := allT_cons k12
  obtain ⟨a13, rfl, w13⟩ := y_48 m v13 h13
  obtain ⟨v14, l14, rfl, h14, k14⟩ := allT_cons k13
  obtain ⟨a14, rfl, w14⟩ := y_50 m v14 h14
  obtain ⟨v15, l15, rfl, h15, k15⟩ := allT_cons k14
  obtain ⟨a15, rfl, w15⟩ := y_50 m v15 h15
  obtain ⟨v16, l16, rfl, h16, k16⟩ := allT_cons k15
  obtain ⟨a16, rfl, w16⟩ := y_50 m v16 h16
  obtain rfl := allT_nil k16
  exact ⟨⟨a0, a1, a2, a3, a4, a5, a6, a7, a8, a9, a10, a11, a12, a13, a14, a15, a16⟩, rfl, ⟨w0, w1, w2, w3, w4, w5, w6, w7, w8, w9, w10, w11, w12, w13, w14, w15, w16, trivial⟩⟩
def w_56 (x : (List Int)) : Prop := x.length ≤ maxLen ∧ ∀ y ∈ x, w_5 y
theorem y_56 : Tyo tyT 56 (eS 1 (T.int .u8)) w_56 := tyo_slice (i := d_56) (j := d_5) rfl rfl rfl rfl y_5
def w_64 (x : Int) : Prop := IntKind.min .u32 ≤ x ∧ x ≤ IntKind.max .u32
theorem y_64 : Tyo tyT 64 (T.int .u32) w_64 := tyo_int _ (i := d_64) rfl rfl
def w_65 (x : (Arr 8 Int)) : Prop := ∀ y ∈ x.l, w_64 y
theorem y_65 : Tyo tyT 65 (eA 1 (T.int .u32)) w_65 := tyo_arr (i := d_65) (j := d_64) rfl rfl rfl rfl y_64
def w_68 (x : Int) : Prop := IntKind.min .u64 ≤ x ∧ x ≤ IntKind.max .u64
theorem y_68 : Tyo tyT 68 (T.int .u64) w_68 := tyo_int _ (i := d_68) rfl rfl
def w_69 (x : (Arr 64 Int)) : Prop := ∀ y ∈ x.l, w_64 y
theorem y_69 : Tyo tyT 69 (eA 1 (T.int .u32)) w_69 := tyo_arr (i := d_69) (j := d_64) rfl rfl rfl rfl y_64
def w_72 (x : (List Int)) : Prop := x.length ≤ maxLen ∧ ∀ y ∈ x, w_64 y
theorem y_72 : Tyo tyT 72 (eS 1 (T.int .u32)) w_72 := tyo_slice (i := d_72) (j := d_64) rfl rfl rfl rfl y_64
end Go.Mg
